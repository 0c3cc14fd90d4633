/-
  Part 3 of a proof: what the code computes, and the law of it; put together by a program of ours (wip/decl.py) out of texts of ours.
-/
import Derived.Test.YtfbmoockopakjaaZMoveOne2
namespace Go.Proofs.Ytfbmoockopakjaa
open Go.RowKit
set_option linter.unusedVariables false
set_option linter.unusedSimpArgs false
set_option maxRecDepth 100000
set_option maxHeartbeats 4000000
theorem net_Order_c (p0:Net) (r:(List Int) × Int) (h:net_Order p0=some r):FnO Try.prog 105 [.agg [sL Qha p0.Nodes,iI p0.Rings,iI p0.Room]] (.tup [.ref 0,iI r.2]) [aR 3 1 encI r.1]:=by
  unfold net_Order at h
  refine Jka (N:=0) rfl Try.func105 rfl (by kernel_rfl) Try.ntmps105 rfl ?_
  show T _ _ _ _ (mkA 61 [(0,.agg [sL Qha p0.Nodes,iI p0.Rings,iI p0.Room])]) []
  refine T.seq (T.region (so (o_box (cs:=[sL Qha p0.Nodes,iI p0.Rings,iI p0.Room]) rfl rfl rfl (sa .nils rfl (sa (iI 0) rfl (RS.nil (T.seq ?_)))))))
  obtain ⟨x2,hx2,h⟩:=bind_some h
  refine T.region (so (Qea rfl rfl (Qqa Ty.k24 Ty.c24 rfl (cs:=[sL Qha p0.Nodes,iI p0.Rings,iI p0.Room]) rfl (so (Jia (as0:=[.agg [sL Qha p0.Nodes,iI p0.Rings,iI p0.Room]]) (as1:=[.agg [sL Qha p0.Nodes,iI p0.Rings,iI p0.Room]]) (caps:=[]) (aw1:=[.box [sL Qha p0.Nodes,iI p0.Rings,iI p0.Room]]) rfl rfl rfl (V5a (v:=.tup [.ref 0,iI x2.2]) (obs:=[aR 172 2 Jaa x2.1]) (v':=.tup [.ref 1,iI x2.2]) (net_look_c p0 x2 hx2) (⟨Qsa _ (Qka (⟨Qia J0a _,Qfa _ _,Qfa _ _,trivial⟩)),trivial⟩) rfl (Zia (Jza fun _=>rfl) Z1a) rfl rfl (sm (.tup [.ref 1,iI x2.2]) rfl (sq (Qwa (v:=.ref 1) rfl rfl (sq (Qwa (v:=iI x2.2) rfl rfl (so (Jxa Ty.z168 rfl rfl (so (Qma Ty.c168 Ty.i168 rfl (vs:=[.ref 1]) rfl rfl rfl rfl (cs':=[.ref 1]) rfl rfl (sa (iI x2.2) rfl (RS.nil ?_)))))))))))))))))
  refine T.seq (T.seq (T.region (sm (iI x2.2) rfl (sq (v_neq rfl rfl (RS.nil (T.cond (b:=x2.2 != 0) rfl (fun hb_1=>?_) (fun hb_1=>?_))))))))
  ·replace h:=ite_T h hb_1
   refine T.seq (T.region (sm (iI x2.2) rfl (sa .nils rfl (sa (iI x2.2) rfl (RS.nil (T.rt (Qna (v:=.nils) rfl (Qna (v:=iI x2.2) rfl (Qra ?_)))))))))
   exact J3a (.tup [.ref 0,iI r.2]) [(0,3,1)] [3] (by decide) (Qpa _) rfl (Vma ⟨Qta rfl,Qla (congrArg (fun r:(List Int) × Int=>r.2) (Option.some.inj h)).symm,trivial⟩) (Jma (en:=encI) (ys:=[]) rfl Jua (congrArg (fun r:(List Int) × Int=>r.1) (Option.some.inj h)).symm (Qva)) ⟨rfl,rfl⟩
  replace h:=ite_F h hb_1
  refine T.skip (T.seq (T.region (sa .nils rfl (RS.nil (T.seq ?_)))))
  obtain ⟨x4,hx4,h⟩:=bind_some h
  refine T.region (sq (Qca Ty.f24_0 rfl (off':=0) rfl (so (Qea rfl rfl (Qga Ty.k22 (c:=sL Qha p0.Nodes) rfl (sq (Q2a Ty.s22 rfl (so (o_mk (en:=encB) (zr:=false) Ty.s132 Ty.z4 rfl rfl hx4 rfl rfl (so (Jxa Ty.z132 rfl rfl (so (Qma Ty.c132 Ty.i132 rfl (vs:=[.ref 3]) rfl rfl rfl rfl (cs':=[.ref 3]) rfl rfl (RS.nil (T.seq (T.block ?_))))))))))))))))
  refine T.iter (fun ss_72:(List Int) × (List Bool)=>mkA 61 [(1,.ptr 0 0),(4,.ptr 1 0),(6,.ref 2),(7,.ptr 3 0)]) (fun ss_72=>[.box [sL Qha p0.Nodes,iI p0.Rings,iI p0.Room],.box [.ref 4],aR 3 1 encI ss_72.1,.box [.ref 5],aR 172 2 Jaa x2.1,aR 4 1 encB ss_72.2]) h (Weak.mkN [(6,3,1)] [0,2,5,4,1,3] (by decide) (Qpa _) rfl ⟨Qua rfl,Qua rfl,Qta rfl,Qua rfl,trivial⟩ (rw_bs [sL Qha p0.Nodes,iI p0.Rings,iI p0.Room] rfl (Joa (cs:=[.ref 4]) (ds:=[.ref 1]) rfl ⟨Qta rfl,trivial⟩ (Jma (en:=encI) (ys:=[]) rfl Jua rfl (Joa (cs:=[.ref 5]) (ds:=[.ref 3]) rfl ⟨Qta rfl,trivial⟩ (rw_ar rfl rfl (rw_ar rfl rfl (Qva)))))))) (fun ss_72 v_73 h hv_73=>?_)
  obtain ⟨s5,s6⟩:=ss_72
  replace h:Yja p0 x2 s5 s6=some v_73:=h
  try dsimp only
  unfold Yja at h
  refine T.seq (T.seq (T.region (sm (.ref 2) rfl (sq (Yga (en:=encI) Ty.s26 rfl rfl (sq (Qca Ty.f24_0 rfl (off':=0) rfl (so (Qea rfl rfl (Qga Ty.k22 (c:=sL Qha p0.Nodes) rfl (sq (Q2a Ty.s22 rfl (sq (v_lss rfl rfl (RS.nil ?_)))))))))))))))
  refine T.cond (b:=decide (((s5).length:Int)<((p0.Nodes).length:Int))) rfl (fun hb_74=>?_) (fun hb_74=>?_)
  ·replace h:=ite_T h hb_74
   refine T.skip (T.block (T.seq (T.region (sa (iI (-1)) rfl (RS.nil (T.join (Z:=Int) (fun zz_91=>mkA 61 [(1,.ptr 0 0),(4,.ptr 1 0),(6,.ref 2),(7,.ptr 3 0),(8,iI zz_91)]) (fun zz_91=>[.box [sL Qha p0.Nodes,iI p0.Rings,iI p0.Room],.box [.ref 4],aR 3 1 encI s5,.box [.ref 5],aR 172 2 Jaa x2.1,aR 4 1 encB s6]) (fun zz_91=>Y3a s5 s6 zz_91=some v_73) (fun zz_91 h=>?_) (fun hK1=>?_)))))))
   ·revert h;revert zz_91;intro z14 h
    replace h:Y3a s5 s6 z14=some v_73:=h
    try dsimp only
    unfold Y3a at h
    refine T.seq (T.seq (T.region (sm (iI z14) rfl (sq (v_lss rfl rfl (RS.nil (T.cond (b:=decide (z14<0)) rfl (fun hb_92=>?_) (fun hb_92=>?_))))))))
    ·replace h:=ite_T h hb_92
     refine T.seq (T.region (sa .nils rfl (sa (iI 7) rfl (RS.nil (T.rt ?_)))))
     obtain ⟨w_93,h,hw_93⟩:=Jja h
     replace h:=h.trans (congrArg some (hv_73 _ hw_93))
     refine Qna (v:=.nils) rfl (Qna (v:=iI 7) rfl (Qra ?_))
     exact J3a (.tup [.ref 0,iI r.2]) [(0,3,1)] [6] (by decide) (Qpa _) rfl (Vma ⟨Qta rfl,Qla (congrArg (fun r:(List Int) × Int=>r.2) (Option.some.inj h)).symm,trivial⟩) (Jma (en:=encI) (ys:=[]) rfl Jua (congrArg (fun r:(List Int) × Int=>r.1) (Option.some.inj h)).symm (Qva)) ⟨rfl,rfl⟩
    replace h:=ite_F h hb_92
    refine T.skip (T.seq ?_)
    obtain ⟨x17,hx17,h⟩:=bind_some h
    obtain ⟨x18,hx18,h⟩:=bind_some h
    refine T.region (so (Qea rfl rfl (Qga Ty.k132 (c:=.ref 5) rfl (sm (iI z14) rfl (sq (Q6a (en:=encB) Ty.s132 rfl rfl rfl hx17 (so (Z0a (en:=encB) (a:=x18) (a':=true) Ty.c4 Ty.i4 rfl (vs:=[.bool true]) rfl rfl rfl hx18 rfl rfl rfl (RS.nil ?_)))))))))
    obtain ⟨x19,hx19,h⟩:=bind_some h
    refine T.region (sm (.ref 2) rfl (sm (iI z14) rfl (so (Jqa (rows:=List.map encI [z14]) (vs:=[iI z14]) Ty.s26 Ty.z3 rfl rfl rfl rfl rfl rfl (so (Y2a (en:=encI) (xs:=s5) (ys:=([z14]:List Int)) Ty.s26 (fun _=>rfl) rfl rfl rfl hx19 rfl rfl (sa (.ref 7) rfl (RS.nil ?_))))))))
    exact ⟨(x19,(List.set s6 x17 true)),(Option.some.inj h).symm,Weak.mkN [] [0,1,7,3,4,5] (by decide) (Qpa _) rfl ⟨Qua rfl,Qua rfl,Qta rfl,Qua rfl,trivial⟩ (rw_bs [sL Qha p0.Nodes,iI p0.Rings,iI p0.Room] rfl (Joa (cs:=[.ref 4]) (ds:=[.ref 4]) rfl ⟨Qta rfl,trivial⟩ (rw_ar rfl rfl (Joa (cs:=[.ref 5]) (ds:=[.ref 5]) rfl ⟨Qta rfl,trivial⟩ (rw_ar rfl rfl (rw_ar rfl rfl (Qva)))))))⟩
   refine T.seq (T.region (sq (Qca Ty.f24_0 rfl (off':=0) rfl (so (Qea rfl rfl (Qga Ty.k22 (c:=sL Qha p0.Nodes) rfl (sq (Q2a Ty.s22 rfl (sm (iI 0) rfl (RS.nil (T.block (T.iter (fun ss_102:Int=>mkA 61 [(1,.ptr 0 0),(4,.ptr 1 0),(6,.ref 2),(7,.ptr 3 0),(8,iI (-1)),(30,sL Qha p0.Nodes),(31,iI ((p0.Nodes).length:Int)),(32,iI ss_102)]) (fun ss_102=>[.box [sL Qha p0.Nodes,iI p0.Rings,iI p0.Room],.box [.ref 4],aR 3 1 encI s5,.box [.ref 5],aR 172 2 Jaa x2.1,aR 4 1 encB s6]) h (Weak.mkN [] [0,1,2,3,4,5] (by decide) (Qpa _) rfl ⟨Qua rfl,Qua rfl,Qta rfl,Qua rfl,Qla rfl,rn_s rfl,Qla rfl,Qla rfl,trivial⟩ (rw_bs [sL Qha p0.Nodes,iI p0.Rings,iI p0.Room] rfl (Joa (cs:=[.ref 4]) (ds:=[.ref 4]) rfl ⟨Qta rfl,trivial⟩ (rw_ar rfl rfl (Joa (cs:=[.ref 5]) (ds:=[.ref 5]) rfl ⟨Qta rfl,trivial⟩ (rw_ar rfl rfl (rw_ar rfl rfl (Qva)))))))) (fun ss_102 v_103 h hv_103=>?_)))))))))))))
   revert hv_103 h;revert ss_102;intro s7 h hv_103
   replace h:Yha p0 x2 s5 s6 s7=some v_103:=h
   try dsimp only
   unfold Yha at h
   refine T.seq (T.region (sq (v_lss rfl rfl (RS.nil (T.seq (T.cond (b:=decide (s7<((p0.Nodes).length:Int))) rfl (fun hb_104=>?_) (fun hb_104=>?_)))))))
   ·replace h:=ite_T h hb_104
    refine T.skip (T.seq (T.block (T.seq ?_)))
    obtain ⟨x9,hx9,h⟩:=bind_some h
    refine T.region (sm (iI s7) rfl (sq (Q0a Ty.s22 (fun _=>rfl) rfl rfl hx9 (so (Q8a rfl (Qqa Ty.k40 Ty.c40 rfl (cs:=[iI x9.Kind,iI x9.A,sL encI x9.In,sL encI x9.Out]) rfl (so (Jxa Ty.z40 rfl rfl (sa (iI s7) rfl (so (Qma Ty.c40 Ty.i40 rfl (vs:=[iI x9.Kind,iI x9.A,sL encI x9.In,sL encI x9.Out]) rfl rfl rfl rfl (cs':=[iI x9.Kind,iI x9.A,sL encI x9.In,sL encI x9.Out]) rfl rfl (RS.nil ?_))))))))))))
    obtain ⟨x10,hx10,h⟩:=bind_some h
    obtain ⟨x11,hx11,h⟩:=bind_some h
    obtain ⟨zt_106,hz,h⟩:=bind_some h
    revert hz h;revert zt_106;intro c13 hz h
    refine T.join (Z:=Unit) (fun _=>mkA 61 [(1,.ptr 0 0),(4,.ptr 1 0),(6,.ref 2),(7,.ptr 3 0),(8,iI (-1)),(9,iI s7),(30,sL Qha p0.Nodes),(31,iI ((p0.Nodes).length:Int)),(32,iI s7),(48,.bool c13)]) (fun _=>[.box [sL Qha p0.Nodes,iI p0.Rings,iI p0.Room],.box [.ref 4],aR 3 1 encI s5,.box [.ref 5],aR 172 2 Jaa x2.1,aR 4 1 encB s6]) (fun _=>True) (fun _ _=>?_) (fun hK=>?_)
    ·refine T.cond (b:=c13) rfl (fun hb_107=>?_) (fun hb_107=>?_)
     ·replace h:=ite_T h hb_107
      refine T.seq (T.region (sm (iI s7) rfl (sa (iI s7) rfl (RS.nil (T.exit ?_)))))
      obtain ⟨w_108,h,hw_108⟩:=Jja h
      replace h:=h.trans (congrArg some (hv_103 _ hw_108))
      exact T.sub (hK1 s7 h) ⟨rfl,rfl,rfl,rfl,rfl,trivial⟩
     replace h:=ite_F h hb_107
     refine T.skip (T.region (sq (v_add rfl rfl (sm (iI (IntKind.i64.wrap (s7+1))) rfl (RS.nil ?_)))))
     exact ⟨IntKind.i64.wrap (s7+1),(Option.some.inj h).symm,Weak.mkN [] [0,1,2,3,4,5] (by decide) (Qpa _) rfl ⟨Qua rfl,Qua rfl,Qta rfl,Qua rfl,Qla rfl,rn_s rfl,Qla rfl,Qla rfl,trivial⟩ (rw_bs [sL Qha p0.Nodes,iI p0.Rings,iI p0.Room] rfl (Joa (cs:=[.ref 4]) (ds:=[.ref 4]) rfl ⟨Qta rfl,trivial⟩ (rw_ar rfl rfl (Joa (cs:=[.ref 5]) (ds:=[.ref 5]) rfl ⟨Qta rfl,trivial⟩ (rw_ar rfl rfl (rw_ar rfl rfl (Qva)))))))⟩
    refine T.region (so (Qea rfl rfl (Qga Ty.k132 (c:=.ref 5) rfl (sm (iI s7) rfl (sq (Q6a (en:=encB) Ty.s132 rfl rfl rfl hx10 (so (Jga (en:=encB) (a:=x11) rfl rfl hx11 (Qga Ty.k4 (c:=.bool x11) rfl (sq (v_not rfl (sm (.bool (!x11)) rfl ?_))))))))))))
    rcases Q3a (!x11) with hb_105 | hb_105
    ·replace hz:=ite_T hz hb_105
     obtain ⟨x12,hx12,hz⟩:=bind_some hz
     refine yq hb_105 (Qca Ty.f40_2 rfl (off':=2) rfl (yo hb_105 (Qea rfl rfl (Qga Ty.k26 (c:=sL encI x9.In) rfl (yq hb_105 (v_makeFunc (cs:=[.ptr 3 0,.ptr 1 0]) rfl (yo hb_105 (Vva (ac:=[sL encI x9.In,.func 125 [.ptr 3 0,.ptr 1 0]]) (as0:=[sL encI x9.In,.func 125 [.ptr 0 0,.ptr 1 0]]) (aw0:=[.box [.ref 2],.box [.ref 3],aR 4 1 encB s6,aR 172 2 Jaa x2.1]) (aw1:=[.box [.ref 2],.box [.ref 3],aR 4 1 encB s6,aR 172 2 Jaa x2.1]) (aw2:=[.box [sL Qha p0.Nodes,iI p0.Rings,iI p0.Room],.box [.ref 4],aR 3 1 encI s5,.box [.ref 5],aR 172 2 Jaa x2.1,aR 4 1 encB s6,.box [iI x9.Kind,iI x9.A,sL encI x9.In,sL encI x9.Out]]) (v:=.bool x12) (v':=.bool x12) (n0:=7) (n1:=4) [3,1,5,4] rfl rfl rfl rfl (by decide) (Joa (cs:=[.ref 2]) (ds:=[.ref 5]) rfl ⟨Qta rfl,trivial⟩ (Joa (cs:=[.ref 3]) (ds:=[.ref 4]) rfl ⟨Qta rfl,trivial⟩ (Jma rfl encB_p rfl (Jma rfl Zea rfl (Qva))))) ⟨rn_s rfl,Zta ⟨Qua rfl,Qua rfl,trivial⟩,trivial⟩ (slices_ContainsFunc_int_x5d6b_c x9.In s6 x2.1 x12 hx12) rfl (Jla (Jba _)) ⟨.inr ⟨rfl,rfl⟩,.inl ⟨1,_,by decide,rfl,V0a (cs:=[.ref 4]) (ds:=[.ref 3]) ⟨Vca (by decide),trivial⟩⟩,.inr ⟨rfl,rfl⟩,.inl ⟨0,_,by decide,rfl,V0a (cs:=[.ref 5]) (ds:=[.ref 2]) ⟨Vca (by decide),trivial⟩⟩,.inl ⟨3,_,by decide,rfl,Zma Zea⟩,.inl ⟨2,_,by decide,rfl,Zma encB_p⟩,.inr ⟨rfl,rfl⟩,trivial⟩ (yq hb_105 (v_not rfl (sq (Jea (v:=.bool (!x12)) rfl hb_105 rfl (RS.nil ?_)))))))))))))
     exact T.weakR (hK () trivial) (Weak.mkN [] [0,1,2,3,4,5] (by decide) (Qpa _) rfl ⟨Qua rfl,Qua rfl,Qta rfl,Qua rfl,Qla rfl,Qla rfl,rn_s rfl,Qla rfl,Qla rfl,Jwa ((congrArg (fun p=>p) (Option.some.inj hz)).symm),trivial⟩ (rw_bs [sL Qha p0.Nodes,iI p0.Rings,iI p0.Room] rfl (Joa (cs:=[.ref 4]) (ds:=[.ref 4]) rfl ⟨Qta rfl,trivial⟩ (rw_ar rfl rfl (Joa (cs:=[.ref 5]) (ds:=[.ref 5]) rfl ⟨Qta rfl,trivial⟩ (rw_ar rfl rfl (rw_ar rfl rfl (Qva))))))))
    replace hz:=ite_F hz hb_105
    refine sn hb_105 (sn hb_105 (sn hb_105 (sn hb_105 (sn hb_105 (sq (Q5a (v:=.bool false) rfl hb_105 rfl (RS.nil ?_)))))))
    exact T.weakR (hK () trivial) (Weak.mkN [] [0,1,2,3,4,5] (by decide) (Qpa _) rfl ⟨Qua rfl,Qua rfl,Qta rfl,Qua rfl,Qla rfl,Qla rfl,rn_s rfl,Qla rfl,Qla rfl,Jwa ((congrArg (fun p=>p) (Option.some.inj hz)).symm),trivial⟩ (rw_bs [sL Qha p0.Nodes,iI p0.Rings,iI p0.Room] rfl (Joa (cs:=[.ref 4]) (ds:=[.ref 4]) rfl ⟨Qta rfl,trivial⟩ (rw_ar rfl rfl (Joa (cs:=[.ref 5]) (ds:=[.ref 5]) rfl ⟨Qta rfl,trivial⟩ (rw_ar rfl rfl (rw_ar rfl rfl (Qva))))))))
   replace h:=ite_F h hb_104
   refine T.exit ?_
   obtain ⟨w_109,h,hw_109⟩:=Jja h
   replace h:=h.trans (congrArg some (hv_103 _ hw_109))
   exact T.sub (hK1 (-1) h) ⟨rfl,rfl,rfl,rfl,rfl,trivial⟩
  replace h:=ite_F h hb_74
  refine T.exit ?_
  obtain ⟨w_110,h,hw_110⟩:=Jja h
  replace h:=h.trans (congrArg some (hv_73 _ hw_110))
  refine T.seq (T.region (sm (.ref 2) rfl (sa (.ref 2) rfl (sa (iI 0) rfl (RS.nil (T.rt (Qna (v:=.ref 2) rfl (Qna (v:=iI 0) rfl (Qra ?_)))))))))
  exact J3a (.tup [.ref 0,iI r.2]) [] [2] (by decide) (Qpa _) rfl (Vma ⟨Qta rfl,Qla (congrArg (fun r:(List Int) × Int=>r.2) (Option.some.inj h)).symm,trivial⟩) (Jma rfl Jua (congrArg (fun r:(List Int) × Int=>r.1) (Option.some.inj h)).symm (Qva)) ⟨rfl,rfl⟩
theorem net_Check_c (p0:Net) (r:Int) (h:net_Check p0=some r):Fn Try.prog 75 [.agg [sL Qha p0.Nodes,iI p0.Rings,iI p0.Room]] (iI r):=by
  unfold net_Check at h
  refine Jka (N:=0) rfl Try.func75 rfl (by kernel_rfl) Try.ntmps75 rfl ?_
  show T _ _ _ _ (mkA 11 [(0,.agg [sL Qha p0.Nodes,iI p0.Rings,iI p0.Room])]) []
  refine T.seq (T.region (so (o_box (cs:=[sL Qha p0.Nodes,iI p0.Rings,iI p0.Room]) rfl rfl rfl (sa (iI 0) rfl (RS.nil (T.seq ?_))))))
  obtain ⟨x2,hx2,h⟩:=bind_some h
  refine T.region (so (Qea rfl rfl (Qqa Ty.k24 Ty.c24 rfl (cs:=[sL Qha p0.Nodes,iI p0.Rings,iI p0.Room]) rfl (so (Jia (as0:=[.agg [sL Qha p0.Nodes,iI p0.Rings,iI p0.Room]]) (as1:=[.agg [sL Qha p0.Nodes,iI p0.Rings,iI p0.Room]]) (caps:=[]) (aw1:=[.box [sL Qha p0.Nodes,iI p0.Rings,iI p0.Room]]) rfl rfl rfl (V5a (v:=.tup [.ref 0,iI x2.2]) (obs:=[aR 3 1 encI x2.1]) (v':=.tup [.ref 1,iI x2.2]) (net_Order_c p0 x2 hx2) (⟨Qsa _ (Qka (⟨Qia J0a _,Qfa _ _,Qfa _ _,trivial⟩)),trivial⟩) rfl (Zia (Jza fun _=>rfl) Z1a) rfl rfl (sm (.tup [.ref 1,iI x2.2]) rfl (sq (Qwa (v:=.ref 1) rfl rfl (sq (Qwa (v:=iI x2.2) rfl rfl (sa (.ref 1) rfl (sa (iI x2.2) rfl (RS.nil (T.seq ?_)))))))))))))))
  refine T.region (sm (iI x2.2) rfl (sa (iI x2.2) rfl (RS.nil (T.rt (Qna (v:=iI x2.2) rfl (Qra ?_))))))
  exact Qya (v:=iI x2.2) rfl (Qfa _ _) ⟨congrArg (fun r:Int=>(iI r:AV)) (Option.some.inj h),rfl⟩
theorem net_Sources_c (p0:Net) (p1:List (List Item)) (r:Int) (h:net_Sources p0 p1=some r):Fn Try.prog 57 [.agg [sL Qha p0.Nodes,iI p0.Rings,iI p0.Room],sL (encL Qaa) p1] (iI r):=by
  unfold net_Sources at h
  refine Jka (N:=0) rfl Try.func57 rfl (by kernel_rfl) Try.ntmps57 rfl ?_
  show T _ _ _ _ (mkA 69 [(0,.agg [sL Qha p0.Nodes,iI p0.Rings,iI p0.Room]),(1,sL (encL Qaa) p1)]) []
  refine T.seq (T.region (so (o_box (cs:=[sL Qha p0.Nodes,iI p0.Rings,iI p0.Room]) rfl rfl rfl (sa (iI 0) rfl (RS.nil (T.seq (T.seq ?_)))))))
  obtain ⟨x2,hx2,h⟩:=bind_some h
  refine T.region (so (Qea rfl rfl (Qqa Ty.k24 Ty.c24 rfl (cs:=[sL Qha p0.Nodes,iI p0.Rings,iI p0.Room]) rfl (so (Jia (as0:=[.agg [sL Qha p0.Nodes,iI p0.Rings,iI p0.Room]]) (as1:=[.agg [sL Qha p0.Nodes,iI p0.Rings,iI p0.Room]]) (caps:=[]) (aw1:=[.box [sL Qha p0.Nodes,iI p0.Rings,iI p0.Room]]) rfl rfl rfl (Zja (v:=iI x2) (net_Check_c p0 x2 hx2) (⟨Qsa _ (Qka (⟨Qia J0a _,Qfa _ _,Qfa _ _,trivial⟩)),trivial⟩) rfl (sa (iI x2) rfl (RS.nil (T.seq (T.region (sm (iI x2) rfl (sq (v_neq rfl rfl (RS.nil ?_))))))))))))))
  refine T.cond (b:=x2 != 0) rfl (fun hb_1=>?_) (fun hb_1=>?_)
  ·replace h:=ite_T h hb_1
   refine T.seq (T.region (sm (iI x2) rfl (sa (iI x2) rfl (RS.nil (T.rt (Qna (v:=iI x2) rfl (Qra ?_)))))))
   exact Qya (v:=iI x2) rfl (Qfa _ _) ⟨congrArg (fun r:Int=>(iI r:AV)) (Option.some.inj h),rfl⟩
  replace h:=ite_F h hb_1
  refine T.skip (T.seq (T.seq (T.region (sm (sL (encL Qaa) p1) rfl (sq (Q2a Ty.s25 rfl (sq (v_gtr rfl rfl (RS.nil (T.cond (b:=decide (((p1).length:Int) > 4)) rfl (fun hb_2=>?_) (fun hb_2=>?_)))))))))))
  ·replace h:=ite_T h hb_2
   refine T.seq (T.region (sa (iI 2) rfl (RS.nil (T.rt (Qna (v:=iI 2) rfl (Qra ?_))))))
   exact Qya (v:=iI 2) rfl (Qfa _ _) ⟨congrArg (fun r:Int=>(iI r:AV)) (Option.some.inj h),rfl⟩
  replace h:=ite_F h hb_2
  refine T.skip (T.seq (T.seq (T.region (sm (sL (encL Qaa) p1) rfl (sq (Q2a Ty.s25 rfl (sm (iI 0) rfl (RS.nil (T.block (T.iter (fun ss_27:Int=>mkA 69 [(1,sL (encL Qaa) p1),(2,.ptr 0 0),(21,sL (encL Qaa) p1),(22,iI ((p1).length:Int)),(23,iI ss_27)]) (fun ss_27=>[.box [sL Qha p0.Nodes,iI p0.Rings,iI p0.Room]]) h (Weak.mkN [] [0] (by decide) (Qpa _) rfl ⟨rn_s rfl,Qua rfl,rn_s rfl,Qla rfl,Qla rfl,trivial⟩ (rw_bs [sL Qha p0.Nodes,iI p0.Rings,iI p0.Room] rfl (Qva))) (fun ss_27 v_28 h hv_28=>?_)))))))))))
  revert hv_28 h;revert ss_27;intro s3 h hv_28
  replace h:Yya p0 p1 s3=some v_28:=h
  try dsimp only
  unfold Yya at h
  refine T.seq (T.region (sq (v_lss rfl rfl (RS.nil (T.seq (T.cond (b:=decide (s3<((p1).length:Int))) rfl (fun hb_29=>?_) (fun hb_29=>?_)))))))
  ·replace h:=ite_T h hb_29
   refine T.skip (T.seq (T.block (T.seq ?_)))
   obtain ⟨x5,hx5,h⟩:=bind_some h
   refine T.region (sq (Q0a Ty.s25 (fun _=>rfl) rfl rfl hx5 (so (Q8a rfl (Qga Ty.k29 (c:=sL Qaa x5) rfl (sa (sL Qaa x5) rfl (RS.nil (T.seq (T.seq (T.region (sm (sL Qaa x5) rfl (sq (Q2a Ty.s29 rfl ?_)))))))))))))
   refine sq (v_gtr rfl rfl (RS.nil (T.cond (b:=decide (((x5).length:Int) > 20)) rfl (fun hb_30=>?_) (fun hb_30=>?_))))
   ·replace h:=ite_T h hb_30
    refine T.seq (T.region (sa (iI 2) rfl (RS.nil (T.rt ?_))))
    obtain ⟨w_31,h,hw_31⟩:=Jja h
    replace h:=h.trans (congrArg some (hv_28 _ hw_31))
    refine Qna (v:=iI 2) rfl (Qra ?_)
    exact Qya (v:=iI 2) rfl (Qfa _ _) ⟨congrArg (fun r:Int=>(iI r:AV)) (Option.some.inj h),rfl⟩
   replace h:=ite_F h hb_30
   refine T.skip (T.seq (T.region (sm (sL Qaa x5) rfl (sq (Q2a Ty.s29 rfl (sm (iI 0) rfl (RS.nil (T.block (T.iter (fun ss_36:Int=>mkA 69 [(1,sL (encL Qaa) p1),(2,.ptr 0 0),(21,sL (encL Qaa) p1),(22,iI ((p1).length:Int)),(23,iI s3),(30,sL Qaa x5),(31,iI ((x5).length:Int)),(32,iI ss_36)]) (fun ss_36=>[.box [sL Qha p0.Nodes,iI p0.Rings,iI p0.Room]]) h (Weak.mkN [] [0] (by decide) (Qpa _) rfl ⟨rn_s rfl,Qua rfl,rn_s rfl,Qla rfl,Qla rfl,rn_s rfl,Qla rfl,Qla rfl,trivial⟩ (rw_bs [sL Qha p0.Nodes,iI p0.Rings,iI p0.Room] rfl (Qva))) (fun ss_36 v_37 h hv_37=>?_))))))))))
   revert hv_37 h;revert ss_36;intro s6 h hv_37
   replace h:Ywa s3 x5 s6=some v_37:=h
   try dsimp only
   unfold Ywa at h
   refine T.seq (T.region (sq (v_lss rfl rfl (RS.nil (T.seq (T.cond (b:=decide (s6<((x5).length:Int))) rfl (fun hb_38=>?_) (fun hb_38=>?_)))))))
   ·replace h:=ite_T h hb_38
    refine T.skip (T.seq (T.block (T.seq ?_)))
    obtain ⟨x8,hx8,h⟩:=bind_some h
    refine T.region (sq (Q0a Ty.s29 (fun _=>rfl) rfl rfl hx8 (so (Q8a rfl (Qqa Ty.k46 Ty.c46 rfl (cs:=[iI x8.Key,iI x8.Val,iI x8.Dep]) rfl (so (Jxa Ty.z46 rfl rfl (so (Qma Ty.c46 Ty.i46 rfl (vs:=[iI x8.Key,iI x8.Val,iI x8.Dep]) rfl rfl rfl rfl (cs':=[iI x8.Key,iI x8.Val,iI x8.Dep]) rfl rfl (RS.nil (T.seq (T.region (sq (Qca Ty.f46_2 rfl (off':=2) rfl (so (Qea rfl rfl (Qga Ty.k3 (c:=iI x8.Dep) rfl ?_)))))))))))))))))
    refine sq (v_neq rfl rfl (RS.nil (T.cond (b:=x8.Dep != 0) rfl (fun hb_39=>?_) (fun hb_39=>?_))))
    ·replace h:=ite_T h hb_39
     refine T.seq (T.region (sa (iI 4) rfl (RS.nil (T.rt ?_))))
     obtain ⟨w_40,h,hw_40⟩:=Jja h
     replace h:=h.trans (congrArg some (hv_37 _ hw_40))
     obtain ⟨w_41,h,hw_41⟩:=Jja h
     replace h:=h.trans (congrArg some (hv_28 _ hw_41))
     refine Qna (v:=iI 4) rfl (Qra ?_)
     exact Qya (v:=iI 4) rfl (Qfa _ _) ⟨congrArg (fun r:Int=>(iI r:AV)) (Option.some.inj h),rfl⟩
    replace h:=ite_F h hb_39
    refine T.skip (T.region (sq (v_add rfl rfl (sm (iI (IntKind.i64.wrap (s6+1))) rfl (RS.nil ?_)))))
    exact ⟨IntKind.i64.wrap (s6+1),(Option.some.inj h).symm,Weak.mkN [] [0] (by decide) (Qpa _) rfl ⟨rn_s rfl,Qua rfl,rn_s rfl,Qla rfl,Qla rfl,rn_s rfl,Qla rfl,Qla rfl,trivial⟩ (rw_bs [sL Qha p0.Nodes,iI p0.Rings,iI p0.Room] rfl (Qva))⟩
   replace h:=ite_F h hb_38
   refine T.exit ?_
   obtain ⟨w_42,h,hw_42⟩:=Jja h
   replace h:=h.trans (congrArg some (hv_37 _ hw_42))
   refine T.region (sq (v_add rfl rfl (sm (iI (IntKind.i64.wrap (s3+1))) rfl (RS.nil ?_))))
   exact ⟨IntKind.i64.wrap (s3+1),(Option.some.inj h).symm,Weak.mkN [] [0] (by decide) (Qpa _) rfl ⟨rn_s rfl,Qua rfl,rn_s rfl,Qla rfl,Qla rfl,trivial⟩ (rw_bs [sL Qha p0.Nodes,iI p0.Rings,iI p0.Room] rfl (Qva))⟩
  replace h:=ite_F h hb_29
  refine T.exit ?_
  obtain ⟨w_43,h,hw_43⟩:=Jja h
  replace h:=h.trans (congrArg some (hv_28 _ hw_43))
  refine T.seq ?_
  obtain ⟨x10,hx10,h⟩:=bind_some h
  refine T.region (sm (sL (encL Qaa) p1) rfl (sq (Q2a Ty.s25 rfl (so (o_mk (en:=encB) (zr:=false) Ty.s132 Ty.z4 rfl rfl hx10 rfl rfl (sa (.ref 1) rfl (RS.nil (T.seq (T.seq (T.region (sq (Qca Ty.f24_0 rfl (off':=0) rfl ?_))))))))))))
  refine so (Qea rfl rfl (Qga Ty.k22 (c:=sL Qha p0.Nodes) rfl (sq (Q2a Ty.s22 rfl (sm (iI 0) rfl (RS.nil (T.block (T.iter (fun ss_52:Int × (List Bool)=>mkA 69 [(1,sL (encL Qaa) p1),(10,.ref 0),(45,sL Qha p0.Nodes),(46,iI ((p0.Nodes).length:Int)),(47,iI ss_52.1)]) (fun ss_52=>[aR 4 1 encB ss_52.2]) h (Weak.mkN [] [1] (by decide) (Qpa _) rfl ⟨rn_s rfl,Qta rfl,rn_s rfl,Qla rfl,Qla rfl,trivial⟩ (rw_ar rfl rfl (Qva))) (fun ss_52 v_53 h hv_53=>?_)))))))))
  obtain ⟨s11,s12⟩:=ss_52
  replace h:Vpa p0 p1 s11 s12=some v_53:=h
  try dsimp only
  unfold Vpa at h
  refine T.seq (T.region (sq (v_lss rfl rfl (RS.nil (T.seq (T.cond (b:=decide (s11<((p0.Nodes).length:Int))) rfl (fun hb_54=>?_) (fun hb_54=>?_)))))))
  ·replace h:=ite_T h hb_54
   refine T.skip (T.seq (T.block (T.seq ?_)))
   obtain ⟨x14,hx14,h⟩:=bind_some h
   refine T.region (sq (Q0a Ty.s22 (fun _=>rfl) rfl rfl hx14 (so (Q8a rfl (Qqa Ty.k40 Ty.c40 rfl (cs:=[iI x14.Kind,iI x14.A,sL encI x14.In,sL encI x14.Out]) rfl (so (Jxa Ty.z40 rfl rfl (so (Qma Ty.c40 Ty.i40 rfl (vs:=[iI x14.Kind,iI x14.A,sL encI x14.In,sL encI x14.Out]) rfl rfl rfl rfl (cs':=[iI x14.Kind,iI x14.A,sL encI x14.In,sL encI x14.Out]) rfl rfl (RS.nil (T.seq (T.seq (T.region (sq (Qca Ty.f40_0 rfl (off':=0) rfl ?_)))))))))))))))
   refine so (Qea rfl rfl (Qga Ty.k3 (c:=iI x14.Kind) rfl (sq (v_neq rfl rfl (RS.nil (T.cond (b:=x14.Kind != 1) rfl (fun hb_55=>?_) (fun hb_55=>?_)))))))
   ·replace h:=ite_T h hb_55
    refine T.exit (T.region (sq (v_add rfl rfl (sm (iI (IntKind.i64.wrap (s11+1))) rfl (RS.nil ?_)))))
    exact ⟨(IntKind.i64.wrap (s11+1),s12),(Option.some.inj h).symm,Weak.mkN [] [0] (by decide) (Qpa _) rfl ⟨rn_s rfl,Qta rfl,rn_s rfl,Qla rfl,Qla rfl,trivial⟩ (rw_ar rfl rfl (Qva))⟩
   replace h:=ite_F h hb_55
   refine T.skip (T.seq (T.seq (T.region (sq (Qca Ty.f40_1 rfl (off':=1) rfl (so (Qea rfl rfl (Qga Ty.k3 (c:=iI x14.A) rfl (sm (sL (encL Qaa) p1) rfl (sq (Q2a Ty.s25 rfl (sq (v_geq rfl rfl (RS.nil ?_))))))))))))))
   refine T.cond (b:=decide (x14.A ≥ ((p1).length:Int))) rfl (fun hb_56=>?_) (fun hb_56=>?_)
   ·replace h:=ite_T h hb_56
    refine T.seq (T.region (sa (iI 5) rfl (RS.nil (T.rt ?_))))
    obtain ⟨w_57,h,hw_57⟩:=Jja h
    replace h:=h.trans (congrArg some (hv_53 _ hw_57))
    refine Qna (v:=iI 5) rfl (Qra ?_)
    exact Qya (v:=iI 5) rfl (Qfa _ _) ⟨congrArg (fun r:Int=>(iI r:AV)) (Option.some.inj h),rfl⟩
   replace h:=ite_F h hb_56
   refine T.skip (T.seq (T.seq ?_))
   obtain ⟨x17,hx17,h⟩:=bind_some h
   obtain ⟨x18,hx18,h⟩:=bind_some h
   refine T.region (sm (.ref 0) rfl (sq (Qca Ty.f40_1 rfl (off':=1) rfl (so (Qea rfl rfl (Qga Ty.k3 (c:=iI x14.A) rfl (sq (Q6a (en:=encB) Ty.s132 rfl rfl rfl hx17 (so (Jga (en:=encB) (a:=x18) rfl rfl hx18 (Qga Ty.k4 (c:=.bool x18) rfl (RS.nil (T.cond (b:=x18) rfl (fun hb_58=>?_) (fun hb_58=>?_))))))))))))))
   ·replace h:=ite_T h hb_58
    refine T.seq (T.region (sa (iI 6) rfl (RS.nil (T.rt ?_))))
    obtain ⟨w_59,h,hw_59⟩:=Jja h
    replace h:=h.trans (congrArg some (hv_53 _ hw_59))
    refine Qna (v:=iI 6) rfl (Qra ?_)
    exact Qya (v:=iI 6) rfl (Qfa _ _) ⟨congrArg (fun r:Int=>(iI r:AV)) (Option.some.inj h),rfl⟩
   replace h:=ite_F h hb_58
   refine T.skip ?_
   obtain ⟨x19,hx19,h⟩:=bind_some h
   obtain ⟨x20,hx20,h⟩:=bind_some h
   refine T.region (sm (.ref 0) rfl (sq (Qca Ty.f40_1 rfl (off':=1) rfl (so (Qea rfl rfl (Qga Ty.k3 (c:=iI x14.A) rfl (sq (Q6a (en:=encB) Ty.s132 rfl rfl rfl hx19 (so (Z0a (en:=encB) (a:=x20) (a':=true) Ty.c4 Ty.i4 rfl (vs:=[.bool true]) rfl rfl rfl hx20 rfl rfl rfl (RS.nil (T.region (sq (v_add rfl rfl (sm (iI (IntKind.i64.wrap (s11+1))) rfl ?_)))))))))))))))
   refine RS.nil ?_
   exact ⟨(IntKind.i64.wrap (s11+1),(List.set s12 x19 true)),(Option.some.inj h).symm,Weak.mkN [] [0] (by decide) (Qpa _) rfl ⟨rn_s rfl,Qta rfl,rn_s rfl,Qla rfl,Qla rfl,trivial⟩ (rw_ar rfl rfl (Qva))⟩
  replace h:=ite_F h hb_54
  refine T.exit ?_
  obtain ⟨w_60,h,hw_60⟩:=Jja h
  replace h:=h.trans (congrArg some (hv_53 _ hw_60))
  refine T.seq (T.region (sa (iI 0) rfl (RS.nil (T.rt (Qna (v:=iI 0) rfl (Qra ?_))))))
  exact Qya (v:=iI 0) rfl (Qfa _ _) ⟨congrArg (fun r:Int=>(iI r:AV)) (Option.some.inj h),rfl⟩
theorem move_start_c (p0:Net) (p1:List (List Item)) (r:State) (h:move_start p0 p1=some r):FnO Try.prog 81 [.agg [sL Qha p0.Nodes,iI p0.Rings,iI p0.Room],sL (encL Qaa) p1] (.agg [.ref 0,.ref 1,.ref 2,.ref 3,.ref 4]) [aR 3 1 encI r.At,aR 29 1 (encL Qaa) r.Rings,aR 66 3 Qba r.Memory,aR 94 2 Qda r.Choices,aR 46 3 Qaa r.Out]:=by
  unfold move_start at h
  refine Jka (N:=0) rfl Try.func81 rfl (by kernel_rfl) Try.ntmps81 rfl ?_
  show T _ _ _ _ (mkA 16 [(0,.agg [sL Qha p0.Nodes,iI p0.Rings,iI p0.Room]),(1,sL (encL Qaa) p1)]) []
  refine T.seq (T.region (so (o_box (cs:=[sL Qha p0.Nodes,iI p0.Rings,iI p0.Room]) rfl rfl rfl (so (Jxa Ty.z31 rfl rfl (RS.nil (T.seq ?_)))))))
  obtain ⟨x4,hx4,h⟩:=bind_some h
  obtain ⟨x5,hx5,h⟩:=bind_some h
  obtain ⟨x6,hx6,h⟩:=bind_some h
  refine T.drawn mixed (k:=12) rfl ?_
  let l13:List (Nat × AV):=[(0,.agg [sL Qha p0.Nodes,iI p0.Rings,iI p0.Room]),(1,sL (encL Qaa) p1),(2,.ptr 0 0),(4,.ptr 1 0)]
  let a13:List Ob:=[.box [sL Qha p0.Nodes,iI p0.Rings,iI p0.Room],.box [.nils,.nils,.nils,.nils,.nils]]
  refine RA.join 1 #[true,true,true,true,true,true,true,true,true,true,true,false] (mkA 16 ((5,sL (encL Qaa) p1)::(6,iI ((p1).length:Int))::(7,.ref 4)::(8,.ptr 0 1)::(9,iI p0.Rings)::(10,.ref 3)::(11,.ptr 0 0)::(12,sL Qha p0.Nodes)::(13,iI ((p0.Nodes).length:Int))::(14,.ref 2)::(15,.agg [.ref 4,.ref 3,.ref 2,.nils,.nils])::l13)) [.box [sL Qha p0.Nodes,iI p0.Rings,iI p0.Room],.box [.nils,.nils,.nils,.nils,.nils],aR 66 3 Qba x6,aR 29 1 (encL Qaa) x5,aR 3 1 encI x4] ?_ (fun hS1=>?_)
  ·refine ra1 11 (RO.op rfl rfl (Qma Ty.c31 Ty.i31 rfl (vs:=[.ref 4,.ref 3,.ref 2,.nils,.nils]) rfl rfl rfl rfl (cs':=[.ref 4,.ref 3,.ref 2,.nils,.nils]) rfl rfl (RA.done (by decide +kernel) (T.nilB 1 3 94 2 (cs:=[.ref 4,.ref 3,.ref 2,.nils,.nils]) rfl rfl (cs':=[.ref 4,.ref 3,.ref 2,.ref 5,.nils]) rfl rfl (T.nilB 1 4 46 3 (cs:=[.ref 4,.ref 3,.ref 2,.ref 5,.nils]) rfl rfl (cs':=[.ref 4,.ref 3,.ref 2,.ref 5,.ref 6]) rfl rfl (T.rt (Jfa (id:=1) (off:=0) (cs:=[.ref 4,.ref 3,.ref 2,.ref 5,.ref 6]) (v:=.agg [.ref 4,.ref 3,.ref 2,.ref 5,.ref 6]) ?_ ?_ ?_ ?_)))))))
   · rfl
   · rfl
   · exact fun K h=>(Qqa (row:=[.ref 4,.ref 3,.ref 2,.ref 5,.ref 6]) (off:=0) Ty.k31 Ty.c31 rfl (cs:=[.ref 4,.ref 3,.ref 2,.ref 5,.ref 6]) rfl h)
   refine Qra ?_
   exact J3a (.agg [.ref 0,.ref 1,.ref 2,.ref 3,.ref 4]) [] [4,3,2,5,6] (by decide) (Qpa _) rfl (J6a ⟨Qta rfl,Qta rfl,Qta rfl,Qta rfl,Qta rfl,trivial⟩) (Jma rfl Jua (congrArg (fun r:State=>r.At) (Option.some.inj h)).symm (Jma rfl (Jsa Qoa) (congrArg (fun r:State=>r.Rings) (Option.some.inj h)).symm (Jma rfl Q1a (congrArg (fun r:State=>r.Memory) (Option.some.inj h)).symm (Jma rfl Q4a (congrArg (fun r:State=>r.Choices) (Option.some.inj h)).symm (Jma rfl Qoa (congrArg (fun r:State=>r.Out) (Option.some.inj h)).symm (Qva)))))) ⟨rfl,rfl⟩
  ·refine RA.join 3 #[true,true,true,true,true,false,true,true,true,true,false,false] (mkA 16 ((5,sL (encL Qaa) p1)::(6,iI ((p1).length:Int))::(7,.ref 3)::(8,.ptr 0 1)::(9,iI p0.Rings)::(11,.ptr 0 0)::(12,sL Qha p0.Nodes)::(13,iI ((p0.Nodes).length:Int))::(14,.ref 2)::l13)) [.box [sL Qha p0.Nodes,iI p0.Rings,iI p0.Room],.box [.nils,.nils,.nils,.nils,.nils],aR 66 3 Qba x6,aR 3 1 encI x4] ?_ (fun hS2=>?_)
   ·refine ra1 5 (RO.op rfl rfl (o_mkN (en:=(encL Qaa)) (zr:=([]:List Item)) Ty.s25 Ty.z29 ⟨.inr ⟨rfl,rfl⟩,trivial⟩ rfl rfl hx5 rfl rfl (rt0 10 rfl (Jva (cs:=[.ref 3,.ref 4,.ref 2,.nils,.nils]) Ty.z31 Ty.p31 rfl ?_))))
    exact raW hS1 (Weak.mkN [] [0,1,2,4,3] (by decide) (Qpa _) rfl ⟨rn_s rfl,Qla rfl,Qta rfl,Qua rfl,Qla rfl,Qta rfl,Qua rfl,rn_s rfl,Qla rfl,Qta rfl,J6a ⟨Qta rfl,Qta rfl,Qta rfl,rn_same pure_nils,rn_same pure_nils,trivial⟩,J6a ⟨rn_s rfl,Qla rfl,Qla rfl,trivial⟩,rn_s rfl,Qua rfl,Qua rfl,trivial⟩ (rw_bs [sL Qha p0.Nodes,iI p0.Rings,iI p0.Room] rfl (rw_bs [.nils,.nils,.nils,.nils,.nils] rfl (rw_ar rfl rfl (rw_ar rfl rfl (rw_ar rfl rfl (Qva)))))))
   ·refine RA.join 3 #[true,true,false,true,true,true,true,true,true,true,false,false] (mkA 16 ((5,sL (encL Qaa) p1)::(6,iI ((p1).length:Int))::(8,.ptr 0 1)::(9,iI p0.Rings)::(10,.ref 3)::(11,.ptr 0 0)::(12,sL Qha p0.Nodes)::(13,iI ((p0.Nodes).length:Int))::(14,.ref 2)::l13)) [.box [sL Qha p0.Nodes,iI p0.Rings,iI p0.Room],.box [.nils,.nils,.nils,.nils,.nils],aR 66 3 Qba x6,aR 29 1 (encL Qaa) x5] ?_ (fun hS3=>?_)
    ·refine ra1 2 (RO.op rfl rfl (o_mk (en:=encI) (zr:=0) Ty.s26 Ty.z3 rfl rfl hx4 rfl rfl (rt0 10 rfl (Jva (cs:=[.ref 4,.ref 3,.ref 2,.nils,.nils]) Ty.z31 Ty.p31 rfl ?_))))
     exact raS hS1 ⟨rfl,rfl,rfl,rfl,rfl,rfl,rfl,rfl,rfl,rfl,rfl,rfl,rfl,rfl,rfl,trivial⟩
    ·refine RA.join 3 #[true,true,true,true,true,true,true,true,true,false,false,false] (mkA 16 ((5,sL (encL Qaa) p1)::(6,iI ((p1).length:Int))::(7,.ref 3)::(8,.ptr 0 1)::(9,iI p0.Rings)::(10,.ref 2)::(11,.ptr 0 0)::(12,sL Qha p0.Nodes)::(13,iI ((p0.Nodes).length:Int))::l13)) [.box [sL Qha p0.Nodes,iI p0.Rings,iI p0.Room],.box [.nils,.nils,.nils,.nils,.nils],aR 29 1 (encL Qaa) x5,aR 3 1 encI x4] ?_ (fun hS4=>?_)
     ·refine ra1 9 (RO.op rfl rfl (o_mkN (en:=Qba) (zr:=(⟨0,[],0⟩:Memory)) Ty.s27 Ty.z66 ⟨.inl rfl,.inr ⟨rfl,rfl⟩,.inl rfl,trivial⟩ rfl rfl hx6 rfl rfl (rt0 10 rfl (Jva (cs:=[.ref 3,.ref 2,.ref 4,.nils,.nils]) Ty.z31 Ty.p31 rfl ?_))))
      exact raW hS1 (Weak.mkN [] [0,1,4,2,3] (by decide) (Qpa _) rfl ⟨rn_s rfl,Qla rfl,Qta rfl,Qua rfl,Qla rfl,Qta rfl,Qua rfl,rn_s rfl,Qla rfl,Qta rfl,J6a ⟨Qta rfl,Qta rfl,Qta rfl,rn_same pure_nils,rn_same pure_nils,trivial⟩,J6a ⟨rn_s rfl,Qla rfl,Qla rfl,trivial⟩,rn_s rfl,Qua rfl,Qua rfl,trivial⟩ (rw_bs [sL Qha p0.Nodes,iI p0.Rings,iI p0.Room] rfl (rw_bs [.nils,.nils,.nils,.nils,.nils] rfl (rw_ar rfl rfl (rw_ar rfl rfl (rw_ar rfl rfl (Qva)))))))
     ·refine RA.join 4 #[true,true,true,true,false,false,true,true,true,true,false,false] (mkA 16 ((5,sL (encL Qaa) p1)::(6,iI ((p1).length:Int))::(7,.ref 3)::(8,.ptr 0 1)::(11,.ptr 0 0)::(12,sL Qha p0.Nodes)::(13,iI ((p0.Nodes).length:Int))::(14,.ref 2)::l13)) [.box [sL Qha p0.Nodes,iI p0.Rings,iI p0.Room],.box [.nils,.nils,.nils,.nils,.nils],aR 66 3 Qba x6,aR 3 1 encI x4] ?_ (fun hS5=>?_)
      ·refine ra1 4 (RO.op rfl rfl (Qea rfl rfl (Qga Ty.k3 (c:=iI p0.Rings) rfl ?_)))
       exact raS hS2 ⟨rfl,rfl,rfl,rfl,rfl,rfl,rfl,rfl,rfl,rfl,rfl,rfl,rfl,trivial⟩
      ·refine RA.join 4 #[true,true,false,true,true,false,true,true,true,true,false,false] (mkA 16 ((5,sL (encL Qaa) p1)::(6,iI ((p1).length:Int))::(8,.ptr 0 1)::(9,iI p0.Rings)::(11,.ptr 0 0)::(12,sL Qha p0.Nodes)::(13,iI ((p0.Nodes).length:Int))::(14,.ref 2)::l13)) [.box [sL Qha p0.Nodes,iI p0.Rings,iI p0.Room],.box [.nils,.nils,.nils,.nils,.nils],aR 66 3 Qba x6] ?_ (fun hS6=>?_)
       ·refine ra2 2 5 ?_ ?_
        ·refine RO.op rfl rfl (o_mk (en:=encI) (zr:=0) Ty.s26 Ty.z3 rfl rfl hx4 rfl rfl ?_)
         exact raS hS2 ⟨rfl,rfl,rfl,rfl,rfl,rfl,rfl,rfl,rfl,rfl,rfl,rfl,rfl,trivial⟩
        ·refine RO.op rfl rfl (o_mkN (en:=(encL Qaa)) (zr:=([]:List Item)) Ty.s25 Ty.z29 ⟨.inr ⟨rfl,rfl⟩,trivial⟩ rfl rfl hx5 rfl rfl ?_)
         exact raS hS3 ⟨rfl,rfl,rfl,rfl,rfl,rfl,rfl,rfl,rfl,rfl,rfl,rfl,rfl,trivial⟩
       ·refine RA.join 4 #[true,true,true,true,true,false,true,true,true,false,false,false] (mkA 16 ((5,sL (encL Qaa) p1)::(6,iI ((p1).length:Int))::(7,.ref 2)::(8,.ptr 0 1)::(9,iI p0.Rings)::(11,.ptr 0 0)::(12,sL Qha p0.Nodes)::(13,iI ((p0.Nodes).length:Int))::l13)) [.box [sL Qha p0.Nodes,iI p0.Rings,iI p0.Room],.box [.nils,.nils,.nils,.nils,.nils],aR 3 1 encI x4] ?_ (fun hS7=>?_)
        ·refine ra2 5 9 ?_ ?_
         ·refine RO.op rfl rfl (o_mkN (en:=(encL Qaa)) (zr:=([]:List Item)) Ty.s25 Ty.z29 ⟨.inr ⟨rfl,rfl⟩,trivial⟩ rfl rfl hx5 rfl rfl ?_)
          exact raW hS4 (Weak.mkN [] [0,1,3,2] (by decide) (Qpa _) rfl ⟨rn_s rfl,Qla rfl,Qta rfl,Qua rfl,Qla rfl,Qta rfl,Qua rfl,rn_s rfl,Qla rfl,J6a ⟨rn_s rfl,Qla rfl,Qla rfl,trivial⟩,rn_s rfl,Qua rfl,Qua rfl,trivial⟩ (rw_bs [sL Qha p0.Nodes,iI p0.Rings,iI p0.Room] rfl (rw_bs [.nils,.nils,.nils,.nils,.nils] rfl (rw_ar rfl rfl (rw_ar rfl rfl (Qva))))))
         ·refine RO.op rfl rfl (o_mkN (en:=Qba) (zr:=(⟨0,[],0⟩:Memory)) Ty.s27 Ty.z66 ⟨.inl rfl,.inr ⟨rfl,rfl⟩,.inl rfl,trivial⟩ rfl rfl hx6 rfl rfl ?_)
          exact raW hS2 (Weak.mkN [] [0,1,3,2] (by decide) (Qpa _) rfl ⟨rn_s rfl,Qla rfl,Qta rfl,Qua rfl,Qla rfl,Qua rfl,rn_s rfl,Qla rfl,Qta rfl,J6a ⟨rn_s rfl,Qla rfl,Qla rfl,trivial⟩,rn_s rfl,Qua rfl,Qua rfl,trivial⟩ (rw_bs [sL Qha p0.Nodes,iI p0.Rings,iI p0.Room] rfl (rw_bs [.nils,.nils,.nils,.nils,.nils] rfl (rw_ar rfl rfl (rw_ar rfl rfl (Qva))))))
        ·refine RA.join 4 #[true,true,false,true,true,true,true,true,true,false,false,false] (mkA 16 ((5,sL (encL Qaa) p1)::(6,iI ((p1).length:Int))::(8,.ptr 0 1)::(9,iI p0.Rings)::(10,.ref 2)::(11,.ptr 0 0)::(12,sL Qha p0.Nodes)::(13,iI ((p0.Nodes).length:Int))::l13)) [.box [sL Qha p0.Nodes,iI p0.Rings,iI p0.Room],.box [.nils,.nils,.nils,.nils,.nils],aR 29 1 (encL Qaa) x5] ?_ (fun hS8=>?_)
         ·refine ra2 2 9 ?_ ?_
          ·refine RO.op rfl rfl (o_mk (en:=encI) (zr:=0) Ty.s26 Ty.z3 rfl rfl hx4 rfl rfl ?_)
           exact raS hS4 ⟨rfl,rfl,rfl,rfl,rfl,rfl,rfl,rfl,rfl,rfl,rfl,rfl,rfl,trivial⟩
          ·refine RO.op rfl rfl (o_mkN (en:=Qba) (zr:=(⟨0,[],0⟩:Memory)) Ty.s27 Ty.z66 ⟨.inl rfl,.inr ⟨rfl,rfl⟩,.inl rfl,trivial⟩ rfl rfl hx6 rfl rfl ?_)
           exact raW hS3 (Weak.mkN [] [0,1,3,2] (by decide) (Qpa _) rfl ⟨rn_s rfl,Qla rfl,Qua rfl,Qla rfl,Qta rfl,Qua rfl,rn_s rfl,Qla rfl,Qta rfl,J6a ⟨rn_s rfl,Qla rfl,Qla rfl,trivial⟩,rn_s rfl,Qua rfl,Qua rfl,trivial⟩ (rw_bs [sL Qha p0.Nodes,iI p0.Rings,iI p0.Room] rfl (rw_bs [.nils,.nils,.nils,.nils,.nils] rfl (rw_ar rfl rfl (rw_ar rfl rfl (Qva))))))
         ·refine RA.join 5 #[true,true,true,true,false,false,true,true,true,false,false,false] (mkA 16 ((5,sL (encL Qaa) p1)::(6,iI ((p1).length:Int))::(7,.ref 2)::(8,.ptr 0 1)::(11,.ptr 0 0)::(12,sL Qha p0.Nodes)::(13,iI ((p0.Nodes).length:Int))::l13)) [.box [sL Qha p0.Nodes,iI p0.Rings,iI p0.Room],.box [.nils,.nils,.nils,.nils,.nils],aR 3 1 encI x4] ?_ (fun hS9=>?_)
          ·refine ra2 4 9 ?_ ?_
           ·refine RO.op rfl rfl (Qea rfl rfl (Qga Ty.k3 (c:=iI p0.Rings) rfl ?_))
            exact raS hS7 ⟨rfl,rfl,rfl,rfl,rfl,rfl,rfl,rfl,rfl,rfl,rfl,rfl,trivial⟩
           ·refine RO.op rfl rfl (o_mkN (en:=Qba) (zr:=(⟨0,[],0⟩:Memory)) Ty.s27 Ty.z66 ⟨.inl rfl,.inr ⟨rfl,rfl⟩,.inl rfl,trivial⟩ rfl rfl hx6 rfl rfl ?_)
            exact raW hS5 (Weak.mkN [] [0,1,3,2] (by decide) (Qpa _) rfl ⟨rn_s rfl,Qla rfl,Qta rfl,Qua rfl,Qua rfl,rn_s rfl,Qla rfl,Qta rfl,J6a ⟨rn_s rfl,Qla rfl,Qla rfl,trivial⟩,rn_s rfl,Qua rfl,Qua rfl,trivial⟩ (rw_bs [sL Qha p0.Nodes,iI p0.Rings,iI p0.Room] rfl (rw_bs [.nils,.nils,.nils,.nils,.nils] rfl (rw_ar rfl rfl (rw_ar rfl rfl (Qva))))))
          ·refine RA.join 5 #[true,true,false,true,true,false,true,true,true,false,false,false] (mkA 16 ((5,sL (encL Qaa) p1)::(6,iI ((p1).length:Int))::(8,.ptr 0 1)::(9,iI p0.Rings)::(11,.ptr 0 0)::(12,sL Qha p0.Nodes)::(13,iI ((p0.Nodes).length:Int))::l13)) a13 ?_ (fun hS10=>?_)
           ·refine ra3 2 5 9 ?_ ?_ ?_
            ·refine RO.op rfl rfl (o_mk (en:=encI) (zr:=0) Ty.s26 Ty.z3 rfl rfl hx4 rfl rfl ?_)
             exact raS hS7 ⟨rfl,rfl,rfl,rfl,rfl,rfl,rfl,rfl,rfl,rfl,rfl,rfl,trivial⟩
            ·refine RO.op rfl rfl (o_mkN (en:=(encL Qaa)) (zr:=([]:List Item)) Ty.s25 Ty.z29 ⟨.inr ⟨rfl,rfl⟩,trivial⟩ rfl rfl hx5 rfl rfl ?_)
             exact raS hS8 ⟨rfl,rfl,rfl,rfl,rfl,rfl,rfl,rfl,rfl,rfl,rfl,rfl,trivial⟩
            ·refine RO.op rfl rfl (o_mkN (en:=Qba) (zr:=(⟨0,[],0⟩:Memory)) Ty.s27 Ty.z66 ⟨.inl rfl,.inr ⟨rfl,rfl⟩,.inl rfl,trivial⟩ rfl rfl hx6 rfl rfl ?_)
             exact raS hS6 ⟨rfl,rfl,rfl,rfl,rfl,rfl,rfl,rfl,rfl,rfl,rfl,rfl,trivial⟩
           ·refine RA.join 5 #[true,true,true,true,true,true,true,false,false,false,false,false] (mkA 16 ((5,sL (encL Qaa) p1)::(6,iI ((p1).length:Int))::(7,.ref 3)::(8,.ptr 0 1)::(9,iI p0.Rings)::(10,.ref 2)::(11,.ptr 0 0)::l13)) [.box [sL Qha p0.Nodes,iI p0.Rings,iI p0.Room],.box [.nils,.nils,.nils,.nils,.nils],aR 29 1 (encL Qaa) x5,aR 3 1 encI x4] ?_ (fun hS11=>?_)
            ·refine ra1 7 (RO.op rfl rfl (Qea rfl rfl (Qga Ty.k22 (c:=sL Qha p0.Nodes) rfl (rt0 8 rfl (Q2a Ty.s22 rfl ?_)))))
             exact raS hS4 ⟨rfl,rfl,rfl,rfl,rfl,rfl,rfl,rfl,rfl,rfl,rfl,rfl,rfl,trivial⟩
            ·refine RA.join 6 #[true,true,true,true,true,false,true,false,false,false,false,false] (mkA 16 ((5,sL (encL Qaa) p1)::(6,iI ((p1).length:Int))::(7,.ref 2)::(8,.ptr 0 1)::(9,iI p0.Rings)::(11,.ptr 0 0)::l13)) [.box [sL Qha p0.Nodes,iI p0.Rings,iI p0.Room],.box [.nils,.nils,.nils,.nils,.nils],aR 3 1 encI x4] ?_ (fun hS12=>?_)
             ·refine ra2 5 7 ?_ ?_
              ·refine RO.op rfl rfl (o_mkN (en:=(encL Qaa)) (zr:=([]:List Item)) Ty.s25 Ty.z29 ⟨.inr ⟨rfl,rfl⟩,trivial⟩ rfl rfl hx5 rfl rfl ?_)
               exact raW hS11 (Weak.mkN [] [0,1,3,2] (by decide) (Qpa _) rfl ⟨rn_s rfl,Qla rfl,Qta rfl,Qua rfl,Qla rfl,Qta rfl,Qua rfl,J6a ⟨rn_s rfl,Qla rfl,Qla rfl,trivial⟩,rn_s rfl,Qua rfl,Qua rfl,trivial⟩ (rw_bs [sL Qha p0.Nodes,iI p0.Rings,iI p0.Room] rfl (rw_bs [.nils,.nils,.nils,.nils,.nils] rfl (rw_ar rfl rfl (rw_ar rfl rfl (Qva))))))
              ·refine RO.op rfl rfl (Qea rfl rfl (Qga Ty.k22 (c:=sL Qha p0.Nodes) rfl (rt0 8 rfl (Q2a Ty.s22 rfl ?_))))
               exact raS hS7 ⟨rfl,rfl,rfl,rfl,rfl,rfl,rfl,rfl,rfl,rfl,rfl,rfl,trivial⟩
             ·refine rt0 0 rfl (Qza (v:=sL (encL Qaa) p1) rfl (rt0 1 rfl (Q2a Ty.s25 rfl (rt0 3 rfl (Qca Ty.f24_1 rfl (off':=1) rfl (rt0 6 rfl (Qca Ty.f24_0 rfl (off':=0) rfl (ra3 2 4 7 ?_ ?_ ?_))))))))
              ·refine RO.op rfl rfl (o_mk (en:=encI) (zr:=0) Ty.s26 Ty.z3 rfl rfl hx4 rfl rfl (ra2 4 7 ?_ ?_))
               ·refine RO.op rfl rfl (Qea rfl rfl (Qga Ty.k3 (c:=iI p0.Rings) rfl ?_))
                exact raS hS12 ⟨rfl,rfl,rfl,rfl,rfl,rfl,rfl,rfl,rfl,rfl,trivial⟩
               ·refine RO.op rfl rfl (Qea rfl rfl (Qga Ty.k22 (c:=sL Qha p0.Nodes) rfl (rt0 8 rfl (Q2a Ty.s22 rfl ?_))))
                exact raS hS9 ⟨rfl,rfl,rfl,rfl,rfl,rfl,rfl,rfl,rfl,rfl,rfl,trivial⟩
              ·refine RO.op rfl rfl (Qea rfl rfl (Qga Ty.k3 (c:=iI p0.Rings) rfl (ra3 2 5 7 ?_ ?_ ?_)))
               ·refine RO.op rfl rfl (o_mk (en:=encI) (zr:=0) Ty.s26 Ty.z3 rfl rfl hx4 rfl rfl ?_)
                exact raS hS12 ⟨rfl,rfl,rfl,rfl,rfl,rfl,rfl,rfl,rfl,rfl,trivial⟩
               ·refine RO.op rfl rfl (o_mkN (en:=(encL Qaa)) (zr:=([]:List Item)) Ty.s25 Ty.z29 ⟨.inr ⟨rfl,rfl⟩,trivial⟩ rfl rfl hx5 rfl rfl (ra2 2 7 ?_ ?_))
                ·refine RO.op rfl rfl (o_mk (en:=encI) (zr:=0) Ty.s26 Ty.z3 rfl rfl hx4 rfl rfl ?_)
                 exact raS hS11 ⟨rfl,rfl,rfl,rfl,rfl,rfl,rfl,rfl,rfl,rfl,rfl,trivial⟩
                ·refine RO.op rfl rfl (Qea rfl rfl (Qga Ty.k22 (c:=sL Qha p0.Nodes) rfl (rt0 8 rfl (Q2a Ty.s22 rfl ?_))))
                 exact raS hS8 ⟨rfl,rfl,rfl,rfl,rfl,rfl,rfl,rfl,rfl,rfl,rfl,rfl,trivial⟩
               ·refine RO.op rfl rfl (Qea rfl rfl (Qga Ty.k22 (c:=sL Qha p0.Nodes) rfl (rt0 8 rfl (Q2a Ty.s22 rfl ?_))))
                exact raS hS10 ⟨rfl,rfl,rfl,rfl,rfl,rfl,rfl,rfl,rfl,rfl,rfl,trivial⟩
              ·refine RO.op rfl rfl (Qea rfl rfl (Qga Ty.k22 (c:=sL Qha p0.Nodes) rfl (rt0 8 rfl (Q2a Ty.s22 rfl (ra3 2 4 9 ?_ ?_ ?_)))))
               ·refine RO.op rfl rfl (o_mk (en:=encI) (zr:=0) Ty.s26 Ty.z3 rfl rfl hx4 rfl rfl ?_)
                exact raS hS9 ⟨rfl,rfl,rfl,rfl,rfl,rfl,rfl,rfl,rfl,rfl,rfl,trivial⟩
               ·refine RO.op rfl rfl (Qea rfl rfl (Qga Ty.k3 (c:=iI p0.Rings) rfl ?_))
                exact raS hS10 ⟨rfl,rfl,rfl,rfl,rfl,rfl,rfl,rfl,rfl,rfl,rfl,trivial⟩
               ·refine RO.op rfl rfl (o_mkN (en:=Qba) (zr:=(⟨0,[],0⟩:Memory)) Ty.s27 Ty.z66 ⟨.inl rfl,.inr ⟨rfl,rfl⟩,.inl rfl,trivial⟩ rfl rfl hx6 rfl rfl (ra2 2 4 ?_ ?_))
                ·refine RO.op rfl rfl (o_mk (en:=encI) (zr:=0) Ty.s26 Ty.z3 rfl rfl hx4 rfl rfl ?_)
                 exact raS hS5 ⟨rfl,rfl,rfl,rfl,rfl,rfl,rfl,rfl,rfl,rfl,rfl,rfl,trivial⟩
                ·refine RO.op rfl rfl (Qea rfl rfl (Qga Ty.k3 (c:=iI p0.Rings) rfl ?_))
                 exact raS hS6 ⟨rfl,rfl,rfl,rfl,rfl,rfl,rfl,rfl,rfl,rfl,rfl,rfl,trivial⟩
theorem move_Start_c (p0:Net) (p1:List (List Item)) (r:State × Int) (h:move_Start p0 p1=some r):FnO Try.prog 50 [.agg [sL Qha p0.Nodes,iI p0.Rings,iI p0.Room],sL (encL Qaa) p1] (.tup [.agg [.ref 0,.ref 1,.ref 2,.ref 3,.ref 4],iI r.2]) [aR 3 1 encI r.1.At,aR 29 1 (encL Qaa) r.1.Rings,aR 66 3 Qba r.1.Memory,aR 94 2 Qda r.1.Choices,aR 46 3 Qaa r.1.Out]:=by
  unfold move_Start at h
  refine Jka (N:=0) rfl Try.func50 rfl (by kernel_rfl) Try.ntmps50 rfl ?_
  show T _ _ _ _ (mkA 17 [(0,.agg [sL Qha p0.Nodes,iI p0.Rings,iI p0.Room]),(1,sL (encL Qaa) p1)]) []
  refine T.seq (T.region (so (o_box (cs:=[sL Qha p0.Nodes,iI p0.Rings,iI p0.Room]) rfl rfl rfl (so (Jxa Ty.z31 rfl rfl (sa (iI 0) rfl (RS.nil (T.seq (T.seq ?_)))))))))
  obtain ⟨x2,hx2,h⟩:=bind_some h
  refine T.region (so (Qea rfl rfl (Qqa Ty.k24 Ty.c24 rfl (cs:=[sL Qha p0.Nodes,iI p0.Rings,iI p0.Room]) rfl (sm (sL (encL Qaa) p1) rfl (so (Jia (as0:=[.agg [sL Qha p0.Nodes,iI p0.Rings,iI p0.Room],sL (encL Qaa) p1]) (as1:=[.agg [sL Qha p0.Nodes,iI p0.Rings,iI p0.Room],sL (encL Qaa) p1]) (caps:=[]) (aw1:=[.box [sL Qha p0.Nodes,iI p0.Rings,iI p0.Room],.box [.nils,.nils,.nils,.nils,.nils]]) rfl rfl rfl (Zja (v:=iI x2) (net_Sources_c p0 p1 x2 hx2) (⟨Qsa _ (Qka (⟨Qia J0a _,Qfa _ _,Qfa _ _,trivial⟩)),Qia (Jsa Qoa) _,trivial⟩) rfl (sa (iI x2) rfl (RS.nil (T.seq (T.region (sm (iI x2) rfl (sq (v_neq rfl rfl ?_))))))))))))))
  refine RS.nil (T.cond (b:=x2 != 0) rfl (fun hb_1=>?_) (fun hb_1=>?_))
  ·replace h:=ite_T h hb_1
   refine T.seq (T.region (sq (Jva (cs:=[.nils,.nils,.nils,.nils,.nils]) Ty.z31 Ty.p31 rfl (sm (iI x2) rfl (so (Qma Ty.c31 Ty.i31 rfl (vs:=[.nils,.nils,.nils,.nils,.nils]) rfl rfl rfl rfl (cs':=[.nils,.nils,.nils,.nils,.nils]) rfl rfl (sa (iI x2) rfl (RS.nil (T.nilB 1 0 3 1 (cs:=[.nils,.nils,.nils,.nils,.nils]) rfl rfl (cs':=[.ref 2,.nils,.nils,.nils,.nils]) rfl rfl (T.nilB 1 1 29 1 (cs:=[.ref 2,.nils,.nils,.nils,.nils]) rfl rfl (cs':=[.ref 2,.ref 3,.nils,.nils,.nils]) rfl rfl (T.nilB 1 2 66 3 (cs:=[.ref 2,.ref 3,.nils,.nils,.nils]) rfl rfl (cs':=[.ref 2,.ref 3,.ref 4,.nils,.nils]) rfl rfl ?_)))))))))))
   refine T.nilB 1 3 94 2 (cs:=[.ref 2,.ref 3,.ref 4,.nils,.nils]) rfl rfl (cs':=[.ref 2,.ref 3,.ref 4,.ref 5,.nils]) rfl rfl (T.nilB 1 4 46 3 (cs:=[.ref 2,.ref 3,.ref 4,.ref 5,.nils]) rfl rfl (cs':=[.ref 2,.ref 3,.ref 4,.ref 5,.ref 6]) rfl rfl (T.rt (Jfa (id:=1) (off:=0) (cs:=[.ref 2,.ref 3,.ref 4,.ref 5,.ref 6]) (v:=.agg [.ref 2,.ref 3,.ref 4,.ref 5,.ref 6]) ?_ ?_ ?_ ?_)))
   · rfl
   · rfl
   · exact fun K h=>(Qqa (row:=[.ref 2,.ref 3,.ref 4,.ref 5,.ref 6]) (off:=0) Ty.k31 Ty.c31 rfl (cs:=[.ref 2,.ref 3,.ref 4,.ref 5,.ref 6]) rfl h)
   refine Qna (v:=iI x2) rfl (Qra ?_)
   exact J3a (.tup [.agg [.ref 0,.ref 1,.ref 2,.ref 3,.ref 4],iI r.2]) [] [2,3,4,5,6] (by decide) (Qpa _) rfl (Vma ⟨J6a ⟨Qta rfl,Qta rfl,Qta rfl,Qta rfl,Qta rfl,trivial⟩,Qla (congrArg (fun r:State × Int=>r.2) (Option.some.inj h)).symm,trivial⟩) (Jma rfl Jua (congrArg (fun r:State × Int=>r.1.At) (Option.some.inj h)).symm (Jma rfl (Jsa Qoa) (congrArg (fun r:State × Int=>r.1.Rings) (Option.some.inj h)).symm (Jma rfl Q1a (congrArg (fun r:State × Int=>r.1.Memory) (Option.some.inj h)).symm (Jma rfl Q4a (congrArg (fun r:State × Int=>r.1.Choices) (Option.some.inj h)).symm (Jma rfl Qoa (congrArg (fun r:State × Int=>r.1.Out) (Option.some.inj h)).symm (Qva)))))) ⟨rfl,rfl⟩
  replace h:=ite_F h hb_1
  refine T.skip (T.seq ?_)
  obtain ⟨x4,hx4,h⟩:=bind_some h
  refine T.region (so (Qea rfl rfl (Qqa Ty.k24 Ty.c24 rfl (cs:=[sL Qha p0.Nodes,iI p0.Rings,iI p0.Room]) rfl (sm (sL (encL Qaa) p1) rfl (so (Vva (ac:=[.agg [sL Qha p0.Nodes,iI p0.Rings,iI p0.Room],sL (encL Qaa) p1]) (as0:=[.agg [sL Qha p0.Nodes,iI p0.Rings,iI p0.Room],sL (encL Qaa) p1]) (aw0:=[]) (aw1:=[aR 3 1 encI x4.At,aR 29 1 (encL Qaa) x4.Rings,aR 66 3 Qba x4.Memory,aR 94 2 Qda x4.Choices,aR 46 3 Qaa x4.Out]) (aw2:=[.box [sL Qha p0.Nodes,iI p0.Rings,iI p0.Room],.box [.nils,.nils,.nils,.nils,.nils],aR 3 1 encI x4.At,aR 29 1 (encL Qaa) x4.Rings,aR 66 3 Qba x4.Memory,aR 94 2 Qda x4.Choices,aR 46 3 Qaa x4.Out]) (v:=.agg [.ref 0,.ref 1,.ref 2,.ref 3,.ref 4]) (v':=.agg [.ref 2,.ref 3,.ref 4,.ref 5,.ref 6]) (n0:=2) (n1:=5) [] rfl rfl rfl rfl (by decide) (Qva) ⟨J6a ⟨rn_s rfl,Qla rfl,Qla rfl,trivial⟩,rn_s rfl,trivial⟩ (FnX.of_fnO (move_start_c p0 p1 x4 hx4)) rfl (rm_agg (cs:=[.ref 2,.ref 3,.ref 4,.ref 5,.ref 6]) (ds:=[.ref 0,.ref 1,.ref 2,.ref 3,.ref 4]) ⟨Vca (by decide),Vca (by decide),Vca (by decide),Vca (by decide),Vca (by decide),trivial⟩) ⟨.inr ⟨rfl,rfl⟩,.inr ⟨rfl,rfl⟩,.inl ⟨0,_,by decide,rfl,Zma Jua⟩,.inl ⟨1,_,by decide,rfl,Zma (Jsa Qoa)⟩,.inl ⟨2,_,by decide,rfl,Zma Q1a⟩,.inl ⟨3,_,by decide,rfl,Zma Q4a⟩,.inl ⟨4,_,by decide,rfl,Zma Qoa⟩,trivial⟩ (so (Qma Ty.c31 Ty.i31 rfl (vs:=[.ref 2,.ref 3,.ref 4,.ref 5,.ref 6]) rfl rfl rfl rfl (cs':=[.ref 2,.ref 3,.ref 4,.ref 5,.ref 6]) rfl rfl (sa (iI 0) rfl (RS.nil (T.rt (Jfa (id:=1) (off:=0) (cs:=[.ref 2,.ref 3,.ref 4,.ref 5,.ref 6]) (v:=.agg [.ref 2,.ref 3,.ref 4,.ref 5,.ref 6]) ?_ ?_ ?_ ?_))))))))))))
  · rfl
  · rfl
  · exact fun K h=>(Qqa (row:=[.ref 2,.ref 3,.ref 4,.ref 5,.ref 6]) (off:=0) Ty.k31 Ty.c31 rfl (cs:=[.ref 2,.ref 3,.ref 4,.ref 5,.ref 6]) rfl h)
  refine Qna (v:=iI 0) rfl (Qra ?_)
  exact J3a (.tup [.agg [.ref 0,.ref 1,.ref 2,.ref 3,.ref 4],iI r.2]) [] [2,3,4,5,6] (by decide) (Qpa _) rfl (Vma ⟨J6a ⟨Qta rfl,Qta rfl,Qta rfl,Qta rfl,Qta rfl,trivial⟩,Qla (congrArg (fun r:State × Int=>r.2) (Option.some.inj h)).symm,trivial⟩) (Jma rfl Jua (congrArg (fun r:State × Int=>r.1.At) (Option.some.inj h)).symm (Jma rfl (Jsa Qoa) (congrArg (fun r:State × Int=>r.1.Rings) (Option.some.inj h)).symm (Jma rfl Q1a (congrArg (fun r:State × Int=>r.1.Memory) (Option.some.inj h)).symm (Jma rfl Q4a (congrArg (fun r:State × Int=>r.1.Choices) (Option.some.inj h)).symm (Jma rfl Qoa (congrArg (fun r:State × Int=>r.1.Out) (Option.some.inj h)).symm (Qva)))))) ⟨rfl,rfl⟩
theorem move_head_c (p0:Net) (p1:List (List Item)) (p2:State) (p3:Move) (r:Item × Bool) (h:move_head p0 p1 p2 p3=some r):Fn Try.prog 82 [.agg [sL Qha p0.Nodes,iI p0.Rings,iI p0.Room],sL (encL Qaa) p1,.agg [sL encI p2.At,sL (encL Qaa) p2.Rings,sL Qba p2.Memory,sL Qda p2.Choices,sL Qaa p2.Out],.agg [iI p3.Node,iI p3.Lane]] (.tup [.agg [iI r.1.Key,iI r.1.Val,iI r.1.Dep],.bool r.2]):=by
  unfold move_head at h
  refine Jka (N:=0) rfl Try.func82 rfl (by kernel_rfl) Try.ntmps82 rfl ?_
  show T _ _ _ _ (mkA 65 [(0,.agg [sL Qha p0.Nodes,iI p0.Rings,iI p0.Room]),(1,sL (encL Qaa) p1),(2,.agg [sL encI p2.At,sL (encL Qaa) p2.Rings,sL Qba p2.Memory,sL Qda p2.Choices,sL Qaa p2.Out]),(3,.agg [iI p3.Node,iI p3.Lane])]) []
  refine T.seq (T.region (so (o_box (cs:=[sL Qha p0.Nodes,iI p0.Rings,iI p0.Room]) rfl rfl rfl (so (o_box (cs:=[sL encI p2.At,sL (encL Qaa) p2.Rings,sL Qba p2.Memory,sL Qda p2.Choices,sL Qaa p2.Out]) rfl rfl rfl (so (o_box (cs:=[iI p3.Node,iI p3.Lane]) rfl rfl rfl (so (Jxa Ty.z46 rfl rfl (sa (.bool false) rfl (RS.nil (T.seq ?_))))))))))))
  obtain ⟨x2,hx2,h⟩:=bind_some h
  refine T.region (sq (Qca Ty.f24_0 rfl (off':=0) rfl (so (Qea rfl rfl (Qga Ty.k22 (c:=sL Qha p0.Nodes) rfl (sq (Qca Ty.f57_0 rfl (off':=0) rfl (so (Qea rfl rfl (Qga Ty.k3 (c:=iI p3.Node) rfl (sq (Q0a Ty.s22 (fun _=>rfl) rfl rfl hx2 (so (Q8a rfl (Qqa Ty.k40 Ty.c40 rfl (cs:=[iI x2.Kind,iI x2.A,sL encI x2.In,sL encI x2.Out]) rfl (so (Jxa Ty.z40 rfl rfl (so (Qma Ty.c40 Ty.i40 rfl (vs:=[iI x2.Kind,iI x2.A,sL encI x2.In,sL encI x2.Out]) rfl rfl rfl rfl (cs':=[iI x2.Kind,iI x2.A,sL encI x2.In,sL encI x2.Out]) rfl rfl (RS.nil ?_))))))))))))))))))))
  refine T.seq (T.seq (T.region (sq (Qca Ty.f40_0 rfl (off':=0) rfl (so (Qea rfl rfl (Qga Ty.k3 (c:=iI x2.Kind) rfl (sq (v_eql rfl rfl (RS.nil (T.cond (b:=x2.Kind==1) rfl (fun hb_1=>?_) (fun hb_1=>?_))))))))))))
  ·replace h:=ite_T h hb_1
   refine T.seq (T.seq ?_)
   obtain ⟨x5,hx5,h⟩:=bind_some h
   obtain ⟨x6,hx6,h⟩:=bind_some h
   refine T.drawn mixed (k:=13) rfl (rt0 0 rfl (Qca Ty.f31_0 rfl (off':=0) rfl (rt0 2 rfl (Qca Ty.f40_1 rfl (off':=1) rfl (rt0 6 rfl (Qza (v:=sL (encL Qaa) p1) rfl (rt0 7 rfl (Qca Ty.f40_1 rfl (off':=1) rfl (rl0 [8,9,10,11,12] 8 rfl (Qxa rfl rfl (Qga Ty.k3 (c:=iI x2.A) rfl (rt0 9 rfl (Q0a Ty.s25 (fun _=>rfl) rfl rfl hx6 (rl0 [10,11,12] 10 rfl (Y8a rfl (Qga Ty.k29 (c:=sL Qaa x6) rfl (rt0 11 rfl (Q2a Ty.s29 rfl (rl0 [1,4,5,12] 1 rfl (Qxa rfl rfl (Qga Ty.k26 (c:=sL encI p2.At) rfl ?_)))))))))))))))))))))
   refine ra1 3 (RO.op rfl rfl (Qea rfl rfl (Qga Ty.k3 (c:=iI x2.A) rfl (rt0 4 rfl (Q0a Ty.s26 (fun _=>rfl) rfl rfl hx5 (ra1 5 (RO.op rfl rfl (Q8a rfl (Qga Ty.k3 (c:=iI x5) rfl (rt0 12 rfl (v_eql rfl rfl (RA.done (by decide +kernel) (T.cond (b:=x5==((x6).length:Int)) rfl (fun hb_2=>?_) (fun hb_2=>?_))))))))))))))
   ·replace h:=ite_T h hb_2
    refine T.seq (T.region (sq (Jva (cs:=[iI 0,iI 0,iI 0]) Ty.z46 Ty.p46 rfl (so (Qma Ty.c46 Ty.i46 rfl (vs:=[iI 0,iI 0,iI 0]) rfl rfl rfl rfl (cs':=[iI 0,iI 0,iI 0]) rfl rfl (sa (.bool false) rfl (RS.nil (T.rt (Jfa (id:=3) (off:=0) (cs:=[iI 0,iI 0,iI 0]) (v:=.agg [iI 0,iI 0,iI 0]) ?_ ?_ ?_ ?_)))))))))
    · rfl
    · rfl
    · exact fun K h=>(Qqa (row:=[iI 0,iI 0,iI 0]) (off:=0) Ty.k46 Ty.c46 rfl (cs:=[iI 0,iI 0,iI 0]) rfl h)
    refine Qna (v:=.bool false) rfl (Qra ?_)
    exact Qya (v:=.tup [.agg [iI 0,iI 0,iI 0],.bool false]) rfl (Jna _ (Qka (⟨Qsa _ (Qka (⟨Qfa _ _,Qfa _ _,Qfa _ _,trivial⟩)),Jba _,trivial⟩))) ⟨congrArg (fun r:Item × Bool=>(.tup [.agg [iI r.1.Key,iI r.1.Val,iI r.1.Dep],.bool r.2]:AV)) (Option.some.inj h),rfl⟩
   replace h:=ite_F h hb_2
   refine T.skip (T.seq ?_)
   obtain ⟨x10,hx10,h⟩:=bind_some h
   obtain ⟨x11,hx11,h⟩:=bind_some h
   obtain ⟨x12,hx12,h⟩:=bind_some h
   refine T.drawn mixed (k:=15) rfl (rt0 0 rfl (Qza (v:=sL (encL Qaa) p1) rfl (rt0 1 rfl (Qca Ty.f40_1 rfl (off':=1) rfl (rt0 5 rfl (Qca Ty.f31_0 rfl (off':=0) rfl (rt0 7 rfl (Qca Ty.f40_1 rfl (off':=1) rfl (rl0 [2,3,4,11,12,13,14] 2 rfl (Qxa rfl rfl (Qga Ty.k3 (c:=iI x2.A) rfl (rt0 3 rfl (Q0a Ty.s25 (fun _=>rfl) rfl rfl hx10 (rl0 [4,11,12,13,14] 4 rfl (Y8a rfl (Qga Ty.k29 (c:=sL Qaa x10) rfl (rl0 [6,9,10,11,12,13,14] 6 rfl (Qxa rfl rfl (Qga Ty.k26 (c:=sL encI p2.At) rfl (ra1 8 ?_))))))))))))))))))))
   refine RO.op rfl rfl (Qea rfl rfl (Qga Ty.k3 (c:=iI x2.A) rfl (rt0 9 rfl (Q0a Ty.s26 (fun _=>rfl) rfl rfl hx11 (ra1 10 (RO.op rfl rfl (Q8a rfl (Qga Ty.k3 (c:=iI x11) rfl (rt0 11 rfl (Q0a Ty.s29 (fun _=>rfl) rfl rfl hx12 (ra1 12 (RO.op rfl rfl (Q8a rfl (Qqa Ty.k46 Ty.c46 rfl (cs:=[iI x12.Key,iI x12.Val,iI x12.Dep]) rfl (ra1 13 (RO.op rfl rfl (Qma Ty.c46 Ty.i46 rfl (vs:=[iI x12.Key,iI x12.Val,iI x12.Dep]) rfl rfl rfl rfl (cs':=[iI x12.Key,iI x12.Val,iI x12.Dep]) rfl rfl (rt0 14 rfl (Jta (v:=.bool true) rfl ?_)))))))))))))))))))
   refine RA.done (by decide +kernel) (T.rt (Jfa (id:=3) (off:=0) (cs:=[iI x12.Key,iI x12.Val,iI x12.Dep]) (v:=.agg [iI x12.Key,iI x12.Val,iI x12.Dep]) ?_ ?_ ?_ ?_))
   · rfl
   · rfl
   · exact fun K h=>(Qqa (row:=[iI x12.Key,iI x12.Val,iI x12.Dep]) (off:=0) Ty.k46 Ty.c46 rfl (cs:=[iI x12.Key,iI x12.Val,iI x12.Dep]) rfl h)
   refine Qna (v:=.bool true) rfl (Qra ?_)
   exact Qya (v:=.tup [.agg [iI x12.Key,iI x12.Val,iI x12.Dep],.bool true]) rfl (Jna _ (Qka (⟨Qsa _ (Qka (⟨Qfa _ _,Qfa _ _,Qfa _ _,trivial⟩)),Jba _,trivial⟩))) ⟨congrArg (fun r:Item × Bool=>(.tup [.agg [iI r.1.Key,iI r.1.Val,iI r.1.Dep],.bool r.2]:AV)) (Option.some.inj h),rfl⟩
  replace h:=ite_F h hb_1
  refine T.skip (T.seq ?_)
  obtain ⟨x15,hx15,h⟩:=bind_some h
  obtain ⟨x16,hx16,h⟩:=bind_some h
  refine T.drawn mixed (k:=11) rfl (rt0 0 rfl (Qca Ty.f31_1 rfl (off':=1) rfl (rt0 2 rfl (Qca Ty.f40_2 rfl (off':=2) rfl (rt0 4 rfl (Qca Ty.f57_1 rfl (off':=1) rfl (rl0 [1,8,9,10] 1 rfl (Qxa rfl rfl (Qga Ty.k25 (c:=sL (encL Qaa) p2.Rings) rfl (rl0 [3,6,7,8,9,10] 3 rfl (Qxa rfl rfl (Qga Ty.k26 (c:=sL encI x2.In) rfl (ra1 5 (RO.op rfl rfl (Qea rfl rfl (Qga Ty.k3 (c:=iI p3.Lane) rfl (rt0 6 rfl (Q0a Ty.s26 (fun _=>rfl) rfl rfl hx15 (ra1 7 ?_)))))))))))))))))))
  refine RO.op rfl rfl (Q8a rfl (Qga Ty.k3 (c:=iI x15) rfl (rt0 8 rfl (Q0a Ty.s25 (fun _=>rfl) rfl rfl hx16 (ra1 9 (RO.op rfl rfl (Q8a rfl (Qga Ty.k29 (c:=sL Qaa x16) rfl (rt0 10 rfl (Jta (v:=sL Qaa x16) rfl (RA.done (by decide +kernel) (T.seq (T.seq (T.region (sm (sL Qaa x16) rfl ?_)))))))))))))))
  refine sq (Q2a Ty.s29 rfl (sq (v_eql rfl rfl (RS.nil (T.cond (b:=((x16).length:Int)==0) rfl (fun hb_3=>?_) (fun hb_3=>?_))))))
  ·replace h:=ite_T h hb_3
   refine T.seq (T.region (sq (Jva (cs:=[iI 0,iI 0,iI 0]) Ty.z46 Ty.p46 rfl (so (Qma Ty.c46 Ty.i46 rfl (vs:=[iI 0,iI 0,iI 0]) rfl rfl rfl rfl (cs':=[iI 0,iI 0,iI 0]) rfl rfl (sa (.bool false) rfl (RS.nil (T.rt (Jfa (id:=3) (off:=0) (cs:=[iI 0,iI 0,iI 0]) (v:=.agg [iI 0,iI 0,iI 0]) ?_ ?_ ?_ ?_)))))))))
   · rfl
   · rfl
   · exact fun K h=>(Qqa (row:=[iI 0,iI 0,iI 0]) (off:=0) Ty.k46 Ty.c46 rfl (cs:=[iI 0,iI 0,iI 0]) rfl h)
   refine Qna (v:=.bool false) rfl (Qra ?_)
   exact Qya (v:=.tup [.agg [iI 0,iI 0,iI 0],.bool false]) rfl (Jna _ (Qka (⟨Qsa _ (Qka (⟨Qfa _ _,Qfa _ _,Qfa _ _,trivial⟩)),Jba _,trivial⟩))) ⟨congrArg (fun r:Item × Bool=>(.tup [.agg [iI r.1.Key,iI r.1.Val,iI r.1.Dep],.bool r.2]:AV)) (Option.some.inj h),rfl⟩
  replace h:=ite_F h hb_3
  refine T.skip (T.seq ?_)
  obtain ⟨x18,hx18,h⟩:=bind_some h
  refine T.region (sm (sL Qaa x16) rfl (sq (Q0a Ty.s29 (fun _=>rfl) rfl rfl hx18 (so (Q8a rfl (Qqa Ty.k46 Ty.c46 rfl (cs:=[iI x18.Key,iI x18.Val,iI x18.Dep]) rfl (so (Qma Ty.c46 Ty.i46 rfl (vs:=[iI x18.Key,iI x18.Val,iI x18.Dep]) rfl rfl rfl rfl (cs':=[iI x18.Key,iI x18.Val,iI x18.Dep]) rfl rfl (sa (.bool true) rfl (RS.nil (T.rt (Jfa (id:=3) (off:=0) (cs:=[iI x18.Key,iI x18.Val,iI x18.Dep]) (v:=.agg [iI x18.Key,iI x18.Val,iI x18.Dep]) ?_ ?_ ?_ ?_))))))))))))
  · rfl
  · rfl
  · exact fun K h=>(Qqa (row:=[iI x18.Key,iI x18.Val,iI x18.Dep]) (off:=0) Ty.k46 Ty.c46 rfl (cs:=[iI x18.Key,iI x18.Val,iI x18.Dep]) rfl h)
  refine Qna (v:=.bool true) rfl (Qra ?_)
  exact Qya (v:=.tup [.agg [iI x18.Key,iI x18.Val,iI x18.Dep],.bool true]) rfl (Jna _ (Qka (⟨Qsa _ (Qka (⟨Qfa _ _,Qfa _ _,Qfa _ _,trivial⟩)),Jba _,trivial⟩))) ⟨congrArg (fun r:Item × Bool=>(.tup [.agg [iI r.1.Key,iI r.1.Val,iI r.1.Dep],.bool r.2]:AV)) (Option.some.inj h),rfl⟩
theorem stage_Lane_c (p0:Item) (p1:Int) (r:Int × Int) (h:stage_Lane p0 p1=some r):Fn Try.prog 116 [.agg [iI p0.Key,iI p0.Val,iI p0.Dep],iI p1] (.tup [iI r.1,iI r.2]):=by
  unfold stage_Lane at h
  refine Jka (N:=0) rfl Try.func116 rfl (by kernel_rfl) Try.ntmps116 rfl ?_
  show T _ _ _ _ (mkA 20 [(0,.agg [iI p0.Key,iI p0.Val,iI p0.Dep]),(1,iI p1)]) []
  refine T.seq (T.region (so (o_box (cs:=[iI p0.Key,iI p0.Val,iI p0.Dep]) rfl rfl rfl (sa (iI 0) rfl (sa (iI 0) rfl (RS.nil (T.seq (T.join (Z:=Unit) (fun _=>mkA 20 [(1,iI p1),(2,.ptr 0 0),(11,.bool ((decide (p1<1)) || decide (p1 > 16)))]) (fun _=>[.box [iI p0.Key,iI p0.Val,iI p0.Dep]]) (fun _=>True) (fun _ _=>?_) (fun hK=>?_)))))))))
  ·refine T.cond (b:=((decide (p1<1)) || decide (p1 > 16))) rfl (fun hb_2=>?_) (fun hb_2=>?_)
   ·replace h:=ite_T h hb_2
    refine T.seq (T.region (sa (iI 0) rfl (sa (iI 3) rfl (RS.nil (T.rt (Qna (v:=iI 0) rfl (Qna (v:=iI 3) rfl (Qra ?_))))))))
    exact Qya (v:=.tup [iI 0,iI 3]) rfl (Jna _ (Qka (⟨Qfa _ _,Qfa _ _,trivial⟩))) ⟨congrArg (fun r:Int × Int=>(.tup [iI r.1,iI r.2]:AV)) (Option.some.inj h),rfl⟩
   replace h:=ite_F h hb_2
   refine T.skip (T.seq ?_)
   obtain ⟨x4,hx4,h⟩:=bind_some h
   obtain ⟨x5,hx5,h⟩:=bind_some h
   refine T.region (sq (Qca Ty.f46_0 rfl (off':=0) rfl (so (Qea rfl rfl (Qga Ty.k3 (c:=iI p0.Key) rfl (sm (iI p1) rfl (sq (v_rem rfl rfl hx4 (sm (iI p1) rfl (sq (v_add rfl rfl (sm (iI p1) rfl (sq (v_rem rfl rfl hx5 (sa (iI x5) rfl ?_)))))))))))))))
   refine sa (iI 0) rfl (RS.nil (T.rt (Qna (v:=iI x5) rfl (Qna (v:=iI 0) rfl (Qra ?_)))))
   exact Qya (v:=.tup [iI x5,iI 0]) rfl (Jna _ (Qka (⟨Qfa _ _,Qfa _ _,trivial⟩))) ⟨congrArg (fun r:Int × Int=>(.tup [iI r.1,iI r.2]:AV)) (Option.some.inj h),rfl⟩
  refine T.region (sm (iI p1) rfl (sq (v_lss rfl rfl (sm (.bool (decide (p1<1))) rfl ?_))))
  rcases Q3a (decide (p1<1)) with hb_1 | hb_1
  ·refine sn hb_1 (sn hb_1 (sq (Jea (v:=.bool true) rfl hb_1 rfl (RS.nil ?_))))
   exact T.sub (hK () trivial) ⟨rfl,rfl,(congrArg AV.bool (by simp only [hb_1,bz,if_true,if_false,Bool.false_eq_true])).symm,trivial⟩
  refine yq hb_1 (Qza (v:=iI p1) rfl (yq hb_1 (v_gtr rfl rfl (sq (Q5a (v:=.bool (decide (p1 > 16))) rfl hb_1 rfl (RS.nil ?_))))))
  exact T.sub (hK () trivial) ⟨rfl,rfl,(congrArg AV.bool (by simp only [hb_1,bz,if_true,if_false,Bool.false_eq_true])).symm,trivial⟩
theorem move_outs_c (p0:Node) (p1:Item) (r:List Int) (h:move_outs p0 p1=some r):Fn Try.prog 84 [.agg [iI p0.Kind,iI p0.A,sL encI p0.In,sL encI p0.Out],.agg [iI p1.Key,iI p1.Val,iI p1.Dep]] (sL encI r):=by
  unfold move_outs at h
  refine Jka (N:=0) rfl Try.func84 rfl (by kernel_rfl) Try.ntmps84 rfl ?_
  show T _ _ _ _ (mkA 26 [(0,.agg [iI p0.Kind,iI p0.A,sL encI p0.In,sL encI p0.Out]),(1,.agg [iI p1.Key,iI p1.Val,iI p1.Dep])]) []
  refine T.seq (T.region (so (o_box (cs:=[iI p0.Kind,iI p0.A,sL encI p0.In,sL encI p0.Out]) rfl rfl rfl (so (o_box (cs:=[iI p1.Key,iI p1.Val,iI p1.Dep]) rfl rfl rfl (sa .nils rfl (RS.nil (T.seq (T.seq (T.region (sq (Qca Ty.f40_0 rfl (off':=0) rfl ?_))))))))))))
  refine so (Qea rfl rfl (Qga Ty.k3 (c:=iI p0.Kind) rfl (sq (v_neq rfl rfl (RS.nil (T.cond (b:=p0.Kind != 7) rfl (fun hb_1=>?_) (fun hb_1=>?_)))))))
  ·replace h:=ite_T h hb_1
   refine T.seq (T.region (sq (Qca Ty.f40_3 rfl (off':=3) rfl (so (Qea rfl rfl (Qga Ty.k26 (c:=sL encI p0.Out) rfl (sa (sL encI p0.Out) rfl (RS.nil (T.rt (Qna (v:=sL encI p0.Out) rfl (Qra ?_)))))))))))
   exact Qya (v:=sL encI p0.Out) rfl (Qia Jua _) ⟨congrArg (fun r:List Int=>(sL encI r:AV)) (Option.some.inj h),rfl⟩
  replace h:=ite_F h hb_1
  refine T.skip (T.seq ?_)
  obtain ⟨x2,hx2,h⟩:=bind_some h
  refine T.region (so (Qea rfl rfl (Qqa Ty.k46 Ty.c46 rfl (cs:=[iI p1.Key,iI p1.Val,iI p1.Dep]) rfl (sq (Qca Ty.f40_3 rfl (off':=3) rfl (so (Qea rfl rfl (Qga Ty.k26 (c:=sL encI p0.Out) rfl (sq (Q2a Ty.s26 rfl (so (Jia (as0:=[.agg [iI p1.Key,iI p1.Val,iI p1.Dep],iI ((p0.Out).length:Int)]) (as1:=[.agg [iI p1.Key,iI p1.Val,iI p1.Dep],iI ((p0.Out).length:Int)]) (caps:=[]) (aw1:=[.box [iI p0.Kind,iI p0.A,sL encI p0.In,sL encI p0.Out],.box [iI p1.Key,iI p1.Val,iI p1.Dep]]) rfl rfl rfl (Zja (v:=.tup [iI x2.1,iI x2.2]) (stage_Lane_c p1 ((p0.Out).length:Int) x2 hx2) (⟨Qsa _ (Qka (⟨Qfa _ _,Qfa _ _,Qfa _ _,trivial⟩)),Qfa _ _,trivial⟩) rfl (sm (.tup [iI x2.1,iI x2.2]) rfl (sq (Qwa (v:=iI x2.1) rfl rfl (sq (Qwa (v:=iI x2.2) rfl rfl (sa (iI x2.1) rfl ?_)))))))))))))))))))
  refine sa (iI x2.2) rfl (RS.nil (T.seq ?_))
  obtain ⟨x4,hx4,h⟩:=bind_some h
  refine T.region (sq (Qca Ty.f40_3 rfl (off':=3) rfl (so (Qea rfl rfl (Qga Ty.k26 (c:=sL encI p0.Out) rfl (sm (iI x2.1) rfl (sm (iI x2.1) rfl (sq (v_add rfl rfl (so (o_slice_sl Ty.s26 (fun _=>rfl) rfl rfl rfl hx4 (sa (sL encI x4) rfl (RS.nil (T.rt ?_))))))))))))))
  refine Qna (v:=sL encI x4) rfl (Qra ?_)
  exact Qya (v:=sL encI x4) rfl (Qia Jua _) ⟨congrArg (fun r:List Int=>(sL encI r:AV)) (Option.some.inj h),rfl⟩
theorem move_can_1_xbf12_c (p0:Int) (p1:List Int) (p2:List (List Item)) (p3:List Memory) (p4:List Choice) (p5:List Item) (p6:List Node) (p7:Int) (p8:Int) (r:Bool) (h:Qlb p0 p1 p2 p3 p4 p5 p6 p7 p8=some r):FnX Try.prog 96 [iI p0,.ptr 0 0,.ptr 1 0] [.box [sL encI p1,sL (encL Qaa) p2,sL Qba p3,sL Qda p4,sL Qaa p5],.box [sL Qha p6,iI p7,iI p8]] (.bool r) [.box [sL encI p1,sL (encL Qaa) p2,sL Qba p3,sL Qda p4,sL Qaa p5],.box [sL Qha p6,iI p7,iI p8]]:=by
  unfold Qlb at h
  refine Jka (N:=2) rfl Try.func96 rfl (by kernel_rfl) Try.ntmps96 rfl ?_
  show T _ _ _ _ (mkA 14 [(0,iI p0),(1,.ptr 0 0),(2,.ptr 1 0)]) [.box [sL encI p1,sL (encL Qaa) p2,sL Qba p3,sL Qda p4,sL Qaa p5],.box [sL Qha p6,iI p7,iI p8]]
  refine T.seq (T.region (sa (.bool false) rfl (RS.nil (T.seq ?_))))
  obtain ⟨x2,hx2,h⟩:=bind_some h
  refine T.drawn mixed (k:=10) rfl (rt0 0 rfl (Qca Ty.f31_1 rfl (off':=1) rfl (rt0 2 rfl (Qza (v:=iI p0) rfl (rt0 6 rfl (Qca Ty.f24_2 rfl (off':=2) rfl (rl0 [1,3,4,5,8,9] 1 rfl (Qxa rfl rfl (Qga Ty.k25 (c:=sL (encL Qaa) p2) rfl (rt0 3 rfl (Q0a Ty.s25 (fun _=>rfl) rfl rfl hx2 (rl0 [4,5,8,9] 4 rfl (Y8a rfl (Qga Ty.k29 (c:=sL Qaa x2) rfl (rt0 5 rfl (Q2a Ty.s29 rfl (ra1 7 (RO.op rfl rfl (Qea rfl rfl (Qga Ty.k3 (c:=iI p8) rfl ?_))))))))))))))))))))
  refine rt0 8 rfl (v_geq rfl rfl (rt0 9 rfl (Jta (v:=.bool (decide (((x2).length:Int) ≥ p8))) rfl (RA.done (by decide +kernel) (T.rt (Qna (v:=.bool (decide (((x2).length:Int) ≥ p8))) rfl (Qra ?_)))))))
  exact Vxa (v:=.bool (decide (((x2).length:Int) ≥ p8))) (aw1:=[.box [sL encI p1,sL (encL Qaa) p2,sL Qba p3,sL Qda p4,sL Qaa p5],.box [sL Qha p6,iI p7,iI p8]]) (.bool r) [0,1] rfl (by decide) (by decide) (Jwa (congrArg (fun r:Bool=>r) (Option.some.inj h)).symm) (Joa (cs:=[sL encI p1,sL (encL Qaa) p2,sL Qba p3,sL Qda p4,sL Qaa p5]) (ds:=[sL encI p1,sL (encL Qaa) p2,sL Qba p3,sL Qda p4,sL Qaa p5]) rfl ⟨rn_s rfl,rn_s rfl,rn_s rfl,rn_s rfl,rn_s rfl,trivial⟩ (Joa (cs:=[sL Qha p6,iI p7,iI p8]) (ds:=[sL Qha p6,iI p7,iI p8]) rfl ⟨rn_s rfl,Qla rfl,Qla rfl,trivial⟩ (Qva))) ⟨rfl,rfl⟩
theorem slices_IndexFunc_int_x9c8e_c (p0:List Int) (p1:List Int) (p2:List (List Item)) (p3:List Memory) (p4:List Choice) (p5:List Item) (p6:List Node) (p7:Int) (p8:Int) (r:Int) (h:Z4a p0 p1 p2 p3 p4 p5 p6 p7 p8=some r):FnX Try.prog 122 [sL encI p0,.func 96 [.ptr 0 0,.ptr 1 0]] [.box [sL encI p1,sL (encL Qaa) p2,sL Qba p3,sL Qda p4,sL Qaa p5],.box [sL Qha p6,iI p7,iI p8]] (iI r) [.box [sL encI p1,sL (encL Qaa) p2,sL Qba p3,sL Qda p4,sL Qaa p5],.box [sL Qha p6,iI p7,iI p8]]:=by
  unfold Z4a at h
  refine Jka (N:=2) rfl Try.func122 rfl (by kernel_rfl) Try.ntmps122 rfl ?_
  show T _ _ _ _ (mkA 19 [(0,sL encI p0),(1,.func 96 [.ptr 0 0,.ptr 1 0])]) [.box [sL encI p1,sL (encL Qaa) p2,sL Qba p3,sL Qda p4,sL Qaa p5],.box [sL Qha p6,iI p7,iI p8]]
  refine T.seq (T.region (sa (iI 0) rfl (RS.nil (T.seq (T.seq (T.region (sm (sL encI p0) rfl (sq (Q2a Ty.s26 rfl (sm (iI 0) rfl ?_))))))))))
  refine RS.nil (T.block (T.iter (fun ss_5:Int=>mkA 19 [(0,sL encI p0),(1,.func 96 [.ptr 0 0,.ptr 1 0]),(7,iI ((p0).length:Int)),(8,iI ss_5)]) (fun ss_5=>[.box [sL encI p1,sL (encL Qaa) p2,sL Qba p3,sL Qda p4,sL Qaa p5],.box [sL Qha p6,iI p7,iI p8]]) h (Weak.mkN [] [0,1] (by decide) (by decide) rfl ⟨rn_s rfl,Zta ⟨Qua rfl,Qua rfl,trivial⟩,Qla rfl,Qla rfl,trivial⟩ (rw_bs [sL encI p1,sL (encL Qaa) p2,sL Qba p3,sL Qda p4,sL Qaa p5] rfl (rw_bs [sL Qha p6,iI p7,iI p8] rfl (Qva)))) (fun ss_5 v_6 h hv_6=>?_)))
  revert hv_6 h;revert ss_5;intro s1 h hv_6
  replace h:Zda p0 p1 p2 p3 p4 p5 p6 p7 p8 s1=some v_6:=h
  try dsimp only
  unfold Zda at h
  refine T.seq (T.region (sq (v_lss rfl rfl (RS.nil (T.seq (T.cond (b:=decide (s1<((p0).length:Int))) rfl (fun hb_7=>?_) (fun hb_7=>?_)))))))
  ·replace h:=ite_T h hb_7
   refine T.skip (T.seq (T.block (T.seq (T.region (sm (iI s1) rfl (sa (iI s1) rfl (RS.nil (T.seq ?_))))))))
   obtain ⟨x4,hx4,h⟩:=bind_some h
   obtain ⟨x5,hx5,h⟩:=bind_some h
   refine T.region (sm (.func 96 [.ptr 0 0,.ptr 1 0]) rfl (sm (sL encI p0) rfl (sm (iI s1) rfl (sq (Q0a Ty.s26 (fun _=>rfl) rfl rfl hx4 (so (Q8a rfl (Qga Ty.k3 (c:=iI x4) rfl (so (Vva (ac:=[iI x4,.ptr 0 0,.ptr 1 0]) (as0:=[iI x4,.ptr 0 0,.ptr 1 0]) (aw0:=[.box [sL encI p1,sL (encL Qaa) p2,sL Qba p3,sL Qda p4,sL Qaa p5],.box [sL Qha p6,iI p7,iI p8]]) (aw1:=[.box [sL encI p1,sL (encL Qaa) p2,sL Qba p3,sL Qda p4,sL Qaa p5],.box [sL Qha p6,iI p7,iI p8]]) (aw2:=[.box [sL encI p1,sL (encL Qaa) p2,sL Qba p3,sL Qda p4,sL Qaa p5],.box [sL Qha p6,iI p7,iI p8]]) (v:=.bool x5) (v':=.bool x5) (n0:=2) (n1:=2) [0,1] rfl rfl rfl rfl (by decide) (Joa (cs:=[sL encI p1,sL (encL Qaa) p2,sL Qba p3,sL Qda p4,sL Qaa p5]) (ds:=[sL encI p1,sL (encL Qaa) p2,sL Qba p3,sL Qda p4,sL Qaa p5]) rfl ⟨rn_s rfl,rn_s rfl,rn_s rfl,rn_s rfl,rn_s rfl,trivial⟩ (Joa (cs:=[sL Qha p6,iI p7,iI p8]) (ds:=[sL Qha p6,iI p7,iI p8]) rfl ⟨rn_s rfl,Qla rfl,Qla rfl,trivial⟩ (Qva))) ⟨Qla rfl,Qua rfl,Qua rfl,trivial⟩ (move_can_1_xbf12_c x4 p1 p2 p3 p4 p5 p6 p7 p8 x5 hx5) rfl (Jla (Jba _)) ⟨.inl ⟨0,_,by decide,rfl,V0a (cs:=[sL encI p1,sL (encL Qaa) p2,sL Qba p3,sL Qda p4,sL Qaa p5]) (ds:=[sL encI p1,sL (encL Qaa) p2,sL Qba p3,sL Qda p4,sL Qaa p5]) ⟨Jla (Qia Jua _),Jla (Qia (Jsa Qoa) _),Jla (Qia Q1a _),Jla (Qia Q4a _),Jla (Qia Qoa _),trivial⟩⟩,.inl ⟨1,_,by decide,rfl,V0a (cs:=[sL Qha p6,iI p7,iI p8]) (ds:=[sL Qha p6,iI p7,iI p8]) ⟨Jla (Qia J0a _),Jla (Qfa _ _),Jla (Qfa _ _),trivial⟩⟩,trivial⟩ (RS.nil (T.cond (b:=x5) rfl (fun hb_8=>?_) (fun hb_8=>?_)))))))))))))
   ·replace h:=ite_T h hb_8
    refine T.seq (T.region (sm (iI s1) rfl (sa (iI s1) rfl (RS.nil (T.rt ?_)))))
    obtain ⟨w_9,h,hw_9⟩:=Jja h
    replace h:=h.trans (congrArg some (hv_6 _ hw_9))
    refine Qna (v:=iI s1) rfl (Qra ?_)
    exact Vxa (v:=iI s1) (aw1:=[.box [sL encI p1,sL (encL Qaa) p2,sL Qba p3,sL Qda p4,sL Qaa p5],.box [sL Qha p6,iI p7,iI p8]]) (iI r) [0,1] rfl (by decide) (by decide) (Qla (congrArg (fun r:Int=>r) (Option.some.inj h)).symm) (Joa (cs:=[sL encI p1,sL (encL Qaa) p2,sL Qba p3,sL Qda p4,sL Qaa p5]) (ds:=[sL encI p1,sL (encL Qaa) p2,sL Qba p3,sL Qda p4,sL Qaa p5]) rfl ⟨rn_s rfl,rn_s rfl,rn_s rfl,rn_s rfl,rn_s rfl,trivial⟩ (Joa (cs:=[sL Qha p6,iI p7,iI p8]) (ds:=[sL Qha p6,iI p7,iI p8]) rfl ⟨rn_s rfl,Qla rfl,Qla rfl,trivial⟩ (Qva))) ⟨rfl,rfl⟩
   replace h:=ite_F h hb_8
   refine T.skip (T.region (sq (v_add rfl rfl (sm (iI (IntKind.i64.wrap (s1+1))) rfl (RS.nil ?_)))))
   exact ⟨IntKind.i64.wrap (s1+1),(Option.some.inj h).symm,Weak.mkN [] [0,1] (by decide) (by decide) rfl ⟨rn_s rfl,Zta ⟨Qua rfl,Qua rfl,trivial⟩,Qla rfl,Qla rfl,trivial⟩ (rw_bs [sL encI p1,sL (encL Qaa) p2,sL Qba p3,sL Qda p4,sL Qaa p5] rfl (rw_bs [sL Qha p6,iI p7,iI p8] rfl (Qva)))⟩
  replace h:=ite_F h hb_7
  refine T.exit ?_
  obtain ⟨w_10,h,hw_10⟩:=Jja h
  replace h:=h.trans (congrArg some (hv_6 _ hw_10))
  refine T.seq (T.region (sa (iI (-1)) rfl (RS.nil (T.rt (Qna (v:=iI (-1)) rfl (Qra ?_))))))
  exact Vxa (v:=iI (-1)) (aw1:=[.box [sL encI p1,sL (encL Qaa) p2,sL Qba p3,sL Qda p4,sL Qaa p5],.box [sL Qha p6,iI p7,iI p8]]) (iI r) [0,1] rfl (by decide) (by decide) (Qla (congrArg (fun r:Int=>r) (Option.some.inj h)).symm) (Joa (cs:=[sL encI p1,sL (encL Qaa) p2,sL Qba p3,sL Qda p4,sL Qaa p5]) (ds:=[sL encI p1,sL (encL Qaa) p2,sL Qba p3,sL Qda p4,sL Qaa p5]) rfl ⟨rn_s rfl,rn_s rfl,rn_s rfl,rn_s rfl,rn_s rfl,trivial⟩ (Joa (cs:=[sL Qha p6,iI p7,iI p8]) (ds:=[sL Qha p6,iI p7,iI p8]) rfl ⟨rn_s rfl,Qla rfl,Qla rfl,trivial⟩ (Qva))) ⟨rfl,rfl⟩
theorem slices_ContainsFunc_int_x9c8e_c (p0:List Int) (p1:List Int) (p2:List (List Item)) (p3:List Memory) (p4:List Choice) (p5:List Item) (p6:List Node) (p7:Int) (p8:Int) (r:Bool) (h:Zga p0 p1 p2 p3 p4 p5 p6 p7 p8=some r):FnX Try.prog 95 [sL encI p0,.func 96 [.ptr 0 0,.ptr 1 0]] [.box [sL encI p1,sL (encL Qaa) p2,sL Qba p3,sL Qda p4,sL Qaa p5],.box [sL Qha p6,iI p7,iI p8]] (.bool r) [.box [sL encI p1,sL (encL Qaa) p2,sL Qba p3,sL Qda p4,sL Qaa p5],.box [sL Qha p6,iI p7,iI p8]]:=by
  unfold Zga at h
  refine Jka (N:=2) rfl Try.func95 rfl (by kernel_rfl) Try.ntmps95 rfl ?_
  show T _ _ _ _ (mkA 9 [(0,sL encI p0),(1,.func 96 [.ptr 0 0,.ptr 1 0])]) [.box [sL encI p1,sL (encL Qaa) p2,sL Qba p3,sL Qda p4,sL Qaa p5],.box [sL Qha p6,iI p7,iI p8]]
  refine T.seq (T.region (sa (.bool false) rfl (RS.nil (T.seq ?_))))
  obtain ⟨x2,hx2,h⟩:=bind_some h
  refine T.region (sm (sL encI p0) rfl (sm (.func 96 [.ptr 0 0,.ptr 1 0]) rfl (so (Vva (ac:=[sL encI p0,.func 96 [.ptr 0 0,.ptr 1 0]]) (as0:=[sL encI p0,.func 96 [.ptr 0 0,.ptr 1 0]]) (aw0:=[.box [sL encI p1,sL (encL Qaa) p2,sL Qba p3,sL Qda p4,sL Qaa p5],.box [sL Qha p6,iI p7,iI p8]]) (aw1:=[.box [sL encI p1,sL (encL Qaa) p2,sL Qba p3,sL Qda p4,sL Qaa p5],.box [sL Qha p6,iI p7,iI p8]]) (aw2:=[.box [sL encI p1,sL (encL Qaa) p2,sL Qba p3,sL Qda p4,sL Qaa p5],.box [sL Qha p6,iI p7,iI p8]]) (v:=iI x2) (v':=iI x2) (n0:=2) (n1:=2) [0,1] rfl rfl rfl rfl (by decide) (Joa (cs:=[sL encI p1,sL (encL Qaa) p2,sL Qba p3,sL Qda p4,sL Qaa p5]) (ds:=[sL encI p1,sL (encL Qaa) p2,sL Qba p3,sL Qda p4,sL Qaa p5]) rfl ⟨rn_s rfl,rn_s rfl,rn_s rfl,rn_s rfl,rn_s rfl,trivial⟩ (Joa (cs:=[sL Qha p6,iI p7,iI p8]) (ds:=[sL Qha p6,iI p7,iI p8]) rfl ⟨rn_s rfl,Qla rfl,Qla rfl,trivial⟩ (Qva))) ⟨rn_s rfl,Zta ⟨Qua rfl,Qua rfl,trivial⟩,trivial⟩ (slices_IndexFunc_int_x9c8e_c p0 p1 p2 p3 p4 p5 p6 p7 p8 x2 hx2) rfl (Jla (Qfa _ _)) ⟨.inl ⟨0,_,by decide,rfl,V0a (cs:=[sL encI p1,sL (encL Qaa) p2,sL Qba p3,sL Qda p4,sL Qaa p5]) (ds:=[sL encI p1,sL (encL Qaa) p2,sL Qba p3,sL Qda p4,sL Qaa p5]) ⟨Jla (Qia Jua _),Jla (Qia (Jsa Qoa) _),Jla (Qia Q1a _),Jla (Qia Q4a _),Jla (Qia Qoa _),trivial⟩⟩,.inl ⟨1,_,by decide,rfl,V0a (cs:=[sL Qha p6,iI p7,iI p8]) (ds:=[sL Qha p6,iI p7,iI p8]) ⟨Jla (Qia J0a _),Jla (Qfa _ _),Jla (Qfa _ _),trivial⟩⟩,trivial⟩ (sq (v_geq rfl rfl (sa (.bool (decide (x2 ≥ 0))) rfl (RS.nil (T.rt (Qna (v:=.bool (decide (x2 ≥ 0))) rfl (Qra ?_)))))))))))
  exact Vxa (v:=.bool (decide (x2 ≥ 0))) (aw1:=[.box [sL encI p1,sL (encL Qaa) p2,sL Qba p3,sL Qda p4,sL Qaa p5],.box [sL Qha p6,iI p7,iI p8]]) (.bool r) [0,1] rfl (by decide) (by decide) (Jwa (congrArg (fun r:Bool=>r) (Option.some.inj h)).symm) (Joa (cs:=[sL encI p1,sL (encL Qaa) p2,sL Qba p3,sL Qda p4,sL Qaa p5]) (ds:=[sL encI p1,sL (encL Qaa) p2,sL Qba p3,sL Qda p4,sL Qaa p5]) rfl ⟨rn_s rfl,rn_s rfl,rn_s rfl,rn_s rfl,rn_s rfl,trivial⟩ (Joa (cs:=[sL Qha p6,iI p7,iI p8]) (ds:=[sL Qha p6,iI p7,iI p8]) rfl ⟨rn_s rfl,Qla rfl,Qla rfl,trivial⟩ (Qva))) ⟨rfl,rfl⟩
end Go.Proofs.Ytfbmoockopakjaa
namespace Go.Proofs.Ytfbmoockopakjaa
open Go.RowKit
set_option linter.unusedVariables false
set_option linter.unusedSimpArgs false
set_option maxRecDepth 100000
set_option maxHeartbeats 4000000
theorem stage_Check_c (p0:Memory) (r:Int) (h:Y5a p0=some r):Fn Try.prog 60 [.agg [iI p0.Sum,sL Qja p0.Keys,iI p0.Dep]] (iI r):=by
  unfold Y5a at h
  refine Jka (N:=0) rfl Try.func60 rfl (by kernel_rfl) Try.ntmps60 rfl ?_
  show T _ _ _ _ (mkA 40 [(0,.agg [iI p0.Sum,sL Qja p0.Keys,iI p0.Dep])]) []
  refine T.seq (T.region (so (o_box (cs:=[iI p0.Sum,sL Qja p0.Keys,iI p0.Dep]) rfl rfl rfl (sa (iI 0) rfl (RS.nil (T.seq (T.seq (T.region (sq (Qca Ty.f66_1 rfl (off':=1) rfl (so (Qea rfl rfl (Qga Ty.k64 (c:=sL Qja p0.Keys) rfl ?_)))))))))))))
  refine sq (Q2a Ty.s64 rfl (sq (v_gtr rfl rfl (RS.nil (T.cond (b:=decide (((p0.Keys).length:Int) > 6)) rfl (fun hb_1=>?_) (fun hb_1=>?_))))))
  ·replace h:=ite_T h hb_1
   refine T.seq (T.region (sa (iI 2) rfl (RS.nil (T.rt (Qna (v:=iI 2) rfl (Qra ?_))))))
   exact Qya (v:=iI 2) rfl (Qfa _ _) ⟨congrArg (fun r:Int=>(iI r:AV)) (Option.some.inj h),rfl⟩
  replace h:=ite_F h hb_1
  refine T.skip (T.seq (T.seq (T.region (sq (Qca Ty.f66_1 rfl (off':=1) rfl (so (Qea rfl rfl (Qga Ty.k64 (c:=sL Qja p0.Keys) rfl (sq (Q2a Ty.s64 rfl (sm (iI 0) rfl (RS.nil (T.block ?_)))))))))))))
  refine T.iter (fun ss_18:Int=>mkA 40 [(1,.ptr 0 0),(10,sL Qja p0.Keys),(11,iI ((p0.Keys).length:Int)),(12,iI ss_18)]) (fun ss_18=>[.box [iI p0.Sum,sL Qja p0.Keys,iI p0.Dep]]) h (Weak.mkN [] [0] (by decide) (Qpa _) rfl ⟨Qua rfl,rn_s rfl,Qla rfl,Qla rfl,trivial⟩ (rw_bs [iI p0.Sum,sL Qja p0.Keys,iI p0.Dep] rfl (Qva))) (fun ss_18 v_19 h hv_19=>?_)
  revert hv_19 h;revert ss_18;intro s1 h hv_19
  replace h:Zua p0 s1=some v_19:=h
  try dsimp only
  unfold Zua at h
  refine T.seq (T.region (sq (v_lss rfl rfl (RS.nil (T.seq (T.cond (b:=decide (s1<((p0.Keys).length:Int))) rfl (fun hb_20=>?_) (fun hb_20=>?_)))))))
  ·replace h:=ite_T h hb_20
   refine T.skip (T.seq (T.block (T.seq ?_)))
   obtain ⟨x3,hx3,h⟩:=bind_some h
   refine T.region (sm (iI s1) rfl (sq (Q0a Ty.s64 (fun _=>rfl) rfl rfl hx3 (so (Q8a rfl (Qqa Ty.k69 Ty.c69 rfl (cs:=[iI x3.Key,iI x3.N]) rfl (so (Jxa Ty.z69 rfl rfl (sa (iI s1) rfl (so (Qma Ty.c69 Ty.i69 rfl (vs:=[iI x3.Key,iI x3.N]) rfl rfl rfl rfl (cs':=[iI x3.Key,iI x3.N]) rfl rfl (RS.nil ?_))))))))))))
   obtain ⟨zt_23,hz,h⟩:=bind_some h
   revert hz h;revert zt_23;intro c5 hz h
   refine T.join (Z:=Unit) (fun _=>mkA 40 [(1,.ptr 0 0),(10,sL Qja p0.Keys),(11,iI ((p0.Keys).length:Int)),(12,iI s1),(35,.bool c5)]) (fun _=>[.box [iI p0.Sum,sL Qja p0.Keys,iI p0.Dep]]) (fun _=>True) (fun _ _=>?_) (fun hK=>?_)
   ·refine T.cond (b:=c5) rfl (fun hb_24=>?_) (fun hb_24=>?_)
    ·replace h:=ite_T h hb_24
     refine T.seq (T.region (sa (iI 4) rfl (RS.nil (T.rt ?_))))
     obtain ⟨w_25,h,hw_25⟩:=Jja h
     replace h:=h.trans (congrArg some (hv_19 _ hw_25))
     refine Qna (v:=iI 4) rfl (Qra ?_)
     exact Qya (v:=iI 4) rfl (Qfa _ _) ⟨congrArg (fun r:Int=>(iI r:AV)) (Option.some.inj h),rfl⟩
    replace h:=ite_F h hb_24
    refine T.skip (T.region (sq (v_add rfl rfl (sm (iI (IntKind.i64.wrap (s1+1))) rfl (RS.nil ?_)))))
    exact ⟨IntKind.i64.wrap (s1+1),(Option.some.inj h).symm,Weak.mkN [] [0] (by decide) (Qpa _) rfl ⟨Qua rfl,rn_s rfl,Qla rfl,Qla rfl,trivial⟩ (rw_bs [iI p0.Sum,sL Qja p0.Keys,iI p0.Dep] rfl (Qva))⟩
   rcases Q3a (decide (x3.N<1)) with hb_21 | hb_21
   ·replace hz:=ite_T hz hb_21
    refine T.drawn mixed (k:=19) rfl (rt0 0 rfl (Qca Ty.f69_1 rfl (off':=1) rfl (ra1 1 (RO.op rfl rfl (Qea rfl rfl (Qga Ty.k3 (c:=iI x3.N) rfl (rt0 2 rfl (v_lss rfl rfl (rt0 3 rfl (Qza (v:=.bool (decide (x3.N<1))) rfl (rt2 4 rfl hb_21 (rt2 5 rfl hb_21 (rt2 6 rfl hb_21 (rt3 7 rfl ?_))))))))))))))
    refine rt3 8 rfl (rt3 9 rfl (rt3 10 rfl (rt3 11 rfl (rt3 12 rfl (rt3 13 rfl (rt3 14 rfl (rt3 15 rfl (rt3 16 rfl (rt2 17 rfl hb_21 ?_)))))))))
    refine rt0 18 rfl (Jea (v:=.bool true) rfl hb_21 rfl (RA.done (by decide +kernel) ?_))
    exact T.weakR (hK () trivial) (Weak.mkN [] [0] (by decide) (Qpa _) rfl ⟨Qua rfl,rn_s rfl,Qla rfl,Qla rfl,Jwa ((congrArg (fun p=>p) (Option.some.inj hz)).symm),trivial⟩ (rw_bs [iI p0.Sum,sL Qja p0.Keys,iI p0.Dep] rfl (Qva)))
   replace hz:=ite_F hz hb_21
   rcases Q3a (decide (s1 > 0)) with hb_22 | hb_22
   ·replace hz:=ite_T hz hb_22
    obtain ⟨x4,hx4,hz⟩:=bind_some hz
    refine T.drawn mixed (k:=19) rfl ?_
    let l28:List (Nat × AV):=[(1,.ptr 0 0),(3,iI s1),(4,.ptr 1 0),(10,sL Qja p0.Keys),(11,iI ((p0.Keys).length:Int)),(12,iI s1),(13,.bool (decide (s1<((p0.Keys).length:Int)))),(14,iI s1),(15,.elt (Qja x3) 0),(16,.agg [iI x3.Key,iI x3.N])]
    let a28:List Ob:=[.box [iI p0.Sum,sL Qja p0.Keys,iI p0.Dep],.box [iI x3.Key,iI x3.N]]
    refine RA.join 0 #[true,true,true,true,true,true,true,true,true,true,true,true,true,true,true,true,true,true,true] (mkA 40 ((17,.ptr 1 1)::(18,iI x3.N)::(19,.bool (decide (x3.N<1)))::(20,.bool (decide (x3.N<1)))::(21,iI s1)::(22,.bool (decide (s1 > 0)))::(23,.bool (decide (s1 > 0)))::(24,.ptr 0 1)::(25,sL Qja p0.Keys)::(26,iI s1)::(27,iI (IntKind.i64.wrap (s1 - 1)))::(28,.elt (Qja x4) 0)::(29,.elt (Qja x4) 0)::(30,iI x4.Key)::(31,.ptr 1 0)::(32,iI x3.Key)::(33,.bool (decide (x4.Key ≥ x3.Key)))::(34,.bool (decide (x4.Key ≥ x3.Key)))::(35,.bool (decide (x4.Key ≥ x3.Key)))::l28)) a28 ?_ (fun hS26=>?_)
    ·refine RA.done (by decide +kernel) ?_
     exact T.weakR (hK () trivial) (Weak.mkN [] [0] (by decide) (Qpa _) rfl ⟨Qua rfl,rn_s rfl,Qla rfl,Qla rfl,Jwa ((congrArg (fun p=>p) (Option.some.inj hz)).symm),trivial⟩ (rw_bs [iI p0.Sum,sL Qja p0.Keys,iI p0.Dep] rfl (Qva)))
    ·refine RA.join 4 #[true,true,true,true,true,true,true,true,true,true,true,true,true,false,true,true,false,false,false] (mkA 40 ((17,.ptr 1 1)::(18,iI x3.N)::(19,.bool (decide (x3.N<1)))::(20,.bool (decide (x3.N<1)))::(21,iI s1)::(22,.bool (decide (s1 > 0)))::(23,.bool (decide (s1 > 0)))::(24,.ptr 0 1)::(25,sL Qja p0.Keys)::(26,iI s1)::(27,iI (IntKind.i64.wrap (s1 - 1)))::(28,.elt (Qja x4) 0)::(29,.elt (Qja x4) 0)::(31,.ptr 1 0)::(32,iI x3.Key)::l28)) a28 ?_ (fun hS27=>?_)
     ·refine ra1 13 (RO.yes rfl rfl rfl rfl hb_22 (Q8a rfl (Qga Ty.k3 (c:=iI x4.Key) rfl (rt1 16 rfl hb_22 (v_geq rfl rfl (rt1 17 rfl hb_21 (Jea (v:=.bool (decide (x4.Key ≥ x3.Key))) rfl hb_22 rfl (rt0 18 rfl (Q5a (v:=.bool (decide (x4.Key ≥ x3.Key))) rfl hb_21 rfl ?_)))))))))
      exact raS hS26 ⟨rfl,rfl,rfl,rfl,rfl,rfl,rfl,rfl,rfl,rfl,rfl,rfl,rfl,rfl,rfl,rfl,rfl,rfl,rfl,rfl,rfl,rfl,rfl,rfl,rfl,rfl,rfl,rfl,rfl,trivial⟩
     ·refine rt0 0 rfl (Qca Ty.f69_1 rfl (off':=1) rfl (ra1 1 (RO.op rfl rfl (Qea rfl rfl (Qga Ty.k3 (c:=iI x3.N) rfl (rt0 2 rfl (v_lss rfl rfl (rt0 3 rfl (Qza (v:=.bool (decide (x3.N<1))) rfl (rt1 4 rfl hb_21 (Qza (v:=iI s1) rfl (rt1 5 rfl hb_21 (v_gtr rfl rfl (rt1 6 rfl hb_21 (Qza (v:=.bool (decide (s1 > 0))) rfl (rt1 7 rfl hb_22 (Qca Ty.f66_1 rfl (off':=1) rfl (rt1 9 rfl hb_22 (Qza (v:=iI s1) rfl ?_)))))))))))))))))))
      refine rt1 10 rfl hb_22 (v_sub rfl rfl (rt1 14 rfl hb_22 (Qca Ty.f69_0 rfl (off':=0) rfl (ra2 8 15 ?_ ?_))))
      ·refine RO.yes rfl rfl rfl rfl hb_22 (Qea rfl rfl (Qga Ty.k64 (c:=sL Qja p0.Keys) rfl (rt1 11 rfl hb_22 (Q0a Ty.s64 (fun _=>rfl) rfl rfl hx4 (rt1 12 rfl hb_22 (Zfa Ty.f69_0 rfl (off':=0) rfl (ra2 13 15 ?_ ?_)))))))
       ·refine RO.yes rfl rfl rfl rfl hb_22 (Q8a rfl (Qga Ty.k3 (c:=iI x4.Key) rfl (ra1 15 (RO.yes rfl rfl rfl rfl hb_22 (Qea rfl rfl (Qga Ty.k3 (c:=iI x3.Key) rfl (rt1 16 rfl hb_22 (v_geq rfl rfl (rt1 17 rfl hb_21 (Jea (v:=.bool (decide (x4.Key ≥ x3.Key))) rfl hb_22 rfl (rt0 18 rfl (Q5a (v:=.bool (decide (x4.Key ≥ x3.Key))) rfl hb_21 rfl ?_))))))))))))
        exact raS hS26 ⟨rfl,rfl,rfl,rfl,rfl,rfl,rfl,rfl,rfl,rfl,rfl,rfl,rfl,rfl,rfl,rfl,rfl,rfl,rfl,rfl,rfl,rfl,rfl,rfl,rfl,rfl,rfl,rfl,rfl,trivial⟩
       ·refine RO.yes rfl rfl rfl rfl hb_22 (Qea rfl rfl (Qga Ty.k3 (c:=iI x3.Key) rfl ?_))
        exact raS hS27 ⟨rfl,rfl,rfl,rfl,rfl,rfl,rfl,rfl,rfl,rfl,rfl,rfl,rfl,rfl,rfl,rfl,rfl,rfl,rfl,rfl,rfl,rfl,rfl,rfl,rfl,trivial⟩
      ·refine RO.yes rfl rfl rfl rfl hb_22 (Qea rfl rfl (Qga Ty.k3 (c:=iI x3.Key) rfl (ra1 8 (RO.yes rfl rfl rfl rfl hb_22 (Qea rfl rfl (Qga Ty.k64 (c:=sL Qja p0.Keys) rfl (rt1 11 rfl hb_22 (Q0a Ty.s64 (fun _=>rfl) rfl rfl hx4 (rt1 12 rfl hb_22 (Zfa Ty.f69_0 rfl (off':=0) rfl ?_))))))))))
       exact raS hS27 ⟨rfl,rfl,rfl,rfl,rfl,rfl,rfl,rfl,rfl,rfl,rfl,rfl,rfl,rfl,rfl,rfl,rfl,rfl,rfl,rfl,rfl,rfl,rfl,rfl,rfl,trivial⟩
   replace hz:=ite_F hz hb_22
   refine T.drawn mixed (k:=19) rfl (rt0 0 rfl (Qca Ty.f69_1 rfl (off':=1) rfl (ra1 1 (RO.op rfl rfl (Qea rfl rfl (Qga Ty.k3 (c:=iI x3.N) rfl (rt0 2 rfl (v_lss rfl rfl (rt0 3 rfl (Qza (v:=.bool (decide (x3.N<1))) rfl (rt1 4 rfl hb_21 (Qza (v:=iI s1) rfl (rt1 5 rfl hb_21 (v_gtr rfl rfl (rt1 6 rfl hb_21 (Qza (v:=.bool (decide (s1 > 0))) rfl (rt2 7 rfl hb_22 ?_)))))))))))))))))
   refine rt2 8 rfl hb_22 (rt2 9 rfl hb_22 (rt2 10 rfl hb_22 (rt2 11 rfl hb_22 (rt2 12 rfl hb_22 (rt2 13 rfl hb_22 (rt2 14 rfl hb_22 (rt2 15 rfl hb_22 (rt2 16 rfl hb_22 (rt1 17 rfl hb_21 (Q5a (v:=.bool false) rfl hb_22 rfl ?_))))))))))
   refine rt0 18 rfl (Q5a (v:=.bool false) rfl hb_21 rfl (RA.done (by decide +kernel) ?_))
   exact T.weakR (hK () trivial) (Weak.mkN [] [0] (by decide) (Qpa _) rfl ⟨Qua rfl,rn_s rfl,Qla rfl,Qla rfl,Jwa ((congrArg (fun p=>p) (Option.some.inj hz)).symm),trivial⟩ (rw_bs [iI p0.Sum,sL Qja p0.Keys,iI p0.Dep] rfl (Qva)))
  replace h:=ite_F h hb_20
  refine T.exit ?_
  obtain ⟨w_29,h,hw_29⟩:=Jja h
  replace h:=h.trans (congrArg some (hv_19 _ hw_29))
  refine T.seq (T.seq (T.region (sq (Qca Ty.f66_2 rfl (off':=2) rfl (so (Qea rfl rfl (Qga Ty.k3 (c:=iI p0.Dep) rfl (sq (v_lss rfl rfl (RS.nil (T.cond (b:=decide (p0.Dep<0)) rfl (fun hb_30=>?_) (fun hb_30=>?_))))))))))))
  ·replace h:=ite_T h hb_30
   refine T.seq (T.region (sa (iI 3) rfl (RS.nil (T.rt (Qna (v:=iI 3) rfl (Qra ?_))))))
   exact Qya (v:=iI 3) rfl (Qfa _ _) ⟨congrArg (fun r:Int=>(iI r:AV)) (Option.some.inj h),rfl⟩
  replace h:=ite_F h hb_30
  refine T.skip (T.seq (T.region (sa (iI 0) rfl (RS.nil (T.rt (Qna (v:=iI 0) rfl (Qra ?_)))))))
  exact Qya (v:=iI 0) rfl (Qfa _ _) ⟨congrArg (fun r:Int=>(iI r:AV)) (Option.some.inj h),rfl⟩
theorem slices_Clone_Keyed_c (p0 r:List Keyed) (h:V4a p0=some r):FnO Try.prog 121 [.sl (List.map Qja p0)] (.ref 0) [.arr 69 2 (List.map Qja r)]:=by
  have hr:p0=r:=by
    unfold V4a app at h
    split at h
    · simpa using h
    · cases h
  refine Jka (N:=0) rfl Try.func121 rfl (by kernel_rfl) Try.ntmps121 rfl ?_
  show T _ _ _ _ (mkA 8 [(0,.sl (List.map Qja p0))]) []
  refine T.seq ?_
  refine T.region ?_
  refine RS.op rfl (OP.q rfl (Jta (v:=.nils) rfl ?_))
  refine RS.nil ?_
  refine T.seq ?_
  refine T.seq ?_
  refine T.region ?_
  refine RS.op rfl (OP.q rfl (Qza (v:=.sl (List.map Qja p0)) rfl ?_))
  refine RS.op rfl (OP.q rfl (v_nileq Ty.s64 rfl rfl (fun z hz=>?_)))
  refine RS.nil ?_
  refine T.cond (b:=z) rfl (fun hb=>?_) (fun hb=>?_)
  · refine T.seq ?_
    refine T.region ?_
    refine RS.op rfl (OP.q rfl (Jta (v:=.nils) rfl ?_))
    refine RS.nil ?_
    refine T.ret ?_
    refine Qna (v:=.nils) rfl ?_
    refine Qra ?_
    have h0:p0=[]:=List.map_eq_nil_iff.1 (hz hb)
    exact J3a (.ref 0) [(0,69,2)] [0] (by decide) (Qpa _) rfl (Qta rfl) (Jma (en:=Qja) (ys:=[]) rfl Q7a (by rw [← hr,h0]) (Qva)) ⟨rfl,rfl⟩
  · refine T.skip ?_
    refine T.seq ?_
    refine T.region ?_
    refine RS.op rfl (Jqa (rows:=List.map Qja []) (vs:=[]) Ty.s64 Ty.z69 rfl rfl rfl rfl rfl (aw':=[.arr 69 2 (List.map Qja [])]) rfl ?_)
    refine RS.op rfl (OP.q rfl (Qza (v:=.sl (List.map Qja p0)) rfl ?_))
    refine RS.op rfl (Y2a (en:=Qja) (xs:=([]:List Keyed)) (ys:=p0) (r:=r) Ty.s64 (fun _=>rfl) rfl rfl rfl h rfl (aw':=[.dead,.arr 69 2 (List.map Qja r)]) rfl ?_)
    refine RS.op rfl (OP.q rfl (Jta (v:=.ref 1) rfl ?_))
    refine RS.nil ?_
    refine T.ret ?_
    refine Qna (v:=.ref 1) rfl ?_
    refine Qra ?_
    exact J3a (.ref 0) [] [1] (by decide) (Qpa _) rfl (Qta rfl) (Jma rfl Q7a rfl (Qva)) ⟨rfl,rfl⟩
theorem stage_Copy_c (p0:Memory) (r:Memory) (h:stage_Copy p0=some r):FnO Try.prog 91 [.agg [iI p0.Sum,sL Qja p0.Keys,iI p0.Dep]] (.agg [iI r.Sum,.ref 0,iI r.Dep]) [aR 69 2 Qja r.Keys]:=by
  unfold stage_Copy at h
  refine Jka (N:=0) rfl Try.func91 rfl (by kernel_rfl) Try.ntmps91 rfl ?_
  show T _ _ _ _ (mkA 8 [(0,.agg [iI p0.Sum,sL Qja p0.Keys,iI p0.Dep])]) []
  refine T.seq (T.region (so (o_box (cs:=[iI p0.Sum,sL Qja p0.Keys,iI p0.Dep]) rfl rfl rfl (so (Jxa Ty.z66 rfl rfl (RS.nil (T.seq ?_)))))))
  obtain ⟨x2,hx2,h⟩:=bind_some h
  refine T.region (sq (Qca Ty.f66_1 rfl (off':=1) rfl (so (Qea rfl rfl (Qga Ty.k64 (c:=sL Qja p0.Keys) rfl (so (Jia (as0:=[sL Qja p0.Keys]) (as1:=[sL Qja p0.Keys]) (caps:=[]) (aw1:=[.box [iI p0.Sum,sL Qja p0.Keys,iI p0.Dep],.box [iI 0,.nils,iI 0]]) rfl rfl rfl (V5a (v:=.ref 0) (obs:=[aR 69 2 Qja x2]) (v':=.ref 2) (slices_Clone_Keyed_c p0.Keys x2 hx2) (⟨Qia Q7a _,trivial⟩) rfl (Zia (Jza fun _=>rfl) Z1a) rfl rfl (sq (Qca Ty.f66_1 rfl (off':=1) rfl (so (Qma Ty.c64 Ty.i64 rfl (vs:=[.ref 2]) rfl rfl rfl rfl (cs':=[iI p0.Sum,.ref 2,iI p0.Dep]) rfl rfl (RS.nil (T.seq (T.region (so (Qea rfl rfl (Qqa Ty.k66 Ty.c66 rfl (cs:=[iI p0.Sum,.ref 2,iI p0.Dep]) rfl ?_))))))))))))))))))
  refine so (Qma Ty.c66 Ty.i66 rfl (vs:=[iI p0.Sum,.ref 2,iI p0.Dep]) rfl rfl rfl rfl (cs':=[iI p0.Sum,.ref 2,iI p0.Dep]) rfl rfl (RS.nil (T.rt (Jfa (id:=1) (off:=0) (cs:=[iI p0.Sum,.ref 2,iI p0.Dep]) (v:=.agg [iI p0.Sum,.ref 2,iI p0.Dep]) ?_ ?_ ?_ ?_))))
  · rfl
  · rfl
  · exact fun K h=>(Qqa (row:=[iI p0.Sum,.ref 2,iI p0.Dep]) (off:=0) Ty.k66 Ty.c66 rfl (cs:=[iI p0.Sum,.ref 2,iI p0.Dep]) rfl h)
  refine Qra ?_
  exact J3a (.agg [iI r.Sum,.ref 0,iI r.Dep]) [] [2] (by decide) (Qpa _) rfl (J6a ⟨Qla (congrArg (fun r:Memory=>r.Sum) (Option.some.inj h)).symm,Qta rfl,Qla (congrArg (fun r:Memory=>r.Dep) (Option.some.inj h)).symm,trivial⟩) (Jma rfl Q7a (congrArg (fun r:Memory=>r.Keys) (Option.some.inj h)).symm (Qva)) ⟨rfl,rfl⟩
theorem stage_mapped_1_c (p0:Item) (r:Int) (h:stage_mapped_1 p0=some r):Fn Try.prog 131 [.agg [iI p0.Key,iI p0.Val,iI p0.Dep]] (iI r):=by
  unfold stage_mapped_1 at h
  refine Jka (N:=0) rfl Try.func131 rfl (by kernel_rfl) Try.ntmps131 rfl ?_
  show T _ _ _ _ (mkA 6 [(0,.agg [iI p0.Key,iI p0.Val,iI p0.Dep])]) []
  refine T.seq (T.region (so (o_box (cs:=[iI p0.Key,iI p0.Val,iI p0.Dep]) rfl rfl rfl (sa (iI 0) rfl (RS.nil (T.seq (T.region (sq (Qca Ty.f46_1 rfl (off':=1) rfl (so (Qea rfl rfl (Qga Ty.k3 (c:=iI p0.Val) rfl (sq (v_add rfl rfl ?_))))))))))))))
  refine sa (iI (IntKind.i64.wrap (p0.Val+1))) rfl (RS.nil (T.rt (Qna (v:=iI (IntKind.i64.wrap (p0.Val+1))) rfl (Qra ?_))))
  exact Qya (v:=iI (IntKind.i64.wrap (p0.Val+1))) rfl (Qfa _ _) ⟨congrArg (fun r:Int=>(iI r:AV)) (Option.some.inj h),rfl⟩
theorem stage_mapped_2_c (p0:Item) (r:Int) (h:stage_mapped_2 p0=some r):Fn Try.prog 132 [.agg [iI p0.Key,iI p0.Val,iI p0.Dep]] (iI r):=by
  unfold stage_mapped_2 at h
  refine Jka (N:=0) rfl Try.func132 rfl (by kernel_rfl) Try.ntmps132 rfl ?_
  show T _ _ _ _ (mkA 6 [(0,.agg [iI p0.Key,iI p0.Val,iI p0.Dep])]) []
  refine T.seq (T.region (so (o_box (cs:=[iI p0.Key,iI p0.Val,iI p0.Dep]) rfl rfl rfl (sa (iI 0) rfl (RS.nil (T.seq (T.region (sq (Qca Ty.f46_1 rfl (off':=1) rfl (so (Qea rfl rfl (Qga Ty.k3 (c:=iI p0.Val) rfl (sq (v_mul rfl rfl ?_))))))))))))))
  refine sa (iI (IntKind.i64.wrap (2*p0.Val))) rfl (RS.nil (T.rt (Qna (v:=iI (IntKind.i64.wrap (2*p0.Val))) rfl (Qra ?_))))
  exact Qya (v:=iI (IntKind.i64.wrap (2*p0.Val))) rfl (Qfa _ _) ⟨congrArg (fun r:Int=>(iI r:AV)) (Option.some.inj h),rfl⟩
theorem stage_mapped_3_c (p0:Item) (r:Int) (h:stage_mapped_3 p0=some r):Fn Try.prog 133 [.agg [iI p0.Key,iI p0.Val,iI p0.Dep]] (iI r):=by
  unfold stage_mapped_3 at h
  refine Jka (N:=0) rfl Try.func133 rfl (by kernel_rfl) Try.ntmps133 rfl ?_
  show T _ _ _ _ (mkA 6 [(0,.agg [iI p0.Key,iI p0.Val,iI p0.Dep])]) []
  refine T.seq (T.region (so (o_box (cs:=[iI p0.Key,iI p0.Val,iI p0.Dep]) rfl rfl rfl (sa (iI 0) rfl (RS.nil (T.seq (T.region (sq (Qca Ty.f46_1 rfl (off':=1) rfl (so (Qea rfl rfl (Qga Ty.k3 (c:=iI p0.Val) rfl (sq (v_neg rfl ?_))))))))))))))
  refine sa (iI (IntKind.i64.wrap (0 - p0.Val))) rfl (RS.nil (T.rt (Qna (v:=iI (IntKind.i64.wrap (0 - p0.Val))) rfl (Qra ?_))))
  exact Qya (v:=iI (IntKind.i64.wrap (0 - p0.Val))) rfl (Qfa _ _) ⟨congrArg (fun r:Int=>(iI r:AV)) (Option.some.inj h),rfl⟩
theorem stage_mapped_4_c (p0:Item) (r:Int) (h:stage_mapped_4 p0=some r):Fn Try.prog 134 [.agg [iI p0.Key,iI p0.Val,iI p0.Dep]] (iI r):=by
  unfold stage_mapped_4 at h
  refine Jka (N:=0) rfl Try.func134 rfl (by kernel_rfl) Try.ntmps134 rfl ?_
  show T _ _ _ _ (mkA 8 [(0,.agg [iI p0.Key,iI p0.Val,iI p0.Dep])]) []
  refine T.seq (T.region (so (o_box (cs:=[iI p0.Key,iI p0.Val,iI p0.Dep]) rfl rfl rfl (sa (iI 0) rfl (RS.nil (T.seq (T.region (sq (Qca Ty.f46_1 rfl (off':=1) rfl (so (Qea rfl rfl (Qga Ty.k3 (c:=iI p0.Val) rfl (sq (Qca Ty.f46_0 rfl (off':=0) rfl ?_))))))))))))))
  refine so (Qea rfl rfl (Qga Ty.k3 (c:=iI p0.Key) rfl (sq (v_add rfl rfl (sa (iI (IntKind.i64.wrap (p0.Val+p0.Key))) rfl (RS.nil (T.rt (Qna (v:=iI (IntKind.i64.wrap (p0.Val+p0.Key))) rfl (Qra ?_)))))))))
  exact Qya (v:=iI (IntKind.i64.wrap (p0.Val+p0.Key))) rfl (Qfa _ _) ⟨congrArg (fun r:Int=>(iI r:AV)) (Option.some.inj h),rfl⟩
theorem stage_mapped_c (p0:Int) (p1:Item) (r:Item) (h:stage_mapped p0 p1=some r):Fn Try.prog 117 [iI p0,.agg [iI p1.Key,iI p1.Val,iI p1.Dep]] (.agg [iI r.Key,iI r.Val,iI r.Dep]):=by
  unfold stage_mapped at h
  refine Jka (N:=0) rfl Try.func117 rfl (by kernel_rfl) Try.ntmps117 rfl ?_
  show T _ _ _ _ (mkA 14 [(0,iI p0),(1,.agg [iI p1.Key,iI p1.Val,iI p1.Dep])]) []
  refine T.seq (T.region (so (o_box (cs:=[iI p1.Key,iI p1.Val,iI p1.Dep]) rfl rfl rfl (so (Jxa Ty.z46 rfl rfl (RS.nil (T.seq (T.region (sq (Jva (cs:=[.func 131 [],.func 132 [],.func 133 [],.func 134 []]) Ty.z180 Ty.p180 rfl (so (Jxa Ty.z180 rfl rfl (so (Qma Ty.c180 Ty.i180 rfl (vs:=[.func 131 [],.func 132 [],.func 133 [],.func 134 []]) rfl rfl rfl rfl (cs':=[.func 131 [],.func 132 [],.func 133 [],.func 134 []]) rfl rfl ?_))))))))))))))
  refine RS.nil ?_
  obtain ⟨zt_4,hz,h⟩:=bind_some h
  revert hz h;revert zt_4;intro c6 hz h
  refine T.join (Z:=Unit) (fun _=>mkA 14 [(3,.ptr 0 0),(4,.ptr 1 0)]) (fun _=>[.box [iI p1.Key,iI c6,iI p1.Dep],.box [iI 0,iI 0,iI 0]]) (fun _=>True) (fun _ _=>?_) (fun hK=>?_)
  ·refine T.seq (T.region (so (Qea rfl rfl (Qqa Ty.k46 Ty.c46 rfl (cs:=[iI p1.Key,iI c6,iI p1.Dep]) rfl (so (Qma Ty.c46 Ty.i46 rfl (vs:=[iI p1.Key,iI c6,iI p1.Dep]) rfl rfl rfl rfl (cs':=[iI p1.Key,iI c6,iI p1.Dep]) rfl rfl (RS.nil (T.rt (Jfa (id:=1) (off:=0) (cs:=[iI p1.Key,iI c6,iI p1.Dep]) (v:=.agg [iI p1.Key,iI c6,iI p1.Dep]) ?_ ?_ ?_ ?_)))))))))
   · rfl
   · rfl
   · exact fun K h=>(Qqa (row:=[iI p1.Key,iI c6,iI p1.Dep]) (off:=0) Ty.k46 Ty.c46 rfl (cs:=[iI p1.Key,iI c6,iI p1.Dep]) rfl h)
   refine Qra ?_
   exact Qya (v:=.agg [iI p1.Key,iI c6,iI p1.Dep]) rfl (Qsa _ (Qka (⟨Qfa _ _,Qfa _ _,Qfa _ _,trivial⟩))) ⟨congrArg (fun r:Item=>(.agg [iI r.Key,iI r.Val,iI r.Dep]:AV)) (Option.some.inj h),rfl⟩
  rcases Q3a (p0==0) with hb_1 | hb_1
  ·replace hz:=ite_T hz hb_1
   obtain ⟨x1,hx1,hz⟩:=bind_some hz
   refine T.drawn mixed (k:=7) rfl (rt0 0 rfl (Qza (v:=iI p0) rfl (rt0 1 rfl (v_index_arr (q:=0) Try.underlying180 Ty.c179 Ty.i179 rfl rfl (by simpa using hb_1) rfl rfl (off':=0) rfl (rl0 [2,4,5,6] 2 rfl (Qxa rfl rfl (Qga Ty.k179 (c:=.func 131 []) rfl (ra1 3 (RO.op rfl rfl (Qea rfl rfl (Qqa Ty.k46 Ty.c46 rfl (cs:=[iI p1.Key,iI p1.Val,iI p1.Dep]) rfl (ra1 4 (RO.op rfl rfl (Jia (as0:=[.agg [iI p1.Key,iI p1.Val,iI p1.Dep]]) (as1:=[.agg [iI p1.Key,iI p1.Val,iI p1.Dep]]) (caps:=[]) (aw1:=[.box [iI p1.Key,iI p1.Val,iI p1.Dep],.box [iI 0,iI 0,iI 0],.box [.func 131 [],.func 132 [],.func 133 [],.func 134 []]]) rfl rfl rfl (Zja (v:=iI x1) (stage_mapped_1_c p1 x1 hx1) (⟨Qsa _ (Qka (⟨Qfa _ _,Qfa _ _,Qfa _ _,trivial⟩)),trivial⟩) rfl (rt0 5 rfl (Qca Ty.f46_1 rfl (off':=1) rfl (ra1 6 ?_))))))))))))))))))
   refine RO.op rfl rfl (Qma Ty.c3 Ty.i3 rfl (vs:=[iI x1]) rfl rfl rfl rfl (cs':=[iI p1.Key,iI x1,iI p1.Dep]) rfl rfl (RA.done (by decide +kernel) ?_))
   exact T.weakR (hK () trivial) (Weak.mkN [] [0,1] (by decide) (Qpa _) rfl ⟨Qua rfl,Qua rfl,trivial⟩ (Joa (cs:=[iI p1.Key,iI c6,iI p1.Dep]) (ds:=[iI p1.Key,iI x1,iI p1.Dep]) rfl ⟨Qla rfl,Qla ((congrArg (fun p=>p) (Option.some.inj hz)).symm),Qla rfl,trivial⟩ (rw_bs [iI 0,iI 0,iI 0] rfl (Qva))))
  replace hz:=ite_F hz hb_1
  rcases Q3a (p0==1) with hb_2 | hb_2
  ·replace hz:=ite_T hz hb_2
   obtain ⟨x2,hx2,hz⟩:=bind_some hz
   refine T.drawn mixed (k:=7) rfl (rt0 0 rfl (Qza (v:=iI p0) rfl (rt0 1 rfl (v_index_arr (q:=1) Try.underlying180 Ty.c179 Ty.i179 rfl rfl (by simpa using hb_2) rfl rfl (off':=1) rfl (rl0 [2,4,5,6] 2 rfl (Qxa rfl rfl (Qga Ty.k179 (c:=.func 132 []) rfl (ra1 3 (RO.op rfl rfl (Qea rfl rfl (Qqa Ty.k46 Ty.c46 rfl (cs:=[iI p1.Key,iI p1.Val,iI p1.Dep]) rfl (ra1 4 (RO.op rfl rfl (Jia (as0:=[.agg [iI p1.Key,iI p1.Val,iI p1.Dep]]) (as1:=[.agg [iI p1.Key,iI p1.Val,iI p1.Dep]]) (caps:=[]) (aw1:=[.box [iI p1.Key,iI p1.Val,iI p1.Dep],.box [iI 0,iI 0,iI 0],.box [.func 131 [],.func 132 [],.func 133 [],.func 134 []]]) rfl rfl rfl (Zja (v:=iI x2) (stage_mapped_2_c p1 x2 hx2) (⟨Qsa _ (Qka (⟨Qfa _ _,Qfa _ _,Qfa _ _,trivial⟩)),trivial⟩) rfl (rt0 5 rfl (Qca Ty.f46_1 rfl (off':=1) rfl (ra1 6 ?_))))))))))))))))))
   refine RO.op rfl rfl (Qma Ty.c3 Ty.i3 rfl (vs:=[iI x2]) rfl rfl rfl rfl (cs':=[iI p1.Key,iI x2,iI p1.Dep]) rfl rfl (RA.done (by decide +kernel) ?_))
   exact T.weakR (hK () trivial) (Weak.mkN [] [0,1] (by decide) (Qpa _) rfl ⟨Qua rfl,Qua rfl,trivial⟩ (Joa (cs:=[iI p1.Key,iI c6,iI p1.Dep]) (ds:=[iI p1.Key,iI x2,iI p1.Dep]) rfl ⟨Qla rfl,Qla ((congrArg (fun p=>p) (Option.some.inj hz)).symm),Qla rfl,trivial⟩ (rw_bs [iI 0,iI 0,iI 0] rfl (Qva))))
  replace hz:=ite_F hz hb_2
  rcases Q3a (p0==2) with hb_3 | hb_3
  ·replace hz:=ite_T hz hb_3
   obtain ⟨x3,hx3,hz⟩:=bind_some hz
   refine T.drawn mixed (k:=7) rfl (rt0 0 rfl (Qza (v:=iI p0) rfl (rt0 1 rfl (v_index_arr (q:=2) Try.underlying180 Ty.c179 Ty.i179 rfl rfl (by simpa using hb_3) rfl rfl (off':=2) rfl (rl0 [2,4,5,6] 2 rfl (Qxa rfl rfl (Qga Ty.k179 (c:=.func 133 []) rfl (ra1 3 (RO.op rfl rfl (Qea rfl rfl (Qqa Ty.k46 Ty.c46 rfl (cs:=[iI p1.Key,iI p1.Val,iI p1.Dep]) rfl (ra1 4 (RO.op rfl rfl (Jia (as0:=[.agg [iI p1.Key,iI p1.Val,iI p1.Dep]]) (as1:=[.agg [iI p1.Key,iI p1.Val,iI p1.Dep]]) (caps:=[]) (aw1:=[.box [iI p1.Key,iI p1.Val,iI p1.Dep],.box [iI 0,iI 0,iI 0],.box [.func 131 [],.func 132 [],.func 133 [],.func 134 []]]) rfl rfl rfl (Zja (v:=iI x3) (stage_mapped_3_c p1 x3 hx3) (⟨Qsa _ (Qka (⟨Qfa _ _,Qfa _ _,Qfa _ _,trivial⟩)),trivial⟩) rfl (rt0 5 rfl (Qca Ty.f46_1 rfl (off':=1) rfl (ra1 6 ?_))))))))))))))))))
   refine RO.op rfl rfl (Qma Ty.c3 Ty.i3 rfl (vs:=[iI x3]) rfl rfl rfl rfl (cs':=[iI p1.Key,iI x3,iI p1.Dep]) rfl rfl (RA.done (by decide +kernel) ?_))
   exact T.weakR (hK () trivial) (Weak.mkN [] [0,1] (by decide) (Qpa _) rfl ⟨Qua rfl,Qua rfl,trivial⟩ (Joa (cs:=[iI p1.Key,iI c6,iI p1.Dep]) (ds:=[iI p1.Key,iI x3,iI p1.Dep]) rfl ⟨Qla rfl,Qla ((congrArg (fun p=>p) (Option.some.inj hz)).symm),Qla rfl,trivial⟩ (rw_bs [iI 0,iI 0,iI 0] rfl (Qva))))
  replace hz:=ite_F hz hb_3
  obtain ⟨x4,hx4,hz⟩:=bind_some hz
  obtain ⟨x5,hx5,hz⟩:=bind_some hz
  refine T.drawn mixed (k:=7) rfl (rt0 0 rfl (Qza (v:=iI p0) rfl (rt0 1 rfl (v_index_arr (q:=3) Try.underlying180 Ty.c179 Ty.i179 rfl rfl (isAt_some hx4) rfl rfl (off':=3) rfl (rl0 [2,4,5,6] 2 rfl (Qxa rfl rfl (Qga Ty.k179 (c:=.func 134 []) rfl (ra1 3 (RO.op rfl rfl (Qea rfl rfl (Qqa Ty.k46 Ty.c46 rfl (cs:=[iI p1.Key,iI p1.Val,iI p1.Dep]) rfl (ra1 4 (RO.op rfl rfl (Jia (as0:=[.agg [iI p1.Key,iI p1.Val,iI p1.Dep]]) (as1:=[.agg [iI p1.Key,iI p1.Val,iI p1.Dep]]) (caps:=[]) (aw1:=[.box [iI p1.Key,iI p1.Val,iI p1.Dep],.box [iI 0,iI 0,iI 0],.box [.func 131 [],.func 132 [],.func 133 [],.func 134 []]]) rfl rfl rfl (Zja (v:=iI x5) (stage_mapped_4_c p1 x5 hx5) (⟨Qsa _ (Qka (⟨Qfa _ _,Qfa _ _,Qfa _ _,trivial⟩)),trivial⟩) rfl (rt0 5 rfl (Qca Ty.f46_1 rfl (off':=1) rfl (ra1 6 ?_))))))))))))))))))
  refine RO.op rfl rfl (Qma Ty.c3 Ty.i3 rfl (vs:=[iI x5]) rfl rfl rfl rfl (cs':=[iI p1.Key,iI x5,iI p1.Dep]) rfl rfl (RA.done (by decide +kernel) ?_))
  exact T.weakR (hK () trivial) (Weak.mkN [] [0,1] (by decide) (Qpa _) rfl ⟨Qua rfl,Qua rfl,trivial⟩ (Joa (cs:=[iI p1.Key,iI c6,iI p1.Dep]) (ds:=[iI p1.Key,iI x5,iI p1.Dep]) rfl ⟨Qla rfl,Qla ((congrArg (fun p=>p) (Option.some.inj hz)).symm),Qla rfl,trivial⟩ (rw_bs [iI 0,iI 0,iI 0] rfl (Qva))))
theorem stage_Step_1_c (p0:Keyed) (p1:Int) (r:Int) (h:Qtb p0 p1=some r):Fn Try.prog 119 [.agg [iI p0.Key,iI p0.N],iI p1] (iI r):=by
  unfold Qtb at h
  refine Jka (N:=0) rfl Try.func119 rfl (by kernel_rfl) Try.ntmps119 rfl ?_
  show T _ _ _ _ (mkA 15 [(0,.agg [iI p0.Key,iI p0.N]),(1,iI p1)]) []
  refine T.seq (T.region (so (o_box (cs:=[iI p0.Key,iI p0.N]) rfl rfl rfl (sa (iI 0) rfl (RS.nil (T.seq (T.block (T.seq (T.region (sq (Qca Ty.f69_0 rfl (off':=0) rfl ?_)))))))))))
  refine so (Qea rfl rfl (Qga Ty.k3 (c:=iI p0.Key) rfl (sm (iI p1) rfl (sq (v_lss rfl rfl (sa (.bool (decide (p0.Key<p1))) rfl (RS.nil (T.cond (b:=decide (p0.Key<p1)) rfl (fun hb_1=>?_) (fun hb_1=>?_)))))))))
  ·replace h:=ite_T h hb_1
   refine T.seq (T.region (sa (iI (-1)) rfl (RS.nil (T.rt (Qna (v:=iI (-1)) rfl (Qra ?_))))))
   exact Qya (v:=iI (-1)) rfl (Qfa _ _) ⟨congrArg (fun r:Int=>(iI r:AV)) (Option.some.inj h),rfl⟩
  replace h:=ite_F h hb_1
  refine T.seq (T.region (sq (Qca Ty.f69_0 rfl (off':=0) rfl (so (Qea rfl rfl (Qga Ty.k3 (c:=iI p0.Key) rfl (sm (iI p1) rfl (sq (v_gtr rfl rfl (sa (.bool (decide (p0.Key > p1))) rfl (RS.nil (T.cond (b:=decide (p0.Key > p1)) rfl (fun hb_2=>?_) (fun hb_2=>?_)))))))))))))
  ·replace h:=ite_T h hb_2
   refine T.seq (T.region (sa (iI 1) rfl (RS.nil (T.rt (Qna (v:=iI 1) rfl (Qra ?_))))))
   exact Qya (v:=iI 1) rfl (Qfa _ _) ⟨congrArg (fun r:Int=>(iI r:AV)) (Option.some.inj h),rfl⟩
  replace h:=ite_F h hb_2
  refine T.skip (T.seq (T.region (sa (iI 0) rfl (RS.nil (T.rt (Qna (v:=iI 0) rfl (Qra ?_)))))))
  exact Qya (v:=iI 0) rfl (Qfa _ _) ⟨congrArg (fun r:Int=>(iI r:AV)) (Option.some.inj h),rfl⟩
theorem Qfb (p0:List Keyed) (p1:Int) (r:Int × Bool) (h:J2a p0 p1=some r):Fn Try.prog 118 [sL Qja p0,iI p1,.func 119 []] (.tup [iI r.1,.bool r.2]):=by
  unfold J2a at h
  refine Jka (N:=0) rfl Try.func118 rfl (by kernel_rfl) Try.ntmps118 rfl ?_
  show T _ _ _ _ (mkA 49 [(0,sL Qja p0),(1,iI p1),(2,.func 119 [])]) []
  refine T.seq (T.region (sa (iI 0) rfl (sa (.bool false) rfl (RS.nil (T.seq (T.region (sm (sL Qja p0) rfl (sq (Q2a Ty.s64 rfl (sa (iI ((p0).length:Int)) rfl ?_))))))))))
  refine RS.nil (T.seq (T.region (sm (iI ((p0).length:Int)) rfl (sa (iI 0) rfl (sa (iI ((p0).length:Int)) rfl (RS.nil (T.seq (T.block (T.iter (fun ss_5:Int × Int=>mkA 49 [(0,sL Qja p0),(1,iI p1),(2,.func 119 []),(8,iI ((p0).length:Int)),(9,iI ss_5.1),(10,iI ss_5.2)]) (fun ss_5=>[]) h (Weak.mkN [] [] (by decide) (Qpa _) rfl ⟨rn_s rfl,Qla rfl,Zta trivial,Qla rfl,Qla rfl,Qla rfl,trivial⟩ (Qva)) (fun ss_5 v_6 h hv_6=>?_))))))))))
  obtain ⟨s1,s2⟩:=ss_5
  replace h:Jya p0 p1 s1 s2=some v_6:=h
  try dsimp only
  unfold Jya at h
  refine T.seq (T.seq (T.region (sm (iI s1) rfl (sm (iI s2) rfl (sq (v_lss rfl rfl (RS.nil (T.cond (b:=decide (s1<s2)) rfl (fun hb_7=>?_) (fun hb_7=>?_)))))))))
  ·replace h:=ite_T h hb_7
   refine T.skip (T.block (T.seq ?_))
   obtain ⟨x4,hx4,h⟩:=bind_some h
   refine T.region (sm (iI s1) rfl (sm (iI s2) rfl (sq (v_add rfl rfl (so (o_conv Try.underlying3 Try.underlying116 rfl (sq (v_shr rfl rfl hx4 (so (o_conv Try.underlying116 Try.underlying3 rfl (sa (iI (IntKind.i64.wrap x4)) rfl (RS.nil (T.seq ?_)))))))))))))
   obtain ⟨x7,hx7,h⟩:=bind_some h
   obtain ⟨x8,hx8,h⟩:=bind_some h
   refine T.region (sm (.func 119 []) rfl (sm (sL Qja p0) rfl (sm (iI (IntKind.i64.wrap x4)) rfl (sq (Q0a Ty.s64 (fun _=>rfl) rfl rfl hx7 (so (Q8a rfl (Qqa Ty.k69 Ty.c69 rfl (cs:=[iI x7.Key,iI x7.N]) rfl (sm (iI p1) rfl (so (Jia (as0:=[.agg [iI x7.Key,iI x7.N],iI p1]) (as1:=[.agg [iI x7.Key,iI x7.N],iI p1]) (caps:=[]) (aw1:=[]) rfl rfl rfl (Zja (v:=iI x8) (stage_Step_1_c x7 p1 x8 hx8) (⟨Qsa _ (Qka (⟨Qfa _ _,Qfa _ _,trivial⟩)),Qfa _ _,trivial⟩) rfl (sq (v_lss rfl rfl (RS.nil ?_)))))))))))))))
   refine T.cond (b:=decide (x8<0)) rfl (fun hb_8=>?_) (fun hb_8=>?_)
   ·replace h:=ite_T h hb_8
    refine T.region (sm (iI (IntKind.i64.wrap x4)) rfl (sq (v_add rfl rfl (sa (iI (IntKind.i64.wrap ((IntKind.i64.wrap x4)+1))) rfl (RS.nil ?_)))))
    exact ⟨(IntKind.i64.wrap ((IntKind.i64.wrap x4)+1),s2),(Option.some.inj h).symm,Weak.mkN [] [] (by decide) (Qpa _) rfl ⟨rn_s rfl,Qla rfl,Zta trivial,Qla rfl,Qla rfl,Qla rfl,trivial⟩ (Qva)⟩
   replace h:=ite_F h hb_8
   refine T.region (sm (iI (IntKind.i64.wrap x4)) rfl (sa (iI (IntKind.i64.wrap x4)) rfl (RS.nil ?_)))
   exact ⟨(s1,IntKind.i64.wrap x4),(Option.some.inj h).symm,Weak.mkN [] [] (by decide) (Qpa _) rfl ⟨rn_s rfl,Qla rfl,Zta trivial,Qla rfl,Qla rfl,Qla rfl,trivial⟩ (Qva)⟩
  replace h:=ite_F h hb_7
  refine T.exit ?_
  obtain ⟨w_9,h,hw_9⟩:=Jja h
  replace h:=h.trans (congrArg some (hv_6 _ hw_9))
  obtain ⟨zt_11,hz,h⟩:=bind_some h
  revert hz h;revert zt_11;intro c11 hz h
  refine T.join (Z:=Unit) (fun _=>mkA 49 [(6,iI s1),(7,.bool c11)]) (fun _=>[]) (fun _=>True) (fun _ _=>?_) (fun hK=>?_)
  ·refine T.rt (Qna (v:=iI s1) rfl (Qna (v:=.bool c11) rfl (Qra ?_)))
   exact Qya (v:=.tup [iI s1,.bool c11]) rfl (Jna _ (Qka (⟨Qfa _ _,Jba _,trivial⟩))) ⟨congrArg (fun r:Int × Bool=>(.tup [iI r.1,.bool r.2]:AV)) (Option.some.inj h),rfl⟩
  refine T.region (sm (iI s1) rfl (sm (iI s1) rfl (sm (iI ((p0).length:Int)) rfl (sq (v_lss rfl rfl (sm (.bool (decide (s1<((p0).length:Int)))) rfl ?_))))))
  rcases Q3a (decide (s1<((p0).length:Int))) with hb_10 | hb_10
  ·replace hz:=ite_T hz hb_10
   obtain ⟨x9,hx9,hz⟩:=bind_some hz
   obtain ⟨x10,hx10,hz⟩:=bind_some hz
   refine yq hb_10 (Qza (v:=.func 119 []) rfl (yq hb_10 (Qza (v:=sL Qja p0) rfl (yq hb_10 (Qza (v:=iI s1) rfl (yq hb_10 (Q0a Ty.s64 (fun _=>rfl) rfl rfl hx9 (yo hb_10 (Q8a rfl (Qqa Ty.k69 Ty.c69 rfl (cs:=[iI x9.Key,iI x9.N]) rfl (yq hb_10 (Qza (v:=iI p1) rfl (yo hb_10 (Jia (as0:=[.agg [iI x9.Key,iI x9.N],iI p1]) (as1:=[.agg [iI x9.Key,iI x9.N],iI p1]) (caps:=[]) (aw1:=[]) rfl rfl rfl (Zja (v:=iI x10) (stage_Step_1_c x9 p1 x10 hx10) (⟨Qsa _ (Qka (⟨Qfa _ _,Qfa _ _,trivial⟩)),Qfa _ _,trivial⟩) rfl (yq hb_10 (v_eql rfl rfl (sq (Jea (v:=.bool (x10==0)) rfl hb_10 rfl (sa (iI s1) rfl ?_))))))))))))))))))))
   refine sa (.bool (x10==0)) rfl (RS.nil ?_)
   exact T.sub (hK () trivial) ⟨rfl,(congrArg AV.bool ((congrArg (fun p=>p) (Option.some.inj hz)).symm)).symm,trivial⟩
  replace hz:=ite_F hz hb_10
  refine sn hb_10 (sn hb_10 (sn hb_10 (sn hb_10 (sn hb_10 (sn hb_10 (sn hb_10 (sn hb_10 (sq (Q5a (v:=.bool false) rfl hb_10 rfl (sa (iI s1) rfl ?_))))))))))
  refine sa (.bool false) rfl (RS.nil ?_)
  exact T.sub (hK () trivial) ⟨rfl,(congrArg AV.bool ((congrArg (fun p=>p) (Option.some.inj hz)).symm)).symm,trivial⟩
theorem slices_Insert_Keyed_xe708_c (p0:Int) (p1:List Keyed) (p2:List Keyed) (r:List Keyed) (h:Zsa p0 p1 p2=some r):FnX Try.prog 120 [.ref 0,iI p0,.ref 1] [aR 69 2 Qja p1,aR 69 2 Qja p2] (.ref 2) [.dead,.dead,aR 69 2 Qja r]:=by
  unfold Zsa at h
  refine Jka (N:=2) rfl Try.func120 rfl (by kernel_rfl) Try.ntmps120 rfl ?_
  show T _ _ _ _ (mkA 95 [(0,.ref 0),(1,iI p0),(2,.ref 1)]) [aR 69 2 Qja p1,aR 69 2 Qja p2]
  refine T.mvS 0 0 rfl rfl rfl rfl (T.exposeM 0 2 (xs:=p1) rfl rfl (fun C hC=>?_))
  have h:=allC_some h C hC
  unfold Vsa at h
  refine T.seq (T.region (sa .nils rfl (RS.nil (T.seq ?_))))
  obtain ⟨x2,hx2,h⟩:=bind_some h
  refine T.region (sm (.vw 2 2 0 ((p1).length) (some C)) rfl (sm (iI p0) rfl (so (o_slice_vc Ty.s64 rfl rfl rfl hx2 (RS.nil (T.seq (T.region (sm (.ref 1) rfl (sq (Yga (en:=Qja) Ty.s64 rfl rfl (sa (iI ((p2).length:Int)) rfl ?_)))))))))))
  refine RS.nil (T.seq (T.seq (T.region (sm (iI ((p2).length:Int)) rfl (sq (v_eql rfl rfl (RS.nil (T.cond (b:=((p2).length:Int)==0) rfl (fun hb_1=>?_) (fun hb_1=>?_)))))))))
  ·replace h:=ite_T h hb_1
   cases h
  replace h:=ite_F h hb_1
  refine T.skip (T.seq (T.region (sm (.vw 2 2 0 ((p1).length) (some C)) rfl (so (v_len_vw Ty.s64 rfl (sa (iI (((p1).length:Nat):Int)) rfl (RS.nil (T.seq (T.seq (T.region ?_))))))))))
  refine sm (iI p0) rfl (sm (iI (((p1).length:Nat):Int)) rfl (sq (v_eql rfl rfl (RS.nil (T.cond (b:=p0==(((p1).length:Nat):Int)) rfl (fun hb_2=>?_) (fun hb_2=>?_))))))
  ·replace h:=ite_T h hb_2
   refine T.seq ?_
   obtain ⟨x4,hx4,h⟩:=bind_some h
   refine T.region (sm (.vw 2 2 0 ((p1).length) (some C)) rfl (sm (.ref 1) rfl (so (o_app_vw (en:=Qja) (xs:=p1) (ys:=p2) Ty.s64 (fun _=>rfl) rfl rfl rfl rfl rfl rfl hx4 rfl rfl (sa (.ref 3) rfl (RS.nil (T.rt (Qna (v:=.ref 3) rfl (Qra ?_)))))))))
   exact J3a (.ref 2) [] [0,1,3] (by decide) (by decide) rfl (Qta rfl) (Z8a rfl (Z8a rfl (Jma rfl Q7a (congrArg (fun r:List Keyed=>r) (Option.some.inj h)).symm (Qva)))) ⟨rfl,rfl⟩
  replace h:=ite_F h hb_2
  refine T.skip (T.seq (T.seq (T.region (sm (iI (((p1).length:Nat):Int)) rfl (sm (iI ((p2).length:Int)) rfl (sq (v_add rfl rfl (sm (.vw 2 2 0 ((p1).length) (some C)) rfl (so (o_cap_vw Ty.s64 rfl (sq (v_gtr rfl rfl ?_))))))))))))
  refine RS.nil (T.cond (b:=decide ((IntKind.i64.wrap ((((p1).length:Nat):Int)+((p2).length:Int))) > ((C:Nat):Int))) rfl (fun hb_3=>?_) (fun hb_3=>?_))
  ·replace h:=ite_T h hb_3
   refine T.seq ?_
   obtain ⟨x7,hx7,h⟩:=bind_some h
   obtain ⟨x8,hx8,h⟩:=bind_some h
   refine T.region (sm (.vw 2 2 0 ((p1).length) (some C)) rfl (sm (iI p0) rfl (so (o_slice_vh Ty.s64 rfl rfl hx7 (sm (iI (((p1).length:Nat):Int)) rfl (sm (iI ((p2).length:Int)) rfl (sq (v_add rfl rfl (sm (iI p0) rfl (sq (v_sub rfl rfl (so (o_app_vz (en:=Qja) (z0:=(⟨0,0⟩:Keyed)) (xs:=p1) Ty.s64 Try.underlying3 Ty.z69 (fun _=>rfl) rfl rfl rfl hx8 rfl rfl ?_)))))))))))))
   refine sa (.ref 3) rfl (RS.nil (T.seq ?_))
   obtain ⟨x11,hx11,h⟩:=bind_some h
   obtain ⟨x12,hx12,h⟩:=bind_some h
   refine T.region (sm (.ref 3) rfl (sm (iI p0) rfl (so (Qxb (en:=Qja) (xs:=x8) Ty.s64 rfl rfl rfl rfl hx11 (sm (.ref 1) rfl (so (o_copy_vr (en:=Qja) (xs:=x8) (ys:=p2) Ty.s64 (fun _=>rfl) rfl rfl rfl rfl hx12 rfl (RS.nil (T.seq ?_)))))))))
   obtain ⟨x17,hx17,h⟩:=bind_some h
   obtain ⟨x18,hx18,h⟩:=bind_some h
   obtain ⟨x19,hx19,h⟩:=bind_some h
   obtain ⟨x20,hx20,h⟩:=bind_some h
   refine T.drawn mixed (k:=9) rfl ?_
   let l5:List (Nat × AV):=[(0,.vw 2 2 0 ((p1).length) (some C)),(1,iI p0),(2,.ref 1),(6,.nils),(7,iI ((p2).length:Int)),(8,iI (((p1).length:Nat):Int)),(9,.ref 3),(10,.vw 2 2 0 ((p1).length) (some C)),(11,iI p0),(12,.vw 2 2 (0+(p0).toNat) (((((p1).length:Nat):Int)).toNat - (p0).toNat) (some (C - (p0).toNat))),(13,.ref 1),(14,iI ((p2).length:Int)),(15,iI ((p2).length:Int)),(16,.bool (((p2).length:Int)==0)),(18,.vw 2 2 0 ((p1).length) (some C)),(19,iI (((p1).length:Nat):Int)),(20,iI p0),(21,iI (((p1).length:Nat):Int)),(22,.bool (p0==(((p1).length:Nat):Int))),(26,iI (((p1).length:Nat):Int)),(27,iI ((p2).length:Int)),(28,iI (IntKind.i64.wrap ((((p1).length:Nat):Int)+((p2).length:Int)))),(29,.vw 2 2 0 ((p1).length) (some C)),(30,iI ((C:Nat):Int)),(31,.bool (decide ((IntKind.i64.wrap ((((p1).length:Nat):Int)+((p2).length:Int))) > ((C:Nat):Int)))),(32,.vw 2 2 0 ((p1).length) (some C)),(33,iI p0),(34,.vw 2 2 0 ((p0).toNat) (some C)),(35,iI (((p1).length:Nat):Int)),(36,iI ((p2).length:Int)),(37,iI (IntKind.i64.wrap ((((p1).length:Nat):Int)+((p2).length:Int)))),(38,iI p0),(39,iI (IntKind.i64.wrap ((IntKind.i64.wrap ((((p1).length:Nat):Int)+((p2).length:Int))) - p0))),(40,.ref 3),(41,.ref 3),(42,iI p0),(43,.vw 3 2 ((p0).toNat) ((((x8).length:Int)).toNat - (p0).toNat) none),(44,.ref 1),(45,iI ((min ((((x8).length:Int)).toNat - (p0).toNat) (p2).length:Nat):Int))]
   let a5:List Ob:=[.dead,aR 69 2 Qja p2,aR 69 2 Qja p1,aR 69 2 Qja (cpy x8 ((p0).toNat) ((((x8).length:Int)).toNat - (p0).toNat) p2)]
   refine RA.join 1 #[true,true,true,true,true,true,true,true,false] (mkA 95 ((46,.ref 3)::(47,iI p0)::(48,iI ((p2).length:Int))::(49,iI (IntKind.i64.wrap (p0+((p2).length:Int))))::(50,.vw 3 2 ((IntKind.i64.wrap (p0+((p2).length:Int))).toNat) (((((cpy x8 ((p0).toNat) ((((x8).length:Int)).toNat - (p0).toNat) p2)).length:Int)).toNat - (IntKind.i64.wrap (p0+((p2).length:Int))).toNat) none)::(51,.vw 2 2 0 ((p1).length) (some C))::(52,iI p0)::(53,.vw 2 2 (0+(p0).toNat) (((((p1).length:Nat):Int)).toNat - (p0).toNat) (some (C - (p0).toNat)))::l5)) a5 ?_ (fun hS4=>?_)
   ·refine ra1 8 (RO.op rfl rfl (o_copy_v2 (en:=Qja) (xs:=(cpy x8 ((p0).toNat) ((((x8).length:Int)).toNat - (p0).toNat) p2)) (ys:=p1) Ty.s64 (fun _=>rfl) rfl rfl rfl rfl hx19 hx20 rfl (RA.done (by decide +kernel) (T.seq (T.region (sm (.ref 3) rfl (sa (.ref 3) rfl (RS.nil (T.rt (Qna (v:=.ref 3) rfl ?_))))))))))
    refine Qra ?_
    exact J3a (.ref 2) [] [0,1,3] (by decide) (by decide) rfl (Qta rfl) (Z8a rfl (Z8a rfl (Jma rfl Q7a (congrArg (fun r:List Keyed=>r) (Option.some.inj h)).symm (Qva)))) ⟨rfl,rfl⟩
   ·refine rt0 0 rfl (Qza (v:=.ref 3) rfl (rt0 1 rfl (Qza (v:=iI p0) rfl (rt0 2 rfl (Qza (v:=iI ((p2).length:Int)) rfl (rt0 3 rfl (v_add rfl rfl (rt0 5 rfl (Qza (v:=.vw 2 2 0 ((p1).length) (some C)) rfl (rt0 6 rfl (Qza (v:=iI p0) rfl (ra2 4 7 ?_ ?_))))))))))))
    ·refine RO.op rfl rfl (Qxb (en:=Qja) (xs:=(cpy x8 ((p0).toNat) ((((x8).length:Int)).toNat - (p0).toNat) p2)) Ty.s64 rfl rfl rfl rfl hx17 (ra1 7 (RO.op rfl rfl (o_slice_vc Ty.s64 rfl rfl rfl hx18 ?_))))
     exact raS hS4 ⟨rfl,rfl,rfl,rfl,rfl,rfl,rfl,rfl,rfl,rfl,rfl,rfl,rfl,rfl,rfl,rfl,rfl,rfl,rfl,rfl,rfl,rfl,rfl,rfl,rfl,rfl,rfl,rfl,rfl,rfl,rfl,rfl,rfl,rfl,rfl,rfl,rfl,rfl,rfl,rfl,rfl,rfl,rfl,rfl,rfl,rfl,rfl,trivial⟩
    ·refine RO.op rfl rfl (o_slice_vc Ty.s64 rfl rfl rfl hx18 (ra1 4 (RO.op rfl rfl (Qxb (en:=Qja) (xs:=(cpy x8 ((p0).toNat) ((((x8).length:Int)).toNat - (p0).toNat) p2)) Ty.s64 rfl rfl rfl rfl hx17 ?_))))
     exact raS hS4 ⟨rfl,rfl,rfl,rfl,rfl,rfl,rfl,rfl,rfl,rfl,rfl,rfl,rfl,rfl,rfl,rfl,rfl,rfl,rfl,rfl,rfl,rfl,rfl,rfl,rfl,rfl,rfl,rfl,rfl,rfl,rfl,rfl,rfl,rfl,rfl,rfl,rfl,rfl,rfl,rfl,rfl,rfl,rfl,rfl,rfl,rfl,rfl,trivial⟩
  replace h:=ite_F h hb_3
  refine T.skip (T.seq ?_)
  obtain ⟨x22,hx22,h⟩:=bind_some h
  refine T.region (sm (.vw 2 2 0 ((p1).length) (some C)) rfl (sm (iI (((p1).length:Nat):Int)) rfl (sm (iI ((p2).length:Int)) rfl (sq (v_add rfl rfl (so (o_room (en:=Qja) (xs:=p1) Ty.s64 rfl rfl rfl rfl hx22 rfl rfl (sa (.ref 3) rfl (RS.nil (T.seq (T.seq ?_)))))))))))
  obtain ⟨x25,hx25,h⟩:=bind_some h
  obtain ⟨x26,hx26,h⟩:=bind_some h
  refine T.region (sm (.ref 1) rfl (sm (.ref 3) rfl (sm (iI p0) rfl (sm (iI ((p2).length:Int)) rfl (sq (v_add rfl rfl (so (o_slice_U (en:=Qja) (xs:=p1) Ty.s64 rfl rfl rfl rfl hx25 (so (o_overlaps (fn:=Try.f135) (tS:=64) (tR:=4) (en:=Qja) (xs:=p1) (ys:=p2) Try.func135 (by kernel_rfl) (by kernel_rfl) (by kernel_rfl) (by kernel_rfl) Ty.s64 rfl rfl rfl rfl hx26 (sq (v_not rfl (RS.nil ?_)))))))))))))
  refine T.cond (b:=true) rfl (fun hb=>?_) (fun hb=>?_)
  ·refine T.seq ?_
   obtain ⟨x30,hx30,h⟩:=bind_some h
   obtain ⟨x31,hx31,h⟩:=bind_some h
   obtain ⟨x32,hx32,h⟩:=bind_some h
   refine T.drawn mixed (k:=9) rfl ?_
   let l7:List (Nat × AV):=[(0,.ref 3),(1,iI p0),(2,.ref 1),(6,.nils),(7,iI ((p2).length:Int)),(8,iI (((p1).length:Nat):Int)),(10,.vw 2 2 0 ((p1).length) (some C)),(11,iI p0),(12,.vw 2 2 (0+(p0).toNat) (((((p1).length:Nat):Int)).toNat - (p0).toNat) (some (C - (p0).toNat))),(13,.ref 1),(14,iI ((p2).length:Int)),(15,iI ((p2).length:Int)),(16,.bool (((p2).length:Int)==0)),(18,.vw 2 2 0 ((p1).length) (some C)),(19,iI (((p1).length:Nat):Int)),(20,iI p0),(21,iI (((p1).length:Nat):Int)),(22,.bool (p0==(((p1).length:Nat):Int))),(26,iI (((p1).length:Nat):Int)),(27,iI ((p2).length:Int)),(28,iI (IntKind.i64.wrap ((((p1).length:Nat):Int)+((p2).length:Int)))),(29,.vw 2 2 0 ((p1).length) (some C)),(30,iI ((C:Nat):Int)),(31,.bool (decide ((IntKind.i64.wrap ((((p1).length:Nat):Int)+((p2).length:Int))) > ((C:Nat):Int)))),(56,.vw 2 2 0 ((p1).length) (some C)),(57,iI (((p1).length:Nat):Int)),(58,iI ((p2).length:Int)),(59,iI (IntKind.i64.wrap ((((p1).length:Nat):Int)+((p2).length:Int)))),(60,.ref 3),(61,.ref 1),(62,.ref 3),(63,iI p0),(64,iI ((p2).length:Int)),(65,iI (IntKind.i64.wrap (p0+((p2).length:Int)))),(66,.vw 3 2 ((IntKind.i64.wrap (p0+((p2).length:Int))).toNat) ((((((p1).length+x22):Nat):Int)).toNat - (IntKind.i64.wrap (p0+((p2).length:Int))).toNat) none),(67,.bool false),(68,.bool true)]
   let a7:List Ob:=[.dead,aR 69 2 Qja p2,.dead,.arrU 69 2 (List.map Qja p1) x22]
   refine RA.join 1 #[true,true,true,true,true,true,true,true,false] (mkA 95 ((69,.ref 3)::(70,iI p0)::(71,iI ((p2).length:Int))::(72,iI (IntKind.i64.wrap (p0+((p2).length:Int))))::(73,.vw 3 2 ((IntKind.i64.wrap (p0+((p2).length:Int))).toNat) ((((((p1).length+x22):Nat):Int)).toNat - (IntKind.i64.wrap (p0+((p2).length:Int))).toNat) none)::(74,.ref 3)::(75,iI p0)::(76,.vw 3 2 ((p0).toNat) ((((((p1).length+x22):Nat):Int)).toNat - (p0).toNat) none)::l7)) a7 ?_ (fun hS6=>?_)
   ·refine ra1 8 (RO.op rfl rfl (o_copy_U (en:=Qja) (xs:=p1) Ty.s64 (fun _=>rfl) rfl rfl rfl hx32 rfl (RA.done (by decide +kernel) (T.seq ?_))))
    obtain ⟨x35,hx35,h⟩:=bind_some h
    obtain ⟨x36,hx36,h⟩:=bind_some h
    refine T.region (sm (.ref 3) rfl (sm (iI p0) rfl (so (Qxb (en:=Qja) (xs:=x32) Ty.s64 rfl rfl rfl rfl hx35 (sm (.ref 1) rfl (so (o_copy_vr (en:=Qja) (xs:=x32) (ys:=p2) Ty.s64 (fun _=>rfl) rfl rfl rfl rfl hx36 rfl (RS.nil (T.seq (T.region (sm (.ref 3) rfl ?_)))))))))))
    refine sa (.ref 3) rfl (RS.nil (T.rt (Qna (v:=.ref 3) rfl (Qra ?_))))
    exact J3a (.ref 2) [] [0,1,3] (by decide) (by decide) rfl (Qta rfl) (Z8a rfl (Z8a rfl (Jma rfl Q7a (congrArg (fun r:List Keyed=>r) (Option.some.inj h)).symm (Qva)))) ⟨rfl,rfl⟩
   ·refine rt0 0 rfl (Qza (v:=.ref 3) rfl (rt0 1 rfl (Qza (v:=iI p0) rfl (rt0 2 rfl (Qza (v:=iI ((p2).length:Int)) rfl (rt0 3 rfl (v_add rfl rfl (rt0 5 rfl (Qza (v:=.ref 3) rfl (rt0 6 rfl (Qza (v:=iI p0) rfl (ra2 4 7 ?_ ?_))))))))))))
    ·refine RO.op rfl rfl (o_slice_U (en:=Qja) (xs:=p1) Ty.s64 rfl rfl rfl rfl hx30 (ra1 7 (RO.op rfl rfl (o_slice_U (en:=Qja) (xs:=p1) Ty.s64 rfl rfl rfl rfl hx31 ?_))))
     exact raS hS6 ⟨rfl,rfl,rfl,rfl,rfl,rfl,rfl,rfl,rfl,rfl,rfl,rfl,rfl,rfl,rfl,rfl,rfl,rfl,rfl,rfl,rfl,rfl,rfl,rfl,rfl,rfl,rfl,rfl,rfl,rfl,rfl,rfl,rfl,rfl,rfl,rfl,rfl,rfl,rfl,rfl,rfl,rfl,rfl,rfl,rfl,trivial⟩
    ·refine RO.op rfl rfl (o_slice_U (en:=Qja) (xs:=p1) Ty.s64 rfl rfl rfl rfl hx31 (ra1 4 (RO.op rfl rfl (o_slice_U (en:=Qja) (xs:=p1) Ty.s64 rfl rfl rfl rfl hx30 ?_))))
     exact raS hS6 ⟨rfl,rfl,rfl,rfl,rfl,rfl,rfl,rfl,rfl,rfl,rfl,rfl,rfl,rfl,rfl,rfl,rfl,rfl,rfl,rfl,rfl,rfl,rfl,rfl,rfl,rfl,rfl,rfl,rfl,rfl,rfl,rfl,rfl,rfl,rfl,rfl,rfl,rfl,rfl,rfl,rfl,rfl,rfl,rfl,rfl,trivial⟩
  · cases hb
end Go.Proofs.Ytfbmoockopakjaa
namespace Go.Proofs.Ytfbmoockopakjaa
open Go.RowKit
set_option linter.unusedVariables false
set_option linter.unusedSimpArgs false
set_option maxRecDepth 100000
set_option maxHeartbeats 4000000
set_option maxHeartbeats 40000000 in
theorem Yia (p0:Int) (p1:Int) (p2:Memory) (p3:Item) (r:Memory × Item × Int) (h:Qcb p0 p1 p2 p3=some r):Fn Try.prog 85 [iI p0,iI p1,.agg [iI p2.Sum,sL Qja p2.Keys,iI p2.Dep],.agg [iI p3.Key,iI p3.Val,iI p3.Dep]] (.tup [.agg [iI r.1.Sum,sL Qja r.1.Keys,iI r.1.Dep],.agg [iI r.2.1.Key,iI r.2.1.Val,iI r.2.1.Dep],iI r.2.2]):=by
  unfold Qcb at h
  refine Jka (N:=0) rfl Try.func85 rfl (by kernel_rfl) Try.ntmps85 rfl ?_
  show T _ _ _ _ (mkA 137 [(0,iI p0),(1,iI p1),(2,.agg [iI p2.Sum,sL Qja p2.Keys,iI p2.Dep]),(3,.agg [iI p3.Key,iI p3.Val,iI p3.Dep])]) []
  refine T.seq (T.region (so (o_box (cs:=[iI p2.Sum,sL Qja p2.Keys,iI p2.Dep]) rfl rfl rfl (so (o_box (cs:=[iI p3.Key,iI p3.Val,iI p3.Dep]) rfl rfl rfl (so (Jxa Ty.z66 rfl rfl (so (Jxa Ty.z46 rfl rfl (sa (iI 0) rfl (RS.nil (T.seq (T.seq ?_)))))))))))))
  obtain ⟨x2,hx2,h⟩:=bind_some h
  refine T.region (so (Qea rfl rfl (Qqa Ty.k66 Ty.c66 rfl (cs:=[iI p2.Sum,sL Qja p2.Keys,iI p2.Dep]) rfl (so (Jia (as0:=[.agg [iI p2.Sum,sL Qja p2.Keys,iI p2.Dep]]) (as1:=[.agg [iI p2.Sum,sL Qja p2.Keys,iI p2.Dep]]) (caps:=[]) (aw1:=[.box [iI p2.Sum,sL Qja p2.Keys,iI p2.Dep],.box [iI p3.Key,iI p3.Val,iI p3.Dep],.box [iI 0,.nils,iI 0],.box [iI 0,iI 0,iI 0]]) rfl rfl rfl (Zja (v:=iI x2) (stage_Check_c p2 x2 hx2) (⟨Qsa _ (Qka (⟨Qfa _ _,Qia Q7a _,Qfa _ _,trivial⟩)),trivial⟩) rfl (sa (iI x2) rfl (RS.nil (T.seq (T.region (sm (iI x2) rfl (sq (v_neq rfl rfl (RS.nil ?_))))))))))))))
  refine T.cond (b:=x2 != 0) rfl (fun hb_1=>?_) (fun hb_1=>?_)
  ·replace h:=ite_T h hb_1
   refine T.seq (T.region (sq (Jva (cs:=[iI 0,.nils,iI 0]) Ty.z66 Ty.p66 rfl (sq (Jva (cs:=[iI 0,iI 0,iI 0]) Ty.z46 Ty.p46 rfl (sm (iI x2) rfl (so (Qma Ty.c66 Ty.i66 rfl (vs:=[iI 0,.nils,iI 0]) rfl rfl rfl rfl (cs':=[iI 0,.nils,iI 0]) rfl rfl (so (Qma Ty.c46 Ty.i46 rfl (vs:=[iI 0,iI 0,iI 0]) rfl rfl rfl rfl (cs':=[iI 0,iI 0,iI 0]) rfl rfl (sa (iI x2) rfl (RS.nil (T.rt ?_)))))))))))))
   refine Jfa (id:=2) (off:=0) (cs:=[iI 0,.nils,iI 0]) (v:=.agg [iI 0,.nils,iI 0]) ?_ ?_ ?_ ?_
   · rfl
   · rfl
   · exact fun K h=>(Qqa (row:=[iI 0,.nils,iI 0]) (off:=0) Ty.k66 Ty.c66 rfl (cs:=[iI 0,.nils,iI 0]) rfl h)
   refine Jfa (id:=3) (off:=0) (cs:=[iI 0,iI 0,iI 0]) (v:=.agg [iI 0,iI 0,iI 0]) ?_ ?_ ?_ ?_
   · rfl
   · rfl
   · exact fun K h=>(Qqa (row:=[iI 0,iI 0,iI 0]) (off:=0) Ty.k46 Ty.c46 rfl (cs:=[iI 0,iI 0,iI 0]) rfl h)
   refine Qna (v:=iI x2) rfl (Qra ?_)
   exact Qya (v:=.tup [.agg [iI 0,sL Qja [],iI 0],.agg [iI 0,iI 0,iI 0],iI x2]) rfl (Jna _ (Qka (⟨Qsa _ (Qka (⟨Qfa _ _,Qia Q7a _,Qfa _ _,trivial⟩)),Qsa _ (Qka (⟨Qfa _ _,Qfa _ _,Qfa _ _,trivial⟩)),Qfa _ _,trivial⟩))) ⟨congrArg (fun r:Memory × Item × Int=>(.tup [.agg [iI r.1.Sum,sL Qja r.1.Keys,iI r.1.Dep],.agg [iI r.2.1.Key,iI r.2.1.Val,iI r.2.1.Dep],iI r.2.2]:AV)) (Option.some.inj h),rfl⟩
  replace h:=ite_F h hb_1
  refine T.skip (T.seq (T.seq (T.region (sq (Qca Ty.f46_2 rfl (off':=2) rfl (so (Qea rfl rfl (Qga Ty.k3 (c:=iI p3.Dep) rfl (sq (v_lss rfl rfl (RS.nil (T.cond (b:=decide (p3.Dep<0)) rfl (fun hb_2=>?_) (fun hb_2=>?_)))))))))))))
  ·replace h:=ite_T h hb_2
   refine T.seq (T.region (sq (Jva (cs:=[iI 0,.nils,iI 0]) Ty.z66 Ty.p66 rfl (sq (Jva (cs:=[iI 0,iI 0,iI 0]) Ty.z46 Ty.p46 rfl (so (Qma Ty.c66 Ty.i66 rfl (vs:=[iI 0,.nils,iI 0]) rfl rfl rfl rfl (cs':=[iI 0,.nils,iI 0]) rfl rfl (so (Qma Ty.c46 Ty.i46 rfl (vs:=[iI 0,iI 0,iI 0]) rfl rfl rfl rfl (cs':=[iI 0,iI 0,iI 0]) rfl rfl (sa (iI 3) rfl (RS.nil (T.rt (Jfa (id:=2) (off:=0) (cs:=[iI 0,.nils,iI 0]) (v:=.agg [iI 0,.nils,iI 0]) ?_ ?_ ?_ ?_)))))))))))))
   · rfl
   · rfl
   · exact fun K h=>(Qqa (row:=[iI 0,.nils,iI 0]) (off:=0) Ty.k66 Ty.c66 rfl (cs:=[iI 0,.nils,iI 0]) rfl h)
   refine Jfa (id:=3) (off:=0) (cs:=[iI 0,iI 0,iI 0]) (v:=.agg [iI 0,iI 0,iI 0]) ?_ ?_ ?_ ?_
   · rfl
   · rfl
   · exact fun K h=>(Qqa (row:=[iI 0,iI 0,iI 0]) (off:=0) Ty.k46 Ty.c46 rfl (cs:=[iI 0,iI 0,iI 0]) rfl h)
   refine Qna (v:=iI 3) rfl (Qra ?_)
   exact Qya (v:=.tup [.agg [iI 0,sL Qja [],iI 0],.agg [iI 0,iI 0,iI 0],iI 3]) rfl (Jna _ (Qka (⟨Qsa _ (Qka (⟨Qfa _ _,Qia Q7a _,Qfa _ _,trivial⟩)),Qsa _ (Qka (⟨Qfa _ _,Qfa _ _,Qfa _ _,trivial⟩)),Qfa _ _,trivial⟩))) ⟨congrArg (fun r:Memory × Item × Int=>(.tup [.agg [iI r.1.Sum,sL Qja r.1.Keys,iI r.1.Dep],.agg [iI r.2.1.Key,iI r.2.1.Val,iI r.2.1.Dep],iI r.2.2]:AV)) (Option.some.inj h),rfl⟩
  replace h:=ite_F h hb_2
  refine T.skip (T.seq ?_)
  obtain ⟨x4,hx4,h⟩:=bind_some h
  refine T.region (so (Qea rfl rfl (Qqa Ty.k66 Ty.c66 rfl (cs:=[iI p2.Sum,sL Qja p2.Keys,iI p2.Dep]) rfl (so (Vva (ac:=[.agg [iI p2.Sum,sL Qja p2.Keys,iI p2.Dep]]) (as0:=[.agg [iI p2.Sum,sL Qja p2.Keys,iI p2.Dep]]) (aw0:=[]) (aw1:=[aR 69 2 Qja x4.Keys]) (aw2:=[.box [iI p2.Sum,sL Qja p2.Keys,iI p2.Dep],.box [iI p3.Key,iI p3.Val,iI p3.Dep],.box [iI 0,.nils,iI 0],.box [iI 0,iI 0,iI 0],aR 69 2 Qja x4.Keys]) (v:=.agg [iI x4.Sum,.ref 0,iI x4.Dep]) (v':=.agg [iI x4.Sum,.ref 4,iI x4.Dep]) (n0:=4) (n1:=1) [] rfl rfl rfl rfl (by decide) (Qva) ⟨J6a ⟨Qla rfl,rn_s rfl,Qla rfl,trivial⟩,trivial⟩ (FnX.of_fnO (stage_Copy_c p2 x4 hx4)) rfl (rm_agg (cs:=[iI x4.Sum,.ref 4,iI x4.Dep]) (ds:=[iI x4.Sum,.ref 0,iI x4.Dep]) ⟨Jla (Qfa _ _),Vca (by decide),Jla (Qfa _ _),trivial⟩) ⟨.inr ⟨rfl,rfl⟩,.inr ⟨rfl,rfl⟩,.inr ⟨rfl,rfl⟩,.inr ⟨rfl,rfl⟩,.inl ⟨0,_,by decide,rfl,Zma Q7a⟩,trivial⟩ (so (Qma Ty.c66 Ty.i66 rfl (vs:=[iI x4.Sum,.ref 4,iI x4.Dep]) rfl rfl rfl rfl (cs':=[iI x4.Sum,.ref 4,iI x4.Dep]) rfl rfl (RS.nil (T.seq (T.seq (T.region (sm (iI p0) rfl (RS.nil ?_)))))))))))))
  refine T.block (T.seq (T.region (sq (v_eql rfl rfl (sa (.bool (p0==2)) rfl (RS.nil (T.cond (b:=p0==2) rfl (fun hb_3=>?_) (fun hb_3=>?_))))))))
  ·replace h:=ite_T h hb_3
   refine T.seq (T.join (Z:=Unit) (fun _=>mkA 137 [(1,iI p1),(6,.ptr 0 0),(7,.ptr 1 0),(8,.ptr 2 0),(9,.ptr 3 0),(36,.bool ((decide (p1<0)) || decide (p1 > 3)))]) (fun _=>[.box [iI x4.Sum,.ref 4,iI x4.Dep],.box [iI p3.Key,iI p3.Val,iI p3.Dep],.box [iI 0,.nils,iI 0],.box [iI 0,iI 0,iI 0],aR 69 2 Qja x4.Keys]) (fun _=>True) (fun _ _=>?_) (fun hK=>?_))
   ·refine T.cond (b:=((decide (p1<0)) || decide (p1 > 3))) rfl (fun hb_5=>?_) (fun hb_5=>?_)
    ·replace h:=ite_T h hb_5
     refine T.seq (T.region (sq (Jva (cs:=[iI 0,.nils,iI 0]) Ty.z66 Ty.p66 rfl (sq (Jva (cs:=[iI 0,iI 0,iI 0]) Ty.z46 Ty.p46 rfl (so (Qma Ty.c66 Ty.i66 rfl (vs:=[iI 0,.nils,iI 0]) rfl rfl rfl rfl (cs':=[iI 0,.nils,iI 0]) rfl rfl (so (Qma Ty.c46 Ty.i46 rfl (vs:=[iI 0,iI 0,iI 0]) rfl rfl rfl rfl (cs':=[iI 0,iI 0,iI 0]) rfl rfl (sa (iI 3) rfl (RS.nil (T.rt (Jfa (id:=2) (off:=0) (cs:=[iI 0,.nils,iI 0]) (v:=.agg [iI 0,.nils,iI 0]) ?_ ?_ ?_ ?_)))))))))))))
     · rfl
     · rfl
     · exact fun K h=>(Qqa (row:=[iI 0,.nils,iI 0]) (off:=0) Ty.k66 Ty.c66 rfl (cs:=[iI 0,.nils,iI 0]) rfl h)
     refine Jfa (id:=3) (off:=0) (cs:=[iI 0,iI 0,iI 0]) (v:=.agg [iI 0,iI 0,iI 0]) ?_ ?_ ?_ ?_
     · rfl
     · rfl
     · exact fun K h=>(Qqa (row:=[iI 0,iI 0,iI 0]) (off:=0) Ty.k46 Ty.c46 rfl (cs:=[iI 0,iI 0,iI 0]) rfl h)
     refine Qna (v:=iI 3) rfl (Qra ?_)
     exact Qya (v:=.tup [.agg [iI 0,sL Qja [],iI 0],.agg [iI 0,iI 0,iI 0],iI 3]) rfl (Jna _ (Qka (⟨Qsa _ (Qka (⟨Qfa _ _,Qia Q7a _,Qfa _ _,trivial⟩)),Qsa _ (Qka (⟨Qfa _ _,Qfa _ _,Qfa _ _,trivial⟩)),Qfa _ _,trivial⟩))) ⟨congrArg (fun r:Memory × Item × Int=>(.tup [.agg [iI r.1.Sum,sL Qja r.1.Keys,iI r.1.Dep],.agg [iI r.2.1.Key,iI r.2.1.Val,iI r.2.1.Dep],iI r.2.2]:AV)) (Option.some.inj h),rfl⟩
    replace h:=ite_F h hb_5
    refine T.skip (T.seq ?_)
    obtain ⟨x7,hx7,h⟩:=bind_some h
    refine T.drawn mixed (k:=7) rfl ?_
    let l7:List (Nat × AV):=[(1,iI p1),(6,.ptr 0 0),(7,.ptr 1 0),(8,.ptr 2 0),(9,.ptr 3 0),(36,.bool ((decide (p1<0)) || decide (p1 > 3)))]
    let a7:List Ob:=[.box [iI x4.Sum,.ref 4,iI x4.Dep],.box [iI p3.Key,iI p3.Val,iI p3.Dep],.box [iI 0,.nils,iI 0],.box [iI 0,iI 0,iI 0],aR 69 2 Qja x4.Keys]
    refine RA.join 3 #[true,true,true,true,false,false,false] (mkA 137 ((39,.agg [iI x4.Sum,.ref 4,iI x4.Dep])::(40,iI p1)::(41,.agg [iI p3.Key,iI p3.Val,iI p3.Dep])::(42,.agg [iI x7.Key,iI x7.Val,iI x7.Dep])::l7)) a7 ?_ (fun hS6=>?_)
    ·refine ra1 4 (RO.op rfl rfl (Qma Ty.c66 Ty.i66 rfl (vs:=[iI x4.Sum,.ref 4,iI x4.Dep]) rfl rfl rfl rfl (cs':=[iI x4.Sum,.ref 4,iI x4.Dep]) rfl rfl (ra1 5 (RO.op rfl rfl (Qma Ty.c46 Ty.i46 rfl (vs:=[iI x7.Key,iI x7.Val,iI x7.Dep]) rfl rfl rfl rfl (cs':=[iI x7.Key,iI x7.Val,iI x7.Dep]) rfl rfl (rt0 6 rfl (Jta (v:=iI 0) rfl (RA.done (by decide +kernel) (T.rt (Jfa (id:=2) (off:=0) (cs:=[iI x4.Sum,.ref 4,iI x4.Dep]) (v:=.agg [iI x4.Sum,.ref 4,iI x4.Dep]) ?_ ?_ ?_ ?_))))))))))
     · rfl
     · rfl
     · exact fun K h=>(Qqa (row:=[iI x4.Sum,.ref 4,iI x4.Dep]) (off:=0) Ty.k66 Ty.c66 rfl (cs:=[iI x4.Sum,.ref 4,iI x4.Dep]) rfl h)
     refine Jfa (id:=3) (off:=0) (cs:=[iI x7.Key,iI x7.Val,iI x7.Dep]) (v:=.agg [iI x7.Key,iI x7.Val,iI x7.Dep]) ?_ ?_ ?_ ?_
     · rfl
     · rfl
     · exact fun K h=>(Qqa (row:=[iI x7.Key,iI x7.Val,iI x7.Dep]) (off:=0) Ty.k46 Ty.c46 rfl (cs:=[iI x7.Key,iI x7.Val,iI x7.Dep]) rfl h)
     refine Qna (v:=iI 0) rfl (Qra ?_)
     exact Qya (v:=.tup [.agg [iI x4.Sum,sL Qja x4.Keys,iI x4.Dep],.agg [iI x7.Key,iI x7.Val,iI x7.Dep],iI 0]) rfl (Jna _ (Qka (⟨Qsa _ (Qka (⟨Qfa _ _,Qia Q7a _,Qfa _ _,trivial⟩)),Qsa _ (Qka (⟨Qfa _ _,Qfa _ _,Qfa _ _,trivial⟩)),Qfa _ _,trivial⟩))) ⟨congrArg (fun r:Memory × Item × Int=>(.tup [.agg [iI r.1.Sum,sL Qja r.1.Keys,iI r.1.Dep],.agg [iI r.2.1.Key,iI r.2.1.Val,iI r.2.1.Dep],iI r.2.2]:AV)) (Option.some.inj h),rfl⟩
    ·refine rt0 1 rfl (Qza (v:=iI p1) rfl (rl0 [2,3,4,5,6] 2 rfl (Qxa rfl rfl (Qqa Ty.k46 Ty.c46 rfl (cs:=[iI p3.Key,iI p3.Val,iI p3.Dep]) rfl (ra2 0 3 ?_ ?_)))))
     ·refine RO.op rfl rfl (Qea rfl rfl (Qqa Ty.k66 Ty.c66 rfl (cs:=[iI x4.Sum,.ref 4,iI x4.Dep]) rfl (ra1 3 (RO.op rfl rfl (Jia (as0:=[iI p1,.agg [iI p3.Key,iI p3.Val,iI p3.Dep]]) (as1:=[iI p1,.agg [iI p3.Key,iI p3.Val,iI p3.Dep]]) (caps:=[]) (aw1:=[.box [iI x4.Sum,.ref 4,iI x4.Dep],.box [iI p3.Key,iI p3.Val,iI p3.Dep],.box [iI 0,.nils,iI 0],.box [iI 0,iI 0,iI 0],aR 69 2 Qja x4.Keys]) rfl rfl rfl (Zja (v:=.agg [iI x7.Key,iI x7.Val,iI x7.Dep]) (stage_mapped_c p1 p3 x7 hx7) (⟨Qfa _ _,Qsa _ (Qka (⟨Qfa _ _,Qfa _ _,Qfa _ _,trivial⟩)),trivial⟩) rfl ?_))))))
      exact raS hS6 ⟨rfl,rfl,rfl,rfl,rfl,rfl,rfl,rfl,rfl,rfl,trivial⟩
     ·refine RO.op rfl rfl (Jia (as0:=[iI p1,.agg [iI p3.Key,iI p3.Val,iI p3.Dep]]) (as1:=[iI p1,.agg [iI p3.Key,iI p3.Val,iI p3.Dep]]) (caps:=[]) (aw1:=[.box [iI x4.Sum,.ref 4,iI x4.Dep],.box [iI p3.Key,iI p3.Val,iI p3.Dep],.box [iI 0,.nils,iI 0],.box [iI 0,iI 0,iI 0],aR 69 2 Qja x4.Keys]) rfl rfl rfl (Zja (v:=.agg [iI x7.Key,iI x7.Val,iI x7.Dep]) (stage_mapped_c p1 p3 x7 hx7) (⟨Qfa _ _,Qsa _ (Qka (⟨Qfa _ _,Qfa _ _,Qfa _ _,trivial⟩)),trivial⟩) rfl (ra1 0 (RO.op rfl rfl (Qea rfl rfl (Qqa Ty.k66 Ty.c66 rfl (cs:=[iI x4.Sum,.ref 4,iI x4.Dep]) rfl ?_))))))
      exact raS hS6 ⟨rfl,rfl,rfl,rfl,rfl,rfl,rfl,rfl,rfl,rfl,trivial⟩
   refine T.region (sm (iI p1) rfl (sq (v_lss rfl rfl (sm (.bool (decide (p1<0))) rfl ?_))))
   rcases Q3a (decide (p1<0)) with hb_4 | hb_4
   ·refine sn hb_4 (sn hb_4 (sq (Jea (v:=.bool true) rfl hb_4 rfl (RS.nil ?_))))
    exact T.sub (hK () trivial) ⟨rfl,rfl,rfl,rfl,rfl,(congrArg AV.bool (by simp only [hb_4,bz,if_true,if_false,Bool.false_eq_true])).symm,trivial⟩
   refine yq hb_4 (Qza (v:=iI p1) rfl (yq hb_4 (v_gtr rfl rfl (sq (Q5a (v:=.bool (decide (p1 > 3))) rfl hb_4 rfl (RS.nil ?_))))))
   exact T.sub (hK () trivial) ⟨rfl,rfl,rfl,rfl,rfl,(congrArg AV.bool (by simp only [hb_4,bz,if_true,if_false,Bool.false_eq_true])).symm,trivial⟩
  replace h:=ite_F h hb_3
  refine T.seq (T.region (sq (v_eql rfl rfl (sa (.bool (p0==3)) rfl (RS.nil (T.cond (b:=p0==3) rfl (fun hb_8=>?_) (fun hb_8=>?_)))))))
  ·replace h:=ite_T h hb_8
   refine T.seq (T.region (sq (Qca Ty.f66_0 rfl (off':=0) rfl (so (Qea rfl rfl (Qga Ty.k3 (c:=iI x4.Sum) rfl (sq (Qca Ty.f46_1 rfl (off':=1) rfl (so (Qea rfl rfl (Qga Ty.k3 (c:=iI p3.Val) rfl (sq (v_add rfl rfl (sq (Qca Ty.f66_0 rfl (off':=0) rfl (so (Qma Ty.c3 Ty.i3 rfl (vs:=[iI (IntKind.i64.wrap (x4.Sum+p3.Val))]) rfl rfl rfl rfl (cs':=[iI (IntKind.i64.wrap (x4.Sum+p3.Val)),.ref 4,iI x4.Dep]) rfl rfl (RS.nil ?_))))))))))))))))))
   refine T.seq (T.region (sq (Qca Ty.f66_2 rfl (off':=2) rfl (so (Qea rfl rfl (Qga Ty.k3 (c:=iI x4.Dep) rfl (sq (Qca Ty.f46_2 rfl (off':=2) rfl (so (Qea rfl rfl (Qga Ty.k3 (c:=iI p3.Dep) rfl (sq (v_max rfl rfl (sq (Qca Ty.f66_2 rfl (off':=2) rfl (so (Qma Ty.c3 Ty.i3 rfl (vs:=[iI (if p3.Dep > x4.Dep then p3.Dep else x4.Dep)]) rfl rfl rfl rfl (cs':=[iI (IntKind.i64.wrap (x4.Sum+p3.Val)),.ref 4,iI (if p3.Dep > x4.Dep then p3.Dep else x4.Dep)]) rfl rfl (RS.nil ?_))))))))))))))))))
   refine T.seq (T.drawn mixed (k:=11) rfl ?_)
   let l16:List (Nat × AV):=[(0,iI p0),(1,iI p1),(2,.agg [iI p2.Sum,sL Qja p2.Keys,iI p2.Dep]),(3,.agg [iI p3.Key,iI p3.Val,iI p3.Dep]),(6,.ptr 0 0),(7,.ptr 1 0),(8,.ptr 2 0),(9,.ptr 3 0),(10,iI 0),(11,iI x2),(14,.agg [iI p2.Sum,sL Qja p2.Keys,iI p2.Dep]),(15,iI x2),(16,iI x2),(17,.bool (x2 != 0)),(21,.ptr 1 2),(22,iI p3.Dep),(23,.bool (decide (p3.Dep<0))),(26,.agg [iI p2.Sum,sL Qja p2.Keys,iI p2.Dep]),(27,.agg [iI x4.Sum,.ref 4,iI x4.Dep]),(28,iI p0),(29,.bool (p0==2)),(30,.bool (p0==2)),(43,.bool (p0==3)),(44,.bool (p0==3)),(45,.ptr 0 0),(46,iI x4.Sum),(47,.ptr 1 1),(48,iI p3.Val),(49,iI (IntKind.i64.wrap (x4.Sum+p3.Val))),(50,.ptr 0 0),(51,.ptr 0 2),(52,iI x4.Dep),(53,.ptr 1 2),(54,iI p3.Dep),(55,iI (if p3.Dep > x4.Dep then p3.Dep else x4.Dep)),(56,.ptr 0 2)]
   let a16:List Ob:=[.box [iI (IntKind.i64.wrap (x4.Sum+p3.Val)),.ref 4,iI (if p3.Dep > x4.Dep then p3.Dep else x4.Dep)],.box [iI p3.Key,iI p3.Val,iI p3.Dep],.box [iI 0,.nils,iI 0],.box [iI 0,iI 0,iI 0],aR 69 2 Qja x4.Keys]
   refine RA.join 2 #[true,true,true,true,true,true,true,true,true,false,false] (mkA 137 ((57,.agg [iI (IntKind.i64.wrap (x4.Sum+p3.Val)),.ref 4,iI (if p3.Dep > x4.Dep then p3.Dep else x4.Dep)])::(58,.ptr 1 0)::(59,iI p3.Key)::(60,.ptr 0 0)::(61,iI (IntKind.i64.wrap (x4.Sum+p3.Val)))::(62,.ptr 0 2)::(63,iI (if p3.Dep > x4.Dep then p3.Dep else x4.Dep))::(64,.agg [iI p3.Key,iI (IntKind.i64.wrap (x4.Sum+p3.Val)),iI (if p3.Dep > x4.Dep then p3.Dep else x4.Dep)])::l16)) [.box [iI (IntKind.i64.wrap (x4.Sum+p3.Val)),.ref 4,iI (if p3.Dep > x4.Dep then p3.Dep else x4.Dep)],.box [iI p3.Key,iI p3.Val,iI p3.Dep],.box [iI (IntKind.i64.wrap (x4.Sum+p3.Val)),.ref 4,iI (if p3.Dep > x4.Dep then p3.Dep else x4.Dep)],.box [iI 0,iI 0,iI 0],aR 69 2 Qja x4.Keys] ?_ (fun hS9=>?_)
   ·refine ra1 9 (RO.op rfl rfl (Qma Ty.c46 Ty.i46 rfl (vs:=[iI p3.Key,iI (IntKind.i64.wrap (x4.Sum+p3.Val)),iI (if p3.Dep > x4.Dep then p3.Dep else x4.Dep)]) rfl rfl rfl rfl (cs':=[iI p3.Key,iI (IntKind.i64.wrap (x4.Sum+p3.Val)),iI (if p3.Dep > x4.Dep then p3.Dep else x4.Dep)]) rfl rfl (rt0 10 rfl (Jta (v:=iI 0) rfl (RA.done (by decide +kernel) (T.rt (Jfa (id:=2) (off:=0) (cs:=[iI (IntKind.i64.wrap (x4.Sum+p3.Val)),.ref 4,iI (if p3.Dep > x4.Dep then p3.Dep else x4.Dep)]) (v:=.agg [iI (IntKind.i64.wrap (x4.Sum+p3.Val)),.ref 4,iI (if p3.Dep > x4.Dep then p3.Dep else x4.Dep)]) ?_ ?_ ?_ ?_)))))))
    · rfl
    · rfl
    · exact fun K h=>(Qqa (row:=[iI (IntKind.i64.wrap (x4.Sum+p3.Val)),.ref 4,iI (if p3.Dep > x4.Dep then p3.Dep else x4.Dep)]) (off:=0) Ty.k66 Ty.c66 rfl (cs:=[iI (IntKind.i64.wrap (x4.Sum+p3.Val)),.ref 4,iI (if p3.Dep > x4.Dep then p3.Dep else x4.Dep)]) rfl h)
    refine Jfa (id:=3) (off:=0) (cs:=[iI p3.Key,iI (IntKind.i64.wrap (x4.Sum+p3.Val)),iI (if p3.Dep > x4.Dep then p3.Dep else x4.Dep)]) (v:=.agg [iI p3.Key,iI (IntKind.i64.wrap (x4.Sum+p3.Val)),iI (if p3.Dep > x4.Dep then p3.Dep else x4.Dep)]) ?_ ?_ ?_ ?_
    · rfl
    · rfl
    · exact fun K h=>(Qqa (row:=[iI p3.Key,iI (IntKind.i64.wrap (x4.Sum+p3.Val)),iI (if p3.Dep > x4.Dep then p3.Dep else x4.Dep)]) (off:=0) Ty.k46 Ty.c46 rfl (cs:=[iI p3.Key,iI (IntKind.i64.wrap (x4.Sum+p3.Val)),iI (if p3.Dep > x4.Dep then p3.Dep else x4.Dep)]) rfl h)
    refine Qna (v:=iI 0) rfl (Qra ?_)
    exact Qya (v:=.tup [.agg [iI (IntKind.i64.wrap (x4.Sum+p3.Val)),sL Qja x4.Keys,iI (if p3.Dep > x4.Dep then p3.Dep else x4.Dep)],.agg [iI p3.Key,iI (IntKind.i64.wrap (x4.Sum+p3.Val)),iI (if p3.Dep > x4.Dep then p3.Dep else x4.Dep)],iI 0]) rfl (Jna _ (Qka (⟨Qsa _ (Qka (⟨Qfa _ _,Qia Q7a _,Qfa _ _,trivial⟩)),Qsa _ (Qka (⟨Qfa _ _,Qfa _ _,Qfa _ _,trivial⟩)),Qfa _ _,trivial⟩))) ⟨congrArg (fun r:Memory × Item × Int=>(.tup [.agg [iI r.1.Sum,sL Qja r.1.Keys,iI r.1.Dep],.agg [iI r.2.1.Key,iI r.2.1.Val,iI r.2.1.Dep],iI r.2.2]:AV)) (Option.some.inj h),rfl⟩
   ·refine RA.join 3 #[true,true,true,true,true,true,true,true,false,false,false] (mkA 137 ((57,.agg [iI (IntKind.i64.wrap (x4.Sum+p3.Val)),.ref 4,iI (if p3.Dep > x4.Dep then p3.Dep else x4.Dep)])::(58,.ptr 1 0)::(59,iI p3.Key)::(60,.ptr 0 0)::(61,iI (IntKind.i64.wrap (x4.Sum+p3.Val)))::(62,.ptr 0 2)::(63,iI (if p3.Dep > x4.Dep then p3.Dep else x4.Dep))::(64,.agg [iI p3.Key,iI (IntKind.i64.wrap (x4.Sum+p3.Val)),iI (if p3.Dep > x4.Dep then p3.Dep else x4.Dep)])::l16)) a16 ?_ (fun hS10=>?_)
    ·refine ra1 8 (RO.op rfl rfl (Qma Ty.c66 Ty.i66 rfl (vs:=[iI (IntKind.i64.wrap (x4.Sum+p3.Val)),.ref 4,iI (if p3.Dep > x4.Dep then p3.Dep else x4.Dep)]) rfl rfl rfl rfl (cs':=[iI (IntKind.i64.wrap (x4.Sum+p3.Val)),.ref 4,iI (if p3.Dep > x4.Dep then p3.Dep else x4.Dep)]) rfl rfl ?_))
     exact raS hS9 ⟨rfl,rfl,rfl,rfl,rfl,rfl,rfl,rfl,rfl,rfl,rfl,rfl,rfl,rfl,rfl,rfl,rfl,rfl,rfl,rfl,rfl,rfl,rfl,rfl,rfl,rfl,rfl,rfl,rfl,rfl,rfl,rfl,rfl,rfl,rfl,rfl,rfl,rfl,rfl,rfl,rfl,rfl,rfl,rfl,trivial⟩
    ·refine RA.join 4 #[true,true,true,true,true,true,false,false,true,false,false] (mkA 137 ((57,.agg [iI (IntKind.i64.wrap (x4.Sum+p3.Val)),.ref 4,iI (if p3.Dep > x4.Dep then p3.Dep else x4.Dep)])::(58,.ptr 1 0)::(59,iI p3.Key)::(60,.ptr 0 0)::(61,iI (IntKind.i64.wrap (x4.Sum+p3.Val)))::(62,.ptr 0 2)::l16)) [.box [iI (IntKind.i64.wrap (x4.Sum+p3.Val)),.ref 4,iI (if p3.Dep > x4.Dep then p3.Dep else x4.Dep)],.box [iI p3.Key,iI p3.Val,iI p3.Dep],.box [iI (IntKind.i64.wrap (x4.Sum+p3.Val)),.ref 4,iI (if p3.Dep > x4.Dep then p3.Dep else x4.Dep)],.box [iI 0,iI 0,iI 0],aR 69 2 Qja x4.Keys] ?_ (fun hS11=>?_)
     ·refine ra1 6 (RO.op rfl rfl (Qea rfl rfl (Qga Ty.k3 (c:=iI (if p3.Dep > x4.Dep then p3.Dep else x4.Dep)) rfl (rt0 7 rfl (Jva (cs:=[iI p3.Key,iI (IntKind.i64.wrap (x4.Sum+p3.Val)),iI (if p3.Dep > x4.Dep then p3.Dep else x4.Dep)]) Ty.z46 Ty.p46 rfl ?_)))))
      exact raS hS9 ⟨rfl,rfl,rfl,rfl,rfl,rfl,rfl,rfl,rfl,rfl,rfl,rfl,rfl,rfl,rfl,rfl,rfl,rfl,rfl,rfl,rfl,rfl,rfl,rfl,rfl,rfl,rfl,rfl,rfl,rfl,rfl,rfl,rfl,rfl,rfl,rfl,rfl,rfl,rfl,rfl,rfl,rfl,rfl,rfl,trivial⟩
     ·refine RA.join 4 #[true,true,true,true,false,true,true,false,true,false,false] (mkA 137 ((57,.agg [iI (IntKind.i64.wrap (x4.Sum+p3.Val)),.ref 4,iI (if p3.Dep > x4.Dep then p3.Dep else x4.Dep)])::(58,.ptr 1 0)::(59,iI p3.Key)::(60,.ptr 0 0)::(62,.ptr 0 2)::(63,iI (if p3.Dep > x4.Dep then p3.Dep else x4.Dep))::l16)) [.box [iI (IntKind.i64.wrap (x4.Sum+p3.Val)),.ref 4,iI (if p3.Dep > x4.Dep then p3.Dep else x4.Dep)],.box [iI p3.Key,iI p3.Val,iI p3.Dep],.box [iI (IntKind.i64.wrap (x4.Sum+p3.Val)),.ref 4,iI (if p3.Dep > x4.Dep then p3.Dep else x4.Dep)],.box [iI 0,iI 0,iI 0],aR 69 2 Qja x4.Keys] ?_ (fun hS12=>?_)
      ·refine ra1 4 (RO.op rfl rfl (Qea rfl rfl (Qga Ty.k3 (c:=iI (IntKind.i64.wrap (x4.Sum+p3.Val))) rfl (rt0 7 rfl (Jva (cs:=[iI p3.Key,iI (IntKind.i64.wrap (x4.Sum+p3.Val)),iI (if p3.Dep > x4.Dep then p3.Dep else x4.Dep)]) Ty.z46 Ty.p46 rfl ?_)))))
       exact raS hS9 ⟨rfl,rfl,rfl,rfl,rfl,rfl,rfl,rfl,rfl,rfl,rfl,rfl,rfl,rfl,rfl,rfl,rfl,rfl,rfl,rfl,rfl,rfl,rfl,rfl,rfl,rfl,rfl,rfl,rfl,rfl,rfl,rfl,rfl,rfl,rfl,rfl,rfl,rfl,rfl,rfl,rfl,rfl,rfl,rfl,trivial⟩
      ·refine RA.join 5 #[true,true,true,true,false,true,true,false,false,false,false] (mkA 137 ((57,.agg [iI (IntKind.i64.wrap (x4.Sum+p3.Val)),.ref 4,iI (if p3.Dep > x4.Dep then p3.Dep else x4.Dep)])::(58,.ptr 1 0)::(59,iI p3.Key)::(60,.ptr 0 0)::(62,.ptr 0 2)::(63,iI (if p3.Dep > x4.Dep then p3.Dep else x4.Dep))::l16)) a16 ?_ (fun hS13=>?_)
       ·refine ra2 4 8 ?_ ?_
        ·refine RO.op rfl rfl (Qea rfl rfl (Qga Ty.k3 (c:=iI (IntKind.i64.wrap (x4.Sum+p3.Val))) rfl (rt0 7 rfl (Jva (cs:=[iI p3.Key,iI (IntKind.i64.wrap (x4.Sum+p3.Val)),iI (if p3.Dep > x4.Dep then p3.Dep else x4.Dep)]) Ty.z46 Ty.p46 rfl ?_))))
         exact raS hS10 ⟨rfl,rfl,rfl,rfl,rfl,rfl,rfl,rfl,rfl,rfl,rfl,rfl,rfl,rfl,rfl,rfl,rfl,rfl,rfl,rfl,rfl,rfl,rfl,rfl,rfl,rfl,rfl,rfl,rfl,rfl,rfl,rfl,rfl,rfl,rfl,rfl,rfl,rfl,rfl,rfl,rfl,rfl,rfl,rfl,trivial⟩
        ·refine RO.op rfl rfl (Qma Ty.c66 Ty.i66 rfl (vs:=[iI (IntKind.i64.wrap (x4.Sum+p3.Val)),.ref 4,iI (if p3.Dep > x4.Dep then p3.Dep else x4.Dep)]) rfl rfl rfl rfl (cs':=[iI (IntKind.i64.wrap (x4.Sum+p3.Val)),.ref 4,iI (if p3.Dep > x4.Dep then p3.Dep else x4.Dep)]) rfl rfl ?_)
         exact raS hS12 ⟨rfl,rfl,rfl,rfl,rfl,rfl,rfl,rfl,rfl,rfl,rfl,rfl,rfl,rfl,rfl,rfl,rfl,rfl,rfl,rfl,rfl,rfl,rfl,rfl,rfl,rfl,rfl,rfl,rfl,rfl,rfl,rfl,rfl,rfl,rfl,rfl,rfl,rfl,rfl,rfl,rfl,rfl,trivial⟩
       ·refine RA.join 5 #[true,true,false,true,true,true,true,false,false,false,false] (mkA 137 ((57,.agg [iI (IntKind.i64.wrap (x4.Sum+p3.Val)),.ref 4,iI (if p3.Dep > x4.Dep then p3.Dep else x4.Dep)])::(58,.ptr 1 0)::(60,.ptr 0 0)::(61,iI (IntKind.i64.wrap (x4.Sum+p3.Val)))::(62,.ptr 0 2)::(63,iI (if p3.Dep > x4.Dep then p3.Dep else x4.Dep))::l16)) a16 ?_ (fun hS14=>?_)
        ·refine ra2 2 8 ?_ ?_
         ·refine RO.op rfl rfl (Qea rfl rfl (Qga Ty.k3 (c:=iI p3.Key) rfl (rt0 7 rfl (Jva (cs:=[iI p3.Key,iI (IntKind.i64.wrap (x4.Sum+p3.Val)),iI (if p3.Dep > x4.Dep then p3.Dep else x4.Dep)]) Ty.z46 Ty.p46 rfl ?_))))
          exact raS hS10 ⟨rfl,rfl,rfl,rfl,rfl,rfl,rfl,rfl,rfl,rfl,rfl,rfl,rfl,rfl,rfl,rfl,rfl,rfl,rfl,rfl,rfl,rfl,rfl,rfl,rfl,rfl,rfl,rfl,rfl,rfl,rfl,rfl,rfl,rfl,rfl,rfl,rfl,rfl,rfl,rfl,rfl,rfl,rfl,rfl,trivial⟩
         ·refine RO.op rfl rfl (Qma Ty.c66 Ty.i66 rfl (vs:=[iI (IntKind.i64.wrap (x4.Sum+p3.Val)),.ref 4,iI (if p3.Dep > x4.Dep then p3.Dep else x4.Dep)]) rfl rfl rfl rfl (cs':=[iI (IntKind.i64.wrap (x4.Sum+p3.Val)),.ref 4,iI (if p3.Dep > x4.Dep then p3.Dep else x4.Dep)]) rfl rfl (ra1 2 (RO.op rfl rfl (Qea rfl rfl (Qga Ty.k3 (c:=iI p3.Key) rfl (rt0 7 rfl (Jva (cs:=[iI p3.Key,iI (IntKind.i64.wrap (x4.Sum+p3.Val)),iI (if p3.Dep > x4.Dep then p3.Dep else x4.Dep)]) Ty.z46 Ty.p46 rfl ?_)))))))
          exact raS hS9 ⟨rfl,rfl,rfl,rfl,rfl,rfl,rfl,rfl,rfl,rfl,rfl,rfl,rfl,rfl,rfl,rfl,rfl,rfl,rfl,rfl,rfl,rfl,rfl,rfl,rfl,rfl,rfl,rfl,rfl,rfl,rfl,rfl,rfl,rfl,rfl,rfl,rfl,rfl,rfl,rfl,rfl,rfl,rfl,rfl,trivial⟩
        ·refine RA.join 5 #[true,true,true,true,true,true,false,false,false,false,false] (mkA 137 ((57,.agg [iI (IntKind.i64.wrap (x4.Sum+p3.Val)),.ref 4,iI (if p3.Dep > x4.Dep then p3.Dep else x4.Dep)])::(58,.ptr 1 0)::(59,iI p3.Key)::(60,.ptr 0 0)::(61,iI (IntKind.i64.wrap (x4.Sum+p3.Val)))::(62,.ptr 0 2)::l16)) a16 ?_ (fun hS15=>?_)
         ·refine ra2 6 8 ?_ ?_
          ·refine RO.op rfl rfl (Qea rfl rfl (Qga Ty.k3 (c:=iI (if p3.Dep > x4.Dep then p3.Dep else x4.Dep)) rfl (rt0 7 rfl (Jva (cs:=[iI p3.Key,iI (IntKind.i64.wrap (x4.Sum+p3.Val)),iI (if p3.Dep > x4.Dep then p3.Dep else x4.Dep)]) Ty.z46 Ty.p46 rfl ?_))))
           exact raS hS10 ⟨rfl,rfl,rfl,rfl,rfl,rfl,rfl,rfl,rfl,rfl,rfl,rfl,rfl,rfl,rfl,rfl,rfl,rfl,rfl,rfl,rfl,rfl,rfl,rfl,rfl,rfl,rfl,rfl,rfl,rfl,rfl,rfl,rfl,rfl,rfl,rfl,rfl,rfl,rfl,rfl,rfl,rfl,rfl,rfl,trivial⟩
          ·refine RO.op rfl rfl (Qma Ty.c66 Ty.i66 rfl (vs:=[iI (IntKind.i64.wrap (x4.Sum+p3.Val)),.ref 4,iI (if p3.Dep > x4.Dep then p3.Dep else x4.Dep)]) rfl rfl rfl rfl (cs':=[iI (IntKind.i64.wrap (x4.Sum+p3.Val)),.ref 4,iI (if p3.Dep > x4.Dep then p3.Dep else x4.Dep)]) rfl rfl ?_)
           exact raS hS11 ⟨rfl,rfl,rfl,rfl,rfl,rfl,rfl,rfl,rfl,rfl,rfl,rfl,rfl,rfl,rfl,rfl,rfl,rfl,rfl,rfl,rfl,rfl,rfl,rfl,rfl,rfl,rfl,rfl,rfl,rfl,rfl,rfl,rfl,rfl,rfl,rfl,rfl,rfl,rfl,rfl,rfl,rfl,trivial⟩
         ·refine rt0 1 rfl (Qca Ty.f46_0 rfl (off':=0) rfl (rt0 3 rfl (Qca Ty.f66_0 rfl (off':=0) rfl (rt0 5 rfl (Qca Ty.f66_2 rfl (off':=2) rfl (rl0 [0,8,9,10] 0 rfl (Qxa rfl rfl (Qqa Ty.k66 Ty.c66 rfl (cs:=[iI (IntKind.i64.wrap (x4.Sum+p3.Val)),.ref 4,iI (if p3.Dep > x4.Dep then p3.Dep else x4.Dep)]) rfl (ra4 2 4 6 8 ?_ ?_ ?_ ?_)))))))))
          ·refine RO.op rfl rfl (Qea rfl rfl (Qga Ty.k3 (c:=iI p3.Key) rfl (ra3 4 6 8 ?_ ?_ ?_)))
           ·refine RO.op rfl rfl (Qea rfl rfl (Qga Ty.k3 (c:=iI (IntKind.i64.wrap (x4.Sum+p3.Val))) rfl ?_))
            exact raS hS15 ⟨rfl,rfl,rfl,rfl,rfl,rfl,rfl,rfl,rfl,rfl,rfl,rfl,rfl,rfl,rfl,rfl,rfl,rfl,rfl,rfl,rfl,rfl,rfl,rfl,rfl,rfl,rfl,rfl,rfl,rfl,rfl,rfl,rfl,rfl,rfl,rfl,rfl,rfl,rfl,rfl,rfl,rfl,trivial⟩
           ·refine RO.op rfl rfl (Qea rfl rfl (Qga Ty.k3 (c:=iI (if p3.Dep > x4.Dep then p3.Dep else x4.Dep)) rfl ?_))
            exact raS hS13 ⟨rfl,rfl,rfl,rfl,rfl,rfl,rfl,rfl,rfl,rfl,rfl,rfl,rfl,rfl,rfl,rfl,rfl,rfl,rfl,rfl,rfl,rfl,rfl,rfl,rfl,rfl,rfl,rfl,rfl,rfl,rfl,rfl,rfl,rfl,rfl,rfl,rfl,rfl,rfl,rfl,rfl,rfl,trivial⟩
           ·refine RO.op rfl rfl (Qma Ty.c66 Ty.i66 rfl (vs:=[iI (IntKind.i64.wrap (x4.Sum+p3.Val)),.ref 4,iI (if p3.Dep > x4.Dep then p3.Dep else x4.Dep)]) rfl rfl rfl rfl (cs':=[iI (IntKind.i64.wrap (x4.Sum+p3.Val)),.ref 4,iI (if p3.Dep > x4.Dep then p3.Dep else x4.Dep)]) rfl rfl (rl0 [4,7,9,10] 4 rfl (Qxa rfl rfl (Qga Ty.k3 (c:=iI (IntKind.i64.wrap (x4.Sum+p3.Val))) rfl ?_))))
            exact raS hS11 ⟨rfl,rfl,rfl,rfl,rfl,rfl,rfl,rfl,rfl,rfl,rfl,rfl,rfl,rfl,rfl,rfl,rfl,rfl,rfl,rfl,rfl,rfl,rfl,rfl,rfl,rfl,rfl,rfl,rfl,rfl,rfl,rfl,rfl,rfl,rfl,rfl,rfl,rfl,rfl,rfl,rfl,rfl,trivial⟩
          ·refine RO.op rfl rfl (Qea rfl rfl (Qga Ty.k3 (c:=iI (IntKind.i64.wrap (x4.Sum+p3.Val))) rfl (ra3 2 6 8 ?_ ?_ ?_)))
           ·refine RO.op rfl rfl (Qea rfl rfl (Qga Ty.k3 (c:=iI p3.Key) rfl ?_))
            exact raS hS15 ⟨rfl,rfl,rfl,rfl,rfl,rfl,rfl,rfl,rfl,rfl,rfl,rfl,rfl,rfl,rfl,rfl,rfl,rfl,rfl,rfl,rfl,rfl,rfl,rfl,rfl,rfl,rfl,rfl,rfl,rfl,rfl,rfl,rfl,rfl,rfl,rfl,rfl,rfl,rfl,rfl,rfl,rfl,trivial⟩
           ·refine RO.op rfl rfl (Qea rfl rfl (Qga Ty.k3 (c:=iI (if p3.Dep > x4.Dep then p3.Dep else x4.Dep)) rfl ?_))
            exact raS hS14 ⟨rfl,rfl,rfl,rfl,rfl,rfl,rfl,rfl,rfl,rfl,rfl,rfl,rfl,rfl,rfl,rfl,rfl,rfl,rfl,rfl,rfl,rfl,rfl,rfl,rfl,rfl,rfl,rfl,rfl,rfl,rfl,rfl,rfl,rfl,rfl,rfl,rfl,rfl,rfl,rfl,rfl,rfl,trivial⟩
           ·refine RO.op rfl rfl (Qma Ty.c66 Ty.i66 rfl (vs:=[iI (IntKind.i64.wrap (x4.Sum+p3.Val)),.ref 4,iI (if p3.Dep > x4.Dep then p3.Dep else x4.Dep)]) rfl rfl rfl rfl (cs':=[iI (IntKind.i64.wrap (x4.Sum+p3.Val)),.ref 4,iI (if p3.Dep > x4.Dep then p3.Dep else x4.Dep)]) rfl rfl (rl0 [2,7,9,10] 2 rfl (Qxa rfl rfl (Qga Ty.k3 (c:=iI p3.Key) rfl ?_))))
            exact raS hS11 ⟨rfl,rfl,rfl,rfl,rfl,rfl,rfl,rfl,rfl,rfl,rfl,rfl,rfl,rfl,rfl,rfl,rfl,rfl,rfl,rfl,rfl,rfl,rfl,rfl,rfl,rfl,rfl,rfl,rfl,rfl,rfl,rfl,rfl,rfl,rfl,rfl,rfl,rfl,rfl,rfl,rfl,rfl,trivial⟩
          ·refine RO.op rfl rfl (Qea rfl rfl (Qga Ty.k3 (c:=iI (if p3.Dep > x4.Dep then p3.Dep else x4.Dep)) rfl (ra3 2 4 8 ?_ ?_ ?_)))
           ·refine RO.op rfl rfl (Qea rfl rfl (Qga Ty.k3 (c:=iI p3.Key) rfl ?_))
            exact raS hS13 ⟨rfl,rfl,rfl,rfl,rfl,rfl,rfl,rfl,rfl,rfl,rfl,rfl,rfl,rfl,rfl,rfl,rfl,rfl,rfl,rfl,rfl,rfl,rfl,rfl,rfl,rfl,rfl,rfl,rfl,rfl,rfl,rfl,rfl,rfl,rfl,rfl,rfl,rfl,rfl,rfl,rfl,rfl,trivial⟩
           ·refine RO.op rfl rfl (Qea rfl rfl (Qga Ty.k3 (c:=iI (IntKind.i64.wrap (x4.Sum+p3.Val))) rfl ?_))
            exact raS hS14 ⟨rfl,rfl,rfl,rfl,rfl,rfl,rfl,rfl,rfl,rfl,rfl,rfl,rfl,rfl,rfl,rfl,rfl,rfl,rfl,rfl,rfl,rfl,rfl,rfl,rfl,rfl,rfl,rfl,rfl,rfl,rfl,rfl,rfl,rfl,rfl,rfl,rfl,rfl,rfl,rfl,rfl,rfl,trivial⟩
           ·refine RO.op rfl rfl (Qma Ty.c66 Ty.i66 rfl (vs:=[iI (IntKind.i64.wrap (x4.Sum+p3.Val)),.ref 4,iI (if p3.Dep > x4.Dep then p3.Dep else x4.Dep)]) rfl rfl rfl rfl (cs':=[iI (IntKind.i64.wrap (x4.Sum+p3.Val)),.ref 4,iI (if p3.Dep > x4.Dep then p3.Dep else x4.Dep)]) rfl rfl (rl0 [2,7,9,10] 2 rfl (Qxa rfl rfl (Qga Ty.k3 (c:=iI p3.Key) rfl ?_))))
            exact raS hS12 ⟨rfl,rfl,rfl,rfl,rfl,rfl,rfl,rfl,rfl,rfl,rfl,rfl,rfl,rfl,rfl,rfl,rfl,rfl,rfl,rfl,rfl,rfl,rfl,rfl,rfl,rfl,rfl,rfl,rfl,rfl,rfl,rfl,rfl,rfl,rfl,rfl,rfl,rfl,rfl,rfl,rfl,rfl,trivial⟩
          ·refine RO.op rfl rfl (Qma Ty.c66 Ty.i66 rfl (vs:=[iI (IntKind.i64.wrap (x4.Sum+p3.Val)),.ref 4,iI (if p3.Dep > x4.Dep then p3.Dep else x4.Dep)]) rfl rfl rfl rfl (cs':=[iI (IntKind.i64.wrap (x4.Sum+p3.Val)),.ref 4,iI (if p3.Dep > x4.Dep then p3.Dep else x4.Dep)]) rfl rfl (rl0 [2,7,9,10] 2 rfl (Qxa rfl rfl (Qga Ty.k3 (c:=iI p3.Key) rfl (rl0 [4,7,9,10] 4 rfl (Qxa rfl rfl (Qga Ty.k3 (c:=iI (IntKind.i64.wrap (x4.Sum+p3.Val))) rfl ?_)))))))
           exact raS hS11 ⟨rfl,rfl,rfl,rfl,rfl,rfl,rfl,rfl,rfl,rfl,rfl,rfl,rfl,rfl,rfl,rfl,rfl,rfl,rfl,rfl,rfl,rfl,rfl,rfl,rfl,rfl,rfl,rfl,rfl,rfl,rfl,rfl,rfl,rfl,rfl,rfl,rfl,rfl,rfl,rfl,rfl,rfl,trivial⟩
  replace h:=ite_F h hb_8
  refine T.seq (T.region (sq (v_eql rfl rfl (sa (.bool (p0==4)) rfl (RS.nil (T.cond (b:=p0==4) rfl (fun hb_17=>?_) (fun hb_17=>?_)))))))
  ·replace h := ite_T h hb_17
   refine T.seq ?_
   obtain ⟨x9,hx9,h⟩:=bind_some h
   refine T.region (sq (Qca Ty.f66_1 rfl (off':=1) rfl (so (Qea rfl rfl (Qga Ty.k64 (c:=.ref 4) rfl (sq (Qca Ty.f46_0 rfl (off':=0) rfl (so (Qea rfl rfl (Qga Ty.k3 (c:=iI p3.Key) rfl (so (Jia (as0:=[.ref 4,iI p3.Key,.func 119 []]) (as1:=[sL Qja x4.Keys,iI p3.Key,.func 119 []]) (caps:=[]) (aw1:=[.box [iI x4.Sum,.ref 4,iI x4.Dep],.box [iI p3.Key,iI p3.Val,iI p3.Dep],.box [iI 0,.nils,iI 0],.box [iI 0,iI 0,iI 0],.dead]) rfl rfl rfl (Zja (v:=.tup [iI x9.1,.bool x9.2]) (Qfb x4.Keys p3.Key x9 hx9) (⟨Qia Q7a _,Qfa _ _,pure_func _ _ (Qka (trivial)),trivial⟩) rfl (sm (.tup [iI x9.1,.bool x9.2]) rfl (sq (Qwa (v:=iI x9.1) rfl rfl (sq (Qwa (v:=.bool x9.2) rfl rfl (sa (iI x9.1) rfl ?_)))))))))))))))))))
   refine sa (.bool x9.2) rfl (RS.nil (T.seq (T.region (sq (Qca Ty.f66_2 rfl (off':=2) rfl (so (Qea rfl rfl (Qga Ty.k3 (c:=iI x4.Dep) rfl (sq (Qca Ty.f46_2 rfl (off':=2) rfl (so (Qea rfl rfl (Qga Ty.k3 (c:=iI p3.Dep) rfl (sq (v_max rfl rfl (sq (Qca Ty.f66_2 rfl (off':=2) rfl ?_)))))))))))))))))
   refine so (Qma Ty.c3 Ty.i3 rfl (vs:=[iI (if p3.Dep > x4.Dep then p3.Dep else x4.Dep)]) rfl rfl rfl rfl (cs':=[iI x4.Sum,.ref 4,iI (if p3.Dep > x4.Dep then p3.Dep else x4.Dep)]) rfl rfl (RS.nil (T.seq (T.join (Z:=Unit) (fun _=>mkA 137 [(6,.ptr 0 0),(7,.ptr 1 0),(8,.ptr 2 0),(9,.ptr 3 0),(12,iI x9.1),(13,.bool x9.2),(88,.bool ((!x9.2) && ((x4.Keys).length:Int)==6))]) (fun _=>[.box [iI x4.Sum,.ref 4,iI (if p3.Dep > x4.Dep then p3.Dep else x4.Dep)],.box [iI p3.Key,iI p3.Val,iI p3.Dep],.box [iI 0,.nils,iI 0],.box [iI 0,iI 0,iI 0],aR 69 2 Qja x4.Keys]) (fun _=>True) (fun _ _=>?_) (fun hK=>?_)))))
   ·refine T.cond (b := ((!x9.2) && ((x4.Keys).length:Int)==6)) rfl (fun hb_19=>?_) (fun hb_19=>?_)
    ·replace h:=ite_T h hb_19
     refine T.seq (T.drawn mixed (k:=9) rfl ?_)
     let l23:List (Nat × AV):=[(6,.ptr 0 0),(7,.ptr 1 0),(8,.ptr 2 0),(9,.ptr 3 0),(12,iI x9.1),(13,.bool x9.2),(88,.bool ((!x9.2) && ((x4.Keys).length:Int)==6))]
     let a23:List Ob:=[.box [iI x4.Sum,.ref 4,iI (if p3.Dep > x4.Dep then p3.Dep else x4.Dep)],.box [iI p3.Key,iI p3.Val,iI p3.Dep],.box [iI 0,.nils,iI 0],.box [iI 0,iI 0,iI 0],aR 69 2 Qja x4.Keys]
     refine RA.join 2 #[true,true,true,true,true,true,true,false,false] (mkA 137 ((89,.agg [iI x4.Sum,.ref 4,iI (if p3.Dep > x4.Dep then p3.Dep else x4.Dep)])::(90,.ptr 1 0)::(91,iI p3.Key)::(92,.ptr 0 2)::(93,iI (if p3.Dep > x4.Dep then p3.Dep else x4.Dep))::(94,.agg [iI p3.Key,iI 0,iI (if p3.Dep > x4.Dep then p3.Dep else x4.Dep)])::l23)) [.box [iI x4.Sum,.ref 4,iI (if p3.Dep > x4.Dep then p3.Dep else x4.Dep)],.box [iI p3.Key,iI p3.Val,iI p3.Dep],.box [iI x4.Sum,.ref 4,iI (if p3.Dep > x4.Dep then p3.Dep else x4.Dep)],.box [iI 0,iI 0,iI 0],aR 69 2 Qja x4.Keys] ?_ (fun hS20=>?_)
     ·refine ra1 7 (RO.op rfl rfl (Qma Ty.c46 Ty.i46 rfl (vs:=[iI p3.Key,iI 0,iI (if p3.Dep > x4.Dep then p3.Dep else x4.Dep)]) rfl rfl rfl rfl (cs':=[iI p3.Key,iI 0,iI (if p3.Dep > x4.Dep then p3.Dep else x4.Dep)]) rfl rfl (rt0 8 rfl (Jta (v:=iI 0) rfl (RA.done (by decide +kernel) (T.rt (Jfa (id:=2) (off:=0) (cs:=[iI x4.Sum,.ref 4,iI (if p3.Dep > x4.Dep then p3.Dep else x4.Dep)]) (v:=.agg [iI x4.Sum,.ref 4,iI (if p3.Dep > x4.Dep then p3.Dep else x4.Dep)]) ?_ ?_ ?_ ?_)))))))
      · rfl
      · rfl
      · exact fun K h=>(Qqa (row:=[iI x4.Sum,.ref 4,iI (if p3.Dep > x4.Dep then p3.Dep else x4.Dep)]) (off:=0) Ty.k66 Ty.c66 rfl (cs:=[iI x4.Sum,.ref 4,iI (if p3.Dep > x4.Dep then p3.Dep else x4.Dep)]) rfl h)
      refine Jfa (id:=3) (off:=0) (cs:=[iI p3.Key,iI 0,iI (if p3.Dep > x4.Dep then p3.Dep else x4.Dep)]) (v:=.agg [iI p3.Key,iI 0,iI (if p3.Dep > x4.Dep then p3.Dep else x4.Dep)]) ?_ ?_ ?_ ?_
      · rfl
      · rfl
      · exact fun K h=>(Qqa (row:=[iI p3.Key,iI 0,iI (if p3.Dep > x4.Dep then p3.Dep else x4.Dep)]) (off:=0) Ty.k46 Ty.c46 rfl (cs:=[iI p3.Key,iI 0,iI (if p3.Dep > x4.Dep then p3.Dep else x4.Dep)]) rfl h)
      refine Qna (v:=iI 0) rfl (Qra ?_)
      exact Qya (v:=.tup [.agg [iI x4.Sum,sL Qja x4.Keys,iI (if p3.Dep > x4.Dep then p3.Dep else x4.Dep)],.agg [iI p3.Key,iI 0,iI (if p3.Dep > x4.Dep then p3.Dep else x4.Dep)],iI 0]) rfl (Jna _ (Qka (⟨Qsa _ (Qka (⟨Qfa _ _,Qia Q7a _,Qfa _ _,trivial⟩)),Qsa _ (Qka (⟨Qfa _ _,Qfa _ _,Qfa _ _,trivial⟩)),Qfa _ _,trivial⟩))) ⟨congrArg (fun r:Memory × Item × Int=>(.tup [.agg [iI r.1.Sum,sL Qja r.1.Keys,iI r.1.Dep],.agg [iI r.2.1.Key,iI r.2.1.Val,iI r.2.1.Dep],iI r.2.2]:AV)) (Option.some.inj h),rfl⟩
     ·refine RA.join 3 #[true,true,true,true,true,true,false,false,false] (mkA 137 ((89,.agg [iI x4.Sum,.ref 4,iI (if p3.Dep > x4.Dep then p3.Dep else x4.Dep)])::(90,.ptr 1 0)::(91,iI p3.Key)::(92,.ptr 0 2)::(93,iI (if p3.Dep > x4.Dep then p3.Dep else x4.Dep))::(94,.agg [iI p3.Key,iI 0,iI (if p3.Dep > x4.Dep then p3.Dep else x4.Dep)])::l23)) a23 ?_ (fun hS21=>?_)
      ·refine ra1 6 (RO.op rfl rfl (Qma Ty.c66 Ty.i66 rfl (vs:=[iI x4.Sum,.ref 4,iI (if p3.Dep > x4.Dep then p3.Dep else x4.Dep)]) rfl rfl rfl rfl (cs':=[iI x4.Sum,.ref 4,iI (if p3.Dep > x4.Dep then p3.Dep else x4.Dep)]) rfl rfl ?_))
       exact raS hS20 ⟨rfl,rfl,rfl,rfl,rfl,rfl,rfl,rfl,rfl,rfl,rfl,rfl,rfl,trivial⟩
      ·refine RA.join 4 #[true,true,true,true,false,false,true,false,false] (mkA 137 ((89,.agg [iI x4.Sum,.ref 4,iI (if p3.Dep > x4.Dep then p3.Dep else x4.Dep)])::(90,.ptr 1 0)::(91,iI p3.Key)::(92,.ptr 0 2)::l23)) [.box [iI x4.Sum,.ref 4,iI (if p3.Dep > x4.Dep then p3.Dep else x4.Dep)],.box [iI p3.Key,iI p3.Val,iI p3.Dep],.box [iI x4.Sum,.ref 4,iI (if p3.Dep > x4.Dep then p3.Dep else x4.Dep)],.box [iI 0,iI 0,iI 0],aR 69 2 Qja x4.Keys] ?_ (fun hS22=>?_)
       ·refine ra1 4 (RO.op rfl rfl (Qea rfl rfl (Qga Ty.k3 (c:=iI (if p3.Dep > x4.Dep then p3.Dep else x4.Dep)) rfl (rt0 5 rfl (Jva (cs:=[iI p3.Key,iI 0,iI (if p3.Dep > x4.Dep then p3.Dep else x4.Dep)]) Ty.z46 Ty.p46 rfl ?_)))))
        exact raS hS20 ⟨rfl,rfl,rfl,rfl,rfl,rfl,rfl,rfl,rfl,rfl,rfl,rfl,rfl,trivial⟩
       ·refine rt0 1 rfl (Qca Ty.f46_0 rfl (off':=0) rfl (rt0 3 rfl (Qca Ty.f66_2 rfl (off':=2) rfl (rl0 [0,6,7,8] 0 rfl (Qxa rfl rfl (Qqa Ty.k66 Ty.c66 rfl (cs:=[iI x4.Sum,.ref 4,iI (if p3.Dep > x4.Dep then p3.Dep else x4.Dep)]) rfl (ra3 2 4 6 ?_ ?_ ?_)))))))
        ·refine RO.op rfl rfl (Qea rfl rfl (Qga Ty.k3 (c:=iI p3.Key) rfl (ra2 4 6 ?_ ?_)))
         ·refine RO.op rfl rfl (Qea rfl rfl (Qga Ty.k3 (c:=iI (if p3.Dep > x4.Dep then p3.Dep else x4.Dep)) rfl (rt0 5 rfl (Jva (cs:=[iI p3.Key,iI 0,iI (if p3.Dep > x4.Dep then p3.Dep else x4.Dep)]) Ty.z46 Ty.p46 rfl ?_))))
          exact raS hS21 ⟨rfl,rfl,rfl,rfl,rfl,rfl,rfl,rfl,rfl,rfl,rfl,rfl,rfl,trivial⟩
         ·refine RO.op rfl rfl (Qma Ty.c66 Ty.i66 rfl (vs:=[iI x4.Sum,.ref 4,iI (if p3.Dep > x4.Dep then p3.Dep else x4.Dep)]) rfl rfl rfl rfl (cs':=[iI x4.Sum,.ref 4,iI (if p3.Dep > x4.Dep then p3.Dep else x4.Dep)]) rfl rfl ?_)
          exact raS hS22 ⟨rfl,rfl,rfl,rfl,rfl,rfl,rfl,rfl,rfl,rfl,rfl,trivial⟩
        ·refine RO.op rfl rfl (Qea rfl rfl (Qga Ty.k3 (c:=iI (if p3.Dep > x4.Dep then p3.Dep else x4.Dep)) rfl (ra2 2 6 ?_ ?_)))
         ·refine RO.op rfl rfl (Qea rfl rfl (Qga Ty.k3 (c:=iI p3.Key) rfl (rt0 5 rfl (Jva (cs:=[iI p3.Key,iI 0,iI (if p3.Dep > x4.Dep then p3.Dep else x4.Dep)]) Ty.z46 Ty.p46 rfl ?_))))
          exact raS hS21 ⟨rfl,rfl,rfl,rfl,rfl,rfl,rfl,rfl,rfl,rfl,rfl,rfl,rfl,trivial⟩
         ·refine RO.op rfl rfl (Qma Ty.c66 Ty.i66 rfl (vs:=[iI x4.Sum,.ref 4,iI (if p3.Dep > x4.Dep then p3.Dep else x4.Dep)]) rfl rfl rfl rfl (cs':=[iI x4.Sum,.ref 4,iI (if p3.Dep > x4.Dep then p3.Dep else x4.Dep)]) rfl rfl (ra1 2 (RO.op rfl rfl (Qea rfl rfl (Qga Ty.k3 (c:=iI p3.Key) rfl (rt0 5 rfl (Jva (cs:=[iI p3.Key,iI 0,iI (if p3.Dep > x4.Dep then p3.Dep else x4.Dep)]) Ty.z46 Ty.p46 rfl ?_)))))))
          exact raS hS20 ⟨rfl,rfl,rfl,rfl,rfl,rfl,rfl,rfl,rfl,rfl,rfl,rfl,rfl,trivial⟩
        ·refine RO.op rfl rfl (Qma Ty.c66 Ty.i66 rfl (vs:=[iI x4.Sum,.ref 4,iI (if p3.Dep > x4.Dep then p3.Dep else x4.Dep)]) rfl rfl rfl rfl (cs':=[iI x4.Sum,.ref 4,iI (if p3.Dep > x4.Dep then p3.Dep else x4.Dep)]) rfl rfl (rl0 [2,5,7,8] 2 rfl (Qxa rfl rfl (Qga Ty.k3 (c:=iI p3.Key) rfl ?_))))
         exact raS hS22 ⟨rfl,rfl,rfl,rfl,rfl,rfl,rfl,rfl,rfl,rfl,rfl,trivial⟩
    replace h:=ite_F h hb_19
    refine T.skip (T.join (Z:=List Keyed) (fun zz_25=>mkA 137 [(6,.ptr 0 0),(7,.ptr 1 0),(8,.ptr 2 0),(9,.ptr 3 0),(12,iI x9.1)]) (fun zz_25=>[.box [iI x4.Sum,.ref 4,iI (if p3.Dep > x4.Dep then p3.Dep else x4.Dep)],.box [iI p3.Key,iI p3.Val,iI p3.Dep],.box [iI 0,.nils,iI 0],.box [iI 0,iI 0,iI 0],aR 69 2 Qja zz_25]) (fun zz_25=>Yra p3 x4 x9 zz_25=some r) (fun zz_25 h=>?_) (fun hK1=>?_))
    ·revert h; revert zz_25;intro z12 h
     replace h:Yra p3 x4 x9 z12=some r:=h
     try dsimp only
     unfold Yra at h
     refine T.seq ?_
     obtain ⟨x17,hx17,h⟩:=bind_some h
     obtain ⟨x18,hx18,h⟩:=bind_some h
     obtain ⟨x19,hx19,h⟩:=bind_some h
     obtain ⟨x20,hx20,h⟩:=bind_some h
     refine T.region (sq (Qca Ty.f66_1 rfl (off':=1) rfl (so (Qea rfl rfl (Qga Ty.k64 (c:=.ref 4) rfl (sm (iI x9.1) rfl (sq (Q6a (en:=Qja) Ty.s64 rfl rfl rfl hx17 (sq (Jpa Ty.f69_1 rfl (off':=1) rfl (so (Jga (en:=Qja) (a:=x18) rfl rfl hx18 (Qga Ty.k3 (c:=iI x18.N) rfl (sq (v_add rfl rfl (sq (Q6a (en:=Qja) Ty.s64 rfl rfl rfl hx19 (sq (Jpa Ty.f69_1 rfl (off':=1) rfl ?_)))))))))))))))))))
     refine so (Z0a (en:=Qja) (a:=x20) (a':=(⟨x20.Key,IntKind.i64.wrap (x18.N+1)⟩:Keyed)) Ty.c3 Ty.i3 rfl (vs:=[iI (IntKind.i64.wrap (x18.N+1))]) rfl rfl rfl hx20 rfl rfl rfl (RS.nil (T.seq ?_)))
     obtain ⟨x23,hx23,h⟩:=bind_some h
     obtain ⟨x24,hx24,h⟩:=bind_some h
     refine T.drawn mixed (k:=15) rfl ?_
     let l40:List (Nat × AV):=[(6,.ptr 0 0),(7,.ptr 1 0),(8,.ptr 2 0),(9,.ptr 3 0),(12,iI x9.1),(106,.ptr 0 1),(107,.ref 4),(108,iI x9.1),(109,.aptr 4 2 x17 0),(110,.aptr 4 2 x17 1),(111,iI x18.N),(112,iI (IntKind.i64.wrap (x18.N+1))),(113,.aptr 4 2 x19 0),(114,.aptr 4 2 x19 1)]
     let a40:List Ob:=[.box [iI x4.Sum,.ref 4,iI (if p3.Dep > x4.Dep then p3.Dep else x4.Dep)],.box [iI p3.Key,iI p3.Val,iI p3.Dep],.box [iI 0,.nils,iI 0],.box [iI 0,iI 0,iI 0],aR 69 2 Qja (List.set z12 x19 (⟨x20.Key,IntKind.i64.wrap (x18.N+1)⟩:Keyed))]
     refine RA.join 2 #[true,true,true,true,true,true,true,true,true,true,true,true,true,false,false] (mkA 137 ((115,.agg [iI x4.Sum,.ref 4,iI (if p3.Dep > x4.Dep then p3.Dep else x4.Dep)])::(116,.ptr 1 0)::(117,iI p3.Key)::(118,.ptr 0 1)::(119,.ref 4)::(120,iI x9.1)::(121,.aptr 4 2 x23 0)::(122,.aptr 4 2 x23 1)::(123,iI x24.N)::(124,.ptr 0 2)::(125,iI (if p3.Dep > x4.Dep then p3.Dep else x4.Dep))::(126,.agg [iI p3.Key,iI x24.N,iI (if p3.Dep > x4.Dep then p3.Dep else x4.Dep)])::l40)) [.box [iI x4.Sum,.ref 4,iI (if p3.Dep > x4.Dep then p3.Dep else x4.Dep)],.box [iI p3.Key,iI p3.Val,iI p3.Dep],.box [iI x4.Sum,.ref 4,iI (if p3.Dep > x4.Dep then p3.Dep else x4.Dep)],.box [iI 0,iI 0,iI 0],aR 69 2 Qja (List.set z12 x19 (⟨x20.Key,IntKind.i64.wrap (x18.N+1)⟩:Keyed))] ?_ (fun hS26=>?_)
     ·refine ra1 13 (RO.op rfl rfl (Qma Ty.c46 Ty.i46 rfl (vs:=[iI p3.Key,iI x24.N,iI (if p3.Dep > x4.Dep then p3.Dep else x4.Dep)]) rfl rfl rfl rfl (cs':=[iI p3.Key,iI x24.N,iI (if p3.Dep > x4.Dep then p3.Dep else x4.Dep)]) rfl rfl (rt0 14 rfl (Jta (v:=iI 0) rfl (RA.done (by decide +kernel) (T.rt (Jfa (id:=2) (off:=0) (cs:=[iI x4.Sum,.ref 4,iI (if p3.Dep > x4.Dep then p3.Dep else x4.Dep)]) (v:=.agg [iI x4.Sum,.ref 4,iI (if p3.Dep > x4.Dep then p3.Dep else x4.Dep)]) ?_ ?_ ?_ ?_)))))))
      · rfl
      · rfl
      · exact fun K h=>(Qqa (row:=[iI x4.Sum,.ref 4,iI (if p3.Dep > x4.Dep then p3.Dep else x4.Dep)]) (off:=0) Ty.k66 Ty.c66 rfl (cs:=[iI x4.Sum,.ref 4,iI (if p3.Dep > x4.Dep then p3.Dep else x4.Dep)]) rfl h)
      refine Jfa (id:=3) (off:=0) (cs:=[iI p3.Key,iI x24.N,iI (if p3.Dep > x4.Dep then p3.Dep else x4.Dep)]) (v:=.agg [iI p3.Key,iI x24.N,iI (if p3.Dep > x4.Dep then p3.Dep else x4.Dep)]) ?_ ?_ ?_ ?_
      · rfl
      · rfl
      · exact fun K h=>(Qqa (row:=[iI p3.Key,iI x24.N,iI (if p3.Dep > x4.Dep then p3.Dep else x4.Dep)]) (off:=0) Ty.k46 Ty.c46 rfl (cs:=[iI p3.Key,iI x24.N,iI (if p3.Dep > x4.Dep then p3.Dep else x4.Dep)]) rfl h)
      refine Qna (v:=iI 0) rfl (Qra ?_)
      exact Qya (v:=.tup [.agg [iI x4.Sum,sL Qja (List.set z12 x19 (⟨x20.Key,IntKind.i64.wrap (x18.N+1)⟩:Keyed)),iI (if p3.Dep > x4.Dep then p3.Dep else x4.Dep)],.agg [iI p3.Key,iI x24.N,iI (if p3.Dep > x4.Dep then p3.Dep else x4.Dep)],iI 0]) rfl (Jna _ (Qka (⟨Qsa _ (Qka (⟨Qfa _ _,Qia Q7a _,Qfa _ _,trivial⟩)),Qsa _ (Qka (⟨Qfa _ _,Qfa _ _,Qfa _ _,trivial⟩)),Qfa _ _,trivial⟩))) ⟨congrArg (fun r:Memory × Item × Int=>(.tup [.agg [iI r.1.Sum,sL Qja r.1.Keys,iI r.1.Dep],.agg [iI r.2.1.Key,iI r.2.1.Val,iI r.2.1.Dep],iI r.2.2]:AV)) (Option.some.inj h),rfl⟩
     ·refine RA.join 3 #[true,true,true,true,true,true,true,true,true,true,true,true,false,false,false] (mkA 137 ((115,.agg [iI x4.Sum,.ref 4,iI (if p3.Dep > x4.Dep then p3.Dep else x4.Dep)])::(116,.ptr 1 0)::(117,iI p3.Key)::(118,.ptr 0 1)::(119,.ref 4)::(120,iI x9.1)::(121,.aptr 4 2 x23 0)::(122,.aptr 4 2 x23 1)::(123,iI x24.N)::(124,.ptr 0 2)::(125,iI (if p3.Dep > x4.Dep then p3.Dep else x4.Dep))::(126,.agg [iI p3.Key,iI x24.N,iI (if p3.Dep > x4.Dep then p3.Dep else x4.Dep)])::l40)) a40 ?_ (fun hS27=>?_)
      ·refine ra1 12 (RO.op rfl rfl (Qma Ty.c66 Ty.i66 rfl (vs:=[iI x4.Sum,.ref 4,iI (if p3.Dep > x4.Dep then p3.Dep else x4.Dep)]) rfl rfl rfl rfl (cs':=[iI x4.Sum,.ref 4,iI (if p3.Dep > x4.Dep then p3.Dep else x4.Dep)]) rfl rfl ?_))
       exact raS hS26 ⟨rfl,rfl,rfl,rfl,rfl,rfl,rfl,rfl,rfl,rfl,rfl,rfl,rfl,rfl,rfl,rfl,rfl,rfl,rfl,rfl,rfl,rfl,rfl,rfl,rfl,rfl,trivial⟩
      ·refine RA.join 4 #[true,true,true,true,true,true,true,true,false,true,true,false,true,false,false] (mkA 137 ((115,.agg [iI x4.Sum,.ref 4,iI (if p3.Dep > x4.Dep then p3.Dep else x4.Dep)])::(116,.ptr 1 0)::(117,iI p3.Key)::(118,.ptr 0 1)::(119,.ref 4)::(120,iI x9.1)::(121,.aptr 4 2 x23 0)::(122,.aptr 4 2 x23 1)::(124,.ptr 0 2)::(125,iI (if p3.Dep > x4.Dep then p3.Dep else x4.Dep))::l40)) [.box [iI x4.Sum,.ref 4,iI (if p3.Dep > x4.Dep then p3.Dep else x4.Dep)],.box [iI p3.Key,iI p3.Val,iI p3.Dep],.box [iI x4.Sum,.ref 4,iI (if p3.Dep > x4.Dep then p3.Dep else x4.Dep)],.box [iI 0,iI 0,iI 0],aR 69 2 Qja (List.set z12 x19 (⟨x20.Key,IntKind.i64.wrap (x18.N+1)⟩:Keyed))] ?_ (fun hS28=>?_)
       ·refine ra1 8 (RO.op rfl rfl (Jga (en:=Qja) (a:=x24) rfl rfl hx24 (Qga Ty.k3 (c:=iI x24.N) rfl (rt0 11 rfl (Jva (cs:=[iI p3.Key,iI x24.N,iI (if p3.Dep > x4.Dep then p3.Dep else x4.Dep)]) Ty.z46 Ty.p46 rfl ?_)))))
        exact raS hS26 ⟨rfl,rfl,rfl,rfl,rfl,rfl,rfl,rfl,rfl,rfl,rfl,rfl,rfl,rfl,rfl,rfl,rfl,rfl,rfl,rfl,rfl,rfl,rfl,rfl,rfl,rfl,trivial⟩
       ·refine RA.join 4 #[true,true,true,true,true,true,true,true,true,true,false,false,true,false,false] (mkA 137 ((115,.agg [iI x4.Sum,.ref 4,iI (if p3.Dep > x4.Dep then p3.Dep else x4.Dep)])::(116,.ptr 1 0)::(117,iI p3.Key)::(118,.ptr 0 1)::(119,.ref 4)::(120,iI x9.1)::(121,.aptr 4 2 x23 0)::(122,.aptr 4 2 x23 1)::(123,iI x24.N)::(124,.ptr 0 2)::l40)) [.box [iI x4.Sum,.ref 4,iI (if p3.Dep > x4.Dep then p3.Dep else x4.Dep)],.box [iI p3.Key,iI p3.Val,iI p3.Dep],.box [iI x4.Sum,.ref 4,iI (if p3.Dep > x4.Dep then p3.Dep else x4.Dep)],.box [iI 0,iI 0,iI 0],aR 69 2 Qja (List.set z12 x19 (⟨x20.Key,IntKind.i64.wrap (x18.N+1)⟩:Keyed))] ?_ (fun hS29=>?_)
        ·refine ra1 10 (RO.op rfl rfl (Qea rfl rfl (Qga Ty.k3 (c:=iI (if p3.Dep > x4.Dep then p3.Dep else x4.Dep)) rfl (rt0 11 rfl (Jva (cs:=[iI p3.Key,iI x24.N,iI (if p3.Dep > x4.Dep then p3.Dep else x4.Dep)]) Ty.z46 Ty.p46 rfl ?_)))))
         exact raS hS26 ⟨rfl,rfl,rfl,rfl,rfl,rfl,rfl,rfl,rfl,rfl,rfl,rfl,rfl,rfl,rfl,rfl,rfl,rfl,rfl,rfl,rfl,rfl,rfl,rfl,rfl,rfl,trivial⟩
        ·refine RA.join 5 #[true,true,true,true,true,true,true,true,false,true,true,false,false,false,false] (mkA 137 ((115,.agg [iI x4.Sum,.ref 4,iI (if p3.Dep > x4.Dep then p3.Dep else x4.Dep)])::(116,.ptr 1 0)::(117,iI p3.Key)::(118,.ptr 0 1)::(119,.ref 4)::(120,iI x9.1)::(121,.aptr 4 2 x23 0)::(122,.aptr 4 2 x23 1)::(124,.ptr 0 2)::(125,iI (if p3.Dep > x4.Dep then p3.Dep else x4.Dep))::l40)) a40 ?_ (fun hS30=>?_)
         ·refine ra2 8 12 ?_ ?_
          ·refine RO.op rfl rfl (Jga (en:=Qja) (a:=x24) rfl rfl hx24 (Qga Ty.k3 (c:=iI x24.N) rfl (rt0 11 rfl (Jva (cs:=[iI p3.Key,iI x24.N,iI (if p3.Dep > x4.Dep then p3.Dep else x4.Dep)]) Ty.z46 Ty.p46 rfl ?_))))
           exact raS hS27 ⟨rfl,rfl,rfl,rfl,rfl,rfl,rfl,rfl,rfl,rfl,rfl,rfl,rfl,rfl,rfl,rfl,rfl,rfl,rfl,rfl,rfl,rfl,rfl,rfl,rfl,rfl,trivial⟩
          ·refine RO.op rfl rfl (Qma Ty.c66 Ty.i66 rfl (vs:=[iI x4.Sum,.ref 4,iI (if p3.Dep > x4.Dep then p3.Dep else x4.Dep)]) rfl rfl rfl rfl (cs':=[iI x4.Sum,.ref 4,iI (if p3.Dep > x4.Dep then p3.Dep else x4.Dep)]) rfl rfl ?_)
           exact raS hS28 ⟨rfl,rfl,rfl,rfl,rfl,rfl,rfl,rfl,rfl,rfl,rfl,rfl,rfl,rfl,rfl,rfl,rfl,rfl,rfl,rfl,rfl,rfl,rfl,rfl,trivial⟩
         ·refine RA.join 5 #[true,true,false,true,true,true,true,true,true,true,true,false,false,false,false] (mkA 137 ((115,.agg [iI x4.Sum,.ref 4,iI (if p3.Dep > x4.Dep then p3.Dep else x4.Dep)])::(116,.ptr 1 0)::(118,.ptr 0 1)::(119,.ref 4)::(120,iI x9.1)::(121,.aptr 4 2 x23 0)::(122,.aptr 4 2 x23 1)::(123,iI x24.N)::(124,.ptr 0 2)::(125,iI (if p3.Dep > x4.Dep then p3.Dep else x4.Dep))::l40)) a40 ?_ (fun hS31=>?_)
          ·refine ra2 2 12 ?_ ?_
           ·refine RO.op rfl rfl (Qea rfl rfl (Qga Ty.k3 (c:=iI p3.Key) rfl (rt0 11 rfl (Jva (cs:=[iI p3.Key,iI x24.N,iI (if p3.Dep > x4.Dep then p3.Dep else x4.Dep)]) Ty.z46 Ty.p46 rfl ?_))))
            exact raS hS27 ⟨rfl,rfl,rfl,rfl,rfl,rfl,rfl,rfl,rfl,rfl,rfl,rfl,rfl,rfl,rfl,rfl,rfl,rfl,rfl,rfl,rfl,rfl,rfl,rfl,rfl,rfl,trivial⟩
           ·refine RO.op rfl rfl (Qma Ty.c66 Ty.i66 rfl (vs:=[iI x4.Sum,.ref 4,iI (if p3.Dep > x4.Dep then p3.Dep else x4.Dep)]) rfl rfl rfl rfl (cs':=[iI x4.Sum,.ref 4,iI (if p3.Dep > x4.Dep then p3.Dep else x4.Dep)]) rfl rfl (ra1 2 (RO.op rfl rfl (Qea rfl rfl (Qga Ty.k3 (c:=iI p3.Key) rfl (rt0 11 rfl (Jva (cs:=[iI p3.Key,iI x24.N,iI (if p3.Dep > x4.Dep then p3.Dep else x4.Dep)]) Ty.z46 Ty.p46 rfl ?_)))))))
            exact raS hS26 ⟨rfl,rfl,rfl,rfl,rfl,rfl,rfl,rfl,rfl,rfl,rfl,rfl,rfl,rfl,rfl,rfl,rfl,rfl,rfl,rfl,rfl,rfl,rfl,rfl,rfl,rfl,trivial⟩
          ·refine RA.join 5 #[true,true,true,true,true,true,true,true,true,true,false,false,false,false,false] (mkA 137 ((115,.agg [iI x4.Sum,.ref 4,iI (if p3.Dep > x4.Dep then p3.Dep else x4.Dep)])::(116,.ptr 1 0)::(117,iI p3.Key)::(118,.ptr 0 1)::(119,.ref 4)::(120,iI x9.1)::(121,.aptr 4 2 x23 0)::(122,.aptr 4 2 x23 1)::(123,iI x24.N)::(124,.ptr 0 2)::l40)) a40 ?_ (fun hS32=>?_)
           ·refine ra2 10 12 ?_ ?_
            ·refine RO.op rfl rfl (Qea rfl rfl (Qga Ty.k3 (c:=iI (if p3.Dep > x4.Dep then p3.Dep else x4.Dep)) rfl (rt0 11 rfl (Jva (cs:=[iI p3.Key,iI x24.N,iI (if p3.Dep > x4.Dep then p3.Dep else x4.Dep)]) Ty.z46 Ty.p46 rfl ?_))))
             exact raS hS27 ⟨rfl,rfl,rfl,rfl,rfl,rfl,rfl,rfl,rfl,rfl,rfl,rfl,rfl,rfl,rfl,rfl,rfl,rfl,rfl,rfl,rfl,rfl,rfl,rfl,rfl,rfl,trivial⟩
            ·refine RO.op rfl rfl (Qma Ty.c66 Ty.i66 rfl (vs:=[iI x4.Sum,.ref 4,iI (if p3.Dep > x4.Dep then p3.Dep else x4.Dep)]) rfl rfl rfl rfl (cs':=[iI x4.Sum,.ref 4,iI (if p3.Dep > x4.Dep then p3.Dep else x4.Dep)]) rfl rfl ?_)
             exact raS hS29 ⟨rfl,rfl,rfl,rfl,rfl,rfl,rfl,rfl,rfl,rfl,rfl,rfl,rfl,rfl,rfl,rfl,rfl,rfl,rfl,rfl,rfl,rfl,rfl,rfl,trivial⟩
           ·refine RA.join 6 #[true,true,false,true,true,true,true,true,false,true,true,false,false,false,false] (mkA 137 ((115,.agg [iI x4.Sum,.ref 4,iI (if p3.Dep > x4.Dep then p3.Dep else x4.Dep)])::(116,.ptr 1 0)::(118,.ptr 0 1)::(119,.ref 4)::(120,iI x9.1)::(121,.aptr 4 2 x23 0)::(122,.aptr 4 2 x23 1)::(124,.ptr 0 2)::(125,iI (if p3.Dep > x4.Dep then p3.Dep else x4.Dep))::l40)) a40 ?_ (fun hS33=>?_)
            ·refine ra3 2 8 12 ?_ ?_ ?_
             ·refine RO.op rfl rfl (Qea rfl rfl (Qga Ty.k3 (c:=iI p3.Key) rfl ?_))
              exact raS hS30 ⟨rfl,rfl,rfl,rfl,rfl,rfl,rfl,rfl,rfl,rfl,rfl,rfl,rfl,rfl,rfl,rfl,rfl,rfl,rfl,rfl,rfl,rfl,rfl,rfl,trivial⟩
             ·refine RO.op rfl rfl (Jga (en:=Qja) (a:=x24) rfl rfl hx24 (Qga Ty.k3 (c:=iI x24.N) rfl ?_))
              exact raS hS31 ⟨rfl,rfl,rfl,rfl,rfl,rfl,rfl,rfl,rfl,rfl,rfl,rfl,rfl,rfl,rfl,rfl,rfl,rfl,rfl,rfl,rfl,rfl,rfl,rfl,trivial⟩
             ·refine RO.op rfl rfl (Qma Ty.c66 Ty.i66 rfl (vs:=[iI x4.Sum,.ref 4,iI (if p3.Dep > x4.Dep then p3.Dep else x4.Dep)]) rfl rfl rfl rfl (cs':=[iI x4.Sum,.ref 4,iI (if p3.Dep > x4.Dep then p3.Dep else x4.Dep)]) rfl rfl (rl0 [2,11,13,14] 2 rfl (Qxa rfl rfl (Qga Ty.k3 (c:=iI p3.Key) rfl ?_))))
              exact raS hS28 ⟨rfl,rfl,rfl,rfl,rfl,rfl,rfl,rfl,rfl,rfl,rfl,rfl,rfl,rfl,rfl,rfl,rfl,rfl,rfl,rfl,rfl,rfl,rfl,rfl,trivial⟩
            ·refine RA.join 6 #[true,true,true,true,true,true,true,true,false,true,false,false,false,false,false] (mkA 137 ((115,.agg [iI x4.Sum,.ref 4,iI (if p3.Dep > x4.Dep then p3.Dep else x4.Dep)])::(116,.ptr 1 0)::(117,iI p3.Key)::(118,.ptr 0 1)::(119,.ref 4)::(120,iI x9.1)::(121,.aptr 4 2 x23 0)::(122,.aptr 4 2 x23 1)::(124,.ptr 0 2)::l40)) a40 ?_ (fun hS34=>?_)
             ·refine ra3 8 10 12 ?_ ?_ ?_
              ·refine RO.op rfl rfl (Jga (en:=Qja) (a:=x24) rfl rfl hx24 (Qga Ty.k3 (c:=iI x24.N) rfl ?_))
               exact raS hS32 ⟨rfl,rfl,rfl,rfl,rfl,rfl,rfl,rfl,rfl,rfl,rfl,rfl,rfl,rfl,rfl,rfl,rfl,rfl,rfl,rfl,rfl,rfl,rfl,rfl,trivial⟩
              ·refine RO.op rfl rfl (Qea rfl rfl (Qga Ty.k3 (c:=iI (if p3.Dep > x4.Dep then p3.Dep else x4.Dep)) rfl ?_))
               exact raS hS30 ⟨rfl,rfl,rfl,rfl,rfl,rfl,rfl,rfl,rfl,rfl,rfl,rfl,rfl,rfl,rfl,rfl,rfl,rfl,rfl,rfl,rfl,rfl,rfl,rfl,trivial⟩
              ·refine RO.op rfl rfl (Qma Ty.c66 Ty.i66 rfl (vs:=[iI x4.Sum,.ref 4,iI (if p3.Dep > x4.Dep then p3.Dep else x4.Dep)]) rfl rfl rfl rfl (cs':=[iI x4.Sum,.ref 4,iI (if p3.Dep > x4.Dep then p3.Dep else x4.Dep)]) rfl rfl (rl0 [10,11,13,14] 10 rfl (Qxa rfl rfl (Qga Ty.k3 (c:=iI (if p3.Dep > x4.Dep then p3.Dep else x4.Dep)) rfl ?_))))
               exact raS hS28 ⟨rfl,rfl,rfl,rfl,rfl,rfl,rfl,rfl,rfl,rfl,rfl,rfl,rfl,rfl,rfl,rfl,rfl,rfl,rfl,rfl,rfl,rfl,rfl,rfl,trivial⟩
             ·refine RA.join 7 #[true,true,false,true,true,true,true,true,false,true,false,false,false,false,false] (mkA 137 ((115,.agg [iI x4.Sum,.ref 4,iI (if p3.Dep > x4.Dep then p3.Dep else x4.Dep)])::(116,.ptr 1 0)::(118,.ptr 0 1)::(119,.ref 4)::(120,iI x9.1)::(121,.aptr 4 2 x23 0)::(122,.aptr 4 2 x23 1)::(124,.ptr 0 2)::l40)) a40 ?_ (fun hS35=>?_)
              ·refine ra4 2 8 10 12 ?_ ?_ ?_ ?_
               ·refine RO.op rfl rfl (Qea rfl rfl (Qga Ty.k3 (c:=iI p3.Key) rfl ?_))
                exact raS hS34 ⟨rfl,rfl,rfl,rfl,rfl,rfl,rfl,rfl,rfl,rfl,rfl,rfl,rfl,rfl,rfl,rfl,rfl,rfl,rfl,rfl,rfl,rfl,rfl,trivial⟩
               ·refine RO.op rfl rfl (Jga (en:=Qja) (a:=x24) rfl rfl hx24 (Qga Ty.k3 (c:=iI x24.N) rfl (ra3 2 10 12 ?_ ?_ ?_)))
                ·refine RO.op rfl rfl (Qea rfl rfl (Qga Ty.k3 (c:=iI p3.Key) rfl ?_))
                 exact raS hS32 ⟨rfl,rfl,rfl,rfl,rfl,rfl,rfl,rfl,rfl,rfl,rfl,rfl,rfl,rfl,rfl,rfl,rfl,rfl,rfl,rfl,rfl,rfl,rfl,rfl,trivial⟩
                ·refine RO.op rfl rfl (Qea rfl rfl (Qga Ty.k3 (c:=iI (if p3.Dep > x4.Dep then p3.Dep else x4.Dep)) rfl ?_))
                 exact raS hS31 ⟨rfl,rfl,rfl,rfl,rfl,rfl,rfl,rfl,rfl,rfl,rfl,rfl,rfl,rfl,rfl,rfl,rfl,rfl,rfl,rfl,rfl,rfl,rfl,rfl,trivial⟩
                ·refine RO.op rfl rfl (Qma Ty.c66 Ty.i66 rfl (vs:=[iI x4.Sum,.ref 4,iI (if p3.Dep > x4.Dep then p3.Dep else x4.Dep)]) rfl rfl rfl rfl (cs':=[iI x4.Sum,.ref 4,iI (if p3.Dep > x4.Dep then p3.Dep else x4.Dep)]) rfl rfl (rl0 [2,11,13,14] 2 rfl (Qxa rfl rfl (Qga Ty.k3 (c:=iI p3.Key) rfl ?_))))
                 exact raS hS29 ⟨rfl,rfl,rfl,rfl,rfl,rfl,rfl,rfl,rfl,rfl,rfl,rfl,rfl,rfl,rfl,rfl,rfl,rfl,rfl,rfl,rfl,rfl,rfl,rfl,trivial⟩
               ·refine RO.op rfl rfl (Qea rfl rfl (Qga Ty.k3 (c:=iI (if p3.Dep > x4.Dep then p3.Dep else x4.Dep)) rfl ?_))
                exact raS hS33 ⟨rfl,rfl,rfl,rfl,rfl,rfl,rfl,rfl,rfl,rfl,rfl,rfl,rfl,rfl,rfl,rfl,rfl,rfl,rfl,rfl,rfl,rfl,rfl,trivial⟩
               ·refine RO.op rfl rfl (Qma Ty.c66 Ty.i66 rfl (vs:=[iI x4.Sum,.ref 4,iI (if p3.Dep > x4.Dep then p3.Dep else x4.Dep)]) rfl rfl rfl rfl (cs':=[iI x4.Sum,.ref 4,iI (if p3.Dep > x4.Dep then p3.Dep else x4.Dep)]) rfl rfl (rl0 [2,11,13,14] 2 rfl (Qxa rfl rfl (Qga Ty.k3 (c:=iI p3.Key) rfl (rl0 [10,11,13,14] 10 rfl (Qxa rfl rfl (Qga Ty.k3 (c:=iI (if p3.Dep > x4.Dep then p3.Dep else x4.Dep)) rfl ?_)))))))
                exact raS hS28 ⟨rfl,rfl,rfl,rfl,rfl,rfl,rfl,rfl,rfl,rfl,rfl,rfl,rfl,rfl,rfl,rfl,rfl,rfl,rfl,rfl,rfl,rfl,rfl,rfl,trivial⟩
              ·refine RA.join 8 #[true,true,true,true,false,true,false,false,false,true,true,false,false,false,false] (mkA 137 ((115,.agg [iI x4.Sum,.ref 4,iI (if p3.Dep > x4.Dep then p3.Dep else x4.Dep)])::(116,.ptr 1 0)::(117,iI p3.Key)::(118,.ptr 0 1)::(120,iI x9.1)::(124,.ptr 0 2)::(125,iI (if p3.Dep > x4.Dep then p3.Dep else x4.Dep))::l40)) a40 ?_ (fun hS36=>?_)
               ·refine ra2 4 12 ?_ ?_
                ·refine RO.op rfl rfl (Qea rfl rfl (Qga Ty.k64 (c:=.ref 4) rfl (rt0 6 rfl (Q6a (en:=Qja) Ty.s64 rfl rfl rfl hx23 (rt0 7 rfl (Jpa Ty.f69_1 rfl (off':=1) rfl ?_))))))
                 exact raS hS30 ⟨rfl,rfl,rfl,rfl,rfl,rfl,rfl,rfl,rfl,rfl,rfl,rfl,rfl,rfl,rfl,rfl,rfl,rfl,rfl,rfl,rfl,rfl,rfl,rfl,trivial⟩
                ·refine RO.op rfl rfl (Qma Ty.c66 Ty.i66 rfl (vs:=[iI x4.Sum,.ref 4,iI (if p3.Dep > x4.Dep then p3.Dep else x4.Dep)]) rfl rfl rfl rfl (cs':=[iI x4.Sum,.ref 4,iI (if p3.Dep > x4.Dep then p3.Dep else x4.Dep)]) rfl rfl (ra1 4 (RO.op rfl rfl (Qea rfl rfl (Qga Ty.k64 (c:=.ref 4) rfl (rt0 6 rfl (Q6a (en:=Qja) Ty.s64 rfl rfl rfl hx23 (rt0 7 rfl (Jpa Ty.f69_1 rfl (off':=1) rfl ?_)))))))))
                 exact raS hS28 ⟨rfl,rfl,rfl,rfl,rfl,rfl,rfl,rfl,rfl,rfl,rfl,rfl,rfl,rfl,rfl,rfl,rfl,rfl,rfl,rfl,rfl,rfl,rfl,rfl,trivial⟩
               ·refine RA.join 9 #[true,true,false,true,false,true,false,false,false,true,true,false,false,false,false] (mkA 137 ((115,.agg [iI x4.Sum,.ref 4,iI (if p3.Dep > x4.Dep then p3.Dep else x4.Dep)])::(116,.ptr 1 0)::(118,.ptr 0 1)::(120,iI x9.1)::(124,.ptr 0 2)::(125,iI (if p3.Dep > x4.Dep then p3.Dep else x4.Dep))::l40)) a40 ?_ (fun hS37=>?_)
                ·refine ra3 2 4 12 ?_ ?_ ?_
                 ·refine RO.op rfl rfl (Qea rfl rfl (Qga Ty.k3 (c:=iI p3.Key) rfl ?_))
                  exact raS hS36 ⟨rfl,rfl,rfl,rfl,rfl,rfl,rfl,rfl,rfl,rfl,rfl,rfl,rfl,rfl,rfl,rfl,rfl,rfl,rfl,rfl,rfl,trivial⟩
                 ·refine RO.op rfl rfl (Qea rfl rfl (Qga Ty.k64 (c:=.ref 4) rfl (rt0 6 rfl (Q6a (en:=Qja) Ty.s64 rfl rfl rfl hx23 (rt0 7 rfl (Jpa Ty.f69_1 rfl (off':=1) rfl ?_))))))
                  exact raS hS33 ⟨rfl,rfl,rfl,rfl,rfl,rfl,rfl,rfl,rfl,rfl,rfl,rfl,rfl,rfl,rfl,rfl,rfl,rfl,rfl,rfl,rfl,rfl,rfl,trivial⟩
                 ·refine RO.op rfl rfl (Qma Ty.c66 Ty.i66 rfl (vs:=[iI x4.Sum,.ref 4,iI (if p3.Dep > x4.Dep then p3.Dep else x4.Dep)]) rfl rfl rfl rfl (cs':=[iI x4.Sum,.ref 4,iI (if p3.Dep > x4.Dep then p3.Dep else x4.Dep)]) rfl rfl (rl0 [4,6,7,8,11,13,14] 4 rfl (Qxa rfl rfl (Qga Ty.k64 (c:=.ref 4) rfl (rt0 6 rfl (Q6a (en:=Qja) Ty.s64 rfl rfl rfl hx23 (rt0 7 rfl (Jpa Ty.f69_1 rfl (off':=1) rfl (rl0 [2,11,13,14] 2 rfl (Qxa rfl rfl (Qga Ty.k3 (c:=iI p3.Key) rfl ?_)))))))))))
                  exact raS hS28 ⟨rfl,rfl,rfl,rfl,rfl,rfl,rfl,rfl,rfl,rfl,rfl,rfl,rfl,rfl,rfl,rfl,rfl,rfl,rfl,rfl,rfl,rfl,rfl,rfl,trivial⟩
                ·refine RA.join 9 #[false,true,true,true,false,true,false,false,false,true,true,false,false,false,false] (mkA 137 ((116,.ptr 1 0)::(117,iI p3.Key)::(118,.ptr 0 1)::(120,iI x9.1)::(124,.ptr 0 2)::(125,iI (if p3.Dep > x4.Dep then p3.Dep else x4.Dep))::l40)) a40 ?_ (fun hS38=>?_)
                 ·refine ra2 0 4 ?_ ?_
                  ·refine RO.op rfl rfl (Qea rfl rfl (Qqa Ty.k66 Ty.c66 rfl (cs:=[iI x4.Sum,.ref 4,iI (if p3.Dep > x4.Dep then p3.Dep else x4.Dep)]) rfl ?_))
                   exact raS hS36 ⟨rfl,rfl,rfl,rfl,rfl,rfl,rfl,rfl,rfl,rfl,rfl,rfl,rfl,rfl,rfl,rfl,rfl,rfl,rfl,rfl,rfl,trivial⟩
                  ·refine RO.op rfl rfl (Qea rfl rfl (Qga Ty.k64 (c:=.ref 4) rfl (rt0 6 rfl (Q6a (en:=Qja) Ty.s64 rfl rfl rfl hx23 (rt0 7 rfl (Jpa Ty.f69_1 rfl (off':=1) rfl (rl0 [0,12,13,14] 0 rfl (Qxa rfl rfl (Qqa Ty.k66 Ty.c66 rfl (cs:=[iI x4.Sum,.ref 4,iI (if p3.Dep > x4.Dep then p3.Dep else x4.Dep)]) rfl ?_)))))))))
                   exact raS hS30 ⟨rfl,rfl,rfl,rfl,rfl,rfl,rfl,rfl,rfl,rfl,rfl,rfl,rfl,rfl,rfl,rfl,rfl,rfl,rfl,rfl,rfl,rfl,rfl,rfl,trivial⟩
                 ·refine RA.join 9 #[true,true,true,true,false,true,false,false,false,true,false,false,false,false,false] (mkA 137 ((115,.agg [iI x4.Sum,.ref 4,iI (if p3.Dep > x4.Dep then p3.Dep else x4.Dep)])::(116,.ptr 1 0)::(117,iI p3.Key)::(118,.ptr 0 1)::(120,iI x9.1)::(124,.ptr 0 2)::l40)) a40 ?_ (fun hS39=>?_)
                  ·refine ra3 4 10 12 ?_ ?_ ?_
                   ·refine RO.op rfl rfl (Qea rfl rfl (Qga Ty.k64 (c:=.ref 4) rfl (rt0 6 rfl (Q6a (en:=Qja) Ty.s64 rfl rfl rfl hx23 (rt0 7 rfl (Jpa Ty.f69_1 rfl (off':=1) rfl ?_))))))
                    exact raS hS34 ⟨rfl,rfl,rfl,rfl,rfl,rfl,rfl,rfl,rfl,rfl,rfl,rfl,rfl,rfl,rfl,rfl,rfl,rfl,rfl,rfl,rfl,rfl,rfl,trivial⟩
                   ·refine RO.op rfl rfl (Qea rfl rfl (Qga Ty.k3 (c:=iI (if p3.Dep > x4.Dep then p3.Dep else x4.Dep)) rfl ?_))
                    exact raS hS36 ⟨rfl,rfl,rfl,rfl,rfl,rfl,rfl,rfl,rfl,rfl,rfl,rfl,rfl,rfl,rfl,rfl,rfl,rfl,rfl,rfl,rfl,trivial⟩
                   ·refine RO.op rfl rfl (Qma Ty.c66 Ty.i66 rfl (vs:=[iI x4.Sum,.ref 4,iI (if p3.Dep > x4.Dep then p3.Dep else x4.Dep)]) rfl rfl rfl rfl (cs':=[iI x4.Sum,.ref 4,iI (if p3.Dep > x4.Dep then p3.Dep else x4.Dep)]) rfl rfl (rl0 [4,6,7,8,11,13,14] 4 rfl (Qxa rfl rfl (Qga Ty.k64 (c:=.ref 4) rfl (rt0 6 rfl (Q6a (en:=Qja) Ty.s64 rfl rfl rfl hx23 (rt0 7 rfl (Jpa Ty.f69_1 rfl (off':=1) rfl (rl0 [10,11,13,14] 10 rfl (Qxa rfl rfl (Qga Ty.k3 (c:=iI (if p3.Dep > x4.Dep then p3.Dep else x4.Dep)) rfl ?_)))))))))))
                    exact raS hS28 ⟨rfl,rfl,rfl,rfl,rfl,rfl,rfl,rfl,rfl,rfl,rfl,rfl,rfl,rfl,rfl,rfl,rfl,rfl,rfl,rfl,rfl,rfl,rfl,rfl,trivial⟩
                  ·refine rt0 1 rfl (Qca Ty.f46_0 rfl (off':=0) rfl (rt0 3 rfl (Qca Ty.f66_1 rfl (off':=1) rfl (rt0 5 rfl (Qza (v:=iI x9.1) rfl (rt0 9 rfl (Qca Ty.f66_2 rfl (off':=2) rfl (ra4 0 2 4 10 ?_ ?_ ?_ ?_))))))))
                   ·refine RO.op rfl rfl (Qea rfl rfl (Qqa Ty.k66 Ty.c66 rfl (cs:=[iI x4.Sum,.ref 4,iI (if p3.Dep > x4.Dep then p3.Dep else x4.Dep)]) rfl (ra4 2 4 10 12 ?_ ?_ ?_ ?_)))
                    ·refine RO.op rfl rfl (Qea rfl rfl (Qga Ty.k3 (c:=iI p3.Key) rfl ?_))
                     exact raS hS39 ⟨rfl,rfl,rfl,rfl,rfl,rfl,rfl,rfl,rfl,rfl,rfl,rfl,rfl,rfl,rfl,rfl,rfl,rfl,rfl,rfl,trivial⟩
                    ·refine RO.op rfl rfl (Qea rfl rfl (Qga Ty.k64 (c:=.ref 4) rfl (rt0 6 rfl (Q6a (en:=Qja) Ty.s64 rfl rfl rfl hx23 (rt0 7 rfl (Jpa Ty.f69_1 rfl (off':=1) rfl ?_))))))
                     exact raS hS35 ⟨rfl,rfl,rfl,rfl,rfl,rfl,rfl,rfl,rfl,rfl,rfl,rfl,rfl,rfl,rfl,rfl,rfl,rfl,rfl,rfl,rfl,rfl,trivial⟩
                    ·refine RO.op rfl rfl (Qea rfl rfl (Qga Ty.k3 (c:=iI (if p3.Dep > x4.Dep then p3.Dep else x4.Dep)) rfl ?_))
                     exact raS hS37 ⟨rfl,rfl,rfl,rfl,rfl,rfl,rfl,rfl,rfl,rfl,rfl,rfl,rfl,rfl,rfl,rfl,rfl,rfl,rfl,rfl,trivial⟩
                    ·refine RO.op rfl rfl (Qma Ty.c66 Ty.i66 rfl (vs:=[iI x4.Sum,.ref 4,iI (if p3.Dep > x4.Dep then p3.Dep else x4.Dep)]) rfl rfl rfl rfl (cs':=[iI x4.Sum,.ref 4,iI (if p3.Dep > x4.Dep then p3.Dep else x4.Dep)]) rfl rfl (rl0 [4,6,7,8,11,13,14] 4 rfl (Qxa rfl rfl (Qga Ty.k64 (c:=.ref 4) rfl (rt0 6 rfl (Q6a (en:=Qja) Ty.s64 rfl rfl rfl hx23 (rt0 7 rfl (Jpa Ty.f69_1 rfl (off':=1) rfl (rl0 [2,11,13,14] 2 rfl (Qxa rfl rfl (Qga Ty.k3 (c:=iI p3.Key) rfl (rl0 [10,11,13,14] 10 rfl (Qxa rfl rfl (Qga Ty.k3 (c:=iI (if p3.Dep > x4.Dep then p3.Dep else x4.Dep)) rfl ?_))))))))))))))
                     exact raS hS28 ⟨rfl,rfl,rfl,rfl,rfl,rfl,rfl,rfl,rfl,rfl,rfl,rfl,rfl,rfl,rfl,rfl,rfl,rfl,rfl,rfl,rfl,rfl,rfl,rfl,trivial⟩
                   ·refine RO.op rfl rfl (Qea rfl rfl (Qga Ty.k3 (c:=iI p3.Key) rfl (ra3 0 4 10 ?_ ?_ ?_)))
                    ·refine RO.op rfl rfl (Qea rfl rfl (Qqa Ty.k66 Ty.c66 rfl (cs:=[iI x4.Sum,.ref 4,iI (if p3.Dep > x4.Dep then p3.Dep else x4.Dep)]) rfl ?_))
                     exact raS hS39 ⟨rfl,rfl,rfl,rfl,rfl,rfl,rfl,rfl,rfl,rfl,rfl,rfl,rfl,rfl,rfl,rfl,rfl,rfl,rfl,rfl,trivial⟩
                    ·refine RO.op rfl rfl (Qea rfl rfl (Qga Ty.k64 (c:=.ref 4) rfl (rt0 6 rfl (Q6a (en:=Qja) Ty.s64 rfl rfl rfl hx23 (rt0 7 rfl (Jpa Ty.f69_1 rfl (off':=1) rfl (rl0 [0,12,13,14] 0 rfl (Qxa rfl rfl (Qqa Ty.k66 Ty.c66 rfl (cs:=[iI x4.Sum,.ref 4,iI (if p3.Dep > x4.Dep then p3.Dep else x4.Dep)]) rfl ?_)))))))))
                     exact raS hS34 ⟨rfl,rfl,rfl,rfl,rfl,rfl,rfl,rfl,rfl,rfl,rfl,rfl,rfl,rfl,rfl,rfl,rfl,rfl,rfl,rfl,rfl,rfl,rfl,trivial⟩
                    ·refine RO.op rfl rfl (Qea rfl rfl (Qga Ty.k3 (c:=iI (if p3.Dep > x4.Dep then p3.Dep else x4.Dep)) rfl ?_))
                     exact raS hS38 ⟨rfl,rfl,rfl,rfl,rfl,rfl,rfl,rfl,rfl,rfl,rfl,rfl,rfl,rfl,rfl,rfl,rfl,rfl,rfl,rfl,trivial⟩
                   ·refine RO.op rfl rfl (Qea rfl rfl (Qga Ty.k64 (c:=.ref 4) rfl (rt0 6 rfl (Q6a (en:=Qja) Ty.s64 rfl rfl rfl hx23 (rt0 7 rfl (Jpa Ty.f69_1 rfl (off':=1) rfl (rl0 [0,12,13,14] 0 rfl (Qxa rfl rfl (Qqa Ty.k66 Ty.c66 rfl (cs:=[iI x4.Sum,.ref 4,iI (if p3.Dep > x4.Dep then p3.Dep else x4.Dep)]) rfl ?_)))))))))
                    exact raS hS35 ⟨rfl,rfl,rfl,rfl,rfl,rfl,rfl,rfl,rfl,rfl,rfl,rfl,rfl,rfl,rfl,rfl,rfl,rfl,rfl,rfl,rfl,rfl,trivial⟩
                   ·refine RO.op rfl rfl (Qea rfl rfl (Qga Ty.k3 (c:=iI (if p3.Dep > x4.Dep then p3.Dep else x4.Dep)) rfl (ra3 0 2 4 ?_ ?_ ?_)))
                    ·refine RO.op rfl rfl (Qea rfl rfl (Qqa Ty.k66 Ty.c66 rfl (cs:=[iI x4.Sum,.ref 4,iI (if p3.Dep > x4.Dep then p3.Dep else x4.Dep)]) rfl ?_))
                     exact raS hS37 ⟨rfl,rfl,rfl,rfl,rfl,rfl,rfl,rfl,rfl,rfl,rfl,rfl,rfl,rfl,rfl,rfl,rfl,rfl,rfl,rfl,trivial⟩
                    ·refine RO.op rfl rfl (Qea rfl rfl (Qga Ty.k3 (c:=iI p3.Key) rfl ?_))
                     exact raS hS38 ⟨rfl,rfl,rfl,rfl,rfl,rfl,rfl,rfl,rfl,rfl,rfl,rfl,rfl,rfl,rfl,rfl,rfl,rfl,rfl,rfl,trivial⟩
                    ·refine RO.op rfl rfl (Qea rfl rfl (Qga Ty.k64 (c:=.ref 4) rfl (rt0 6 rfl (Q6a (en:=Qja) Ty.s64 rfl rfl rfl hx23 (rt0 7 rfl (Jpa Ty.f69_1 rfl (off':=1) rfl (rl0 [0,12,13,14] 0 rfl (Qxa rfl rfl (Qqa Ty.k66 Ty.c66 rfl (cs:=[iI x4.Sum,.ref 4,iI (if p3.Dep > x4.Dep then p3.Dep else x4.Dep)]) rfl ?_)))))))))
                     exact raS hS33 ⟨rfl,rfl,rfl,rfl,rfl,rfl,rfl,rfl,rfl,rfl,rfl,rfl,rfl,rfl,rfl,rfl,rfl,rfl,rfl,rfl,rfl,rfl,rfl,trivial⟩
    refine T.seq (T.region (sm (.bool x9.2) rfl (sq (v_not rfl (RS.nil (T.cond (b:=!x9.2) rfl (fun hb_41=>?_) (fun hb_41=>?_)))))))
    ·replace h:=ite_T h hb_41
     obtain ⟨x11,hx11,h⟩:=bind_some h
     refine T.region (sq (Qca Ty.f66_1 rfl (off':=1) rfl (so (Qea rfl rfl (Qga Ty.k64 (c:=.ref 4) rfl (sm (iI x9.1) rfl (sq (Qca Ty.f46_0 rfl (off':=0) rfl (so (Qea rfl rfl (Qga Ty.k3 (c:=iI p3.Key) rfl (sq (Jva (cs:=[iI p3.Key,iI 0]) Ty.z69 Ty.p69 rfl (so (Jqa (rows:=List.map Qja [(⟨p3.Key,0⟩:Keyed)]) (vs:=[.agg [iI p3.Key,iI 0]]) Ty.s64 Ty.z69 rfl rfl rfl rfl rfl rfl (so (Vva (ac:=[.ref 4,iI x9.1,.ref 5]) (as0:=[.ref 0,iI x9.1,.ref 1]) (aw0:=[aR 69 2 Qja x4.Keys,aR 69 2 Qja ([(⟨p3.Key,0⟩:Keyed)]:List Keyed)]) (aw1:=[.dead,.dead,aR 69 2 Qja x11]) (aw2:=[.box [iI x4.Sum,.ref 4,iI (if p3.Dep > x4.Dep then p3.Dep else x4.Dep)],.box [iI p3.Key,iI p3.Val,iI p3.Dep],.box [iI 0,.nils,iI 0],.box [iI 0,iI 0,iI 0],.dead,.dead,aR 69 2 Qja x11]) (v:=.ref 2) (v':=.ref 6) (n0:=6) (n1:=3) [4,5] rfl rfl rfl rfl (by decide) (Jma rfl Q7a rfl (Jma rfl Q7a rfl (Qva))) ⟨Qta rfl,Qla rfl,Qta rfl,trivial⟩ (slices_Insert_Keyed_xe708_c x9.1 x4.Keys ([(⟨p3.Key,0⟩:Keyed)]:List Keyed) x11 hx11) rfl (Vca (by decide)) ⟨.inr ⟨rfl,rfl⟩,.inr ⟨rfl,rfl⟩,.inr ⟨rfl,rfl⟩,.inr ⟨rfl,rfl⟩,.inl ⟨0,_,by decide,rfl,trivial⟩,.inl ⟨1,_,by decide,rfl,trivial⟩,.inl ⟨2,_,by decide,rfl,Zma Q7a⟩,trivial⟩ (sq (Qca Ty.f66_1 rfl (off':=1) rfl ?_)))))))))))))))))))
     refine so (Qma Ty.c64 Ty.i64 rfl (vs:=[.ref 6]) rfl rfl rfl rfl (cs':=[iI x4.Sum,.ref 6,iI (if p3.Dep > x4.Dep then p3.Dep else x4.Dep)]) rfl rfl (RS.nil ?_))
     exact T.weakR (hK1 x11 h) (Weak.mkN [] [0,1,2,3,6] (by decide) (Qpa _) rfl ⟨Qua rfl,Qua rfl,Qua rfl,Qua rfl,Qla rfl,trivial⟩ (Joa (cs:=[iI x4.Sum,.ref 4,iI (if p3.Dep > x4.Dep then p3.Dep else x4.Dep)]) (ds:=[iI x4.Sum,.ref 6,iI (if p3.Dep > x4.Dep then p3.Dep else x4.Dep)]) rfl ⟨Qla rfl,Qta rfl,Qla rfl,trivial⟩ (rw_bs [iI p3.Key,iI p3.Val,iI p3.Dep] rfl (rw_bs [iI 0,.nils,iI 0] rfl (rw_bs [iI 0,iI 0,iI 0] rfl (rw_ar rfl rfl (Qva)))))))
    replace h:=ite_F h hb_41
    refine T.skip ?_
    exact T.sub (hK1 x4.Keys h) ⟨rfl,rfl,rfl,rfl,rfl,trivial⟩
   refine T.region (sm (.bool x9.2) rfl (sq (v_not rfl (sm (.bool (!x9.2)) rfl ?_))))
   rcases Q3a (!x9.2) with hb_18 | hb_18
   ·refine yq hb_18 (Qca Ty.f66_1 rfl (off':=1) rfl (yo hb_18 (Qea rfl rfl (Qga Ty.k64 (c:=.ref 4) rfl (yq hb_18 (Yga (en:=Qja) Ty.s64 rfl rfl (yq hb_18 (v_eql rfl rfl (sq (Jea (v:=.bool (((x4.Keys).length:Int)==6)) rfl hb_18 rfl (RS.nil ?_)))))))))))
    exact T.sub (hK () trivial) ⟨rfl,rfl,rfl,rfl,rfl,rfl,(congrArg AV.bool (by simp only [hb_18,bz,if_true,if_false,Bool.false_eq_true])).symm,trivial⟩
   refine sn hb_18 (sn hb_18 (sn hb_18 (sn hb_18 (sq (Q5a (v:=.bool false) rfl hb_18 rfl (RS.nil ?_))))))
   exact T.sub (hK () trivial) ⟨rfl,rfl,rfl,rfl,rfl,rfl,(congrArg AV.bool (by simp only [hb_18,bz,if_true,if_false,Bool.false_eq_true])).symm,trivial⟩
  replace h:=ite_F h hb_17
  refine T.seq (T.seq (T.region (sq (v_eql rfl rfl (sa (.bool (p0==1)) rfl (RS.nil (T.cond (b:=p0==1) rfl (fun hb_42=>?_) (fun hb_42=>?_))))))))
  ·replace h:=ite_T h hb_42
   refine T.skip (T.cond (b:=p0==1) rfl (fun hb_43=>?_) (fun hb_43=>?_))
   ·replace h:=ite_T h hb_43
    refine T.seq (T.drawn mixed (k:=5) rfl ?_)
    let l45:List (Nat × AV):=[(0,iI p0),(1,iI p1),(2,.agg [iI p2.Sum,sL Qja p2.Keys,iI p2.Dep]),(3,.agg [iI p3.Key,iI p3.Val,iI p3.Dep]),(6,.ptr 0 0),(7,.ptr 1 0),(8,.ptr 2 0),(9,.ptr 3 0),(10,iI 0),(11,iI x2),(14,.agg [iI p2.Sum,sL Qja p2.Keys,iI p2.Dep]),(15,iI x2),(16,iI x2),(17,.bool (x2 != 0)),(21,.ptr 1 2),(22,iI p3.Dep),(23,.bool (decide (p3.Dep<0))),(26,.agg [iI p2.Sum,sL Qja p2.Keys,iI p2.Dep]),(27,.agg [iI x4.Sum,.ref 4,iI x4.Dep]),(28,iI p0),(29,.bool (p0==2)),(30,.bool (p0==2)),(43,.bool (p0==3)),(44,.bool (p0==3)),(65,.bool (p0==4)),(66,.bool (p0==4)),(127,.bool (p0==1)),(128,.bool (p0==1))]
    refine RA.join 2 #[true,true,true,false,false] (mkA 137 ((133,.agg [iI x4.Sum,.ref 4,iI x4.Dep])::(134,.agg [iI p3.Key,iI p3.Val,iI p3.Dep])::l45)) [.box [iI x4.Sum,.ref 4,iI x4.Dep],.box [iI p3.Key,iI p3.Val,iI p3.Dep],.box [iI x4.Sum,.ref 4,iI x4.Dep],.box [iI 0,iI 0,iI 0],aR 69 2 Qja x4.Keys] ?_ (fun hS44=>?_)
    ·refine ra1 3 (RO.op rfl rfl (Qma Ty.c46 Ty.i46 rfl (vs:=[iI p3.Key,iI p3.Val,iI p3.Dep]) rfl rfl rfl rfl (cs':=[iI p3.Key,iI p3.Val,iI p3.Dep]) rfl rfl (rt0 4 rfl (Jta (v:=iI 0) rfl (RA.done (by decide +kernel) (T.rt (Jfa (id:=2) (off:=0) (cs:=[iI x4.Sum,.ref 4,iI x4.Dep]) (v:=.agg [iI x4.Sum,.ref 4,iI x4.Dep]) ?_ ?_ ?_ ?_)))))))
     · rfl
     · rfl
     · exact fun K h=>(Qqa (row:=[iI x4.Sum,.ref 4,iI x4.Dep]) (off:=0) Ty.k66 Ty.c66 rfl (cs:=[iI x4.Sum,.ref 4,iI x4.Dep]) rfl h)
     refine Jfa (id:=3) (off:=0) (cs:=[iI p3.Key,iI p3.Val,iI p3.Dep]) (v:=.agg [iI p3.Key,iI p3.Val,iI p3.Dep]) ?_ ?_ ?_ ?_
     · rfl
     · rfl
     · exact fun K h=>(Qqa (row:=[iI p3.Key,iI p3.Val,iI p3.Dep]) (off:=0) Ty.k46 Ty.c46 rfl (cs:=[iI p3.Key,iI p3.Val,iI p3.Dep]) rfl h)
     refine Qna (v:=iI 0) rfl (Qra ?_)
     exact Qya (v:=.tup [.agg [iI x4.Sum,sL Qja x4.Keys,iI x4.Dep],.agg [iI p3.Key,iI p3.Val,iI p3.Dep],iI 0]) rfl (Jna _ (Qka (⟨Qsa _ (Qka (⟨Qfa _ _,Qia Q7a _,Qfa _ _,trivial⟩)),Qsa _ (Qka (⟨Qfa _ _,Qfa _ _,Qfa _ _,trivial⟩)),Qfa _ _,trivial⟩))) ⟨congrArg (fun r:Memory × Item × Int=>(.tup [.agg [iI r.1.Sum,sL Qja r.1.Keys,iI r.1.Dep],.agg [iI r.2.1.Key,iI r.2.1.Val,iI r.2.1.Dep],iI r.2.2]:AV)) (Option.some.inj h),rfl⟩
    ·refine rl0 [0,2,3,4] 0 rfl (Qxa rfl rfl (Qqa Ty.k66 Ty.c66 rfl (cs:=[iI x4.Sum,.ref 4,iI x4.Dep]) rfl (ra2 1 2 ?_ ?_)))
     ·refine RO.op rfl rfl (Qea rfl rfl (Qqa Ty.k46 Ty.c46 rfl (cs:=[iI p3.Key,iI p3.Val,iI p3.Dep]) rfl (ra1 2 (RO.op rfl rfl (Qma Ty.c66 Ty.i66 rfl (vs:=[iI x4.Sum,.ref 4,iI x4.Dep]) rfl rfl rfl rfl (cs':=[iI x4.Sum,.ref 4,iI x4.Dep]) rfl rfl ?_)))))
      exact raS hS44 ⟨rfl,rfl,rfl,rfl,rfl,rfl,rfl,rfl,rfl,rfl,rfl,rfl,rfl,rfl,rfl,rfl,rfl,rfl,rfl,rfl,rfl,rfl,rfl,rfl,rfl,rfl,rfl,rfl,rfl,rfl,trivial⟩
     ·refine RO.op rfl rfl (Qma Ty.c66 Ty.i66 rfl (vs:=[iI x4.Sum,.ref 4,iI x4.Dep]) rfl rfl rfl rfl (cs':=[iI x4.Sum,.ref 4,iI x4.Dep]) rfl rfl (ra1 1 (RO.op rfl rfl (Qea rfl rfl (Qqa Ty.k46 Ty.c46 rfl (cs:=[iI p3.Key,iI p3.Val,iI p3.Dep]) rfl ?_)))))
      exact raS hS44 ⟨rfl,rfl,rfl,rfl,rfl,rfl,rfl,rfl,rfl,rfl,rfl,rfl,rfl,rfl,rfl,rfl,rfl,rfl,rfl,rfl,rfl,rfl,rfl,rfl,rfl,rfl,rfl,rfl,rfl,rfl,trivial⟩
   replace h:=ite_F h hb_43
   refine T.skip (T.seq (T.region (sq (Jva (cs:=[iI 0,.nils,iI 0]) Ty.z66 Ty.p66 rfl (sq (Jva (cs:=[iI 0,iI 0,iI 0]) Ty.z46 Ty.p46 rfl (so (Qma Ty.c66 Ty.i66 rfl (vs:=[iI 0,.nils,iI 0]) rfl rfl rfl rfl (cs':=[iI 0,.nils,iI 0]) rfl rfl (so (Qma Ty.c46 Ty.i46 rfl (vs:=[iI 0,iI 0,iI 0]) rfl rfl rfl rfl (cs':=[iI 0,iI 0,iI 0]) rfl rfl (sa (iI 5) rfl (RS.nil (T.rt ?_)))))))))))))
   refine Jfa (id:=2) (off:=0) (cs:=[iI 0,.nils,iI 0]) (v:=.agg [iI 0,.nils,iI 0]) ?_ ?_ ?_ ?_
   · rfl
   · rfl
   · exact fun K h=>(Qqa (row:=[iI 0,.nils,iI 0]) (off:=0) Ty.k66 Ty.c66 rfl (cs:=[iI 0,.nils,iI 0]) rfl h)
   refine Jfa (id:=3) (off:=0) (cs:=[iI 0,iI 0,iI 0]) (v:=.agg [iI 0,iI 0,iI 0]) ?_ ?_ ?_ ?_
   · rfl
   · rfl
   · exact fun K h=>(Qqa (row:=[iI 0,iI 0,iI 0]) (off:=0) Ty.k46 Ty.c46 rfl (cs:=[iI 0,iI 0,iI 0]) rfl h)
   refine Qna (v:=iI 5) rfl (Qra ?_)
   exact Qya (v:=.tup [.agg [iI 0,sL Qja [],iI 0],.agg [iI 0,iI 0,iI 0],iI 5]) rfl (Jna _ (Qka (⟨Qsa _ (Qka (⟨Qfa _ _,Qia Q7a _,Qfa _ _,trivial⟩)),Qsa _ (Qka (⟨Qfa _ _,Qfa _ _,Qfa _ _,trivial⟩)),Qfa _ _,trivial⟩))) ⟨congrArg (fun r:Memory × Item × Int=>(.tup [.agg [iI r.1.Sum,sL Qja r.1.Keys,iI r.1.Dep],.agg [iI r.2.1.Key,iI r.2.1.Val,iI r.2.1.Dep],iI r.2.2]:AV)) (Option.some.inj h),rfl⟩
  replace h:=ite_F h hb_42
  refine T.seq (T.region (sq (v_eql rfl rfl (sa (.bool (p0==5)) rfl (RS.nil (T.cond (b:=p0==5) rfl (fun hb_46=>?_) (fun hb_46=>?_)))))))
  ·replace h:=ite_T h hb_46
   refine T.skip (T.cond (b:=p0==5) rfl (fun hb_47=>?_) (fun hb_47=>?_))
   ·replace h:=ite_T h hb_47
    refine T.seq (T.drawn mixed (k:=5) rfl ?_)
    let l49:List (Nat × AV):=[(0,iI p0),(1,iI p1),(2,.agg [iI p2.Sum,sL Qja p2.Keys,iI p2.Dep]),(3,.agg [iI p3.Key,iI p3.Val,iI p3.Dep]),(6,.ptr 0 0),(7,.ptr 1 0),(8,.ptr 2 0),(9,.ptr 3 0),(10,iI 0),(11,iI x2),(14,.agg [iI p2.Sum,sL Qja p2.Keys,iI p2.Dep]),(15,iI x2),(16,iI x2),(17,.bool (x2 != 0)),(21,.ptr 1 2),(22,iI p3.Dep),(23,.bool (decide (p3.Dep<0))),(26,.agg [iI p2.Sum,sL Qja p2.Keys,iI p2.Dep]),(27,.agg [iI x4.Sum,.ref 4,iI x4.Dep]),(28,iI p0),(29,.bool (p0==2)),(30,.bool (p0==2)),(43,.bool (p0==3)),(44,.bool (p0==3)),(65,.bool (p0==4)),(66,.bool (p0==4)),(127,.bool (p0==5)),(128,.bool (p0==1)),(129,.bool (p0==5))]
    refine RA.join 2 #[true,true,true,false,false] (mkA 137 ((133,.agg [iI x4.Sum,.ref 4,iI x4.Dep])::(134,.agg [iI p3.Key,iI p3.Val,iI p3.Dep])::l49)) [.box [iI x4.Sum,.ref 4,iI x4.Dep],.box [iI p3.Key,iI p3.Val,iI p3.Dep],.box [iI x4.Sum,.ref 4,iI x4.Dep],.box [iI 0,iI 0,iI 0],aR 69 2 Qja x4.Keys] ?_ (fun hS48=>?_)
    ·refine ra1 3 (RO.op rfl rfl (Qma Ty.c46 Ty.i46 rfl (vs:=[iI p3.Key,iI p3.Val,iI p3.Dep]) rfl rfl rfl rfl (cs':=[iI p3.Key,iI p3.Val,iI p3.Dep]) rfl rfl (rt0 4 rfl (Jta (v:=iI 0) rfl (RA.done (by decide +kernel) (T.rt (Jfa (id:=2) (off:=0) (cs:=[iI x4.Sum,.ref 4,iI x4.Dep]) (v:=.agg [iI x4.Sum,.ref 4,iI x4.Dep]) ?_ ?_ ?_ ?_)))))))
     · rfl
     · rfl
     · exact fun K h=>(Qqa (row:=[iI x4.Sum,.ref 4,iI x4.Dep]) (off:=0) Ty.k66 Ty.c66 rfl (cs:=[iI x4.Sum,.ref 4,iI x4.Dep]) rfl h)
     refine Jfa (id:=3) (off:=0) (cs:=[iI p3.Key,iI p3.Val,iI p3.Dep]) (v:=.agg [iI p3.Key,iI p3.Val,iI p3.Dep]) ?_ ?_ ?_ ?_
     · rfl
     · rfl
     · exact fun K h=>(Qqa (row:=[iI p3.Key,iI p3.Val,iI p3.Dep]) (off:=0) Ty.k46 Ty.c46 rfl (cs:=[iI p3.Key,iI p3.Val,iI p3.Dep]) rfl h)
     refine Qna (v:=iI 0) rfl (Qra ?_)
     exact Qya (v:=.tup [.agg [iI x4.Sum,sL Qja x4.Keys,iI x4.Dep],.agg [iI p3.Key,iI p3.Val,iI p3.Dep],iI 0]) rfl (Jna _ (Qka (⟨Qsa _ (Qka (⟨Qfa _ _,Qia Q7a _,Qfa _ _,trivial⟩)),Qsa _ (Qka (⟨Qfa _ _,Qfa _ _,Qfa _ _,trivial⟩)),Qfa _ _,trivial⟩))) ⟨congrArg (fun r:Memory × Item × Int=>(.tup [.agg [iI r.1.Sum,sL Qja r.1.Keys,iI r.1.Dep],.agg [iI r.2.1.Key,iI r.2.1.Val,iI r.2.1.Dep],iI r.2.2]:AV)) (Option.some.inj h),rfl⟩
    ·refine rl0 [0,2,3,4] 0 rfl (Qxa rfl rfl (Qqa Ty.k66 Ty.c66 rfl (cs:=[iI x4.Sum,.ref 4,iI x4.Dep]) rfl (ra2 1 2 ?_ ?_)))
     ·refine RO.op rfl rfl (Qea rfl rfl (Qqa Ty.k46 Ty.c46 rfl (cs:=[iI p3.Key,iI p3.Val,iI p3.Dep]) rfl (ra1 2 (RO.op rfl rfl (Qma Ty.c66 Ty.i66 rfl (vs:=[iI x4.Sum,.ref 4,iI x4.Dep]) rfl rfl rfl rfl (cs':=[iI x4.Sum,.ref 4,iI x4.Dep]) rfl rfl ?_)))))
      exact raS hS48 ⟨rfl,rfl,rfl,rfl,rfl,rfl,rfl,rfl,rfl,rfl,rfl,rfl,rfl,rfl,rfl,rfl,rfl,rfl,rfl,rfl,rfl,rfl,rfl,rfl,rfl,rfl,rfl,rfl,rfl,rfl,rfl,trivial⟩
     ·refine RO.op rfl rfl (Qma Ty.c66 Ty.i66 rfl (vs:=[iI x4.Sum,.ref 4,iI x4.Dep]) rfl rfl rfl rfl (cs':=[iI x4.Sum,.ref 4,iI x4.Dep]) rfl rfl (ra1 1 (RO.op rfl rfl (Qea rfl rfl (Qqa Ty.k46 Ty.c46 rfl (cs:=[iI p3.Key,iI p3.Val,iI p3.Dep]) rfl ?_)))))
      exact raS hS48 ⟨rfl,rfl,rfl,rfl,rfl,rfl,rfl,rfl,rfl,rfl,rfl,rfl,rfl,rfl,rfl,rfl,rfl,rfl,rfl,rfl,rfl,rfl,rfl,rfl,rfl,rfl,rfl,rfl,rfl,rfl,rfl,trivial⟩
   replace h:=ite_F h hb_47
   refine T.skip (T.seq (T.region (sq (Jva (cs:=[iI 0,.nils,iI 0]) Ty.z66 Ty.p66 rfl (sq (Jva (cs:=[iI 0,iI 0,iI 0]) Ty.z46 Ty.p46 rfl (so (Qma Ty.c66 Ty.i66 rfl (vs:=[iI 0,.nils,iI 0]) rfl rfl rfl rfl (cs':=[iI 0,.nils,iI 0]) rfl rfl (so (Qma Ty.c46 Ty.i46 rfl (vs:=[iI 0,iI 0,iI 0]) rfl rfl rfl rfl (cs':=[iI 0,iI 0,iI 0]) rfl rfl (sa (iI 5) rfl (RS.nil (T.rt ?_)))))))))))))
   refine Jfa (id:=2) (off:=0) (cs:=[iI 0,.nils,iI 0]) (v:=.agg [iI 0,.nils,iI 0]) ?_ ?_ ?_ ?_
   · rfl
   · rfl
   · exact fun K h=>(Qqa (row:=[iI 0,.nils,iI 0]) (off:=0) Ty.k66 Ty.c66 rfl (cs:=[iI 0,.nils,iI 0]) rfl h)
   refine Jfa (id:=3) (off:=0) (cs:=[iI 0,iI 0,iI 0]) (v:=.agg [iI 0,iI 0,iI 0]) ?_ ?_ ?_ ?_
   · rfl
   · rfl
   · exact fun K h=>(Qqa (row:=[iI 0,iI 0,iI 0]) (off:=0) Ty.k46 Ty.c46 rfl (cs:=[iI 0,iI 0,iI 0]) rfl h)
   refine Qna (v:=iI 5) rfl (Qra ?_)
   exact Qya (v:=.tup [.agg [iI 0,sL Qja [],iI 0],.agg [iI 0,iI 0,iI 0],iI 5]) rfl (Jna _ (Qka (⟨Qsa _ (Qka (⟨Qfa _ _,Qia Q7a _,Qfa _ _,trivial⟩)),Qsa _ (Qka (⟨Qfa _ _,Qfa _ _,Qfa _ _,trivial⟩)),Qfa _ _,trivial⟩))) ⟨congrArg (fun r:Memory × Item × Int=>(.tup [.agg [iI r.1.Sum,sL Qja r.1.Keys,iI r.1.Dep],.agg [iI r.2.1.Key,iI r.2.1.Val,iI r.2.1.Dep],iI r.2.2]:AV)) (Option.some.inj h),rfl⟩
  replace h:=ite_F h hb_46
  refine T.seq (T.region (sq (v_eql rfl rfl (sa (.bool (p0==6)) rfl (RS.nil (T.cond (b:=p0==6) rfl (fun hb_50=>?_) (fun hb_50=>?_)))))))
  ·replace h:=ite_T h hb_50
   refine T.skip (T.cond (b:=p0==6) rfl (fun hb_51=>?_) (fun hb_51=>?_))
   ·replace h:=ite_T h hb_51
    refine T.seq (T.drawn mixed (k:=5) rfl ?_)
    let l53:List (Nat × AV):=[(0,iI p0),(1,iI p1),(2,.agg [iI p2.Sum,sL Qja p2.Keys,iI p2.Dep]),(3,.agg [iI p3.Key,iI p3.Val,iI p3.Dep]),(6,.ptr 0 0),(7,.ptr 1 0),(8,.ptr 2 0),(9,.ptr 3 0),(10,iI 0),(11,iI x2),(14,.agg [iI p2.Sum,sL Qja p2.Keys,iI p2.Dep]),(15,iI x2),(16,iI x2),(17,.bool (x2 != 0)),(21,.ptr 1 2),(22,iI p3.Dep),(23,.bool (decide (p3.Dep<0))),(26,.agg [iI p2.Sum,sL Qja p2.Keys,iI p2.Dep]),(27,.agg [iI x4.Sum,.ref 4,iI x4.Dep]),(28,iI p0),(29,.bool (p0==2)),(30,.bool (p0==2)),(43,.bool (p0==3)),(44,.bool (p0==3)),(65,.bool (p0==4)),(66,.bool (p0==4)),(127,.bool (p0==6)),(128,.bool (p0==1)),(129,.bool (p0==5)),(130,.bool (p0==6))]
    refine RA.join 2 #[true,true,true,false,false] (mkA 137 ((133,.agg [iI x4.Sum,.ref 4,iI x4.Dep])::(134,.agg [iI p3.Key,iI p3.Val,iI p3.Dep])::l53)) [.box [iI x4.Sum,.ref 4,iI x4.Dep],.box [iI p3.Key,iI p3.Val,iI p3.Dep],.box [iI x4.Sum,.ref 4,iI x4.Dep],.box [iI 0,iI 0,iI 0],aR 69 2 Qja x4.Keys] ?_ (fun hS52=>?_)
    ·refine ra1 3 (RO.op rfl rfl (Qma Ty.c46 Ty.i46 rfl (vs:=[iI p3.Key,iI p3.Val,iI p3.Dep]) rfl rfl rfl rfl (cs':=[iI p3.Key,iI p3.Val,iI p3.Dep]) rfl rfl (rt0 4 rfl (Jta (v:=iI 0) rfl (RA.done (by decide +kernel) (T.rt (Jfa (id:=2) (off:=0) (cs:=[iI x4.Sum,.ref 4,iI x4.Dep]) (v:=.agg [iI x4.Sum,.ref 4,iI x4.Dep]) ?_ ?_ ?_ ?_)))))))
     · rfl
     · rfl
     · exact fun K h=>(Qqa (row:=[iI x4.Sum,.ref 4,iI x4.Dep]) (off:=0) Ty.k66 Ty.c66 rfl (cs:=[iI x4.Sum,.ref 4,iI x4.Dep]) rfl h)
     refine Jfa (id:=3) (off:=0) (cs:=[iI p3.Key,iI p3.Val,iI p3.Dep]) (v:=.agg [iI p3.Key,iI p3.Val,iI p3.Dep]) ?_ ?_ ?_ ?_
     · rfl
     · rfl
     · exact fun K h=>(Qqa (row:=[iI p3.Key,iI p3.Val,iI p3.Dep]) (off:=0) Ty.k46 Ty.c46 rfl (cs:=[iI p3.Key,iI p3.Val,iI p3.Dep]) rfl h)
     refine Qna (v:=iI 0) rfl (Qra ?_)
     exact Qya (v:=.tup [.agg [iI x4.Sum,sL Qja x4.Keys,iI x4.Dep],.agg [iI p3.Key,iI p3.Val,iI p3.Dep],iI 0]) rfl (Jna _ (Qka (⟨Qsa _ (Qka (⟨Qfa _ _,Qia Q7a _,Qfa _ _,trivial⟩)),Qsa _ (Qka (⟨Qfa _ _,Qfa _ _,Qfa _ _,trivial⟩)),Qfa _ _,trivial⟩))) ⟨congrArg (fun r:Memory × Item × Int=>(.tup [.agg [iI r.1.Sum,sL Qja r.1.Keys,iI r.1.Dep],.agg [iI r.2.1.Key,iI r.2.1.Val,iI r.2.1.Dep],iI r.2.2]:AV)) (Option.some.inj h),rfl⟩
    ·refine rl0 [0,2,3,4] 0 rfl (Qxa rfl rfl (Qqa Ty.k66 Ty.c66 rfl (cs:=[iI x4.Sum,.ref 4,iI x4.Dep]) rfl (ra2 1 2 ?_ ?_)))
     ·refine RO.op rfl rfl (Qea rfl rfl (Qqa Ty.k46 Ty.c46 rfl (cs:=[iI p3.Key,iI p3.Val,iI p3.Dep]) rfl (ra1 2 (RO.op rfl rfl (Qma Ty.c66 Ty.i66 rfl (vs:=[iI x4.Sum,.ref 4,iI x4.Dep]) rfl rfl rfl rfl (cs':=[iI x4.Sum,.ref 4,iI x4.Dep]) rfl rfl ?_)))))
      exact raS hS52 ⟨rfl,rfl,rfl,rfl,rfl,rfl,rfl,rfl,rfl,rfl,rfl,rfl,rfl,rfl,rfl,rfl,rfl,rfl,rfl,rfl,rfl,rfl,rfl,rfl,rfl,rfl,rfl,rfl,rfl,rfl,rfl,rfl,trivial⟩
     ·refine RO.op rfl rfl (Qma Ty.c66 Ty.i66 rfl (vs:=[iI x4.Sum,.ref 4,iI x4.Dep]) rfl rfl rfl rfl (cs':=[iI x4.Sum,.ref 4,iI x4.Dep]) rfl rfl (ra1 1 (RO.op rfl rfl (Qea rfl rfl (Qqa Ty.k46 Ty.c46 rfl (cs:=[iI p3.Key,iI p3.Val,iI p3.Dep]) rfl ?_)))))
      exact raS hS52 ⟨rfl,rfl,rfl,rfl,rfl,rfl,rfl,rfl,rfl,rfl,rfl,rfl,rfl,rfl,rfl,rfl,rfl,rfl,rfl,rfl,rfl,rfl,rfl,rfl,rfl,rfl,rfl,rfl,rfl,rfl,rfl,rfl,trivial⟩
   replace h:=ite_F h hb_51
   refine T.skip (T.seq (T.region (sq (Jva (cs:=[iI 0,.nils,iI 0]) Ty.z66 Ty.p66 rfl (sq (Jva (cs:=[iI 0,iI 0,iI 0]) Ty.z46 Ty.p46 rfl (so (Qma Ty.c66 Ty.i66 rfl (vs:=[iI 0,.nils,iI 0]) rfl rfl rfl rfl (cs':=[iI 0,.nils,iI 0]) rfl rfl (so (Qma Ty.c46 Ty.i46 rfl (vs:=[iI 0,iI 0,iI 0]) rfl rfl rfl rfl (cs':=[iI 0,iI 0,iI 0]) rfl rfl (sa (iI 5) rfl (RS.nil (T.rt ?_)))))))))))))
   refine Jfa (id:=2) (off:=0) (cs:=[iI 0,.nils,iI 0]) (v:=.agg [iI 0,.nils,iI 0]) ?_ ?_ ?_ ?_
   · rfl
   · rfl
   · exact fun K h=>(Qqa (row:=[iI 0,.nils,iI 0]) (off:=0) Ty.k66 Ty.c66 rfl (cs:=[iI 0,.nils,iI 0]) rfl h)
   refine Jfa (id:=3) (off:=0) (cs:=[iI 0,iI 0,iI 0]) (v:=.agg [iI 0,iI 0,iI 0]) ?_ ?_ ?_ ?_
   · rfl
   · rfl
   · exact fun K h=>(Qqa (row:=[iI 0,iI 0,iI 0]) (off:=0) Ty.k46 Ty.c46 rfl (cs:=[iI 0,iI 0,iI 0]) rfl h)
   refine Qna (v:=iI 5) rfl (Qra ?_)
   exact Qya (v:=.tup [.agg [iI 0,sL Qja [],iI 0],.agg [iI 0,iI 0,iI 0],iI 5]) rfl (Jna _ (Qka (⟨Qsa _ (Qka (⟨Qfa _ _,Qia Q7a _,Qfa _ _,trivial⟩)),Qsa _ (Qka (⟨Qfa _ _,Qfa _ _,Qfa _ _,trivial⟩)),Qfa _ _,trivial⟩))) ⟨congrArg (fun r:Memory × Item × Int=>(.tup [.agg [iI r.1.Sum,sL Qja r.1.Keys,iI r.1.Dep],.agg [iI r.2.1.Key,iI r.2.1.Val,iI r.2.1.Dep],iI r.2.2]:AV)) (Option.some.inj h),rfl⟩
  replace h:=ite_F h hb_50
  refine T.seq (T.region (sq (v_eql rfl rfl (sa (.bool (p0==7)) rfl (RS.nil (T.cond (b:=p0==7) rfl (fun hb_54=>?_) (fun hb_54=>?_)))))))
  ·replace h:=ite_T h hb_54
   refine T.skip (T.cond (b:=p0==7) rfl (fun hb_55=>?_) (fun hb_55=>?_))
   ·replace h:=ite_T h hb_55
    refine T.seq (T.drawn mixed (k:=5) rfl ?_)
    let l57:List (Nat × AV):=[(0,iI p0),(1,iI p1),(2,.agg [iI p2.Sum,sL Qja p2.Keys,iI p2.Dep]),(3,.agg [iI p3.Key,iI p3.Val,iI p3.Dep]),(6,.ptr 0 0),(7,.ptr 1 0),(8,.ptr 2 0),(9,.ptr 3 0),(10,iI 0),(11,iI x2),(14,.agg [iI p2.Sum,sL Qja p2.Keys,iI p2.Dep]),(15,iI x2),(16,iI x2),(17,.bool (x2 != 0)),(21,.ptr 1 2),(22,iI p3.Dep),(23,.bool (decide (p3.Dep<0))),(26,.agg [iI p2.Sum,sL Qja p2.Keys,iI p2.Dep]),(27,.agg [iI x4.Sum,.ref 4,iI x4.Dep]),(28,iI p0),(29,.bool (p0==2)),(30,.bool (p0==2)),(43,.bool (p0==3)),(44,.bool (p0==3)),(65,.bool (p0==4)),(66,.bool (p0==4)),(127,.bool (p0==7)),(128,.bool (p0==1)),(129,.bool (p0==5)),(130,.bool (p0==6)),(131,.bool (p0==7))]
    refine RA.join 2 #[true,true,true,false,false] (mkA 137 ((133,.agg [iI x4.Sum,.ref 4,iI x4.Dep])::(134,.agg [iI p3.Key,iI p3.Val,iI p3.Dep])::l57)) [.box [iI x4.Sum,.ref 4,iI x4.Dep],.box [iI p3.Key,iI p3.Val,iI p3.Dep],.box [iI x4.Sum,.ref 4,iI x4.Dep],.box [iI 0,iI 0,iI 0],aR 69 2 Qja x4.Keys] ?_ (fun hS56=>?_)
    ·refine ra1 3 (RO.op rfl rfl (Qma Ty.c46 Ty.i46 rfl (vs:=[iI p3.Key,iI p3.Val,iI p3.Dep]) rfl rfl rfl rfl (cs':=[iI p3.Key,iI p3.Val,iI p3.Dep]) rfl rfl (rt0 4 rfl (Jta (v:=iI 0) rfl (RA.done (by decide +kernel) (T.rt (Jfa (id:=2) (off:=0) (cs:=[iI x4.Sum,.ref 4,iI x4.Dep]) (v:=.agg [iI x4.Sum,.ref 4,iI x4.Dep]) ?_ ?_ ?_ ?_)))))))
     · rfl
     · rfl
     · exact fun K h=>(Qqa (row:=[iI x4.Sum,.ref 4,iI x4.Dep]) (off:=0) Ty.k66 Ty.c66 rfl (cs:=[iI x4.Sum,.ref 4,iI x4.Dep]) rfl h)
     refine Jfa (id:=3) (off:=0) (cs:=[iI p3.Key,iI p3.Val,iI p3.Dep]) (v:=.agg [iI p3.Key,iI p3.Val,iI p3.Dep]) ?_ ?_ ?_ ?_
     · rfl
     · rfl
     · exact fun K h=>(Qqa (row:=[iI p3.Key,iI p3.Val,iI p3.Dep]) (off:=0) Ty.k46 Ty.c46 rfl (cs:=[iI p3.Key,iI p3.Val,iI p3.Dep]) rfl h)
     refine Qna (v:=iI 0) rfl (Qra ?_)
     exact Qya (v:=.tup [.agg [iI x4.Sum,sL Qja x4.Keys,iI x4.Dep],.agg [iI p3.Key,iI p3.Val,iI p3.Dep],iI 0]) rfl (Jna _ (Qka (⟨Qsa _ (Qka (⟨Qfa _ _,Qia Q7a _,Qfa _ _,trivial⟩)),Qsa _ (Qka (⟨Qfa _ _,Qfa _ _,Qfa _ _,trivial⟩)),Qfa _ _,trivial⟩))) ⟨congrArg (fun r:Memory × Item × Int=>(.tup [.agg [iI r.1.Sum,sL Qja r.1.Keys,iI r.1.Dep],.agg [iI r.2.1.Key,iI r.2.1.Val,iI r.2.1.Dep],iI r.2.2]:AV)) (Option.some.inj h),rfl⟩
    ·refine rl0 [0,2,3,4] 0 rfl (Qxa rfl rfl (Qqa Ty.k66 Ty.c66 rfl (cs:=[iI x4.Sum,.ref 4,iI x4.Dep]) rfl (ra2 1 2 ?_ ?_)))
     ·refine RO.op rfl rfl (Qea rfl rfl (Qqa Ty.k46 Ty.c46 rfl (cs:=[iI p3.Key,iI p3.Val,iI p3.Dep]) rfl (ra1 2 (RO.op rfl rfl (Qma Ty.c66 Ty.i66 rfl (vs:=[iI x4.Sum,.ref 4,iI x4.Dep]) rfl rfl rfl rfl (cs':=[iI x4.Sum,.ref 4,iI x4.Dep]) rfl rfl ?_)))))
      exact raS hS56 ⟨rfl,rfl,rfl,rfl,rfl,rfl,rfl,rfl,rfl,rfl,rfl,rfl,rfl,rfl,rfl,rfl,rfl,rfl,rfl,rfl,rfl,rfl,rfl,rfl,rfl,rfl,rfl,rfl,rfl,rfl,rfl,rfl,rfl,trivial⟩
     ·refine RO.op rfl rfl (Qma Ty.c66 Ty.i66 rfl (vs:=[iI x4.Sum,.ref 4,iI x4.Dep]) rfl rfl rfl rfl (cs':=[iI x4.Sum,.ref 4,iI x4.Dep]) rfl rfl (ra1 1 (RO.op rfl rfl (Qea rfl rfl (Qqa Ty.k46 Ty.c46 rfl (cs:=[iI p3.Key,iI p3.Val,iI p3.Dep]) rfl ?_)))))
      exact raS hS56 ⟨rfl,rfl,rfl,rfl,rfl,rfl,rfl,rfl,rfl,rfl,rfl,rfl,rfl,rfl,rfl,rfl,rfl,rfl,rfl,rfl,rfl,rfl,rfl,rfl,rfl,rfl,rfl,rfl,rfl,rfl,rfl,rfl,rfl,trivial⟩
   replace h:=ite_F h hb_55
   refine T.skip (T.seq (T.region (sq (Jva (cs:=[iI 0,.nils,iI 0]) Ty.z66 Ty.p66 rfl (sq (Jva (cs:=[iI 0,iI 0,iI 0]) Ty.z46 Ty.p46 rfl (so (Qma Ty.c66 Ty.i66 rfl (vs:=[iI 0,.nils,iI 0]) rfl rfl rfl rfl (cs':=[iI 0,.nils,iI 0]) rfl rfl (so (Qma Ty.c46 Ty.i46 rfl (vs:=[iI 0,iI 0,iI 0]) rfl rfl rfl rfl (cs':=[iI 0,iI 0,iI 0]) rfl rfl (sa (iI 5) rfl (RS.nil (T.rt ?_)))))))))))))
   refine Jfa (id:=2) (off:=0) (cs:=[iI 0,.nils,iI 0]) (v:=.agg [iI 0,.nils,iI 0]) ?_ ?_ ?_ ?_
   · rfl
   · rfl
   · exact fun K h=>(Qqa (row:=[iI 0,.nils,iI 0]) (off:=0) Ty.k66 Ty.c66 rfl (cs:=[iI 0,.nils,iI 0]) rfl h)
   refine Jfa (id:=3) (off:=0) (cs:=[iI 0,iI 0,iI 0]) (v:=.agg [iI 0,iI 0,iI 0]) ?_ ?_ ?_ ?_
   · rfl
   · rfl
   · exact fun K h=>(Qqa (row:=[iI 0,iI 0,iI 0]) (off:=0) Ty.k46 Ty.c46 rfl (cs:=[iI 0,iI 0,iI 0]) rfl h)
   refine Qna (v:=iI 5) rfl (Qra ?_)
   exact Qya (v:=.tup [.agg [iI 0,sL Qja [],iI 0],.agg [iI 0,iI 0,iI 0],iI 5]) rfl (Jna _ (Qka (⟨Qsa _ (Qka (⟨Qfa _ _,Qia Q7a _,Qfa _ _,trivial⟩)),Qsa _ (Qka (⟨Qfa _ _,Qfa _ _,Qfa _ _,trivial⟩)),Qfa _ _,trivial⟩))) ⟨congrArg (fun r:Memory × Item × Int=>(.tup [.agg [iI r.1.Sum,sL Qja r.1.Keys,iI r.1.Dep],.agg [iI r.2.1.Key,iI r.2.1.Val,iI r.2.1.Dep],iI r.2.2]:AV)) (Option.some.inj h),rfl⟩
  replace h:=ite_F h hb_54
  refine T.region (sq (v_eql rfl rfl (sa (.bool (p0==8)) rfl (RS.nil (T.cond (b:=p0==8) rfl (fun hb_58=>?_) (fun hb_58=>?_))))))
  ·replace h:=ite_T h hb_58
   refine T.seq (T.drawn mixed (k:=5) rfl ?_)
   let l60:List (Nat × AV):=[(0,iI p0),(1,iI p1),(2,.agg [iI p2.Sum,sL Qja p2.Keys,iI p2.Dep]),(3,.agg [iI p3.Key,iI p3.Val,iI p3.Dep]),(6,.ptr 0 0),(7,.ptr 1 0),(8,.ptr 2 0),(9,.ptr 3 0),(10,iI 0),(11,iI x2),(14,.agg [iI p2.Sum,sL Qja p2.Keys,iI p2.Dep]),(15,iI x2),(16,iI x2),(17,.bool (x2 != 0)),(21,.ptr 1 2),(22,iI p3.Dep),(23,.bool (decide (p3.Dep<0))),(26,.agg [iI p2.Sum,sL Qja p2.Keys,iI p2.Dep]),(27,.agg [iI x4.Sum,.ref 4,iI x4.Dep]),(28,iI p0),(29,.bool (p0==2)),(30,.bool (p0==2)),(43,.bool (p0==3)),(44,.bool (p0==3)),(65,.bool (p0==4)),(66,.bool (p0==4)),(127,.bool (p0==8)),(128,.bool (p0==1)),(129,.bool (p0==5)),(130,.bool (p0==6)),(131,.bool (p0==7)),(132,.bool (p0==8))]
   refine RA.join 2 #[true,true,true,false,false] (mkA 137 ((133,.agg [iI x4.Sum,.ref 4,iI x4.Dep])::(134,.agg [iI p3.Key,iI p3.Val,iI p3.Dep])::l60)) [.box [iI x4.Sum,.ref 4,iI x4.Dep],.box [iI p3.Key,iI p3.Val,iI p3.Dep],.box [iI x4.Sum,.ref 4,iI x4.Dep],.box [iI 0,iI 0,iI 0],aR 69 2 Qja x4.Keys] ?_ (fun hS59=>?_)
   ·refine ra1 3 (RO.op rfl rfl (Qma Ty.c46 Ty.i46 rfl (vs:=[iI p3.Key,iI p3.Val,iI p3.Dep]) rfl rfl rfl rfl (cs':=[iI p3.Key,iI p3.Val,iI p3.Dep]) rfl rfl (rt0 4 rfl (Jta (v:=iI 0) rfl (RA.done (by decide +kernel) (T.rt (Jfa (id:=2) (off:=0) (cs:=[iI x4.Sum,.ref 4,iI x4.Dep]) (v:=.agg [iI x4.Sum,.ref 4,iI x4.Dep]) ?_ ?_ ?_ ?_)))))))
    · rfl
    · rfl
    · exact fun K h=>(Qqa (row:=[iI x4.Sum,.ref 4,iI x4.Dep]) (off:=0) Ty.k66 Ty.c66 rfl (cs:=[iI x4.Sum,.ref 4,iI x4.Dep]) rfl h)
    refine Jfa (id:=3) (off:=0) (cs:=[iI p3.Key,iI p3.Val,iI p3.Dep]) (v:=.agg [iI p3.Key,iI p3.Val,iI p3.Dep]) ?_ ?_ ?_ ?_
    · rfl
    · rfl
    · exact fun K h=>(Qqa (row:=[iI p3.Key,iI p3.Val,iI p3.Dep]) (off:=0) Ty.k46 Ty.c46 rfl (cs:=[iI p3.Key,iI p3.Val,iI p3.Dep]) rfl h)
    refine Qna (v:=iI 0) rfl (Qra ?_)
    exact Qya (v:=.tup [.agg [iI x4.Sum,sL Qja x4.Keys,iI x4.Dep],.agg [iI p3.Key,iI p3.Val,iI p3.Dep],iI 0]) rfl (Jna _ (Qka (⟨Qsa _ (Qka (⟨Qfa _ _,Qia Q7a _,Qfa _ _,trivial⟩)),Qsa _ (Qka (⟨Qfa _ _,Qfa _ _,Qfa _ _,trivial⟩)),Qfa _ _,trivial⟩))) ⟨congrArg (fun r:Memory × Item × Int=>(.tup [.agg [iI r.1.Sum,sL Qja r.1.Keys,iI r.1.Dep],.agg [iI r.2.1.Key,iI r.2.1.Val,iI r.2.1.Dep],iI r.2.2]:AV)) (Option.some.inj h),rfl⟩
   ·refine rl0 [0,2,3,4] 0 rfl (Qxa rfl rfl (Qqa Ty.k66 Ty.c66 rfl (cs:=[iI x4.Sum,.ref 4,iI x4.Dep]) rfl (ra2 1 2 ?_ ?_)))
    ·refine RO.op rfl rfl (Qea rfl rfl (Qqa Ty.k46 Ty.c46 rfl (cs:=[iI p3.Key,iI p3.Val,iI p3.Dep]) rfl (ra1 2 (RO.op rfl rfl (Qma Ty.c66 Ty.i66 rfl (vs:=[iI x4.Sum,.ref 4,iI x4.Dep]) rfl rfl rfl rfl (cs':=[iI x4.Sum,.ref 4,iI x4.Dep]) rfl rfl ?_)))))
     exact raS hS59 ⟨rfl,rfl,rfl,rfl,rfl,rfl,rfl,rfl,rfl,rfl,rfl,rfl,rfl,rfl,rfl,rfl,rfl,rfl,rfl,rfl,rfl,rfl,rfl,rfl,rfl,rfl,rfl,rfl,rfl,rfl,rfl,rfl,rfl,rfl,trivial⟩
    ·refine RO.op rfl rfl (Qma Ty.c66 Ty.i66 rfl (vs:=[iI x4.Sum,.ref 4,iI x4.Dep]) rfl rfl rfl rfl (cs':=[iI x4.Sum,.ref 4,iI x4.Dep]) rfl rfl (ra1 1 (RO.op rfl rfl (Qea rfl rfl (Qqa Ty.k46 Ty.c46 rfl (cs:=[iI p3.Key,iI p3.Val,iI p3.Dep]) rfl ?_)))))
     exact raS hS59 ⟨rfl,rfl,rfl,rfl,rfl,rfl,rfl,rfl,rfl,rfl,rfl,rfl,rfl,rfl,rfl,rfl,rfl,rfl,rfl,rfl,rfl,rfl,rfl,rfl,rfl,rfl,rfl,rfl,rfl,rfl,rfl,rfl,rfl,rfl,trivial⟩
  replace h:=ite_F h hb_58
  refine T.skip (T.seq (T.region (sq (Jva (cs:=[iI 0,.nils,iI 0]) Ty.z66 Ty.p66 rfl (sq (Jva (cs:=[iI 0,iI 0,iI 0]) Ty.z46 Ty.p46 rfl (so (Qma Ty.c66 Ty.i66 rfl (vs:=[iI 0,.nils,iI 0]) rfl rfl rfl rfl (cs':=[iI 0,.nils,iI 0]) rfl rfl (so (Qma Ty.c46 Ty.i46 rfl (vs:=[iI 0,iI 0,iI 0]) rfl rfl rfl rfl (cs':=[iI 0,iI 0,iI 0]) rfl rfl (sa (iI 5) rfl (RS.nil (T.rt ?_)))))))))))))
  refine Jfa (id:=2) (off:=0) (cs:=[iI 0,.nils,iI 0]) (v:=.agg [iI 0,.nils,iI 0]) ?_ ?_ ?_ ?_
  · rfl
  · rfl
  · exact fun K h=>(Qqa (row:=[iI 0,.nils,iI 0]) (off:=0) Ty.k66 Ty.c66 rfl (cs:=[iI 0,.nils,iI 0]) rfl h)
  refine Jfa (id:=3) (off:=0) (cs:=[iI 0,iI 0,iI 0]) (v:=.agg [iI 0,iI 0,iI 0]) ?_ ?_ ?_ ?_
  · rfl
  · rfl
  · exact fun K h=>(Qqa (row:=[iI 0,iI 0,iI 0]) (off:=0) Ty.k46 Ty.c46 rfl (cs:=[iI 0,iI 0,iI 0]) rfl h)
  refine Qna (v:=iI 5) rfl (Qra ?_)
  exact Qya (v:=.tup [.agg [iI 0,sL Qja [],iI 0],.agg [iI 0,iI 0,iI 0],iI 5]) rfl (Jna _ (Qka (⟨Qsa _ (Qka (⟨Qfa _ _,Qia Q7a _,Qfa _ _,trivial⟩)),Qsa _ (Qka (⟨Qfa _ _,Qfa _ _,Qfa _ _,trivial⟩)),Qfa _ _,trivial⟩))) ⟨congrArg (fun r:Memory × Item × Int=>(.tup [.agg [iI r.1.Sum,sL Qja r.1.Keys,iI r.1.Dep],.agg [iI r.2.1.Key,iI r.2.1.Val,iI r.2.1.Dep],iI r.2.2]:AV)) (Option.some.inj h),rfl⟩
end Go.Proofs.Ytfbmoockopakjaa
namespace Go.Proofs.Ytfbmoockopakjaa
open Go.RowKit
set_option linter.unusedVariables false
set_option linter.unusedSimpArgs false
set_option maxRecDepth 100000
set_option maxHeartbeats 4000000
theorem move_can_c (p0:Net) (p1:List (List Item)) (p2:State) (p3:Move) (r:Bool) (h:move_can p0 p1 p2 p3=some r):Fn Try.prog 69 [.agg [sL Qha p0.Nodes,iI p0.Rings,iI p0.Room],sL (encL Qaa) p1,.agg [sL encI p2.At,sL (encL Qaa) p2.Rings,sL Qba p2.Memory,sL Qda p2.Choices,sL Qaa p2.Out],.agg [iI p3.Node,iI p3.Lane]] (.bool r):=by
  unfold move_can at h
  refine Jka (N:=0) rfl Try.func69 rfl (by kernel_rfl) Try.ntmps69 rfl ?_
  show T _ _ _ _ (mkA 76 [(0,.agg [sL Qha p0.Nodes,iI p0.Rings,iI p0.Room]),(1,sL (encL Qaa) p1),(2,.agg [sL encI p2.At,sL (encL Qaa) p2.Rings,sL Qba p2.Memory,sL Qda p2.Choices,sL Qaa p2.Out]),(3,.agg [iI p3.Node,iI p3.Lane])]) []
  refine T.seq (T.region (so (o_box (cs:=[sL Qha p0.Nodes,iI p0.Rings,iI p0.Room]) rfl rfl rfl (so (o_box (cs:=[sL encI p2.At,sL (encL Qaa) p2.Rings,sL Qba p2.Memory,sL Qda p2.Choices,sL Qaa p2.Out]) rfl rfl rfl (so (o_box (cs:=[iI p3.Node,iI p3.Lane]) rfl rfl rfl (sa (.bool false) rfl (RS.nil (T.seq ?_))))))))))
  obtain ⟨x2,hx2,h⟩:=bind_some h
  refine T.region (sq (Qca Ty.f24_0 rfl (off':=0) rfl (so (Qea rfl rfl (Qga Ty.k22 (c:=sL Qha p0.Nodes) rfl (sq (Qca Ty.f57_0 rfl (off':=0) rfl (so (Qea rfl rfl (Qga Ty.k3 (c:=iI p3.Node) rfl (sq (Q0a Ty.s22 (fun _=>rfl) rfl rfl hx2 (so (Q8a rfl (Qqa Ty.k40 Ty.c40 rfl (cs:=[iI x2.Kind,iI x2.A,sL encI x2.In,sL encI x2.Out]) rfl (so (Jxa Ty.z40 rfl rfl (so (Qma Ty.c40 Ty.i40 rfl (vs:=[iI x2.Kind,iI x2.A,sL encI x2.In,sL encI x2.Out]) rfl rfl rfl rfl (cs':=[iI x2.Kind,iI x2.A,sL encI x2.In,sL encI x2.Out]) rfl rfl (RS.nil ?_))))))))))))))))))))
  refine T.seq ?_
  obtain ⟨x4,hx4,h⟩:=bind_some h
  refine T.region (so (Qea rfl rfl (Qqa Ty.k24 Ty.c24 rfl (cs:=[sL Qha p0.Nodes,iI p0.Rings,iI p0.Room]) rfl (sm (sL (encL Qaa) p1) rfl (so (Qea rfl rfl (Qqa Ty.k31 Ty.c31 rfl (cs:=[sL encI p2.At,sL (encL Qaa) p2.Rings,sL Qba p2.Memory,sL Qda p2.Choices,sL Qaa p2.Out]) rfl (so (Qea rfl rfl (Qqa Ty.k57 Ty.c57 rfl (cs:=[iI p3.Node,iI p3.Lane]) rfl (so (Jia (as0:=[.agg [sL Qha p0.Nodes,iI p0.Rings,iI p0.Room],sL (encL Qaa) p1,.agg [sL encI p2.At,sL (encL Qaa) p2.Rings,sL Qba p2.Memory,sL Qda p2.Choices,sL Qaa p2.Out],.agg [iI p3.Node,iI p3.Lane]]) (as1:=[.agg [sL Qha p0.Nodes,iI p0.Rings,iI p0.Room],sL (encL Qaa) p1,.agg [sL encI p2.At,sL (encL Qaa) p2.Rings,sL Qba p2.Memory,sL Qda p2.Choices,sL Qaa p2.Out],.agg [iI p3.Node,iI p3.Lane]]) (caps:=[]) (aw1:=[.box [sL Qha p0.Nodes,iI p0.Rings,iI p0.Room],.box [sL encI p2.At,sL (encL Qaa) p2.Rings,sL Qba p2.Memory,sL Qda p2.Choices,sL Qaa p2.Out],.box [iI p3.Node,iI p3.Lane],.box [iI x2.Kind,iI x2.A,sL encI x2.In,sL encI x2.Out]]) rfl rfl rfl (Zja (v:=.tup [.agg [iI x4.1.Key,iI x4.1.Val,iI x4.1.Dep],.bool x4.2]) (move_head_c p0 p1 p2 p3 x4 hx4) (⟨Qsa _ (Qka (⟨Qia J0a _,Qfa _ _,Qfa _ _,trivial⟩)),Qia (Jsa Qoa) _,Qsa _ (Qka (⟨Qia Jua _,Qia (Jsa Qoa) _,Qia Q1a _,Qia Q4a _,Qia Qoa _,trivial⟩)),Qsa _ (Qka (⟨Qfa _ _,Qfa _ _,trivial⟩)),trivial⟩) rfl (sm (.tup [.agg [iI x4.1.Key,iI x4.1.Val,iI x4.1.Dep],.bool x4.2]) rfl (sq (Qwa (v:=.agg [iI x4.1.Key,iI x4.1.Val,iI x4.1.Dep]) rfl rfl (sq (Qwa (v:=.bool x4.2) rfl rfl (so (Jxa Ty.z46 rfl rfl ?_))))))))))))))))))))
  refine so (Qma Ty.c46 Ty.i46 rfl (vs:=[iI x4.1.Key,iI x4.1.Val,iI x4.1.Dep]) rfl rfl rfl rfl (cs':=[iI x4.1.Key,iI x4.1.Val,iI x4.1.Dep]) rfl rfl (sa (.bool x4.2) rfl (RS.nil (T.seq ?_))))
  obtain ⟨zt_2,hz,h⟩:=bind_some h
  revert hz h;revert zt_2;intro c7 hz h
  refine T.join (Z:=Unit) (fun _=>mkA 76 [(6,.ptr 0 0),(7,.ptr 1 0),(9,.ptr 2 0),(10,.ptr 3 0),(37,.bool c7)]) (fun _=>[.box [sL encI p2.At,sL (encL Qaa) p2.Rings,sL Qba p2.Memory,sL Qda p2.Choices,sL Qaa p2.Out],.box [iI p3.Node,iI p3.Lane],.box [iI x2.Kind,iI x2.A,sL encI x2.In,sL encI x2.Out],.box [iI x4.1.Key,iI x4.1.Val,iI x4.1.Dep]]) (fun _=>True) (fun _ _=>?_) (fun hK=>?_)
  ·refine T.cond (b:=c7) rfl (fun hb_3=>?_) (fun hb_3=>?_)
   ·replace h:=ite_T h hb_3
    refine T.seq (T.region (sa (.bool false) rfl (RS.nil (T.rt (Qna (v:=.bool false) rfl (Qra ?_))))))
    exact Qya (v:=.bool false) rfl (Jba _) ⟨congrArg (fun r:Bool=>(.bool r:AV)) (Option.some.inj h),rfl⟩
   replace h:=ite_F h hb_3
   refine T.skip (T.seq (T.join (Z:=Unit) (fun _=>mkA 76 [(6,.ptr 0 0),(7,.ptr 1 0),(9,.ptr 2 0),(10,.ptr 3 0),(57,.bool (if (x2.Kind==6)=true then ((((p2.Choices).length:Int)==500) || ((x2.Kind==8) && ((p2.Out).length:Int)==2000)) else ((x2.Kind==8) && ((p2.Out).length:Int)==2000)))]) (fun _=>[.box [sL encI p2.At,sL (encL Qaa) p2.Rings,sL Qba p2.Memory,sL Qda p2.Choices,sL Qaa p2.Out],.box [iI p3.Node,iI p3.Lane],.box [iI x2.Kind,iI x2.A,sL encI x2.In,sL encI x2.Out],.box [iI x4.1.Key,iI x4.1.Val,iI x4.1.Dep]]) (fun _=>True) (fun _ _=>?_) (fun hK=>?_)))
   ·refine T.cond (b:=(if (x2.Kind==6)=true then ((((p2.Choices).length:Int)==500) || ((x2.Kind==8) && ((p2.Out).length:Int)==2000)) else ((x2.Kind==8) && ((p2.Out).length:Int)==2000))) rfl (fun hb_8=>?_) (fun hb_8=>?_)
    ·replace h:=ite_T h hb_8
     refine T.seq (T.region (sa (.bool false) rfl (RS.nil (T.rt (Qna (v:=.bool false) rfl (Qra ?_))))))
     exact Qya (v:=.bool false) rfl (Jba _) ⟨congrArg (fun r:Bool=>(.bool r:AV)) (Option.some.inj h),rfl⟩
    replace h:=ite_F h hb_8
    refine T.skip (T.seq ?_)
    obtain ⟨x11,hx11,h⟩:=bind_some h
    obtain ⟨x12,hx12,h⟩:=bind_some h
    refine T.drawn mixed (k:=21) rfl ?_
    let l13:List (Nat × AV):=[(6,.ptr 0 0),(7,.ptr 1 0),(9,.ptr 2 0),(10,.ptr 3 0),(57,.bool (if (x2.Kind==6)=true then ((((p2.Choices).length:Int)==500) || ((x2.Kind==8) && ((p2.Out).length:Int)==2000)) else ((x2.Kind==8) && ((p2.Out).length:Int)==2000)))]
    refine RA.join 3 #[true,true,true,true,true,true,true,true,true,true,true,true,true,true,true,true,true,true,false,false,false] (mkA 76 ((12,.ptr 5 0)::(13,.ptr 4 0)::(58,.tup [.agg [iI x12.1.Sum,sL Qja x12.1.Keys,iI x12.1.Dep],.agg [iI x12.2.1.Key,iI x12.2.1.Val,iI x12.2.1.Dep],iI x12.2.2])::(59,.ptr 2 0)::(60,iI x2.Kind)::(61,.ptr 2 1)::(62,iI x2.A)::(63,.ptr 0 2)::(64,sL Qba p2.Memory)::(65,.ptr 1 0)::(66,iI p3.Node)::(67,.elt (Qba x11) 0)::(68,.agg [iI x11.Sum,sL Qja x11.Keys,iI x11.Dep])::(69,.agg [iI x4.1.Key,iI x4.1.Val,iI x4.1.Dep])::(70,.tup [.agg [iI x12.1.Sum,sL Qja x12.1.Keys,iI x12.1.Dep],.agg [iI x12.2.1.Key,iI x12.2.1.Val,iI x12.2.1.Dep],iI x12.2.2])::(71,.agg [iI x12.1.Sum,sL Qja x12.1.Keys,iI x12.1.Dep])::(72,.agg [iI x12.2.1.Key,iI x12.2.1.Val,iI x12.2.1.Dep])::(73,iI x12.2.2)::l13)) [.box [sL encI p2.At,sL (encL Qaa) p2.Rings,sL Qba p2.Memory,sL Qda p2.Choices,sL Qaa p2.Out],.box [iI p3.Node,iI p3.Lane],.box [iI x2.Kind,iI x2.A,sL encI x2.In,sL encI x2.Out],.box [iI x4.1.Key,iI x4.1.Val,iI x4.1.Dep],.box [iI 0,iI 0,iI 0],.box [iI 0,.nils,iI 0]] ?_ (fun hS9=>?_)
    ·refine ra1 18 (RO.op rfl rfl (Qma Ty.c66 Ty.i66 rfl (vs:=[iI x12.1.Sum,sL Qja x12.1.Keys,iI x12.1.Dep]) rfl rfl rfl rfl (cs':=[iI x12.1.Sum,sL Qja x12.1.Keys,iI x12.1.Dep]) rfl rfl (ra1 19 (RO.op rfl rfl (Qma Ty.c46 Ty.i46 rfl (vs:=[iI x12.2.1.Key,iI x12.2.1.Val,iI x12.2.1.Dep]) rfl rfl rfl rfl (cs':=[iI x12.2.1.Key,iI x12.2.1.Val,iI x12.2.1.Dep]) rfl rfl (rt0 20 rfl (Jta (v:=iI x12.2.2) rfl (RA.done (by decide +kernel) (T.seq (T.region (sm (iI x12.2.2) rfl (sq (v_eql rfl rfl ?_)))))))))))))
     refine sa (.bool (x12.2.2==0)) rfl (RS.nil (T.rt (Qna (v:=.bool (x12.2.2==0)) rfl (Qra ?_))))
     exact Qya (v:=.bool (x12.2.2==0)) rfl (Jba _) ⟨congrArg (fun r:Bool=>(.bool r:AV)) (Option.some.inj h),rfl⟩
    ·refine RA.join 4 #[true,true,true,true,true,true,true,true,true,true,true,true,true,true,true,true,false,true,false,false,false] (mkA 76 ((13,.ptr 4 0)::(58,.tup [.agg [iI x12.1.Sum,sL Qja x12.1.Keys,iI x12.1.Dep],.agg [iI x12.2.1.Key,iI x12.2.1.Val,iI x12.2.1.Dep],iI x12.2.2])::(59,.ptr 2 0)::(60,iI x2.Kind)::(61,.ptr 2 1)::(62,iI x2.A)::(63,.ptr 0 2)::(64,sL Qba p2.Memory)::(65,.ptr 1 0)::(66,iI p3.Node)::(67,.elt (Qba x11) 0)::(68,.agg [iI x11.Sum,sL Qja x11.Keys,iI x11.Dep])::(69,.agg [iI x4.1.Key,iI x4.1.Val,iI x4.1.Dep])::(70,.tup [.agg [iI x12.1.Sum,sL Qja x12.1.Keys,iI x12.1.Dep],.agg [iI x12.2.1.Key,iI x12.2.1.Val,iI x12.2.1.Dep],iI x12.2.2])::(71,.agg [iI x12.1.Sum,sL Qja x12.1.Keys,iI x12.1.Dep])::(72,.agg [iI x12.2.1.Key,iI x12.2.1.Val,iI x12.2.1.Dep])::(73,iI x12.2.2)::l13)) [.box [sL encI p2.At,sL (encL Qaa) p2.Rings,sL Qba p2.Memory,sL Qda p2.Choices,sL Qaa p2.Out],.box [iI p3.Node,iI p3.Lane],.box [iI x2.Kind,iI x2.A,sL encI x2.In,sL encI x2.Out],.box [iI x4.1.Key,iI x4.1.Val,iI x4.1.Dep],.box [iI 0,iI 0,iI 0]] ?_ (fun hS10=>?_)
     ·refine ra1 16 (RO.op rfl rfl (Jxa Ty.z66 rfl (aw':=[.box [sL encI p2.At,sL (encL Qaa) p2.Rings,sL Qba p2.Memory,sL Qda p2.Choices,sL Qaa p2.Out],.box [iI p3.Node,iI p3.Lane],.box [iI x2.Kind,iI x2.A,sL encI x2.In,sL encI x2.Out],.box [iI x4.1.Key,iI x4.1.Val,iI x4.1.Dep],.box [iI 0,iI 0,iI 0],.box [iI 0,.nils,iI 0]]) rfl ?_))
      exact raS hS9 ⟨rfl,rfl,rfl,rfl,rfl,rfl,rfl,rfl,rfl,rfl,rfl,rfl,rfl,rfl,rfl,rfl,rfl,rfl,rfl,rfl,rfl,rfl,rfl,trivial⟩
     ·refine RA.join 4 #[true,true,true,true,true,true,true,true,true,true,true,true,true,true,true,true,true,false,false,false,false] (mkA 76 ((12,.ptr 4 0)::(58,.tup [.agg [iI x12.1.Sum,sL Qja x12.1.Keys,iI x12.1.Dep],.agg [iI x12.2.1.Key,iI x12.2.1.Val,iI x12.2.1.Dep],iI x12.2.2])::(59,.ptr 2 0)::(60,iI x2.Kind)::(61,.ptr 2 1)::(62,iI x2.A)::(63,.ptr 0 2)::(64,sL Qba p2.Memory)::(65,.ptr 1 0)::(66,iI p3.Node)::(67,.elt (Qba x11) 0)::(68,.agg [iI x11.Sum,sL Qja x11.Keys,iI x11.Dep])::(69,.agg [iI x4.1.Key,iI x4.1.Val,iI x4.1.Dep])::(70,.tup [.agg [iI x12.1.Sum,sL Qja x12.1.Keys,iI x12.1.Dep],.agg [iI x12.2.1.Key,iI x12.2.1.Val,iI x12.2.1.Dep],iI x12.2.2])::(71,.agg [iI x12.1.Sum,sL Qja x12.1.Keys,iI x12.1.Dep])::(72,.agg [iI x12.2.1.Key,iI x12.2.1.Val,iI x12.2.1.Dep])::(73,iI x12.2.2)::l13)) [.box [sL encI p2.At,sL (encL Qaa) p2.Rings,sL Qba p2.Memory,sL Qda p2.Choices,sL Qaa p2.Out],.box [iI p3.Node,iI p3.Lane],.box [iI x2.Kind,iI x2.A,sL encI x2.In,sL encI x2.Out],.box [iI x4.1.Key,iI x4.1.Val,iI x4.1.Dep],.box [iI 0,.nils,iI 0]] ?_ (fun hS11=>?_)
      ·refine ra1 17 (RO.op rfl rfl (Jxa Ty.z46 rfl (aw':=[.box [sL encI p2.At,sL (encL Qaa) p2.Rings,sL Qba p2.Memory,sL Qda p2.Choices,sL Qaa p2.Out],.box [iI p3.Node,iI p3.Lane],.box [iI x2.Kind,iI x2.A,sL encI x2.In,sL encI x2.Out],.box [iI x4.1.Key,iI x4.1.Val,iI x4.1.Dep],.box [iI 0,.nils,iI 0],.box [iI 0,iI 0,iI 0]]) rfl ?_))
       exact raW hS9 (Weak.mkN [] [0,1,2,3,5,4] (by decide) (Qpa _) rfl ⟨Qua rfl,Qua rfl,Vma ⟨J6a ⟨Qla rfl,rn_s rfl,Qla rfl,trivial⟩,J6a ⟨Qla rfl,Qla rfl,Qla rfl,trivial⟩,Qla rfl,trivial⟩,Qua rfl,Qla rfl,Qua rfl,Qla rfl,Qua rfl,rn_s rfl,Qua rfl,Qla rfl,rn_elt (Q1a _) (congrArg Qba rfl),J6a ⟨Qla rfl,rn_s rfl,Qla rfl,trivial⟩,J6a ⟨Qla rfl,Qla rfl,Qla rfl,trivial⟩,Vma ⟨J6a ⟨Qla rfl,rn_s rfl,Qla rfl,trivial⟩,J6a ⟨Qla rfl,Qla rfl,Qla rfl,trivial⟩,Qla rfl,trivial⟩,J6a ⟨Qla rfl,rn_s rfl,Qla rfl,trivial⟩,J6a ⟨Qla rfl,Qla rfl,Qla rfl,trivial⟩,Qla rfl,Qua rfl,Qua rfl,Qua rfl,Qua rfl,Jwa rfl,trivial⟩ (rw_bs [sL encI p2.At,sL (encL Qaa) p2.Rings,sL Qba p2.Memory,sL Qda p2.Choices,sL Qaa p2.Out] rfl (rw_bs [iI p3.Node,iI p3.Lane] rfl (rw_bs [iI x2.Kind,iI x2.A,sL encI x2.In,sL encI x2.Out] rfl (rw_bs [iI x4.1.Key,iI x4.1.Val,iI x4.1.Dep] rfl (rw_bs [iI 0,iI 0,iI 0] rfl (rw_bs [iI 0,.nils,iI 0] rfl (Qva))))))))
      ·refine RA.join 8 #[true,true,true,true,true,true,true,true,true,true,true,false,false,false,false,false,true,true,false,false,false] (mkA 76 ((12,.ptr 5 0)::(13,.ptr 4 0)::(59,.ptr 2 0)::(60,iI x2.Kind)::(61,.ptr 2 1)::(62,iI x2.A)::(63,.ptr 0 2)::(64,sL Qba p2.Memory)::(65,.ptr 1 0)::(66,iI p3.Node)::(67,.elt (Qba x11) 0)::(68,.agg [iI x11.Sum,sL Qja x11.Keys,iI x11.Dep])::(69,.agg [iI x4.1.Key,iI x4.1.Val,iI x4.1.Dep])::l13)) [.box [sL encI p2.At,sL (encL Qaa) p2.Rings,sL Qba p2.Memory,sL Qda p2.Choices,sL Qaa p2.Out],.box [iI p3.Node,iI p3.Lane],.box [iI x2.Kind,iI x2.A,sL encI x2.In,sL encI x2.Out],.box [iI x4.1.Key,iI x4.1.Val,iI x4.1.Dep],.box [iI 0,iI 0,iI 0],.box [iI 0,.nils,iI 0]] ?_ (fun hS12=>?_)
       ·refine ra1 11 (RO.op rfl rfl (Jia (as0:=[iI x2.Kind,iI x2.A,.agg [iI x11.Sum,sL Qja x11.Keys,iI x11.Dep],.agg [iI x4.1.Key,iI x4.1.Val,iI x4.1.Dep]]) (as1:=[iI x2.Kind,iI x2.A,.agg [iI x11.Sum,sL Qja x11.Keys,iI x11.Dep],.agg [iI x4.1.Key,iI x4.1.Val,iI x4.1.Dep]]) (caps:=[]) (aw1:=[.box [sL encI p2.At,sL (encL Qaa) p2.Rings,sL Qba p2.Memory,sL Qda p2.Choices,sL Qaa p2.Out],.box [iI p3.Node,iI p3.Lane],.box [iI x2.Kind,iI x2.A,sL encI x2.In,sL encI x2.Out],.box [iI x4.1.Key,iI x4.1.Val,iI x4.1.Dep],.box [iI 0,iI 0,iI 0],.box [iI 0,.nils,iI 0]]) rfl rfl rfl (k_fn (v:=.tup [.agg [iI x12.1.Sum,sL Qja x12.1.Keys,iI x12.1.Dep],.agg [iI x12.2.1.Key,iI x12.2.1.Val,iI x12.2.1.Dep],iI x12.2.2]) (Yia x2.Kind x2.A x11 x4.1 x12 hx12) (⟨Qfa _ _,Qfa _ _,Qsa _ (Qka (⟨Qfa _ _,Qia Q7a _,Qfa _ _,trivial⟩)),Qsa _ (Qka (⟨Qfa _ _,Qfa _ _,Qfa _ _,trivial⟩)),trivial⟩) (Jna _ (Qka (⟨Qsa _ (Qka (⟨Qfa _ _,Qia Q7a _,Qfa _ _,trivial⟩)),Qsa _ (Qka (⟨Qfa _ _,Qfa _ _,Qfa _ _,trivial⟩)),Qfa _ _,trivial⟩))) (rt0 12 rfl (Qza (v:=.tup [.agg [iI x12.1.Sum,sL Qja x12.1.Keys,iI x12.1.Dep],.agg [iI x12.2.1.Key,iI x12.2.1.Val,iI x12.2.1.Dep],iI x12.2.2]) rfl (rt0 13 rfl (Qwa (v:=.agg [iI x12.1.Sum,sL Qja x12.1.Keys,iI x12.1.Dep]) rfl rfl (rt0 14 rfl (Qwa (v:=.agg [iI x12.2.1.Key,iI x12.2.1.Val,iI x12.2.1.Dep]) rfl rfl (rt0 15 rfl (Qwa (v:=iI x12.2.2) rfl rfl ?_)))))))))))
        exact raS hS9 ⟨rfl,rfl,rfl,rfl,rfl,rfl,rfl,rfl,rfl,rfl,rfl,rfl,rfl,rfl,rfl,rfl,rfl,rfl,rfl,rfl,rfl,rfl,rfl,trivial⟩
       ·refine rt0 0 rfl (Qca Ty.f40_0 rfl (off':=0) rfl (rt0 2 rfl (Qca Ty.f40_1 rfl (off':=1) rfl (rt0 4 rfl (Qca Ty.f31_2 rfl (off':=2) rfl (rt0 6 rfl (Qca Ty.f57_0 rfl (off':=0) rfl (rl0 [1,11,12,13,14,15,18,19,20] 1 rfl (Qxa rfl rfl (Qga Ty.k3 (c:=iI x2.Kind) rfl (rl0 [3,11,12,13,14,15,18,19,20] 3 rfl (Qxa rfl rfl (Qga Ty.k3 (c:=iI x2.A) rfl (rl0 [5,8,9,11,12,13,14,15,18,19,20] 5 rfl (Qxa rfl rfl (Qga Ty.k27 (c:=sL Qba p2.Memory) rfl (rl0 [7,8,9,11,12,13,14,15,18,19,20] 7 rfl (Qxa rfl rfl (Qga Ty.k3 (c:=iI p3.Node) rfl (rt0 8 rfl (Q0a Ty.s27 (fun _=>rfl) rfl rfl hx11 (rl0 [9,11,12,13,14,15,18,19,20] 9 rfl (Y8a rfl (Qqa Ty.k66 Ty.c66 rfl (cs:=[iI x11.Sum,sL Qja x11.Keys,iI x11.Dep]) rfl ?_))))))))))))))))))))))))
        refine rl0 [10,11,12,13,14,15,18,19,20] 10 rfl (Qxa rfl rfl (Qqa Ty.k46 Ty.c46 rfl (cs:=[iI x4.1.Key,iI x4.1.Val,iI x4.1.Dep]) rfl (ra3 11 16 17 ?_ ?_ ?_)))
        ·refine RO.op rfl rfl (Jia (as0:=[iI x2.Kind,iI x2.A,.agg [iI x11.Sum,sL Qja x11.Keys,iI x11.Dep],.agg [iI x4.1.Key,iI x4.1.Val,iI x4.1.Dep]]) (as1:=[iI x2.Kind,iI x2.A,.agg [iI x11.Sum,sL Qja x11.Keys,iI x11.Dep],.agg [iI x4.1.Key,iI x4.1.Val,iI x4.1.Dep]]) (caps:=[]) (aw1:=[.box [sL encI p2.At,sL (encL Qaa) p2.Rings,sL Qba p2.Memory,sL Qda p2.Choices,sL Qaa p2.Out],.box [iI p3.Node,iI p3.Lane],.box [iI x2.Kind,iI x2.A,sL encI x2.In,sL encI x2.Out],.box [iI x4.1.Key,iI x4.1.Val,iI x4.1.Dep]]) rfl rfl rfl (k_fn (v:=.tup [.agg [iI x12.1.Sum,sL Qja x12.1.Keys,iI x12.1.Dep],.agg [iI x12.2.1.Key,iI x12.2.1.Val,iI x12.2.1.Dep],iI x12.2.2]) (Yia x2.Kind x2.A x11 x4.1 x12 hx12) (⟨Qfa _ _,Qfa _ _,Qsa _ (Qka (⟨Qfa _ _,Qia Q7a _,Qfa _ _,trivial⟩)),Qsa _ (Qka (⟨Qfa _ _,Qfa _ _,Qfa _ _,trivial⟩)),trivial⟩) (Jna _ (Qka (⟨Qsa _ (Qka (⟨Qfa _ _,Qia Q7a _,Qfa _ _,trivial⟩)),Qsa _ (Qka (⟨Qfa _ _,Qfa _ _,Qfa _ _,trivial⟩)),Qfa _ _,trivial⟩))) (rt0 12 rfl (Qza (v:=.tup [.agg [iI x12.1.Sum,sL Qja x12.1.Keys,iI x12.1.Dep],.agg [iI x12.2.1.Key,iI x12.2.1.Val,iI x12.2.1.Dep],iI x12.2.2]) rfl (rt0 13 rfl (Qwa (v:=.agg [iI x12.1.Sum,sL Qja x12.1.Keys,iI x12.1.Dep]) rfl rfl (rt0 14 rfl (Qwa (v:=.agg [iI x12.2.1.Key,iI x12.2.1.Val,iI x12.2.1.Dep]) rfl rfl (rt0 15 rfl (Qwa (v:=iI x12.2.2) rfl rfl (ra2 16 17 ?_ ?_)))))))))))
         ·refine RO.op rfl rfl (Jxa Ty.z66 rfl (aw':=[.box [sL encI p2.At,sL (encL Qaa) p2.Rings,sL Qba p2.Memory,sL Qda p2.Choices,sL Qaa p2.Out],.box [iI p3.Node,iI p3.Lane],.box [iI x2.Kind,iI x2.A,sL encI x2.In,sL encI x2.Out],.box [iI x4.1.Key,iI x4.1.Val,iI x4.1.Dep],.box [iI 0,.nils,iI 0]]) rfl ?_)
          exact raS hS11 ⟨rfl,rfl,rfl,rfl,rfl,rfl,rfl,rfl,rfl,rfl,rfl,rfl,rfl,rfl,rfl,rfl,rfl,rfl,rfl,rfl,rfl,rfl,trivial⟩
         ·refine RO.op rfl rfl (Jxa Ty.z46 rfl (aw':=[.box [sL encI p2.At,sL (encL Qaa) p2.Rings,sL Qba p2.Memory,sL Qda p2.Choices,sL Qaa p2.Out],.box [iI p3.Node,iI p3.Lane],.box [iI x2.Kind,iI x2.A,sL encI x2.In,sL encI x2.Out],.box [iI x4.1.Key,iI x4.1.Val,iI x4.1.Dep],.box [iI 0,iI 0,iI 0]]) rfl ?_)
          exact raS hS10 ⟨rfl,rfl,rfl,rfl,rfl,rfl,rfl,rfl,rfl,rfl,rfl,rfl,rfl,rfl,rfl,rfl,rfl,rfl,rfl,rfl,rfl,rfl,trivial⟩
        ·refine RO.op rfl rfl (Jxa Ty.z66 rfl (aw':=[.box [sL encI p2.At,sL (encL Qaa) p2.Rings,sL Qba p2.Memory,sL Qda p2.Choices,sL Qaa p2.Out],.box [iI p3.Node,iI p3.Lane],.box [iI x2.Kind,iI x2.A,sL encI x2.In,sL encI x2.Out],.box [iI x4.1.Key,iI x4.1.Val,iI x4.1.Dep],.box [iI 0,.nils,iI 0]]) rfl (ra2 11 17 ?_ ?_))
         ·refine RO.op rfl rfl (Jia (as0:=[iI x2.Kind,iI x2.A,.agg [iI x11.Sum,sL Qja x11.Keys,iI x11.Dep],.agg [iI x4.1.Key,iI x4.1.Val,iI x4.1.Dep]]) (as1:=[iI x2.Kind,iI x2.A,.agg [iI x11.Sum,sL Qja x11.Keys,iI x11.Dep],.agg [iI x4.1.Key,iI x4.1.Val,iI x4.1.Dep]]) (caps:=[]) (aw1:=[.box [sL encI p2.At,sL (encL Qaa) p2.Rings,sL Qba p2.Memory,sL Qda p2.Choices,sL Qaa p2.Out],.box [iI p3.Node,iI p3.Lane],.box [iI x2.Kind,iI x2.A,sL encI x2.In,sL encI x2.Out],.box [iI x4.1.Key,iI x4.1.Val,iI x4.1.Dep],.box [iI 0,.nils,iI 0]]) rfl rfl rfl (k_fn (v:=.tup [.agg [iI x12.1.Sum,sL Qja x12.1.Keys,iI x12.1.Dep],.agg [iI x12.2.1.Key,iI x12.2.1.Val,iI x12.2.1.Dep],iI x12.2.2]) (Yia x2.Kind x2.A x11 x4.1 x12 hx12) (⟨Qfa _ _,Qfa _ _,Qsa _ (Qka (⟨Qfa _ _,Qia Q7a _,Qfa _ _,trivial⟩)),Qsa _ (Qka (⟨Qfa _ _,Qfa _ _,Qfa _ _,trivial⟩)),trivial⟩) (Jna _ (Qka (⟨Qsa _ (Qka (⟨Qfa _ _,Qia Q7a _,Qfa _ _,trivial⟩)),Qsa _ (Qka (⟨Qfa _ _,Qfa _ _,Qfa _ _,trivial⟩)),Qfa _ _,trivial⟩))) (rt0 12 rfl (Qza (v:=.tup [.agg [iI x12.1.Sum,sL Qja x12.1.Keys,iI x12.1.Dep],.agg [iI x12.2.1.Key,iI x12.2.1.Val,iI x12.2.1.Dep],iI x12.2.2]) rfl (rt0 13 rfl (Qwa (v:=.agg [iI x12.1.Sum,sL Qja x12.1.Keys,iI x12.1.Dep]) rfl rfl (rt0 14 rfl (Qwa (v:=.agg [iI x12.2.1.Key,iI x12.2.1.Val,iI x12.2.1.Dep]) rfl rfl (rt0 15 rfl (Qwa (v:=iI x12.2.2) rfl rfl ?_))))))))))
          exact raS hS11 ⟨rfl,rfl,rfl,rfl,rfl,rfl,rfl,rfl,rfl,rfl,rfl,rfl,rfl,rfl,rfl,rfl,rfl,rfl,rfl,rfl,rfl,rfl,trivial⟩
         ·refine RO.op rfl rfl (Jxa Ty.z46 rfl (aw':=[.box [sL encI p2.At,sL (encL Qaa) p2.Rings,sL Qba p2.Memory,sL Qda p2.Choices,sL Qaa p2.Out],.box [iI p3.Node,iI p3.Lane],.box [iI x2.Kind,iI x2.A,sL encI x2.In,sL encI x2.Out],.box [iI x4.1.Key,iI x4.1.Val,iI x4.1.Dep],.box [iI 0,.nils,iI 0],.box [iI 0,iI 0,iI 0]]) rfl ?_)
          exact raW hS12 (Weak.mkN [] [0,1,2,3,5,4] (by decide) (Qpa _) rfl ⟨Qua rfl,Qua rfl,Qua rfl,Qla rfl,Qua rfl,Qla rfl,Qua rfl,rn_s rfl,Qua rfl,Qla rfl,rn_elt (Q1a _) (congrArg Qba rfl),J6a ⟨Qla rfl,rn_s rfl,Qla rfl,trivial⟩,J6a ⟨Qla rfl,Qla rfl,Qla rfl,trivial⟩,Qua rfl,Qua rfl,Qua rfl,Qua rfl,Jwa rfl,trivial⟩ (rw_bs [sL encI p2.At,sL (encL Qaa) p2.Rings,sL Qba p2.Memory,sL Qda p2.Choices,sL Qaa p2.Out] rfl (rw_bs [iI p3.Node,iI p3.Lane] rfl (rw_bs [iI x2.Kind,iI x2.A,sL encI x2.In,sL encI x2.Out] rfl (rw_bs [iI x4.1.Key,iI x4.1.Val,iI x4.1.Dep] rfl (rw_bs [iI 0,iI 0,iI 0] rfl (rw_bs [iI 0,.nils,iI 0] rfl (Qva))))))))
        ·refine RO.op rfl rfl (Jxa Ty.z46 rfl (aw':=[.box [sL encI p2.At,sL (encL Qaa) p2.Rings,sL Qba p2.Memory,sL Qda p2.Choices,sL Qaa p2.Out],.box [iI p3.Node,iI p3.Lane],.box [iI x2.Kind,iI x2.A,sL encI x2.In,sL encI x2.Out],.box [iI x4.1.Key,iI x4.1.Val,iI x4.1.Dep],.box [iI 0,iI 0,iI 0]]) rfl (ra2 11 16 ?_ ?_))
         ·refine RO.op rfl rfl (Jia (as0:=[iI x2.Kind,iI x2.A,.agg [iI x11.Sum,sL Qja x11.Keys,iI x11.Dep],.agg [iI x4.1.Key,iI x4.1.Val,iI x4.1.Dep]]) (as1:=[iI x2.Kind,iI x2.A,.agg [iI x11.Sum,sL Qja x11.Keys,iI x11.Dep],.agg [iI x4.1.Key,iI x4.1.Val,iI x4.1.Dep]]) (caps:=[]) (aw1:=[.box [sL encI p2.At,sL (encL Qaa) p2.Rings,sL Qba p2.Memory,sL Qda p2.Choices,sL Qaa p2.Out],.box [iI p3.Node,iI p3.Lane],.box [iI x2.Kind,iI x2.A,sL encI x2.In,sL encI x2.Out],.box [iI x4.1.Key,iI x4.1.Val,iI x4.1.Dep],.box [iI 0,iI 0,iI 0]]) rfl rfl rfl (k_fn (v:=.tup [.agg [iI x12.1.Sum,sL Qja x12.1.Keys,iI x12.1.Dep],.agg [iI x12.2.1.Key,iI x12.2.1.Val,iI x12.2.1.Dep],iI x12.2.2]) (Yia x2.Kind x2.A x11 x4.1 x12 hx12) (⟨Qfa _ _,Qfa _ _,Qsa _ (Qka (⟨Qfa _ _,Qia Q7a _,Qfa _ _,trivial⟩)),Qsa _ (Qka (⟨Qfa _ _,Qfa _ _,Qfa _ _,trivial⟩)),trivial⟩) (Jna _ (Qka (⟨Qsa _ (Qka (⟨Qfa _ _,Qia Q7a _,Qfa _ _,trivial⟩)),Qsa _ (Qka (⟨Qfa _ _,Qfa _ _,Qfa _ _,trivial⟩)),Qfa _ _,trivial⟩))) (rt0 12 rfl (Qza (v:=.tup [.agg [iI x12.1.Sum,sL Qja x12.1.Keys,iI x12.1.Dep],.agg [iI x12.2.1.Key,iI x12.2.1.Val,iI x12.2.1.Dep],iI x12.2.2]) rfl (rt0 13 rfl (Qwa (v:=.agg [iI x12.1.Sum,sL Qja x12.1.Keys,iI x12.1.Dep]) rfl rfl (rt0 14 rfl (Qwa (v:=.agg [iI x12.2.1.Key,iI x12.2.1.Val,iI x12.2.1.Dep]) rfl rfl (rt0 15 rfl (Qwa (v:=iI x12.2.2) rfl rfl ?_))))))))))
          exact raS hS10 ⟨rfl,rfl,rfl,rfl,rfl,rfl,rfl,rfl,rfl,rfl,rfl,rfl,rfl,rfl,rfl,rfl,rfl,rfl,rfl,rfl,rfl,rfl,trivial⟩
         ·refine RO.op rfl rfl (Jxa Ty.z66 rfl (aw':=[.box [sL encI p2.At,sL (encL Qaa) p2.Rings,sL Qba p2.Memory,sL Qda p2.Choices,sL Qaa p2.Out],.box [iI p3.Node,iI p3.Lane],.box [iI x2.Kind,iI x2.A,sL encI x2.In,sL encI x2.Out],.box [iI x4.1.Key,iI x4.1.Val,iI x4.1.Dep],.box [iI 0,iI 0,iI 0],.box [iI 0,.nils,iI 0]]) rfl ?_)
          exact raS hS12 ⟨rfl,rfl,rfl,rfl,rfl,rfl,rfl,rfl,rfl,rfl,rfl,rfl,rfl,rfl,rfl,rfl,rfl,rfl,trivial⟩
   refine T.region (sq (Qca Ty.f40_0 rfl (off':=0) rfl (so (Qea rfl rfl (Qga Ty.k3 (c:=iI x2.Kind) rfl (sq (v_eql rfl rfl (sm (.bool (x2.Kind==6)) rfl ?_))))))))
   rcases Q3a (x2.Kind==6) with hb_4 | hb_4
   ·refine yq hb_4 (Qca Ty.f31_3 rfl (off':=3) rfl (yo hb_4 (Qea rfl rfl (Qga Ty.k28 (c:=sL Qda p2.Choices) rfl (yq hb_4 (Q2a Ty.s28 rfl (yq hb_4 (v_eql rfl rfl (sq (Jea (v:=.bool (((p2.Choices).length:Int)==500)) rfl hb_4 rfl (sm (.bool (((p2.Choices).length:Int)==500)) rfl ?_)))))))))))
    rcases Q3a (((p2.Choices).length:Int)==500) with hb_5 | hb_5
    ·refine sn hb_5 (sn hb_5 (sn hb_5 (sn hb_5 (su (su (su (su (sn hb_5 (sq (Jea (v:=.bool true) rfl hb_5 rfl ?_))))))))))
     refine RS.nil ?_
     exact T.sub (hK () trivial) ⟨rfl,rfl,rfl,rfl,(congrArg AV.bool (by simp only [hb_4,hb_5,bz,if_true,if_false,Bool.false_eq_true])).symm,trivial⟩
    refine yq hb_5 (Qca Ty.f40_0 rfl (off':=0) rfl (yo hb_5 (Qea rfl rfl (Qga Ty.k3 (c:=iI x2.Kind) rfl (yq hb_5 (v_eql rfl rfl (yq hb_5 (Qza (v:=.bool (x2.Kind==8)) rfl ?_))))))))
    rcases Q3a (x2.Kind==8) with hb_6 | hb_6
    ·refine yq hb_6 (Qca Ty.f31_4 rfl (off':=4) rfl (yo hb_6 (Qea rfl rfl (Qga Ty.k29 (c:=sL Qaa p2.Out) rfl (yq hb_6 (Q2a Ty.s29 rfl (yq hb_6 (v_eql rfl rfl (yq hb_5 (Jea (v:=.bool (((p2.Out).length:Int)==2000)) rfl hb_6 rfl (sq (Q5a (v:=.bool (((p2.Out).length:Int)==2000)) rfl hb_5 rfl (RS.nil ?_)))))))))))))
     exact T.sub (hK () trivial) ⟨rfl,rfl,rfl,rfl,(congrArg AV.bool (by simp only [hb_4,hb_5,hb_6,bz,if_true,if_false,Bool.false_eq_true])).symm,trivial⟩
    refine sn hb_6 (sn hb_6 (sn hb_6 (sn hb_6 (yq hb_5 (Q5a (v:=.bool false) rfl hb_6 rfl (sq (Q5a (v:=.bool false) rfl hb_5 rfl (RS.nil ?_))))))))
    exact T.sub (hK () trivial) ⟨rfl,rfl,rfl,rfl,(congrArg AV.bool (by simp only [hb_4,hb_5,hb_6,bz,if_true,if_false,Bool.false_eq_true])).symm,trivial⟩
   refine sn hb_4 (sn hb_4 (sn hb_4 (sn hb_4 (sq (Q5a (v:=.bool false) rfl hb_4 rfl (sm (.bool false) rfl (yq rfl (Qca Ty.f40_0 rfl (off':=0) rfl (yo rfl (Qea rfl rfl (Qga Ty.k3 (c:=iI x2.Kind) rfl (yq rfl (v_eql rfl rfl (yq rfl (Qza (v:=.bool (x2.Kind==8)) rfl ?_)))))))))))))))
   rcases Q3a (x2.Kind==8) with hb_7 | hb_7
   ·refine yq hb_7 (Qca Ty.f31_4 rfl (off':=4) rfl (yo hb_7 (Qea rfl rfl (Qga Ty.k29 (c:=sL Qaa p2.Out) rfl (yq hb_7 (Q2a Ty.s29 rfl (yq hb_7 (v_eql rfl rfl (yq rfl (Jea (v:=.bool (((p2.Out).length:Int)==2000)) rfl hb_7 rfl (sq (Q5a (v:=.bool (((p2.Out).length:Int)==2000)) rfl rfl rfl (RS.nil ?_)))))))))))))
    exact T.sub (hK () trivial) ⟨rfl,rfl,rfl,rfl,(congrArg AV.bool (by simp only [hb_4,hb_7,bz,if_true,if_false,Bool.false_eq_true])).symm,trivial⟩
   refine sn hb_7 (sn hb_7 (sn hb_7 (sn hb_7 (yq rfl (Q5a (v:=.bool false) rfl hb_7 rfl (sq (Q5a (v:=.bool false) rfl rfl rfl (RS.nil ?_))))))))
   exact T.sub (hK () trivial) ⟨rfl,rfl,rfl,rfl,(congrArg AV.bool (by simp only [hb_4,hb_7,bz,if_true,if_false,Bool.false_eq_true])).symm,trivial⟩
  refine T.region (sm (.bool x4.2) rfl (sq (v_not rfl (sm (.bool (!x4.2)) rfl ?_))))
  rcases Q3a (!x4.2) with hb_1 | hb_1
  ·replace hz:=ite_T hz hb_1
   refine sn hb_1 (sn hb_1 (sn hb_1 (sn hb_1 (sn hb_1 (sq (Jea (v:=.bool true) rfl hb_1 rfl (RS.nil ?_)))))))
   exact T.weakR (hK () trivial) (Weak.mkN [] [1,2,3,4] (by decide) (Qpa _) rfl ⟨Qua rfl,Qua rfl,Qua rfl,Qua rfl,Jwa ((congrArg (fun p=>p) (Option.some.inj hz)).symm),trivial⟩ (rw_bs [sL encI p2.At,sL (encL Qaa) p2.Rings,sL Qba p2.Memory,sL Qda p2.Choices,sL Qaa p2.Out] rfl (rw_bs [iI p3.Node,iI p3.Lane] rfl (rw_bs [iI x2.Kind,iI x2.A,sL encI x2.In,sL encI x2.Out] rfl (rw_bs [iI x4.1.Key,iI x4.1.Val,iI x4.1.Dep] rfl (Qva))))))
  replace hz:=ite_F hz hb_1
  obtain ⟨x5,hx5,hz⟩:=bind_some hz
  obtain ⟨x6,hx6,hz⟩:=bind_some hz
  refine yo hb_1 (Qea rfl rfl (Qqa Ty.k40 Ty.c40 rfl (cs:=[iI x2.Kind,iI x2.A,sL encI x2.In,sL encI x2.Out]) rfl (yo hb_1 (Qea rfl rfl (Qqa Ty.k46 Ty.c46 rfl (cs:=[iI x4.1.Key,iI x4.1.Val,iI x4.1.Dep]) rfl (yo hb_1 (Jia (as0:=[.agg [iI x2.Kind,iI x2.A,sL encI x2.In,sL encI x2.Out],.agg [iI x4.1.Key,iI x4.1.Val,iI x4.1.Dep]]) (as1:=[.agg [iI x2.Kind,iI x2.A,sL encI x2.In,sL encI x2.Out],.agg [iI x4.1.Key,iI x4.1.Val,iI x4.1.Dep]]) (caps:=[]) (aw1:=[.box [sL Qha p0.Nodes,iI p0.Rings,iI p0.Room],.box [sL encI p2.At,sL (encL Qaa) p2.Rings,sL Qba p2.Memory,sL Qda p2.Choices,sL Qaa p2.Out],.box [iI p3.Node,iI p3.Lane],.box [iI x2.Kind,iI x2.A,sL encI x2.In,sL encI x2.Out],.box [iI x4.1.Key,iI x4.1.Val,iI x4.1.Dep]]) rfl rfl rfl (k_fn (v:=sL encI x5) (move_outs_c x2 x4.1 x5 hx5) (⟨Qsa _ (Qka (⟨Qfa _ _,Qfa _ _,Qia Jua _,Qia Jua _,trivial⟩)),Qsa _ (Qka (⟨Qfa _ _,Qfa _ _,Qfa _ _,trivial⟩)),trivial⟩) (Qia Jua _) (yq hb_1 (v_makeFunc (cs:=[.ptr 1 0,.ptr 0 0]) rfl (yo hb_1 (Vva (ac:=[sL encI x5,.func 96 [.ptr 1 0,.ptr 0 0]]) (as0:=[sL encI x5,.func 96 [.ptr 0 0,.ptr 1 0]]) (aw0:=[.box [sL encI p2.At,sL (encL Qaa) p2.Rings,sL Qba p2.Memory,sL Qda p2.Choices,sL Qaa p2.Out],.box [sL Qha p0.Nodes,iI p0.Rings,iI p0.Room]]) (aw1:=[.box [sL encI p2.At,sL (encL Qaa) p2.Rings,sL Qba p2.Memory,sL Qda p2.Choices,sL Qaa p2.Out],.box [sL Qha p0.Nodes,iI p0.Rings,iI p0.Room]]) (aw2:=[.box [sL Qha p0.Nodes,iI p0.Rings,iI p0.Room],.box [sL encI p2.At,sL (encL Qaa) p2.Rings,sL Qba p2.Memory,sL Qda p2.Choices,sL Qaa p2.Out],.box [iI p3.Node,iI p3.Lane],.box [iI x2.Kind,iI x2.A,sL encI x2.In,sL encI x2.Out],.box [iI x4.1.Key,iI x4.1.Val,iI x4.1.Dep]]) (v:=.bool x6) (v':=.bool x6) (n0:=5) (n1:=2) [1,0] rfl rfl rfl rfl (by decide) (Joa (cs:=[sL encI p2.At,sL (encL Qaa) p2.Rings,sL Qba p2.Memory,sL Qda p2.Choices,sL Qaa p2.Out]) (ds:=[sL encI p2.At,sL (encL Qaa) p2.Rings,sL Qba p2.Memory,sL Qda p2.Choices,sL Qaa p2.Out]) rfl ⟨rn_s rfl,rn_s rfl,rn_s rfl,rn_s rfl,rn_s rfl,trivial⟩ (Joa (cs:=[sL Qha p0.Nodes,iI p0.Rings,iI p0.Room]) (ds:=[sL Qha p0.Nodes,iI p0.Rings,iI p0.Room]) rfl ⟨rn_s rfl,Qla rfl,Qla rfl,trivial⟩ (Qva))) ⟨rn_s rfl,Zta ⟨Qua rfl,Qua rfl,trivial⟩,trivial⟩ (slices_ContainsFunc_int_x9c8e_c x5 p2.At p2.Rings p2.Memory p2.Choices p2.Out p0.Nodes p0.Rings p0.Room x6 hx6) rfl (Jla (Jba _)) ⟨.inl ⟨1,_,by decide,rfl,V0a (cs:=[sL Qha p0.Nodes,iI p0.Rings,iI p0.Room]) (ds:=[sL Qha p0.Nodes,iI p0.Rings,iI p0.Room]) ⟨Jla (Qia J0a _),Jla (Qfa _ _),Jla (Qfa _ _),trivial⟩⟩,.inl ⟨0,_,by decide,rfl,V0a (cs:=[sL encI p2.At,sL (encL Qaa) p2.Rings,sL Qba p2.Memory,sL Qda p2.Choices,sL Qaa p2.Out]) (ds:=[sL encI p2.At,sL (encL Qaa) p2.Rings,sL Qba p2.Memory,sL Qda p2.Choices,sL Qaa p2.Out]) ⟨Jla (Qia Jua _),Jla (Qia (Jsa Qoa) _),Jla (Qia Q1a _),Jla (Qia Q4a _),Jla (Qia Qoa _),trivial⟩⟩,.inr ⟨rfl,rfl⟩,.inr ⟨rfl,rfl⟩,.inr ⟨rfl,rfl⟩,trivial⟩ (sq (Q5a (v:=.bool x6) rfl hb_1 rfl (RS.nil ?_)))))))))))))))
  exact T.weakR (hK () trivial) (Weak.mkN [] [1,2,3,4] (by decide) (Qpa _) rfl ⟨Qua rfl,Qua rfl,Qua rfl,Qua rfl,Jwa ((congrArg (fun p=>p) (Option.some.inj hz)).symm),trivial⟩ (rw_bs [sL encI p2.At,sL (encL Qaa) p2.Rings,sL Qba p2.Memory,sL Qda p2.Choices,sL Qaa p2.Out] rfl (rw_bs [iI p3.Node,iI p3.Lane] rfl (rw_bs [iI x2.Kind,iI x2.A,sL encI x2.In,sL encI x2.Out] rfl (rw_bs [iI x4.1.Key,iI x4.1.Val,iI x4.1.Dep] rfl (Qva))))))
theorem move_ready_c (p0:Net) (p1:List (List Item)) (p2:State) (r:List Move) (h:Y9a p0 p1 p2=some r):FnO Try.prog 51 [.agg [sL Qha p0.Nodes,iI p0.Rings,iI p0.Room],sL (encL Qaa) p1,.agg [sL encI p2.At,sL (encL Qaa) p2.Rings,sL Qba p2.Memory,sL Qda p2.Choices,sL Qaa p2.Out]] (.ref 0) [aR 57 2 Vaa r]:=by
  unfold Y9a at h
  refine Jka (N:=0) rfl Try.func51 rfl (by kernel_rfl) Try.ntmps51 rfl ?_
  show T _ _ _ _ (mkA 46 [(0,.agg [sL Qha p0.Nodes,iI p0.Rings,iI p0.Room]),(1,sL (encL Qaa) p1),(2,.agg [sL encI p2.At,sL (encL Qaa) p2.Rings,sL Qba p2.Memory,sL Qda p2.Choices,sL Qaa p2.Out])]) []
  refine T.seq (T.region (so (o_box (cs:=[sL Qha p0.Nodes,iI p0.Rings,iI p0.Room]) rfl rfl rfl (so (o_box (cs:=[sL encI p2.At,sL (encL Qaa) p2.Rings,sL Qba p2.Memory,sL Qda p2.Choices,sL Qaa p2.Out]) rfl rfl rfl (sa .nils rfl (RS.nil (T.seq (T.region (sa .nils rfl (RS.nil ?_)))))))))))
  refine T.seq (T.seq (T.region (sq (Qca Ty.f24_0 rfl (off':=0) rfl (so (Qea rfl rfl (Qga Ty.k22 (c:=sL Qha p0.Nodes) rfl (sq (Q2a Ty.s22 rfl (sm (iI 0) rfl (RS.nil (T.block (T.iter (fun ss_27:Int × (List Move)=>mkA 46 [(1,sL (encL Qaa) p1),(3,.ptr 0 0),(5,.ptr 1 0),(7,.ref 2),(14,sL Qha p0.Nodes),(15,iI ((p0.Nodes).length:Int)),(16,iI ss_27.1)]) (fun ss_27=>[.box [sL Qha p0.Nodes,iI p0.Rings,iI p0.Room],.box [sL encI p2.At,sL (encL Qaa) p2.Rings,sL Qba p2.Memory,sL Qda p2.Choices,sL Qaa p2.Out],aR 57 2 Vaa ss_27.2]) h (Weak.mkN [(7,57,2)] [0,1,2] (by decide) (Qpa _) rfl ⟨rn_s rfl,Qua rfl,Qua rfl,Qta rfl,rn_s rfl,Qla rfl,Qla rfl,trivial⟩ (rw_bs [sL Qha p0.Nodes,iI p0.Rings,iI p0.Room] rfl (rw_bs [sL encI p2.At,sL (encL Qaa) p2.Rings,sL Qba p2.Memory,sL Qda p2.Choices,sL Qaa p2.Out] rfl (Jma (en:=Vaa) (ys:=[]) rfl encMove_p rfl (Qva))))) (fun ss_27 v_28 h hv_28=>?_))))))))))))))
  obtain ⟨s1,s2⟩:=ss_27
  replace h:V3a p0 p1 p2 s1 s2=some v_28:=h
  try dsimp only
  unfold V3a at h
  refine T.seq (T.region (sq (v_lss rfl rfl (RS.nil (T.seq (T.cond (b:=decide (s1<((p0.Nodes).length:Int))) rfl (fun hb_29=>?_) (fun hb_29=>?_)))))))
  ·replace h:=ite_T h hb_29
   refine T.skip (T.seq (T.block (T.seq ?_)))
   obtain ⟨x4,hx4,h⟩:=bind_some h
   refine T.region (sm (iI s1) rfl (sq (Q0a Ty.s22 (fun _=>rfl) rfl rfl hx4 (so (Q8a rfl (Qqa Ty.k40 Ty.c40 rfl (cs:=[iI x4.Kind,iI x4.A,sL encI x4.In,sL encI x4.Out]) rfl (so (Jxa Ty.z40 rfl rfl (sa (iI s1) rfl (so (Qma Ty.c40 Ty.i40 rfl (vs:=[iI x4.Kind,iI x4.A,sL encI x4.In,sL encI x4.Out]) rfl rfl rfl rfl (cs':=[iI x4.Kind,iI x4.A,sL encI x4.In,sL encI x4.Out]) rfl rfl (RS.nil (T.seq (T.region ?_))))))))))))))
   refine sa (iI 1) rfl (RS.nil (T.join (Z:=Int) (fun zz_31=>mkA 46 [(1,sL (encL Qaa) p1),(3,.ptr 0 0),(5,.ptr 1 0),(7,.ref 2),(8,iI s1),(10,iI zz_31),(14,sL Qha p0.Nodes),(15,iI ((p0.Nodes).length:Int)),(16,iI s1)]) (fun zz_31=>[.box [sL Qha p0.Nodes,iI p0.Rings,iI p0.Room],.box [sL encI p2.At,sL (encL Qaa) p2.Rings,sL Qba p2.Memory,sL Qda p2.Choices,sL Qaa p2.Out],aR 57 2 Vaa s2]) (fun zz_31=>Qdb p0 p1 s1 p2 s2 zz_31=some v_28) (fun zz_31 h=>?_) (fun hK2=>?_)))
   ·revert h;revert zz_31;intro z5 h
    replace h:Qdb p0 p1 s1 p2 s2 z5=some v_28:=h
    try dsimp only
    unfold Qdb at h
    refine T.seq (T.region (sm (iI z5) rfl (sm (iI 0) rfl (RS.nil (T.block (T.iter (fun ss_36:Int × (List Move)=>mkA 46 [(1,sL (encL Qaa) p1),(3,.ptr 0 0),(5,.ptr 1 0),(7,.ref 2),(8,iI s1),(14,sL Qha p0.Nodes),(15,iI ((p0.Nodes).length:Int)),(16,iI s1),(27,iI z5),(28,iI ss_36.1)]) (fun ss_36=>[.box [sL Qha p0.Nodes,iI p0.Rings,iI p0.Room],.box [sL encI p2.At,sL (encL Qaa) p2.Rings,sL Qba p2.Memory,sL Qda p2.Choices,sL Qaa p2.Out],aR 57 2 Vaa ss_36.2]) h (Weak.mkN [] [0,1,2] (by decide) (Qpa _) rfl ⟨rn_s rfl,Qua rfl,Qua rfl,Qta rfl,Qla rfl,rn_s rfl,Qla rfl,Qla rfl,Qla rfl,Qla rfl,trivial⟩ (rw_bs [sL Qha p0.Nodes,iI p0.Rings,iI p0.Room] rfl (rw_bs [sL encI p2.At,sL (encL Qaa) p2.Rings,sL Qba p2.Memory,sL Qda p2.Choices,sL Qaa p2.Out] rfl (rw_ar rfl rfl (Qva))))) (fun ss_36 v_37 h hv_37=>?_)))))))
    obtain ⟨s6,s7⟩:=ss_36
    replace h:Zwa p0 p1 s1 p2 z5 s6 s7=some v_37:=h
    try dsimp only
    unfold Zwa at h
    refine T.seq (T.region (sq (v_lss rfl rfl (RS.nil (T.seq (T.cond (b:=decide (s6<z5)) rfl (fun hb_38=>?_) (fun hb_38=>?_)))))))
    ·replace h:=ite_T h hb_38
     refine T.skip (T.seq (T.block (T.seq (T.region (sm (iI s6) rfl (sa (iI s6) rfl (RS.nil (T.seq (T.region ?_)))))))))
     refine sm (iI s1) rfl (sm (iI s6) rfl (sq (Jva (cs:=[iI s1,iI s6]) Ty.z57 Ty.p57 rfl (so (Jxa Ty.z57 rfl rfl (so (Qma Ty.c57 Ty.i57 rfl (vs:=[iI s1,iI s6]) rfl rfl rfl rfl (cs':=[iI s1,iI s6]) rfl rfl (RS.nil (T.seq ?_)))))))))
     obtain ⟨x9,hx9,h⟩:=bind_some h
     refine T.region (so (Qea rfl rfl (Qqa Ty.k24 Ty.c24 rfl (cs:=[sL Qha p0.Nodes,iI p0.Rings,iI p0.Room]) rfl (sm (sL (encL Qaa) p1) rfl (so (Qea rfl rfl (Qqa Ty.k31 Ty.c31 rfl (cs:=[sL encI p2.At,sL (encL Qaa) p2.Rings,sL Qba p2.Memory,sL Qda p2.Choices,sL Qaa p2.Out]) rfl (so (Qea rfl rfl (Qqa Ty.k57 Ty.c57 rfl (cs:=[iI s1,iI s6]) rfl (so (Jia (as0:=[.agg [sL Qha p0.Nodes,iI p0.Rings,iI p0.Room],sL (encL Qaa) p1,.agg [sL encI p2.At,sL (encL Qaa) p2.Rings,sL Qba p2.Memory,sL Qda p2.Choices,sL Qaa p2.Out],.agg [iI s1,iI s6]]) (as1:=[.agg [sL Qha p0.Nodes,iI p0.Rings,iI p0.Room],sL (encL Qaa) p1,.agg [sL encI p2.At,sL (encL Qaa) p2.Rings,sL Qba p2.Memory,sL Qda p2.Choices,sL Qaa p2.Out],.agg [iI ((⟨s1,s6⟩:Move).Node),iI ((⟨s1,s6⟩:Move).Lane)]]) (caps:=[]) (aw1:=[.box [sL Qha p0.Nodes,iI p0.Rings,iI p0.Room],.box [sL encI p2.At,sL (encL Qaa) p2.Rings,sL Qba p2.Memory,sL Qda p2.Choices,sL Qaa p2.Out],aR 57 2 Vaa s7,.box [iI s1,iI s6]]) rfl rfl rfl (Zja (v:=.bool x9) (move_can_c p0 p1 p2 (⟨s1,s6⟩:Move) x9 hx9) (⟨Qsa _ (Qka (⟨Qia J0a _,Qfa _ _,Qfa _ _,trivial⟩)),Qia (Jsa Qoa) _,Qsa _ (Qka (⟨Qia Jua _,Qia (Jsa Qoa) _,Qia Q1a _,Qia Q4a _,Qia Qoa _,trivial⟩)),Qsa _ (Qka (⟨Qfa _ _,Qfa _ _,trivial⟩)),trivial⟩) rfl (RS.nil (T.cond (b:=x9) rfl (fun hb_39=>?_) (fun hb_39=>?_))))))))))))))))
     ·replace h:=ite_T h hb_39
      obtain ⟨x10,hx10,h⟩:=bind_some h
      refine T.region (sm (.ref 2) rfl (so (Qea rfl rfl (Qqa Ty.k57 Ty.c57 rfl (cs:=[iI s1,iI s6]) rfl (so (Jqa (rows:=List.map Vaa [(⟨s1,s6⟩:Move)]) (vs:=[.agg [iI s1,iI s6]]) Ty.s53 Ty.z57 rfl rfl rfl rfl rfl rfl (so (Y2a (en:=Vaa) (xs:=s7) (ys:=([(⟨s1,s6⟩:Move)]:List Move)) Ty.s53 (fun _=>rfl) rfl rfl rfl hx10 rfl rfl (sa (.ref 5) rfl (RS.nil (T.region (sq (v_add rfl rfl (sm (iI (IntKind.i64.wrap (s6+1))) rfl ?_))))))))))))))
      refine RS.nil ?_
      exact ⟨(IntKind.i64.wrap (s6+1),x10),(Option.some.inj h).symm,Weak.mkN [] [0,1,5] (by decide) (Qpa _) rfl ⟨rn_s rfl,Qua rfl,Qua rfl,Qta rfl,Qla rfl,rn_s rfl,Qla rfl,Qla rfl,Qla rfl,Qla rfl,trivial⟩ (rw_bs [sL Qha p0.Nodes,iI p0.Rings,iI p0.Room] rfl (rw_bs [sL encI p2.At,sL (encL Qaa) p2.Rings,sL Qba p2.Memory,sL Qda p2.Choices,sL Qaa p2.Out] rfl (rw_ar rfl rfl (Qva))))⟩
     replace h:=ite_F h hb_39
     refine T.skip (T.region (sq (v_add rfl rfl (sm (iI (IntKind.i64.wrap (s6+1))) rfl (RS.nil ?_)))))
     exact ⟨(IntKind.i64.wrap (s6+1),s7),(Option.some.inj h).symm,Weak.mkN [] [0,1,2] (by decide) (Qpa _) rfl ⟨rn_s rfl,Qua rfl,Qua rfl,Qta rfl,Qla rfl,rn_s rfl,Qla rfl,Qla rfl,Qla rfl,Qla rfl,trivial⟩ (rw_bs [sL Qha p0.Nodes,iI p0.Rings,iI p0.Room] rfl (rw_bs [sL encI p2.At,sL (encL Qaa) p2.Rings,sL Qba p2.Memory,sL Qda p2.Choices,sL Qaa p2.Out] rfl (rw_ar rfl rfl (Qva))))⟩
    replace h:=ite_F h hb_38
    refine T.exit ?_
    obtain ⟨w_40,h,hw_40⟩:=Jja h
    replace h:=h.trans (congrArg some (hv_37 _ hw_40))
    refine T.region (sq (v_add rfl rfl (sm (iI (IntKind.i64.wrap (s1+1))) rfl (RS.nil ?_))))
    exact ⟨(IntKind.i64.wrap (s1+1),s7),(Option.some.inj h).symm,Weak.mkN [] [0,1,2] (by decide) (Qpa _) rfl ⟨rn_s rfl,Qua rfl,Qua rfl,Qta rfl,rn_s rfl,Qla rfl,Qla rfl,trivial⟩ (rw_bs [sL Qha p0.Nodes,iI p0.Rings,iI p0.Room] rfl (rw_bs [sL encI p2.At,sL (encL Qaa) p2.Rings,sL Qba p2.Memory,sL Qda p2.Choices,sL Qaa p2.Out] rfl (rw_ar rfl rfl (Qva))))⟩
   refine T.seq (T.region (sq (Qca Ty.f40_0 rfl (off':=0) rfl (so (Qea rfl rfl (Qga Ty.k3 (c:=iI x4.Kind) rfl (sq (v_eql rfl rfl (RS.nil (T.cond (b:=x4.Kind==6) rfl (fun hb_41=>?_) (fun hb_41=>?_)))))))))))
   ·replace h:=ite_T h hb_41
    refine T.region (sq (Qca Ty.f40_2 rfl (off':=2) rfl (so (Qea rfl rfl (Qga Ty.k26 (c:=sL encI x4.In) rfl (sq (Q2a Ty.s26 rfl (sa (iI ((x4.In).length:Int)) rfl (RS.nil ?_)))))))))
    exact T.weakR (hK2 ((x4.In).length:Int) h) (Weak.mkN [] [0,1,2] (by decide) (Qpa _) rfl ⟨rn_s rfl,Qua rfl,Qua rfl,Qta rfl,Qla rfl,Qla rfl,rn_s rfl,Qla rfl,Qla rfl,trivial⟩ (rw_bs [sL Qha p0.Nodes,iI p0.Rings,iI p0.Room] rfl (rw_bs [sL encI p2.At,sL (encL Qaa) p2.Rings,sL Qba p2.Memory,sL Qda p2.Choices,sL Qaa p2.Out] rfl (rw_ar rfl rfl (Qva)))))
   replace h:=ite_F h hb_41
   refine T.skip ?_
   exact T.weakR (hK2 1 h) (Weak.mkN [] [0,1,2] (by decide) (Qpa _) rfl ⟨rn_s rfl,Qua rfl,Qua rfl,Qta rfl,Qla rfl,Qla rfl,rn_s rfl,Qla rfl,Qla rfl,trivial⟩ (rw_bs [sL Qha p0.Nodes,iI p0.Rings,iI p0.Room] rfl (rw_bs [sL encI p2.At,sL (encL Qaa) p2.Rings,sL Qba p2.Memory,sL Qda p2.Choices,sL Qaa p2.Out] rfl (rw_ar rfl rfl (Qva)))))
  replace h:=ite_F h hb_29
  refine T.exit ?_
  obtain ⟨w_42,h,hw_42⟩:=Jja h
  replace h:=h.trans (congrArg some (hv_28 _ hw_42))
  refine T.seq (T.region (sm (.ref 2) rfl (sa (.ref 2) rfl (RS.nil (T.rt (Qna (v:=.ref 2) rfl (Qra ?_)))))))
  exact J3a (.ref 0) [] [2] (by decide) (Qpa _) rfl (Qta rfl) (Jma rfl encMove_p (congrArg (fun r:List Move=>r) (Option.some.inj h)).symm (Qva)) ⟨rfl,rfl⟩
theorem Zka (p0 r:List Item) (h:Zha p0=some r):FnO Try.prog 76 [.sl (List.map Qaa p0)] (.ref 0) [.arr 46 3 (List.map Qaa r)]:=by
  have hr:p0=r:=by
    unfold Zha app at h
    split at h
    · simpa using h
    · cases h
  refine Jka (N:=0) rfl Try.func76 rfl (by kernel_rfl) Try.ntmps76 rfl ?_
  show T _ _ _ _ (mkA 8 [(0,.sl (List.map Qaa p0))]) []
  refine T.seq ?_
  refine T.region ?_
  refine RS.op rfl (OP.q rfl (Jta (v:=.nils) rfl ?_))
  refine RS.nil ?_
  refine T.seq ?_
  refine T.seq ?_
  refine T.region ?_
  refine RS.op rfl (OP.q rfl (Qza (v:=.sl (List.map Qaa p0)) rfl ?_))
  refine RS.op rfl (OP.q rfl (v_nileq Ty.s29 rfl rfl (fun z hz=>?_)))
  refine RS.nil ?_
  refine T.cond (b:=z) rfl (fun hb=>?_) (fun hb=>?_)
  · refine T.seq ?_
    refine T.region ?_
    refine RS.op rfl (OP.q rfl (Jta (v:=.nils) rfl ?_))
    refine RS.nil ?_
    refine T.ret ?_
    refine Qna (v:=.nils) rfl ?_
    refine Qra ?_
    have h0:p0=[]:=List.map_eq_nil_iff.1 (hz hb)
    exact J3a (.ref 0) [(0,46,3)] [0] (by decide) (Qpa _) rfl (Qta rfl) (Jma (en:=Qaa) (ys:=[]) rfl Qoa (by rw [← hr,h0]) (Qva)) ⟨rfl,rfl⟩
  · refine T.skip ?_
    refine T.seq ?_
    refine T.region ?_
    refine RS.op rfl (Jqa (rows:=List.map Qaa []) (vs:=[]) Ty.s29 Ty.z46 rfl rfl rfl rfl rfl (aw':=[.arr 46 3 (List.map Qaa [])]) rfl ?_)
    refine RS.op rfl (OP.q rfl (Qza (v:=.sl (List.map Qaa p0)) rfl ?_))
    refine RS.op rfl (Y2a (en:=Qaa) (xs:=([]:List Item)) (ys:=p0) (r:=r) Ty.s29 (fun _=>rfl) rfl rfl rfl h rfl (aw':=[.dead,.arr 46 3 (List.map Qaa r)]) rfl ?_)
    refine RS.op rfl (OP.q rfl (Jta (v:=.ref 1) rfl ?_))
    refine RS.nil ?_
    refine T.ret ?_
    refine Qna (v:=.ref 1) rfl ?_
    refine Qra ?_
    exact J3a (.ref 0) [] [1] (by decide) (Qpa _) rfl (Qta rfl) (Jma rfl Qoa rfl (Qva)) ⟨rfl,rfl⟩
theorem Yaa (p0:List Item) (r:Item × (List Item) × Int) (h:ring_Take p0=some r):FnO Try.prog 83 [sL Qaa p0] (.tup [.agg [iI r.1.Key,iI r.1.Val,iI r.1.Dep],.ref 0,iI r.2.2]) [aR 46 3 Qaa r.2.1]:=by
  unfold ring_Take at h
  refine Jka (N:=0) rfl Try.func83 rfl (by kernel_rfl) Try.ntmps83 rfl ?_
  show T _ _ _ _ (mkA 19 [(0,sL Qaa p0)]) []
  refine T.seq (T.region (so (Jxa Ty.z46 rfl rfl (sa .nils rfl (sa (iI 0) rfl (RS.nil (T.seq (T.seq (T.region (sm (sL Qaa p0) rfl ?_))))))))))
  refine sq (Q2a Ty.s29 rfl (sq (v_gtr rfl rfl (RS.nil (T.cond (b:=decide (((p0).length:Int) > 6)) rfl (fun hb_1=>?_) (fun hb_1=>?_))))))
  ·replace h:=ite_T h hb_1
   refine T.seq (T.region (sq (Jva (cs:=[iI 0,iI 0,iI 0]) Ty.z46 Ty.p46 rfl (so (Qma Ty.c46 Ty.i46 rfl (vs:=[iI 0,iI 0,iI 0]) rfl rfl rfl rfl (cs':=[iI 0,iI 0,iI 0]) rfl rfl (sa .nils rfl (sa (iI 2) rfl (RS.nil (T.rt (Jfa (id:=0) (off:=0) (cs:=[iI 0,iI 0,iI 0]) (v:=.agg [iI 0,iI 0,iI 0]) ?_ ?_ ?_ ?_))))))))))
   · rfl
   · rfl
   · exact fun K h=>(Qqa (row:=[iI 0,iI 0,iI 0]) (off:=0) Ty.k46 Ty.c46 rfl (cs:=[iI 0,iI 0,iI 0]) rfl h)
   refine Qna (v:=.nils) rfl (Qna (v:=iI 2) rfl (Qra ?_))
   exact J3a (.tup [.agg [iI r.1.Key,iI r.1.Val,iI r.1.Dep],.ref 0,iI r.2.2]) [(1,46,3)] [1] (by decide) (Qpa _) rfl (Vma ⟨J6a ⟨Qla (congrArg (fun r:Item × (List Item) × Int=>r.1.Key) (Option.some.inj h)).symm,Qla (congrArg (fun r:Item × (List Item) × Int=>r.1.Val) (Option.some.inj h)).symm,Qla (congrArg (fun r:Item × (List Item) × Int=>r.1.Dep) (Option.some.inj h)).symm,trivial⟩,Qta rfl,Qla (congrArg (fun r:Item × (List Item) × Int=>r.2.2) (Option.some.inj h)).symm,trivial⟩) (Jma (en:=Qaa) (ys:=[]) rfl Qoa (congrArg (fun r:Item × (List Item) × Int=>r.2.1) (Option.some.inj h)).symm (Qva)) ⟨rfl,rfl⟩
  replace h:=ite_F h hb_1
  refine T.skip (T.seq (T.seq (T.region (sm (sL Qaa p0) rfl (sq (Q2a Ty.s29 rfl (sq (v_eql rfl rfl (RS.nil (T.cond (b:=((p0).length:Int)==0) rfl (fun hb_2=>?_) (fun hb_2=>?_)))))))))))
  ·replace h:=ite_T h hb_2
   refine T.seq (T.region (sq (Jva (cs:=[iI 0,iI 0,iI 0]) Ty.z46 Ty.p46 rfl (so (Qma Ty.c46 Ty.i46 rfl (vs:=[iI 0,iI 0,iI 0]) rfl rfl rfl rfl (cs':=[iI 0,iI 0,iI 0]) rfl rfl (sa .nils rfl (sa (iI 9) rfl (RS.nil (T.rt (Jfa (id:=0) (off:=0) (cs:=[iI 0,iI 0,iI 0]) (v:=.agg [iI 0,iI 0,iI 0]) ?_ ?_ ?_ ?_))))))))))
   · rfl
   · rfl
   · exact fun K h=>(Qqa (row:=[iI 0,iI 0,iI 0]) (off:=0) Ty.k46 Ty.c46 rfl (cs:=[iI 0,iI 0,iI 0]) rfl h)
   refine Qna (v:=.nils) rfl (Qna (v:=iI 9) rfl (Qra ?_))
   exact J3a (.tup [.agg [iI r.1.Key,iI r.1.Val,iI r.1.Dep],.ref 0,iI r.2.2]) [(1,46,3)] [1] (by decide) (Qpa _) rfl (Vma ⟨J6a ⟨Qla (congrArg (fun r:Item × (List Item) × Int=>r.1.Key) (Option.some.inj h)).symm,Qla (congrArg (fun r:Item × (List Item) × Int=>r.1.Val) (Option.some.inj h)).symm,Qla (congrArg (fun r:Item × (List Item) × Int=>r.1.Dep) (Option.some.inj h)).symm,trivial⟩,Qta rfl,Qla (congrArg (fun r:Item × (List Item) × Int=>r.2.2) (Option.some.inj h)).symm,trivial⟩) (Jma (en:=Qaa) (ys:=[]) rfl Qoa (congrArg (fun r:Item × (List Item) × Int=>r.2.1) (Option.some.inj h)).symm (Qva)) ⟨rfl,rfl⟩
  replace h:=ite_F h hb_2
  refine T.skip (T.seq ?_)
  obtain ⟨x4,hx4,h⟩:=bind_some h
  obtain ⟨x5,hx5,h⟩:=bind_some h
  obtain ⟨x6,hx6,h⟩:=bind_some h
  refine T.drawn mixed (k:=9) rfl ?_
  let l4:List (Nat × AV):=[(0,sL Qaa p0),(2,.ptr 0 0),(3,.nils),(4,iI 0),(5,sL Qaa p0),(6,iI ((p0).length:Int)),(7,.bool (decide (((p0).length:Int) > 6))),(9,sL Qaa p0),(10,iI ((p0).length:Int)),(11,.bool (((p0).length:Int)==0))]
  refine RA.join 3 #[true,true,true,true,true,true,false,false,false] (mkA 19 ((13,sL Qaa p0)::(14,.elt (Qaa x4) 0)::(15,.agg [iI x4.Key,iI x4.Val,iI x4.Dep])::(16,sL Qaa p0)::(17,sL Qaa x5)::(18,.ref 1)::l4)) [.box [iI 0,iI 0,iI 0],aR 46 3 Qaa x6] ?_ (fun hS3=>?_)
  ·refine ra1 6 (RO.op rfl rfl (Qma Ty.c46 Ty.i46 rfl (vs:=[iI x4.Key,iI x4.Val,iI x4.Dep]) rfl rfl rfl rfl (cs':=[iI x4.Key,iI x4.Val,iI x4.Dep]) rfl rfl (rt0 7 rfl (Jta (v:=.ref 1) rfl (rt0 8 rfl (Jta (v:=iI 0) rfl (RA.done (by decide +kernel) (T.rt (Jfa (id:=0) (off:=0) (cs:=[iI x4.Key,iI x4.Val,iI x4.Dep]) (v:=.agg [iI x4.Key,iI x4.Val,iI x4.Dep]) ?_ ?_ ?_ ?_)))))))))
   · rfl
   · rfl
   · exact fun K h=>(Qqa (row:=[iI x4.Key,iI x4.Val,iI x4.Dep]) (off:=0) Ty.k46 Ty.c46 rfl (cs:=[iI x4.Key,iI x4.Val,iI x4.Dep]) rfl h)
   refine Qna (v:=.ref 1) rfl (Qna (v:=iI 0) rfl (Qra ?_))
   exact J3a (.tup [.agg [iI r.1.Key,iI r.1.Val,iI r.1.Dep],.ref 0,iI r.2.2]) [] [1] (by decide) (Qpa _) rfl (Vma ⟨J6a ⟨Qla (congrArg (fun r:Item × (List Item) × Int=>r.1.Key) (Option.some.inj h)).symm,Qla (congrArg (fun r:Item × (List Item) × Int=>r.1.Val) (Option.some.inj h)).symm,Qla (congrArg (fun r:Item × (List Item) × Int=>r.1.Dep) (Option.some.inj h)).symm,trivial⟩,Qta rfl,Qla (congrArg (fun r:Item × (List Item) × Int=>r.2.2) (Option.some.inj h)).symm,trivial⟩) (Jma rfl Qoa (congrArg (fun r:Item × (List Item) × Int=>r.2.1) (Option.some.inj h)).symm (Qva)) ⟨rfl,rfl⟩
  ·refine rt0 0 rfl (Qza (v:=sL Qaa p0) rfl (rt0 1 rfl (Q0a Ty.s29 (fun _=>rfl) rfl rfl hx4 (rt0 3 rfl (Qza (v:=sL Qaa p0) rfl (rt0 4 rfl (v_slice_sl Ty.s29 (fun _=>rfl) rfl rfl rfl hx5 (ra2 2 5 ?_ ?_))))))))
   ·refine RO.op rfl rfl (Q8a rfl (Qqa Ty.k46 Ty.c46 rfl (cs:=[iI x4.Key,iI x4.Val,iI x4.Dep]) rfl (ra1 5 (RO.op rfl rfl (Jia (as0:=[sL Qaa x5]) (as1:=[sL Qaa x5]) (caps:=[]) (aw1:=[.box [iI 0,iI 0,iI 0]]) rfl rfl rfl (V5a (v:=.ref 0) (obs:=[aR 46 3 Qaa x6]) (v':=.ref 1) (Zka x5 x6 hx6) (⟨Qia Qoa _,trivial⟩) rfl (Zia (Jza fun _=>rfl) Z1a) rfl rfl ?_))))))
    exact raS hS3 ⟨rfl,rfl,rfl,rfl,rfl,rfl,rfl,rfl,rfl,rfl,rfl,rfl,rfl,rfl,rfl,rfl,trivial⟩
   ·refine RO.op rfl rfl (Jia (as0:=[sL Qaa x5]) (as1:=[sL Qaa x5]) (caps:=[]) (aw1:=[.box [iI 0,iI 0,iI 0]]) rfl rfl rfl (V5a (v:=.ref 0) (obs:=[aR 46 3 Qaa x6]) (v':=.ref 1) (Zka x5 x6 hx6) (⟨Qia Qoa _,trivial⟩) rfl (Zia (Jza fun _=>rfl) Z1a) rfl rfl (ra1 2 (RO.op rfl rfl (Q8a rfl (Qqa Ty.k46 Ty.c46 rfl (cs:=[iI x4.Key,iI x4.Val,iI x4.Dep]) rfl ?_))))))
    exact raS hS3 ⟨rfl,rfl,rfl,rfl,rfl,rfl,rfl,rfl,rfl,rfl,rfl,rfl,rfl,rfl,rfl,rfl,trivial⟩
theorem ring_Put_c (p0:List Item) (p1:Int) (p2:Item) (r:(List Item) × Int) (h:ring_Put p0 p1 p2=some r):FnO Try.prog 86 [sL Qaa p0,iI p1,.agg [iI p2.Key,iI p2.Val,iI p2.Dep]] (.tup [.ref 0,iI r.2]) [aR 46 3 Qaa r.1]:=by
  unfold ring_Put at h
  refine Jka (N:=0) rfl Try.func86 rfl (by kernel_rfl) Try.ntmps86 rfl ?_
  show T _ _ _ _ (mkA 27 [(0,sL Qaa p0),(1,iI p1),(2,.agg [iI p2.Key,iI p2.Val,iI p2.Dep])]) []
  refine T.seq (T.region (so (o_box (cs:=[iI p2.Key,iI p2.Val,iI p2.Dep]) rfl rfl rfl (sa .nils rfl (sa (iI 0) rfl (RS.nil (T.seq (T.join (Z:=Unit) (fun _=>mkA 27 [(0,sL Qaa p0),(1,iI p1),(5,.ptr 0 0),(13,.bool ((decide (p1<1)) || decide (p1 > 6)))]) (fun _=>[.box [iI p2.Key,iI p2.Val,iI p2.Dep]]) (fun _=>True) (fun _ _=>?_) (fun hK=>?_)))))))))
  ·refine T.cond (b:=((decide (p1<1)) || decide (p1 > 6))) rfl (fun hb_2=>?_) (fun hb_2=>?_)
   ·replace h:=ite_T h hb_2
    refine T.seq (T.region (sa .nils rfl (sa (iI 3) rfl (RS.nil (T.rt (Qna (v:=.nils) rfl (Qna (v:=iI 3) rfl (Qra ?_))))))))
    exact J3a (.tup [.ref 0,iI r.2]) [(0,46,3)] [1] (by decide) (Qpa _) rfl (Vma ⟨Qta rfl,Qla (congrArg (fun r:(List Item) × Int=>r.2) (Option.some.inj h)).symm,trivial⟩) (Jma (en:=Qaa) (ys:=[]) rfl Qoa (congrArg (fun r:(List Item) × Int=>r.1) (Option.some.inj h)).symm (Qva)) ⟨rfl,rfl⟩
   replace h:=ite_F h hb_2
   refine T.skip (T.seq (T.seq (T.region (sm (sL Qaa p0) rfl (sq (Q2a Ty.s29 rfl (sm (iI p1) rfl (sq (v_gtr rfl rfl (RS.nil (T.cond (b:=decide (((p0).length:Int) > p1)) rfl (fun hb_3=>?_) (fun hb_3=>?_))))))))))))
   ·replace h:=ite_T h hb_3
    refine T.seq (T.region (sa .nils rfl (sa (iI 2) rfl (RS.nil (T.rt (Qna (v:=.nils) rfl (Qna (v:=iI 2) rfl (Qra ?_))))))))
    exact J3a (.tup [.ref 0,iI r.2]) [(0,46,3)] [1] (by decide) (Qpa _) rfl (Vma ⟨Qta rfl,Qla (congrArg (fun r:(List Item) × Int=>r.2) (Option.some.inj h)).symm,trivial⟩) (Jma (en:=Qaa) (ys:=[]) rfl Qoa (congrArg (fun r:(List Item) × Int=>r.1) (Option.some.inj h)).symm (Qva)) ⟨rfl,rfl⟩
   replace h:=ite_F h hb_3
   refine T.skip (T.seq (T.seq (T.region (sm (sL Qaa p0) rfl (sq (Q2a Ty.s29 rfl (sm (iI p1) rfl (sq (v_eql rfl rfl (RS.nil (T.cond (b:=((p0).length:Int)==p1) rfl (fun hb_4=>?_) (fun hb_4=>?_))))))))))))
   ·replace h:=ite_T h hb_4
    refine T.seq (T.region (sa .nils rfl (sa (iI 8) rfl (RS.nil (T.rt (Qna (v:=.nils) rfl (Qna (v:=iI 8) rfl (Qra ?_))))))))
    exact J3a (.tup [.ref 0,iI r.2]) [(0,46,3)] [1] (by decide) (Qpa _) rfl (Vma ⟨Qta rfl,Qla (congrArg (fun r:(List Item) × Int=>r.2) (Option.some.inj h)).symm,trivial⟩) (Jma (en:=Qaa) (ys:=[]) rfl Qoa (congrArg (fun r:(List Item) × Int=>r.1) (Option.some.inj h)).symm (Qva)) ⟨rfl,rfl⟩
   replace h:=ite_F h hb_4
   refine T.skip (T.seq ?_)
   obtain ⟨x4,hx4,h⟩:=bind_some h
   obtain ⟨x5,hx5,h⟩:=bind_some h
   refine T.drawn mixed (k:=7) rfl ?_
   let l7:List (Nat × AV):=[(0,sL Qaa p0),(1,iI p1),(5,.ptr 0 0),(13,.bool ((decide (p1<1)) || decide (p1 > 6))),(14,sL Qaa p0),(15,iI ((p0).length:Int)),(16,iI p1),(17,.bool (decide (((p0).length:Int) > p1))),(18,sL Qaa p0),(19,iI ((p0).length:Int)),(20,iI p1),(21,.bool (((p0).length:Int)==p1))]
   refine RA.join 3 #[true,true,true,true,false,false,false] (mkA 27 ((22,sL Qaa p0)::(23,.ref 2)::(24,.agg [iI p2.Key,iI p2.Val,iI p2.Dep])::(25,.ref 1)::l7)) [.box [iI p2.Key,iI p2.Val,iI p2.Dep],aR 46 3 Qaa [p2],aR 46 3 Qaa x4] ?_ (fun hS5=>?_)
   ·refine ra1 4 (RO.op rfl rfl (Y2a (en:=Qaa) (xs:=x4) (ys:=([p2]:List Item)) Ty.s29 (fun _=>rfl) rfl rfl rfl hx5 rfl rfl (rt0 5 rfl (Jta (v:=.ref 3) rfl (rt0 6 rfl (Jta (v:=iI 0) rfl (RA.done (by decide +kernel) (T.rt (Qna (v:=.ref 3) rfl (Qna (v:=iI 0) rfl (Qra ?_)))))))))))
    exact J3a (.tup [.ref 0,iI r.2]) [] [3] (by decide) (Qpa _) rfl (Vma ⟨Qta rfl,Qla (congrArg (fun r:(List Item) × Int=>r.2) (Option.some.inj h)).symm,trivial⟩) (Jma rfl Qoa (congrArg (fun r:(List Item) × Int=>r.1) (Option.some.inj h)).symm (Qva)) ⟨rfl,rfl⟩
   ·refine RA.join 4 #[true,true,true,false,false,false,false] (mkA 27 ((22,sL Qaa p0)::(23,.ref 1)::(24,.agg [iI p2.Key,iI p2.Val,iI p2.Dep])::l7)) [.box [iI p2.Key,iI p2.Val,iI p2.Dep],aR 46 3 Qaa x4] ?_ (fun hS6=>?_)
    ·refine ra1 3 (RO.op rfl rfl (Jqa (rows:=List.map Qaa [p2]) (vs:=[.agg [iI p2.Key,iI p2.Val,iI p2.Dep]]) Ty.s29 Ty.z46 rfl rfl rfl rfl rfl rfl ?_))
     exact raW hS5 (Weak.mkN [] [0,2,1] (by decide) (Qpa _) rfl ⟨rn_s rfl,Qta rfl,J6a ⟨Qla rfl,Qla rfl,Qla rfl,trivial⟩,Qta rfl,rn_s rfl,Qla rfl,Qua rfl,Jwa rfl,rn_s rfl,Qla rfl,Qla rfl,Jwa rfl,rn_s rfl,Qla rfl,Qla rfl,Jwa rfl,trivial⟩ (rw_bs [iI p2.Key,iI p2.Val,iI p2.Dep] rfl (rw_ar rfl rfl (rw_ar rfl rfl (Qva)))))
    ·refine rt0 0 rfl (Qza (v:=sL Qaa p0) rfl (ra2 1 2 ?_ ?_))
     ·refine RO.op rfl rfl (Jia (as0:=[sL Qaa p0]) (as1:=[sL Qaa p0]) (caps:=[]) (aw1:=[.box [iI p2.Key,iI p2.Val,iI p2.Dep]]) rfl rfl rfl (V5a (v:=.ref 0) (obs:=[aR 46 3 Qaa x4]) (v':=.ref 1) (Zka p0 x4 hx4) (⟨Qia Qoa _,trivial⟩) rfl (Zia (Jza fun _=>rfl) Z1a) rfl rfl (ra1 2 (RO.op rfl rfl (Qea rfl rfl (Qqa Ty.k46 Ty.c46 rfl (cs:=[iI p2.Key,iI p2.Val,iI p2.Dep]) rfl ?_))))))
      exact raS hS6 ⟨rfl,rfl,rfl,rfl,rfl,rfl,rfl,rfl,rfl,rfl,rfl,rfl,rfl,rfl,rfl,trivial⟩
     ·refine RO.op rfl rfl (Qea rfl rfl (Qqa Ty.k46 Ty.c46 rfl (cs:=[iI p2.Key,iI p2.Val,iI p2.Dep]) rfl (ra2 1 3 ?_ ?_)))
      ·refine RO.op rfl rfl (Jia (as0:=[sL Qaa p0]) (as1:=[sL Qaa p0]) (caps:=[]) (aw1:=[.box [iI p2.Key,iI p2.Val,iI p2.Dep]]) rfl rfl rfl (V5a (v:=.ref 0) (obs:=[aR 46 3 Qaa x4]) (v':=.ref 1) (Zka p0 x4 hx4) (⟨Qia Qoa _,trivial⟩) rfl (Zia (Jza fun _=>rfl) Z1a) rfl rfl ?_))
       exact raS hS6 ⟨rfl,rfl,rfl,rfl,rfl,rfl,rfl,rfl,rfl,rfl,rfl,rfl,rfl,rfl,rfl,trivial⟩
      ·refine RO.op rfl rfl (Jqa (rows:=List.map Qaa [p2]) (vs:=[.agg [iI p2.Key,iI p2.Val,iI p2.Dep]]) Ty.s29 Ty.z46 rfl rfl rfl rfl rfl rfl (ra1 1 (RO.op rfl rfl (Jia (as0:=[sL Qaa p0]) (as1:=[sL Qaa p0]) (caps:=[]) (aw1:=[.box [iI p2.Key,iI p2.Val,iI p2.Dep],aR 46 3 Qaa [p2]]) rfl rfl rfl (V5a (v:=.ref 0) (obs:=[aR 46 3 Qaa x4]) (v':=.ref 2) (Zka p0 x4 hx4) (⟨Qia Qoa _,trivial⟩) rfl (Zia (Jza fun _=>rfl) Z1a) rfl rfl ?_)))))
       exact raS hS5 ⟨rfl,rfl,rfl,rfl,rfl,rfl,rfl,rfl,rfl,rfl,rfl,rfl,rfl,rfl,rfl,rfl,trivial⟩
  refine T.region (sm (iI p1) rfl (sq (v_lss rfl rfl (sm (.bool (decide (p1<1))) rfl ?_))))
  rcases Q3a (decide (p1<1)) with hb_1 | hb_1
  ·refine sn hb_1 (sn hb_1 (sq (Jea (v:=.bool true) rfl hb_1 rfl (RS.nil ?_))))
   exact T.sub (hK () trivial) ⟨rfl,rfl,rfl,(congrArg AV.bool (by simp only [hb_1,bz,if_true,if_false,Bool.false_eq_true])).symm,trivial⟩
  refine yq hb_1 (Qza (v:=iI p1) rfl (yq hb_1 (v_gtr rfl rfl (sq (Q5a (v:=.bool (decide (p1 > 6))) rfl hb_1 rfl (RS.nil ?_))))))
  exact T.sub (hK () trivial) ⟨rfl,rfl,rfl,(congrArg AV.bool (by simp only [hb_1,bz,if_true,if_false,Bool.false_eq_true])).symm,trivial⟩
end Go.Proofs.Ytfbmoockopakjaa
