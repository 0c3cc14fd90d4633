/-
  Part 4 of the proof of trailAllowedLaw.proved: the code computes these functions, and the law holds of them, with no condition beyond the statement's own; put together by a program of ours (wip/decl.py) out of texts of ours.
-/
import Derived.Test.YtfbmoockopakjaaGreatZTrailAllowed3
namespace Go.Proofs.YtfbmoockopakjaaGreat
open Go.RowKit
set_option linter.unusedVariables false
set_option linter.unusedSimpArgs false
set_option maxRecDepth 100000
set_option maxHeartbeats 4000000
set_option synthInstance.maxSize 100000
set_option synthInstance.maxHeartbeats 4000000
theorem slices_Clone_Keyed_c (p0 r:List Keyed) (h:Zra p0=some r):FnO Tryz.prog 59 [.sl (List.map Qka p0)] (.ref 0) [.arr 97 2 (List.map Qka r)]:=by
  have hr:p0=r:=by
    unfold Zra app at h
    split at h
    · simpa using h
    · cases h
  refine fn_of_T (N:=0) rfl Tryz.func59 rfl (by kernel_rfl) Tryz.ntmps59 rfl ?_
  show T _ _ _ _ (mkA 8 [(0,.sl (List.map Qka p0))]) []
  refine T.seq ?_
  refine T.region ?_
  refine RS.op rfl (OP.q rfl (Vba (v:=.nils) rfl ?_))
  refine RS.nil ?_
  refine T.seq ?_
  refine T.seq ?_
  refine T.region ?_
  refine RS.op rfl (OP.q rfl (v_move (v:=.sl (List.map Qka p0)) rfl ?_))
  refine RS.op rfl (OP.q rfl (v_nileq Ty.s82 rfl rfl (fun z hz=>?_)))
  refine RS.nil ?_
  refine T.cond (b:=z) rfl (fun hb=>?_) (fun hb=>?_)
  · refine T.seq ?_
    refine T.region ?_
    refine RS.op rfl (OP.q rfl (Vba (v:=.nils) rfl ?_))
    refine RS.nil ?_
    refine T.ret ?_
    refine Qfb (v:=.nils) rfl ?_
    refine Yla ?_
    have h0:p0=[]:=List.map_eq_nil_iff.1 (hz hb)
    exact Q5b (.ref 0) [(0,97,2)] [0] (by decide) (Qla _) rfl (Qza rfl) (Z2a (en:=Qka) (ys:=[]) rfl V9a (by rw [← hr,h0]) (Qxa)) ⟨rfl,rfl⟩
  · refine T.skip ?_
    refine T.seq ?_
    refine T.region ?_
    refine RS.op rfl (Qva (rows:=List.map Qka []) (vs:=[]) Ty.s82 Ty.z97 rfl rfl rfl rfl rfl (aw':=[.arr 97 2 (List.map Qka [])]) rfl ?_)
    refine RS.op rfl (OP.q rfl (v_move (v:=.sl (List.map Qka p0)) rfl ?_))
    refine RS.op rfl (J5a (en:=Qka) (xs:=([]:List Keyed)) (ys:=p0) (r:=r) Ty.s82 (fun _=>rfl) rfl rfl rfl h rfl (aw':=[.dead,.arr 97 2 (List.map Qka r)]) rfl ?_)
    refine RS.op rfl (OP.q rfl (Vba (v:=.ref 1) rfl ?_))
    refine RS.nil ?_
    refine T.ret ?_
    refine Qfb (v:=.ref 1) rfl ?_
    refine Yla ?_
    exact Q5b (.ref 0) [] [1] (by decide) (Qla _) rfl (Qza rfl) (Z2a rfl V9a rfl (Qxa)) ⟨rfl,rfl⟩
theorem stage_Copy_c (p0:Memory) (r:Memory) (h:Q0b p0=some r):FnO Tryz.prog 78 [.agg (Qca p0)] (.agg [iI r.Sum,.ref 0,iI r.Dep]) [aR 97 2 Qka r.Keys]:=by
  unfold Q0b at h
  refine fnT 0 Tryz.func78 Tryz.ntmps78 ?_
  refine T.seq (T.region (go 2 0 (RS.nil (T.seq ?_))))
  obtain ⟨x2,hx2,h⟩:=bind_some h
  refine T.region (go 2 2 (sO (cO 2 (slices_Clone_Keyed_c p0.Keys x2 hx2) ⟨rfl,(go 2 3 (RS.nil (T.seq (T.region (go 2 3 (RS.nil ?_))))))⟩)))
  cases h
  exact tO [] [2] 3
theorem stage_mapped_1_c (p0:Item) (r:Int) (h:stage_mapped_1 p0=some r):Fn Tryz.prog 105 [.agg (Qaa p0)] (iI r):=by
  unfold stage_mapped_1 at h
  refine fnT 0 Tryz.func105 Tryz.ntmps105 ?_
  refine T.seq (T.region (go 2 0 (RS.nil (T.seq (T.region (go 4 1 (RS.nil ?_)))))))
  cases h
  exact tD
theorem stage_mapped_2_c (p0:Item) (r:Int) (h:stage_mapped_2 p0=some r):Fn Tryz.prog 106 [.agg (Qaa p0)] (iI r):=by
  unfold stage_mapped_2 at h
  refine fnT 0 Tryz.func106 Tryz.ntmps106 ?_
  refine T.seq (T.region (go 2 0 (RS.nil (T.seq (T.region (go 4 1 (RS.nil ?_)))))))
  cases h
  exact tD
theorem stage_mapped_3_c (p0:Item) (r:Int) (h:stage_mapped_3 p0=some r):Fn Tryz.prog 107 [.agg (Qaa p0)] (iI r):=by
  unfold stage_mapped_3 at h
  refine fnT 0 Tryz.func107 Tryz.ntmps107 ?_
  refine T.seq (T.region (go 2 0 (RS.nil (T.seq (T.region (go 4 1 (RS.nil ?_)))))))
  cases h
  exact tD
theorem stage_mapped_4_c (p0:Item) (r:Int) (h:stage_mapped_4 p0=some r):Fn Tryz.prog 108 [.agg (Qaa p0)] (iI r):=by
  unfold stage_mapped_4 at h
  refine fnT 0 Tryz.func108 Tryz.ntmps108 ?_
  refine T.seq (T.region (go 2 0 (RS.nil (T.seq (T.region (go 6 1 (RS.nil ?_)))))))
  cases h
  exact tD
theorem stage_mapped_c (p0:Int) (p1:Item) (r:Item) (h:stage_mapped p0 p1=some r):Fn Tryz.prog 93 [iI p0,.agg (Qaa p1)] (.agg (Qaa r)):=by
  unfold stage_mapped at h
  refine fnT 0 Tryz.func93 Tryz.ntmps93 ?_
  refine T.seq (T.region (go 2 0 (RS.nil (T.seq (T.region (sQ (v_build (cs:=[.func 105 [],.func 106 [],.func 107 [],.func 108 []]) Ty.z158 Ty.p158 rfl (go 2 2 (RS.nil ?_)))))))))
  obtain ⟨zt_4,hz,h⟩:=bind_some h
  revert hz h;revert zt_4;intro c6 hz h
  refine T.join (Z:=Unit) (fun _=>mkA 14 [(3,.ptr 0 0),(4,.ptr 1 0)]) (fun _=>[.box [iI p1.Key,iI c6,iI p1.Dep],.box [iI 0,iI 0,iI 0]]) (fun _=>True) (fun _ _=>?_) (fun hK=>?_)
  ·refine T.seq (T.region (go 2 2 (RS.nil ?_)))
   cases h
   exact tD
  rcases Qha (p0==0) with hb_1 | hb_1
  ·replace hz:=ite_T hz hb_1
   obtain ⟨x1,hx1,hz⟩:=bind_some hz
   refine T.drawn mixed (k:=7) rfl (rq [0] 6 (r0 1 rfl (v_index_arr (q:=0) Tryz.underlying158 Ty.c157 Ty.i157 rfl rfl (by simpa using hb_1) rfl rfl (off':=0) rfl (rL [2,4,5,6] 2 rfl (ra1 3 (og 3 ⟨rfl,(ra1 4 (oO rfl (cF (stage_mapped_1_c p1 x1 hx1) ⟨rfl,(rq [5] 1 (ra1 6 ?_))⟩)))⟩))))))
   refine og 3 ⟨rfl,(RA.done (by decide +kernel) ?_)⟩
   exact T.weakR (hK () trivial) (Weak.mkN [] [0,1] (by decide) (Qla _) rfl ⟨Qqa rfl,Qqa rfl,trivial⟩ (Jsa (cs:=[iI p1.Key,iI c6,iI p1.Dep]) (ds:=[iI p1.Key,iI x1,iI p1.Dep]) rfl ⟨Qga rfl,Qga ((congrArg (fun p=>p) (Option.some.inj hz)).symm),Qga rfl,trivial⟩ (rw_bs [iI 0,iI 0,iI 0] rfl (Qxa))))
  replace hz:=ite_F hz hb_1
  rcases Qha (p0==1) with hb_2 | hb_2
  ·replace hz:=ite_T hz hb_2
   obtain ⟨x2,hx2,hz⟩:=bind_some hz
   refine T.drawn mixed (k:=7) rfl (rq [0] 6 (r0 1 rfl (v_index_arr (q:=1) Tryz.underlying158 Ty.c157 Ty.i157 rfl rfl (by simpa using hb_2) rfl rfl (off':=1) rfl (rL [2,4,5,6] 2 rfl (ra1 3 (og 3 ⟨rfl,(ra1 4 (oO rfl (cF (stage_mapped_2_c p1 x2 hx2) ⟨rfl,(rq [5] 1 (ra1 6 ?_))⟩)))⟩))))))
   refine og 3 ⟨rfl,(RA.done (by decide +kernel) ?_)⟩
   exact T.weakR (hK () trivial) (Weak.mkN [] [0,1] (by decide) (Qla _) rfl ⟨Qqa rfl,Qqa rfl,trivial⟩ (Jsa (cs:=[iI p1.Key,iI c6,iI p1.Dep]) (ds:=[iI p1.Key,iI x2,iI p1.Dep]) rfl ⟨Qga rfl,Qga ((congrArg (fun p=>p) (Option.some.inj hz)).symm),Qga rfl,trivial⟩ (rw_bs [iI 0,iI 0,iI 0] rfl (Qxa))))
  replace hz:=ite_F hz hb_2
  rcases Qha (p0==2) with hb_3 | hb_3
  ·replace hz:=ite_T hz hb_3
   obtain ⟨x3,hx3,hz⟩:=bind_some hz
   refine T.drawn mixed (k:=7) rfl (rq [0] 6 (r0 1 rfl (v_index_arr (q:=2) Tryz.underlying158 Ty.c157 Ty.i157 rfl rfl (by simpa using hb_3) rfl rfl (off':=2) rfl (rL [2,4,5,6] 2 rfl (ra1 3 (og 3 ⟨rfl,(ra1 4 (oO rfl (cF (stage_mapped_3_c p1 x3 hx3) ⟨rfl,(rq [5] 1 (ra1 6 ?_))⟩)))⟩))))))
   refine og 3 ⟨rfl,(RA.done (by decide +kernel) ?_)⟩
   exact T.weakR (hK () trivial) (Weak.mkN [] [0,1] (by decide) (Qla _) rfl ⟨Qqa rfl,Qqa rfl,trivial⟩ (Jsa (cs:=[iI p1.Key,iI c6,iI p1.Dep]) (ds:=[iI p1.Key,iI x3,iI p1.Dep]) rfl ⟨Qga rfl,Qga ((congrArg (fun p=>p) (Option.some.inj hz)).symm),Qga rfl,trivial⟩ (rw_bs [iI 0,iI 0,iI 0] rfl (Qxa))))
  replace hz:=ite_F hz hb_3
  obtain ⟨x4,hx4,hz⟩:=bind_some hz
  obtain ⟨x5,hx5,hz⟩:=bind_some hz
  refine T.drawn mixed (k:=7) rfl (rq [0] 6 (r0 1 rfl (v_index_arr (q:=3) Tryz.underlying158 Ty.c157 Ty.i157 rfl rfl (isAt_some hx4) rfl rfl (off':=3) rfl (rL [2,4,5,6] 2 rfl (ra1 3 (og 3 ⟨rfl,(ra1 4 (oO rfl (cF (stage_mapped_4_c p1 x5 hx5) ⟨rfl,(rq [5] 1 (ra1 6 ?_))⟩)))⟩))))))
  refine og 3 ⟨rfl,(RA.done (by decide +kernel) ?_)⟩
  exact T.weakR (hK () trivial) (Weak.mkN [] [0,1] (by decide) (Qla _) rfl ⟨Qqa rfl,Qqa rfl,trivial⟩ (Jsa (cs:=[iI p1.Key,iI c6,iI p1.Dep]) (ds:=[iI p1.Key,iI x5,iI p1.Dep]) rfl ⟨Qga rfl,Qga ((congrArg (fun p=>p) (Option.some.inj hz)).symm),Qga rfl,trivial⟩ (rw_bs [iI 0,iI 0,iI 0] rfl (Qxa))))
theorem stage_Step_1_c (p0:Keyed) (p1:Int) (r:Int) (h:Jlb p0 p1=some r):Fn Tryz.prog 95 [.agg (Qka p0),iI p1] (iI r):=by
  unfold Jlb at h
  refine fnT 0 Tryz.func95 Tryz.ntmps95 ?_
  refine T.seq (T.region (go 2 0 (RS.nil (T.seq (T.block (T.seq (T.region (go 5 1 (RS.nil ?_)))))))))
  refine T.ci h rfl (fun hb_1 h=>?_) (fun hb_1 h=>?_)
  ·refine T.seq (T.region (go 1 1 (RS.nil ?_)))
   cases h
   exact tD
  refine T.seq (T.region (go 5 1 (RS.nil (T.ci h rfl (fun hb_2 h=>?_) (fun hb_2 h=>?_)))))
  ·refine T.seq (T.region (go 1 1 (RS.nil ?_)))
   cases h
   exact tD
  refine T.skip (T.seq (T.region (go 1 1 (RS.nil ?_))))
  cases h
  exact tD
theorem Q7b (p0:List Keyed) (p1:Int) (r:Int × Bool) (h:Jka p0 p1=some r):Fn Tryz.prog 94 [sL Qka p0,iI p1,.func 95 []] (.tup [iI r.1,.bool r.2]):=by
  unfold Jka at h
  refine fnT 0 Tryz.func94 Tryz.ntmps94 ?_
  refine T.seq (T.region (go 2 0 (RS.nil (T.seq (T.region (go 1 0 (sQ (Qfa Ty.s82 rfl (go 1 0 (RS.nil ?_))))))))))
  refine T.seq (T.region (go 3 0 (RS.nil (T.seq (T.block (T.iter (fun ss_5:Int × Int=>mkA 49 [(0,sL Qka p0),(1,iI p1),(2,.func 95 []),(8,iI ((p0).length:Int)),(9,iI ss_5.1),(10,iI ss_5.2)]) (fun ss_5=>[]) h (wk [] [] 0 rfl) (fun ss_5 v_6 h hv_6=>?_)))))))
  obtain ⟨s1,s2⟩:=ss_5
  replace h:Jea p0 p1 s1 s2=some v_6:=h
  try dsimp only
  unfold Jea at h
  refine T.seq (T.seq (T.region (go 3 0 (RS.nil (T.ci h rfl (fun hb_7 h=>?_) (fun hb_7 h=>?_))))))
  ·refine T.skip (T.block (T.seq ?_))
   obtain ⟨x4,hx4,h⟩:=bind_some h
   refine T.region (go 4 0 (sQ (v_shr rfl rfl hx4 (go 2 0 (RS.nil (T.seq ?_))))))
   obtain ⟨x7,hx7,h⟩:=bind_some h
   obtain ⟨x8,hx8,h⟩:=bind_some h
   refine T.region (go 3 0 (sQ (Qda Ty.s82 (fun _=>rfl) rfl rfl hx7 (go 2 0 (sO (cF (stage_Step_1_c x7 p1 x8 hx8) ⟨rfl,(go 1 0 (RS.nil (T.ci h rfl (fun hb_8 h=>?_) (fun hb_8 h=>?_))))⟩))))))
   ·refine T.region (go 3 0 (RS.nil ?_))
    exact ⟨(IntKind.i64.wrap ((IntKind.i64.wrap x4)+1),s2),(Option.some.inj h).symm,wk [] [] 0 rfl⟩
   refine T.region (go 2 0 (RS.nil ?_))
   exact ⟨(s1,IntKind.i64.wrap x4),(Option.some.inj h).symm,wk [] [] 0 rfl⟩
  refine T.exit ?_
  obtain ⟨w_9,h,hw_9⟩:=Qsa h
  replace h:=h.trans (congrArg some (hv_6 _ hw_9))
  obtain ⟨zt_11,hz,h⟩:=bind_some h
  revert hz h;revert zt_11;intro c11 hz h
  refine T.join (Z:=Unit) (fun _=>mkA 49 [(6,iI s1),(7,.bool c11)]) (fun _=>[]) (fun _=>True) (fun _ _=>?_) (fun hK=>?_)
  ·cases h
   exact tD
  refine T.region (go 5 0 ?_)
  rcases Qha (decide (s1<((p0).length:Int))) with hb_10 | hb_10
  ·replace hz:=ite_T hz hb_10
   obtain ⟨x9,hx9,hz⟩:=bind_some hz
   obtain ⟨x10,hx10,hz⟩:=bind_some hz
   refine yg 0 hb_10 (yg 0 hb_10 (yg 0 hb_10 (yQ hb_10 (Qda Ty.s82 (fun _=>rfl) rfl rfl hx9 (yg 0 hb_10 (yg 0 hb_10 (yO hb_10 (cF (stage_Step_1_c x9 p1 x10 hx10) ⟨rfl,(yg 0 hb_10 (sQ (Qna (v:=.bool (x10==0)) rfl hb_10 rfl (go 2 0 ?_))))⟩))))))))
   refine RS.nil ?_
   exact T.sub (hK () trivial) ⟨rfl,(congrArg AV.bool ((congrArg (fun p=>p) (Option.some.inj hz)).symm)).symm,trivial⟩
  replace hz:=ite_F hz hb_10
  refine sN hb_10 (sN hb_10 (sN hb_10 (sN hb_10 (sN hb_10 (sN hb_10 (sN hb_10 (sN hb_10 (sQ (Qia (v:=.bool false) rfl hb_10 rfl (go 2 0 ?_))))))))))
  refine RS.nil ?_
  exact T.sub (hK () trivial) ⟨rfl,(congrArg AV.bool ((congrArg (fun p=>p) (Option.some.inj hz)).symm)).symm,trivial⟩
theorem slices_Insert_Keyed_xe708_c (p0:Int) (p1:List Keyed) (p2:List Keyed) (r:List Keyed) (h:Zva p0 p1 p2=some r):FnX Tryz.prog 96 [.ref 0,iI p0,.ref 1] [aR 97 2 Qka p1,aR 97 2 Qka p2] (.ref 2) [.dead,.dead,aR 97 2 Qka r]:=by
  unfold Zva at h
  refine fnT 2 Tryz.func96 Tryz.ntmps96 ?_
  refine T.mvS 0 0 rfl rfl rfl rfl (T.exposeM 0 2 (xs:=p1) rfl rfl (fun C hC=>?_))
  have h:=allC_some h C hC
  unfold Yea at h
  refine T.seq (T.region (go 1 3 (RS.nil (T.seq ?_))))
  obtain ⟨x2,hx2,h⟩:=bind_some h
  refine T.region (go 2 3 (sO (o_slice_vc Ty.s82 rfl rfl rfl hx2 (RS.nil (T.seq (T.region (go 1 3 (sQ (Zfa (en:=Qka) Ty.s82 rfl rfl (go 1 3 (RS.nil ?_)))))))))))
  refine T.seq (T.seq (T.region (go 2 3 (RS.nil (T.ci h rfl (fun hb_1 h=>?_) (fun hb_1 h=>?_))))))
  ·cases h
  refine T.skip (T.seq (T.region (go 1 3 (sO (v_len_vw Ty.s82 rfl (go 1 3 (RS.nil (T.seq (T.seq (T.region ?_))))))))))
  refine go 3 3 (RS.nil (T.ci h rfl (fun hb_2 h=>?_) (fun hb_2 h=>?_)))
  ·refine T.seq ?_
   obtain ⟨x4,hx4,h⟩:=bind_some h
   refine T.region (go 2 3 (sO (o_app_vw (en:=Qka) (xs:=p1) (ys:=p2) Ty.s82 (fun _=>rfl) rfl rfl rfl rfl rfl rfl hx4 rfl rfl (go 1 4 (RS.nil ?_)))))
   cases h
   exact tO [] [0,1,3] 4
  refine T.skip (T.seq (T.seq (T.region (go 4 3 (sO (o_cap_vw Ty.s82 rfl (go 1 3 (RS.nil (T.ci h rfl (fun hb_3 h=>?_) (fun hb_3 h=>?_))))))))))
  ·refine T.seq ?_
   obtain ⟨x7,hx7,h⟩:=bind_some h
   obtain ⟨x8,hx8,h⟩:=bind_some h
   refine T.region (go 2 3 (sO (o_slice_vh Ty.s82 rfl rfl hx7 (go 5 3 (sO (o_app_vz (en:=Qka) (z0:=(⟨0,0⟩:Keyed)) (xs:=p1) Ty.s82 Tryz.underlying3 Ty.z97 (fun _=>rfl) rfl rfl rfl hx8 rfl rfl (go 1 4 (RS.nil (T.seq ?_)))))))))
   obtain ⟨x11,hx11,h⟩:=bind_some h
   obtain ⟨x12,hx12,h⟩:=bind_some h
   refine T.region (go 2 4 (sO (Qyb (en:=Qka) (xs:=x8) Ty.s82 rfl rfl rfl rfl hx11 (go 1 4 (sO (o_copy_vr (en:=Qka) (xs:=x8) (ys:=p2) Ty.s82 (fun _=>rfl) rfl rfl rfl rfl hx12 rfl (RS.nil (T.seq ?_))))))))
   obtain ⟨x17,hx17,h⟩:=bind_some h
   obtain ⟨x18,hx18,h⟩:=bind_some h
   obtain ⟨x19,hx19,h⟩:=bind_some h
   obtain ⟨x20,hx20,h⟩:=bind_some h
   refine T.drawn mixed (k:=9) rfl ?_
   apply RA.jn 1 #[true,true,true,true,true,true,true,true,false];intro hS4
   ·refine rq [0,1,2,3,5,6] 3 (ra2 4 7 ?_ ?_)
    ·refine oO rfl (Qyb (en:=Qka) (xs:=(cpy x8 ((p0).toNat) ((((x8).length:Int)).toNat - (p0).toNat) p2)) Ty.s82 rfl rfl rfl rfl hx17 (ra1 7 (oO rfl (o_slice_vc Ty.s82 rfl rfl rfl hx18 ?_))))
     exact raE hS4
    ·refine oO rfl (o_slice_vc Ty.s82 rfl rfl rfl hx18 (ra1 4 (oO rfl (Qyb (en:=Qka) (xs:=(cpy x8 ((p0).toNat) ((((x8).length:Int)).toNat - (p0).toNat) p2)) Ty.s82 rfl rfl rfl rfl hx17 ?_))))
     exact raT hS4
   refine ra1 8 (oO rfl (o_copy_v2 (en:=Qka) (xs:=(cpy x8 ((p0).toNat) ((((x8).length:Int)).toNat - (p0).toNat) p2)) (ys:=p1) Ty.s82 (fun _=>rfl) rfl rfl rfl rfl hx19 hx20 rfl (RA.done (by decide +kernel) (T.seq (T.region (go 2 4 (RS.nil ?_)))))))
   cases h
   exact tO [] [0,1,3] 4
  refine T.skip (T.seq ?_)
  obtain ⟨x22,hx22,h⟩:=bind_some h
  refine T.region (go 4 3 (sO (o_room (en:=Qka) (xs:=p1) Ty.s82 rfl rfl rfl rfl hx22 rfl rfl (go 1 4 (RS.nil (T.seq (T.seq ?_)))))))
  obtain ⟨x25,hx25,h⟩:=bind_some h
  obtain ⟨x26,hx26,h⟩:=bind_some h
  refine T.region (go 5 4 (sO (o_slice_U (en:=Qka) (xs:=p1) Ty.s82 rfl rfl rfl rfl hx25 (sO (o_overlaps (fn:=Tryz.f109) (tS:=82) (tR:=4) (en:=Qka) (xs:=p1) (ys:=p2) Tryz.func109 (by kernel_rfl) (by kernel_rfl) (by kernel_rfl) (by kernel_rfl) Ty.s82 rfl rfl rfl rfl hx26 (go 1 4 (RS.nil (T.ct rfl (T.seq ?_)))))))))
  obtain ⟨x30,hx30,h⟩:=bind_some h
  obtain ⟨x31,hx31,h⟩:=bind_some h
  obtain ⟨x32,hx32,h⟩:=bind_some h
  refine T.drawn mixed (k:=9) rfl ?_
  apply RA.jn 1 #[true,true,true,true,true,true,true,true,false];intro hS5
  ·refine rq [0,1,2,3,5,6] 3 (ra2 4 7 ?_ ?_)
   ·refine oO rfl (o_slice_U (en:=Qka) (xs:=p1) Ty.s82 rfl rfl rfl rfl hx30 (ra1 7 (oO rfl (o_slice_U (en:=Qka) (xs:=p1) Ty.s82 rfl rfl rfl rfl hx31 ?_))))
    exact raE hS5
   ·refine oO rfl (o_slice_U (en:=Qka) (xs:=p1) Ty.s82 rfl rfl rfl rfl hx31 (ra1 4 (oO rfl (o_slice_U (en:=Qka) (xs:=p1) Ty.s82 rfl rfl rfl rfl hx30 ?_))))
    exact raT hS5
  refine ra1 8 (oO rfl (o_copy_U (en:=Qka) (xs:=p1) Ty.s82 (fun _=>rfl) rfl rfl rfl hx32 rfl (RA.done (by decide +kernel) (T.seq ?_))))
  obtain ⟨x35,hx35,h⟩:=bind_some h
  obtain ⟨x36,hx36,h⟩:=bind_some h
  refine T.region (go 2 4 (sO (Qyb (en:=Qka) (xs:=x32) Ty.s82 rfl rfl rfl rfl hx35 (go 1 4 (sO (o_copy_vr (en:=Qka) (xs:=x32) (ys:=p2) Ty.s82 (fun _=>rfl) rfl rfl rfl rfl hx36 rfl (RS.nil (T.seq (T.region (go 2 4 (RS.nil ?_)))))))))))
  cases h
  exact tO [] [0,1,3] 4
theorem Y6a (p0:Int) (p1:Int) (p2:Memory) (p3:Item) (r:Memory × Item × Int) (h:Yza p0 p1 p2 p3=some r):Fn Tryz.prog 74 [iI p0,iI p1,.agg (Qca p2),.agg (Qaa p3)] (.tup [.agg (Qca r.1),.agg (Qaa r.2.1),iI r.2.2]):=by
  unfold Yza at h
  refine fnT 0 Tryz.func74 Tryz.ntmps74 ?_
  refine T.seq (T.region (go 5 0 (RS.nil (T.seq (T.seq ?_)))))
  obtain ⟨x2,hx2,h⟩:=bind_some h
  refine T.region (go 1 4 (sO (cF (stage_Check_c p2 x2 hx2) ⟨rfl,(go 1 4 (RS.nil (T.seq (T.region (go 2 4 (RS.nil (T.ci h rfl (fun hb_1 h=>?_) (fun hb_1 h=>?_))))))))⟩)))
  ·refine T.seq (T.region (go 6 4 (RS.nil ?_)))
   cases h
   exact tD
  refine T.skip (T.seq (T.seq (T.region (go 3 4 (RS.nil (T.ci h rfl (fun hb_2 h=>?_) (fun hb_2 h=>?_)))))))
  ·refine T.seq (T.region (go 5 4 (RS.nil ?_)))
   cases h
   exact tD
  refine T.skip (T.seq ?_)
  obtain ⟨x4,hx4,h⟩:=bind_some h
  refine T.region (go 1 4 (sO (Vja (ac:=[.agg (Qca p2)]) (as0:=[.agg (Qca p2)]) (aw0:=[]) (aw1:=[aR 97 2 Qka x4.Keys]) (aw2:=[.box (Qca p2),.box (Qaa p3),.box [iI 0,.nils,iI 0],.box [iI 0,iI 0,iI 0],aR 97 2 Qka x4.Keys]) (v:=.agg [iI x4.Sum,.ref 0,iI x4.Dep]) (v':=.agg [iI x4.Sum,.ref 4,iI x4.Dep]) (n0:=4) (n1:=1) [] rfl rfl rfl rfl (by decide) (Qxa) ⟨rn_agg ⟨Qga rfl,rn_s rfl,Qga rfl,trivial⟩,trivial⟩ (FnX.of_fnO (stage_Copy_c p2 x4 hx4)) rfl (rm_agg (cs:=[iI x4.Sum,.ref 4,iI x4.Dep]) (ds:=[iI x4.Sum,.ref 0,iI x4.Dep]) ⟨Qua (Qea _ _),Vga (by decide),Qua (Qea _ _),trivial⟩) ⟨.inr ⟨rfl,rfl⟩,.inr ⟨rfl,rfl⟩,.inr ⟨rfl,rfl⟩,.inr ⟨rfl,rfl⟩,.inl ⟨0,_,by decide,rfl,Zca V9a⟩,trivial⟩ (go 1 5 (RS.nil (T.seq (T.seq (T.region (go 1 5 (RS.nil ?_))))))))))
  refine T.block (T.seq (T.region (go 2 5 (RS.nil (T.ci h rfl (fun hb_3 h=>?_) (fun hb_3 h=>?_))))))
  ·refine T.seq (T.join (Z:=Unit) (fun _=>mkA 137 [(1,iI p1),(6,.ptr 0 0),(7,.ptr 1 0),(8,.ptr 2 0),(9,.ptr 3 0),(36,.bool ((decide (p1<0)) || decide (p1 > 3)))]) (fun _=>[.box [iI x4.Sum,.ref 4,iI x4.Dep],.box (Qaa p3),.box [iI 0,.nils,iI 0],.box [iI 0,iI 0,iI 0],aR 97 2 Qka x4.Keys]) (fun _=>True) (fun _ _=>?_) (fun hK=>?_))
   ·refine T.ci h rfl (fun hb_5 h=>?_) (fun hb_5 h=>?_)
    ·refine T.seq (T.region (go 5 5 (RS.nil ?_)))
     cases h
     exact tD
    refine T.skip (T.seq ?_)
    obtain ⟨x7,hx7,h⟩:=bind_some h
    refine T.drawn mixed (k:=7) rfl ?_
    apply RA.jn 3 #[true,true,true,true,false,false,false];intro hS6
    ·refine rq [1] 6 (rL [2,3,4,5,6] 2 rfl (ra2 0 3 ?_ ?_))
     ·refine og 5 ⟨rfl,(ra1 3 (oO rfl (cF (stage_mapped_c p1 p3 x7 hx7) ⟨rfl,?_⟩)))⟩
      exact raE hS6
     ·refine oO rfl (cF (stage_mapped_c p1 p3 x7 hx7) ⟨rfl,(ra1 0 (og 5 ⟨rfl,?_⟩))⟩)
      exact raT hS6
    refine ra1 4 (og 5 ⟨rfl,(ra1 5 (og 5 ⟨rfl,(rq [6] 0 (RA.done (by decide +kernel) ?_))⟩))⟩)
    cases h
    exact tD
   refine T.region (go 3 5 ?_)
   rcases Qha (decide (p1<0)) with hb_4 | hb_4
   ·refine sN hb_4 (sN hb_4 (sQ (Qna (v:=.bool true) rfl hb_4 rfl (RS.nil ?_))))
    exact T.sub (hK () trivial) ⟨rfl,rfl,rfl,rfl,rfl,(congrArg AV.bool (by simp only [hb_4,bz,if_true,if_false,Bool.false_eq_true])).symm,trivial⟩
   refine yg 5 hb_4 (yg 5 hb_4 (sQ (Qia (v:=.bool (decide (p1 > 3))) rfl hb_4 rfl (RS.nil ?_))))
   exact T.sub (hK () trivial) ⟨rfl,rfl,rfl,rfl,rfl,(congrArg AV.bool (by simp only [hb_4,bz,if_true,if_false,Bool.false_eq_true])).symm,trivial⟩
  refine T.seq (T.region (go 2 5 (RS.nil (T.ci h rfl (fun hb_7 h=>?_) (fun hb_7 h=>?_)))))
  ·refine T.seq (T.region (go 7 5 (RS.nil (T.seq (T.region (go 7 5 (RS.nil (T.seq (T.drawn mixed (k:=11) rfl ?_)))))))))
   apply RA.jn 2 #[true,true,true,true,true,true,true,true,true,false,false];intro hS8
   apply RA.jn 3 #[true,true,true,true,true,true,true,true,false,false,false];intro hS9
   apply RA.jn 4 #[true,true,true,true,true,true,false,false,true,false,false];intro hS10
   apply RA.jn 4 #[true,true,true,true,false,true,true,false,true,false,false];intro hS11
   apply RA.jn 5 #[true,true,true,true,false,true,true,false,false,false,false];intro hS12
   apply RA.jn 5 #[true,true,false,true,true,true,true,false,false,false,false];intro hS13
   apply RA.jn 5 #[true,true,true,true,true,true,false,false,false,false,false];intro hS14
   ·refine rq [1,3,5] 8 (rL [0,8,9,10] 0 rfl (ra4 2 4 6 8 ?_ ?_ ?_ ?_))
    ·refine og 5 ⟨rfl,(ra3 4 6 8 ?_ ?_ ?_)⟩
     ·refine og 5 ⟨rfl,?_⟩
      exact raE hS14
     ·refine og 5 ⟨rfl,?_⟩
      exact raE hS12
     ·refine og 5 ⟨rfl,(rL [4,7,9,10] 4 rfl ?_)⟩
      exact raE hS10
    ·refine og 5 ⟨rfl,(ra3 2 6 8 ?_ ?_ ?_)⟩
     ·refine og 5 ⟨rfl,?_⟩
      exact raT hS14
     ·refine og 5 ⟨rfl,?_⟩
      exact raE hS13
     ·refine og 5 ⟨rfl,(rL [2,7,9,10] 2 rfl ?_)⟩
      exact raT hS10
    ·refine og 5 ⟨rfl,(ra3 2 4 8 ?_ ?_ ?_)⟩
     ·refine og 5 ⟨rfl,?_⟩
      exact raT hS12
     ·refine og 5 ⟨rfl,?_⟩
      exact raT hS13
     ·refine og 5 ⟨rfl,(rL [2,7,9,10] 2 rfl ?_)⟩
      exact raE hS11
    ·refine og 5 ⟨rfl,(rL [2,7,9,10] 2 rfl (rL [4,7,9,10] 4 rfl ?_))⟩
     exact raT hS10
   ·refine ra2 6 8 ?_ ?_
    ·refine og 5 ⟨rfl,(rq [7] 3 ?_)⟩
     exact raE hS9
    ·refine og 5 ⟨rfl,?_⟩
     exact raT hS10
   ·refine ra2 2 8 ?_ ?_
    ·refine og 5 ⟨rfl,(rq [7] 3 ?_)⟩
     exact raT hS9
    ·refine og 5 ⟨rfl,(ra1 2 (og 5 ⟨rfl,(rq [7] 2 ?_)⟩))⟩
     exact raE hS8
   ·refine ra2 4 8 ?_ ?_
    ·refine og 5 ⟨rfl,(rq [7] 3 ?_)⟩
     exact raT hS9
    ·refine og 5 ⟨rfl,?_⟩
     exact raT hS11
   ·refine ra1 4 (og 5 ⟨rfl,(rq [7] 2 ?_)⟩)
    exact raT hS8
   ·refine ra1 6 (og 5 ⟨rfl,(rq [7] 2 ?_)⟩)
    exact raT hS8
   ·refine ra1 8 (og 5 ⟨rfl,?_⟩)
    exact raT hS8
   refine ra1 9 (og 5 ⟨rfl,(rq [10] 0 (RA.done (by decide +kernel) ?_))⟩)
   cases h
   exact tD
  refine T.seq (T.region (go 2 5 (RS.nil (T.ci h rfl (fun hb_15 h=>?_) (fun hb_15 h=>?_)))))
  ·refine T.seq ?_
   obtain ⟨x9,hx9,h⟩:=bind_some h
   refine T.region (go 4 5 (sO (cF (Q7b x4.Keys p3.Key x9 hx9) ⟨rfl,(go 5 5 (RS.nil (T.seq (T.region (go 7 5 (RS.nil (T.seq ?_)))))))⟩)))
   refine T.join (Z:=Unit) (fun _=>mkA 137 [(6,.ptr 0 0),(7,.ptr 1 0),(8,.ptr 2 0),(9,.ptr 3 0),(12,iI x9.1),(13,.bool x9.2),(88,.bool ((!x9.2) && ((x4.Keys).length:Int)==6))]) (fun _=>[.box [iI x4.Sum,.ref 4,iI (if p3.Dep > x4.Dep then p3.Dep else x4.Dep)],.box (Qaa p3),.box [iI 0,.nils,iI 0],.box [iI 0,iI 0,iI 0],aR 97 2 Qka x4.Keys]) (fun _=>True) (fun _ _=>?_) (fun hK=>?_)
   ·refine T.ci h rfl (fun hb_17 h=>?_) (fun hb_17 h=>?_)
    ·refine T.seq (T.drawn mixed (k:=9) rfl ?_)
     apply RA.jn 2 #[true,true,true,true,true,true,true,false,false];intro hS18
     apply RA.jn 3 #[true,true,true,true,true,true,false,false,false];intro hS19
     apply RA.jn 4 #[true,true,true,true,false,false,true,false,false];intro hS20
     ·refine rq [1,3] 7 (rL [0,6,7,8] 0 rfl (ra3 2 4 6 ?_ ?_ ?_))
      ·refine og 5 ⟨rfl,(ra2 4 6 ?_ ?_)⟩
       ·refine og 5 ⟨rfl,(rq [5] 3 ?_)⟩
        exact raE hS19
       ·refine og 5 ⟨rfl,?_⟩
        exact raE hS20
      ·refine og 5 ⟨rfl,(ra2 2 6 ?_ ?_)⟩
       ·refine og 5 ⟨rfl,(rq [5] 3 ?_)⟩
        exact raT hS19
       ·refine og 5 ⟨rfl,(ra1 2 (og 5 ⟨rfl,(rq [5] 2 ?_)⟩))⟩
        exact raE hS18
      ·refine og 5 ⟨rfl,(rL [2,5,7,8] 2 rfl ?_)⟩
       exact raT hS20
     ·refine ra1 4 (og 5 ⟨rfl,(rq [5] 2 ?_)⟩)
      exact raT hS18
     ·refine ra1 6 (og 5 ⟨rfl,?_⟩)
      exact raT hS18
     refine ra1 7 (og 5 ⟨rfl,(rq [8] 0 (RA.done (by decide +kernel) ?_))⟩)
     cases h
     exact tD
    refine T.skip (T.join (Z:=List Keyed) (fun zz_22=>mkA 137 [(6,.ptr 0 0),(7,.ptr 1 0),(8,.ptr 2 0),(9,.ptr 3 0),(12,iI x9.1)]) (fun zz_22=>[.box [iI x4.Sum,.ref 4,iI (if p3.Dep > x4.Dep then p3.Dep else x4.Dep)],.box (Qaa p3),.box [iI 0,.nils,iI 0],.box [iI 0,iI 0,iI 0],aR 97 2 Qka zz_22]) (fun zz_22=>V2a p3 x4 x9 zz_22=some r) (fun zz_22 h=>?_) (fun hK1=>?_))
    ·revert h;revert zz_22;intro z12 h
     replace h:V2a p3 x4 x9 z12=some r:=h
     try dsimp only
     unfold V2a at h
     refine T.seq ?_
     obtain ⟨x17,hx17,h⟩:=bind_some h
     obtain ⟨x18,hx18,h⟩:=bind_some h
     obtain ⟨x19,hx19,h⟩:=bind_some h
     obtain ⟨x20,hx20,h⟩:=bind_some h
     refine T.region (go 3 5 (sQ (Qoa (en:=Qka) Ty.s82 rfl rfl rfl hx17 (go 1 5 (sO (Qwa (en:=Qka) (a:=x18) rfl rfl hx18 (Jra Ty.k3 (c:=iI x18.N) rfl (go 1 5 (sQ (Qoa (en:=Qka) Ty.s82 rfl rfl rfl hx19 (go 1 5 (sO (J2a (en:=Qka) (a:=x20) (a':=(⟨x20.Key,IntKind.i64.wrap (x18.N+1)⟩:Keyed)) Ty.c3 Ty.i3 rfl (vs:=[iI (IntKind.i64.wrap (x18.N+1))]) rfl rfl rfl hx20 rfl rfl rfl (RS.nil ?_))))))))))))))
     refine T.seq ?_
     obtain ⟨x23,hx23,h⟩:=bind_some h
     obtain ⟨x24,hx24,h⟩:=bind_some h
     refine T.drawn mixed (k:=15) rfl ?_
     apply RA.jn 2 #[true,true,true,true,true,true,true,true,true,true,true,true,true,false,false];intro hS23
     apply RA.jn 3 #[true,true,true,true,true,true,true,true,true,true,true,true,false,false,false];intro hS24
     apply RA.jn 4 #[true,true,true,true,true,true,true,true,false,true,true,false,true,false,false];intro hS25
     apply RA.jn 4 #[true,true,true,true,true,true,true,true,true,true,false,false,true,false,false];intro hS26
     apply RA.jn 5 #[true,true,true,true,true,true,true,true,false,true,true,false,false,false,false];intro hS27
     apply RA.jn 5 #[true,true,false,true,true,true,true,true,true,true,true,false,false,false,false];intro hS28
     apply RA.jn 5 #[true,true,true,true,true,true,true,true,true,true,false,false,false,false,false];intro hS29
     apply RA.jn 6 #[true,true,false,true,true,true,true,true,false,true,true,false,false,false,false];intro hS30
     apply RA.jn 6 #[true,true,true,true,true,true,true,true,false,true,false,false,false,false,false];intro hS31
     apply RA.jn 7 #[true,true,false,true,true,true,true,true,false,true,false,false,false,false,false];intro hS32
     apply RA.jn 8 #[true,true,true,true,false,true,false,false,false,true,true,false,false,false,false];intro hS33
     apply RA.jn 9 #[true,true,false,true,false,true,false,false,false,true,true,false,false,false,false];intro hS34
     apply RA.jn 9 #[false,true,true,true,false,true,false,false,false,true,true,false,false,false,false];intro hS35
     apply RA.jn 9 #[true,true,true,true,false,true,false,false,false,true,false,false,false,false,false];intro hS36
     ·refine rq [1,3,5,9] 11 (ra4 0 2 4 10 ?_ ?_ ?_ ?_)
      ·refine og 5 ⟨rfl,(ra4 2 4 10 12 ?_ ?_ ?_ ?_)⟩
       ·refine og 5 ⟨rfl,?_⟩
        exact raE hS36
       ·refine og 5 ⟨rfl,(r0 6 rfl (Qoa (en:=Qka) Ty.s82 rfl rfl rfl hx23 (rq [7] 7 ?_)))⟩
        exact raE hS32
       ·refine og 5 ⟨rfl,?_⟩
        exact raE hS34
       ·refine og 5 ⟨rfl,(rL [4,6,7,8,11,13,14] 4 rfl (r0 6 rfl (Qoa (en:=Qka) Ty.s82 rfl rfl rfl hx23 (rq [7] 6 (rL [2,11,13,14] 2 rfl (rL [10,11,13,14] 10 rfl ?_))))))⟩
        exact raE hS25
      ·refine og 5 ⟨rfl,(ra3 0 4 10 ?_ ?_ ?_)⟩
       ·refine og 5 ⟨rfl,?_⟩
        exact raT hS36
       ·refine og 5 ⟨rfl,(r0 6 rfl (Qoa (en:=Qka) Ty.s82 rfl rfl rfl hx23 (rq [7] 7 (rL [0,12,13,14] 0 rfl ?_))))⟩
        exact raE hS31
       ·refine og 5 ⟨rfl,?_⟩
        exact raE hS35
      ·refine og 5 ⟨rfl,(r0 6 rfl (Qoa (en:=Qka) Ty.s82 rfl rfl rfl hx23 (rq [7] 8 (rL [0,12,13,14] 0 rfl ?_))))⟩
       exact raT hS32
      ·refine og 5 ⟨rfl,(ra3 0 2 4 ?_ ?_ ?_)⟩
       ·refine og 5 ⟨rfl,?_⟩
        exact raT hS34
       ·refine og 5 ⟨rfl,?_⟩
        exact raT hS35
       ·refine og 5 ⟨rfl,(r0 6 rfl (Qoa (en:=Qka) Ty.s82 rfl rfl rfl hx23 (rq [7] 7 (rL [0,12,13,14] 0 rfl ?_))))⟩
        exact raE hS30
     ·refine ra3 4 10 12 ?_ ?_ ?_
      ·refine og 5 ⟨rfl,(r0 6 rfl (Qoa (en:=Qka) Ty.s82 rfl rfl rfl hx23 (rq [7] 6 ?_)))⟩
       exact raT hS31
      ·refine og 5 ⟨rfl,?_⟩
       exact raE hS33
      ·refine og 5 ⟨rfl,(rL [4,6,7,8,11,13,14] 4 rfl (r0 6 rfl (Qoa (en:=Qka) Ty.s82 rfl rfl rfl hx23 (rq [7] 5 (rL [10,11,13,14] 10 rfl ?_)))))⟩
       exact raT hS25
     ·refine ra2 0 4 ?_ ?_
      ·refine og 5 ⟨rfl,?_⟩
       exact raT hS33
      ·refine og 5 ⟨rfl,(r0 6 rfl (Qoa (en:=Qka) Ty.s82 rfl rfl rfl hx23 (rq [7] 6 (rL [0,12,13,14] 0 rfl ?_))))⟩
       exact raE hS27
     ·refine ra3 2 4 12 ?_ ?_ ?_
      ·refine og 5 ⟨rfl,?_⟩
       exact raT hS33
      ·refine og 5 ⟨rfl,(r0 6 rfl (Qoa (en:=Qka) Ty.s82 rfl rfl rfl hx23 (rq [7] 6 ?_)))⟩
       exact raT hS30
      ·refine og 5 ⟨rfl,(rL [4,6,7,8,11,13,14] 4 rfl (r0 6 rfl (Qoa (en:=Qka) Ty.s82 rfl rfl rfl hx23 (rq [7] 5 (rL [2,11,13,14] 2 rfl ?_)))))⟩
       exact raT hS25
     ·refine ra2 4 12 ?_ ?_
      ·refine og 5 ⟨rfl,(r0 6 rfl (Qoa (en:=Qka) Ty.s82 rfl rfl rfl hx23 (rq [7] 5 ?_)))⟩
       exact raT hS27
      ·refine og 5 ⟨rfl,(ra1 4 (og 5 ⟨rfl,(r0 6 rfl (Qoa (en:=Qka) Ty.s82 rfl rfl rfl hx23 (rq [7] 4 ?_)))⟩))⟩
       exact raT hS25
     ·refine ra4 2 8 10 12 ?_ ?_ ?_ ?_
      ·refine og 5 ⟨rfl,?_⟩
       exact raT hS31
      ·refine oO rfl (Qwa (en:=Qka) (a:=x24) rfl rfl hx24 (Jra Ty.k3 (c:=iI x24.N) rfl (ra3 2 10 12 ?_ ?_ ?_)))
       ·refine og 5 ⟨rfl,?_⟩
        exact raE hS29
       ·refine og 5 ⟨rfl,?_⟩
        exact raE hS28
       ·refine og 5 ⟨rfl,(rL [2,11,13,14] 2 rfl ?_)⟩
        exact raE hS26
      ·refine og 5 ⟨rfl,?_⟩
       exact raT hS30
      ·refine og 5 ⟨rfl,(rL [2,11,13,14] 2 rfl (rL [10,11,13,14] 10 rfl ?_))⟩
       exact raT hS25
     ·refine ra3 8 10 12 ?_ ?_ ?_
      ·refine oO rfl (Qwa (en:=Qka) (a:=x24) rfl rfl hx24 (Jra Ty.k3 (c:=iI x24.N) rfl ?_))
       exact raT hS29
      ·refine og 5 ⟨rfl,?_⟩
       exact raT hS27
      ·refine og 5 ⟨rfl,(rL [10,11,13,14] 10 rfl ?_)⟩
       exact raT hS25
     ·refine ra3 2 8 12 ?_ ?_ ?_
      ·refine og 5 ⟨rfl,?_⟩
       exact raT hS27
      ·refine oO rfl (Qwa (en:=Qka) (a:=x24) rfl rfl hx24 (Jra Ty.k3 (c:=iI x24.N) rfl ?_))
       exact raT hS28
      ·refine og 5 ⟨rfl,(rL [2,11,13,14] 2 rfl ?_)⟩
       exact raT hS25
     ·refine ra2 10 12 ?_ ?_
      ·refine og 5 ⟨rfl,(rq [11] 3 ?_)⟩
       exact raE hS24
      ·refine og 5 ⟨rfl,?_⟩
       exact raT hS26
     ·refine ra2 2 12 ?_ ?_
      ·refine og 5 ⟨rfl,(rq [11] 3 ?_)⟩
       exact raT hS24
      ·refine og 5 ⟨rfl,(ra1 2 (og 5 ⟨rfl,(rq [11] 2 ?_)⟩))⟩
       exact raE hS23
     ·refine ra2 8 12 ?_ ?_
      ·refine oO rfl (Qwa (en:=Qka) (a:=x24) rfl rfl hx24 (Jra Ty.k3 (c:=iI x24.N) rfl (rq [11] 3 ?_)))
       exact raT hS24
      ·refine og 5 ⟨rfl,?_⟩
       exact raT hS25
     ·refine ra1 10 (og 5 ⟨rfl,(rq [11] 2 ?_)⟩)
      exact raT hS23
     ·refine ra1 8 (oO rfl (Qwa (en:=Qka) (a:=x24) rfl rfl hx24 (Jra Ty.k3 (c:=iI x24.N) rfl (rq [11] 2 ?_))))
      exact raT hS23
     ·refine ra1 12 (og 5 ⟨rfl,?_⟩)
      exact raT hS23
     refine ra1 13 (og 5 ⟨rfl,(rq [14] 0 (RA.done (by decide +kernel) ?_))⟩)
     cases h
     exact tD
    refine T.seq (T.region (go 2 5 (RS.nil (T.ci h rfl (fun hb_37 h=>?_) (fun hb_37 h=>?_)))))
    ·obtain ⟨x11,hx11,h⟩:=bind_some h
     refine T.region (go 6 5 (sO (Qva (rows:=List.map Qka [(⟨p3.Key,0⟩:Keyed)]) (vs:=[.agg [iI p3.Key,iI 0]]) Ty.s82 Ty.z97 rfl rfl rfl rfl rfl rfl (sO (Vja (ac:=[.ref 4,iI x9.1,.ref 5]) (as0:=[.ref 0,iI x9.1,.ref 1]) (aw0:=[aR 97 2 Qka x4.Keys,aR 97 2 Qka ([(⟨p3.Key,0⟩:Keyed)]:List Keyed)]) (aw1:=[.dead,.dead,aR 97 2 Qka x11]) (aw2:=[.box [iI x4.Sum,.ref 4,iI (if p3.Dep > x4.Dep then p3.Dep else x4.Dep)],.box (Qaa p3),.box [iI 0,.nils,iI 0],.box [iI 0,iI 0,iI 0],.dead,.dead,aR 97 2 Qka x11]) (v:=.ref 2) (v':=.ref 6) (n0:=6) (n1:=3) [4,5] rfl rfl rfl rfl (by decide) (Z2a rfl V9a rfl (Z2a rfl V9a rfl (Qxa))) ⟨Qza rfl,Qga rfl,Qza rfl,trivial⟩ (slices_Insert_Keyed_xe708_c x9.1 x4.Keys ([(⟨p3.Key,0⟩:Keyed)]:List Keyed) x11 hx11) rfl (Vga (by decide)) ⟨.inr ⟨rfl,rfl⟩,.inr ⟨rfl,rfl⟩,.inr ⟨rfl,rfl⟩,.inr ⟨rfl,rfl⟩,.inl ⟨0,_,by decide,rfl,trivial⟩,.inl ⟨1,_,by decide,rfl,trivial⟩,.inl ⟨2,_,by decide,rfl,Zca V9a⟩,trivial⟩ (go 2 7 (RS.nil ?_)))))))
     exact T.weakR (hK1 x11 h) (wk [] [0,1,2,3,6] 7 rfl)
    refine T.skip ?_
    exact T.su (hK1 x4.Keys h)
   refine T.region (go 3 5 ?_)
   rcases Qha (!x9.2) with hb_16 | hb_16
   ·refine yg 5 hb_16 (yg 5 hb_16 (yQ hb_16 (Zfa (en:=Qka) Ty.s82 rfl rfl (yg 5 hb_16 (sQ (Qna (v:=.bool (((x4.Keys).length:Int)==6)) rfl hb_16 rfl (RS.nil ?_)))))))
    exact T.sub (hK () trivial) ⟨rfl,rfl,rfl,rfl,rfl,rfl,(congrArg AV.bool (by simp only [hb_16,bz,if_true,if_false,Bool.false_eq_true])).symm,trivial⟩
   refine sN hb_16 (sN hb_16 (sN hb_16 (sN hb_16 (sQ (Qia (v:=.bool false) rfl hb_16 rfl (RS.nil ?_))))))
   exact T.sub (hK () trivial) ⟨rfl,rfl,rfl,rfl,rfl,rfl,(congrArg AV.bool (by simp only [hb_16,bz,if_true,if_false,Bool.false_eq_true])).symm,trivial⟩
  refine T.seq (T.seq (T.region (go 2 5 (RS.nil (T.ci h rfl (fun hb_38 h=>?_) (fun hb_38 h=>?_))))))
  ·refine T.skip (T.ci h rfl (fun hb_39 h=>?_) (fun hb_39 h=>?_))
   ·refine T.seq (T.drawn mixed (k:=5) rfl ?_)
    apply RA.jn 2 #[true,true,true,false,false];intro hS40
    ·refine rL [0,2,3,4] 0 rfl (ra2 1 2 ?_ ?_)
     ·refine og 5 ⟨rfl,(ra1 2 (og 5 ⟨rfl,?_⟩))⟩
      exact raE hS40
     ·refine og 5 ⟨rfl,(ra1 1 (og 5 ⟨rfl,?_⟩))⟩
      exact raT hS40
    refine ra1 3 (og 5 ⟨rfl,(rq [4] 0 (RA.done (by decide +kernel) ?_))⟩)
    cases h
    exact tD
   refine T.skip (T.seq (T.region (go 5 5 (RS.nil ?_))))
   cases h
   exact tD
  refine T.seq (T.region (go 2 5 (RS.nil (T.ci h rfl (fun hb_41 h=>?_) (fun hb_41 h=>?_)))))
  ·refine T.skip (T.ci h rfl (fun hb_42 h=>?_) (fun hb_42 h=>?_))
   ·refine T.seq (T.drawn mixed (k:=5) rfl ?_)
    apply RA.jn 2 #[true,true,true,false,false];intro hS43
    ·refine rL [0,2,3,4] 0 rfl (ra2 1 2 ?_ ?_)
     ·refine og 5 ⟨rfl,(ra1 2 (og 5 ⟨rfl,?_⟩))⟩
      exact raE hS43
     ·refine og 5 ⟨rfl,(ra1 1 (og 5 ⟨rfl,?_⟩))⟩
      exact raT hS43
    refine ra1 3 (og 5 ⟨rfl,(rq [4] 0 (RA.done (by decide +kernel) ?_))⟩)
    cases h
    exact tD
   refine T.skip (T.seq (T.region (go 5 5 (RS.nil ?_))))
   cases h
   exact tD
  refine T.seq (T.region (go 2 5 (RS.nil (T.ci h rfl (fun hb_44 h=>?_) (fun hb_44 h=>?_)))))
  ·refine T.skip (T.ci h rfl (fun hb_45 h=>?_) (fun hb_45 h=>?_))
   ·refine T.seq (T.drawn mixed (k:=5) rfl ?_)
    apply RA.jn 2 #[true,true,true,false,false];intro hS46
    ·refine rL [0,2,3,4] 0 rfl (ra2 1 2 ?_ ?_)
     ·refine og 5 ⟨rfl,(ra1 2 (og 5 ⟨rfl,?_⟩))⟩
      exact raE hS46
     ·refine og 5 ⟨rfl,(ra1 1 (og 5 ⟨rfl,?_⟩))⟩
      exact raT hS46
    refine ra1 3 (og 5 ⟨rfl,(rq [4] 0 (RA.done (by decide +kernel) ?_))⟩)
    cases h
    exact tD
   refine T.skip (T.seq (T.region (go 5 5 (RS.nil ?_))))
   cases h
   exact tD
  refine T.seq (T.region (go 2 5 (RS.nil (T.ci h rfl (fun hb_47 h=>?_) (fun hb_47 h=>?_)))))
  ·refine T.skip (T.ci h rfl (fun hb_48 h=>?_) (fun hb_48 h=>?_))
   ·refine T.seq (T.drawn mixed (k:=5) rfl ?_)
    apply RA.jn 2 #[true,true,true,false,false];intro hS49
    ·refine rL [0,2,3,4] 0 rfl (ra2 1 2 ?_ ?_)
     ·refine og 5 ⟨rfl,(ra1 2 (og 5 ⟨rfl,?_⟩))⟩
      exact raE hS49
     ·refine og 5 ⟨rfl,(ra1 1 (og 5 ⟨rfl,?_⟩))⟩
      exact raT hS49
    refine ra1 3 (og 5 ⟨rfl,(rq [4] 0 (RA.done (by decide +kernel) ?_))⟩)
    cases h
    exact tD
   refine T.skip (T.seq (T.region (go 5 5 (RS.nil ?_))))
   cases h
   exact tD
  refine T.region (go 2 5 (RS.nil (T.ci h rfl (fun hb_50 h=>?_) (fun hb_50 h=>?_))))
  ·refine T.seq (T.drawn mixed (k:=5) rfl ?_)
   apply RA.jn 2 #[true,true,true,false,false];intro hS51
   ·refine rL [0,2,3,4] 0 rfl (ra2 1 2 ?_ ?_)
    ·refine og 5 ⟨rfl,(ra1 2 (og 5 ⟨rfl,?_⟩))⟩
     exact raE hS51
    ·refine og 5 ⟨rfl,(ra1 1 (og 5 ⟨rfl,?_⟩))⟩
     exact raT hS51
   refine ra1 3 (og 5 ⟨rfl,(rq [4] 0 (RA.done (by decide +kernel) ?_))⟩)
   cases h
   exact tD
  refine T.skip (T.seq (T.region (go 5 5 (RS.nil ?_))))
  cases h
  exact tD
theorem move_can_c (p0:Net) (p1:List (List Item)) (p2:State) (p3:Move) (r:Bool) (h:move_can p0 p1 p2 p3=some r):Fn Tryz.prog 60 [.agg (Qma p0),sL (encL Qaa) p1,.agg (Qra p2),.agg (Qta p3)] (.bool r):=by
  unfold move_can at h
  refine fnT 0 Tryz.func60 Tryz.ntmps60 ?_
  refine T.seq (T.region (go 4 0 (RS.nil (T.seq ?_))))
  obtain ⟨x2,hx2,h⟩:=bind_some h
  refine T.region (go 4 3 (sQ (Qda Ty.s22 (fun _=>rfl) rfl rfl hx2 (go 3 3 (RS.nil (T.seq ?_))))))
  obtain ⟨x4,hx4,h⟩:=bind_some h
  refine T.region (go 4 4 (sO (cF (move_head_c p0 p1 p2 p3 x4 hx4) ⟨rfl,(go 6 4 (RS.nil (T.seq ?_)))⟩)))
  obtain ⟨zt_2,hz,h⟩:=bind_some h
  revert hz h;revert zt_2;intro c7 hz h
  refine T.join (Z:=Unit) (fun _=>mkA 76 [(6,.ptr 0 0),(7,.ptr 1 0),(9,.ptr 2 0),(10,.ptr 3 0),(37,.bool c7)]) (fun _=>[.box (Qra p2),.box (Qta p3),.box (Qja x2),.box (Qaa x4.1)]) (fun _=>True) (fun _ _=>?_) (fun hK=>?_)
  ·refine T.ci h rfl (fun hb_3 h=>?_) (fun hb_3 h=>?_)
   ·refine T.seq (T.region (go 1 4 (RS.nil ?_)))
    cases h
    exact tD
   refine T.skip (T.seq (T.join (Z:=Unit) (fun _=>mkA 76 [(6,.ptr 0 0),(7,.ptr 1 0),(9,.ptr 2 0),(10,.ptr 3 0),(57,.bool (if (x2.Kind==6)=true then ((((p2.Choices).length:Int)==500) || ((x2.Kind==8) && ((p2.Out).length:Int)==2000)) else ((x2.Kind==8) && ((p2.Out).length:Int)==2000)))]) (fun _=>[.box (Qra p2),.box (Qta p3),.box (Qja x2),.box (Qaa x4.1)]) (fun _=>True) (fun _ _=>?_) (fun hK=>?_)))
   ·refine T.ci h rfl (fun hb_8 h=>?_) (fun hb_8 h=>?_)
    ·refine T.seq (T.region (go 1 4 (RS.nil ?_)))
     cases h
     exact tD
    refine T.skip (T.seq ?_)
    obtain ⟨x11,hx11,h⟩:=bind_some h
    obtain ⟨x12,hx12,h⟩:=bind_some h
    refine T.drawn mixed (k:=21) rfl ?_
    apply RA.jn 3 #[true,true,true,true,true,true,true,true,true,true,true,true,true,true,true,true,true,true,false,false,false];intro hS9
    apply RA.jn 4 #[true,true,true,true,true,true,true,true,true,true,true,true,true,true,true,true,false,true,false,false,false];intro hS10
    apply RA.jn 4 #[true,true,true,true,true,true,true,true,true,true,true,true,true,true,true,true,true,false,false,false,false];intro hS11
    apply RA.jn 8 #[true,true,true,true,true,true,true,true,true,true,true,false,false,false,false,false,true,true,false,false,false];intro hS12
    ·refine rq [0,2,4,6] 17 (rL [1,11,12,13,14,15,18,19,20] 1 rfl (rL [3,11,12,13,14,15,18,19,20] 3 rfl (rL [5,8,9,11,12,13,14,15,18,19,20] 5 rfl (rL [7,8,9,11,12,13,14,15,18,19,20] 7 rfl (r0 8 rfl (Qda Ty.s27 (fun _=>rfl) rfl rfl hx11 (rL [9,11,12,13,14,15,18,19,20] 9 rfl (rL [10,11,12,13,14,15,18,19,20] 10 rfl (ra3 11 16 17 ?_ ?_ ?_)))))))))
     ·refine oO rfl (cD (Y6a x2.Kind x2.A x11 x4.1 x12 hx12) ⟨rfl,(rq [12,13,14,15] 5 (ra2 16 17 ?_ ?_))⟩)
      ·refine og 4 ⟨rfl,?_⟩
       exact raE hS11
      ·refine og 4 ⟨rfl,?_⟩
       exact raE hS10
     ·refine og 4 ⟨rfl,(ra2 11 17 ?_ ?_)⟩
      ·refine oO rfl (cD (Y6a x2.Kind x2.A x11 x4.1 x12 hx12) ⟨rfl,(rq [12,13,14,15] 4 ?_)⟩)
       exact raT hS11
      ·refine og 5 ⟨rfl,?_⟩
       exact raE hS12
     ·refine og 4 ⟨rfl,(ra2 11 16 ?_ ?_)⟩
      ·refine oO rfl (cD (Y6a x2.Kind x2.A x11 x4.1 x12 hx12) ⟨rfl,(rq [12,13,14,15] 4 ?_)⟩)
       exact raT hS10
      ·refine og 5 ⟨rfl,?_⟩
       exact raV hS12 [0,1,2,3,5,4] rfl
    ·refine ra1 11 (oO rfl (cD (Y6a x2.Kind x2.A x11 x4.1 x12 hx12) ⟨rfl,(rq [12,13,14,15] 3 ?_)⟩))
     exact raE hS9
    ·refine ra1 17 (og 5 ⟨rfl,?_⟩)
     exact raT hS9
    ·refine ra1 16 (og 5 ⟨rfl,?_⟩)
     exact raV hS9 [0,1,2,3,5,4] rfl
    refine ra1 18 (og 6 ⟨rfl,(ra1 19 (og 6 ⟨rfl,(rq [20] 0 (RA.done (by decide +kernel) (T.seq (T.region (go 3 6 (RS.nil ?_))))))⟩))⟩)
    cases h
    exact tD
   refine T.region (go 4 4 ?_)
   rcases Qha (x2.Kind==6) with hb_4 | hb_4
   ·refine yg 4 hb_4 (yg 4 hb_4 (yQ hb_4 (Qfa Ty.s28 rfl (yg 4 hb_4 (sQ (Qna (v:=.bool (((p2.Choices).length:Int)==500)) rfl hb_4 rfl (go 1 4 ?_)))))))
    rcases Qha (((p2.Choices).length:Int)==500) with hb_5 | hb_5
    ·refine sN hb_5 (sN hb_5 (sN hb_5 (sN hb_5 (sU (sU (sU (sU (sN hb_5 (sQ (Qna (v:=.bool true) rfl hb_5 rfl ?_))))))))))
     refine RS.nil ?_
     exact T.sub (hK () trivial) ⟨rfl,rfl,rfl,rfl,(congrArg AV.bool (by simp only [hb_4,hb_5,bz,if_true,if_false,Bool.false_eq_true])).symm,trivial⟩
    refine yg 4 hb_5 (yg 4 hb_5 (yg 4 hb_5 (yg 4 hb_5 ?_)))
    rcases Qha (x2.Kind==8) with hb_6 | hb_6
    ·refine yg 4 hb_6 (yg 4 hb_6 (yQ hb_6 (Qfa Ty.s29 rfl (yg 4 hb_6 (yQ hb_5 (Qna (v:=.bool (((p2.Out).length:Int)==2000)) rfl hb_6 rfl (sQ (Qia (v:=.bool (((p2.Out).length:Int)==2000)) rfl hb_5 rfl (RS.nil ?_)))))))))
     exact T.sub (hK () trivial) ⟨rfl,rfl,rfl,rfl,(congrArg AV.bool (by simp only [hb_4,hb_5,hb_6,bz,if_true,if_false,Bool.false_eq_true])).symm,trivial⟩
    refine sN hb_6 (sN hb_6 (sN hb_6 (sN hb_6 (yQ hb_5 (Qia (v:=.bool false) rfl hb_6 rfl (sQ (Qia (v:=.bool false) rfl hb_5 rfl (RS.nil ?_))))))))
    exact T.sub (hK () trivial) ⟨rfl,rfl,rfl,rfl,(congrArg AV.bool (by simp only [hb_4,hb_5,hb_6,bz,if_true,if_false,Bool.false_eq_true])).symm,trivial⟩
   refine sN hb_4 (sN hb_4 (sN hb_4 (sN hb_4 (sQ (Qia (v:=.bool false) rfl hb_4 rfl (go 1 4 (yg 4 rfl (yg 4 rfl (yg 4 rfl (yg 4 rfl ?_))))))))))
   rcases Qha (x2.Kind==8) with hb_7 | hb_7
   ·refine yg 4 hb_7 (yg 4 hb_7 (yQ hb_7 (Qfa Ty.s29 rfl (yg 4 hb_7 (yQ rfl (Qna (v:=.bool (((p2.Out).length:Int)==2000)) rfl hb_7 rfl (sQ (Qia (v:=.bool (((p2.Out).length:Int)==2000)) rfl rfl rfl (RS.nil ?_)))))))))
    exact T.sub (hK () trivial) ⟨rfl,rfl,rfl,rfl,(congrArg AV.bool (by simp only [hb_4,hb_7,bz,if_true,if_false,Bool.false_eq_true])).symm,trivial⟩
   refine sN hb_7 (sN hb_7 (sN hb_7 (sN hb_7 (yQ rfl (Qia (v:=.bool false) rfl hb_7 rfl (sQ (Qia (v:=.bool false) rfl rfl rfl (RS.nil ?_))))))))
   exact T.sub (hK () trivial) ⟨rfl,rfl,rfl,rfl,(congrArg AV.bool (by simp only [hb_4,hb_7,bz,if_true,if_false,Bool.false_eq_true])).symm,trivial⟩
  refine T.region (go 3 5 ?_)
  rcases Qha (!x4.2) with hb_1 | hb_1
  ·replace hz:=ite_T hz hb_1
   refine sN hb_1 (sN hb_1 (sN hb_1 (sN hb_1 (sN hb_1 (sQ (Qna (v:=.bool true) rfl hb_1 rfl (RS.nil ?_)))))))
   exact T.weakR (hK () trivial) (Weak.mkN [] [1,2,3,4] (by decide) (Qla _) rfl ⟨Qqa rfl,Qqa rfl,Qqa rfl,Qqa rfl,Q6a ((congrArg (fun p=>p) (Option.some.inj hz)).symm),trivial⟩ (rw_bs (Qra p2) rfl (rw_bs (Qta p3) rfl (rw_bs (Qja x2) rfl (rw_bs (Qaa x4.1) rfl (Qxa))))))
  replace hz:=ite_F hz hb_1
  obtain ⟨x5,hx5,hz⟩:=bind_some hz
  obtain ⟨x6,hx6,hz⟩:=bind_some hz
  refine yg 5 hb_1 (yg 5 hb_1 (yO hb_1 (cD (move_outs_c x2 x4.1 x5 hx5) ⟨rfl,(yg 5 hb_1 (yO hb_1 (Vja (ac:=[sL encI x5,.func 88 [.ptr 1 0,.ptr 0 0]]) (as0:=[sL encI x5,.func 88 [.ptr 0 0,.ptr 1 0]]) (aw0:=[.box (Qra p2),.box (Qma p0)]) (aw1:=[.box (Qra p2),.box (Qma p0)]) (aw2:=[.box (Qma p0),.box (Qra p2),.box (Qta p3),.box (Qja x2),.box (Qaa x4.1)]) (v:=.bool x6) (v':=.bool x6) (n0:=5) (n1:=2) [1,0] rfl rfl rfl rfl (by decide) (Jsa (cs:=(Qra p2)) (ds:=(Qra p2)) rfl ⟨rn_s rfl,rn_s rfl,rn_s rfl,rn_s rfl,rn_s rfl,trivial⟩ (Jsa (cs:=(Qma p0)) (ds:=(Qma p0)) rfl ⟨rn_s rfl,Qga rfl,Qga rfl,trivial⟩ (Qxa))) ⟨rn_s rfl,rn_func ⟨Qqa rfl,Qqa rfl,trivial⟩,trivial⟩ (slices_ContainsFunc_int_x9c8e_c x5 p2.At p2.Rings p2.Memory p2.Choices p2.Out p0.Nodes p0.Rings p0.Room x6 hx6) rfl (Qua (Vfa _)) ⟨.inl ⟨1,_,by decide,rfl,Zoa (cs:=(Qma p0)) (ds:=(Qma p0)) ⟨Qua (Qpa Qsb _),Qua (Qea _ _),Qua (Qea _ _),trivial⟩⟩,.inl ⟨0,_,by decide,rfl,Zoa (cs:=(Qra p2)) (ds:=(Qra p2)) ⟨Qua (Qpa Yga _),Qua (Qpa (Y8a Q0a) _),Qua (Qpa Q9a _),Qua (Qpa Q5a _),Qua (Qpa Q0a _),trivial⟩⟩,.inr ⟨rfl,rfl⟩,.inr ⟨rfl,rfl⟩,.inr ⟨rfl,rfl⟩,trivial⟩ (sQ (Qia (v:=.bool x6) rfl hb_1 rfl (RS.nil ?_))))))⟩)))
  exact T.weakR (hK () trivial) (Weak.mkN [] [1,2,3,4] (by decide) (Qla _) rfl ⟨Qqa rfl,Qqa rfl,Qqa rfl,Qqa rfl,Q6a ((congrArg (fun p=>p) (Option.some.inj hz)).symm),trivial⟩ (rw_bs (Qra p2) rfl (rw_bs (Qta p3) rfl (rw_bs (Qja x2) rfl (rw_bs (Qaa x4.1) rfl (Qxa))))))
theorem move_ready_c (p0:Net) (p1:List (List Item)) (p2:State) (r:List Move) (h:move_ready p0 p1 p2=some r):FnO Tryz.prog 32 [.agg (Qma p0),sL (encL Qaa) p1,.agg (Qra p2)] (.ref 0) [aR 51 2 Qta r]:=by
  unfold move_ready at h
  refine fnT 0 Tryz.func32 Tryz.ntmps32 ?_
  refine T.seq (T.region (go 3 0 (RS.nil (T.seq (T.region (go 1 2 (RS.nil (T.seq (T.seq ?_)))))))))
  refine T.region (go 2 2 (sQ (Qfa Ty.s22 rfl (go 1 2 (RS.nil (T.block (T.iter (fun ss_27:Int × (List Move)=>mkA 46 [(1,sL (encL Qaa) p1),(3,.ptr 0 0),(5,.ptr 1 0),(7,.ref 2),(14,sL Qja p0.Nodes),(15,iI ((p0.Nodes).length:Int)),(16,iI ss_27.1)]) (fun ss_27=>[.box (Qma p0),.box (Qra p2),aR 51 2 Qta ss_27.2]) h (wk [(7,51,2)] [0,1,2] 2 rfl) (fun ss_27 v_28 h hv_28=>?_))))))))
  obtain ⟨s1,s2⟩:=ss_27
  replace h:Yoa p0 p1 p2 s1 s2=some v_28:=h
  try dsimp only
  unfold Yoa at h
  refine T.seq (T.region (go 1 3 (RS.nil (T.seq (T.ci h rfl (fun hb_29 h=>?_) (fun hb_29 h=>?_))))))
  ·refine T.skip (T.seq (T.block (T.seq ?_)))
   obtain ⟨x4,hx4,h⟩:=bind_some h
   refine T.region (go 1 3 (sQ (Qda Ty.s22 (fun _=>rfl) rfl rfl hx4 (go 4 3 (RS.nil (T.seq (T.region (go 1 4 (RS.nil (T.join (Z:=Int) (fun zz_31=>mkA 46 [(1,sL (encL Qaa) p1),(3,.ptr 0 0),(5,.ptr 1 0),(7,.ref 2),(8,iI s1),(10,iI zz_31),(14,sL Qja p0.Nodes),(15,iI ((p0.Nodes).length:Int)),(16,iI s1)]) (fun zz_31=>[.box (Qma p0),.box (Qra p2),aR 51 2 Qta s2]) (fun zz_31=>Q3b p0 p1 s1 p2 s2 zz_31=some v_28) (fun zz_31 h=>?_) (fun hK2=>?_)))))))))))
   ·revert h;revert zz_31;intro z5 h
    replace h:Q3b p0 p1 s1 p2 s2 z5=some v_28:=h
    try dsimp only
    unfold Q3b at h
    refine T.seq (T.region (go 2 3 (RS.nil (T.block (T.iter (fun ss_36:Int × (List Move)=>mkA 46 [(1,sL (encL Qaa) p1),(3,.ptr 0 0),(5,.ptr 1 0),(7,.ref 2),(8,iI s1),(14,sL Qja p0.Nodes),(15,iI ((p0.Nodes).length:Int)),(16,iI s1),(27,iI z5),(28,iI ss_36.1)]) (fun ss_36=>[.box (Qma p0),.box (Qra p2),aR 51 2 Qta ss_36.2]) h (wk [] [0,1,2] 3 rfl) (fun ss_36 v_37 h hv_37=>?_))))))
    obtain ⟨s6,s7⟩:=ss_36
    replace h:Z6a p0 p1 s1 p2 z5 s6 s7=some v_37:=h
    try dsimp only
    unfold Z6a at h
    refine T.seq (T.region (go 1 3 (RS.nil (T.seq (T.ci h rfl (fun hb_38 h=>?_) (fun hb_38 h=>?_))))))
    ·refine T.skip (T.seq (T.block (T.seq (T.region (go 2 3 (RS.nil (T.seq (T.region (go 5 3 ?_)))))))))
     refine RS.nil (T.seq ?_)
     obtain ⟨x9,hx9,h⟩:=bind_some h
     refine T.region (go 4 4 (sO (cF (move_can_c p0 p1 p2 (⟨s1,s6⟩:Move) x9 hx9) ⟨rfl,(RS.nil (T.ci h rfl (fun hb_39 h=>?_) (fun hb_39 h=>?_)))⟩)))
     ·obtain ⟨x10,hx10,h⟩:=bind_some h
      refine T.region (go 2 4 (sO (Qva (rows:=List.map Qta [(⟨s1,s6⟩:Move)]) (vs:=[.agg [iI s1,iI s6]]) Ty.s45 Ty.z51 rfl rfl rfl rfl rfl rfl (sO (J5a (en:=Qta) (xs:=s7) (ys:=([(⟨s1,s6⟩:Move)]:List Move)) Ty.s45 (fun _=>rfl) rfl rfl rfl hx10 rfl rfl (go 1 6 (RS.nil (T.region (go 2 6 (RS.nil ?_))))))))))
      exact ⟨(IntKind.i64.wrap (s6+1),x10),(Option.some.inj h).symm,wk [] [0,1,5] 6 rfl⟩
     refine T.skip (T.region (go 2 4 (RS.nil ?_)))
     exact ⟨(IntKind.i64.wrap (s6+1),s7),(Option.some.inj h).symm,wk [] [0,1,2] 4 rfl⟩
    refine T.exit ?_
    obtain ⟨w_40,h,hw_40⟩:=Qsa h
    replace h:=h.trans (congrArg some (hv_37 _ hw_40))
    refine T.region (go 2 3 (RS.nil ?_))
    exact ⟨(IntKind.i64.wrap (s1+1),s7),(Option.some.inj h).symm,wk [] [0,1,2] 3 rfl⟩
   refine T.seq (T.region (go 3 4 (RS.nil (T.ci h rfl (fun hb_41 h=>?_) (fun hb_41 h=>?_)))))
   ·refine T.region (go 2 4 (sQ (Qfa Ty.s26 rfl (go 1 4 (RS.nil ?_)))))
    exact T.weakR (hK2 ((x4.In).length:Int) h) (wk [] [0,1,2] 4 rfl)
   refine T.skip ?_
   exact T.weakR (hK2 1 h) (wk [] [0,1,2] 4 rfl)
  refine T.exit ?_
  obtain ⟨w_42,h,hw_42⟩:=Qsa h
  replace h:=h.trans (congrArg some (hv_28 _ hw_42))
  refine T.seq (T.region (go 2 3 (RS.nil ?_)))
  cases h
  exact tO [] [2] 3
theorem Jga (p0 r:List Item) (h:Jfa p0=some r):FnO Tryz.prog 58 [.sl (List.map Qaa p0)] (.ref 0) [.arr 72 3 (List.map Qaa r)]:=by
  have hr:p0=r:=by
    unfold Jfa app at h
    split at h
    · simpa using h
    · cases h
  refine fn_of_T (N:=0) rfl Tryz.func58 rfl (by kernel_rfl) Tryz.ntmps58 rfl ?_
  show T _ _ _ _ (mkA 8 [(0,.sl (List.map Qaa p0))]) []
  refine T.seq ?_
  refine T.region ?_
  refine RS.op rfl (OP.q rfl (Vba (v:=.nils) rfl ?_))
  refine RS.nil ?_
  refine T.seq ?_
  refine T.seq ?_
  refine T.region ?_
  refine RS.op rfl (OP.q rfl (v_move (v:=.sl (List.map Qaa p0)) rfl ?_))
  refine RS.op rfl (OP.q rfl (v_nileq Ty.s29 rfl rfl (fun z hz=>?_)))
  refine RS.nil ?_
  refine T.cond (b:=z) rfl (fun hb=>?_) (fun hb=>?_)
  · refine T.seq ?_
    refine T.region ?_
    refine RS.op rfl (OP.q rfl (Vba (v:=.nils) rfl ?_))
    refine RS.nil ?_
    refine T.ret ?_
    refine Qfb (v:=.nils) rfl ?_
    refine Yla ?_
    have h0:p0=[]:=List.map_eq_nil_iff.1 (hz hb)
    exact Q5b (.ref 0) [(0,72,3)] [0] (by decide) (Qla _) rfl (Qza rfl) (Z2a (en:=Qaa) (ys:=[]) rfl Q0a (by rw [← hr,h0]) (Qxa)) ⟨rfl,rfl⟩
  · refine T.skip ?_
    refine T.seq ?_
    refine T.region ?_
    refine RS.op rfl (Qva (rows:=List.map Qaa []) (vs:=[]) Ty.s29 Ty.z72 rfl rfl rfl rfl rfl (aw':=[.arr 72 3 (List.map Qaa [])]) rfl ?_)
    refine RS.op rfl (OP.q rfl (v_move (v:=.sl (List.map Qaa p0)) rfl ?_))
    refine RS.op rfl (J5a (en:=Qaa) (xs:=([]:List Item)) (ys:=p0) (r:=r) Ty.s29 (fun _=>rfl) rfl rfl rfl h rfl (aw':=[.dead,.arr 72 3 (List.map Qaa r)]) rfl ?_)
    refine RS.op rfl (OP.q rfl (Vba (v:=.ref 1) rfl ?_))
    refine RS.nil ?_
    refine T.ret ?_
    refine Qfb (v:=.ref 1) rfl ?_
    refine Yla ?_
    exact Q5b (.ref 0) [] [1] (by decide) (Qla _) rfl (Qza rfl) (Z2a rfl Q0a rfl (Qxa)) ⟨rfl,rfl⟩
theorem Ysa (p0:List Item) (r:Item × (List Item) × Int) (h:ring_Take p0=some r):FnO Tryz.prog 72 [sL Qaa p0] (.tup [.agg (Qaa r.1),.ref 0,iI r.2.2]) [aR 72 3 Qaa r.2.1]:=by
  unfold ring_Take at h
  refine fnT 0 Tryz.func72 Tryz.ntmps72 ?_
  refine T.seq (T.region (go 3 0 (RS.nil (T.seq (T.seq (T.region (go 1 1 (sQ (Qfa Ty.s29 rfl (go 1 1 ?_))))))))))
  refine RS.nil (T.ci h rfl (fun hb_1 h=>?_) (fun hb_1 h=>?_))
  ·refine T.seq (T.region (go 4 1 (RS.nil ?_)))
   cases h
   exact tO [(1,72,3)] [1] 1
  refine T.skip (T.seq (T.seq (T.region (go 1 1 (sQ (Qfa Ty.s29 rfl (go 1 1 (RS.nil (T.ci h rfl (fun hb_2 h=>?_) (fun hb_2 h=>?_))))))))))
  ·refine T.seq (T.region (go 4 1 (RS.nil ?_)))
   cases h
   exact tO [(1,72,3)] [1] 1
  refine T.skip (T.seq ?_)
  obtain ⟨x4,hx4,h⟩:=bind_some h
  obtain ⟨x5,hx5,h⟩:=bind_some h
  obtain ⟨x6,hx6,h⟩:=bind_some h
  refine T.drawn mixed (k:=9) rfl ?_
  apply RA.jn 3 #[true,true,true,true,true,true,false,false,false];intro hS3
  ·refine rq [0] 8 (r0 1 rfl (Qda Ty.s29 (fun _=>rfl) rfl rfl hx4 (rq [3] 6 (r0 4 rfl (Vma Ty.s29 (fun _=>rfl) rfl rfl rfl hx5 (ra2 2 5 ?_ ?_))))))
   ·refine og 1 ⟨rfl,(ra1 5 (oO rfl (cO 1 (Jga x5 x6 hx6) ⟨rfl,?_⟩)))⟩
    exact raE hS3
   ·refine oO rfl (cO 1 (Jga x5 x6 hx6) ⟨rfl,(ra1 2 (og 2 ⟨rfl,?_⟩))⟩)
    exact raT hS3
  refine ra1 6 (og 2 ⟨rfl,(rq [7,8] 0 (RA.done (by decide +kernel) ?_))⟩)
  cases h
  exact tO [] [1] 2
theorem ring_Put_c (p0:List Item) (p1:Int) (p2:Item) (r:(List Item) × Int) (h:ring_Put p0 p1 p2=some r):FnO Tryz.prog 75 [sL Qaa p0,iI p1,.agg (Qaa p2)] (.tup [.ref 0,iI r.2]) [aR 72 3 Qaa r.1]:=by
  unfold ring_Put at h
  refine fnT 0 Tryz.func75 Tryz.ntmps75 ?_
  refine T.seq (T.region (go 3 0 (RS.nil (T.seq (T.join (Z:=Unit) (fun _=>mkA 27 [(0,sL Qaa p0),(1,iI p1),(5,.ptr 0 0),(13,.bool ((decide (p1<1)) || decide (p1 > 6)))]) (fun _=>[.box (Qaa p2)]) (fun _=>True) (fun _ _=>?_) (fun hK=>?_))))))
  ·refine T.ci h rfl (fun hb_2 h=>?_) (fun hb_2 h=>?_)
   ·refine T.seq (T.region (go 2 1 (RS.nil ?_)))
    cases h
    exact tO [(0,72,3)] [1] 1
   refine T.skip (T.seq (T.seq (T.region (go 1 1 (sQ (Qfa Ty.s29 rfl (go 2 1 (RS.nil (T.ci h rfl (fun hb_3 h=>?_) (fun hb_3 h=>?_))))))))))
   ·refine T.seq (T.region (go 2 1 (RS.nil ?_)))
    cases h
    exact tO [(0,72,3)] [1] 1
   refine T.skip (T.seq (T.seq (T.region (go 1 1 (sQ (Qfa Ty.s29 rfl (go 2 1 (RS.nil (T.ci h rfl (fun hb_4 h=>?_) (fun hb_4 h=>?_))))))))))
   ·refine T.seq (T.region (go 2 1 (RS.nil ?_)))
    cases h
    exact tO [(0,72,3)] [1] 1
   refine T.skip (T.seq ?_)
   obtain ⟨x4,hx4,h⟩:=bind_some h
   obtain ⟨x5,hx5,h⟩:=bind_some h
   refine T.drawn mixed (k:=7) rfl ?_
   apply RA.jn 3 #[true,true,true,true,false,false,false];intro hS5
   apply RA.jn 4 #[true,true,true,false,false,false,false];intro hS6
   ·refine rq [0] 6 (ra2 1 2 ?_ ?_)
    ·refine oO rfl (cO 1 (Jga p0 x4 hx4) ⟨rfl,(ra1 2 (og 2 ⟨rfl,?_⟩))⟩)
     exact raE hS6
    ·refine og 1 ⟨rfl,(ra2 1 3 ?_ ?_)⟩
     ·refine oO rfl (cO 1 (Jga p0 x4 hx4) ⟨rfl,?_⟩)
      exact raT hS6
     ·refine oO rfl (Qva (rows:=List.map Qaa [p2]) (vs:=[.agg (Qaa p2)]) Ty.s29 Ty.z72 rfl rfl rfl rfl rfl rfl (ra1 1 (oO rfl (cO 2 (Jga p0 x4 hx4) ⟨rfl,?_⟩))))
      exact raE hS5
   ·refine ra1 3 (oO rfl (Qva (rows:=List.map Qaa [p2]) (vs:=[.agg (Qaa p2)]) Ty.s29 Ty.z72 rfl rfl rfl rfl rfl rfl ?_))
    exact raV hS5 [0,2,1] rfl
   refine ra1 4 (oO rfl (J5a (en:=Qaa) (xs:=x4) (ys:=([p2]:List Item)) Ty.s29 (fun _=>rfl) rfl rfl rfl hx5 rfl rfl (rq [5,6] 0 (RA.done (by decide +kernel) ?_))))
   cases h
   exact tO [] [3] 4
  refine T.region (go 3 1 ?_)
  rcases Qha (decide (p1<1)) with hb_1 | hb_1
  ·refine sN hb_1 (sN hb_1 (sQ (Qna (v:=.bool true) rfl hb_1 rfl (RS.nil ?_))))
   exact T.sub (hK () trivial) ⟨rfl,rfl,rfl,(congrArg AV.bool (by simp only [hb_1,bz,if_true,if_false,Bool.false_eq_true])).symm,trivial⟩
  refine yg 1 hb_1 (yg 1 hb_1 (sQ (Qia (v:=.bool (decide (p1 > 6))) rfl hb_1 rfl (RS.nil ?_))))
  exact T.sub (hK () trivial) ⟨rfl,rfl,rfl,(congrArg AV.bool (by simp only [hb_1,bz,if_true,if_false,Bool.false_eq_true])).symm,trivial⟩
theorem move_do_x5aa6_c (p0:Net) (p1:List (List Item)) (p2:Move) (p3:List Int) (p4:List (List Item)) (p5:List Memory) (p6:List Choice) (p7:List Item) (r:(List Int) × (List (List Item)) × (List Memory) × (List Choice) × (List Item)) (h:Qzb p0 p1 p2 p3 p4 p5 p6 p7=some r):FnX Tryz.prog 33 [.agg (Qma p0),sL (encL Qaa) p1,.ptr 0 0,.agg (Qta p2)] [.box [.ref 1,.ref 2,.ref 3,.ref 4,.ref 5],aR 3 1 encI p3,aR 29 1 (encL Qaa) p4,aR 84 3 Qca p5,aR 77 2 Qba p6,aR 72 3 Qaa p7] (.tup []) [.box [.ref 1,.ref 2,.ref 3,.ref 6,.ref 7],aR 3 1 encI r.1,aR 29 1 (encL Qaa) r.2.1,aR 84 3 Qca r.2.2.1,.dead,.dead,aR 77 2 Qba r.2.2.2.1,aR 72 3 Qaa r.2.2.2.2]:=by
  unfold Qzb at h
  refine fnT 6 Tryz.func33 Tryz.ntmps33 ?_
  refine T.mvB 0 4 5 (cs:=[.ref 1,.ref 2,.ref 3,.ref 4,.ref 5]) rfl rfl rfl rfl (cs':=[.ref 1,.ref 2,.ref 3,.ref 4,.ref 6]) rfl rfl (T.mvB 0 3 4 (cs:=[.ref 1,.ref 2,.ref 3,.ref 4,.ref 6]) rfl rfl rfl rfl (cs':=[.ref 1,.ref 2,.ref 3,.ref 7,.ref 6]) rfl rfl (T.seq (T.region (go 2 8 (RS.nil (T.seq ?_))))))
  obtain ⟨x2,hx2,h⟩:=bind_some h
  refine T.region (go 4 10 (sQ (Qda Ty.s22 (fun _=>rfl) rfl rfl hx2 (go 3 10 (RS.nil (T.seq ?_))))))
  obtain ⟨x4,hx4,h⟩:=bind_some h
  refine T.drawn mixed (k:=13) rfl ?_
  apply RA.jn 2 #[true,true,true,true,true,true,true,true,true,true,true,false,false];intro hS1
  ·refine rq [1,2,3] 10 (rL [0,6,7,8,9,11,12] 0 rfl (rL [4,6,7,8,9,11,12] 4 rfl (rL [5,6,7,8,9,11,12] 5 rfl (ra2 6 10 ?_ ?_))))
   ·refine oO rfl (cF (move_head_c p0 p1 (⟨p3,p4,p5,p6,p7⟩:State) p2 x4 hx4) ⟨rfl,(rq [7,8,9] 3 (ra1 10 (og 11 ⟨rfl,?_⟩)))⟩)
    exact raE hS1
   ·refine og 11 ⟨rfl,(ra1 6 (oO rfl (cF (move_head_c p0 p1 (⟨p3,p4,p5,p6,p7⟩:State) p2 x4 hx4) ⟨rfl,(rq [7,8,9] 2 ?_)⟩)))⟩
    exact raT hS1
  refine ra1 11 (og 12 ⟨rfl,(rq [12] 0 (RA.done (by decide +kernel) (T.join (Z:=(List Int) × (List (List Item))) (fun zz_21=>mkA 162 [(2,.ptr 0 0),(4,.ptr 6 0),(7,.ptr 7 0),(8,.ptr 8 0),(9,.ptr 9 0)]) (fun zz_21=>[.box [.ref 1,.ref 2,.ref 3,.ref 10,.ref 11],aR 3 1 encI zz_21.1,aR 29 1 (encL Qaa) zz_21.2,aR 84 3 Qca p5,.dead,.dead,.box (Qma p0),.box (Qta p2),.box (Qja x2),.box (Qaa x4.1),aR 77 2 Qba p6,aR 72 3 Qaa p7]) (fun zz_21=>Vza p0 p2 x2 x4 p5 p6 p7 zz_21.1 zz_21.2=some r) (fun zz_21 h=>?_) (fun hK4=>?_))))⟩)
  ·obtain ⟨z16,z17⟩:=zz_21
   replace h:Vza p0 p2 x2 x4 p5 p6 p7 z16 z17=some r:=h
   try dsimp only
   unfold Vza at h
   refine T.seq ?_
   obtain ⟨x19,hx19,h⟩:=bind_some h
   refine T.region (go 2 12 (sO (cD (move_outs_c x2 x4.1 x19 hx19) ⟨rfl,(go 1 12 (RS.nil (T.join (Z:=Int × (List Choice)) (fun zz_23=>mkA 162 [(2,.ptr 0 0),(4,.ptr 6 0),(7,.ptr 7 0),(8,.ptr 8 0),(9,.ptr 9 0),(11,sL encI x19)]) (fun zz_23=>[.box [.ref 1,.ref 2,.ref 3,.ref 10,.ref 11],aR 3 1 encI z16,aR 29 1 (encL Qaa) z17,aR 84 3 Qca p5,.dead,.dead,.box (Qma p0),.box (Qta p2),.box (Qja x2),.box [iI x4.1.Key,iI x4.1.Val,iI zz_23.1],aR 77 2 Qba zz_23.2,aR 72 3 Qaa p7]) (fun zz_23=>Vya p0 p2 x2 x4 p5 p7 z16 z17 x19 zz_23.1 zz_23.2=some r) (fun zz_23 h=>?_) (fun hK3=>?_))))⟩)))
   ·obtain ⟨z22,z23⟩:=zz_23
    replace h:Vya p0 p2 x2 x4 p5 p7 z16 z17 x19 z22 z23=some r:=h
    try dsimp only
    unfold Vya at h
    refine T.seq ?_
    obtain ⟨x29,hx29,h⟩:=bind_some h
    obtain ⟨x30,hx30,h⟩:=bind_some h
    obtain ⟨x31,hx31,h⟩:=bind_some h
    obtain ⟨x32,hx32,h⟩:=bind_some h
    obtain ⟨x33,hx33,h⟩:=bind_some h
    refine T.drawn mixed (k:=27) rfl ?_
    apply RA.jn 2 #[true,true,true,true,true,true,true,true,true,true,true,true,true,true,true,true,true,true,true,true,true,true,true,true,true,false,false];intro hS24
    apply RA.jn 4 #[true,true,true,true,true,false,true,true,true,true,true,true,true,true,true,true,true,true,true,true,true,true,true,true,false,false,false];intro hS25
    apply RA.jn 8 #[true,true,true,true,true,true,true,true,true,true,true,true,true,true,true,true,true,true,true,false,false,false,false,false,false,false,false];intro hS26
    apply RA.jn 9 #[true,true,true,true,true,false,true,true,true,true,true,true,true,true,true,true,true,true,true,false,false,false,false,false,false,false,false];intro hS27
    apply RA.jn 9 #[true,true,true,false,true,true,true,true,true,true,true,true,true,true,true,true,true,true,true,false,false,false,false,false,false,false,false];intro hS28
    apply RA.jn 9 #[true,true,true,true,true,true,true,true,true,true,true,true,true,true,true,true,true,false,true,false,false,false,false,false,false,false,false];intro hS29
    ·refine rq [0,1,2,4,6,8,10,11,12,14] 17 (rL [7,19,20,21,22,23,24,25,26] 7 rfl (rL [9,19,20,21,22,23,24,25,26] 9 rfl (rL [13,16,17,19,20,21,22,23,24,25,26] 13 rfl (rL [15,16,17,19,20,21,22,23,24,25,26] 15 rfl (r0 16 rfl (Qoa (en:=Qca) Ty.s27 rfl rfl rfl hx29 (rL [18,19,20,21,22,23,24,25,26] 18 rfl (ra3 3 5 17 ?_ ?_ ?_))))))))
     ·refine og 12 ⟨rfl,(ra2 5 17 ?_ ?_)⟩
      ·refine og 12 ⟨rfl,?_⟩
       exact raE hS29
      ·refine oO rfl (Qwa (en:=Qca) (a:=x30) rfl rfl hx30 (Ywa Ty.k84 Ty.c84 rfl (cs:=(Qca x30)) rfl ?_))
       exact raE hS27
     ·refine og 12 ⟨rfl,(ra2 3 17 ?_ ?_)⟩
      ·refine og 12 ⟨rfl,?_⟩
       exact raT hS29
      ·refine oO rfl (Qwa (en:=Qca) (a:=x30) rfl rfl hx30 (Ywa Ty.k84 Ty.c84 rfl (cs:=(Qca x30)) rfl ?_))
       exact raE hS28
     ·refine oO rfl (Qwa (en:=Qca) (a:=x30) rfl rfl hx30 (Ywa Ty.k84 Ty.c84 rfl (cs:=(Qca x30)) rfl (ra3 3 5 19 ?_ ?_ ?_)))
      ·refine og 12 ⟨rfl,?_⟩
       exact raT hS27
      ·refine og 12 ⟨rfl,?_⟩
       exact raT hS28
      ·refine oO rfl (cD (Y6a x2.Kind x2.A x30 (⟨x4.1.Key,x4.1.Val,z22⟩:Item) x31 hx31) ⟨rfl,(rq [20,21,22,23] 5 (rL [3,24,25,26] 3 rfl ?_))⟩)
       exact raE hS25
    ·refine ra1 17 (oO rfl (Qwa (en:=Qca) (a:=x30) rfl rfl hx30 (Ywa Ty.k84 Ty.c84 rfl (cs:=(Qca x30)) rfl ?_)))
     exact raE hS26
    ·refine ra2 3 19 ?_ ?_
     ·refine og 12 ⟨rfl,?_⟩
      exact raT hS26
     ·refine oO rfl (cD (Y6a x2.Kind x2.A x30 (⟨x4.1.Key,x4.1.Val,z22⟩:Item) x31 hx31) ⟨rfl,(rq [20,21,22,23] 4 (ra1 3 (og 12 ⟨rfl,(r0 24 rfl (Qoa (en:=Qca) Ty.s27 rfl rfl rfl hx32 ?_))⟩)))⟩)
      exact raE hS24
    ·refine ra2 5 19 ?_ ?_
     ·refine og 12 ⟨rfl,?_⟩
      exact raT hS26
     ·refine oO rfl (cD (Y6a x2.Kind x2.A x30 (⟨x4.1.Key,x4.1.Val,z22⟩:Item) x31 hx31) ⟨rfl,(rq [20,21,22,23] 4 ?_)⟩)
      exact raT hS25
    ·refine ra1 19 (oO rfl (cD (Y6a x2.Kind x2.A x30 (⟨x4.1.Key,x4.1.Val,z22⟩:Item) x31 hx31) ⟨rfl,(rq [20,21,22,23] 3 (r0 24 rfl (Qoa (en:=Qca) Ty.s27 rfl rfl rfl hx32 ?_)))⟩))
     exact raT hS24
    ·refine ra1 5 (og 12 ⟨rfl,(r0 24 rfl (Qoa (en:=Qca) Ty.s27 rfl rfl rfl hx32 ?_))⟩)
     exact raT hS24
    refine ra1 25 (oO rfl (J2a (en:=Qca) (a:=x33) (a':=x31.1) Ty.c84 Ty.i84 rfl (vs:=[iI x31.1.Sum,sL Qka x31.1.Keys,iI x31.1.Dep]) rfl rfl rfl hx33 rfl rfl rfl (ra1 26 (og 12 ⟨rfl,(RA.done (by decide +kernel) (T.join (Z:=List Item) (fun zz_31=>mkA 162 [(2,.ptr 0 0),(4,.ptr 6 0),(9,.ptr 7 0),(11,sL encI x19)]) (fun zz_31=>[.box [.ref 1,.ref 2,.ref 3,.ref 8,.ref 9],aR 3 1 encI z16,aR 29 1 (encL Qaa) z17,aR 84 3 Qca (List.set p5 x32 x31.1),.dead,.dead,.box (Qma p0),.box (Qaa x31.2.1),aR 77 2 Qba z23,aR 72 3 Qaa zz_31]) (fun zz_31=>Yka p0 p5 z16 z17 x19 z23 x31 x32 zz_31=some r) (fun zz_31 h=>?_) (fun hK2=>?_)))⟩))))
    ·revert h;revert zz_31;intro z35 h
     replace h:Yka p0 p5 z16 z17 x19 z23 x31 x32 z35=some r:=h
     try dsimp only
     unfold Yka at h
     refine T.seq (T.region (go 1 10 (sQ (Qfa Ty.s26 rfl (go 1 10 (RS.nil (T.block (T.iter (fun ss_38:Int × (List (List Item))=>mkA 162 [(2,.ptr 0 0),(4,.ptr 6 0),(9,.ptr 7 0),(135,sL encI x19),(136,iI ((x19).length:Int)),(137,iI ss_38.1)]) (fun ss_38=>[.box [.ref 1,.ref 2,.ref 3,.ref 8,.ref 9],aR 3 1 encI z16,aR 29 1 (encL Qaa) ss_38.2,aR 84 3 Qca (List.set p5 x32 x31.1),.dead,.dead,.box (Qma p0),.box (Qaa x31.2.1),aR 77 2 Qba z23,aR 72 3 Qaa z35]) h (wk [] [0,1,2,3,4,5,6,7,8,9] 10 rfl) (fun ss_38 v_39 h hv_39=>?_)))))))))
     obtain ⟨s36,s37⟩:=ss_38
     replace h:Vaa p0 p5 z16 x19 z23 x31 x32 z35 s36 s37=some v_39:=h
     try dsimp only
     unfold Vaa at h
     refine T.seq (T.region (go 1 10 (RS.nil (T.seq (T.ci h rfl (fun hb_40 h=>?_) (fun hb_40 h=>?_))))))
     ·refine T.skip (T.seq (T.block (T.seq ?_)))
      obtain ⟨x39,hx39,h⟩:=bind_some h
      refine T.region (sQ (Qda Ty.s26 (fun _=>rfl) rfl rfl hx39 (go 2 10 (RS.nil ?_))))
      obtain ⟨x40,hx40,h⟩:=bind_some h
      obtain ⟨x41,hx41,h⟩:=bind_some h
      obtain ⟨x42,hx42,h⟩:=bind_some h
      obtain ⟨x43,hx43,h⟩:=bind_some h
      obtain ⟨x44,hx44,h⟩:=bind_some h
      refine T.drawn mixed (k:=21) rfl ?_
      apply RA.jn 1 #[true,true,true,true,true,true,true,true,true,true,true,true,true,true,true,true,true,true,true,true,false];intro hS41
      apply RA.jn 6 #[true,true,true,true,true,true,true,true,true,true,true,true,true,true,true,false,false,false,false,false,false];intro hS42
      ·refine rq [0,1,2,4,5,6,7,9,12] 12 (rL [8,10,11,15,16,17,18,19,20] 8 rfl (r0 10 rfl (Qoa (en:=(encL Qaa)) Ty.s25 rfl rfl rfl hx40 (rL [13,15,16,17,18,19,20] 13 rfl (rL [14,15,16,17,18,19,20] 14 rfl (ra2 3 11 ?_ ?_))))))
       ·refine og 10 ⟨rfl,(ra1 11 (oO rfl (Qwa (en:=(encL Qaa)) (a:=x41) rfl rfl hx41 (Jra Ty.k29 (c:=sL Qaa x41) rfl ?_))))⟩
        exact raE hS42
       ·refine oO rfl (Qwa (en:=(encL Qaa)) (a:=x41) rfl rfl hx41 (Jra Ty.k29 (c:=sL Qaa x41) rfl (ra2 3 15 ?_ ?_)))
        ·refine og 10 ⟨rfl,?_⟩
         exact raT hS42
        ·refine oO rfl (cO 10 (ring_Put_c x41 p0.Room x31.2.1 x42 hx42) ⟨rfl,(rq [16,17,18] 3 (ra1 3 (og 11 ⟨rfl,(r0 19 rfl (Qoa (en:=(encL Qaa)) Ty.s25 rfl rfl rfl hx43 ?_))⟩)))⟩)
         exact raE hS41
      ·refine ra1 15 (oO rfl (cO 10 (ring_Put_c x41 p0.Room x31.2.1 x42 hx42) ⟨rfl,(rq [16,17,18] 2 (r0 19 rfl (Qoa (en:=(encL Qaa)) Ty.s25 rfl rfl rfl hx43 ?_)))⟩))
       exact raT hS41
      refine ra1 20 (RO.fC 10 (oO rfl (J2a (en:=(encL Qaa)) (a:=x44) (a':=x42.1) Ty.c29 Ty.i29 rfl (vs:=[sL Qaa x42.1]) rfl rfl rfl hx44 rfl rfl rfl (RA.done (by decide +kernel) (T.region (go 2 11 (RS.nil ?_)))))))
      exact ⟨(IntKind.i64.wrap (s36+1),(List.set s37 x43 x42.1)),(Option.some.inj h).symm,wk [] [0,1,2,3,4,5,6,7,8,9] 11 rfl⟩
     refine T.exit ?_
     obtain ⟨w_43,h,hw_43⟩:=Qsa h
     replace h:=h.trans (congrArg some (hv_39 _ hw_43))
     refine exN (Yla ?_)
     exact ret_norm (v:=.tup []) (aw1:=[.box [.ref 1,.ref 2,.ref 3,.ref 8,.ref 9],aR 3 1 encI z16,aR 29 1 (encL Qaa) s37,aR 84 3 Qca (List.set p5 x32 x31.1),.dead,.dead,.box (Qma p0),.box (Qaa x31.2.1),aR 77 2 Qba z23,aR 72 3 Qaa z35]) (.tup []) [0,1,2,3,4,5,8,9] rfl (by decide) (by decide) (rn_tup trivial) (Jsa (cs:=[.ref 1,.ref 2,.ref 3,.ref 6,.ref 7]) (ds:=[.ref 1,.ref 2,.ref 3,.ref 8,.ref 9]) rfl ⟨Qza rfl,Qza rfl,Qza rfl,Qza rfl,Qza rfl,trivial⟩ (Z2a rfl Yga (congrArg (fun r:(List Int) × (List (List Item)) × (List Memory) × (List Choice) × (List Item)=>r.1) (Option.some.inj h)).symm (Z2a rfl (Y8a Q0a) (congrArg (fun r:(List Int) × (List (List Item)) × (List Memory) × (List Choice) × (List Item)=>r.2.1) (Option.some.inj h)).symm (Z2a rfl Q9a (congrArg (fun r:(List Int) × (List (List Item)) × (List Memory) × (List Choice) × (List Item)=>r.2.2.1) (Option.some.inj h)).symm (rw_dead rfl (rw_dead rfl (Z2a rfl Q5a (congrArg (fun r:(List Int) × (List (List Item)) × (List Memory) × (List Choice) × (List Item)=>r.2.2.2.1) (Option.some.inj h)).symm (Z2a rfl Q0a (congrArg (fun r:(List Int) × (List (List Item)) × (List Memory) × (List Choice) × (List Item)=>r.2.2.2.2) (Option.some.inj h)).symm (Qxa))))))))) ⟨rfl,rfl⟩
    refine T.seq (T.region (go 3 12 (RS.nil (T.ci h rfl (fun hb_44 h=>?_) (fun hb_44 h=>?_)))))
    ·obtain ⟨x34,hx34,h⟩:=bind_some h
     refine T.drawn mixed (k:=11) rfl (rq [0,1,2,3] 7 (rL [4,7,8,9,10] 4 rfl (ra1 5 (og 12 ⟨rfl,(ra1 6 (oO rfl (Qva (rows:=List.map Qaa [x31.2.1]) (vs:=[.agg (Qaa x31.2.1)]) Ty.s29 Ty.z72 rfl rfl rfl rfl rfl rfl (ra1 7 (oO rfl (J5a (en:=Qaa) (xs:=p7) (ys:=([x31.2.1]:List Item)) Ty.s29 (fun _=>rfl) rfl rfl rfl hx34 rfl rfl (rq [8,9] 1 ?_)))))))⟩))))
     refine ra1 10 (og 14 ⟨rfl,(RA.done (by decide +kernel) ?_)⟩)
     exact T.weakR (hK2 x34 h) (wk [] [0,1,2,3,4,5,6,9,10,13] 14 rfl)
    refine T.skip ?_
    exact T.weakR (hK2 p7 h) (wk [] [0,1,2,3,4,5,6,9,10,11] 12 rfl)
   refine T.seq (T.region (go 3 12 (RS.nil (T.ci h rfl (fun hb_45 h=>?_) (fun hb_45 h=>?_)))))
   ·refine T.seq ?_
    obtain ⟨x21,hx21,h⟩:=bind_some h
    refine T.drawn mixed (k:=15) rfl (rq [0,1,2,3,5,7] 9 (rL [4,11,12,13,14] 4 rfl (rL [6,9,10,11,12,13,14] 6 rfl (ra1 8 (og 12 ⟨rfl,(rq [9] 5 (ra1 10 (oO rfl (Qva (rows:=List.map Qba [(⟨p2.Node,p2.Lane⟩:Choice)]) (vs:=[.agg (Qta p2)]) Ty.s28 Ty.z77 rfl rfl rfl rfl rfl rfl (ra1 11 ?_)))))⟩)))))
    refine oO rfl (J5a (en:=Qba) (xs:=p6) (ys:=([(⟨p2.Node,p2.Lane⟩:Choice)]:List Choice)) Ty.s28 (fun _=>rfl) rfl rfl rfl hx21 rfl rfl (rq [12,13] 1 (ra1 14 (og 14 ⟨rfl,(RA.done (by decide +kernel) (T.region (go 4 14 (sQ (Zfa (en:=Qba) Ty.s28 rfl rfl (go 2 14 (RS.nil ?_)))))))⟩))))
    exact T.weakR (hK3 (((x21).length:Int),x21) h) (wk [] [0,1,2,3,4,5,6,7,8,9,13,11] 14 rfl)
   refine T.skip ?_
   exact T.su (hK3 (x4.1.Dep,p6) h)
  refine T.seq (T.region (go 3 12 (RS.nil (T.ci h rfl (fun hb_46 h=>?_) (fun hb_46 h=>?_)))))
  ·obtain ⟨x5,hx5,h⟩:=bind_some h
   obtain ⟨x6,hx6,h⟩:=bind_some h
   obtain ⟨x7,hx7,h⟩:=bind_some h
   obtain ⟨x8,hx8,h⟩:=bind_some h
   refine T.drawn mixed (k:=11) rfl (rq [0,1,2,4] 7 (rL [3,6,7,8,9,10] 3 rfl (ra1 5 (og 12 ⟨rfl,(r0 6 rfl (Qoa (en:=encI) Ty.s26 rfl rfl rfl hx5 (ra1 7 (oO rfl (Qwa (en:=encI) (a:=x6) rfl rfl hx6 (Jra Ty.k3 (c:=iI x6) rfl (rq [8] 2 (r0 9 rfl (Qoa (en:=encI) Ty.s26 rfl rfl rfl hx7 ?_)))))))))⟩))))
   refine ra1 10 (oO rfl (J2a (en:=encI) (a:=x8) (a':=IntKind.i64.wrap (x6+1)) Ty.c3 Ty.i3 rfl (vs:=[iI (IntKind.i64.wrap (x6+1))]) rfl rfl rfl hx8 rfl rfl rfl (RA.done (by decide +kernel) ?_)))
   exact T.weakR (hK4 ((List.set p3 x7 (IntKind.i64.wrap (x6+1))),p4) h) (wk [] [0,1,2,3,4,5,8,9,10,11,7,6] 12 rfl)
  obtain ⟨x9,hx9,h⟩:=bind_some h
  obtain ⟨x10,hx10,h⟩:=bind_some h
  obtain ⟨x11,hx11,h⟩:=bind_some h
  obtain ⟨x12,hx12,h⟩:=bind_some h
  obtain ⟨x13,hx13,h⟩:=bind_some h
  obtain ⟨x14,hx14,h⟩:=bind_some h
  obtain ⟨x15,hx15,h⟩:=bind_some h
  refine T.drawn mixed (k:=29) rfl ?_
  apply RA.jn 1 #[true,true,true,true,true,true,true,true,true,true,true,true,true,true,true,true,true,true,true,true,true,true,true,true,true,true,true,true,false];intro hS47
  apply RA.jn 3 #[true,true,true,true,true,true,true,true,true,false,true,true,true,true,true,true,true,true,true,true,true,true,true,true,true,true,true,false,false];intro hS48
  apply RA.jn 5 #[true,true,true,true,true,true,true,false,false,false,true,true,true,true,true,true,true,true,true,true,true,true,true,true,true,true,true,false,false];intro hS49
  apply RA.jn 5 #[true,true,true,true,true,false,true,true,false,false,true,true,true,true,true,true,true,true,true,true,true,true,true,true,true,true,true,false,false];intro hS50
  apply RA.jn 7 #[true,true,true,true,true,true,true,true,true,true,true,true,true,true,true,true,true,true,true,true,true,true,false,false,false,false,false,false,false];intro hS51
  apply RA.jn 8 #[true,true,true,true,true,true,true,true,true,false,true,true,true,true,true,true,true,true,true,true,true,true,false,false,false,false,false,false,false];intro hS52
  apply RA.jn 8 #[true,true,true,false,true,true,true,true,true,true,true,true,true,true,true,true,true,true,true,true,true,true,false,false,false,false,false,false,false];intro hS53
  apply RA.jn 8 #[true,true,true,true,true,true,true,true,true,true,true,true,true,true,true,true,true,true,true,true,true,false,false,false,false,false,false,false,false];intro hS54
  apply RA.jn 9 #[true,true,true,false,true,true,true,true,true,false,true,true,true,true,true,true,true,true,true,true,true,true,false,false,false,false,false,false,false];intro hS55
  apply RA.jn 9 #[true,true,true,true,true,true,true,true,true,false,true,true,true,true,true,true,true,true,true,true,true,false,false,false,false,false,false,false,false];intro hS56
  apply RA.jn 10 #[true,true,true,true,true,false,true,true,false,false,true,true,true,true,true,true,true,true,true,true,true,true,false,false,false,false,false,false,false];intro hS57
  apply RA.jn 10 #[true,true,true,true,true,true,true,false,false,false,true,true,true,true,true,true,true,true,true,true,true,true,false,false,false,false,false,false,false];intro hS58
  apply RA.jn 10 #[true,true,true,false,true,true,true,true,true,false,true,true,true,true,true,true,true,true,true,true,true,false,false,false,false,false,false,false,false];intro hS59
  apply RA.jn 11 #[true,true,true,true,true,false,true,false,false,false,true,true,true,true,true,true,true,true,true,true,true,true,false,false,false,false,false,false,false];intro hS60
  apply RA.jn 11 #[true,true,true,false,true,true,true,false,false,false,true,true,true,true,true,true,true,true,true,true,true,true,false,false,false,false,false,false,false];intro hS61
  apply RA.jn 11 #[true,true,true,false,true,false,true,true,false,false,true,true,true,true,true,true,true,true,true,true,true,true,false,false,false,false,false,false,false];intro hS62
  apply RA.jn 11 #[true,true,true,true,true,false,true,true,false,false,true,true,true,true,true,true,true,true,true,true,true,false,false,false,false,false,false,false,false];intro hS63
  apply RA.jn 11 #[true,true,true,true,true,true,true,false,false,false,true,true,true,true,true,true,true,true,true,true,true,false,false,false,false,false,false,false,false];intro hS64
  ·refine rq [0,1,2,4,6,10,11,12,14,16] 19 (rL [13,20,21,22,23,24,25,26,27,28] 13 rfl (rL [15,18,19,20,21,22,23,24,25,26,27,28] 15 rfl (rL [17,18,19,20,21,22,23,24,25,26,27,28] 17 rfl (r0 18 rfl (Qda Ty.s26 (fun _=>rfl) rfl rfl hx10 (rL [19,20,21,22,23,24,25,26,27,28] 19 rfl (r0 20 rfl (Qoa (en:=(encL Qaa)) Ty.s25 rfl rfl rfl hx11 (ra4 3 5 7 21 ?_ ?_ ?_ ?_)))))))))
   ·refine og 12 ⟨rfl,(ra3 5 7 21 ?_ ?_ ?_)⟩
    ·refine og 12 ⟨rfl,?_⟩
     exact raE hS64
    ·refine og 12 ⟨rfl,?_⟩
     exact raE hS63
    ·refine oO rfl (Qwa (en:=(encL Qaa)) (a:=x12) rfl rfl hx12 (Jra Ty.k29 (c:=sL Qaa x12) rfl ?_))
     exact raE hS60
   ·refine og 12 ⟨rfl,(ra3 3 7 21 ?_ ?_ ?_)⟩
    ·refine og 12 ⟨rfl,?_⟩
     exact raT hS64
    ·refine og 12 ⟨rfl,(r0 8 rfl (Qda Ty.s26 (fun _=>rfl) rfl rfl hx9 ?_))⟩
     exact raE hS59
    ·refine oO rfl (Qwa (en:=(encL Qaa)) (a:=x12) rfl rfl hx12 (Jra Ty.k29 (c:=sL Qaa x12) rfl ?_))
     exact raE hS61
   ·refine og 12 ⟨rfl,(ra3 3 5 21 ?_ ?_ ?_)⟩
    ·refine og 12 ⟨rfl,?_⟩
     exact raT hS63
    ·refine og 12 ⟨rfl,(r0 8 rfl (Qda Ty.s26 (fun _=>rfl) rfl rfl hx9 ?_))⟩
     exact raT hS59
    ·refine oO rfl (Qwa (en:=(encL Qaa)) (a:=x12) rfl rfl hx12 (Jra Ty.k29 (c:=sL Qaa x12) rfl ?_))
     exact raE hS62
   ·refine oO rfl (Qwa (en:=(encL Qaa)) (a:=x12) rfl rfl hx12 (Jra Ty.k29 (c:=sL Qaa x12) rfl (ra4 3 5 7 22 ?_ ?_ ?_ ?_)))
    ·refine og 12 ⟨rfl,?_⟩
     exact raT hS60
    ·refine og 12 ⟨rfl,?_⟩
     exact raT hS61
    ·refine og 12 ⟨rfl,?_⟩
     exact raT hS62
    ·refine oO rfl (cO 12 (Ysa x12 x13 hx13) ⟨rfl,(rq [23,24,25,26] 7 (rL [3,27,28] 3 rfl (rL [5,8,9,27,28] 5 rfl ?_)))⟩)
     exact raE hS49
  ·refine ra2 7 21 ?_ ?_
   ·refine og 12 ⟨rfl,(r0 8 rfl (Qda Ty.s26 (fun _=>rfl) rfl rfl hx9 ?_))⟩
    exact raE hS56
   ·refine oO rfl (Qwa (en:=(encL Qaa)) (a:=x12) rfl rfl hx12 (Jra Ty.k29 (c:=sL Qaa x12) rfl ?_))
    exact raE hS58
  ·refine ra2 5 21 ?_ ?_
   ·refine og 12 ⟨rfl,(r0 8 rfl (Qda Ty.s26 (fun _=>rfl) rfl rfl hx9 ?_))⟩
    exact raT hS56
   ·refine oO rfl (Qwa (en:=(encL Qaa)) (a:=x12) rfl rfl hx12 (Jra Ty.k29 (c:=sL Qaa x12) rfl ?_))
    exact raE hS57
  ·refine ra3 3 5 22 ?_ ?_ ?_
   ·refine og 12 ⟨rfl,?_⟩
    exact raT hS57
   ·refine og 12 ⟨rfl,(r0 8 rfl (Qda Ty.s26 (fun _=>rfl) rfl rfl hx9 ?_))⟩
    exact raE hS55
   ·refine oO rfl (cO 12 (Ysa x12 x13 hx13) ⟨rfl,(rq [23,24,25,26] 6 (rL [3,27,28] 3 rfl ?_))⟩)
    exact raE hS50
  ·refine ra3 3 7 22 ?_ ?_ ?_
   ·refine og 12 ⟨rfl,?_⟩
    exact raT hS58
   ·refine og 12 ⟨rfl,(r0 8 rfl (Qda Ty.s26 (fun _=>rfl) rfl rfl hx9 ?_))⟩
    exact raT hS55
   ·refine oO rfl (cO 12 (Ysa x12 x13 hx13) ⟨rfl,(rq [23,24,25,26] 6 (rL [3,27,28] 3 rfl ?_))⟩)
    exact raT hS49
  ·refine ra3 5 7 22 ?_ ?_ ?_
   ·refine og 12 ⟨rfl,?_⟩
    exact raT hS58
   ·refine og 12 ⟨rfl,?_⟩
    exact raT hS57
   ·refine oO rfl (cO 12 (Ysa x12 x13 hx13) ⟨rfl,(rq [23,24,25,26] 6 (rL [5,8,9,27,28] 5 rfl ?_))⟩)
    exact raT hS49
  ·refine ra3 3 9 21 ?_ ?_ ?_
   ·refine og 12 ⟨rfl,?_⟩
    exact raT hS56
   ·refine og 12 ⟨rfl,(ra2 3 21 ?_ ?_)⟩
    ·refine og 12 ⟨rfl,?_⟩
     exact raE hS54
    ·refine oO rfl (Qwa (en:=(encL Qaa)) (a:=x12) rfl rfl hx12 (Jra Ty.k29 (c:=sL Qaa x12) rfl ?_))
     exact raE hS53
   ·refine oO rfl (Qwa (en:=(encL Qaa)) (a:=x12) rfl rfl hx12 (Jra Ty.k29 (c:=sL Qaa x12) rfl ?_))
    exact raT hS55
  ·refine ra2 7 22 ?_ ?_
   ·refine og 12 ⟨rfl,(r0 8 rfl (Qda Ty.s26 (fun _=>rfl) rfl rfl hx9 ?_))⟩
    exact raE hS52
   ·refine oO rfl (cO 12 (Ysa x12 x13 hx13) ⟨rfl,(rq [23,24,25,26] 5 ?_)⟩)
    exact raT hS49
  ·refine ra2 5 22 ?_ ?_
   ·refine og 12 ⟨rfl,(r0 8 rfl (Qda Ty.s26 (fun _=>rfl) rfl rfl hx9 ?_))⟩
    exact raT hS52
   ·refine oO rfl (cO 12 (Ysa x12 x13 hx13) ⟨rfl,(rq [23,24,25,26] 5 ?_)⟩)
    exact raT hS50
  ·refine ra2 9 21 ?_ ?_
   ·refine og 12 ⟨rfl,?_⟩
    exact raT hS54
   ·refine oO rfl (Qwa (en:=(encL Qaa)) (a:=x12) rfl rfl hx12 (Jra Ty.k29 (c:=sL Qaa x12) rfl ?_))
    exact raT hS52
  ·refine ra3 3 9 22 ?_ ?_ ?_
   ·refine og 12 ⟨rfl,?_⟩
    exact raT hS52
   ·refine og 12 ⟨rfl,?_⟩
    exact raT hS53
   ·refine oO rfl (cO 12 (Ysa x12 x13 hx13) ⟨rfl,(rq [23,24,25,26] 4 (rL [3,27,28] 3 rfl ?_))⟩)
    exact raE hS48
  ·refine ra1 21 (oO rfl (Qwa (en:=(encL Qaa)) (a:=x12) rfl rfl hx12 (Jra Ty.k29 (c:=sL Qaa x12) rfl ?_)))
   exact raE hS51
  ·refine ra2 3 22 ?_ ?_
   ·refine og 12 ⟨rfl,?_⟩
    exact raT hS51
   ·refine oO rfl (cO 12 (Ysa x12 x13 hx13) ⟨rfl,(rq [23,24,25,26] 3 (ra1 3 (og 13 ⟨rfl,(r0 27 rfl (Qoa (en:=(encL Qaa)) Ty.s25 rfl rfl rfl hx14 ?_))⟩)))⟩)
    exact raE hS47
  ·refine ra2 9 22 ?_ ?_
   ·refine og 12 ⟨rfl,?_⟩
    exact raT hS51
   ·refine oO rfl (cO 12 (Ysa x12 x13 hx13) ⟨rfl,(rq [23,24,25,26] 3 ?_)⟩)
    exact raT hS48
  ·refine ra1 22 (oO rfl (cO 12 (Ysa x12 x13 hx13) ⟨rfl,(rq [23,24,25,26] 2 (r0 27 rfl (Qoa (en:=(encL Qaa)) Ty.s25 rfl rfl rfl hx14 ?_)))⟩))
   exact raT hS47
  ·refine ra1 5 (og 13 ⟨rfl,(r0 8 rfl (Qda Ty.s26 (fun _=>rfl) rfl rfl hx9 ?_))⟩)
   exact raT hS48
  ·refine ra1 7 (og 13 ⟨rfl,(r0 8 rfl (Qda Ty.s26 (fun _=>rfl) rfl rfl hx9 ?_))⟩)
   exact raT hS48
  ·refine ra1 9 (og 13 ⟨rfl,(r0 27 rfl (Qoa (en:=(encL Qaa)) Ty.s25 rfl rfl rfl hx14 ?_))⟩)
   exact raT hS47
  refine ra1 28 (RO.fC 12 (oO rfl (J2a (en:=(encL Qaa)) (a:=x15) (a':=x13.2.1) Ty.c29 Ty.i29 rfl (vs:=[sL Qaa x13.2.1]) rfl rfl rfl hx15 rfl rfl rfl (RA.done (by decide +kernel) ?_))))
  exact T.weakR (hK4 (p3,(List.set p4 x14 x13.2.1)) h) (wk [] [0,1,2,3,4,5,8,9,10,11,7,6] 13 rfl)
end Go.Proofs.YtfbmoockopakjaaGreat
namespace Go.Proofs.YtfbmoockopakjaaGreat
open Go.RowKit
set_option linter.unusedVariables false
set_option linter.unusedSimpArgs false
set_option maxRecDepth 100000
set_option maxHeartbeats 4000000
set_option synthInstance.maxSize 100000
set_option synthInstance.maxHeartbeats 4000000
theorem move_Check_1_1_xa01a_c (p0:Item) (p1:List Int) (p2:List (List Item)) (p3:List Memory) (p4:List Choice) (p5:List Item) (r:Bool) (h:Yva p0 p1 p2 p3 p4 p5=some r):FnX Tryz.prog 53 [.agg (Qaa p0),.ptr 0 0] [.box [sL encI p1,sL (encL Qaa) p2,sL Qca p3,sL Qba p4,sL Qaa p5]] (.bool r) [.box [sL encI p1,sL (encL Qaa) p2,sL Qca p3,sL Qba p4,sL Qaa p5]]:=by
  unfold Yva at h
  refine fnT 1 Tryz.func53 Tryz.ntmps53 ?_
  refine T.seq (T.region (go 2 1 (RS.nil (T.join (Z:=Unit) (fun _=>mkA 15 [(3,.bool ((decide (p0.Dep<0)) || decide (p0.Dep > ((p4).length:Int))))]) (fun _=>[.box [sL encI p1,sL (encL Qaa) p2,sL Qca p3,sL Qba p4,sL Qaa p5]]) (fun _=>True) (fun _ _=>?_) (fun hK=>?_)))))
  ·cases h
   exact tN [0]
  refine T.region (go 4 2 ?_)
  rcases Qha (decide (p0.Dep<0)) with hb_1 | hb_1
  ·refine sN hb_1 (sN hb_1 (sN hb_1 (sN hb_1 (sN hb_1 (sN hb_1 (sQ (Qna (v:=.bool true) rfl hb_1 rfl (go 1 2 (RS.nil ?_)))))))))
   exact T.weakR (hK () trivial) (Weak.mkN [] [0] (by decide) (by decide) rfl ⟨Q6a (by simp only [hb_1,bz,if_true,if_false,Bool.false_eq_true]),trivial⟩ (rw_bs [sL encI p1,sL (encL Qaa) p2,sL Qca p3,sL Qba p4,sL Qaa p5] rfl (Qxa)))
  refine yg 2 hb_1 (yg 2 hb_1 (yg 2 hb_1 (yg 2 hb_1 (yQ hb_1 (Qfa Ty.s28 rfl (yg 2 hb_1 (sQ (Qia (v:=.bool (decide (p0.Dep > ((p4).length:Int)))) rfl hb_1 rfl (go 1 2 (RS.nil ?_))))))))))
  exact T.weakR (hK () trivial) (Weak.mkN [] [0] (by decide) (by decide) rfl ⟨Q6a (by simp only [hb_1,bz,if_true,if_false,Bool.false_eq_true]),trivial⟩ (rw_bs [sL encI p1,sL (encL Qaa) p2,sL Qca p3,sL Qba p4,sL Qaa p5] rfl (Qxa)))
theorem slices_IndexFunc_Item_xd8db_c (p0:List Item) (p1:List Int) (p2:List (List Item)) (p3:List Memory) (p4:List Choice) (p5:List Item) (r:Int) (h:Z8a p0 p1 p2 p3 p4 p5=some r):FnX Tryz.prog 86 [sL Qaa p0,.func 53 [.ptr 0 0]] [.box [sL encI p1,sL (encL Qaa) p2,sL Qca p3,sL Qba p4,sL Qaa p5]] (iI r) [.box [sL encI p1,sL (encL Qaa) p2,sL Qca p3,sL Qba p4,sL Qaa p5]]:=by
  unfold Z8a at h
  refine fnT 1 Tryz.func86 Tryz.ntmps86 ?_
  refine T.seq (T.region (go 1 1 (RS.nil (T.seq (T.seq (T.region (go 1 1 (sQ (Qfa Ty.s29 rfl (go 1 1 ?_))))))))))
  refine RS.nil (T.block (T.iter (fun ss_5:Int=>mkA 19 [(0,sL Qaa p0),(1,.func 53 [.ptr 0 0]),(7,iI ((p0).length:Int)),(8,iI ss_5)]) (fun ss_5=>[.box [sL encI p1,sL (encL Qaa) p2,sL Qca p3,sL Qba p4,sL Qaa p5]]) h (wk [] [0] 1 rfl) (fun ss_5 v_6 h hv_6=>?_)))
  revert hv_6 h;revert ss_5;intro s1 h hv_6
  replace h:J0a p0 p1 p2 p3 p4 p5 s1=some v_6:=h
  try dsimp only
  unfold J0a at h
  refine T.seq (T.region (go 1 1 (RS.nil (T.seq (T.ci h rfl (fun hb_7 h=>?_) (fun hb_7 h=>?_))))))
  ·refine T.skip (T.seq (T.block (T.seq (T.region (go 2 1 (RS.nil (T.seq ?_)))))))
   obtain ⟨x4,hx4,h⟩:=bind_some h
   obtain ⟨x5,hx5,h⟩:=bind_some h
   refine T.region (go 3 1 (sQ (Qda Ty.s29 (fun _=>rfl) rfl rfl hx4 (go 1 1 (sO (Vja (ac:=[.agg (Qaa x4),.ptr 0 0]) (as0:=[.agg (Qaa x4),.ptr 0 0]) (aw0:=[.box [sL encI p1,sL (encL Qaa) p2,sL Qca p3,sL Qba p4,sL Qaa p5]]) (aw1:=[.box [sL encI p1,sL (encL Qaa) p2,sL Qca p3,sL Qba p4,sL Qaa p5]]) (aw2:=[.box [sL encI p1,sL (encL Qaa) p2,sL Qca p3,sL Qba p4,sL Qaa p5]]) (v:=.bool x5) (v':=.bool x5) (n0:=1) (n1:=1) [0] rfl rfl rfl rfl (by decide) (Jsa (cs:=[sL encI p1,sL (encL Qaa) p2,sL Qca p3,sL Qba p4,sL Qaa p5]) (ds:=[sL encI p1,sL (encL Qaa) p2,sL Qca p3,sL Qba p4,sL Qaa p5]) rfl ⟨rn_s rfl,rn_s rfl,rn_s rfl,rn_s rfl,rn_s rfl,trivial⟩ (Qxa)) ⟨rn_agg ⟨Qga rfl,Qga rfl,Qga rfl,trivial⟩,Qqa rfl,trivial⟩ (move_Check_1_1_xa01a_c x4 p1 p2 p3 p4 p5 x5 hx5) rfl (Qua (Vfa _)) ⟨.inl ⟨0,_,by decide,rfl,Zoa (cs:=[sL encI p1,sL (encL Qaa) p2,sL Qca p3,sL Qba p4,sL Qaa p5]) (ds:=[sL encI p1,sL (encL Qaa) p2,sL Qca p3,sL Qba p4,sL Qaa p5]) ⟨Qua (Qpa Yga _),Qua (Qpa (Y8a Q0a) _),Qua (Qpa Q9a _),Qua (Qpa Q5a _),Qua (Qpa Q0a _),trivial⟩⟩,trivial⟩ (RS.nil (T.ci h rfl (fun hb_8 h=>?_) (fun hb_8 h=>?_)))))))))
   ·refine T.seq (T.region (go 2 1 (RS.nil ?_)))
    obtain ⟨w_9,h,hw_9⟩:=Qsa h
    replace h:=h.trans (congrArg some (hv_6 _ hw_9))
    cases h
    exact tN [0]
   refine T.skip (T.region (go 2 1 (RS.nil ?_)))
   exact ⟨IntKind.i64.wrap (s1+1),(Option.some.inj h).symm,wk [] [0] 1 rfl⟩
  refine T.exit ?_
  obtain ⟨w_10,h,hw_10⟩:=Qsa h
  replace h:=h.trans (congrArg some (hv_6 _ hw_10))
  refine T.seq (T.region (go 1 1 (RS.nil ?_)))
  cases h
  exact tN [0]
theorem slices_ContainsFunc_Item_xd8db_c (p0:List Item) (p1:List Int) (p2:List (List Item)) (p3:List Memory) (p4:List Choice) (p5:List Item) (r:Bool) (h:Zqa p0 p1 p2 p3 p4 p5=some r):FnX Tryz.prog 52 [sL Qaa p0,.func 53 [.ptr 0 0]] [.box [sL encI p1,sL (encL Qaa) p2,sL Qca p3,sL Qba p4,sL Qaa p5]] (.bool r) [.box [sL encI p1,sL (encL Qaa) p2,sL Qca p3,sL Qba p4,sL Qaa p5]]:=by
  unfold Zqa at h
  refine fnT 1 Tryz.func52 Tryz.ntmps52 ?_
  refine T.seq (T.region (go 1 1 (RS.nil (T.seq ?_))))
  obtain ⟨x2,hx2,h⟩:=bind_some h
  refine T.region (go 2 1 (sO (Vja (ac:=[sL Qaa p0,.func 53 [.ptr 0 0]]) (as0:=[sL Qaa p0,.func 53 [.ptr 0 0]]) (aw0:=[.box [sL encI p1,sL (encL Qaa) p2,sL Qca p3,sL Qba p4,sL Qaa p5]]) (aw1:=[.box [sL encI p1,sL (encL Qaa) p2,sL Qca p3,sL Qba p4,sL Qaa p5]]) (aw2:=[.box [sL encI p1,sL (encL Qaa) p2,sL Qca p3,sL Qba p4,sL Qaa p5]]) (v:=iI x2) (v':=iI x2) (n0:=1) (n1:=1) [0] rfl rfl rfl rfl (by decide) (Jsa (cs:=[sL encI p1,sL (encL Qaa) p2,sL Qca p3,sL Qba p4,sL Qaa p5]) (ds:=[sL encI p1,sL (encL Qaa) p2,sL Qca p3,sL Qba p4,sL Qaa p5]) rfl ⟨rn_s rfl,rn_s rfl,rn_s rfl,rn_s rfl,rn_s rfl,trivial⟩ (Qxa)) ⟨rn_s rfl,rn_func ⟨Qqa rfl,trivial⟩,trivial⟩ (slices_IndexFunc_Item_xd8db_c p0 p1 p2 p3 p4 p5 x2 hx2) rfl (Qua (Qea _ _)) ⟨.inl ⟨0,_,by decide,rfl,Zoa (cs:=[sL encI p1,sL (encL Qaa) p2,sL Qca p3,sL Qba p4,sL Qaa p5]) (ds:=[sL encI p1,sL (encL Qaa) p2,sL Qca p3,sL Qba p4,sL Qaa p5]) ⟨Qua (Qpa Yga _),Qua (Qpa (Y8a Q0a) _),Qua (Qpa Q9a _),Qua (Qpa Q5a _),Qua (Qpa Q0a _),trivial⟩⟩,trivial⟩ (go 2 1 (RS.nil ?_)))))
  cases h
  exact tN [0]
theorem move_Check_1_xa01a_c (p0:List Item) (p1:List Int) (p2:List (List Item)) (p3:List Memory) (p4:List Choice) (p5:List Item) (r:Bool) (h:Vwa p0 p1 p2 p3 p4 p5=some r):FnX Tryz.prog 51 [sL Qaa p0,.ptr 0 0] [.box [sL encI p1,sL (encL Qaa) p2,sL Qca p3,sL Qba p4,sL Qaa p5]] (.bool r) [.box [sL encI p1,sL (encL Qaa) p2,sL Qca p3,sL Qba p4,sL Qaa p5]]:=by
  unfold Vwa at h
  refine fnT 1 Tryz.func51 Tryz.ntmps51 ?_
  refine T.seq (T.region (go 1 1 (RS.nil (T.seq ?_))))
  obtain ⟨x2,hx2,h⟩:=bind_some h
  refine T.region (go 2 1 (sO (Vja (ac:=[sL Qaa p0,.func 53 [.ptr 0 0]]) (as0:=[sL Qaa p0,.func 53 [.ptr 0 0]]) (aw0:=[.box [sL encI p1,sL (encL Qaa) p2,sL Qca p3,sL Qba p4,sL Qaa p5]]) (aw1:=[.box [sL encI p1,sL (encL Qaa) p2,sL Qca p3,sL Qba p4,sL Qaa p5]]) (aw2:=[.box [sL encI p1,sL (encL Qaa) p2,sL Qca p3,sL Qba p4,sL Qaa p5]]) (v:=.bool x2) (v':=.bool x2) (n0:=1) (n1:=1) [0] rfl rfl rfl rfl (by decide) (Jsa (cs:=[sL encI p1,sL (encL Qaa) p2,sL Qca p3,sL Qba p4,sL Qaa p5]) (ds:=[sL encI p1,sL (encL Qaa) p2,sL Qca p3,sL Qba p4,sL Qaa p5]) rfl ⟨rn_s rfl,rn_s rfl,rn_s rfl,rn_s rfl,rn_s rfl,trivial⟩ (Qxa)) ⟨rn_s rfl,rn_func ⟨Qqa rfl,trivial⟩,trivial⟩ (slices_ContainsFunc_Item_xd8db_c p0 p1 p2 p3 p4 p5 x2 hx2) rfl (Qua (Vfa _)) ⟨.inl ⟨0,_,by decide,rfl,Zoa (cs:=[sL encI p1,sL (encL Qaa) p2,sL Qca p3,sL Qba p4,sL Qaa p5]) (ds:=[sL encI p1,sL (encL Qaa) p2,sL Qca p3,sL Qba p4,sL Qaa p5]) ⟨Qua (Qpa Yga _),Qua (Qpa (Y8a Q0a) _),Qua (Qpa Q9a _),Qua (Qpa Q5a _),Qua (Qpa Q0a _),trivial⟩⟩,trivial⟩ (go 2 1 (RS.nil ?_)))))
  cases h
  exact tN [0]
theorem move_choice_c (p0:Net) (p1:Choice) (r:Bool) (h:move_choice p0 p1=some r):Fn Tryz.prog 55 [.agg (Qma p0),.agg (Qba p1)] (.bool r):=by
  unfold move_choice at h
  refine fnT 0 Tryz.func55 Tryz.ntmps55 ?_
  refine T.seq (T.region (go 3 0 (RS.nil ?_)))
  obtain ⟨zt_5,hz,h⟩:=bind_some h
  revert hz h;revert zt_5;intro c3 hz h
  refine T.join (Z:=Unit) (fun _=>mkA 44 [(4,.bool c3)]) (fun _=>[]) (fun _=>True) (fun _ _=>?_) (fun hK=>?_)
  ·cases h
   exact tD
  rcases Qha (decide (p1.Node ≥ 0)) with hb_1 | hb_1
  ·replace hz:=ite_T hz hb_1
   rcases Qha (decide (p1.Node<((p0.Nodes).length:Int))) with hb_2 | hb_2
   ·replace hz:=ite_T hz hb_2
    obtain ⟨x1,hx1,hz⟩:=bind_some hz
    rcases Qha (x1.Kind==6) with hb_3 | hb_3
    ·replace hz:=ite_T hz hb_3
     rcases Qha (decide (p1.Lane ≥ 0)) with hb_4 | hb_4
     ·replace hz:=ite_T hz hb_4
      obtain ⟨x2,hx2,hz⟩:=bind_some hz
      refine T.drawn mixed (k:=40) rfl ?_
      apply RA.jn 0 #[true,true,true,true,true,true,true,true,true,true,true,true,true,true,true,true,true,true,true,true,true,true,true,true,true,true,true,true,true,true,true,true,true,true,true,true,true,true,true,true];intro hS6
      apply RA.jn 5 #[true,true,true,true,true,true,true,true,true,true,true,true,true,true,true,true,true,true,true,true,true,true,true,true,true,true,true,true,true,true,true,true,true,true,true,false,false,false,false,false];intro hS7
      apply RA.jn 6 #[true,true,true,true,true,true,true,true,true,true,true,true,true,true,true,true,true,true,true,true,true,true,true,true,true,true,true,true,false,true,true,true,true,true,true,false,false,false,false,false];intro hS8
      apply RA.jn 8 #[true,true,true,true,true,true,true,true,true,true,true,true,true,true,true,true,true,true,true,true,true,true,true,true,true,true,true,true,true,true,false,true,true,false,false,false,false,false,false,false];intro hS9
      apply RA.jn 8 #[true,true,true,true,true,true,true,true,true,true,true,true,true,true,true,true,true,true,true,true,true,true,true,true,true,true,true,true,true,true,true,true,false,false,false,false,false,false,false,false];intro hS10
      apply RA.jn 22 #[true,true,true,true,true,true,true,true,true,true,true,true,true,true,true,true,true,true,false,false,false,false,false,false,false,false,false,false,false,false,false,false,false,false,false,false,false,false,false,false];intro hS11
      apply RA.jn 26 #[true,true,true,true,true,true,true,true,true,true,true,true,true,false,true,false,false,false,false,false,false,false,false,false,false,false,false,false,false,false,false,false,false,false,false,false,false,false,false,false];intro hS12
      ·refine rq [0] 39 (ra1 1 (og 2 ⟨rfl,(rq [2,3] 36 (ry 4 hb_1 rfl (ry 6 hb_1 rfl (ra2 5 7 ?_ ?_))))⟩))
       ·refine oy 2 hb_1 rfl (ra1 7 (oy 2 hb_1 rfl (r1 8 rfl hb_1 (Qfa Ty.s22 rfl (ry 9 hb_1 rfl (r0 10 rfl (Qna (v:=.bool (decide (p1.Node<((p0.Nodes).length:Int)))) rfl hb_1 rfl (rq [11] 28 (ry 12 hb_2 rfl (ry 14 hb_2 rfl ?_))))))))))
        exact raE hS12
       ·refine oy 2 hb_1 rfl (r1 8 rfl hb_1 (Qfa Ty.s22 rfl (ra1 5 (oy 2 hb_1 rfl (ry 9 hb_1 rfl (r0 10 rfl (Qna (v:=.bool (decide (p1.Node<((p0.Nodes).length:Int)))) rfl hb_1 rfl (rq [11] 28 (ry 12 hb_2 rfl (ry 14 hb_2 rfl ?_))))))))))
        exact raT hS12
      ·refine ra2 13 15 ?_ ?_
       ·refine oy 2 hb_2 rfl (ra1 15 (oy 2 hb_2 rfl (r1 16 rfl hb_2 (Qda Ty.s22 (fun _=>rfl) rfl rfl hx1 (ry 17 hb_2 rfl ?_)))))
        exact raE hS11
       ·refine oy 2 hb_2 rfl (ra1 13 (oy 2 hb_2 rfl (r1 16 rfl hb_2 (Qda Ty.s22 (fun _=>rfl) rfl rfl hx1 (ry 17 hb_2 rfl ?_)))))
        exact raT hS11
      ·refine ra1 18 (oy 2 hb_2 rfl (ry 19 hb_2 rfl (r0 20 rfl (Qna (v:=.bool (x1.Kind==6)) rfl hb_2 rfl (rq [21] 18 (ry 22 hb_3 rfl (ra1 23 (oy 2 hb_3 rfl (ry 24 hb_3 rfl (r0 25 rfl (Qna (v:=.bool (decide (p1.Lane ≥ 0))) rfl hb_3 rfl ?_)))))))))))
       refine rq [26] 13 (ry 27 hb_4 rfl (ry 29 hb_4 rfl (ry 31 hb_4 rfl (ra3 28 30 32 ?_ ?_ ?_))))
       ·refine oy 2 hb_4 rfl (ra2 30 32 ?_ ?_)
        ·refine oy 2 hb_4 rfl ?_
         exact raE hS10
        ·refine oy 2 hb_4 rfl ?_
         exact raE hS9
       ·refine oy 2 hb_4 rfl (ra2 28 32 ?_ ?_)
        ·refine oy 2 hb_4 rfl ?_
         exact raT hS10
        ·refine oy 2 hb_4 rfl (r1 33 rfl hb_4 (Qda Ty.s22 (fun _=>rfl) rfl rfl hx2 (ry 34 hb_4 rfl ?_)))
         exact raE hS8
       ·refine oy 2 hb_4 rfl (ra2 28 30 ?_ ?_)
        ·refine oy 2 hb_4 rfl ?_
         exact raT hS9
        ·refine oy 2 hb_4 rfl (r1 33 rfl hb_4 (Qda Ty.s22 (fun _=>rfl) rfl rfl hx2 (ry 34 hb_4 rfl ?_)))
         exact raT hS8
      ·refine ra1 32 (oy 2 hb_4 rfl (r1 33 rfl hb_4 (Qda Ty.s22 (fun _=>rfl) rfl rfl hx2 (ry 34 hb_4 rfl ?_))))
       exact raE hS7
      ·refine ra1 30 (oy 2 hb_4 rfl (r1 33 rfl hb_4 (Qda Ty.s22 (fun _=>rfl) rfl rfl hx2 (ry 34 hb_4 rfl ?_))))
       exact raT hS7
      ·refine ra2 28 35 ?_ ?_
       ·refine oy 2 hb_4 rfl ?_
        exact raT hS7
       ·refine oy 2 hb_4 rfl (r1 36 rfl hb_4 (Qfa Ty.s26 rfl (ra1 28 (oy 2 hb_4 rfl (ry 37 hb_4 rfl (r0 38 rfl (Qna (v:=.bool (decide (p1.Lane<((x2.In).length:Int)))) rfl hb_4 rfl (rq [39] 0 ?_))))))))
        exact raE hS6
      ·refine ra1 35 (oy 2 hb_4 rfl (r1 36 rfl hb_4 (Qfa Ty.s26 rfl (ry 37 hb_4 rfl (r0 38 rfl (Qna (v:=.bool (decide (p1.Lane<((x2.In).length:Int)))) rfl hb_4 rfl (rq [39] 0 ?_)))))))
       exact raT hS6
      refine RA.done (by decide +kernel) ?_
      exact T.weakR (hK () trivial) (Weak.mkN [] [] (by decide) (Qla _) rfl ⟨Q6a ((congrArg (fun p=>p) (Option.some.inj hz)).symm),trivial⟩ (Qxa))
     replace hz:=ite_F hz hb_4
     refine T.drawn mixed (k:=40) rfl ?_
     apply RA.jn 22 #[true,true,true,true,true,true,true,true,true,true,true,true,true,true,true,true,true,true,false,false,false,false,false,false,false,false,false,false,false,false,false,false,false,false,false,false,false,false,false,false];intro hS13
     apply RA.jn 26 #[true,true,true,true,true,true,true,true,true,true,true,true,true,false,true,false,false,false,false,false,false,false,false,false,false,false,false,false,false,false,false,false,false,false,false,false,false,false,false,false];intro hS14
     ·refine rq [0] 39 (ra1 1 (og 2 ⟨rfl,(rq [2,3] 36 (ry 4 hb_1 rfl (ry 6 hb_1 rfl (ra2 5 7 ?_ ?_))))⟩))
      ·refine oy 2 hb_1 rfl (ra1 7 (oy 2 hb_1 rfl (r1 8 rfl hb_1 (Qfa Ty.s22 rfl (ry 9 hb_1 rfl (r0 10 rfl (Qna (v:=.bool (decide (p1.Node<((p0.Nodes).length:Int)))) rfl hb_1 rfl (rq [11] 28 (ry 12 hb_2 rfl (ry 14 hb_2 rfl ?_))))))))))
       exact raE hS14
      ·refine oy 2 hb_1 rfl (r1 8 rfl hb_1 (Qfa Ty.s22 rfl (ra1 5 (oy 2 hb_1 rfl (ry 9 hb_1 rfl (r0 10 rfl (Qna (v:=.bool (decide (p1.Node<((p0.Nodes).length:Int)))) rfl hb_1 rfl (rq [11] 28 (ry 12 hb_2 rfl (ry 14 hb_2 rfl ?_))))))))))
       exact raT hS14
     ·refine ra2 13 15 ?_ ?_
      ·refine oy 2 hb_2 rfl (ra1 15 (oy 2 hb_2 rfl (r1 16 rfl hb_2 (Qda Ty.s22 (fun _=>rfl) rfl rfl hx1 (ry 17 hb_2 rfl ?_)))))
       exact raE hS13
      ·refine oy 2 hb_2 rfl (ra1 13 (oy 2 hb_2 rfl (r1 16 rfl hb_2 (Qda Ty.s22 (fun _=>rfl) rfl rfl hx1 (ry 17 hb_2 rfl ?_)))))
       exact raT hS13
     refine ra1 18 (oy 2 hb_2 rfl (ry 19 hb_2 rfl (r0 20 rfl (Qna (v:=.bool (x1.Kind==6)) rfl hb_2 rfl (rq [21] 18 (ry 22 hb_3 rfl (ra1 23 (oy 2 hb_3 rfl (ry 24 hb_3 rfl (r0 25 rfl (Qna (v:=.bool (decide (p1.Lane ≥ 0))) rfl hb_3 rfl ?_)))))))))))
     refine rq [26] 13 (r2 27 rfl hb_4 (r2 28 rfl hb_4 (r2 29 rfl hb_4 (r2 30 rfl hb_4 (r2 31 rfl hb_4 (r2 32 rfl hb_4 (r2 33 rfl hb_4 (r2 34 rfl hb_4 (r2 35 rfl hb_4 ?_)))))))))
     refine r2 36 rfl hb_4 (r2 37 rfl hb_4 (r0 38 rfl (Qia (v:=.bool false) rfl hb_4 rfl (rq [39] 0 (RA.done (by decide +kernel) ?_)))))
     exact T.weakR (hK () trivial) (Weak.mkN [] [] (by decide) (Qla _) rfl ⟨Q6a ((congrArg (fun p=>p) (Option.some.inj hz)).symm),trivial⟩ (Qxa))
    replace hz:=ite_F hz hb_3
    refine T.drawn mixed (k:=40) rfl ?_
    apply RA.jn 22 #[true,true,true,true,true,true,true,true,true,true,true,true,true,true,true,true,true,true,false,false,false,false,false,false,false,false,false,false,false,false,false,false,false,false,false,false,false,false,false,false];intro hS15
    apply RA.jn 26 #[true,true,true,true,true,true,true,true,true,true,true,true,true,false,true,false,false,false,false,false,false,false,false,false,false,false,false,false,false,false,false,false,false,false,false,false,false,false,false,false];intro hS16
    ·refine rq [0] 39 (ra1 1 (og 2 ⟨rfl,(rq [2,3] 36 (ry 4 hb_1 rfl (ry 6 hb_1 rfl (ra2 5 7 ?_ ?_))))⟩))
     ·refine oy 2 hb_1 rfl (ra1 7 (oy 2 hb_1 rfl (r1 8 rfl hb_1 (Qfa Ty.s22 rfl (ry 9 hb_1 rfl (r0 10 rfl (Qna (v:=.bool (decide (p1.Node<((p0.Nodes).length:Int)))) rfl hb_1 rfl (rq [11] 28 (ry 12 hb_2 rfl (ry 14 hb_2 rfl ?_))))))))))
      exact raE hS16
     ·refine oy 2 hb_1 rfl (r1 8 rfl hb_1 (Qfa Ty.s22 rfl (ra1 5 (oy 2 hb_1 rfl (ry 9 hb_1 rfl (r0 10 rfl (Qna (v:=.bool (decide (p1.Node<((p0.Nodes).length:Int)))) rfl hb_1 rfl (rq [11] 28 (ry 12 hb_2 rfl (ry 14 hb_2 rfl ?_))))))))))
      exact raT hS16
    ·refine ra2 13 15 ?_ ?_
     ·refine oy 2 hb_2 rfl (ra1 15 (oy 2 hb_2 rfl (r1 16 rfl hb_2 (Qda Ty.s22 (fun _=>rfl) rfl rfl hx1 (ry 17 hb_2 rfl ?_)))))
      exact raE hS15
     ·refine oy 2 hb_2 rfl (ra1 13 (oy 2 hb_2 rfl (r1 16 rfl hb_2 (Qda Ty.s22 (fun _=>rfl) rfl rfl hx1 (ry 17 hb_2 rfl ?_)))))
      exact raT hS15
    refine ra1 18 (oy 2 hb_2 rfl (ry 19 hb_2 rfl (r0 20 rfl (Qna (v:=.bool (x1.Kind==6)) rfl hb_2 rfl (rq [21] 18 (r2 22 rfl hb_3 (r2 23 rfl hb_3 (r2 24 rfl hb_3 (r0 25 rfl (Qia (v:=.bool false) rfl hb_3 rfl (rq [26] 13 ?_)))))))))))
    refine r2 27 rfl rfl (r2 28 rfl rfl (r2 29 rfl rfl (r2 30 rfl rfl (r2 31 rfl rfl (r2 32 rfl rfl (r2 33 rfl rfl (r2 34 rfl rfl (r2 35 rfl rfl (r2 36 rfl rfl ?_)))))))))
    refine r2 37 rfl rfl (r0 38 rfl (Qia (v:=.bool false) rfl rfl rfl (rq [39] 0 (RA.done (by decide +kernel) ?_))))
    exact T.weakR (hK () trivial) (Weak.mkN [] [] (by decide) (Qla _) rfl ⟨Q6a ((congrArg (fun p=>p) (Option.some.inj hz)).symm),trivial⟩ (Qxa))
   replace hz:=ite_F hz hb_2
   refine T.drawn mixed (k:=40) rfl ?_
   apply RA.jn 0 #[true,true,true,true,true,true,true,true,true,true,true,true,true,true,true,true,true,true,true,true,true,true,true,true,true,true,true,true,true,true,true,true,true,true,true,true,true,true,true,true];intro hS17
   ·refine rq [0] 39 (ra1 1 (og 2 ⟨rfl,(rq [2,3] 36 (ry 4 hb_1 rfl (ry 6 hb_1 rfl (ra2 5 7 ?_ ?_))))⟩))
    ·refine oy 2 hb_1 rfl (ra1 7 (oy 2 hb_1 rfl (r1 8 rfl hb_1 (Qfa Ty.s22 rfl (ry 9 hb_1 rfl (r0 10 rfl (Qna (v:=.bool (decide (p1.Node<((p0.Nodes).length:Int)))) rfl hb_1 rfl (rq [11] 28 (r2 12 rfl hb_2 (r2 13 rfl hb_2 (r2 14 rfl hb_2 ?_)))))))))))
     refine r2 15 rfl hb_2 (r2 16 rfl hb_2 (r2 17 rfl hb_2 (r2 18 rfl hb_2 (r2 19 rfl hb_2 (r0 20 rfl (Qia (v:=.bool false) rfl hb_2 rfl (rq [21] 18 (r2 22 rfl rfl (r2 23 rfl rfl (r2 24 rfl rfl ?_))))))))))
     refine r0 25 rfl (Qia (v:=.bool false) rfl rfl rfl (rq [26] 13 (r2 27 rfl rfl (r2 28 rfl rfl (r2 29 rfl rfl (r2 30 rfl rfl (r2 31 rfl rfl (r2 32 rfl rfl (r2 33 rfl rfl (r2 34 rfl rfl ?_))))))))))
     refine r2 35 rfl rfl (r2 36 rfl rfl (r2 37 rfl rfl (r0 38 rfl (Qia (v:=.bool false) rfl rfl rfl (rq [39] 0 ?_)))))
     exact raE hS17
    ·refine oy 2 hb_1 rfl (r1 8 rfl hb_1 (Qfa Ty.s22 rfl (ra1 5 (oy 2 hb_1 rfl (ry 9 hb_1 rfl (r0 10 rfl (Qna (v:=.bool (decide (p1.Node<((p0.Nodes).length:Int)))) rfl hb_1 rfl (rq [11] 28 (r2 12 rfl hb_2 (r2 13 rfl hb_2 (r2 14 rfl hb_2 ?_)))))))))))
     refine r2 15 rfl hb_2 (r2 16 rfl hb_2 (r2 17 rfl hb_2 (r2 18 rfl hb_2 (r2 19 rfl hb_2 (r0 20 rfl (Qia (v:=.bool false) rfl hb_2 rfl (rq [21] 18 (r2 22 rfl rfl (r2 23 rfl rfl (r2 24 rfl rfl ?_))))))))))
     refine r0 25 rfl (Qia (v:=.bool false) rfl rfl rfl (rq [26] 13 (r2 27 rfl rfl (r2 28 rfl rfl (r2 29 rfl rfl (r2 30 rfl rfl (r2 31 rfl rfl (r2 32 rfl rfl (r2 33 rfl rfl (r2 34 rfl rfl ?_))))))))))
     refine r2 35 rfl rfl (r2 36 rfl rfl (r2 37 rfl rfl (r0 38 rfl (Qia (v:=.bool false) rfl rfl rfl (rq [39] 0 ?_)))))
     exact raT hS17
   refine RA.done (by decide +kernel) ?_
   exact T.weakR (hK () trivial) (Weak.mkN [] [] (by decide) (Qla _) rfl ⟨Q6a ((congrArg (fun p=>p) (Option.some.inj hz)).symm),trivial⟩ (Qxa))
  replace hz:=ite_F hz hb_1
  refine T.drawn mixed (k:=40) rfl (rq [0] 39 (ra1 1 (og 2 ⟨rfl,(rq [2,3] 36 (r2 4 rfl hb_1 (r2 5 rfl hb_1 (r2 6 rfl hb_1 (r2 7 rfl hb_1 (r2 8 rfl hb_1 ?_))))))⟩)))
  refine r2 9 rfl hb_1 (r0 10 rfl (Qia (v:=.bool false) rfl hb_1 rfl (rq [11] 28 (r2 12 rfl rfl (r2 13 rfl rfl (r2 14 rfl rfl (r2 15 rfl rfl (r2 16 rfl rfl (r2 17 rfl rfl (r2 18 rfl rfl ?_))))))))))
  refine r2 19 rfl rfl (r0 20 rfl (Qia (v:=.bool false) rfl rfl rfl (rq [21] 18 (r2 22 rfl rfl (r2 23 rfl rfl (r2 24 rfl rfl (r0 25 rfl (Qia (v:=.bool false) rfl rfl rfl (rq [26] 13 (r2 27 rfl rfl (r2 28 rfl rfl ?_)))))))))))
  refine r2 29 rfl rfl (r2 30 rfl rfl (r2 31 rfl rfl (r2 32 rfl rfl (r2 33 rfl rfl (r2 34 rfl rfl (r2 35 rfl rfl (r2 36 rfl rfl (r2 37 rfl rfl (r0 38 rfl (Qia (v:=.bool false) rfl rfl rfl ?_))))))))))
  refine rq [39] 0 (RA.done (by decide +kernel) ?_)
  exact T.weakR (hK () trivial) (Weak.mkN [] [] (by decide) (Qla _) rfl ⟨Q6a ((congrArg (fun p=>p) (Option.some.inj hz)).symm),trivial⟩ (Qxa))
theorem move_Check_c (p0:Net) (p1:List (List Item)) (p2:State) (r:Int) (h:move_Check p0 p1 p2=some r):Fn Tryz.prog 20 [.agg (Qma p0),sL (encL Qaa) p1,.agg (Qra p2)] (iI r):=by
  unfold move_Check at h
  refine fnT 0 Tryz.func20 Tryz.ntmps20 ?_
  refine T.seq (T.region (go 3 0 (RS.nil (T.seq (T.seq ?_)))))
  obtain ⟨x2,hx2,h⟩:=bind_some h
  refine T.region (go 2 2 (sO (cF (net_Sources_c p0 p1 x2 hx2) ⟨rfl,(go 1 2 (RS.nil (T.seq (T.region (go 2 2 (RS.nil (T.ci h rfl (fun hb_1 h=>?_) (fun hb_1 h=>?_))))))))⟩)))
  ·refine T.seq (T.region (go 2 2 (RS.nil ?_)))
   cases h
   exact tD
  refine T.skip (T.seq (T.join (Z:=Unit) (fun _=>mkA 131 [(1,sL (encL Qaa) p1),(3,.ptr 0 0),(5,.ptr 1 0),(46,.bool ((((p2.At).length:Int) != ((p1).length:Int)) || ((((p2.Rings).length:Int) != p0.Rings) || ((p2.Memory).length:Int) != ((p0.Nodes).length:Int))))]) (fun _=>[.box (Qma p0),.box (Qra p2)]) (fun _=>True) (fun _ _=>?_) (fun hK=>?_)))
  ·refine T.ci h rfl (fun hb_4 h=>?_) (fun hb_4 h=>?_)
   ·refine T.seq (T.region (go 1 2 (RS.nil ?_)))
    cases h
    exact tD
   refine T.skip (T.seq (T.join (Z:=Unit) (fun _=>mkA 131 [(1,sL (encL Qaa) p1),(3,.ptr 0 0),(5,.ptr 1 0),(56,.bool ((decide (((p2.Choices).length:Int) > 500)) || decide (((p2.Out).length:Int) > 2000)))]) (fun _=>[.box (Qma p0),.box (Qra p2)]) (fun _=>True) (fun _ _=>?_) (fun hK=>?_)))
   ·refine T.ci h rfl (fun hb_6 h=>?_) (fun hb_6 h=>?_)
    ·refine T.seq (T.region (go 1 2 (RS.nil ?_)))
     cases h
     exact tD
    refine T.skip (T.seq (T.seq (T.region (go 2 2 (sQ (Qfa Ty.s26 rfl (go 1 2 (RS.nil (T.block (T.iter (fun ss_15:Int=>mkA 131 [(1,sL (encL Qaa) p1),(3,.ptr 0 0),(5,.ptr 1 0),(58,sL encI p2.At),(59,iI ((p2.At).length:Int)),(60,iI ss_15)]) (fun ss_15=>[.box (Qma p0),.box (Qra p2)]) h (wk [] [0,1] 2 rfl) (fun ss_15 v_16 h hv_16=>?_)))))))))))
    revert hv_16 h;revert ss_15;intro s5 h hv_16
    replace h:move_Check_l4 p0 p1 p2 s5=some v_16:=h
    try dsimp only
    unfold move_Check_l4 at h
    refine T.seq (T.region (go 1 2 (RS.nil (T.seq (T.ci h rfl (fun hb_17 h=>?_) (fun hb_17 h=>?_))))))
    ·refine T.skip (T.seq (T.block (T.seq ?_)))
     obtain ⟨x7,hx7,h⟩:=bind_some h
     refine T.region (go 1 2 (sQ (Qda Ty.s26 (fun _=>rfl) rfl rfl hx7 (go 3 2 (RS.nil ?_)))))
     obtain ⟨zt_19,hz,h⟩:=bind_some h
     revert hz h;revert zt_19;intro c9 hz h
     refine T.join (Z:=Unit) (fun _=>mkA 131 [(1,sL (encL Qaa) p1),(3,.ptr 0 0),(5,.ptr 1 0),(58,sL encI p2.At),(59,iI ((p2.At).length:Int)),(60,iI s5),(75,.bool c9)]) (fun _=>[.box (Qma p0),.box (Qra p2)]) (fun _=>True) (fun _ _=>?_) (fun hK=>?_)
     ·refine T.ci h rfl (fun hb_20 h=>?_) (fun hb_20 h=>?_)
      ·refine T.seq (T.region (go 1 2 (RS.nil ?_)))
       obtain ⟨w_21,h,hw_21⟩:=Qsa h
       replace h:=h.trans (congrArg some (hv_16 _ hw_21))
       cases h
       exact tD
      refine T.skip (T.region (go 2 2 (RS.nil ?_)))
      exact ⟨IntKind.i64.wrap (s5+1),(Option.some.inj h).symm,wk [] [0,1] 2 rfl⟩
     refine T.region (go 3 2 ?_)
     rcases Qha (decide (x7<0)) with hb_18 | hb_18
     ·replace hz:=ite_T hz hb_18
      refine sN hb_18 (sN hb_18 (sN hb_18 (sN hb_18 (sN hb_18 (sN hb_18 (sN hb_18 (sQ (Qna (v:=.bool true) rfl hb_18 rfl (RS.nil ?_)))))))))
      exact T.sub (hK () trivial) ⟨rfl,rfl,rfl,rfl,rfl,rfl,(congrArg AV.bool ((congrArg (fun p=>p) (Option.some.inj hz)).symm)).symm,trivial⟩
     replace hz:=ite_F hz hb_18
     obtain ⟨x8,hx8,hz⟩:=bind_some hz
     refine yg 2 hb_18 (yg 2 hb_18 (yg 2 hb_18 (yQ hb_18 (Qda Ty.s25 (fun _=>rfl) rfl rfl hx8 (yg 2 hb_18 (yQ hb_18 (Qfa Ty.s29 rfl (yg 2 hb_18 (sQ (Qia (v:=.bool (decide (x7 > ((x8).length:Int)))) rfl hb_18 rfl (RS.nil ?_)))))))))))
     exact T.sub (hK () trivial) ⟨rfl,rfl,rfl,rfl,rfl,rfl,(congrArg AV.bool ((congrArg (fun p=>p) (Option.some.inj hz)).symm)).symm,trivial⟩
    refine T.exit ?_
    obtain ⟨w_22,h,hw_22⟩:=Qsa h
    replace h:=h.trans (congrArg some (hv_16 _ hw_22))
    refine T.seq (T.region (go 2 2 (RS.nil (T.seq (T.seq (T.region (go 2 2 (sQ (Qfa Ty.s25 rfl (go 1 2 ?_))))))))))
    refine RS.nil (T.block (T.iter (fun ss_29:Int=>mkA 131 [(3,.ptr 0 0),(5,.ptr 1 0),(10,.func 51 [.ptr 1 0]),(79,sL (encL Qaa) p2.Rings),(80,iI ((p2.Rings).length:Int)),(81,iI ss_29)]) (fun ss_29=>[.box (Qma p0),.box (Qra p2)]) h (wk [] [0,1] 2 rfl) (fun ss_29 v_30 h hv_30=>?_)))
    revert hv_30 h;revert ss_29;intro s10 h hv_30
    replace h:Qxb p0 p2 s10=some v_30:=h
    try dsimp only
    unfold Qxb at h
    refine T.seq (T.region (go 1 2 (RS.nil (T.seq (T.ci h rfl (fun hb_31 h=>?_) (fun hb_31 h=>?_))))))
    ·refine T.skip (T.seq (T.block (T.seq ?_)))
     obtain ⟨x12,hx12,h⟩:=bind_some h
     refine T.region (sQ (Qda Ty.s25 (fun _=>rfl) rfl rfl hx12 (go 2 2 (RS.nil (T.seq (T.seq (T.region (go 1 2 (sQ (Qfa Ty.s29 rfl (go 3 2 ?_)))))))))))
     refine RS.nil (T.ci h rfl (fun hb_32 h=>?_) (fun hb_32 h=>?_))
     ·refine T.seq (T.region (go 1 2 (RS.nil ?_)))
      obtain ⟨w_33,h,hw_33⟩:=Qsa h
      replace h:=h.trans (congrArg some (hv_30 _ hw_33))
      cases h
      exact tD
     refine T.skip (T.seq ?_)
     obtain ⟨x14,hx14,h⟩:=bind_some h
     refine T.region (go 2 2 (sO (Vja (ac:=[sL Qaa x12,.ptr 1 0]) (as0:=[sL Qaa x12,.ptr 0 0]) (aw0:=[.box (Qra p2)]) (aw1:=[.box (Qra p2)]) (aw2:=[.box (Qma p0),.box (Qra p2)]) (v:=.bool x14) (v':=.bool x14) (n0:=2) (n1:=1) [1] rfl rfl rfl rfl (by decide) (Jsa (cs:=(Qra p2)) (ds:=(Qra p2)) rfl ⟨rn_s rfl,rn_s rfl,rn_s rfl,rn_s rfl,rn_s rfl,trivial⟩ (Qxa)) ⟨rn_s rfl,Qqa rfl,trivial⟩ (move_Check_1_xa01a_c x12 p2.At p2.Rings p2.Memory p2.Choices p2.Out x14 hx14) rfl (Qua (Vfa _)) ⟨.inr ⟨rfl,rfl⟩,.inl ⟨0,_,by decide,rfl,Zoa (cs:=(Qra p2)) (ds:=(Qra p2)) ⟨Qua (Qpa Yga _),Qua (Qpa (Y8a Q0a) _),Qua (Qpa Q9a _),Qua (Qpa Q5a _),Qua (Qpa Q0a _),trivial⟩⟩,trivial⟩ (go 1 2 (RS.nil (T.ci h rfl (fun hb_34 h=>?_) (fun hb_34 h=>?_)))))))
     ·refine T.seq (T.region (go 1 2 (RS.nil ?_)))
      obtain ⟨w_35,h,hw_35⟩:=Qsa h
      replace h:=h.trans (congrArg some (hv_30 _ hw_35))
      cases h
      exact tD
     refine T.skip (T.region (go 2 2 (RS.nil ?_)))
     exact ⟨IntKind.i64.wrap (s10+1),(Option.some.inj h).symm,wk [] [0,1] 2 rfl⟩
    refine T.exit ?_
    obtain ⟨w_36,h,hw_36⟩:=Qsa h
    replace h:=h.trans (congrArg some (hv_30 _ hw_36))
    refine T.seq (T.seq (T.region (go 2 2 (sQ (Qfa Ty.s27 rfl (go 1 2 (RS.nil (T.block (T.iter (fun ss_43:Int=>mkA 131 [(3,.ptr 0 0),(5,.ptr 1 0),(10,.func 51 [.ptr 1 0]),(96,sL Qca p2.Memory),(97,iI ((p2.Memory).length:Int)),(98,iI ss_43)]) (fun ss_43=>[.box (Qma p0),.box (Qra p2)]) h (wk [] [0,1] 2 rfl) (fun ss_43 v_44 h hv_44=>?_))))))))))
    revert hv_44 h;revert ss_43;intro s15 h hv_44
    replace h:Q2b p0 p2 s15=some v_44:=h
    try dsimp only
    unfold Q2b at h
    refine T.seq (T.region (go 1 2 (RS.nil (T.seq (T.ci h rfl (fun hb_45 h=>?_) (fun hb_45 h=>?_))))))
    ·refine T.skip (T.seq (T.block (T.seq ?_)))
     obtain ⟨x17,hx17,h⟩:=bind_some h
     refine T.region (sQ (Qda Ty.s27 (fun _=>rfl) rfl rfl hx17 (go 3 2 (RS.nil (T.seq (T.seq ?_))))))
     obtain ⟨x19,hx19,h⟩:=bind_some h
     refine T.region (go 1 3 (sO (cF (stage_Check_c x17 x19 hx19) ⟨rfl,(go 1 3 (RS.nil (T.seq (T.region (go 2 3 (RS.nil (T.ci h rfl (fun hb_46 h=>?_) (fun hb_46 h=>?_))))))))⟩)))
     ·refine T.seq (T.region (go 2 3 (RS.nil ?_)))
      obtain ⟨w_47,h,hw_47⟩:=Qsa h
      replace h:=h.trans (congrArg some (hv_44 _ hw_47))
      cases h
      exact tD
     refine T.skip (T.seq (T.region (go 4 3 (sQ (Qfa Ty.s28 rfl (go 1 3 (RS.nil (T.ci h rfl (fun hb_48 h=>?_) (fun hb_48 h=>?_)))))))))
     ·refine T.seq (T.region (go 1 3 (RS.nil ?_)))
      obtain ⟨w_49,h,hw_49⟩:=Qsa h
      replace h:=h.trans (congrArg some (hv_44 _ hw_49))
      cases h
      exact tD
     refine T.skip (T.region (go 2 3 (RS.nil ?_)))
     exact ⟨IntKind.i64.wrap (s15+1),(Option.some.inj h).symm,wk [] [0,1] 3 rfl⟩
    refine T.exit ?_
    obtain ⟨w_50,h,hw_50⟩:=Qsa h
    replace h:=h.trans (congrArg some (hv_44 _ hw_50))
    refine T.seq (T.seq (T.region (go 2 2 (sQ (Qfa Ty.s28 rfl (go 1 2 (RS.nil (T.block (T.iter (fun ss_55:Int=>mkA 131 [(3,.ptr 0 0),(5,.ptr 1 0),(10,.func 51 [.ptr 1 0]),(115,sL Qba p2.Choices),(116,iI ((p2.Choices).length:Int)),(117,iI ss_55)]) (fun ss_55=>[.box (Qma p0),.box (Qra p2)]) h (wk [] [0,1] 2 rfl) (fun ss_55 v_56 h hv_56=>?_))))))))))
    revert hv_56 h;revert ss_55;intro s20 h hv_56
    replace h:Q1b p0 p2 s20=some v_56:=h
    try dsimp only
    unfold Q1b at h
    refine T.seq (T.region (go 1 2 (RS.nil (T.seq (T.ci h rfl (fun hb_57 h=>?_) (fun hb_57 h=>?_))))))
    ·refine T.skip (T.seq (T.block (T.seq ?_)))
     obtain ⟨x22,hx22,h⟩:=bind_some h
     refine T.region (sQ (Qda Ty.s28 (fun _=>rfl) rfl rfl hx22 (go 3 2 (RS.nil (T.seq ?_)))))
     obtain ⟨x24,hx24,h⟩:=bind_some h
     refine T.region (go 2 3 (sO (cF (move_choice_c p0 x22 x24 hx24) ⟨rfl,(go 1 3 (RS.nil (T.ci h rfl (fun hb_58 h=>?_) (fun hb_58 h=>?_))))⟩)))
     ·refine T.seq (T.region (go 1 3 (RS.nil ?_)))
      obtain ⟨w_59,h,hw_59⟩:=Qsa h
      replace h:=h.trans (congrArg some (hv_56 _ hw_59))
      cases h
      exact tD
     refine T.skip (T.region (go 2 3 (RS.nil ?_)))
     exact ⟨IntKind.i64.wrap (s20+1),(Option.some.inj h).symm,wk [] [0,1] 3 rfl⟩
    refine T.exit ?_
    obtain ⟨w_60,h,hw_60⟩:=Qsa h
    replace h:=h.trans (congrArg some (hv_56 _ hw_60))
    refine T.seq (T.seq ?_)
    obtain ⟨x26,hx26,h⟩:=bind_some h
    refine T.region (go 3 2 (sO (Vja (ac:=[sL Qaa p2.Out,.ptr 1 0]) (as0:=[sL Qaa p2.Out,.ptr 0 0]) (aw0:=[.box (Qra p2)]) (aw1:=[.box (Qra p2)]) (aw2:=[.box (Qma p0),.box (Qra p2)]) (v:=.bool x26) (v':=.bool x26) (n0:=2) (n1:=1) [1] rfl rfl rfl rfl (by decide) (Jsa (cs:=(Qra p2)) (ds:=(Qra p2)) rfl ⟨rn_s rfl,rn_s rfl,rn_s rfl,rn_s rfl,rn_s rfl,trivial⟩ (Qxa)) ⟨rn_s rfl,Qqa rfl,trivial⟩ (move_Check_1_xa01a_c p2.Out p2.At p2.Rings p2.Memory p2.Choices p2.Out x26 hx26) rfl (Qua (Vfa _)) ⟨.inr ⟨rfl,rfl⟩,.inl ⟨0,_,by decide,rfl,Zoa (cs:=(Qra p2)) (ds:=(Qra p2)) ⟨Qua (Qpa Yga _),Qua (Qpa (Y8a Q0a) _),Qua (Qpa Q9a _),Qua (Qpa Q5a _),Qua (Qpa Q0a _),trivial⟩⟩,trivial⟩ (go 1 2 (RS.nil (T.ci h rfl (fun hb_61 h=>?_) (fun hb_61 h=>?_)))))))
    ·refine T.seq (T.region (go 1 2 (RS.nil ?_)))
     cases h
     exact tD
    refine T.skip (T.seq (T.region (go 1 2 (RS.nil ?_))))
    cases h
    exact tD
   refine T.region (go 2 2 (sQ (Qfa Ty.s28 rfl (go 2 2 ?_))))
   rcases Qha (decide (((p2.Choices).length:Int) > 500)) with hb_5 | hb_5
   ·refine sN hb_5 (sN hb_5 (sN hb_5 (sN hb_5 (sQ (Qna (v:=.bool true) rfl hb_5 rfl (RS.nil ?_))))))
    exact T.sub (hK () trivial) ⟨rfl,rfl,rfl,(congrArg AV.bool (by simp only [hb_5,bz,if_true,if_false,Bool.false_eq_true])).symm,trivial⟩
   refine yg 2 hb_5 (yg 2 hb_5 (yQ hb_5 (Qfa Ty.s29 rfl (yg 2 hb_5 (sQ (Qia (v:=.bool (decide (((p2.Out).length:Int) > 2000))) rfl hb_5 rfl (RS.nil ?_)))))))
   exact T.sub (hK () trivial) ⟨rfl,rfl,rfl,(congrArg AV.bool (by simp only [hb_5,bz,if_true,if_false,Bool.false_eq_true])).symm,trivial⟩
  refine T.region (go 2 2 (sQ (Qfa Ty.s26 rfl (go 1 2 (sQ (Qfa Ty.s25 rfl (go 2 2 ?_)))))))
  rcases Qha (((p2.At).length:Int) != ((p1).length:Int)) with hb_2 | hb_2
  ·refine sN hb_2 (sN hb_2 (sN hb_2 (sN hb_2 (sN hb_2 (sN hb_2 (sQ (Qna (v:=.bool true) rfl hb_2 rfl (go 1 2 (sN rfl (sN rfl ?_))))))))))
   refine sN rfl (sN rfl (sN rfl (sN rfl (sN rfl (sQ (Qna (v:=.bool true) rfl rfl rfl (RS.nil ?_)))))))
   exact T.sub (hK () trivial) ⟨rfl,rfl,rfl,(congrArg AV.bool (by simp only [hb_2,bz,if_true,if_false,Bool.false_eq_true])).symm,trivial⟩
  refine yg 2 hb_2 (yg 2 hb_2 (yQ hb_2 (Qfa Ty.s25 rfl (yg 2 hb_2 (yg 2 hb_2 (yg 2 hb_2 (sQ (Qia (v:=.bool (((p2.Rings).length:Int) != p0.Rings)) rfl hb_2 rfl (go 1 2 ?_)))))))))
  rcases Qha (((p2.Rings).length:Int) != p0.Rings) with hb_3 | hb_3
  ·refine sN hb_3 (sN hb_3 (sN hb_3 (sN hb_3 (sN hb_3 (sN hb_3 (sN hb_3 (sQ (Qna (v:=.bool true) rfl hb_3 rfl (RS.nil ?_)))))))))
   exact T.sub (hK () trivial) ⟨rfl,rfl,rfl,(congrArg AV.bool (by simp only [hb_2,hb_3,bz,if_true,if_false,Bool.false_eq_true])).symm,trivial⟩
  refine yg 2 hb_3 (yg 2 hb_3 (yQ hb_3 (Qfa Ty.s27 rfl (yg 2 hb_3 (yg 2 hb_3 (yQ hb_3 (Qfa Ty.s22 rfl (yg 2 hb_3 (sQ (Qia (v:=.bool (((p2.Memory).length:Int) != ((p0.Nodes).length:Int))) rfl hb_3 rfl (RS.nil ?_)))))))))))
  exact T.sub (hK () trivial) ⟨rfl,rfl,rfl,(congrArg AV.bool (by simp only [hb_2,hb_3,bz,if_true,if_false,Bool.false_eq_true])).symm,trivial⟩
theorem Zga (p0 r:List Int) (h:Yia p0=some r):FnO Tryz.prog 56 [.sl (List.map encI p0)] (.ref 0) [.arr 3 1 (List.map encI r)]:=by
  have hr:p0=r:=by
    unfold Yia app at h
    split at h
    · simpa using h
    · cases h
  refine fn_of_T (N:=0) rfl Tryz.func56 rfl (by kernel_rfl) Tryz.ntmps56 rfl ?_
  show T _ _ _ _ (mkA 8 [(0,.sl (List.map encI p0))]) []
  refine T.seq ?_
  refine T.region ?_
  refine RS.op rfl (OP.q rfl (Vba (v:=.nils) rfl ?_))
  refine RS.nil ?_
  refine T.seq ?_
  refine T.seq ?_
  refine T.region ?_
  refine RS.op rfl (OP.q rfl (v_move (v:=.sl (List.map encI p0)) rfl ?_))
  refine RS.op rfl (OP.q rfl (v_nileq Ty.s26 rfl rfl (fun z hz=>?_)))
  refine RS.nil ?_
  refine T.cond (b:=z) rfl (fun hb=>?_) (fun hb=>?_)
  · refine T.seq ?_
    refine T.region ?_
    refine RS.op rfl (OP.q rfl (Vba (v:=.nils) rfl ?_))
    refine RS.nil ?_
    refine T.ret ?_
    refine Qfb (v:=.nils) rfl ?_
    refine Yla ?_
    have h0:p0=[]:=List.map_eq_nil_iff.1 (hz hb)
    exact Q5b (.ref 0) [(0,3,1)] [0] (by decide) (Qla _) rfl (Qza rfl) (Z2a (en:=encI) (ys:=[]) rfl Yga (by rw [← hr,h0]) (Qxa)) ⟨rfl,rfl⟩
  · refine T.skip ?_
    refine T.seq ?_
    refine T.region ?_
    refine RS.op rfl (Qva (rows:=List.map encI []) (vs:=[]) Ty.s26 Ty.z3 rfl rfl rfl rfl rfl (aw':=[.arr 3 1 (List.map encI [])]) rfl ?_)
    refine RS.op rfl (OP.q rfl (v_move (v:=.sl (List.map encI p0)) rfl ?_))
    refine RS.op rfl (J5a (en:=encI) (xs:=([]:List Int)) (ys:=p0) (r:=r) Ty.s26 (fun _=>rfl) rfl rfl rfl h rfl (aw':=[.dead,.arr 3 1 (List.map encI r)]) rfl ?_)
    refine RS.op rfl (OP.q rfl (Vba (v:=.ref 1) rfl ?_))
    refine RS.nil ?_
    refine T.ret ?_
    refine Qfb (v:=.ref 1) rfl ?_
    refine Yla ?_
    exact Q5b (.ref 0) [] [1] (by decide) (Qla _) rfl (Qza rfl) (Z2a rfl Yga rfl (Qxa)) ⟨rfl,rfl⟩
theorem slices_Clone_api_Item_api_Item_c (p0 r:List (List Item)) (h:Zpa p0=some r):FnO Tryz.prog 76 [.sl (List.map (encL Qaa) p0)] (.ref 0) [.arr 29 1 (List.map (encL Qaa) r)]:=by
  have hr:p0=r:=by
    unfold Zpa app at h
    split at h
    · simpa using h
    · cases h
  refine fn_of_T (N:=0) rfl Tryz.func76 rfl (by kernel_rfl) Tryz.ntmps76 rfl ?_
  show T _ _ _ _ (mkA 8 [(0,.sl (List.map (encL Qaa) p0))]) []
  refine T.seq ?_
  refine T.region ?_
  refine RS.op rfl (OP.q rfl (Vba (v:=.nils) rfl ?_))
  refine RS.nil ?_
  refine T.seq ?_
  refine T.seq ?_
  refine T.region ?_
  refine RS.op rfl (OP.q rfl (v_move (v:=.sl (List.map (encL Qaa) p0)) rfl ?_))
  refine RS.op rfl (OP.q rfl (v_nileq Ty.s25 rfl rfl (fun z hz=>?_)))
  refine RS.nil ?_
  refine T.cond (b:=z) rfl (fun hb=>?_) (fun hb=>?_)
  · refine T.seq ?_
    refine T.region ?_
    refine RS.op rfl (OP.q rfl (Vba (v:=.nils) rfl ?_))
    refine RS.nil ?_
    refine T.ret ?_
    refine Qfb (v:=.nils) rfl ?_
    refine Yla ?_
    have h0:p0=[]:=List.map_eq_nil_iff.1 (hz hb)
    exact Q5b (.ref 0) [(0,29,1)] [0] (by decide) (Qla _) rfl (Qza rfl) (Z2a (en:=(encL Qaa)) (ys:=[]) rfl (Y8a Q0a) (by rw [← hr,h0]) (Qxa)) ⟨rfl,rfl⟩
  · refine T.skip ?_
    refine T.seq ?_
    refine T.region ?_
    refine RS.op rfl (Qva (rows:=List.map (encL Qaa) []) (vs:=[]) Ty.s25 Ty.z29 rfl rfl rfl rfl rfl (aw':=[.arr 29 1 (List.map (encL Qaa) [])]) rfl ?_)
    refine RS.op rfl (OP.q rfl (v_move (v:=.sl (List.map (encL Qaa) p0)) rfl ?_))
    refine RS.op rfl (J5a (en:=(encL Qaa)) (xs:=([]:List (List Item))) (ys:=p0) (r:=r) Ty.s25 (fun _=>rfl) rfl rfl rfl h rfl (aw':=[.dead,.arr 29 1 (List.map (encL Qaa) r)]) rfl ?_)
    refine RS.op rfl (OP.q rfl (Vba (v:=.ref 1) rfl ?_))
    refine RS.nil ?_
    refine T.ret ?_
    refine Qfb (v:=.ref 1) rfl ?_
    refine Yla ?_
    exact Q5b (.ref 0) [] [1] (by decide) (Qla _) rfl (Qza rfl) (Z2a rfl (Y8a Q0a) rfl (Qxa)) ⟨rfl,rfl⟩
theorem slices_Clone_Memory_c (p0 r:List Memory) (h:Qdb p0=some r):FnO Tryz.prog 77 [.sl (List.map Qca p0)] (.ref 0) [.arr 84 3 (List.map Qca r)]:=by
  have hr:p0=r:=by
    unfold Qdb app at h
    split at h
    · simpa using h
    · cases h
  refine fn_of_T (N:=0) rfl Tryz.func77 rfl (by kernel_rfl) Tryz.ntmps77 rfl ?_
  show T _ _ _ _ (mkA 8 [(0,.sl (List.map Qca p0))]) []
  refine T.seq ?_
  refine T.region ?_
  refine RS.op rfl (OP.q rfl (Vba (v:=.nils) rfl ?_))
  refine RS.nil ?_
  refine T.seq ?_
  refine T.seq ?_
  refine T.region ?_
  refine RS.op rfl (OP.q rfl (v_move (v:=.sl (List.map Qca p0)) rfl ?_))
  refine RS.op rfl (OP.q rfl (v_nileq Ty.s27 rfl rfl (fun z hz=>?_)))
  refine RS.nil ?_
  refine T.cond (b:=z) rfl (fun hb=>?_) (fun hb=>?_)
  · refine T.seq ?_
    refine T.region ?_
    refine RS.op rfl (OP.q rfl (Vba (v:=.nils) rfl ?_))
    refine RS.nil ?_
    refine T.ret ?_
    refine Qfb (v:=.nils) rfl ?_
    refine Yla ?_
    have h0:p0=[]:=List.map_eq_nil_iff.1 (hz hb)
    exact Q5b (.ref 0) [(0,84,3)] [0] (by decide) (Qla _) rfl (Qza rfl) (Z2a (en:=Qca) (ys:=[]) rfl Q9a (by rw [← hr,h0]) (Qxa)) ⟨rfl,rfl⟩
  · refine T.skip ?_
    refine T.seq ?_
    refine T.region ?_
    refine RS.op rfl (Qva (rows:=List.map Qca []) (vs:=[]) Ty.s27 Ty.z84 rfl rfl rfl rfl rfl (aw':=[.arr 84 3 (List.map Qca [])]) rfl ?_)
    refine RS.op rfl (OP.q rfl (v_move (v:=.sl (List.map Qca p0)) rfl ?_))
    refine RS.op rfl (J5a (en:=Qca) (xs:=([]:List Memory)) (ys:=p0) (r:=r) Ty.s27 (fun _=>rfl) rfl rfl rfl h rfl (aw':=[.dead,.arr 84 3 (List.map Qca r)]) rfl ?_)
    refine RS.op rfl (OP.q rfl (Vba (v:=.ref 1) rfl ?_))
    refine RS.nil ?_
    refine T.ret ?_
    refine Qfb (v:=.ref 1) rfl ?_
    refine Yla ?_
    exact Q5b (.ref 0) [] [1] (by decide) (Qla _) rfl (Qza rfl) (Z2a rfl Q9a rfl (Qxa)) ⟨rfl,rfl⟩
theorem Vva (p0 r:List Choice) (h:Vha p0=some r):FnO Tryz.prog 57 [.sl (List.map Qba p0)] (.ref 0) [.arr 77 2 (List.map Qba r)]:=by
  have hr:p0=r:=by
    unfold Vha app at h
    split at h
    · simpa using h
    · cases h
  refine fn_of_T (N:=0) rfl Tryz.func57 rfl (by kernel_rfl) Tryz.ntmps57 rfl ?_
  show T _ _ _ _ (mkA 8 [(0,.sl (List.map Qba p0))]) []
  refine T.seq ?_
  refine T.region ?_
  refine RS.op rfl (OP.q rfl (Vba (v:=.nils) rfl ?_))
  refine RS.nil ?_
  refine T.seq ?_
  refine T.seq ?_
  refine T.region ?_
  refine RS.op rfl (OP.q rfl (v_move (v:=.sl (List.map Qba p0)) rfl ?_))
  refine RS.op rfl (OP.q rfl (v_nileq Ty.s28 rfl rfl (fun z hz=>?_)))
  refine RS.nil ?_
  refine T.cond (b:=z) rfl (fun hb=>?_) (fun hb=>?_)
  · refine T.seq ?_
    refine T.region ?_
    refine RS.op rfl (OP.q rfl (Vba (v:=.nils) rfl ?_))
    refine RS.nil ?_
    refine T.ret ?_
    refine Qfb (v:=.nils) rfl ?_
    refine Yla ?_
    have h0:p0=[]:=List.map_eq_nil_iff.1 (hz hb)
    exact Q5b (.ref 0) [(0,77,2)] [0] (by decide) (Qla _) rfl (Qza rfl) (Z2a (en:=Qba) (ys:=[]) rfl Q5a (by rw [← hr,h0]) (Qxa)) ⟨rfl,rfl⟩
  · refine T.skip ?_
    refine T.seq ?_
    refine T.region ?_
    refine RS.op rfl (Qva (rows:=List.map Qba []) (vs:=[]) Ty.s28 Ty.z77 rfl rfl rfl rfl rfl (aw':=[.arr 77 2 (List.map Qba [])]) rfl ?_)
    refine RS.op rfl (OP.q rfl (v_move (v:=.sl (List.map Qba p0)) rfl ?_))
    refine RS.op rfl (J5a (en:=Qba) (xs:=([]:List Choice)) (ys:=p0) (r:=r) Ty.s28 (fun _=>rfl) rfl rfl rfl h rfl (aw':=[.dead,.arr 77 2 (List.map Qba r)]) rfl ?_)
    refine RS.op rfl (OP.q rfl (Vba (v:=.ref 1) rfl ?_))
    refine RS.nil ?_
    refine T.ret ?_
    refine Qfb (v:=.ref 1) rfl ?_
    refine Yla ?_
    exact Q5b (.ref 0) [] [1] (by decide) (Qla _) rfl (Qza rfl) (Z2a rfl Q5a rfl (Qxa)) ⟨rfl,rfl⟩
theorem move_Copy_c (p0:State) (r:State) (h:move_Copy p0=some r):FnO Tryz.prog 34 [.agg (Qra p0)] (.agg [.ref 0,.ref 1,.ref 2,.ref 3,.ref 4]) [aR 3 1 encI r.At,aR 29 1 (encL Qaa) r.Rings,aR 84 3 Qca r.Memory,aR 77 2 Qba r.Choices,aR 72 3 Qaa r.Out]:=by
  unfold move_Copy at h
  refine fnT 0 Tryz.func34 Tryz.ntmps34 ?_
  refine T.seq (T.region (go 2 0 (RS.nil (T.seq ?_))))
  obtain ⟨x2,hx2,h⟩:=bind_some h
  refine T.region (go 2 2 (sO (cO 2 (Zga p0.At x2 hx2) ⟨rfl,(go 2 3 (RS.nil (T.seq ?_)))⟩)))
  obtain ⟨x4,hx4,h⟩:=bind_some h
  refine T.region (go 2 3 (sO (cQ 3 (slices_Clone_api_Item_api_Item_c p0.Rings x4 hx4) ⟨rfl,(go 2 4 (RS.nil (T.seq (T.seq (T.region (go 2 4 (sQ (Zfa (en:=(encL Qaa)) Ty.s25 rfl rfl ?_))))))))⟩)))
  refine go 1 4 (RS.nil (T.block (T.iter (fun ss_7:Int × (List (List Item))=>mkA 60 [(1,.ptr 0 0),(2,.ptr 1 0),(15,iI ((x4).length:Int)),(16,iI ss_7.1)]) (fun ss_7=>[.box [.ref 2,.ref 3,sL Qca p0.Memory,sL Qba p0.Choices,sL Qaa p0.Out],.box [.nils,.nils,.nils,.nils,.nils],aR 3 1 encI x2,aR 29 1 (encL Qaa) ss_7.2]) h (wk [] [0,1,2,3] 4 rfl) (fun ss_7 v_8 h hv_8=>?_))))
  obtain ⟨s5,s6⟩:=ss_7
  replace h:Y7a p0 x2 x4 s5 s6=some v_8:=h
  try dsimp only
  unfold Y7a at h
  refine T.seq (T.region (go 1 4 (RS.nil (T.seq (T.ci h rfl (fun hb_9 h=>?_) (fun hb_9 h=>?_))))))
  ·refine T.skip (T.seq (T.block (T.seq (T.region (go 2 4 (RS.nil ?_))))))
   obtain ⟨x7,hx7,h⟩:=bind_some h
   obtain ⟨x8,hx8,h⟩:=bind_some h
   obtain ⟨x9,hx9,h⟩:=bind_some h
   obtain ⟨x10,hx10,h⟩:=bind_some h
   obtain ⟨x11,hx11,h⟩:=bind_some h
   refine T.drawn mixed (k:=11) rfl ?_
   apply RA.jn 1 #[true,true,true,true,true,true,true,true,true,true,false];intro hS10
   apply RA.jn 3 #[true,true,true,true,true,true,true,true,false,false,false];intro hS11
   ·refine rq [0,2,3,5] 7 (rL [4,6,7,8,9,10] 4 rfl (r0 6 rfl (Qoa (en:=(encL Qaa)) Ty.s25 rfl rfl rfl hx7 (ra2 1 7 ?_ ?_))))
    ·refine og 4 ⟨rfl,(ra1 7 (oO rfl (Qwa (en:=(encL Qaa)) (a:=x8) rfl rfl hx8 (Jra Ty.k29 (c:=sL Qaa x8) rfl ?_))))⟩
     exact raE hS11
    ·refine oO rfl (Qwa (en:=(encL Qaa)) (a:=x8) rfl rfl hx8 (Jra Ty.k29 (c:=sL Qaa x8) rfl (ra2 1 8 ?_ ?_)))
     ·refine og 4 ⟨rfl,?_⟩
      exact raT hS11
     ·refine oO rfl (cO 4 (Jga x8 x9 hx9) ⟨rfl,(ra1 1 (og 5 ⟨rfl,(r0 9 rfl (Qoa (en:=(encL Qaa)) Ty.s25 rfl rfl rfl hx10 ?_))⟩))⟩)
      exact raE hS10
   ·refine ra1 8 (oO rfl (cO 4 (Jga x8 x9 hx9) ⟨rfl,(r0 9 rfl (Qoa (en:=(encL Qaa)) Ty.s25 rfl rfl rfl hx10 ?_))⟩))
    exact raT hS10
   refine ra1 10 (RO.fC 4 (oO rfl (J2a (en:=(encL Qaa)) (a:=x11) (a':=x9) Ty.c29 Ty.i29 rfl (vs:=[sL Qaa x9]) rfl rfl rfl hx11 rfl rfl rfl (RA.done (by decide +kernel) (T.region (go 2 5 (RS.nil ?_)))))))
   exact ⟨(IntKind.i64.wrap (s5+1),(List.set s6 x10 x9)),(Option.some.inj h).symm,wk [] [0,1,2,3] 5 rfl⟩
  refine T.exit ?_
  obtain ⟨w_12,h,hw_12⟩:=Qsa h
  replace h:=h.trans (congrArg some (hv_8 _ hw_12))
  refine T.seq ?_
  obtain ⟨x13,hx13,h⟩:=bind_some h
  refine T.region (go 2 4 (sO (cQ 4 (slices_Clone_Memory_c p0.Memory x13 hx13) ⟨rfl,(go 2 5 (RS.nil (T.seq (T.seq (T.region (go 2 5 (sQ (Zfa (en:=Qca) Ty.s27 rfl rfl ?_))))))))⟩)))
  refine go 1 5 (RS.nil (T.block (T.iter (fun ss_19:Int × (List Memory)=>mkA 60 [(1,.ptr 0 0),(2,.ptr 1 0),(36,iI ((x13).length:Int)),(37,iI ss_19.1)]) (fun ss_19=>[.box [.ref 2,.ref 3,.ref 4,sL Qba p0.Choices,sL Qaa p0.Out],.box [.nils,.nils,.nils,.nils,.nils],aR 3 1 encI x2,aR 29 1 (encL Qaa) s6,aR 84 3 Qca ss_19.2]) h (wk [] [0,1,2,3,4] 5 rfl) (fun ss_19 v_20 h hv_20=>?_))))
  obtain ⟨s14,s15⟩:=ss_19
  replace h:Y9a p0 x2 s6 x13 s14 s15=some v_20:=h
  try dsimp only
  unfold Y9a at h
  refine T.seq (T.region (go 1 5 (RS.nil (T.seq (T.ci h rfl (fun hb_21 h=>?_) (fun hb_21 h=>?_))))))
  ·refine T.skip (T.seq (T.block (T.seq (T.region (go 2 5 (RS.nil ?_))))))
   obtain ⟨x16,hx16,h⟩:=bind_some h
   obtain ⟨x17,hx17,h⟩:=bind_some h
   obtain ⟨x18,hx18,h⟩:=bind_some h
   obtain ⟨x19,hx19,h⟩:=bind_some h
   obtain ⟨x20,hx20,h⟩:=bind_some h
   refine T.drawn mixed (k:=11) rfl ?_
   apply RA.jn 1 #[true,true,true,true,true,true,true,true,true,true,false];intro hS22
   apply RA.jn 3 #[true,true,true,true,true,true,true,true,false,false,false];intro hS23
   ·refine rq [0,2,3,5] 7 (rL [4,6,7,8,9,10] 4 rfl (r0 6 rfl (Qoa (en:=Qca) Ty.s27 rfl rfl rfl hx16 (ra2 1 7 ?_ ?_))))
    ·refine og 5 ⟨rfl,(ra1 7 (oO rfl (Qwa (en:=Qca) (a:=x17) rfl rfl hx17 (Ywa Ty.k84 Ty.c84 rfl (cs:=(Qca x17)) rfl ?_))))⟩
     exact raE hS23
    ·refine oO rfl (Qwa (en:=Qca) (a:=x17) rfl rfl hx17 (Ywa Ty.k84 Ty.c84 rfl (cs:=(Qca x17)) rfl (ra2 1 8 ?_ ?_)))
     ·refine og 5 ⟨rfl,?_⟩
      exact raT hS23
     ·refine oO rfl (Vja (ac:=[.agg (Qca x17)]) (as0:=[.agg (Qca x17)]) (aw0:=[]) (aw1:=[aR 97 2 Qka x18.Keys]) (aw2:=[.box [.ref 2,.ref 3,.ref 4,sL Qba p0.Choices,sL Qaa p0.Out],.box [.nils,.nils,.nils,.nils,.nils],aR 3 1 encI x2,aR 29 1 (encL Qaa) s6,aR 84 3 Qca s15,aR 97 2 Qka x18.Keys]) (v:=.agg [iI x18.Sum,.ref 0,iI x18.Dep]) (v':=.agg [iI x18.Sum,.ref 5,iI x18.Dep]) (n0:=5) (n1:=1) [] rfl rfl rfl rfl (by decide) (Qxa) ⟨rn_agg ⟨Qga rfl,rn_s rfl,Qga rfl,trivial⟩,trivial⟩ (FnX.of_fnO (stage_Copy_c x17 x18 hx18)) rfl (rm_agg (cs:=[iI x18.Sum,.ref 5,iI x18.Dep]) (ds:=[iI x18.Sum,.ref 0,iI x18.Dep]) ⟨Qua (Qea _ _),Vga (by decide),Qua (Qea _ _),trivial⟩) ⟨.inr ⟨rfl,rfl⟩,.inr ⟨rfl,rfl⟩,.inr ⟨rfl,rfl⟩,.inr ⟨rfl,rfl⟩,.inr ⟨rfl,rfl⟩,.inl ⟨0,_,by decide,rfl,Zca V9a⟩,trivial⟩ (ra1 1 (og 6 ⟨rfl,(r0 9 rfl (Qoa (en:=Qca) Ty.s27 rfl rfl rfl hx19 ?_))⟩)))
      exact raE hS22
   ·refine ra1 8 (oO rfl (Vja (ac:=[.agg (Qca x17)]) (as0:=[.agg (Qca x17)]) (aw0:=[]) (aw1:=[aR 97 2 Qka x18.Keys]) (aw2:=[.box [.ref 2,.ref 3,.ref 4,sL Qba p0.Choices,sL Qaa p0.Out],.box [.nils,.nils,.nils,.nils,.nils],aR 3 1 encI x2,aR 29 1 (encL Qaa) s6,aR 84 3 Qca s15,aR 97 2 Qka x18.Keys]) (v:=.agg [iI x18.Sum,.ref 0,iI x18.Dep]) (v':=.agg [iI x18.Sum,.ref 5,iI x18.Dep]) (n0:=5) (n1:=1) [] rfl rfl rfl rfl (by decide) (Qxa) ⟨rn_agg ⟨Qga rfl,rn_s rfl,Qga rfl,trivial⟩,trivial⟩ (FnX.of_fnO (stage_Copy_c x17 x18 hx18)) rfl (rm_agg (cs:=[iI x18.Sum,.ref 5,iI x18.Dep]) (ds:=[iI x18.Sum,.ref 0,iI x18.Dep]) ⟨Qua (Qea _ _),Vga (by decide),Qua (Qea _ _),trivial⟩) ⟨.inr ⟨rfl,rfl⟩,.inr ⟨rfl,rfl⟩,.inr ⟨rfl,rfl⟩,.inr ⟨rfl,rfl⟩,.inr ⟨rfl,rfl⟩,.inl ⟨0,_,by decide,rfl,Zca V9a⟩,trivial⟩ (r0 9 rfl (Qoa (en:=Qca) Ty.s27 rfl rfl rfl hx19 ?_))))
    exact raT hS22
   refine ra1 10 (RO.fC 5 (oO rfl (J2a (en:=Qca) (a:=x20) (a':=x18) Ty.c84 Ty.i84 rfl (vs:=[iI x18.Sum,sL Qka x18.Keys,iI x18.Dep]) rfl rfl rfl hx20 rfl rfl rfl (RA.done (by decide +kernel) (T.region (go 2 6 (RS.nil ?_)))))))
   exact ⟨(IntKind.i64.wrap (s14+1),(List.set s15 x19 x18)),(Option.some.inj h).symm,wk [] [0,1,2,3,4] 6 rfl⟩
  refine T.exit ?_
  obtain ⟨w_24,h,hw_24⟩:=Qsa h
  replace h:=h.trans (congrArg some (hv_20 _ hw_24))
  refine T.seq ?_
  obtain ⟨x22,hx22,h⟩:=bind_some h
  refine T.region (go 2 5 (sO (cO 5 (Vva p0.Choices x22 hx22) ⟨rfl,(go 2 6 (RS.nil (T.seq ?_)))⟩)))
  obtain ⟨x24,hx24,h⟩:=bind_some h
  refine T.region (go 2 6 (sO (cO 6 (Jga p0.Out x24 hx24) ⟨rfl,(go 2 7 (RS.nil (T.seq (T.region (go 2 7 (RS.nil ?_))))))⟩)))
  cases h
  exact tO [] [2,3,4,5,6] 7
theorem crossref_CheckNet_3_c (p0:Int) (r:Bool) (h:Vka p0=some r):Fn Tryz.prog 81 [iI p0] (.bool r):=by
  unfold Vka at h
  refine fnT 0 Tryz.func81 Tryz.ntmps81 ?_
  refine T.seq (T.region (go 1 0 (RS.nil (T.seq (T.region (go 3 0 (RS.nil ?_)))))))
  cases h
  exact tD
theorem Jca (p0:Int) (r:Bool) (h:Q7a p0=some r):Fn Tryz.prog 79 [iI p0] (.bool r):=by
  unfold Q7a at h
  refine fnT 0 Tryz.func79 Tryz.ntmps79 ?_
  refine T.seq (T.region (go 1 0 (RS.nil (T.seq (T.region (go 3 0 (RS.nil ?_)))))))
  cases h
  exact tD
theorem Qqb (p0:Int) (r:Bool) (h:Zwa p0=some r):Fn Tryz.prog 80 [iI p0] (.bool r):=by
  unfold Zwa at h
  refine fnT 0 Tryz.func80 Tryz.ntmps80 ?_
  refine T.seq (T.region (go 1 0 (RS.nil (T.seq (T.region (go 3 0 (RS.nil ?_)))))))
  cases h
  exact tD
theorem slices_Index_int_c (p0:List Int) (p1:Int) (r:Int) (h:Jeb p0 p1=some r):Fn Tryz.prog 97 [sL encI p0,iI p1] (iI r):=by
  unfold Jeb at h
  refine fnT 0 Tryz.func97 Tryz.ntmps97 ?_
  refine T.seq (T.region (go 1 0 (RS.nil (T.seq (T.seq (T.region (go 1 0 (sQ (Qfa Ty.s26 rfl (go 1 0 ?_))))))))))
  refine RS.nil (T.block (T.iter (fun ss_5:Int=>mkA 19 [(0,sL encI p0),(1,iI p1),(7,iI ((p0).length:Int)),(8,iI ss_5)]) (fun ss_5=>[]) h (wk [] [] 0 rfl) (fun ss_5 v_6 h hv_6=>?_)))
  revert hv_6 h;revert ss_5;intro s1 h hv_6
  replace h:Via p0 p1 s1=some v_6:=h
  try dsimp only
  unfold Via at h
  refine T.seq (T.region (go 1 0 (RS.nil (T.seq (T.ci h rfl (fun hb_7 h=>?_) (fun hb_7 h=>?_))))))
  ·refine T.skip (T.seq (T.block (T.seq (T.region (go 2 0 (RS.nil (T.seq ?_)))))))
   obtain ⟨x3,hx3,h⟩:=bind_some h
   refine T.region (go 3 0 (sQ (Qda Ty.s26 (fun _=>rfl) rfl rfl hx3 (go 2 0 (RS.nil (T.ci h rfl (fun hb_8 h=>?_) (fun hb_8 h=>?_)))))))
   ·refine T.seq (T.region (go 2 0 (RS.nil ?_)))
    obtain ⟨w_9,h,hw_9⟩:=Qsa h
    replace h:=h.trans (congrArg some (hv_6 _ hw_9))
    cases h
    exact tD
   refine T.skip (T.region (go 2 0 (RS.nil ?_)))
   exact ⟨IntKind.i64.wrap (s1+1),(Option.some.inj h).symm,wk [] [] 0 rfl⟩
  refine T.exit ?_
  obtain ⟨w_10,h,hw_10⟩:=Qsa h
  replace h:=h.trans (congrArg some (hv_6 _ hw_10))
  refine T.seq (T.region (go 1 0 (RS.nil ?_)))
  cases h
  exact tD
theorem slices_Contains_int_c (p0:List Int) (p1:Int) (r:Bool) (h:Vla p0 p1=some r):Fn Tryz.prog 82 [sL encI p0,iI p1] (.bool r):=by
  unfold Vla at h
  refine fnT 0 Tryz.func82 Tryz.ntmps82 ?_
  refine T.seq (T.region (go 1 0 (RS.nil (T.seq ?_))))
  obtain ⟨x2,hx2,h⟩:=bind_some h
  refine T.region (go 2 0 (sO (cF (slices_Index_int_c p0 p1 x2 hx2) ⟨rfl,(go 2 0 (RS.nil ?_))⟩)))
  cases h
  exact tD
end Go.Proofs.YtfbmoockopakjaaGreat
namespace Go.Proofs.YtfbmoockopakjaaGreat
open Go.RowKit
set_option linter.unusedVariables false
set_option linter.unusedSimpArgs false
set_option maxRecDepth 100000
set_option maxHeartbeats 4000000
set_option synthInstance.maxSize 100000
set_option synthInstance.maxHeartbeats 4000000
set_option maxHeartbeats 40000000 in
theorem crossref_CheckNet_c (p0:Net) (r:(List Int) × Int) (h:Yba p0=some r):FnO Tryz.prog 35 [.agg (Qma p0)] (.tup [.ref 0,iI r.2]) [aR 3 1 encI r.1]:=by
  unfold Yba at h
  refine fnT 0 Tryz.func35 Tryz.ntmps35 ?_
  refine T.seq (T.region (go 3 0 (RS.nil (T.seq (T.join (Z:=Unit) (fun _=>mkA 249 [(1,.ptr 0 0),(48,.bool ((((p0.Nodes).length:Int)==0) || ((decide (((p0.Nodes).length:Int) > 12)) || ((decide (p0.Rings<0)) || decide (p0.Rings > 16)))))]) (fun _=>[.box (Qma p0)]) (fun _=>True) (fun _ _=>?_) (fun hK=>?_))))))
  ·refine T.ci h rfl (fun hb_4 h=>?_) (fun hb_4 h=>?_)
   ·refine T.seq (T.region (go 2 1 (RS.nil ?_)))
    cases h
    exact tO [(0,3,1)] [1] 1
   refine T.skip (T.seq (T.join (Z:=Unit) (fun _=>mkA 249 [(1,.ptr 0 0),(56,.bool ((decide (p0.Room<1)) || decide (p0.Room > 6)))]) (fun _=>[.box (Qma p0)]) (fun _=>True) (fun _ _=>?_) (fun hK=>?_)))
   ·refine T.ci h rfl (fun hb_6 h=>?_) (fun hb_6 h=>?_)
    ·refine T.seq (T.region (go 2 1 (RS.nil ?_)))
     cases h
     exact tO [(0,3,1)] [1] 1
    refine T.skip (T.seq (T.region (sO (o_makeMap rfl rfl (sO (o_makeMap rfl rfl (go 2 3 (RS.nil (T.seq (T.region (go 1 3 ?_)))))))))))
    refine RS.nil (T.seq (T.seq (T.region (go 2 3 (sQ (Qfa Ty.s22 rfl (go 1 3 (RS.nil (T.block (T.iter (fun ss_293:Int × Int × (List (Int × Int)) × (List (Int × Int))=>mkA 249 [(1,.ptr 0 0),(4,.mpr 1),(5,.mpr 2),(6,iI ss_293.1),(60,sL Qja p0.Nodes),(61,iI ((p0.Nodes).length:Int)),(62,iI ss_293.2.1)]) (fun ss_293=>[.box (Qma p0),.mp (List.map kI (List.map Prod.fst ss_293.2.2.1)) (List.map kI (List.map Prod.snd ss_293.2.2.1)),.mp (List.map kI (List.map Prod.fst ss_293.2.2.2)) (List.map kI (List.map Prod.snd ss_293.2.2.2))]) h (Weak.mkN [] [0,1,2] (by decide) (Qla _) rfl ⟨Qqa rfl,Jja rfl,Jja rfl,Qga rfl,rn_s rfl,Qga rfl,Qga rfl,trivial⟩ (rw_bs (Qma p0) rfl (rw_mp (ek:=kI) (ev:=kI) (ys:=([]:List (Int × Int))) rfl (fun _=>Qea _ _) (fun _=>Qea _ _) rfl (rw_mp (ek:=kI) (ev:=kI) (ys:=([]:List (Int × Int))) rfl (fun _=>Qea _ _) (fun _=>Qea _ _) rfl (Qxa))))) (fun ss_293 v_294 h hv_294=>?_)))))))))))
    obtain ⟨s3,s4,s5,s6⟩:=ss_293
    replace h:Jna p0 s3 s4 s5 s6=some v_294:=h
    try dsimp only
    unfold Jna at h
    refine T.seq (T.region (go 1 3 (RS.nil (T.seq (T.ci h rfl (fun hb_295 h=>?_) (fun hb_295 h=>?_))))))
    ·refine T.skip (T.seq (T.block (T.seq ?_)))
     obtain ⟨x8,hx8,h⟩:=bind_some h
     refine T.region (go 1 3 (sQ (Qda Ty.s22 (fun _=>rfl) rfl rfl hx8 (go 4 3 (RS.nil (T.seq (T.region (go 1 4 (RS.nil (T.seq ?_))))))))))
     refine T.region (go 1 4 (RS.nil (T.seq (T.region (go 1 4 (RS.nil (T.join2 (Z:=Unit) (fun zz_360=>mkA 249 [(1,.ptr 0 0),(4,.mpr 1),(5,.mpr 2),(6,iI s3),(7,iI s4),(8,.ptr 3 0),(60,sL Qja p0.Nodes),(61,iI ((p0.Nodes).length:Int)),(62,iI s4)]) (fun zz_360=>[.box (Qma p0),.mp (List.map kI (List.map Prod.fst s5)) (List.map kI (List.map Prod.snd s5)),.mp (List.map kI (List.map Prod.fst s6)) (List.map kI (List.map Prod.snd s6)),.box (Qja x8)]) (fun zz_360=>Q8a p0 s3 s4 s5 s6 x8=some v_294) (fun zz_360 h=>?_) (fun hK3=>?_))))))))
     ·replace h:Q8a p0 s3 s4 s5 s6 x8=some v_294:=h
      unfold Q8a at h
      refine T.seq (T.region (sO (o_makeMap rfl rfl (sO (o_mapPut (ek:=kI) (ev:=kI) (xs:=([]:List (Int × Int))) (k:=1) (a:=3) (.inr rfl) Tryz.underlying73 (KeyT.int Tryz.underlying3) rfl rfl rfl rfl rfl (sO (o_mapPut (ek:=kI) (ev:=kI) (xs:=(mset 1 3 ([]:List (Int × Int)))) (k:=2) (a:=3) (.inr rfl) Tryz.underlying73 (KeyT.int Tryz.underlying3) rfl rfl rfl rfl rfl (go 3 5 (sO (o_lookup (ek:=kI) (ev:=kI) (xs:=(mset 2 3 (mset 1 3 ([]:List (Int × Int))))) (k:=x8.Kind) (z0:=0) Tryz.underlying73 (KeyT.int Tryz.underlying3) Ty.w3 (fun _ _ _=>.int _ _) rfl rfl rfl (go 1 5 (RS.nil (T.seq ?_)))))))))))))
      refine T.join (Z:=Unit) (fun _=>mkA 249 [(1,.ptr 0 0),(4,.mpr 1),(5,.mpr 2),(6,iI s3),(7,iI s4),(8,.ptr 3 0),(60,sL Qja p0.Nodes),(61,iI ((p0.Nodes).length:Int)),(62,iI s4),(130,.bool ((decide (x8.A<0)) || decide (x8.A > ((mget x8.Kind (mset 2 3 (mset 1 3 ([]:List (Int × Int))))).getD 0))))]) (fun _=>[.box (Qma p0),.mp (List.map kI (List.map Prod.fst s5)) (List.map kI (List.map Prod.snd s5)),.mp (List.map kI (List.map Prod.fst s6)) (List.map kI (List.map Prod.snd s6)),.box (Qja x8)]) (fun _=>True) (fun _ _=>?_) (fun hK=>?_)
      ·refine T.ci h rfl (fun hb_362 h=>?_) (fun hb_362 h=>?_)
       ·refine T.seq (T.region (go 2 4 (RS.nil ?_)))
        obtain ⟨w_363,h,hw_363⟩:=Qsa h
        replace h:=h.trans (congrArg some (hv_294 _ hw_363))
        cases h
        exact tO [(0,3,1)] [4] 4
       refine T.skip (T.seq (T.seq (T.region (go 2 4 (sQ (Qfa Ty.s26 rfl (go 1 4 (RS.nil (T.block (T.iter (fun ss_372:Int × (List (Int × Int))=>mkA 249 [(1,.ptr 0 0),(4,.mpr 1),(5,.mpr 2),(6,iI s3),(7,iI s4),(8,.ptr 3 0),(60,sL Qja p0.Nodes),(61,iI ((p0.Nodes).length:Int)),(62,iI s4),(132,sL encI x8.In),(133,iI ((x8.In).length:Int)),(134,iI ss_372.1)]) (fun ss_372=>[.box (Qma p0),.mp (List.map kI (List.map Prod.fst s5)) (List.map kI (List.map Prod.snd s5)),.mp (List.map kI (List.map Prod.fst ss_372.2)) (List.map kI (List.map Prod.snd ss_372.2)),.box (Qja x8)]) h (Weak.mkN [] [0,1,2,3] (by decide) (Qla _) rfl ⟨Qqa rfl,Jja rfl,Jja rfl,Qga rfl,Qga rfl,Qqa rfl,rn_s rfl,Qga rfl,Qga rfl,rn_s rfl,Qga rfl,Qga rfl,trivial⟩ (rw_bs (Qma p0) rfl (rw_mp (ek:=kI) (ev:=kI) (ys:=s5) rfl (fun _=>Qea _ _) (fun _=>Qea _ _) rfl (rw_mp (ek:=kI) (ev:=kI) (ys:=s6) rfl (fun _=>Qea _ _) (fun _=>Qea _ _) rfl (rw_bs (Qja x8) rfl (Qxa)))))) (fun ss_372 v_373 h hv_373=>?_)))))))))))
       obtain ⟨s34,s35⟩:=ss_372
       replace h:Jaa p0 s3 s4 s5 x8 s34 s35=some v_373:=h
       try dsimp only
       unfold Jaa at h
       refine T.seq (T.region (go 1 4 (RS.nil (T.seq (T.ci h rfl (fun hb_374 h=>?_) (fun hb_374 h=>?_))))))
       ·refine T.skip (T.seq (T.block (T.seq ?_)))
        obtain ⟨x37,hx37,h⟩:=bind_some h
        refine T.region (sQ (Qda Ty.s26 (fun _=>rfl) rfl rfl hx37 (go 2 4 (RS.nil (T.seq (T.join (Z:=Unit) (fun _=>mkA 249 [(1,.ptr 0 0),(4,.mpr 1),(5,.mpr 2),(6,iI s3),(7,iI s4),(8,.ptr 3 0),(16,iI x37),(60,sL Qja p0.Nodes),(61,iI ((p0.Nodes).length:Int)),(62,iI s4),(132,sL encI x8.In),(133,iI ((x8.In).length:Int)),(134,iI s34),(145,.bool ((decide (x37<0)) || decide (x37 ≥ p0.Rings)))]) (fun _=>[.box (Qma p0),.mp (List.map kI (List.map Prod.fst s5)) (List.map kI (List.map Prod.snd s5)),.mp (List.map kI (List.map Prod.fst s35)) (List.map kI (List.map Prod.snd s35)),.box (Qja x8)]) (fun _=>True) (fun _ _=>?_) (fun hK=>?_)))))))
        ·refine T.ci h rfl (fun hb_376 h=>?_) (fun hb_376 h=>?_)
         ·refine T.seq (T.region (go 2 4 (RS.nil ?_)))
          obtain ⟨w_377,h,hw_377⟩:=Qsa h
          replace h:=h.trans (congrArg some (hv_373 _ hw_377))
          obtain ⟨w_378,h,hw_378⟩:=Qsa h
          replace h:=h.trans (congrArg some (hv_294 _ hw_378))
          cases h
          exact tO [(0,3,1)] [4] 4
         refine T.skip (T.seq (T.seq (T.region (go 2 4 (sO (o_lookup_ok (ek:=kI) (ev:=kI) (xs:=s35) (k:=x37) (z0:=0) Tryz.underlying73 (KeyT.int Tryz.underlying3) Ty.w3 (fun _ _ _=>.int _ _) rfl rfl rfl (go 5 4 (RS.nil (T.seq (T.region ?_))))))))))
         refine go 1 4 (RS.nil (T.ci h rfl (fun hb_379 h=>?_) (fun hb_379 h=>?_)))
         ·refine T.seq (T.region (go 2 4 (RS.nil ?_)))
          obtain ⟨w_380,h,hw_380⟩:=Qsa h
          replace h:=h.trans (congrArg some (hv_373 _ hw_380))
          obtain ⟨w_381,h,hw_381⟩:=Qsa h
          replace h:=h.trans (congrArg some (hv_294 _ hw_381))
          cases h
          exact tO [(0,3,1)] [4] 4
         refine T.skip (T.region (go 3 4 (sO (o_mapPut (ek:=kI) (ev:=kI) (xs:=s35) (k:=x37) (a:=s4) (.inl rfl) Tryz.underlying73 (KeyT.int Tryz.underlying3) rfl rfl rfl rfl rfl (RS.nil (T.region (go 2 4 (RS.nil ?_))))))))
         exact ⟨(IntKind.i64.wrap (s34+1),(mset x37 s4 s35)),(Option.some.inj h).symm,Weak.mkN [] [0,1,2,3] (by decide) (Qla _) rfl ⟨Qqa rfl,Jja rfl,Jja rfl,Qga rfl,Qga rfl,Qqa rfl,rn_s rfl,Qga rfl,Qga rfl,rn_s rfl,Qga rfl,Qga rfl,trivial⟩ (rw_bs (Qma p0) rfl (rw_mp (ek:=kI) (ev:=kI) (ys:=s5) rfl (fun _=>Qea _ _) (fun _=>Qea _ _) rfl (rw_mp (ek:=kI) (ev:=kI) (ys:=(mset x37 s4 s35)) rfl (fun _=>Qea _ _) (fun _=>Qea _ _) rfl (rw_bs (Qja x8) rfl (Qxa)))))⟩
        refine T.region (go 3 4 ?_)
        rcases Qha (decide (x37<0)) with hb_375 | hb_375
        ·refine sN hb_375 (sN hb_375 (sN hb_375 (sN hb_375 (sQ (Qna (v:=.bool true) rfl hb_375 rfl (RS.nil ?_))))))
         exact T.sub (hK () trivial) ⟨rfl,rfl,rfl,rfl,rfl,rfl,rfl,rfl,rfl,rfl,rfl,rfl,rfl,(congrArg AV.bool (by simp only [hb_375,bz,if_true,if_false,Bool.false_eq_true])).symm,trivial⟩
        refine yg 4 hb_375 (yg 4 hb_375 (yg 4 hb_375 (yg 4 hb_375 (sQ (Qia (v:=.bool (decide (x37 ≥ p0.Rings))) rfl hb_375 rfl (RS.nil ?_))))))
        exact T.sub (hK () trivial) ⟨rfl,rfl,rfl,rfl,rfl,rfl,rfl,rfl,rfl,rfl,rfl,rfl,rfl,(congrArg AV.bool (by simp only [hb_375,bz,if_true,if_false,Bool.false_eq_true])).symm,trivial⟩
       refine T.exit ?_
       obtain ⟨w_382,h,hw_382⟩:=Qsa h
       replace h:=h.trans (congrArg some (hv_373 _ hw_382))
       refine T.seq (T.seq (T.region (go 2 4 (sQ (Qfa Ty.s26 rfl (go 1 4 (RS.nil (T.block (T.iter (fun ss_391:Int × (List (Int × Int))=>mkA 249 [(1,.ptr 0 0),(4,.mpr 1),(5,.mpr 2),(6,iI s3),(7,iI s4),(8,.ptr 3 0),(60,sL Qja p0.Nodes),(61,iI ((p0.Nodes).length:Int)),(62,iI s4),(158,sL encI x8.Out),(159,iI ((x8.Out).length:Int)),(160,iI ss_391.1)]) (fun ss_391=>[.box (Qma p0),.mp (List.map kI (List.map Prod.fst ss_391.2)) (List.map kI (List.map Prod.snd ss_391.2)),.mp (List.map kI (List.map Prod.fst s35)) (List.map kI (List.map Prod.snd s35)),.box (Qja x8)]) h (Weak.mkN [] [0,1,2,3] (by decide) (Qla _) rfl ⟨Qqa rfl,Jja rfl,Jja rfl,Qga rfl,Qga rfl,Qqa rfl,rn_s rfl,Qga rfl,Qga rfl,rn_s rfl,Qga rfl,Qga rfl,trivial⟩ (rw_bs (Qma p0) rfl (rw_mp (ek:=kI) (ev:=kI) (ys:=s5) rfl (fun _=>Qea _ _) (fun _=>Qea _ _) rfl (rw_mp (ek:=kI) (ev:=kI) (ys:=s35) rfl (fun _=>Qea _ _) (fun _=>Qea _ _) rfl (rw_bs (Qja x8) rfl (Qxa)))))) (fun ss_391 v_392 h hv_392=>?_))))))))))
       obtain ⟨s39,s40⟩:=ss_391
       replace h:Jma p0 s3 s4 x8 s35 s39 s40=some v_392:=h
       try dsimp only
       unfold Jma at h
       refine T.seq (T.region (go 1 4 (RS.nil (T.seq (T.ci h rfl (fun hb_393 h=>?_) (fun hb_393 h=>?_))))))
       ·refine T.skip (T.seq (T.block (T.seq ?_)))
        obtain ⟨x42,hx42,h⟩:=bind_some h
        refine T.region (sQ (Qda Ty.s26 (fun _=>rfl) rfl rfl hx42 (go 2 4 (RS.nil (T.seq (T.join (Z:=Unit) (fun _=>mkA 249 [(1,.ptr 0 0),(4,.mpr 1),(5,.mpr 2),(6,iI s3),(7,iI s4),(8,.ptr 3 0),(20,iI x42),(60,sL Qja p0.Nodes),(61,iI ((p0.Nodes).length:Int)),(62,iI s4),(158,sL encI x8.Out),(159,iI ((x8.Out).length:Int)),(160,iI s39),(171,.bool ((decide (x42<0)) || decide (x42 ≥ p0.Rings)))]) (fun _=>[.box (Qma p0),.mp (List.map kI (List.map Prod.fst s40)) (List.map kI (List.map Prod.snd s40)),.mp (List.map kI (List.map Prod.fst s35)) (List.map kI (List.map Prod.snd s35)),.box (Qja x8)]) (fun _=>True) (fun _ _=>?_) (fun hK=>?_)))))))
        ·refine T.ci h rfl (fun hb_395 h=>?_) (fun hb_395 h=>?_)
         ·refine T.seq (T.region (go 2 4 (RS.nil ?_)))
          obtain ⟨w_396,h,hw_396⟩:=Qsa h
          replace h:=h.trans (congrArg some (hv_392 _ hw_396))
          obtain ⟨w_397,h,hw_397⟩:=Qsa h
          replace h:=h.trans (congrArg some (hv_294 _ hw_397))
          cases h
          exact tO [(0,3,1)] [4] 4
         refine T.skip (T.seq (T.seq (T.region (go 2 4 (sO (o_lookup_ok (ek:=kI) (ev:=kI) (xs:=s40) (k:=x42) (z0:=0) Tryz.underlying73 (KeyT.int Tryz.underlying3) Ty.w3 (fun _ _ _=>.int _ _) rfl rfl rfl (go 5 4 (RS.nil (T.seq (T.region ?_))))))))))
         refine go 1 4 (RS.nil (T.ci h rfl (fun hb_398 h=>?_) (fun hb_398 h=>?_)))
         ·refine T.seq (T.region (go 2 4 (RS.nil ?_)))
          obtain ⟨w_399,h,hw_399⟩:=Qsa h
          replace h:=h.trans (congrArg some (hv_392 _ hw_399))
          obtain ⟨w_400,h,hw_400⟩:=Qsa h
          replace h:=h.trans (congrArg some (hv_294 _ hw_400))
          cases h
          exact tO [(0,3,1)] [4] 4
         refine T.skip (T.region (go 3 4 (sO (o_mapPut (ek:=kI) (ev:=kI) (xs:=s40) (k:=x42) (a:=s4) (.inl rfl) Tryz.underlying73 (KeyT.int Tryz.underlying3) rfl rfl rfl rfl rfl (RS.nil (T.region (go 2 4 (RS.nil ?_))))))))
         exact ⟨(IntKind.i64.wrap (s39+1),(mset x42 s4 s40)),(Option.some.inj h).symm,Weak.mkN [] [0,1,2,3] (by decide) (Qla _) rfl ⟨Qqa rfl,Jja rfl,Jja rfl,Qga rfl,Qga rfl,Qqa rfl,rn_s rfl,Qga rfl,Qga rfl,rn_s rfl,Qga rfl,Qga rfl,trivial⟩ (rw_bs (Qma p0) rfl (rw_mp (ek:=kI) (ev:=kI) (ys:=(mset x42 s4 s40)) rfl (fun _=>Qea _ _) (fun _=>Qea _ _) rfl (rw_mp (ek:=kI) (ev:=kI) (ys:=s35) rfl (fun _=>Qea _ _) (fun _=>Qea _ _) rfl (rw_bs (Qja x8) rfl (Qxa)))))⟩
        refine T.region (go 3 4 ?_)
        rcases Qha (decide (x42<0)) with hb_394 | hb_394
        ·refine sN hb_394 (sN hb_394 (sN hb_394 (sN hb_394 (sQ (Qna (v:=.bool true) rfl hb_394 rfl (RS.nil ?_))))))
         exact T.sub (hK () trivial) ⟨rfl,rfl,rfl,rfl,rfl,rfl,rfl,rfl,rfl,rfl,rfl,rfl,rfl,(congrArg AV.bool (by simp only [hb_394,bz,if_true,if_false,Bool.false_eq_true])).symm,trivial⟩
        refine yg 4 hb_394 (yg 4 hb_394 (yg 4 hb_394 (yg 4 hb_394 (sQ (Qia (v:=.bool (decide (x42 ≥ p0.Rings))) rfl hb_394 rfl (RS.nil ?_))))))
        exact T.sub (hK () trivial) ⟨rfl,rfl,rfl,rfl,rfl,rfl,rfl,rfl,rfl,rfl,rfl,rfl,rfl,(congrArg AV.bool (by simp only [hb_394,bz,if_true,if_false,Bool.false_eq_true])).symm,trivial⟩
       refine T.exit ?_
       obtain ⟨w_401,h,hw_401⟩:=Qsa h
       replace h:=h.trans (congrArg some (hv_392 _ hw_401))
       refine T.seq (T.region (go 3 4 (RS.nil (T.ci h rfl (fun hb_402 h=>?_) (fun hb_402 h=>?_)))))
       ·refine T.region (go 3 4 (RS.nil (T.region (go 2 4 (RS.nil ?_)))))
        exact ⟨(IntKind.i64.wrap (s3+1),IntKind.i64.wrap (s4+1),s40,s35),(Option.some.inj h).symm,Weak.mkN [] [0,1,2] (by decide) (Qla _) rfl ⟨Qqa rfl,Jja rfl,Jja rfl,Qga rfl,rn_s rfl,Qga rfl,Qga rfl,trivial⟩ (rw_bs (Qma p0) rfl (rw_mp (ek:=kI) (ev:=kI) (ys:=s40) rfl (fun _=>Qea _ _) (fun _=>Qea _ _) rfl (rw_mp (ek:=kI) (ev:=kI) (ys:=s35) rfl (fun _=>Qea _ _) (fun _=>Qea _ _) rfl (Qxa))))⟩
       refine T.skip (T.region (go 2 4 (RS.nil ?_)))
       exact ⟨(s3,IntKind.i64.wrap (s4+1),s40,s35),(Option.some.inj h).symm,Weak.mkN [] [0,1,2] (by decide) (Qla _) rfl ⟨Qqa rfl,Jja rfl,Jja rfl,Qga rfl,rn_s rfl,Qga rfl,Qga rfl,trivial⟩ (rw_bs (Qma p0) rfl (rw_mp (ek:=kI) (ev:=kI) (ys:=s40) rfl (fun _=>Qea _ _) (fun _=>Qea _ _) rfl (rw_mp (ek:=kI) (ev:=kI) (ys:=s35) rfl (fun _=>Qea _ _) (fun _=>Qea _ _) rfl (Qxa))))⟩
      refine T.region (go 4 5 ?_)
      rcases Qha (decide (x8.A<0)) with hb_361 | hb_361
      ·refine sN hb_361 (sN hb_361 (sN hb_361 (sN hb_361 (sQ (Qna (v:=.bool true) rfl hb_361 rfl (RS.nil ?_))))))
       exact T.weakR (hK () trivial) (Weak.mkN [] [0,1,2,3] (by decide) (Qla _) rfl ⟨Qqa rfl,Jja rfl,Jja rfl,Qga rfl,Qga rfl,Qqa rfl,rn_s rfl,Qga rfl,Qga rfl,Q6a (by simp only [hb_361,bz,if_true,if_false,Bool.false_eq_true]),trivial⟩ (rw_bs (Qma p0) rfl (rw_mp (ek:=kI) (ev:=kI) (ys:=s5) rfl (fun _=>Qea _ _) (fun _=>Qea _ _) rfl (rw_mp (ek:=kI) (ev:=kI) (ys:=s6) rfl (fun _=>Qea _ _) (fun _=>Qea _ _) rfl (rw_bs (Qja x8) rfl (Qxa))))))
      refine yg 5 hb_361 (yg 5 hb_361 (yg 5 hb_361 (yg 5 hb_361 (sQ (Qia (v:=.bool (decide (x8.A > ((mget x8.Kind (mset 2 3 (mset 1 3 ([]:List (Int × Int))))).getD 0)))) rfl hb_361 rfl (RS.nil ?_))))))
      exact T.weakR (hK () trivial) (Weak.mkN [] [0,1,2,3] (by decide) (Qla _) rfl ⟨Qqa rfl,Jja rfl,Jja rfl,Qga rfl,Qga rfl,Qqa rfl,rn_s rfl,Qga rfl,Qga rfl,Q6a (by simp only [hb_361,bz,if_true,if_false,Bool.false_eq_true]),trivial⟩ (rw_bs (Qma p0) rfl (rw_mp (ek:=kI) (ev:=kI) (ys:=s5) rfl (fun _=>Qea _ _) (fun _=>Qea _ _) rfl (rw_mp (ek:=kI) (ev:=kI) (ys:=s6) rfl (fun _=>Qea _ _) (fun _=>Qea _ _) rfl (rw_bs (Qja x8) rfl (Qxa))))))
     refine T.seq (T.region (sO (o_makeMap rfl rfl (go 3 5 (sO (Qeb (ek:=kI) (ks:=[]) (vs:=[]) (k:=1) (a:=.agg [.func 81 [],.func 79 []]) (o2:=.mp (List.map kI [1]) [.agg [.func 81 [],.func 79 []]]) (.inr rfl) Tryz.underlying124 (KeyT.int Tryz.underlying3) rfl rfl rfl rfl rfl rfl (go 3 5 (sO (Qeb (ek:=kI) (ks:=[1]) (vs:=[.agg [.func 81 [],.func 79 []]]) (k:=2) (a:=.agg [.func 79 [],.func 79 []]) (o2:=.mp (List.map kI [1,2]) [.agg [.func 81 [],.func 79 []],.agg [.func 79 [],.func 79 []]]) (.inr rfl) Tryz.underlying124 (KeyT.int Tryz.underlying3) rfl rfl rfl rfl rfl rfl (go 3 5 (sO (Qeb (ek:=kI) (ks:=[1,2]) (vs:=[.agg [.func 81 [],.func 79 []],.agg [.func 79 [],.func 79 []]]) (k:=3) (a:=.agg [.func 79 [],.func 79 []]) (o2:=.mp (List.map kI [1,2,3]) [.agg [.func 81 [],.func 79 []],.agg [.func 79 [],.func 79 []],.agg [.func 79 [],.func 79 []]]) (.inr rfl) Tryz.underlying124 (KeyT.int Tryz.underlying3) rfl rfl rfl rfl rfl rfl (go 3 5 ?_)))))))))))))
     refine sO (Qeb (ek:=kI) (ks:=[1,2,3]) (vs:=[.agg [.func 81 [],.func 79 []],.agg [.func 79 [],.func 79 []],.agg [.func 79 [],.func 79 []]]) (k:=4) (a:=.agg [.func 79 [],.func 79 []]) (o2:=.mp (List.map kI [1,2,3,4]) [.agg [.func 81 [],.func 79 []],.agg [.func 79 [],.func 79 []],.agg [.func 79 [],.func 79 []],.agg [.func 79 [],.func 79 []]]) (.inr rfl) Tryz.underlying124 (KeyT.int Tryz.underlying3) rfl rfl rfl rfl rfl rfl (go 3 5 (sO (Qeb (ek:=kI) (ks:=[1,2,3,4]) (vs:=[.agg [.func 81 [],.func 79 []],.agg [.func 79 [],.func 79 []],.agg [.func 79 [],.func 79 []],.agg [.func 79 [],.func 79 []]]) (k:=5) (a:=.agg [.func 79 [],.func 80 []]) (o2:=.mp (List.map kI [1,2,3,4,5]) [.agg [.func 81 [],.func 79 []],.agg [.func 79 [],.func 79 []],.agg [.func 79 [],.func 79 []],.agg [.func 79 [],.func 79 []],.agg [.func 79 [],.func 80 []]]) (.inr rfl) Tryz.underlying124 (KeyT.int Tryz.underlying3) rfl rfl rfl rfl rfl rfl (go 3 5 (sO (Qeb (ek:=kI) (ks:=[1,2,3,4,5]) (vs:=[.agg [.func 81 [],.func 79 []],.agg [.func 79 [],.func 79 []],.agg [.func 79 [],.func 79 []],.agg [.func 79 [],.func 79 []],.agg [.func 79 [],.func 80 []]]) (k:=7) (a:=.agg [.func 79 [],.func 80 []]) (o2:=.mp (List.map kI [1,2,3,4,5,7]) [.agg [.func 81 [],.func 79 []],.agg [.func 79 [],.func 79 []],.agg [.func 79 [],.func 79 []],.agg [.func 79 [],.func 79 []],.agg [.func 79 [],.func 80 []],.agg [.func 79 [],.func 80 []]]) (.inr rfl) Tryz.underlying124 (KeyT.int Tryz.underlying3) rfl rfl rfl rfl rfl rfl (go 3 5 (sO (Qeb (ek:=kI) (ks:=[1,2,3,4,5,7]) (vs:=[.agg [.func 81 [],.func 79 []],.agg [.func 79 [],.func 79 []],.agg [.func 79 [],.func 79 []],.agg [.func 79 [],.func 79 []],.agg [.func 79 [],.func 80 []],.agg [.func 79 [],.func 80 []]]) (k:=6) (a:=.agg [.func 80 [],.func 79 []]) (o2:=.mp (List.map kI [1,2,3,4,5,7,6]) [.agg [.func 81 [],.func 79 []],.agg [.func 79 [],.func 79 []],.agg [.func 79 [],.func 79 []],.agg [.func 79 [],.func 79 []],.agg [.func 79 [],.func 80 []],.agg [.func 79 [],.func 80 []],.agg [.func 80 [],.func 79 []]]) (.inr rfl) Tryz.underlying124 (KeyT.int Tryz.underlying3) rfl rfl rfl rfl rfl rfl (go 3 5 (sO (Qeb (ek:=kI) (ks:=[1,2,3,4,5,7,6]) (vs:=[.agg [.func 81 [],.func 79 []],.agg [.func 79 [],.func 79 []],.agg [.func 79 [],.func 79 []],.agg [.func 79 [],.func 79 []],.agg [.func 79 [],.func 80 []],.agg [.func 79 [],.func 80 []],.agg [.func 80 [],.func 79 []]]) (k:=8) (a:=.agg [.func 79 [],.func 81 []]) (o2:=.mp (List.map kI [1,2,3,4,5,7,6,8]) [.agg [.func 81 [],.func 79 []],.agg [.func 79 [],.func 79 []],.agg [.func 79 [],.func 79 []],.agg [.func 79 [],.func 79 []],.agg [.func 79 [],.func 80 []],.agg [.func 79 [],.func 80 []],.agg [.func 80 [],.func 79 []],.agg [.func 79 [],.func 81 []]]) (.inr rfl) Tryz.underlying124 (KeyT.int Tryz.underlying3) rfl rfl rfl rfl rfl rfl (go 3 5 ?_))))))))))))))
     rcases Qha (x8.Kind==1) with hb_411 | hb_411
     ·replace h:=ite_T h hb_411
      refine sO (Vra (ek:=kI) (ks:=[1,2,3,4,5,7,6,8]) (vs:=[.agg [.func 81 [],.func 79 []],.agg [.func 79 [],.func 79 []],.agg [.func 79 [],.func 79 []],.agg [.func 79 [],.func 79 []],.agg [.func 79 [],.func 80 []],.agg [.func 79 [],.func 80 []],.agg [.func 80 [],.func 79 []],.agg [.func 79 [],.func 81 []]]) (k:=x8.Kind) (az:=.agg [.nilf,.nilf]) (a:=.agg [.func 81 [],.func 79 []]) (r:=(some 0)) Tryz.underlying124 (KeyT.int Tryz.underlying3) Ty.w122 (fun _ _ _=>rel_agg (vs:=[.nilFunc,.nilFunc]) (.cons (.nilf) (.cons (.nilf) (.nil))) rfl) rfl rfl rfl (kix_eq (eq_of_beq hb_411)) rfl (go 6 5 (RS.nil (T.seq (T.seq (T.region (go 2 6 (RS.nil (T.cf rfl (T.skip ?_))))))))))
      refine T.seq ?_
      obtain ⟨x9,hx9,h⟩:=bind_some h
      obtain ⟨zt_420,hz,h⟩:=bind_some h
      revert hz h;revert zt_420;intro c11 hz h
      refine T.join (Z:=Unit) (fun _=>mkA 249 [(1,.ptr 0 0),(4,.mpr 1),(5,.mpr 2),(6,iI s3),(7,iI s4),(8,.ptr 3 0),(60,sL Qja p0.Nodes),(61,iI ((p0.Nodes).length:Int)),(62,iI s4),(116,.bool c11)]) (fun _=>[.box (Qma p0),.mp (List.map kI (List.map Prod.fst s5)) (List.map kI (List.map Prod.snd s5)),.mp (List.map kI (List.map Prod.fst s6)) (List.map kI (List.map Prod.snd s6)),.box (Qja x8)]) (fun _=>True) (fun _ _=>?_) (fun hK=>?_)
      ·refine T.ci h rfl (fun hb_421 h=>?_) (fun hb_421 h=>?_)
       ·refine T.seq (T.region (go 2 4 (RS.nil ?_)))
        obtain ⟨w_422,h,hw_422⟩:=Qsa h
        replace h:=h.trans (congrArg some (hv_294 _ hw_422))
        cases h
        exact tO [(0,3,1)] [4] 4
       refine T.skip ?_
       exact T.su (hK3 () h)
      refine T.region (go 4 6 (sQ (Qfa Ty.s26 rfl (sO (cF (crossref_CheckNet_3_c ((x8.In).length:Int) x9 hx9) ⟨rfl,(go 2 6 ?_)⟩)))))
      rcases Qha (!x9) with hb_419 | hb_419
      ·replace hz:=ite_T hz hb_419
       refine sN hb_419 (sN hb_419 (sN hb_419 (sN hb_419 (sN hb_419 (sN hb_419 (sN hb_419 (sQ (Qna (v:=.bool true) rfl hb_419 rfl (RS.nil ?_)))))))))
       exact T.weakR (hK () trivial) (Weak.mkN [] [0,1,2,3] (by decide) (Qla _) rfl ⟨Qqa rfl,Jja rfl,Jja rfl,Qga rfl,Qga rfl,Qqa rfl,rn_s rfl,Qga rfl,Qga rfl,Q6a ((congrArg (fun p=>p) (Option.some.inj hz)).symm),trivial⟩ (rw_bs (Qma p0) rfl (rw_mp (ek:=kI) (ev:=kI) (ys:=s5) rfl (fun _=>Qea _ _) (fun _=>Qea _ _) rfl (rw_mp (ek:=kI) (ev:=kI) (ys:=s6) rfl (fun _=>Qea _ _) (fun _=>Qea _ _) rfl (rw_bs (Qja x8) rfl (Qxa))))))
      replace hz:=ite_F hz hb_419
      obtain ⟨x10,hx10,hz⟩:=bind_some hz
      refine yg 6 hb_419 (yg 6 hb_419 (yg 6 hb_419 (yg 6 hb_419 (yQ hb_419 (Qfa Ty.s26 rfl (yO hb_419 (cF (Jca ((x8.Out).length:Int) x10 hx10) ⟨rfl,(yg 6 hb_419 (sQ (Qia (v:=.bool (!x10)) rfl hb_419 rfl (RS.nil ?_))))⟩)))))))
      exact T.weakR (hK () trivial) (Weak.mkN [] [0,1,2,3] (by decide) (Qla _) rfl ⟨Qqa rfl,Jja rfl,Jja rfl,Qga rfl,Qga rfl,Qqa rfl,rn_s rfl,Qga rfl,Qga rfl,Q6a ((congrArg (fun p=>p) (Option.some.inj hz)).symm),trivial⟩ (rw_bs (Qma p0) rfl (rw_mp (ek:=kI) (ev:=kI) (ys:=s5) rfl (fun _=>Qea _ _) (fun _=>Qea _ _) rfl (rw_mp (ek:=kI) (ev:=kI) (ys:=s6) rfl (fun _=>Qea _ _) (fun _=>Qea _ _) rfl (rw_bs (Qja x8) rfl (Qxa))))))
     replace h:=ite_F h hb_411
     rcases Qha (x8.Kind==2) with hb_412 | hb_412
     ·replace h:=ite_T h hb_412
      refine sO (Vra (ek:=kI) (ks:=[1,2,3,4,5,7,6,8]) (vs:=[.agg [.func 81 [],.func 79 []],.agg [.func 79 [],.func 79 []],.agg [.func 79 [],.func 79 []],.agg [.func 79 [],.func 79 []],.agg [.func 79 [],.func 80 []],.agg [.func 79 [],.func 80 []],.agg [.func 80 [],.func 79 []],.agg [.func 79 [],.func 81 []]]) (k:=x8.Kind) (az:=.agg [.nilf,.nilf]) (a:=.agg [.func 79 [],.func 79 []]) (r:=(some 1)) Tryz.underlying124 (KeyT.int Tryz.underlying3) Ty.w122 (fun _ _ _=>rel_agg (vs:=[.nilFunc,.nilFunc]) (.cons (.nilf) (.cons (.nilf) (.nil))) rfl) rfl rfl rfl (Vpa (ne_of_beq_false hb_411) (kix_eq (eq_of_beq hb_412))) rfl (go 6 5 (RS.nil (T.seq (T.seq (T.region (go 2 6 (RS.nil (T.cf rfl (T.skip ?_))))))))))
      refine T.seq ?_
      obtain ⟨x12,hx12,h⟩:=bind_some h
      obtain ⟨zt_424,hz,h⟩:=bind_some h
      revert hz h;revert zt_424;intro c14 hz h
      refine T.join (Z:=Unit) (fun _=>mkA 249 [(1,.ptr 0 0),(4,.mpr 1),(5,.mpr 2),(6,iI s3),(7,iI s4),(8,.ptr 3 0),(60,sL Qja p0.Nodes),(61,iI ((p0.Nodes).length:Int)),(62,iI s4),(116,.bool c14)]) (fun _=>[.box (Qma p0),.mp (List.map kI (List.map Prod.fst s5)) (List.map kI (List.map Prod.snd s5)),.mp (List.map kI (List.map Prod.fst s6)) (List.map kI (List.map Prod.snd s6)),.box (Qja x8)]) (fun _=>True) (fun _ _=>?_) (fun hK=>?_)
      ·refine T.ci h rfl (fun hb_425 h=>?_) (fun hb_425 h=>?_)
       ·refine T.seq (T.region (go 2 4 (RS.nil ?_)))
        obtain ⟨w_426,h,hw_426⟩:=Qsa h
        replace h:=h.trans (congrArg some (hv_294 _ hw_426))
        cases h
        exact tO [(0,3,1)] [4] 4
       refine T.skip ?_
       exact T.su (hK3 () h)
      refine T.region (go 4 6 (sQ (Qfa Ty.s26 rfl (sO (cF (Jca ((x8.In).length:Int) x12 hx12) ⟨rfl,(go 2 6 ?_)⟩)))))
      rcases Qha (!x12) with hb_423 | hb_423
      ·replace hz:=ite_T hz hb_423
       refine sN hb_423 (sN hb_423 (sN hb_423 (sN hb_423 (sN hb_423 (sN hb_423 (sN hb_423 (sQ (Qna (v:=.bool true) rfl hb_423 rfl (RS.nil ?_)))))))))
       exact T.weakR (hK () trivial) (Weak.mkN [] [0,1,2,3] (by decide) (Qla _) rfl ⟨Qqa rfl,Jja rfl,Jja rfl,Qga rfl,Qga rfl,Qqa rfl,rn_s rfl,Qga rfl,Qga rfl,Q6a ((congrArg (fun p=>p) (Option.some.inj hz)).symm),trivial⟩ (rw_bs (Qma p0) rfl (rw_mp (ek:=kI) (ev:=kI) (ys:=s5) rfl (fun _=>Qea _ _) (fun _=>Qea _ _) rfl (rw_mp (ek:=kI) (ev:=kI) (ys:=s6) rfl (fun _=>Qea _ _) (fun _=>Qea _ _) rfl (rw_bs (Qja x8) rfl (Qxa))))))
      replace hz:=ite_F hz hb_423
      obtain ⟨x13,hx13,hz⟩:=bind_some hz
      refine yg 6 hb_423 (yg 6 hb_423 (yg 6 hb_423 (yg 6 hb_423 (yQ hb_423 (Qfa Ty.s26 rfl (yO hb_423 (cF (Jca ((x8.Out).length:Int) x13 hx13) ⟨rfl,(yg 6 hb_423 (sQ (Qia (v:=.bool (!x13)) rfl hb_423 rfl (RS.nil ?_))))⟩)))))))
      exact T.weakR (hK () trivial) (Weak.mkN [] [0,1,2,3] (by decide) (Qla _) rfl ⟨Qqa rfl,Jja rfl,Jja rfl,Qga rfl,Qga rfl,Qqa rfl,rn_s rfl,Qga rfl,Qga rfl,Q6a ((congrArg (fun p=>p) (Option.some.inj hz)).symm),trivial⟩ (rw_bs (Qma p0) rfl (rw_mp (ek:=kI) (ev:=kI) (ys:=s5) rfl (fun _=>Qea _ _) (fun _=>Qea _ _) rfl (rw_mp (ek:=kI) (ev:=kI) (ys:=s6) rfl (fun _=>Qea _ _) (fun _=>Qea _ _) rfl (rw_bs (Qja x8) rfl (Qxa))))))
     replace h:=ite_F h hb_412
     rcases Qha (x8.Kind==3) with hb_413 | hb_413
     ·replace h:=ite_T h hb_413
      refine sO (Vra (ek:=kI) (ks:=[1,2,3,4,5,7,6,8]) (vs:=[.agg [.func 81 [],.func 79 []],.agg [.func 79 [],.func 79 []],.agg [.func 79 [],.func 79 []],.agg [.func 79 [],.func 79 []],.agg [.func 79 [],.func 80 []],.agg [.func 79 [],.func 80 []],.agg [.func 80 [],.func 79 []],.agg [.func 79 [],.func 81 []]]) (k:=x8.Kind) (az:=.agg [.nilf,.nilf]) (a:=.agg [.func 79 [],.func 79 []]) (r:=(some 2)) Tryz.underlying124 (KeyT.int Tryz.underlying3) Ty.w122 (fun _ _ _=>rel_agg (vs:=[.nilFunc,.nilFunc]) (.cons (.nilf) (.cons (.nilf) (.nil))) rfl) rfl rfl rfl (Vpa (ne_of_beq_false hb_411) (Vpa (ne_of_beq_false hb_412) (kix_eq (eq_of_beq hb_413)))) rfl (go 6 5 (RS.nil (T.seq (T.seq (T.region (go 2 6 (RS.nil (T.cf rfl (T.skip ?_))))))))))
      refine T.seq ?_
      obtain ⟨x15,hx15,h⟩:=bind_some h
      obtain ⟨zt_428,hz,h⟩:=bind_some h
      revert hz h;revert zt_428;intro c17 hz h
      refine T.join (Z:=Unit) (fun _=>mkA 249 [(1,.ptr 0 0),(4,.mpr 1),(5,.mpr 2),(6,iI s3),(7,iI s4),(8,.ptr 3 0),(60,sL Qja p0.Nodes),(61,iI ((p0.Nodes).length:Int)),(62,iI s4),(116,.bool c17)]) (fun _=>[.box (Qma p0),.mp (List.map kI (List.map Prod.fst s5)) (List.map kI (List.map Prod.snd s5)),.mp (List.map kI (List.map Prod.fst s6)) (List.map kI (List.map Prod.snd s6)),.box (Qja x8)]) (fun _=>True) (fun _ _=>?_) (fun hK=>?_)
      ·refine T.ci h rfl (fun hb_429 h=>?_) (fun hb_429 h=>?_)
       ·refine T.seq (T.region (go 2 4 (RS.nil ?_)))
        obtain ⟨w_430,h,hw_430⟩:=Qsa h
        replace h:=h.trans (congrArg some (hv_294 _ hw_430))
        cases h
        exact tO [(0,3,1)] [4] 4
       refine T.skip ?_
       exact T.su (hK3 () h)
      refine T.region (go 4 6 (sQ (Qfa Ty.s26 rfl (sO (cF (Jca ((x8.In).length:Int) x15 hx15) ⟨rfl,(go 2 6 ?_)⟩)))))
      rcases Qha (!x15) with hb_427 | hb_427
      ·replace hz:=ite_T hz hb_427
       refine sN hb_427 (sN hb_427 (sN hb_427 (sN hb_427 (sN hb_427 (sN hb_427 (sN hb_427 (sQ (Qna (v:=.bool true) rfl hb_427 rfl (RS.nil ?_)))))))))
       exact T.weakR (hK () trivial) (Weak.mkN [] [0,1,2,3] (by decide) (Qla _) rfl ⟨Qqa rfl,Jja rfl,Jja rfl,Qga rfl,Qga rfl,Qqa rfl,rn_s rfl,Qga rfl,Qga rfl,Q6a ((congrArg (fun p=>p) (Option.some.inj hz)).symm),trivial⟩ (rw_bs (Qma p0) rfl (rw_mp (ek:=kI) (ev:=kI) (ys:=s5) rfl (fun _=>Qea _ _) (fun _=>Qea _ _) rfl (rw_mp (ek:=kI) (ev:=kI) (ys:=s6) rfl (fun _=>Qea _ _) (fun _=>Qea _ _) rfl (rw_bs (Qja x8) rfl (Qxa))))))
      replace hz:=ite_F hz hb_427
      obtain ⟨x16,hx16,hz⟩:=bind_some hz
      refine yg 6 hb_427 (yg 6 hb_427 (yg 6 hb_427 (yg 6 hb_427 (yQ hb_427 (Qfa Ty.s26 rfl (yO hb_427 (cF (Jca ((x8.Out).length:Int) x16 hx16) ⟨rfl,(yg 6 hb_427 (sQ (Qia (v:=.bool (!x16)) rfl hb_427 rfl (RS.nil ?_))))⟩)))))))
      exact T.weakR (hK () trivial) (Weak.mkN [] [0,1,2,3] (by decide) (Qla _) rfl ⟨Qqa rfl,Jja rfl,Jja rfl,Qga rfl,Qga rfl,Qqa rfl,rn_s rfl,Qga rfl,Qga rfl,Q6a ((congrArg (fun p=>p) (Option.some.inj hz)).symm),trivial⟩ (rw_bs (Qma p0) rfl (rw_mp (ek:=kI) (ev:=kI) (ys:=s5) rfl (fun _=>Qea _ _) (fun _=>Qea _ _) rfl (rw_mp (ek:=kI) (ev:=kI) (ys:=s6) rfl (fun _=>Qea _ _) (fun _=>Qea _ _) rfl (rw_bs (Qja x8) rfl (Qxa))))))
     replace h:=ite_F h hb_413
     rcases Qha (x8.Kind==4) with hb_414 | hb_414
     ·replace h:=ite_T h hb_414
      refine sO (Vra (ek:=kI) (ks:=[1,2,3,4,5,7,6,8]) (vs:=[.agg [.func 81 [],.func 79 []],.agg [.func 79 [],.func 79 []],.agg [.func 79 [],.func 79 []],.agg [.func 79 [],.func 79 []],.agg [.func 79 [],.func 80 []],.agg [.func 79 [],.func 80 []],.agg [.func 80 [],.func 79 []],.agg [.func 79 [],.func 81 []]]) (k:=x8.Kind) (az:=.agg [.nilf,.nilf]) (a:=.agg [.func 79 [],.func 79 []]) (r:=(some 3)) Tryz.underlying124 (KeyT.int Tryz.underlying3) Ty.w122 (fun _ _ _=>rel_agg (vs:=[.nilFunc,.nilFunc]) (.cons (.nilf) (.cons (.nilf) (.nil))) rfl) rfl rfl rfl (Vpa (ne_of_beq_false hb_411) (Vpa (ne_of_beq_false hb_412) (Vpa (ne_of_beq_false hb_413) (kix_eq (eq_of_beq hb_414))))) rfl (go 6 5 (RS.nil (T.seq (T.seq (T.region (go 2 6 (RS.nil (T.cf rfl (T.skip ?_))))))))))
      refine T.seq ?_
      obtain ⟨x18,hx18,h⟩:=bind_some h
      obtain ⟨zt_432,hz,h⟩:=bind_some h
      revert hz h;revert zt_432;intro c20 hz h
      refine T.join (Z:=Unit) (fun _=>mkA 249 [(1,.ptr 0 0),(4,.mpr 1),(5,.mpr 2),(6,iI s3),(7,iI s4),(8,.ptr 3 0),(60,sL Qja p0.Nodes),(61,iI ((p0.Nodes).length:Int)),(62,iI s4),(116,.bool c20)]) (fun _=>[.box (Qma p0),.mp (List.map kI (List.map Prod.fst s5)) (List.map kI (List.map Prod.snd s5)),.mp (List.map kI (List.map Prod.fst s6)) (List.map kI (List.map Prod.snd s6)),.box (Qja x8)]) (fun _=>True) (fun _ _=>?_) (fun hK=>?_)
      ·refine T.ci h rfl (fun hb_433 h=>?_) (fun hb_433 h=>?_)
       ·refine T.seq (T.region (go 2 4 (RS.nil ?_)))
        obtain ⟨w_434,h,hw_434⟩:=Qsa h
        replace h:=h.trans (congrArg some (hv_294 _ hw_434))
        cases h
        exact tO [(0,3,1)] [4] 4
       refine T.skip ?_
       exact T.su (hK3 () h)
      refine T.region (go 4 6 (sQ (Qfa Ty.s26 rfl (sO (cF (Jca ((x8.In).length:Int) x18 hx18) ⟨rfl,(go 2 6 ?_)⟩)))))
      rcases Qha (!x18) with hb_431 | hb_431
      ·replace hz:=ite_T hz hb_431
       refine sN hb_431 (sN hb_431 (sN hb_431 (sN hb_431 (sN hb_431 (sN hb_431 (sN hb_431 (sQ (Qna (v:=.bool true) rfl hb_431 rfl (RS.nil ?_)))))))))
       exact T.weakR (hK () trivial) (Weak.mkN [] [0,1,2,3] (by decide) (Qla _) rfl ⟨Qqa rfl,Jja rfl,Jja rfl,Qga rfl,Qga rfl,Qqa rfl,rn_s rfl,Qga rfl,Qga rfl,Q6a ((congrArg (fun p=>p) (Option.some.inj hz)).symm),trivial⟩ (rw_bs (Qma p0) rfl (rw_mp (ek:=kI) (ev:=kI) (ys:=s5) rfl (fun _=>Qea _ _) (fun _=>Qea _ _) rfl (rw_mp (ek:=kI) (ev:=kI) (ys:=s6) rfl (fun _=>Qea _ _) (fun _=>Qea _ _) rfl (rw_bs (Qja x8) rfl (Qxa))))))
      replace hz:=ite_F hz hb_431
      obtain ⟨x19,hx19,hz⟩:=bind_some hz
      refine yg 6 hb_431 (yg 6 hb_431 (yg 6 hb_431 (yg 6 hb_431 (yQ hb_431 (Qfa Ty.s26 rfl (yO hb_431 (cF (Jca ((x8.Out).length:Int) x19 hx19) ⟨rfl,(yg 6 hb_431 (sQ (Qia (v:=.bool (!x19)) rfl hb_431 rfl (RS.nil ?_))))⟩)))))))
      exact T.weakR (hK () trivial) (Weak.mkN [] [0,1,2,3] (by decide) (Qla _) rfl ⟨Qqa rfl,Jja rfl,Jja rfl,Qga rfl,Qga rfl,Qqa rfl,rn_s rfl,Qga rfl,Qga rfl,Q6a ((congrArg (fun p=>p) (Option.some.inj hz)).symm),trivial⟩ (rw_bs (Qma p0) rfl (rw_mp (ek:=kI) (ev:=kI) (ys:=s5) rfl (fun _=>Qea _ _) (fun _=>Qea _ _) rfl (rw_mp (ek:=kI) (ev:=kI) (ys:=s6) rfl (fun _=>Qea _ _) (fun _=>Qea _ _) rfl (rw_bs (Qja x8) rfl (Qxa))))))
     replace h:=ite_F h hb_414
     rcases Qha (x8.Kind==5) with hb_415 | hb_415
     ·replace h:=ite_T h hb_415
      refine sO (Vra (ek:=kI) (ks:=[1,2,3,4,5,7,6,8]) (vs:=[.agg [.func 81 [],.func 79 []],.agg [.func 79 [],.func 79 []],.agg [.func 79 [],.func 79 []],.agg [.func 79 [],.func 79 []],.agg [.func 79 [],.func 80 []],.agg [.func 79 [],.func 80 []],.agg [.func 80 [],.func 79 []],.agg [.func 79 [],.func 81 []]]) (k:=x8.Kind) (az:=.agg [.nilf,.nilf]) (a:=.agg [.func 79 [],.func 80 []]) (r:=(some 4)) Tryz.underlying124 (KeyT.int Tryz.underlying3) Ty.w122 (fun _ _ _=>rel_agg (vs:=[.nilFunc,.nilFunc]) (.cons (.nilf) (.cons (.nilf) (.nil))) rfl) rfl rfl rfl (Vpa (ne_of_beq_false hb_411) (Vpa (ne_of_beq_false hb_412) (Vpa (ne_of_beq_false hb_413) (Vpa (ne_of_beq_false hb_414) (kix_eq (eq_of_beq hb_415)))))) rfl (go 6 5 (RS.nil (T.seq (T.seq (T.region (go 2 6 (RS.nil (T.cf rfl (T.skip ?_))))))))))
      refine T.seq ?_
      obtain ⟨x21,hx21,h⟩:=bind_some h
      obtain ⟨zt_436,hz,h⟩:=bind_some h
      revert hz h;revert zt_436;intro c23 hz h
      refine T.join (Z:=Unit) (fun _=>mkA 249 [(1,.ptr 0 0),(4,.mpr 1),(5,.mpr 2),(6,iI s3),(7,iI s4),(8,.ptr 3 0),(60,sL Qja p0.Nodes),(61,iI ((p0.Nodes).length:Int)),(62,iI s4),(116,.bool c23)]) (fun _=>[.box (Qma p0),.mp (List.map kI (List.map Prod.fst s5)) (List.map kI (List.map Prod.snd s5)),.mp (List.map kI (List.map Prod.fst s6)) (List.map kI (List.map Prod.snd s6)),.box (Qja x8)]) (fun _=>True) (fun _ _=>?_) (fun hK=>?_)
      ·refine T.ci h rfl (fun hb_437 h=>?_) (fun hb_437 h=>?_)
       ·refine T.seq (T.region (go 2 4 (RS.nil ?_)))
        obtain ⟨w_438,h,hw_438⟩:=Qsa h
        replace h:=h.trans (congrArg some (hv_294 _ hw_438))
        cases h
        exact tO [(0,3,1)] [4] 4
       refine T.skip ?_
       exact T.su (hK3 () h)
      refine T.region (go 4 6 (sQ (Qfa Ty.s26 rfl (sO (cF (Jca ((x8.In).length:Int) x21 hx21) ⟨rfl,(go 2 6 ?_)⟩)))))
      rcases Qha (!x21) with hb_435 | hb_435
      ·replace hz:=ite_T hz hb_435
       refine sN hb_435 (sN hb_435 (sN hb_435 (sN hb_435 (sN hb_435 (sN hb_435 (sN hb_435 (sQ (Qna (v:=.bool true) rfl hb_435 rfl (RS.nil ?_)))))))))
       exact T.weakR (hK () trivial) (Weak.mkN [] [0,1,2,3] (by decide) (Qla _) rfl ⟨Qqa rfl,Jja rfl,Jja rfl,Qga rfl,Qga rfl,Qqa rfl,rn_s rfl,Qga rfl,Qga rfl,Q6a ((congrArg (fun p=>p) (Option.some.inj hz)).symm),trivial⟩ (rw_bs (Qma p0) rfl (rw_mp (ek:=kI) (ev:=kI) (ys:=s5) rfl (fun _=>Qea _ _) (fun _=>Qea _ _) rfl (rw_mp (ek:=kI) (ev:=kI) (ys:=s6) rfl (fun _=>Qea _ _) (fun _=>Qea _ _) rfl (rw_bs (Qja x8) rfl (Qxa))))))
      replace hz:=ite_F hz hb_435
      obtain ⟨x22,hx22,hz⟩:=bind_some hz
      refine yg 6 hb_435 (yg 6 hb_435 (yg 6 hb_435 (yg 6 hb_435 (yQ hb_435 (Qfa Ty.s26 rfl (yO hb_435 (cF (Qqb ((x8.Out).length:Int) x22 hx22) ⟨rfl,(yg 6 hb_435 (sQ (Qia (v:=.bool (!x22)) rfl hb_435 rfl (RS.nil ?_))))⟩)))))))
      exact T.weakR (hK () trivial) (Weak.mkN [] [0,1,2,3] (by decide) (Qla _) rfl ⟨Qqa rfl,Jja rfl,Jja rfl,Qga rfl,Qga rfl,Qqa rfl,rn_s rfl,Qga rfl,Qga rfl,Q6a ((congrArg (fun p=>p) (Option.some.inj hz)).symm),trivial⟩ (rw_bs (Qma p0) rfl (rw_mp (ek:=kI) (ev:=kI) (ys:=s5) rfl (fun _=>Qea _ _) (fun _=>Qea _ _) rfl (rw_mp (ek:=kI) (ev:=kI) (ys:=s6) rfl (fun _=>Qea _ _) (fun _=>Qea _ _) rfl (rw_bs (Qja x8) rfl (Qxa))))))
     replace h:=ite_F h hb_415
     rcases Qha (x8.Kind==7) with hb_416 | hb_416
     ·replace h:=ite_T h hb_416
      refine sO (Vra (ek:=kI) (ks:=[1,2,3,4,5,7,6,8]) (vs:=[.agg [.func 81 [],.func 79 []],.agg [.func 79 [],.func 79 []],.agg [.func 79 [],.func 79 []],.agg [.func 79 [],.func 79 []],.agg [.func 79 [],.func 80 []],.agg [.func 79 [],.func 80 []],.agg [.func 80 [],.func 79 []],.agg [.func 79 [],.func 81 []]]) (k:=x8.Kind) (az:=.agg [.nilf,.nilf]) (a:=.agg [.func 79 [],.func 80 []]) (r:=(some 5)) Tryz.underlying124 (KeyT.int Tryz.underlying3) Ty.w122 (fun _ _ _=>rel_agg (vs:=[.nilFunc,.nilFunc]) (.cons (.nilf) (.cons (.nilf) (.nil))) rfl) rfl rfl rfl (Vpa (ne_of_beq_false hb_411) (Vpa (ne_of_beq_false hb_412) (Vpa (ne_of_beq_false hb_413) (Vpa (ne_of_beq_false hb_414) (Vpa (ne_of_beq_false hb_415) (kix_eq (eq_of_beq hb_416))))))) rfl (go 6 5 (RS.nil (T.seq (T.seq (T.region (go 2 6 (RS.nil (T.cf rfl (T.skip ?_))))))))))
      refine T.seq ?_
      obtain ⟨x24,hx24,h⟩:=bind_some h
      obtain ⟨zt_440,hz,h⟩:=bind_some h
      revert hz h;revert zt_440;intro c26 hz h
      refine T.join (Z:=Unit) (fun _=>mkA 249 [(1,.ptr 0 0),(4,.mpr 1),(5,.mpr 2),(6,iI s3),(7,iI s4),(8,.ptr 3 0),(60,sL Qja p0.Nodes),(61,iI ((p0.Nodes).length:Int)),(62,iI s4),(116,.bool c26)]) (fun _=>[.box (Qma p0),.mp (List.map kI (List.map Prod.fst s5)) (List.map kI (List.map Prod.snd s5)),.mp (List.map kI (List.map Prod.fst s6)) (List.map kI (List.map Prod.snd s6)),.box (Qja x8)]) (fun _=>True) (fun _ _=>?_) (fun hK=>?_)
      ·refine T.ci h rfl (fun hb_441 h=>?_) (fun hb_441 h=>?_)
       ·refine T.seq (T.region (go 2 4 (RS.nil ?_)))
        obtain ⟨w_442,h,hw_442⟩:=Qsa h
        replace h:=h.trans (congrArg some (hv_294 _ hw_442))
        cases h
        exact tO [(0,3,1)] [4] 4
       refine T.skip ?_
       exact T.su (hK3 () h)
      refine T.region (go 4 6 (sQ (Qfa Ty.s26 rfl (sO (cF (Jca ((x8.In).length:Int) x24 hx24) ⟨rfl,(go 2 6 ?_)⟩)))))
      rcases Qha (!x24) with hb_439 | hb_439
      ·replace hz:=ite_T hz hb_439
       refine sN hb_439 (sN hb_439 (sN hb_439 (sN hb_439 (sN hb_439 (sN hb_439 (sN hb_439 (sQ (Qna (v:=.bool true) rfl hb_439 rfl (RS.nil ?_)))))))))
       exact T.weakR (hK () trivial) (Weak.mkN [] [0,1,2,3] (by decide) (Qla _) rfl ⟨Qqa rfl,Jja rfl,Jja rfl,Qga rfl,Qga rfl,Qqa rfl,rn_s rfl,Qga rfl,Qga rfl,Q6a ((congrArg (fun p=>p) (Option.some.inj hz)).symm),trivial⟩ (rw_bs (Qma p0) rfl (rw_mp (ek:=kI) (ev:=kI) (ys:=s5) rfl (fun _=>Qea _ _) (fun _=>Qea _ _) rfl (rw_mp (ek:=kI) (ev:=kI) (ys:=s6) rfl (fun _=>Qea _ _) (fun _=>Qea _ _) rfl (rw_bs (Qja x8) rfl (Qxa))))))
      replace hz:=ite_F hz hb_439
      obtain ⟨x25,hx25,hz⟩:=bind_some hz
      refine yg 6 hb_439 (yg 6 hb_439 (yg 6 hb_439 (yg 6 hb_439 (yQ hb_439 (Qfa Ty.s26 rfl (yO hb_439 (cF (Qqb ((x8.Out).length:Int) x25 hx25) ⟨rfl,(yg 6 hb_439 (sQ (Qia (v:=.bool (!x25)) rfl hb_439 rfl (RS.nil ?_))))⟩)))))))
      exact T.weakR (hK () trivial) (Weak.mkN [] [0,1,2,3] (by decide) (Qla _) rfl ⟨Qqa rfl,Jja rfl,Jja rfl,Qga rfl,Qga rfl,Qqa rfl,rn_s rfl,Qga rfl,Qga rfl,Q6a ((congrArg (fun p=>p) (Option.some.inj hz)).symm),trivial⟩ (rw_bs (Qma p0) rfl (rw_mp (ek:=kI) (ev:=kI) (ys:=s5) rfl (fun _=>Qea _ _) (fun _=>Qea _ _) rfl (rw_mp (ek:=kI) (ev:=kI) (ys:=s6) rfl (fun _=>Qea _ _) (fun _=>Qea _ _) rfl (rw_bs (Qja x8) rfl (Qxa))))))
     replace h:=ite_F h hb_416
     rcases Qha (x8.Kind==6) with hb_417 | hb_417
     ·replace h:=ite_T h hb_417
      refine sO (Vra (ek:=kI) (ks:=[1,2,3,4,5,7,6,8]) (vs:=[.agg [.func 81 [],.func 79 []],.agg [.func 79 [],.func 79 []],.agg [.func 79 [],.func 79 []],.agg [.func 79 [],.func 79 []],.agg [.func 79 [],.func 80 []],.agg [.func 79 [],.func 80 []],.agg [.func 80 [],.func 79 []],.agg [.func 79 [],.func 81 []]]) (k:=x8.Kind) (az:=.agg [.nilf,.nilf]) (a:=.agg [.func 80 [],.func 79 []]) (r:=(some 6)) Tryz.underlying124 (KeyT.int Tryz.underlying3) Ty.w122 (fun _ _ _=>rel_agg (vs:=[.nilFunc,.nilFunc]) (.cons (.nilf) (.cons (.nilf) (.nil))) rfl) rfl rfl rfl (Vpa (ne_of_beq_false hb_411) (Vpa (ne_of_beq_false hb_412) (Vpa (ne_of_beq_false hb_413) (Vpa (ne_of_beq_false hb_414) (Vpa (ne_of_beq_false hb_415) (Vpa (ne_of_beq_false hb_416) (kix_eq (eq_of_beq hb_417)))))))) rfl (go 6 5 (RS.nil (T.seq (T.seq (T.region (go 2 6 (RS.nil (T.cf rfl (T.skip ?_))))))))))
      refine T.seq ?_
      obtain ⟨x27,hx27,h⟩:=bind_some h
      obtain ⟨zt_444,hz,h⟩:=bind_some h
      revert hz h;revert zt_444;intro c29 hz h
      refine T.join (Z:=Unit) (fun _=>mkA 249 [(1,.ptr 0 0),(4,.mpr 1),(5,.mpr 2),(6,iI s3),(7,iI s4),(8,.ptr 3 0),(60,sL Qja p0.Nodes),(61,iI ((p0.Nodes).length:Int)),(62,iI s4),(116,.bool c29)]) (fun _=>[.box (Qma p0),.mp (List.map kI (List.map Prod.fst s5)) (List.map kI (List.map Prod.snd s5)),.mp (List.map kI (List.map Prod.fst s6)) (List.map kI (List.map Prod.snd s6)),.box (Qja x8)]) (fun _=>True) (fun _ _=>?_) (fun hK=>?_)
      ·refine T.ci h rfl (fun hb_445 h=>?_) (fun hb_445 h=>?_)
       ·refine T.seq (T.region (go 2 4 (RS.nil ?_)))
        obtain ⟨w_446,h,hw_446⟩:=Qsa h
        replace h:=h.trans (congrArg some (hv_294 _ hw_446))
        cases h
        exact tO [(0,3,1)] [4] 4
       refine T.skip ?_
       exact T.su (hK3 () h)
      refine T.region (go 4 6 (sQ (Qfa Ty.s26 rfl (sO (cF (Qqb ((x8.In).length:Int) x27 hx27) ⟨rfl,(go 2 6 ?_)⟩)))))
      rcases Qha (!x27) with hb_443 | hb_443
      ·replace hz:=ite_T hz hb_443
       refine sN hb_443 (sN hb_443 (sN hb_443 (sN hb_443 (sN hb_443 (sN hb_443 (sN hb_443 (sQ (Qna (v:=.bool true) rfl hb_443 rfl (RS.nil ?_)))))))))
       exact T.weakR (hK () trivial) (Weak.mkN [] [0,1,2,3] (by decide) (Qla _) rfl ⟨Qqa rfl,Jja rfl,Jja rfl,Qga rfl,Qga rfl,Qqa rfl,rn_s rfl,Qga rfl,Qga rfl,Q6a ((congrArg (fun p=>p) (Option.some.inj hz)).symm),trivial⟩ (rw_bs (Qma p0) rfl (rw_mp (ek:=kI) (ev:=kI) (ys:=s5) rfl (fun _=>Qea _ _) (fun _=>Qea _ _) rfl (rw_mp (ek:=kI) (ev:=kI) (ys:=s6) rfl (fun _=>Qea _ _) (fun _=>Qea _ _) rfl (rw_bs (Qja x8) rfl (Qxa))))))
      replace hz:=ite_F hz hb_443
      obtain ⟨x28,hx28,hz⟩:=bind_some hz
      refine yg 6 hb_443 (yg 6 hb_443 (yg 6 hb_443 (yg 6 hb_443 (yQ hb_443 (Qfa Ty.s26 rfl (yO hb_443 (cF (Jca ((x8.Out).length:Int) x28 hx28) ⟨rfl,(yg 6 hb_443 (sQ (Qia (v:=.bool (!x28)) rfl hb_443 rfl (RS.nil ?_))))⟩)))))))
      exact T.weakR (hK () trivial) (Weak.mkN [] [0,1,2,3] (by decide) (Qla _) rfl ⟨Qqa rfl,Jja rfl,Jja rfl,Qga rfl,Qga rfl,Qqa rfl,rn_s rfl,Qga rfl,Qga rfl,Q6a ((congrArg (fun p=>p) (Option.some.inj hz)).symm),trivial⟩ (rw_bs (Qma p0) rfl (rw_mp (ek:=kI) (ev:=kI) (ys:=s5) rfl (fun _=>Qea _ _) (fun _=>Qea _ _) rfl (rw_mp (ek:=kI) (ev:=kI) (ys:=s6) rfl (fun _=>Qea _ _) (fun _=>Qea _ _) rfl (rw_bs (Qja x8) rfl (Qxa))))))
     replace h:=ite_F h hb_417
     rcases Qha (x8.Kind==8) with hb_418 | hb_418
     ·replace h:=ite_T h hb_418
      refine sO (Vra (ek:=kI) (ks:=[1,2,3,4,5,7,6,8]) (vs:=[.agg [.func 81 [],.func 79 []],.agg [.func 79 [],.func 79 []],.agg [.func 79 [],.func 79 []],.agg [.func 79 [],.func 79 []],.agg [.func 79 [],.func 80 []],.agg [.func 79 [],.func 80 []],.agg [.func 80 [],.func 79 []],.agg [.func 79 [],.func 81 []]]) (k:=x8.Kind) (az:=.agg [.nilf,.nilf]) (a:=.agg [.func 79 [],.func 81 []]) (r:=(some 7)) Tryz.underlying124 (KeyT.int Tryz.underlying3) Ty.w122 (fun _ _ _=>rel_agg (vs:=[.nilFunc,.nilFunc]) (.cons (.nilf) (.cons (.nilf) (.nil))) rfl) rfl rfl rfl (Vpa (ne_of_beq_false hb_411) (Vpa (ne_of_beq_false hb_412) (Vpa (ne_of_beq_false hb_413) (Vpa (ne_of_beq_false hb_414) (Vpa (ne_of_beq_false hb_415) (Vpa (ne_of_beq_false hb_416) (Vpa (ne_of_beq_false hb_417) (kix_eq (eq_of_beq hb_418))))))))) rfl (go 6 5 (RS.nil (T.seq (T.seq (T.region (go 2 6 (RS.nil (T.cf rfl (T.skip ?_))))))))))
      refine T.seq ?_
      obtain ⟨x30,hx30,h⟩:=bind_some h
      obtain ⟨zt_448,hz,h⟩:=bind_some h
      revert hz h;revert zt_448;intro c32 hz h
      refine T.join (Z:=Unit) (fun _=>mkA 249 [(1,.ptr 0 0),(4,.mpr 1),(5,.mpr 2),(6,iI s3),(7,iI s4),(8,.ptr 3 0),(60,sL Qja p0.Nodes),(61,iI ((p0.Nodes).length:Int)),(62,iI s4),(116,.bool c32)]) (fun _=>[.box (Qma p0),.mp (List.map kI (List.map Prod.fst s5)) (List.map kI (List.map Prod.snd s5)),.mp (List.map kI (List.map Prod.fst s6)) (List.map kI (List.map Prod.snd s6)),.box (Qja x8)]) (fun _=>True) (fun _ _=>?_) (fun hK=>?_)
      ·refine T.ci h rfl (fun hb_449 h=>?_) (fun hb_449 h=>?_)
       ·refine T.seq (T.region (go 2 4 (RS.nil ?_)))
        obtain ⟨w_450,h,hw_450⟩:=Qsa h
        replace h:=h.trans (congrArg some (hv_294 _ hw_450))
        cases h
        exact tO [(0,3,1)] [4] 4
       refine T.skip ?_
       exact T.su (hK3 () h)
      refine T.region (go 4 6 (sQ (Qfa Ty.s26 rfl (sO (cF (Jca ((x8.In).length:Int) x30 hx30) ⟨rfl,(go 2 6 ?_)⟩)))))
      rcases Qha (!x30) with hb_447 | hb_447
      ·replace hz:=ite_T hz hb_447
       refine sN hb_447 (sN hb_447 (sN hb_447 (sN hb_447 (sN hb_447 (sN hb_447 (sN hb_447 (sQ (Qna (v:=.bool true) rfl hb_447 rfl (RS.nil ?_)))))))))
       exact T.weakR (hK () trivial) (Weak.mkN [] [0,1,2,3] (by decide) (Qla _) rfl ⟨Qqa rfl,Jja rfl,Jja rfl,Qga rfl,Qga rfl,Qqa rfl,rn_s rfl,Qga rfl,Qga rfl,Q6a ((congrArg (fun p=>p) (Option.some.inj hz)).symm),trivial⟩ (rw_bs (Qma p0) rfl (rw_mp (ek:=kI) (ev:=kI) (ys:=s5) rfl (fun _=>Qea _ _) (fun _=>Qea _ _) rfl (rw_mp (ek:=kI) (ev:=kI) (ys:=s6) rfl (fun _=>Qea _ _) (fun _=>Qea _ _) rfl (rw_bs (Qja x8) rfl (Qxa))))))
      replace hz:=ite_F hz hb_447
      obtain ⟨x31,hx31,hz⟩:=bind_some hz
      refine yg 6 hb_447 (yg 6 hb_447 (yg 6 hb_447 (yg 6 hb_447 (yQ hb_447 (Qfa Ty.s26 rfl (yO hb_447 (cF (crossref_CheckNet_3_c ((x8.Out).length:Int) x31 hx31) ⟨rfl,(yg 6 hb_447 (sQ (Qia (v:=.bool (!x31)) rfl hb_447 rfl (RS.nil ?_))))⟩)))))))
      exact T.weakR (hK () trivial) (Weak.mkN [] [0,1,2,3] (by decide) (Qla _) rfl ⟨Qqa rfl,Jja rfl,Jja rfl,Qga rfl,Qga rfl,Qqa rfl,rn_s rfl,Qga rfl,Qga rfl,Q6a ((congrArg (fun p=>p) (Option.some.inj hz)).symm),trivial⟩ (rw_bs (Qma p0) rfl (rw_mp (ek:=kI) (ev:=kI) (ys:=s5) rfl (fun _=>Qea _ _) (fun _=>Qea _ _) rfl (rw_mp (ek:=kI) (ev:=kI) (ys:=s6) rfl (fun _=>Qea _ _) (fun _=>Qea _ _) rfl (rw_bs (Qja x8) rfl (Qxa))))))
     replace h:=ite_F h hb_418
     refine sO (Vra (ek:=kI) (ks:=[1,2,3,4,5,7,6,8]) (vs:=[.agg [.func 81 [],.func 79 []],.agg [.func 79 [],.func 79 []],.agg [.func 79 [],.func 79 []],.agg [.func 79 [],.func 79 []],.agg [.func 79 [],.func 80 []],.agg [.func 79 [],.func 80 []],.agg [.func 80 [],.func 79 []],.agg [.func 79 [],.func 81 []]]) (k:=x8.Kind) (az:=.agg [.nilf,.nilf]) (a:=.agg [.nilf,.nilf]) (r:=none) Tryz.underlying124 (KeyT.int Tryz.underlying3) Ty.w122 (fun _ _ _=>rel_agg (vs:=[.nilFunc,.nilFunc]) (.cons (.nilf) (.cons (.nilf) (.nil))) rfl) rfl rfl rfl (Vpa (ne_of_beq_false hb_411) (Vpa (ne_of_beq_false hb_412) (Vpa (ne_of_beq_false hb_413) (Vpa (ne_of_beq_false hb_414) (Vpa (ne_of_beq_false hb_415) (Vpa (ne_of_beq_false hb_416) (Vpa (ne_of_beq_false hb_417) (Vpa (ne_of_beq_false hb_418) kix_nil)))))))) rfl (go 6 5 (RS.nil (T.seq (T.seq (T.region (go 2 6 (RS.nil (T.ct rfl (T.seq ?_))))))))))
     refine T.region (go 2 6 (RS.nil ?_))
     obtain ⟨w_451,h,hw_451⟩:=Qsa h
     replace h:=h.trans (congrArg some (hv_294 _ hw_451))
     cases h
     exact tO [(0,3,1)] [6] 6
    refine T.exit ?_
    obtain ⟨w_452,h,hw_452⟩:=Qsa h
    replace h:=h.trans (congrArg some (hv_294 _ hw_452))
    refine T.seq (T.join (Z:=Unit) (fun _=>mkA 249 [(1,.ptr 0 0),(4,.mpr 1),(6,iI s3),(200,.bool ((((s5).length:Int) != p0.Rings) || ((s6).length:Int) != p0.Rings))]) (fun _=>[.box (Qma p0),.mp (List.map kI (List.map Prod.fst s5)) (List.map kI (List.map Prod.snd s5))]) (fun _=>True) (fun _ _=>?_) (fun hK=>?_))
    ·refine T.ci h rfl (fun hb_454 h=>?_) (fun hb_454 h=>?_)
     ·refine T.seq (T.region (go 2 2 (RS.nil ?_)))
      cases h
      exact tO [(0,3,1)] [2] 2
     refine T.skip (T.seq (T.seq (T.region (go 2 2 (RS.nil (T.ci h rfl (fun hb_455 h=>?_) (fun hb_455 h=>?_)))))))
     ·refine T.seq (T.region (go 2 2 (RS.nil ?_)))
      cases h
      exact tO [(0,3,1)] [2] 2
     refine T.skip (T.seq (T.region (go 1 2 (RS.nil (T.seq (T.seq (T.region (go 2 2 (sQ (Qfa Ty.s22 rfl ?_))))))))))
     refine go 1 2 (RS.nil (T.block (T.iter (fun ss_532:Int × (List Int)=>mkA 249 [(1,.ptr 0 0),(4,.mpr 1),(23,.ref 2),(205,iI ((p0.Nodes).length:Int)),(206,iI ss_532.1)]) (fun ss_532=>[.box (Qma p0),.mp (List.map kI (List.map Prod.fst s5)) (List.map kI (List.map Prod.snd s5)),aR 3 1 encI ss_532.2]) h (Weak.mkN [(23,3,1)] [0,1,2] (by decide) (Qla _) rfl ⟨Qqa rfl,Jja rfl,Qza rfl,Qga rfl,Qga rfl,trivial⟩ (rw_bs (Qma p0) rfl (rw_mp (ek:=kI) (ev:=kI) (ys:=s5) rfl (fun _=>Qea _ _) (fun _=>Qea _ _) rfl (Z2a (en:=encI) (ys:=[]) rfl Yga rfl (Qxa))))) (fun ss_532 v_533 h hv_533=>?_))))
     obtain ⟨s45,s46⟩:=ss_532
     replace h:Jta p0 s5 s45 s46=some v_533:=h
     try dsimp only
     unfold Jta at h
     refine T.seq (T.region (go 1 3 (RS.nil (T.seq (T.ci h rfl (fun hb_534 h=>?_) (fun hb_534 h=>?_))))))
     ·refine T.skip (T.seq (T.block (T.seq (T.region (go 1 3 (RS.nil (T.seq (T.seq (T.region ?_)))))))))
      refine go 2 3 (sQ (Qfa Ty.s22 rfl (go 2 3 (RS.nil (T.block (T.iter (fun ss_557:Int × Int=>mkA 249 [(1,.ptr 0 0),(4,.mpr 1),(23,.ref 2),(24,iI ss_557.1),(25,iI ss_557.2),(205,iI ((p0.Nodes).length:Int)),(206,iI s45)]) (fun ss_557=>[.box (Qma p0),.mp (List.map kI (List.map Prod.fst s5)) (List.map kI (List.map Prod.snd s5)),aR 3 1 encI s46]) h (Weak.mkN [] [0,1,2] (by decide) (Qla _) rfl ⟨Qqa rfl,Jja rfl,Qza rfl,Qga rfl,Qga rfl,Qga rfl,Qga rfl,trivial⟩ (rw_bs (Qma p0) rfl (rw_mp (ek:=kI) (ev:=kI) (ys:=s5) rfl (fun _=>Qea _ _) (fun _=>Qea _ _) rfl (rw_ar rfl rfl (Qxa))))) (fun ss_557 v_558 h hv_558=>?_)))))))
      obtain ⟨s47,s48⟩:=ss_557
      replace h:J7a p0 s5 s45 s46 s47 s48=some v_558:=h
      try dsimp only
      unfold J7a at h
      refine T.seq (T.seq (T.region (go 2 3 (RS.nil (T.ci h rfl (fun hb_559 h=>?_) (fun hb_559 h=>?_))))))
      ·refine T.skip (T.seq (T.block (T.seq (T.seq ?_))))
       obtain ⟨x50,hx50,h⟩:=bind_some h
       refine T.region (go 2 3 (sO (cF (slices_Contains_int_c s46 s48 x50 hx50) ⟨rfl,(RS.nil (T.ci h rfl (fun hb_560 h=>?_) (fun hb_560 h=>?_)))⟩)))
       ·refine T.exit (T.region (go 3 3 (RS.nil ?_)))
        exact ⟨(s47,IntKind.i64.wrap (s48 - 1)),(Option.some.inj h).symm,Weak.mkN [] [0,1,2] (by decide) (Qla _) rfl ⟨Qqa rfl,Jja rfl,Qza rfl,Qga rfl,Qga rfl,Qga rfl,Qga rfl,trivial⟩ (rw_bs (Qma p0) rfl (rw_mp (ek:=kI) (ev:=kI) (ys:=s5) rfl (fun _=>Qea _ _) (fun _=>Qea _ _) rfl (rw_ar rfl rfl (Qxa))))⟩
       refine T.skip (T.seq (T.region (go 1 3 (RS.nil (T.seq (T.seq ?_))))))
       obtain ⟨x52,hx52,h⟩:=bind_some h
       refine T.region (go 3 3 (sQ (Qda Ty.s22 (fun _=>rfl) rfl rfl hx52 (go 2 3 (sQ (Qfa Ty.s26 rfl (go 1 3 (RS.nil (T.block (T.iter (fun ss_564:Bool × Int=>mkA 249 [(1,.ptr 0 0),(4,.mpr 1),(23,.ref 2),(24,iI s47),(25,iI s48),(26,.bool ss_564.1),(205,iI ((p0.Nodes).length:Int)),(206,iI s45),(224,sL encI x52.In),(225,iI ((x52.In).length:Int)),(226,iI ss_564.2)]) (fun ss_564=>[.box (Qma p0),.mp (List.map kI (List.map Prod.fst s5)) (List.map kI (List.map Prod.snd s5)),aR 3 1 encI s46]) h (Weak.mkN [] [0,1,2] (by decide) (Qla _) rfl ⟨Qqa rfl,Jja rfl,Qza rfl,Qga rfl,Qga rfl,Q6a rfl,Qga rfl,Qga rfl,rn_s rfl,Qga rfl,Qga rfl,trivial⟩ (rw_bs (Qma p0) rfl (rw_mp (ek:=kI) (ev:=kI) (ys:=s5) rfl (fun _=>Qea _ _) (fun _=>Qea _ _) rfl (rw_ar rfl rfl (Qxa))))) (fun ss_564 v_565 h hv_565=>?_)))))))))))
       obtain ⟨s53,s54⟩:=ss_564
       replace h:J9a s5 s46 s47 s48 x52 s53 s54=some v_565:=h
       try dsimp only
       unfold J9a at h
       refine T.seq (T.region (go 1 3 (RS.nil (T.seq (T.ci h rfl (fun hb_566 h=>?_) (fun hb_566 h=>?_))))))
       ·refine T.skip (T.seq (T.block (T.seq ?_)))
        obtain ⟨x56,hx56,h⟩:=bind_some h
        refine T.region (sQ (Qda Ty.s26 (fun _=>rfl) rfl rfl hx56 (go 2 3 (RS.nil (T.region (go 2 3 ?_))))))
        rcases Qha s53 with hb_567 | hb_567
        ·replace h:=ite_T h hb_567
         obtain ⟨x57,hx57,h⟩:=bind_some h
         refine yg 3 hb_567 (yg 3 hb_567 (yg 3 hb_567 (yO hb_567 (o_lookup (ek:=kI) (ev:=kI) (xs:=s5) (k:=x56) (z0:=0) Tryz.underlying73 (KeyT.int Tryz.underlying3) Ty.w3 (fun _ _ _=>.int _ _) rfl rfl rfl (yO hb_567 (cF (slices_Contains_int_c s46 ((mget x56 s5).getD 0) x57 hx57) ⟨rfl,(sQ (Qna (v:=.bool x57) rfl hb_567 rfl (go 1 3 (RS.nil (T.region (go 2 3 ?_))))))⟩))))))
         refine RS.nil ?_
         exact ⟨(x57,IntKind.i64.wrap (s54+1)),(Option.some.inj h).symm,Weak.mkN [] [0,1,2] (by decide) (Qla _) rfl ⟨Qqa rfl,Jja rfl,Qza rfl,Qga rfl,Qga rfl,Q6a rfl,Qga rfl,Qga rfl,rn_s rfl,Qga rfl,Qga rfl,trivial⟩ (rw_bs (Qma p0) rfl (rw_mp (ek:=kI) (ev:=kI) (ys:=s5) rfl (fun _=>Qea _ _) (fun _=>Qea _ _) rfl (rw_ar rfl rfl (Qxa))))⟩
        replace h:=ite_F h hb_567
        refine sN hb_567 (sN hb_567 (sN hb_567 (sN hb_567 (sN hb_567 (sQ (Qia (v:=.bool false) rfl hb_567 rfl (go 1 3 (RS.nil (T.region (go 2 3 ?_))))))))))
        refine RS.nil ?_
        exact ⟨(false,IntKind.i64.wrap (s54+1)),(Option.some.inj h).symm,Weak.mkN [] [0,1,2] (by decide) (Qla _) rfl ⟨Qqa rfl,Jja rfl,Qza rfl,Qga rfl,Qga rfl,Q6a rfl,Qga rfl,Qga rfl,rn_s rfl,Qga rfl,Qga rfl,trivial⟩ (rw_bs (Qma p0) rfl (rw_mp (ek:=kI) (ev:=kI) (ys:=s5) rfl (fun _=>Qea _ _) (fun _=>Qea _ _) rfl (rw_ar rfl rfl (Qxa))))⟩
       refine T.exit ?_
       obtain ⟨w_568,h,hw_568⟩:=Qsa h
       replace h:=h.trans (congrArg some (hv_565 _ hw_568))
       refine T.seq (T.region (go 1 3 (RS.nil (T.ci h rfl (fun hb_569 h=>?_) (fun hb_569 h=>?_)))))
       ·refine T.region (go 2 3 (RS.nil (T.region (go 3 3 (RS.nil ?_)))))
        exact ⟨(s48,IntKind.i64.wrap (s48 - 1)),(Option.some.inj h).symm,Weak.mkN [] [0,1,2] (by decide) (Qla _) rfl ⟨Qqa rfl,Jja rfl,Qza rfl,Qga rfl,Qga rfl,Qga rfl,Qga rfl,trivial⟩ (rw_bs (Qma p0) rfl (rw_mp (ek:=kI) (ev:=kI) (ys:=s5) rfl (fun _=>Qea _ _) (fun _=>Qea _ _) rfl (rw_ar rfl rfl (Qxa))))⟩
       refine T.skip (T.region (go 3 3 (RS.nil ?_)))
       exact ⟨(s47,IntKind.i64.wrap (s48 - 1)),(Option.some.inj h).symm,Weak.mkN [] [0,1,2] (by decide) (Qla _) rfl ⟨Qqa rfl,Jja rfl,Qza rfl,Qga rfl,Qga rfl,Qga rfl,Qga rfl,trivial⟩ (rw_bs (Qma p0) rfl (rw_mp (ek:=kI) (ev:=kI) (ys:=s5) rfl (fun _=>Qea _ _) (fun _=>Qea _ _) rfl (rw_ar rfl rfl (Qxa))))⟩
      refine T.exit ?_
      obtain ⟨w_570,h,hw_570⟩:=Qsa h
      replace h:=h.trans (congrArg some (hv_558 _ hw_570))
      refine T.seq (T.seq (T.region (go 2 3 (RS.nil (T.ci h rfl (fun hb_571 h=>?_) (fun hb_571 h=>?_))))))
      ·refine T.seq (T.region (go 2 3 (RS.nil ?_)))
       obtain ⟨w_572,h,hw_572⟩:=Qsa h
       replace h:=h.trans (congrArg some (hv_533 _ hw_572))
       cases h
       exact tO [(0,3,1)] [3] 3
      refine T.skip ?_
      obtain ⟨x58,hx58,h⟩:=bind_some h
      refine T.region (go 2 3 (sO (Qva (rows:=List.map encI [s47]) (vs:=[iI s47]) Ty.s26 Ty.z3 rfl rfl rfl rfl rfl rfl (sO (J5a (en:=encI) (xs:=s46) (ys:=([s47]:List Int)) Ty.s26 (fun _=>rfl) rfl rfl rfl hx58 rfl rfl (go 1 5 (RS.nil (T.region (go 2 5 (RS.nil ?_))))))))))
      exact ⟨(IntKind.i64.wrap (s45+1),x58),(Option.some.inj h).symm,Weak.mkN [] [0,1,4] (by decide) (Qla _) rfl ⟨Qqa rfl,Jja rfl,Qza rfl,Qga rfl,Qga rfl,trivial⟩ (rw_bs (Qma p0) rfl (rw_mp (ek:=kI) (ev:=kI) (ys:=s5) rfl (fun _=>Qea _ _) (fun _=>Qea _ _) rfl (rw_ar rfl rfl (Qxa))))⟩
     refine T.exit ?_
     obtain ⟨w_573,h,hw_573⟩:=Qsa h
     replace h:=h.trans (congrArg some (hv_533 _ hw_573))
     refine T.seq (T.region (go 3 3 (RS.nil ?_)))
     cases h
     exact tO [] [2] 3
    refine T.region (go 1 3 (sO (o_len_mp (ek:=kI) (ev:=kI) (xs:=s5) Tryz.underlying73 rfl rfl (go 4 3 ?_))))
    rcases Qha (((s5).length:Int) != p0.Rings) with hb_453 | hb_453
    ·refine sN hb_453 (sN hb_453 (sN hb_453 (sN hb_453 (sN hb_453 (sQ (Qna (v:=.bool true) rfl hb_453 rfl (RS.nil ?_)))))))
     exact T.weakR (hK () trivial) (Weak.mkN [] [0,1] (by decide) (Qla _) rfl ⟨Qqa rfl,Jja rfl,Qga rfl,Q6a (by simp only [hb_453,bz,if_true,if_false,Bool.false_eq_true]),trivial⟩ (rw_bs (Qma p0) rfl (rw_mp (ek:=kI) (ev:=kI) (ys:=s5) rfl (fun _=>Qea _ _) (fun _=>Qea _ _) rfl (Qxa))))
    refine yg 3 hb_453 (yO hb_453 (o_len_mp (ek:=kI) (ev:=kI) (xs:=s6) Tryz.underlying73 rfl rfl (yg 3 hb_453 (yg 3 hb_453 (yg 3 hb_453 (sQ (Qia (v:=.bool (((s6).length:Int) != p0.Rings)) rfl hb_453 rfl (RS.nil ?_))))))))
    exact T.weakR (hK () trivial) (Weak.mkN [] [0,1] (by decide) (Qla _) rfl ⟨Qqa rfl,Jja rfl,Qga rfl,Q6a (by simp only [hb_453,bz,if_true,if_false,Bool.false_eq_true]),trivial⟩ (rw_bs (Qma p0) rfl (rw_mp (ek:=kI) (ev:=kI) (ys:=s5) rfl (fun _=>Qea _ _) (fun _=>Qea _ _) rfl (Qxa))))
   refine T.region (go 4 1 ?_)
   rcases Qha (decide (p0.Room<1)) with hb_5 | hb_5
   ·refine sN hb_5 (sN hb_5 (sN hb_5 (sQ (Qna (v:=.bool true) rfl hb_5 rfl (RS.nil ?_)))))
    exact T.sub (hK () trivial) ⟨rfl,(congrArg AV.bool (by simp only [hb_5,bz,if_true,if_false,Bool.false_eq_true])).symm,trivial⟩
   refine yg 1 hb_5 (yg 1 hb_5 (yg 1 hb_5 (sQ (Qia (v:=.bool (decide (p0.Room > 6))) rfl hb_5 rfl (RS.nil ?_)))))
   exact T.sub (hK () trivial) ⟨rfl,(congrArg AV.bool (by simp only [hb_5,bz,if_true,if_false,Bool.false_eq_true])).symm,trivial⟩
  refine T.region (go 2 1 (sQ (Qfa Ty.s22 rfl (go 2 1 ?_))))
  rcases Qha (((p0.Nodes).length:Int)==0) with hb_1 | hb_1
  ·refine sN hb_1 (sN hb_1 (sN hb_1 (sN hb_1 (sQ (Qna (v:=.bool true) rfl hb_1 rfl (go 1 1 (sN rfl (sN rfl (sN rfl (sQ (Qna (v:=.bool true) rfl rfl rfl ?_)))))))))))
   refine go 1 1 (sN rfl (sN rfl (sN rfl (sQ (Qna (v:=.bool true) rfl rfl rfl (RS.nil ?_))))))
   exact T.sub (hK () trivial) ⟨rfl,(congrArg AV.bool (by simp only [hb_1,bz,if_true,if_false,Bool.false_eq_true])).symm,trivial⟩
  refine yg 1 hb_1 (yg 1 hb_1 (yQ hb_1 (Qfa Ty.s22 rfl (yg 1 hb_1 (sQ (Qia (v:=.bool (decide (((p0.Nodes).length:Int) > 12))) rfl hb_1 rfl (go 1 1 ?_)))))))
  rcases Qha (decide (((p0.Nodes).length:Int) > 12)) with hb_2 | hb_2
  ·refine sN hb_2 (sN hb_2 (sN hb_2 (sQ (Qna (v:=.bool true) rfl hb_2 rfl (go 1 1 (sN rfl (sN rfl (sN rfl (sQ (Qna (v:=.bool true) rfl rfl rfl (RS.nil ?_)))))))))))
   exact T.sub (hK () trivial) ⟨rfl,(congrArg AV.bool (by simp only [hb_1,hb_2,bz,if_true,if_false,Bool.false_eq_true])).symm,trivial⟩
  refine yg 1 hb_2 (yg 1 hb_2 (yg 1 hb_2 (sQ (Qia (v:=.bool (decide (p0.Rings<0))) rfl hb_2 rfl (go 1 1 ?_)))))
  rcases Qha (decide (p0.Rings<0)) with hb_3 | hb_3
  ·refine sN hb_3 (sN hb_3 (sN hb_3 (sQ (Qna (v:=.bool true) rfl hb_3 rfl (RS.nil ?_)))))
   exact T.sub (hK () trivial) ⟨rfl,(congrArg AV.bool (by simp only [hb_1,hb_2,hb_3,bz,if_true,if_false,Bool.false_eq_true])).symm,trivial⟩
  refine yg 1 hb_3 (yg 1 hb_3 (yg 1 hb_3 (sQ (Qia (v:=.bool (decide (p0.Rings > 16))) rfl hb_3 rfl (RS.nil ?_)))))
  exact T.sub (hK () trivial) ⟨rfl,(congrArg AV.bool (by simp only [hb_1,hb_2,hb_3,bz,if_true,if_false,Bool.false_eq_true])).symm,trivial⟩
theorem crossref_CheckSources_c (p0:Net) (p1:List (List Item)) (r:Int) (h:Vta p0 p1=some r):Fn Tryz.prog 10 [.agg (Qma p0),sL (encL Qaa) p1] (iI r):=by
  unfold Vta at h
  refine fnT 0 Tryz.func10 Tryz.ntmps10 ?_
  refine T.seq (T.region (go 2 0 (RS.nil (T.seq (T.seq ?_)))))
  obtain ⟨x2,hx2,h⟩:=bind_some h
  refine T.region (go 1 1 (sO (cO 1 (crossref_CheckNet_c p0 x2 hx2) ⟨rfl,(go 5 2 (RS.nil (T.seq (T.region (go 2 2 (RS.nil (T.ci h rfl (fun hb_1 h=>?_) (fun hb_1 h=>?_))))))))⟩)))
  ·refine T.seq (T.region (go 2 2 (RS.nil ?_)))
   cases h
   exact tD
  refine T.skip (T.seq (T.seq (T.region (go 1 2 (sQ (Qfa Ty.s25 rfl (go 1 2 (RS.nil (T.ci h rfl (fun hb_2 h=>?_) (fun hb_2 h=>?_))))))))))
  ·refine T.seq (T.region (go 1 2 (RS.nil ?_)))
   cases h
   exact tD
  refine T.skip (T.seq (T.seq (T.region (go 1 2 (sQ (Qfa Ty.s25 rfl (go 1 2 (RS.nil (T.block (T.iter (fun ss_27:Int=>mkA 72 [(1,sL (encL Qaa) p1),(2,.ptr 0 0),(25,sL (encL Qaa) p1),(26,iI ((p1).length:Int)),(27,iI ss_27)]) (fun ss_27=>[.box (Qma p0)]) h (wk [] [0] 2 rfl) (fun ss_27 v_28 h hv_28=>?_)))))))))))
  revert hv_28 h;revert ss_27;intro s3 h hv_28
  replace h:Zia p0 p1 s3=some v_28:=h
  try dsimp only
  unfold Zia at h
  refine T.seq (T.region (go 1 1 (RS.nil (T.seq (T.ci h rfl (fun hb_29 h=>?_) (fun hb_29 h=>?_))))))
  ·refine T.skip (T.seq (T.block (T.seq ?_)))
   obtain ⟨x5,hx5,h⟩:=bind_some h
   refine T.region (sQ (Qda Ty.s25 (fun _=>rfl) rfl rfl hx5 (go 2 1 (RS.nil (T.seq (T.seq (T.region (go 1 1 (sQ (Qfa Ty.s29 rfl (go 1 1 ?_)))))))))))
   refine RS.nil (T.ci h rfl (fun hb_30 h=>?_) (fun hb_30 h=>?_))
   ·refine T.seq (T.region (go 1 1 (RS.nil ?_)))
    obtain ⟨w_31,h,hw_31⟩:=Qsa h
    replace h:=h.trans (congrArg some (hv_28 _ hw_31))
    cases h
    exact tD
   refine T.skip (T.seq (T.region (go 1 1 (sQ (Qfa Ty.s29 rfl (go 1 1 (RS.nil (T.block (T.iter (fun ss_36:Int=>mkA 72 [(1,sL (encL Qaa) p1),(2,.ptr 0 0),(25,sL (encL Qaa) p1),(26,iI ((p1).length:Int)),(27,iI s3),(34,sL Qaa x5),(35,iI ((x5).length:Int)),(36,iI ss_36)]) (fun ss_36=>[.box (Qma p0)]) h (wk [] [0] 1 rfl) (fun ss_36 v_37 h hv_37=>?_))))))))))
   revert hv_37 h;revert ss_36;intro s6 h hv_37
   replace h:Zha s3 x5 s6=some v_37:=h
   try dsimp only
   unfold Zha at h
   refine T.seq (T.region (go 1 1 (RS.nil (T.seq (T.ci h rfl (fun hb_38 h=>?_) (fun hb_38 h=>?_))))))
   ·refine T.skip (T.seq (T.block (T.seq ?_)))
    obtain ⟨x8,hx8,h⟩:=bind_some h
    refine T.region (sQ (Qda Ty.s29 (fun _=>rfl) rfl rfl hx8 (go 3 1 (RS.nil (T.seq (T.region (go 3 2 (RS.nil (T.ci h rfl (fun hb_39 h=>?_) (fun hb_39 h=>?_))))))))))
    ·refine T.seq (T.region (go 1 2 (RS.nil ?_)))
     obtain ⟨w_40,h,hw_40⟩:=Qsa h
     replace h:=h.trans (congrArg some (hv_37 _ hw_40))
     obtain ⟨w_41,h,hw_41⟩:=Qsa h
     replace h:=h.trans (congrArg some (hv_28 _ hw_41))
     cases h
     exact tD
    refine T.skip (T.region (go 2 2 (RS.nil ?_)))
    exact ⟨IntKind.i64.wrap (s6+1),(Option.some.inj h).symm,wk [] [0] 2 rfl⟩
   refine T.exit ?_
   obtain ⟨w_42,h,hw_42⟩:=Qsa h
   replace h:=h.trans (congrArg some (hv_37 _ hw_42))
   refine T.region (go 2 1 (RS.nil ?_))
   exact ⟨IntKind.i64.wrap (s3+1),(Option.some.inj h).symm,wk [] [0] 1 rfl⟩
  refine T.exit ?_
  obtain ⟨w_43,h,hw_43⟩:=Qsa h
  replace h:=h.trans (congrArg some (hv_28 _ hw_43))
  refine T.seq (T.region (sO (o_makeMap rfl rfl (go 1 2 (RS.nil (T.seq (T.seq (T.region (go 2 2 (sQ (Qfa Ty.s22 rfl ?_)))))))))))
  refine go 1 2 (RS.nil (T.block (T.iter (fun ss_52:Int × (List (Int × Int))=>mkA 72 [(1,sL (encL Qaa) p1),(11,.mpr 0),(47,sL Qja p0.Nodes),(48,iI ((p0.Nodes).length:Int)),(49,iI ss_52.1)]) (fun ss_52=>[.mp (List.map kI (List.map Prod.fst ss_52.2)) (List.map kI (List.map Prod.snd ss_52.2))]) h (Weak.mkN [] [1] (by decide) (Qla _) rfl ⟨rn_s rfl,Jja rfl,rn_s rfl,Qga rfl,Qga rfl,trivial⟩ (rw_mp (ek:=kI) (ev:=kI) (ys:=([]:List (Int × Int))) rfl (fun _=>Qea _ _) (fun _=>Qea _ _) rfl (Qxa))) (fun ss_52 v_53 h hv_53=>?_))))
  obtain ⟨s9,s10⟩:=ss_52
  replace h:Jla p0 p1 s9 s10=some v_53:=h
  try dsimp only
  unfold Jla at h
  refine T.seq (T.region (go 1 1 (RS.nil (T.seq (T.ci h rfl (fun hb_54 h=>?_) (fun hb_54 h=>?_))))))
  ·refine T.skip (T.seq (T.block (T.seq ?_)))
   obtain ⟨x12,hx12,h⟩:=bind_some h
   refine T.region (sQ (Qda Ty.s22 (fun _=>rfl) rfl rfl hx12 (go 3 1 (RS.nil (T.seq (T.region (go 3 2 (RS.nil (T.ci h rfl (fun hb_55 h=>?_) (fun hb_55 h=>?_))))))))))
   ·refine T.seq (T.seq (T.region (go 3 2 (sQ (Qfa Ty.s25 rfl (go 1 2 (RS.nil (T.ci h rfl (fun hb_56 h=>?_) (fun hb_56 h=>?_)))))))))
    ·refine T.seq (T.region (go 1 2 (RS.nil ?_)))
     obtain ⟨w_57,h,hw_57⟩:=Qsa h
     replace h:=h.trans (congrArg some (hv_53 _ hw_57))
     cases h
     exact tD
    refine T.skip (T.seq (T.region (go 3 2 (sO (o_lookup (ek:=kI) (ev:=kI) (xs:=s10) (k:=x12.A) (z0:=0) Tryz.underlying73 (KeyT.int Tryz.underlying3) Ty.w3 (fun _ _ _=>.int _ _) rfl rfl rfl (go 1 2 (sO (o_mapPut (ek:=kI) (ev:=kI) (xs:=s10) (k:=x12.A) (a:=(IntKind.i64.wrap (((mget x12.A s10).getD 0)+1))) (.inl rfl) Tryz.underlying73 (KeyT.int Tryz.underlying3) rfl rfl rfl rfl rfl (RS.nil (T.seq (T.region ?_)))))))))))
    refine go 3 2 (sO (o_lookup (ek:=kI) (ev:=kI) (xs:=(mset x12.A (IntKind.i64.wrap (((mget x12.A s10).getD 0)+1)) s10)) (k:=x12.A) (z0:=0) Tryz.underlying73 (KeyT.int Tryz.underlying3) Ty.w3 (fun _ _ _=>.int _ _) rfl rfl rfl (go 1 2 (RS.nil (T.ci h rfl (fun hb_58 h=>?_) (fun hb_58 h=>?_))))))
    ·refine T.seq (T.region (go 1 2 (RS.nil ?_)))
     obtain ⟨w_59,h,hw_59⟩:=Qsa h
     replace h:=h.trans (congrArg some (hv_53 _ hw_59))
     cases h
     exact tD
    refine T.skip (T.region (go 2 2 (RS.nil ?_)))
    exact ⟨(IntKind.i64.wrap (s9+1),(mset x12.A (IntKind.i64.wrap (((mget x12.A s10).getD 0)+1)) s10)),(Option.some.inj h).symm,Weak.mkN [] [0] (by decide) (Qla _) rfl ⟨rn_s rfl,Jja rfl,rn_s rfl,Qga rfl,Qga rfl,trivial⟩ (rw_mp (ek:=kI) (ev:=kI) (ys:=(mset x12.A (IntKind.i64.wrap (((mget x12.A s10).getD 0)+1)) s10)) rfl (fun _=>Qea _ _) (fun _=>Qea _ _) rfl (Qxa))⟩
   refine T.skip (T.region (go 2 2 (RS.nil ?_)))
   exact ⟨(IntKind.i64.wrap (s9+1),s10),(Option.some.inj h).symm,Weak.mkN [] [0] (by decide) (Qla _) rfl ⟨rn_s rfl,Jja rfl,rn_s rfl,Qga rfl,Qga rfl,trivial⟩ (rw_mp (ek:=kI) (ev:=kI) (ys:=s10) rfl (fun _=>Qea _ _) (fun _=>Qea _ _) rfl (Qxa))⟩
  refine T.exit ?_
  obtain ⟨w_60,h,hw_60⟩:=Qsa h
  replace h:=h.trans (congrArg some (hv_53 _ hw_60))
  refine T.seq (T.region (go 1 1 (RS.nil ?_)))
  cases h
  exact tD
theorem crosslaw_meeting_c (r:Net) (h:Qhb=some r):Fn Tryz.prog 36 [] (.agg (Qma r)):=by
  unfold Qhb at h
  refine fnT 0 Tryz.func36 Tryz.ntmps36 ?_
  refine T.seq (T.region (go 1 0 (RS.nil (T.seq (T.region (sO (Qva (rows:=List.map encI [0]) (vs:=[iI 0]) Ty.s26 Ty.z3 rfl rfl rfl rfl rfl rfl (go 1 2 (sO (Qva (rows:=List.map encI [1]) (vs:=[iI 1]) Ty.s26 Ty.z3 rfl rfl rfl rfl rfl rfl (go 1 3 ?_)))))))))))
  refine sO (Qva (rows:=List.map encI [0,1]) (vs:=[iI 0,iI 1]) Ty.s26 Ty.z3 rfl rfl rfl rfl rfl rfl (sO (Qva (rows:=List.map encI [2]) (vs:=[iI 2]) Ty.s26 Ty.z3 rfl rfl rfl rfl rfl rfl (go 1 5 (sO (Qva (rows:=List.map encI [2]) (vs:=[iI 2]) Ty.s26 Ty.z3 rfl rfl rfl rfl rfl rfl (go 1 6 (RS.fC 1 (RS.fC 2 (RS.fC 3 (RS.fC 4 (RS.fC 5 ?_))))))))))))
  refine sO (o_buildSliceN (rows:=List.map Qja [(⟨1,0,[],[0]⟩:Node),(⟨1,1,[],[1]⟩:Node),(⟨6,0,[0,1],[2]⟩:Node),(⟨8,0,[2],[]⟩:Node)]) (vs:=[.agg [iI 1,iI 0,.nils,sL encI [0]],.agg [iI 1,iI 1,.nils,sL encI [1]],.agg [iI 6,iI 0,sL encI [0,1],sL encI [2]],.agg [iI 8,iI 0,sL encI [2],.nils]]) (vs2:=[.agg [iI 1,iI 0,sL encI [],sL encI [0]],.agg [iI 1,iI 1,sL encI [],sL encI [1]],.agg [iI 6,iI 0,sL encI [0,1],sL encI [2]],.agg [iI 8,iI 0,sL encI [2],sL encI []]]) Ty.s22 Ty.z57 rfl rfl rfl rfl rfl rfl (go 2 7 (RS.nil ?_)))
  cases h
  exact tD
theorem crosslaw_item_c (p0:Int) (p1:Int) (r:Item) (h:crosslaw_item p0 p1=some r):Fn Tryz.prog 83 [iI p0,iI p1] (.agg (Qaa r)):=by
  unfold crosslaw_item at h
  refine fnT 0 Tryz.func83 Tryz.ntmps83 ?_
  refine T.seq (T.region (go 1 0 (RS.nil (T.seq (T.region (go 4 1 (RS.nil ?_)))))))
  cases h
  exact tD
theorem crosslaw_two_c (r:List (List Item)) (h:crosslaw_two=some r):FnO Tryz.prog 37 [] (.ref 0) [aR 29 1 (encL Qaa) r]:=by
  unfold crosslaw_two at h
  refine fnT 0 Tryz.func37 Tryz.ntmps37 ?_
  refine T.seq (T.region (go 1 0 (RS.nil (T.seq ?_))))
  obtain ⟨x3,hx3,h⟩:=bind_some h
  obtain ⟨x4,hx4,h⟩:=bind_some h
  refine T.region (sO (cF (crosslaw_item_c (1:Int) (1:Int) x3 hx3) ⟨rfl,(sO (Qva (rows:=List.map Qaa [x3]) (vs:=[.agg (Qaa x3)]) Ty.s29 Ty.z72 rfl rfl rfl rfl rfl rfl (sO (cF (crosslaw_item_c (2:Int) (2:Int) x4 hx4) ⟨rfl,(sO (Qva (rows:=List.map Qaa [x4]) (vs:=[.agg (Qaa x4)]) Ty.s29 Ty.z72 rfl rfl rfl rfl rfl rfl (RS.fC 0 (RS.fC 1 (sO (Qva (rows:=List.map (encL Qaa) [[x3],[x4]]) (vs:=[sL Qaa [x3],sL Qaa [x4]]) Ty.s25 Ty.z29 rfl rfl rfl rfl rfl rfl (go 1 3 (RS.nil ?_))))))))⟩))))⟩))
  cases h
  exact tO [] [2] 3
theorem slices_Equal_int_c (p0:List Int) (p1:List Int) (r:Bool) (h:Qgb p0 p1=some r):Fn Tryz.prog 40 [sL encI p0,sL encI p1] (.bool r):=by
  unfold Qgb at h
  refine fnT 0 Tryz.func40 Tryz.ntmps40 ?_
  refine T.seq (T.region (go 1 0 (RS.nil (T.seq (T.seq (T.region (go 1 0 (sQ (Qfa Ty.s26 rfl (go 1 0 ?_))))))))))
  refine sQ (Qfa Ty.s26 rfl (go 1 0 (RS.nil (T.ci h rfl (fun hb_1 h=>?_) (fun hb_1 h=>?_)))))
  ·refine T.seq (T.region (go 1 0 (RS.nil ?_)))
   cases h
   exact tD
  refine T.skip (T.seq (T.seq (T.region (go 1 0 (sQ (Qfa Ty.s26 rfl (go 1 0 (RS.nil (T.block (T.iter (fun ss_6:Int=>mkA 26 [(0,sL encI p0),(1,sL encI p1),(12,iI ((p0).length:Int)),(13,iI ss_6)]) (fun ss_6=>[]) h (wk [] [] 0 rfl) (fun ss_6 v_7 h hv_7=>?_)))))))))))
  revert hv_7 h;revert ss_6;intro s1 h hv_7
  replace h:Yda p0 p1 s1=some v_7:=h
  try dsimp only
  unfold Yda at h
  refine T.seq (T.region (go 1 0 (RS.nil (T.seq (T.ci h rfl (fun hb_8 h=>?_) (fun hb_8 h=>?_))))))
  ·refine T.skip (T.seq (T.block (T.seq (T.region (go 2 0 (RS.nil (T.seq ?_)))))))
   obtain ⟨x4,hx4,h⟩:=bind_some h
   obtain ⟨x5,hx5,h⟩:=bind_some h
   refine T.drawn mixed (k:=9) rfl (rq [0,1] 7 (r0 2 rfl (Qda Ty.s26 (fun _=>rfl) rfl rfl hx4 (rq [4,5] 4 (r0 6 rfl (Qda Ty.s26 (fun _=>rfl) rfl rfl hx5 (rL [3,8] 3 rfl (ra1 7 (og 0 ⟨rfl,(rq [8] 0 (RA.done (by decide +kernel) ?_))⟩)))))))))
   refine T.ci h rfl (fun hb_9 h=>?_) (fun hb_9 h=>?_)
   ·refine T.seq (T.region (go 1 0 (RS.nil ?_)))
    obtain ⟨w_10,h,hw_10⟩:=Qsa h
    replace h:=h.trans (congrArg some (hv_7 _ hw_10))
    cases h
    exact tD
   refine T.skip (T.region (go 2 0 (RS.nil ?_)))
   exact ⟨IntKind.i64.wrap (s1+1),(Option.some.inj h).symm,wk [] [] 0 rfl⟩
  refine T.exit ?_
  obtain ⟨w_11,h,hw_11⟩:=Qsa h
  replace h:=h.trans (congrArg some (hv_7 _ hw_11))
  refine T.seq (T.region (go 1 0 (RS.nil ?_)))
  cases h
  exact tD
end Go.Proofs.YtfbmoockopakjaaGreat
namespace Go.Proofs.YtfbmoockopakjaaGreat
open Go.RowKit Go.Shelf
set_option linter.unusedVariables false
set_option maxRecDepth 100000
set_option maxHeartbeats 4000000
def sRen:Go.Shelf.Ren:=⟨fun n=>match n with | 6=>89 | 10=>100 | 11=>101 | 12=>102 | 13=>103 | 14=>104 | 15=>113 | 16=>114 | 17=>115 | 18=>116 | 19=>117 | 20=>118 | 21=>119 | 22=>120 | 23=>121 | 24=>122 | 25=>123 | 26=>124 | 27=>125 | 28=>126 | 29=>127 | 30=>128 | 31=>129 | 32=>130 | 33=>131 | 34=>136 | 35=>137 | 36=>138 | 37=>139 | 38=>140 | 39=>143 | 40=>146 | 41=>147 | 42=>148 | 43=>149 | 44=>150 | 45=>151 | 46=>152 | 47=>153 | 48=>154 | 49=>155 | 50=>156 | 51=>157 | 52=>158 | 53=>159 | 54=>160 | 55=>161 | 56=>162 | 57=>163 | 58=>164 | _=>0,fun n=>match n with | 0=>0 | 1=>1 | 2=>2 | 3=>3 | 4=>4 | 5=>5 | 6=>6 | 7=>7 | 8=>8 | 9=>9 | 10=>10 | 11=>11 | 12=>12 | 13=>13 | 14=>14 | 15=>15 | 16=>16 | 17=>17 | 18=>18 | 19=>19 | 20=>20 | 21=>21 | 23=>133 | 26=>134 | 28=>26 | 32=>144 | 33=>145 | 34=>146 | 35=>147 | 36=>148 | 37=>149 | 38=>150 | 39=>151 | 40=>152 | 41=>153 | 42=>154 | 43=>155 | 44=>156 | 45=>165 | 46=>166 | 47=>167 | 48=>168 | 49=>169 | 50=>170 | 51=>171 | 52=>172 | 53=>173 | 54=>174 | 55=>175 | 56=>176 | 57=>177 | 58=>125 | 59=>178 | 60=>182 | 61=>183 | 62=>184 | 63=>185 | 64=>186 | 65=>187 | 66=>191 | 67=>192 | 68=>193 | 69=>198 | 70=>199 | 71=>200 | 72=>201 | 73=>202 | 74=>203 | 75=>204 | 76=>205 | 77=>206 | 78=>207 | 79=>208 | 80=>209 | 81=>210 | 82=>211 | 83=>212 | 84=>213 | _=>0,fun n=>n⟩
theorem sLay:LaysGg.n6 Tryz.prog sRen where
  mixed:=mixed
  f6:=by kernel_rfl
  f10:=by kernel_rfl
  f11:=by kernel_rfl
  f12:=by kernel_rfl
  f13:=by kernel_rfl
  f14:=by kernel_rfl
  f24:=by kernel_rfl
  f25:=by kernel_rfl
  f26:=by kernel_rfl
  f27:=by kernel_rfl
  f28:=by kernel_rfl
  f29:=by kernel_rfl
  f30:=by kernel_rfl
  f31:=by kernel_rfl
  f32:=by kernel_rfl
  f33:=by kernel_rfl
  f34:=by kernel_rfl
  f35:=by kernel_rfl
  f36:=by kernel_rfl
  f37:=by kernel_rfl
  f38:=by kernel_rfl
  f39:=by kernel_rfl
  t0:=by kernel_rfl
  a0:=fun w=>by kernel_rfl
  z0:=fun w=>by kernel_rfl
  v0:=fun w=>by kernel_rfl
  i0:=by kernel_rfl
  t3:=by kernel_rfl
  a3:=fun w=>by kernel_rfl
  z3:=fun w=>by kernel_rfl
  v3:=fun w=>by kernel_rfl
  i3:=by kernel_rfl
  t4:=by kernel_rfl
  a4:=fun w=>by kernel_rfl
  z4:=fun w=>by kernel_rfl
  v4:=fun w=>by kernel_rfl
  i4:=by kernel_rfl
  t5:=by kernel_rfl
  a5:=fun w=>by kernel_rfl
  z5:=fun w=>by kernel_rfl
  v5:=fun w=>by kernel_rfl
  i5:=by kernel_rfl
  t9:=by kernel_rfl
  a9:=fun w=>by kernel_rfl
  z9:=fun w=>by kernel_rfl
  v9:=fun w=>by kernel_rfl
  i9:=by kernel_rfl
  t12:=by kernel_rfl
  a12:=fun w=>by kernel_rfl
  z12:=fun w=>by kernel_rfl
  v12:=fun w=>by kernel_rfl
  i12:=by kernel_rfl
  t17:=by kernel_rfl
  a17:=fun w=>by kernel_rfl
  z17:=fun w=>by kernel_rfl
  v17:=fun w=>by kernel_rfl
  i17:=by kernel_rfl
  t20:=by kernel_rfl
  a20:=fun w=>by kernel_rfl
  z20:=fun w=>by kernel_rfl
  v20:=fun w=>by kernel_rfl
  i20:=by kernel_rfl
  t26:=by kernel_rfl
  a26:=fun w=>by kernel_rfl
  z26:=fun w=>by kernel_rfl
  v26:=fun w=>by kernel_rfl
  i26:=by kernel_rfl
  t32:=by kernel_rfl
  a32:=fun w=>by kernel_rfl
  z32:=fun w=>by kernel_rfl
  v32:=fun w=>by kernel_rfl
  i32:=by kernel_rfl
  t33:=by kernel_rfl
  a33:=fun w=>by kernel_rfl
  z33:=fun w=>by kernel_rfl
  v33:=fun w=>by kernel_rfl
  i33:=by kernel_rfl
  t35:=by kernel_rfl
  a35:=fun w=>by kernel_rfl
  z35:=fun w=>by kernel_rfl
  v35:=fun w=>by kernel_rfl
  i35:=by kernel_rfl
  t37:=by kernel_rfl
  a37:=fun w=>by kernel_rfl
  z37:=fun w=>by kernel_rfl
  v37:=fun w=>by kernel_rfl
  i37:=by kernel_rfl
  t41:=by kernel_rfl
  a41:=fun w=>by kernel_rfl
  z41:=fun w=>by kernel_rfl
  v41:=fun w=>by kernel_rfl
  i41:=by kernel_rfl
  t44:=by kernel_rfl
  a44:=fun w=>by kernel_rfl
  z44:=fun w=>by kernel_rfl
  v44:=fun w=>by kernel_rfl
  i44:=by kernel_rfl
  t49:=by kernel_rfl
  a49:=fun w=>by kernel_rfl
  z49:=fun w=>by kernel_rfl
  v49:=fun w=>by kernel_rfl
  i49:=by kernel_rfl
  t51:=by kernel_rfl
  a51:=fun w=>by kernel_rfl
  z51:=fun w=>by kernel_rfl
  v51:=fun w=>by kernel_rfl
  i51:=by kernel_rfl
  t53:=by kernel_rfl
  a53:=fun w=>by kernel_rfl
  z53:=fun w=>by kernel_rfl
  v53:=fun w=>by kernel_rfl
  i53:=by kernel_rfl
  t54:=by kernel_rfl
  a54:=fun w=>by kernel_rfl
  z54:=fun w=>by kernel_rfl
  v54:=fun w=>by kernel_rfl
  i54:=by kernel_rfl
  t58:=by kernel_rfl
  a58:=fun w=>by kernel_rfl
  z58:=fun w=>by kernel_rfl
  v58:=fun w=>by kernel_rfl
  i58:=by kernel_rfl
  t60:=by kernel_rfl
  a60:=fun w=>by kernel_rfl
  z60:=fun w=>by kernel_rfl
  v60:=fun w=>by kernel_rfl
  i60:=by kernel_rfl
  t64:=by kernel_rfl
  a64:=fun w=>by kernel_rfl
  z64:=fun w=>by kernel_rfl
  v64:=fun w=>by kernel_rfl
  i64:=by kernel_rfl
  t66:=by kernel_rfl
  a66:=fun w=>by kernel_rfl
  z66:=fun w=>by kernel_rfl
  v66:=fun w=>by kernel_rfl
  i66:=by kernel_rfl
  t67:=by kernel_rfl
  a67:=fun w=>by kernel_rfl
  z67:=fun w=>by kernel_rfl
  v67:=fun w=>by kernel_rfl
  i67:=by kernel_rfl
  t75:=by kernel_rfl
  a75:=fun w=>by kernel_rfl
  z75:=fun w=>by kernel_rfl
  v75:=fun w=>by kernel_rfl
  i75:=by kernel_rfl
  t76:=by kernel_rfl
  a76:=fun w=>by kernel_rfl
  z76:=fun w=>by kernel_rfl
  v76:=fun w=>by kernel_rfl
  i76:=by kernel_rfl
  t77:=by kernel_rfl
  a77:=fun w=>by kernel_rfl
  z77:=fun w=>by kernel_rfl
  v77:=fun w=>by kernel_rfl
  i77:=by kernel_rfl
  t78:=by kernel_rfl
  a78:=fun w=>by kernel_rfl
  z78:=fun w=>by kernel_rfl
  v78:=fun w=>by kernel_rfl
  i78:=by kernel_rfl
  t79:=by kernel_rfl
  a79:=fun w=>by kernel_rfl
  z79:=fun w=>by kernel_rfl
  v79:=fun w=>by kernel_rfl
  i79:=by kernel_rfl
  t80:=by kernel_rfl
  a80:=fun w=>by kernel_rfl
  z80:=fun w=>by kernel_rfl
  v80:=fun w=>by kernel_rfl
  i80:=by kernel_rfl
  t82:=by kernel_rfl
  a82:=fun w=>by kernel_rfl
  z82:=fun w=>by kernel_rfl
  v82:=fun w=>by kernel_rfl
  i82:=by kernel_rfl
open Go.Sort Go.Lib
noncomputable def svT:TypeInfo:=(Tryz.prog.info? 82).get (by kernel_rfl)
noncomputable def svE:TypeInfo:=(Tryz.prog.info? 97).get (by kernel_rfl)
theorem svK (n:Nat) (h2:2≤n):Lib.swapperK n svE 25=9:=by
  have a:svE.hasPointers=false:=by kernel_rfl
  have b:svE.bytes=16:=by kernel_rfl
  have c:(n==0)=false:=by simp;omega
  have d:(n==1)=false:=by simp;omega
  simp [Lib.swapperK,a,b,c,d]
def encV (x:Keyed):List Value:=[.int .i64 x.Key,.int .i64 x.N]
theorem swoK:SWO ltK where
  irrefl:=fun x=>by simp [ltK]
  trans:=fun x y z h1 h2=>by simp [ltK] at *;omega
  ntrans:=fun x y z h1 h2=>by simp [ltK] at *;omega
theorem less_k (blk off c Bs size:Nat) (W:World) (G:Nat→Int) (hs:W.cell? ⟨Bs,1,none⟩=some (.slice (some ⟨blk,off,none⟩) size c))
    (hc:∀ t,t<size→W.cell? ⟨blk,off+t*2,none⟩=some (.int .i64 (G t))) (i j:Nat) (hi:i<size) (hj:j<size) (_hsz:size<4611686018427387904) :
    Calls Tryz.prog 90 #[.int .i64 i,.int .i64 j,.pointer (some ⟨Bs,0,none⟩)] W fun e w'=>e=.returned (.bool (decide (G i<G j)))∧∃ q,w'=W.drewN q:=by
  have ci:=hc i hi
  have cj:=hc j hj
  go_enter Tryz.func90,Tryz.ntmps90
  go_wp2
  go_quiet (fail)
  go_wp2
  go_ret
  exact ⟨rfl,nq,rfl⟩
theorem rel_flat {σ:List Value} {w:World} {F:Nat→Prop}:∀ (xs:List Keyed) (flat:List Value),RelL σ w F (xs.map Qka).flatten flat→flat=(xs.map encV).flatten
  | [],flat,h=>List.eq_nil_of_length_eq_zero h.1
  | x :: xs,flat,h=>by
    match flat,h with
    | [],h=>exact absurd h.1 (by simp [Qka])
    | [a],h=>exact absurd h.1 (by simp [Qka])
    | a::b::r,h =>
      have h1:Rel σ w F (.int .i64 x.Key) a:=h.2 0 _ a rfl rfl
      have h2:Rel σ w F (.int .i64 x.N) b:=h.2 1 _ b rfl rfl
      have h3:=rel_flat xs r ⟨by have:=h.1;simp [Qka] at this ⊢;omega,fun j y v hy hv=>h.2 (j+2) y v (by simpa [Qka] using hy) (by simpa using hv)⟩
      cases h1;cases h2
      rw [h3];rfl
theorem flatv_rel {σ:List Value} {w:World} {F:Nat→Prop}:∀ (xs:List Keyed),RelL σ w F (xs.map Qka).flatten (xs.map encV).flatten
  | []=>.nil
  | x::xs=>.cons (.int _ _) (.cons (.int _ _) (flatv_rel xs))
theorem flat_get:∀ (xs:List Keyed) (t:Nat),t<xs.length*2→((xs.map encV).flatten)[t]?=some (encV xs[t / 2]!)[t % 2]!
  | [],t,h=>by simp at h
  | x::xs,0,h=>rfl
  | x::xs,1,h=>rfl
  | x::xs,t+2,h=>by
    have h1:=flat_get xs t (by simp at h;omega)
    have e1:(t+2) / 2=t / 2+1:=by omega
    have e2:(t+2) % 2=t % 2:=by omega
    rw [e1,e2]
    show ((xs.map encV).flatten)[t]?=_
    rw [h1];simp
theorem flatK_list (xs:List Keyed):(flatK encV 2 xs.toArray).toList=(xs.map encV).flatten:=by
  have hl:((xs.map encV).flatten).length=xs.length*2:=by
    induction xs with
    | nil=>rfl
    | cons x xs ih=>simp [encV] at ih ⊢;omega
  apply List.ext_getElem?
  intro t
  by_cases ht:t<xs.length*2
  · rw [flat_get xs t ht]
    have h2:t<(flatK encV 2 xs.toArray).size:=by simpa using ht
    have h3:=get_flatK encV 2 xs.toArray t (by simpa using ht)
    rw [getElem!_pos _ t h2] at h3
    rw [Array.getElem?_toList,Array.getElem?_eq_getElem h2,h3]
    simp
  · rw [List.getElem?_eq_none (by simp;omega),List.getElem?_eq_none (by rw [hl];omega)]
theorem sort_fn (p0 r:List Keyed) (p1 p2:Int) (h:sortK p0=some r):FnX Tryz.prog 89 [.ifc 82 (.ref 0),.func 90 [.ptr 1 0]] [.arr 97 2 (List.map Qka p0),.box [.int .i64 p1,.ref 0,.int .i64 p2]] (.tup []) [.arr 97 2 (List.map Qka r),.box [.int .i64 p1,.ref 0,.int .i64 p2]]:=by
  unfold sortK at h
  refine ⟨callable Tryz.func89 rfl (by kernel_rfl),fun w F σ vs hs hr=>?_⟩
  match vs,hr with
  | [v0, v1], hr =>
    have r0:Rel σ w F (.ifc 82 (.ref 0)) v0:=hr.2 0 _ v0 rfl rfl
    have r1:Rel σ w F (.func 90 [.ptr 1 0]) v1:=hr.2 1 _ v1 rfl rfl
    cases r0 with
    | ifc _ _ v r0 =>
    cases r0 with
    | ref _ A q cp hσ0 =>
    cases r1 with
    | func _ _ lb hl hc =>
    match lb,hl,hc with
    | [b0], hl, hc =>
      have rb:Rel σ w F (.ptr 1 0) b0:=hc 0 _ _ rfl rfl
      cases rb with
      | ptr _ _ gb hσ1 =>
      obtain ⟨gb',us,ty,e1,hgb,hbr,hb1,hFb⟩:=hs.obj 1 _ _ rfl hσ1
      cases e1
      obtain ⟨hq,flat,hown,hfl,hcase⟩:=Jfb hs (id:=0) rfl hσ0
      rw [List.length_map] at hq
      subst hq
      have grown:∀ (W:World) (os:Array Obj) (b:Nat),b<W.heap.size→(Sort.grow W os).heap[b]?=W.heap[b]?:=fun W os b hb=>by
        show (W.heap++os)[b]?=_
        rw [Array.getElem?_append_left hb]
      split at h
      · rename_i h1
        cases h
        have tiny:∀ (n:Nat),n≤1→Calls Tryz.prog 89 #[.iface 82 (.slice A n cp),.func (.func 90) #[] #[.pointer (some ⟨gb,0,none⟩)]] w fun e w'=>e=.returned (.tuple #[])∧∃ os,w'=Sort.grow w os:=by
          intro n hn
          match n,hn with
          | 0,hn=>exact Any.sort_Slice_tiny sLay 82 97 svT svE (by kernel_rfl) (by kernel_rfl) (by kernel_rfl) (by kernel_rfl) 25 (fun _=>by kernel_rfl) A 0 cp hn 113 (by kernel_rfl) _ _ _ w
          | 1,hn=>exact Any.sort_Slice_tiny sLay 82 97 svT svE (by kernel_rfl) (by kernel_rfl) (by kernel_rfl) (by kernel_rfl) 25 (fun _=>by kernel_rfl) A 1 cp hn 114 (by kernel_rfl) _ _ _ w
        refine (tiny p0.length h1).mono ?_
        rintro e w' ⟨rfl,os,rfl⟩
        exact ⟨_,_,_,σ,F,rfl,⟨rfl,rfl⟩,hs.grow (fun _ h=>h) (fun _ h=>.inl h) (fun b hb=>by have:=hs.lt b hb;rw [size_grow];omega) (grown w os),Jcb,.grow (fun _ h=>h) (fun _ h=>.inl h) rfl rfl rfl (by rw [size_grow];omega) (grown w os)⟩
      · rename_i h1
        have h2:2≤p0.length:=by omega
        split at h
        · rename_i h12
          cases h
          rcases hcase with hcase | ⟨ga,cur,rfl,hFa,hga,hnc,hcm,hsz,htk⟩
          · have:p0=[]:=List.map_eq_nil_iff.1 hcase
            subst this;simp at h2
          · have hflat:=rel_flat p0 flat hfl.2.2
            have hds:p0.toArray.size=p0.length:=by simp
            have hga':ga<w.heap.size:=(Array.getElem?_eq_some_iff.1 hga).1
            have hgb':gb<w.heap.size:=(Array.getElem?_eq_some_iff.1 hgb).1
            have hne:gb≠ga:=by
              rintro rfl
              exact hs.sep 0 1 _ _ _ _ gb (by decide) rfl rfl rfl rfl hσ0 hσ1 rfl rfl
            have hcurn:p0.length*2≤cur.size:=by rw [hsz];exact Nat.mul_le_mul_right _ hnc
            have hH:HoldsK encV 2 w ga 0 p0.toArray:=by
              intro j hj
              have hj2:j<p0.length*2:=by simpa using hj
              refine ⟨?_,by simp [World.frozen?,hga]⟩
              have hc1:cur.toList[j]?=((p0.map encV).flatten)[j]?:=by rw [← hflat,← htk,List.getElem?_take,if_pos hj2]
              rw [Nat.zero_add,cell_of_row w ga j cur 97 (0,0) hga,← Array.getElem?_toList,hc1,← flatK_list,Array.getElem?_toList,Array.getElem?_eq_getElem hj,getElem!_pos _ j hj]
              rfl
            have hbc:w.cell? ⟨gb,1,none⟩=some (.slice (some ⟨ga,0,none⟩) p0.length cp):=by
              obtain ⟨u,hu,hru⟩:=hbr.get (j:=1) (a:=.ref 0) rfl
              cases hru with
              | ref _ a1 n1 c1 hσ2 =>
                rw [hσ0] at hσ2
                cases hσ2
                rw [cell_of_row w gb 1 us ty (0,0) hgb,← Array.getElem?_toList]
                exact hu
            have hless:LessReadsK Tryz.prog 90 #[.pointer (some ⟨gb,0,none⟩)] encV 2 ltK ga 0 p0.toArray.size w:=by
              intro m os dk hdk i j hi hj
              have e:sortWorldK encV 2 w ga 0 m dk os=putRowK encV 2 (Sort.grow (Sort.ahead w m) os) ga 0 dk:=by
                unfold sortWorldK;rw [putRowK_grow _ _ (Sort.ahead w m) _ ga 0 _ hga']
              have hHg:HoldsK encV 2 (Sort.grow (Sort.ahead w m) os) ga 0 p0.toArray:=holdsK_grow _ _ _ _ ga 0 p0.toArray hga' (holdsK_ahead _ _ _ _ _ _ _ hH)
              refine less_k ga 0 cp gb p0.toArray.size _ (fun t=>dk[t]!.Key) ?_ (fun t ht=>?_) i j hi hj (by omega)
              · rw [e,cell?_putRowK_other _ _ _ ga 0 dk _ (by show gb≠ga;exact hne),cell?_grow _ _ _ (by show gb<w.heap.size;exact hgb'),hds]
                exact hbc
              · rw [e];exact ((holdsK_putRowK _ _ _ ga 0 p0.toArray dk hHg hdk).cell (i:=t) (c:=0) (by omega) (by omega)).1
            have hS:=Any.sort_Slice_small_cells sLay 82 97 svT svE (by kernel_rfl) (by kernel_rfl) (by kernel_rfl) (by kernel_rfl) 25 (fun _=>by kernel_rfl) encV 2 (fun _=>rfl) (by kernel_rfl) (fun _=>by kernel_rfl)
              (fun x v hv=>by simp [encV] at hv;rcases hv with rfl | rfl<;>rfl) ltK 90 #[.pointer (some ⟨gb,0,none⟩)]
              (enters_of Tryz.func90 (by kernel_rfl) rfl) ga 0 cp p0.toArray (by rw [hds];exact h2) (by rw [hds];exact h12) 121 (by rw [svK _ (by rw [hds];exact h2)];kernel_rfl) false
              (fun args W=>run_callFunc_extern Tryz.func121 (by kernel_rfl) (by kernel_rfl) (by kernel_rfl) (e:=Extern.ReflectliteSwapper.swap false) (by kernel_rfl) args W) w hless hH hga'
            change Calls Tryz.prog 89 _ _ _ at hS
            have hDs:(Sort.insertionSort ltK p0.toArray 0 p0.toArray.size).size=p0.length:=by
              have:=(insertionSort_holds swoK p0.toArray 0 p0.toArray.size (Nat.zero_le _) (Nat.le_refl _)).1.1
              rw [this];exact hds
            generalize hD:Sort.insertionSort ltK p0.toArray 0 p0.toArray.size=D at hS hDs
            rw [hds] at hS
            refine hS.mono ?_
            rintro e w' ⟨rfl,n,os,rfl⟩
            have hDl:(List.map Qka D.toList).length=p0.length:=by rw [List.length_map,Array.length_toList (xs:=D),hDs]
            have hFs:(flatK encV 2 D).size=p0.length*2:=by simp [hDs]
            have hFl:(flatK encV 2 D).toList=(D.toList.map encV).flatten:=by
              have:=flatK_list D.toList
              rwa [Array.toArray_toList] at this
            have hW1:(putRowK encV 2 (Sort.ahead w n) ga 0 D).heap[ga]?=some (.cells (putCells id 0 (flatK encV 2 D) cur) 97 (0,0)):=by
              simp [putRowK,putRow,mapBlock,Array.getElem?_modify,Sort.ahead,hga,onCells]
            have hW1o:∀ b,b≠ga→(putRowK encV 2 (Sort.ahead w n) ga 0 D).heap[b]?=w.heap[b]?:=fun b hb=>by
              have:¬ ga=b:=fun e=>hb e.symm
              simp [putRowK,putRow,mapBlock,Array.getElem?_modify,Sort.ahead,this]
            have hW1s:(putRowK encV 2 (Sort.ahead w n) ga 0 D).heap.size=w.heap.size:=by simp [putRowK,Sort.ahead]
            have hORel:ORel σ (putRowK encV 2 (Sort.ahead w n) ga 0 D) F (.arr 97 2 (List.map Qka D.toList)) (.slice (some ⟨ga,0,none⟩) p0.length cp):=by
              refine ⟨(D.toList.map encV).flatten,⟨?_,.inr ⟨ga,cp,_,by rw [hDl],Nat.zero_le _,hW1,by rw [hDl];exact hnc,hcm,by simp [putCells,hsz],?_⟩⟩,⟨fun row hr=>?_,fun u hu=>?_,flatv_rel _⟩,fun g2 hg2=>?_,_,_,_,rfl⟩
              · rw [← hFl,Array.length_toList (xs:=flatK encV 2 D),hFs,hDl]
              · rw [← hFl,hDl]
                apply List.ext_getElem?
                intro k
                rw [List.getElem?_take]
                by_cases hk:k<p0.length*2
                · rw [if_pos hk,Array.getElem?_toList,Array.getElem?_toList]
                  simp only [putCells,Array.getElem?_mapIdx]
                  rw [Array.getElem?_eq_getElem (show k<cur.size by omega),Option.map_some,if_pos ⟨Nat.zero_le _,by omega⟩,Array.getElem?_eq_getElem (show k<(flatK encV 2 D).size by omega),Nat.sub_zero,getElem!_pos _ k (by omega)]
                  rfl
                · rw [if_neg hk,List.getElem?_eq_none (by rw [Array.length_toList,hFs];omega)]
              · obtain ⟨a,_,rfl⟩:=List.mem_map.1 hr;rfl
              · obtain ⟨row,hrow,hu⟩:=List.mem_flatten.1 hu
                obtain ⟨a,_,rfl⟩:=List.mem_map.1 hrow
                simp [encV] at hu;rcases hu with rfl | rfl<;>rfl
              · simp [Value.ownBlock] at hg2;subst hg2;exact hFa
            have s1:=hs.write (b0:=ga) 0 rfl rfl hσ0 rfl hW1o hW1s (.arr 97 2 (List.map Qka D.toList)) hORel (fun _ h=>h)
            have m1:Mv [.arr 97 2 (List.map Qka p0),.box [.int .i64 p1,.ref 0,.int .i64 p2]] σ w F ([.arr 97 2 (List.map Qka p0),.box [.int .i64 p1,.ref 0,.int .i64 p2]].set 0 (.arr 97 2 (List.map Qka D.toList))) σ (putRowK encV 2 (Sort.ahead w n) ga 0 D) F:=Mv.write (aw:=[.arr 97 2 (List.map Qka p0),.box [.int .i64 p1,.ref 0,.int .i64 p2]]) (w:=w) (w':=putRowK encV 2 (Sort.ahead w n) ga 0 D) (F:=F) (b0:=ga) (o:=.arr 97 2 (List.map Qka p0)) 0 rfl rfl hσ0 rfl rfl rfl rfl hW1o hW1s (.arr 97 2 (List.map Qka D.toList)) (fun _ h=>h)
            exact ⟨_,_,_,σ,F,rfl,⟨rfl,rfl⟩,s1.grow (fun _ h=>h) (fun _ h=>.inl h) (fun b hb=>by have:=s1.lt b hb;rw [size_grow];omega) (grown _ os),Jcb,m1.trans (.grow (fun _ h=>h) (fun _ h=>.inl h) rfl rfl rfl (by rw [size_grow];omega) (grown _ os))⟩
        · cases h
end Go.Proofs.YtfbmoockopakjaaGreat
namespace Go.Proofs.YtfbmoockopakjaaGreat
open Go.RowKit
set_option linter.unusedVariables false
set_option linter.unusedSimpArgs false
set_option maxRecDepth 100000
set_option maxHeartbeats 4000000
set_option synthInstance.maxSize 100000
set_option synthInstance.maxHeartbeats 4000000
theorem crossref_OwnState_c (p0:State) (r:State × (List (Bool × List Item))) (h:Yxa p0=some r):FnO Tryz.prog 23 [.agg (Qra p0)] (.agg [.ref 0,.ref 1,.ref 3,.ref 4,.ref 5]) [aR 3 1 encI r.1.At,.hd 29 2,.cl 72 3 (cL Qaa r.2),aR 84 3 Qca r.1.Memory,aR 77 2 Qba r.1.Choices,aR 72 3 Qaa r.1.Out]:=by
  unfold Yxa at h
  refine fnT 0 Tryz.func23 Tryz.ntmps23 ?_
  refine T.seq (T.region (go 2 0 (RS.nil (T.seq ?_))))
  obtain ⟨x4,hx4,h⟩:=bind_some h
  obtain ⟨x5,hx5,h⟩:=bind_some h
  obtain ⟨x6,hx6,h⟩:=bind_some h
  refine T.drawn mixed (k:=12) rfl ?_
  apply RA.jn 1 #[true,true,true,true,true,true,true,true,true,true,true,false];intro hS1
  apply RA.jn 3 #[true,true,true,true,true,true,true,true,false,false,true,false];intro hS2
  apply RA.jn 4 #[true,true,true,true,true,false,true,true,false,false,true,false];intro hS3
  apply RA.jn 4 #[true,true,true,true,true,true,true,true,false,false,false,false];intro hS4
  apply RA.jn 5 #[true,true,true,true,true,false,true,false,false,false,true,false];intro hS5
  apply RA.jn 5 #[true,true,false,true,true,false,true,true,false,false,true,false];intro hS6
  apply RA.jn 5 #[true,true,true,true,true,false,true,true,false,false,false,false];intro hS7
  apply RA.jn 6 #[true,true,true,true,true,false,true,false,false,false,false,false];intro hS8
  apply RA.jn 6 #[true,true,false,true,true,false,true,false,false,false,true,false];intro hS9
  apply RA.jn 6 #[true,true,false,true,false,false,true,true,false,false,true,false];intro hS10
  apply RA.jn 6 #[true,true,false,true,true,false,true,true,false,false,false,false];intro hS11
  ·refine rq [0,3,6] 9 (rL [1,2,5,8,9,11] 1 rfl (ra4 2 4 7 10 ?_ ?_ ?_ ?_))
   ·refine oO rfl (cO 2 (Zga p0.At x4 hx4) ⟨rfl,(rL [4,5,8,9,11] 4 rfl ?_)⟩)
    exact raE hS8
   ·refine og 2 ⟨rfl,(ra3 2 7 10 ?_ ?_ ?_)⟩
    ·refine oO rfl (cO 2 (Zga p0.At x4 hx4) ⟨rfl,?_⟩)
     exact raT hS8
    ·refine og 2 ⟨rfl,?_⟩
     exact raE hS11
    ·refine og 2 ⟨rfl,?_⟩
     exact raE hS9
   ·refine og 2 ⟨rfl,(ra3 2 4 10 ?_ ?_ ?_)⟩
    ·refine oO rfl (cO 2 (Zga p0.At x4 hx4) ⟨rfl,(rL [4,5,8,9,11] 4 rfl ?_)⟩)
     exact raE hS7
    ·refine og 2 ⟨rfl,?_⟩
     exact raT hS11
    ·refine og 2 ⟨rfl,?_⟩
     exact raE hS10
   ·refine og 2 ⟨rfl,(ra3 2 4 7 ?_ ?_ ?_)⟩
    ·refine oO rfl (cO 3 (Zga p0.At x4 hx4) ⟨rfl,(rL [4,5,8,9,11] 4 rfl ?_)⟩)
     exact raE hS5
    ·refine og 3 ⟨rfl,?_⟩
     exact raT hS9
    ·refine og 3 ⟨rfl,?_⟩
     exact raT hS10
  ·refine ra2 2 10 ?_ ?_
   ·refine oO rfl (cO 2 (Zga p0.At x4 hx4) ⟨rfl,?_⟩)
    exact raT hS7
   ·refine og 2 ⟨rfl,?_⟩
    exact raE hS6
  ·refine ra2 2 4 ?_ ?_
   ·refine oO rfl (cO 3 (Zga p0.At x4 hx4) ⟨rfl,(ra1 4 (og 4 ⟨rfl,?_⟩))⟩)
    exact raE hS3
   ·refine og 3 ⟨rfl,?_⟩
    exact raT hS6
  ·refine ra2 2 7 ?_ ?_
   ·refine oO rfl (cO 3 (Zga p0.At x4 hx4) ⟨rfl,?_⟩)
    exact raT hS5
   ·refine og 3 ⟨rfl,?_⟩
    exact raT hS6
  ·refine ra3 5 7 10 ?_ ?_ ?_
   ·refine oO rfl (cO 3 (Vva p0.Choices x5 hx5) ⟨rfl,(rL [7,8,9,11] 7 rfl ?_)⟩)
    exact raE hS4
   ·refine og 3 ⟨rfl,?_⟩
    exact raT hS7
   ·refine og 3 ⟨rfl,?_⟩
    exact raV hS5 [0,1,3,2] rfl
  ·refine ra2 5 10 ?_ ?_
   ·refine oO rfl (cO 3 (Vva p0.Choices x5 hx5) ⟨rfl,?_⟩)
    exact raT hS4
   ·refine og 3 ⟨rfl,?_⟩
    exact raV hS3 [0,1,3,2] rfl
  ·refine ra1 2 (oO rfl (cO 3 (Zga p0.At x4 hx4) ⟨rfl,?_⟩))
   exact raT hS3
  ·refine ra2 5 7 ?_ ?_
   ·refine oO rfl (cO 4 (Vva p0.Choices x5 hx5) ⟨rfl,(ra1 7 (og 5 ⟨rfl,?_⟩))⟩)
    exact raE hS2
   ·refine og 4 ⟨rfl,?_⟩
    exact raT hS3
  ·refine ra2 8 10 ?_ ?_
   ·refine oO rfl (cO 4 (Jga p0.Out x6 hx6) ⟨rfl,(rq [9] 2 (ra1 10 (og 5 ⟨rfl,?_⟩)))⟩)
    exact raE hS1
   ·refine og 4 ⟨rfl,?_⟩
    exact raV hS2 [0,1,4,2,3] rfl
  ·refine ra1 5 (oO rfl (cO 4 (Vva p0.Choices x5 hx5) ⟨rfl,?_⟩))
   exact raT hS2
  ·refine ra1 8 (oO rfl (cO 5 (Jga p0.Out x6 hx6) ⟨rfl,(rq [9] 1 ?_)⟩))
   exact raV hS1 [0,1,3,4,5,2] rfl
  refine ra1 11 (og 6 ⟨rfl,(RA.done (by decide +kernel) (T.seq (T.seq (T.region (go 2 6 (sQ (Qfa Ty.s25 rfl (go 1 6 (RS.nil ?_)))))))))⟩)
  refine T.block (T.nilB 5 1 29 1 (cs:=[.ref 2,.nils,.nils,.ref 3,.ref 4]) rfl rfl (cs':=[.ref 2,.ref 6,.nils,.ref 3,.ref 4]) rfl rfl (T.mkhd 6 72 3 Qaa rfl rfl rfl (T.iter (fun ss_18:Int × (List (Bool × List Item))=>mkA 52 [(1,.ptr 0 0),(2,.ptr 1 0),(3,.ptr 2 0),(19,sL (encL Qaa) p0.Rings),(20,iI ((p0.Rings).length:Int)),(21,iI ss_18.1)]) (fun ss_18=>[.box (Qra p0),.box [.nils,.nils,.nils,.nils,.nils],.box [.ref 3,.ref 4,.nils,.ref 5,.ref 6],aR 3 1 encI x4,.hd 29 7,aR 77 2 Qba x5,aR 72 3 Qaa x6,.cl 72 3 (cL Qaa ss_18.2)]) h (Weak.mkN [] [0,1,5,2,6,3,4,7] (by decide) (Qla _) rfl ⟨Qqa rfl,Qqa rfl,Qqa rfl,rn_s rfl,Qga rfl,Qga rfl,trivial⟩ (rw_bs (Qra p0) rfl (rw_bs [.nils,.nils,.nils,.nils,.nils] rfl (Jsa (cs:=[.ref 3,.ref 4,.nils,.ref 5,.ref 6]) (ds:=[.ref 2,.ref 6,.nils,.ref 3,.ref 4]) rfl ⟨Qza rfl,Qza rfl,Y1a pure_nils,Qza rfl,Qza rfl,trivial⟩ (rw_ar rfl rfl (rw_hd rfl rfl (rw_ar rfl rfl (rw_ar rfl rfl (rw_cl (en:=Qaa) (ys:=([]:List (Bool × List Item))) rfl rfl (Qxa)))))))))) (fun ss_18 v_19 h hv_19=>?_))))
  obtain ⟨s7,s8⟩:=ss_18
  replace h:Zaa p0 x4 x5 x6 s7 s8=some v_19:=h
  try dsimp only
  unfold Zaa at h
  refine T.seq (T.region (go 1 8 (RS.nil (T.seq (T.ci h rfl (fun hb_20 h=>?_) (fun hb_20 h=>?_))))))
  ·refine T.skip (T.seq (T.block (T.seq ?_)))
   obtain ⟨x10,hx10,h⟩:=bind_some h
   refine T.region (sQ (Qda Ty.s25 (fun _=>rfl) rfl rfl hx10 (go 2 8 (RS.nil ?_))))
   obtain ⟨x11,hx11,h⟩:=bind_some h
   obtain ⟨x12,hx12,h⟩:=bind_some h
   refine T.drawn mixed (k:=8) rfl ?_
   apply RA.jn 4 #[true,true,true,true,false,false,false,false];intro hS21
   ·refine rq [0,2] 6 (ra2 1 3 ?_ ?_)
    ·refine og 8 ⟨rfl,(ra1 3 (oO rfl (cO 8 (Jga x10 x11 hx11) ⟨rfl,?_⟩)))⟩
     exact raE hS21
    ·refine oO rfl (cO 8 (Jga x10 x11 hx11) ⟨rfl,(rL [1,5,6,7] 1 rfl ?_)⟩)
     exact raT hS21
   refine ra1 4 (oO rfl (o_bd_hd (en:=Qaa) (xs:=x11) Ty.s25 rfl (fun _=>rfl) rfl rfl rfl rfl (ra1 5 (oO rfl (o_ap_hd (en:=Qaa) (xs:=s8) (ys:=([(false,x11)]:List (Bool × List Item))) Ty.s25 rfl rfl rfl rfl rfl rfl rfl rfl hx12 rfl rfl rfl (rq [6] 1 (ra1 7 (og 13 ⟨rfl,(RA.done (by decide +kernel) (T.region (go 2 13 ?_)))⟩))))))))
   refine RS.nil ?_
   exact ⟨(IntKind.i64.wrap (s7+1),x12),(Option.some.inj h).symm,Weak.mkN [] [0,1,2,3,11,5,6,12] (by decide) (Qla _) rfl ⟨Qqa rfl,Qqa rfl,Qqa rfl,rn_s rfl,Qga rfl,Qga rfl,trivial⟩ (rw_bs (Qra p0) rfl (rw_bs [.nils,.nils,.nils,.nils,.nils] rfl (Jsa (cs:=[.ref 3,.ref 4,.nils,.ref 5,.ref 6]) (ds:=[.ref 3,.ref 11,.nils,.ref 5,.ref 6]) rfl ⟨Qza rfl,Qza rfl,Y1a pure_nils,Qza rfl,Qza rfl,trivial⟩ (rw_ar rfl rfl (rw_hd rfl rfl (rw_ar rfl rfl (rw_ar rfl rfl (rw_cl (en:=Qaa) (ys:=x12) rfl rfl (Qxa)))))))))⟩
  refine T.exit ?_
  obtain ⟨w_22,h,hw_22⟩:=Qsa h
  replace h:=h.trans (congrArg some (hv_19 _ hw_22))
  refine T.seq (T.seq (T.region (go 2 8 (sQ (Qfa Ty.s27 rfl (go 1 8 (RS.nil (T.block (T.nilB 2 2 84 3 (cs:=[.ref 3,.ref 4,.nils,.ref 5,.ref 6]) rfl rfl (cs':=[.ref 3,.ref 4,.ref 8,.ref 5,.ref 6]) rfl rfl (T.iter (fun ss_26:Int × (List Memory)=>mkA 52 [(2,.ptr 0 0),(3,.ptr 1 0),(34,sL Qca p0.Memory),(35,iI ((p0.Memory).length:Int)),(36,iI ss_26.1)]) (fun ss_26=>[.box [.nils,.nils,.nils,.nils,.nils],.box [.ref 2,.ref 3,.ref 4,.ref 5,.ref 6],aR 3 1 encI x4,.hd 29 7,aR 84 3 Qca ss_26.2,aR 77 2 Qba x5,aR 72 3 Qaa x6,.cl 72 3 (cL Qaa s8)]) h (Weak.mkN [] [1,2,3,4,8,5,6,7] (by decide) (Qla _) rfl ⟨Qqa rfl,Qqa rfl,rn_s rfl,Qga rfl,Qga rfl,trivial⟩ (rw_bs [.nils,.nils,.nils,.nils,.nils] rfl (Jsa (cs:=[.ref 2,.ref 3,.ref 4,.ref 5,.ref 6]) (ds:=[.ref 3,.ref 4,.ref 8,.ref 5,.ref 6]) rfl ⟨Qza rfl,Qza rfl,Qza rfl,Qza rfl,Qza rfl,trivial⟩ (rw_ar rfl rfl (rw_hd rfl rfl (rw_ar rfl rfl (rw_ar rfl rfl (rw_ar rfl rfl (rw_cl (en:=Qaa) (ys:=s8) rfl rfl (Qxa)))))))))) (fun ss_26 v_27 h hv_27=>?_)))))))))))
  obtain ⟨s13,s14⟩:=ss_26
  replace h:Zba p0 x4 x5 x6 s8 s13 s14=some v_27:=h
  try dsimp only
  unfold Zba at h
  refine T.seq (T.region (go 1 8 (RS.nil (T.seq (T.ci h rfl (fun hb_28 h=>?_) (fun hb_28 h=>?_))))))
  ·refine T.skip (T.seq (T.block (T.seq ?_)))
   obtain ⟨x16,hx16,h⟩:=bind_some h
   refine T.region (sQ (Qda Ty.s27 (fun _=>rfl) rfl rfl hx16 (go 3 8 (RS.nil (T.seq ?_)))))
   obtain ⟨x18,hx18,h⟩:=bind_some h
   refine T.region (go 2 9 (sO (cO 9 (slices_Clone_Keyed_c x16.Keys x18 hx18) ⟨rfl,(go 2 10 (RS.nil ?_))⟩)))
   obtain ⟨x19,hx19,h⟩:=bind_some h
   refine T.region (go 3 10 (RS.fC 9 (sO (Qva (rows:=List.map Qca [(⟨x16.Sum,x18,x16.Dep⟩:Memory)]) (vs:=[.agg [iI x16.Sum,sL Qka x18,iI x16.Dep]]) Ty.s27 Ty.z84 rfl rfl rfl rfl rfl rfl (sO (J5a (en:=Qca) (xs:=s14) (ys:=([(⟨x16.Sum,x18,x16.Dep⟩:Memory)]:List Memory)) Ty.s27 (fun _=>rfl) rfl rfl rfl hx19 rfl rfl (go 2 12 (RS.nil (T.region (go 2 12 (RS.nil ?_)))))))))))
   exact ⟨(IntKind.i64.wrap (s13+1),x19),(Option.some.inj h).symm,Weak.mkN [] [0,1,2,3,11,5,6,7] (by decide) (Qla _) rfl ⟨Qqa rfl,Qqa rfl,rn_s rfl,Qga rfl,Qga rfl,trivial⟩ (rw_bs [.nils,.nils,.nils,.nils,.nils] rfl (Jsa (cs:=[.ref 2,.ref 3,.ref 4,.ref 5,.ref 6]) (ds:=[.ref 2,.ref 3,.ref 11,.ref 5,.ref 6]) rfl ⟨Qza rfl,Qza rfl,Qza rfl,Qza rfl,Qza rfl,trivial⟩ (rw_ar rfl rfl (rw_hd rfl rfl (rw_ar rfl rfl (rw_ar rfl rfl (rw_ar rfl rfl (rw_cl (en:=Qaa) (ys:=s8) rfl rfl (Qxa)))))))))⟩
  refine T.exit ?_
  obtain ⟨w_29,h,hw_29⟩:=Qsa h
  replace h:=h.trans (congrArg some (hv_27 _ hw_29))
  refine T.seq (T.region (go 2 8 (RS.nil (T.rt (res_cellA (id:=0) (off:=0) (cs:=[.ref 2,.ref 3,.ref 4,.ref 5,.ref 6]) (v:=.agg [.ref 2,.ref 3,.ref 4,.ref 5,.ref 6]) ?_ ?_ ?_ ?_)))))
  · rfl
  · rfl
  · exact fun K h=>(Ywa (row:=[.ref 2,.ref 3,.ref 4,.ref 5,.ref 6]) (off:=0) Ty.k31 Ty.c31 rfl (cs:=[.ref 2,.ref 3,.ref 4,.ref 5,.ref 6]) rfl h)
  refine Yla ?_
  exact Q5b (.agg [.ref 0,.ref 1,.ref 3,.ref 4,.ref 5]) [] [2,3,7,4,5,6] (by decide) (Qla _) rfl (rn_agg ⟨Qza rfl,Qza rfl,Qza rfl,Qza rfl,Qza rfl,trivial⟩) (Z2a rfl Yga (congrArg (fun r:State × (List (Bool × List Item))=>r.1.At) (Option.some.inj h)).symm (rw_hd rfl rfl (rw_cl (en:=Qaa) (ys:=s8) rfl ((congrArg (fun r:State × (List (Bool × List Item))=>r.2) (Option.some.inj h)).symm) (Z2a rfl Q9a (congrArg (fun r:State × (List (Bool × List Item))=>r.1.Memory) (Option.some.inj h)).symm (Z2a rfl Q5a (congrArg (fun r:State × (List (Bool × List Item))=>r.1.Choices) (Option.some.inj h)).symm (Z2a rfl Q0a (congrArg (fun r:State × (List (Bool × List Item))=>r.1.Out) (Option.some.inj h)).symm (Qxa))))))) ⟨rfl,rfl⟩
theorem crossref_Lane_c (p0:Item) (p1:Int) (r:Int) (h:crossref_Lane p0 p1=some r):Fn Tryz.prog 61 [.agg (Qaa p0),iI p1] (iI r):=by
  unfold crossref_Lane at h
  refine fnT 0 Tryz.func61 Tryz.ntmps61 ?_
  refine T.seq (T.region (go 2 0 (RS.nil (T.seq ?_))))
  obtain ⟨x2,hx2,h⟩:=bind_some h
  refine T.region (go 3 1 (sQ (v_rem rfl rfl hx2 (go 1 1 (RS.nil (T.seq (T.seq (T.region (go 2 1 (RS.nil ?_))))))))))
  refine T.ci h rfl (fun hb_1 h=>?_) (fun hb_1 h=>?_)
  ·refine T.region (go 4 1 (RS.nil (T.seq (T.region (go 2 1 (RS.nil ?_))))))
   cases h
   exact tD
  refine T.skip (T.seq (T.region (go 2 1 (RS.nil ?_))))
  cases h
  exact tD
theorem sort_Slice_K_c (p0:List Keyed) (p1 p2:Int) (r:List Keyed) (h:sort_Slice_K p0 p1 p2=some r):FnX Tryz.prog 89 [.ifc 82 (.ref 0),.func 90 [.ptr 1 0]] [aR 97 2 Qka p0,.box [iI p1,.ref 0,iI p2]] (.tup []) [aR 97 2 Qka r,.box [iI p1,.ref 0,iI p2]]:=sort_fn p0 r p1 p2 h
theorem crossref_Make_c (p0:Int) (p1:Int) (p2:Memory) (p3:Item) (r:Memory × Item × Int) (h:Qcb p0 p1 p2 p3=some r):Fn Tryz.prog 62 [iI p0,iI p1,.agg (Qca p2),.agg (Qaa p3)] (.tup [.agg (Qca r.1),.agg (Qaa r.2.1),iI r.2.2]):=by
  unfold Qcb at h
  refine fnT 0 Tryz.func62 Tryz.ntmps62 ?_
  refine T.seq (T.region (go 5 0 (RS.nil (T.seq ?_))))
  obtain ⟨x2,hx2,h⟩:=bind_some h
  refine T.region (go 2 4 (sO (o_app_nil' (en:=Qka) (ys:=p2.Keys) Ty.s82 (fun _=>rfl) rfl rfl hx2 rfl rfl (go 2 5 (RS.nil (T.seq (T.seq (T.region (go 1 5 (RS.nil ?_))))))))))
  refine T.block (T.seq (T.region (go 2 5 (RS.nil (T.ci h rfl (fun hb_1 h=>?_) (fun hb_1 h=>?_))))))
  ·refine T.seq (T.region (go 1 5 (RS.nil (T.block (T.seq (T.region (go 2 5 (RS.nil (T.ci h rfl (fun hb_2 h=>?_) (fun hb_2 h=>?_))))))))))
   ·refine T.region (go 5 5 (RS.nil (T.seq (T.drawn mixed (k:=5) rfl ?_))))
    apply RA.jn 2 #[true,true,true,false,false];intro hS3
    ·refine rL [0,2,3,4] 0 rfl (ra2 1 2 ?_ ?_)
     ·refine og 5 ⟨rfl,(ra1 2 (og 5 ⟨rfl,?_⟩))⟩
      exact raE hS3
     ·refine og 5 ⟨rfl,(ra1 1 (og 5 ⟨rfl,?_⟩))⟩
      exact raT hS3
    refine ra1 3 (og 5 ⟨rfl,(rq [4] 0 (RA.done (by decide +kernel) ?_))⟩)
    cases h
    exact tD
   refine T.seq (T.region (go 2 5 (RS.nil (T.ci h rfl (fun hb_4 h=>?_) (fun hb_4 h=>?_)))))
   ·refine T.region (go 7 5 (RS.nil (T.seq (T.drawn mixed (k:=5) rfl ?_))))
    apply RA.jn 2 #[true,true,true,false,false];intro hS5
    ·refine rL [0,2,3,4] 0 rfl (ra2 1 2 ?_ ?_)
     ·refine og 5 ⟨rfl,(ra1 2 (og 5 ⟨rfl,?_⟩))⟩
      exact raE hS5
     ·refine og 5 ⟨rfl,(ra1 1 (og 5 ⟨rfl,?_⟩))⟩
      exact raT hS5
    refine ra1 3 (og 5 ⟨rfl,(rq [4] 0 (RA.done (by decide +kernel) ?_))⟩)
    cases h
    exact tD
   refine T.seq (T.region (go 2 5 (RS.nil (T.ci h rfl (fun hb_6 h=>?_) (fun hb_6 h=>?_)))))
   ·refine T.region (go 5 5 (RS.nil (T.seq (T.drawn mixed (k:=5) rfl ?_))))
    apply RA.jn 2 #[true,true,true,false,false];intro hS7
    ·refine rL [0,2,3,4] 0 rfl (ra2 1 2 ?_ ?_)
     ·refine og 5 ⟨rfl,(ra1 2 (og 5 ⟨rfl,?_⟩))⟩
      exact raE hS7
     ·refine og 5 ⟨rfl,(ra1 1 (og 5 ⟨rfl,?_⟩))⟩
      exact raT hS7
    refine ra1 3 (og 5 ⟨rfl,(rq [4] 0 (RA.done (by decide +kernel) ?_))⟩)
    cases h
    exact tD
   refine T.seq (T.region (go 2 5 (RS.nil (T.ci h rfl (fun hb_8 h=>?_) (fun hb_8 h=>?_)))))
   ·refine T.region (go 7 5 (RS.nil (T.seq (T.drawn mixed (k:=5) rfl ?_))))
    apply RA.jn 2 #[true,true,true,false,false];intro hS9
    ·refine rL [0,2,3,4] 0 rfl (ra2 1 2 ?_ ?_)
     ·refine og 5 ⟨rfl,(ra1 2 (og 5 ⟨rfl,?_⟩))⟩
      exact raE hS9
     ·refine og 5 ⟨rfl,(ra1 1 (og 5 ⟨rfl,?_⟩))⟩
      exact raT hS9
    refine ra1 3 (og 5 ⟨rfl,(rq [4] 0 (RA.done (by decide +kernel) ?_))⟩)
    cases h
    exact tD
   refine T.seq (T.region (go 5 5 (RS.nil ?_)))
   cases h
   exact tD
  refine T.seq (T.region (go 2 5 (RS.nil (T.ci h rfl (fun hb_10 h=>?_) (fun hb_10 h=>?_)))))
  ·refine T.seq (T.region (go 7 5 (RS.nil (T.seq (T.region (go 4 5 (RS.nil (T.seq (T.region ?_)))))))))
   refine go 7 5 (RS.nil (T.region (go 4 5 (RS.nil (T.seq (T.drawn mixed (k:=5) rfl ?_))))))
   apply RA.jn 2 #[true,true,true,false,false];intro hS11
   ·refine rL [0,2,3,4] 0 rfl (ra2 1 2 ?_ ?_)
    ·refine og 5 ⟨rfl,(ra1 2 (og 5 ⟨rfl,?_⟩))⟩
     exact raE hS11
    ·refine og 5 ⟨rfl,(ra1 1 (og 5 ⟨rfl,?_⟩))⟩
     exact raT hS11
   refine ra1 3 (og 5 ⟨rfl,(rq [4] 0 (RA.done (by decide +kernel) ?_))⟩)
   cases h
   exact tD
  refine T.seq (T.region (go 2 5 (RS.nil (T.ci h rfl (fun hb_12 h=>?_) (fun hb_12 h=>?_)))))
  ·refine T.seq (T.region (go 7 5 (RS.nil (T.seq (T.region (go 4 5 (RS.nil (T.seq (T.region ?_)))))))))
   refine go 1 5 (RS.nil (T.seq (T.seq (T.region (go 2 5 (sQ (Zfa (en:=Qka) Ty.s82 rfl rfl (go 1 5 (RS.nil (T.block ?_))))))))))
   refine T.iter (fun ss_17:Int × Int=>mkA 147 [(6,.ptr 0 0),(7,.ptr 1 0),(8,.ptr 2 0),(9,.ptr 3 0),(11,iI ss_17.1),(86,.ref 4),(87,iI ((x2).length:Int)),(88,iI ss_17.2)]) (fun ss_17=>[.box [iI p2.Sum,.ref 4,iI (if p3.Dep > p2.Dep then p3.Dep else p2.Dep)],.box [iI p3.Key,iI p3.Val,iI (if p3.Dep > p2.Dep then p3.Dep else p2.Dep)],.box [iI 0,.nils,iI 0],.box [iI 0,iI 0,iI 0],aR 97 2 Qka x2]) h (wk [] [0,1,2,3,4] 5 rfl) (fun ss_17 v_18 h hv_18=>?_)
   obtain ⟨s3,s4⟩:=ss_17
   replace h:Jqa p2 x2 p3 s3 s4=some v_18:=h
   try dsimp only
   unfold Jqa at h
   refine T.seq (T.region (go 1 5 (RS.nil (T.seq (T.ci h rfl (fun hb_19 h=>?_) (fun hb_19 h=>?_))))))
   ·refine T.skip (T.seq (T.block (T.seq ?_)))
    obtain ⟨x7,hx7,h⟩:=bind_some h
    obtain ⟨x8,hx8,h⟩:=bind_some h
    refine T.region (go 1 5 (sQ (Qoa (en:=Qka) Ty.s82 rfl rfl rfl hx7 (sO (Qwa (en:=Qka) (a:=x8) rfl rfl hx8 (Ywa Ty.k97 Ty.c97 rfl (cs:=(Qka x8)) rfl (go 3 5 (RS.nil (T.seq (T.region (go 5 6 (RS.nil ?_))))))))))))
    refine T.ci h rfl (fun hb_20 h=>?_) (fun hb_20 h=>?_)
    ·refine T.region (go 2 6 (RS.nil (T.region (go 2 6 (RS.nil ?_)))))
     exact ⟨(s4,IntKind.i64.wrap (s4+1)),(Option.some.inj h).symm,wk [] [0,1,2,3,4] 6 rfl⟩
    refine T.skip (T.region (go 2 6 (RS.nil ?_)))
    exact ⟨(s3,IntKind.i64.wrap (s4+1)),(Option.some.inj h).symm,wk [] [0,1,2,3,4] 6 rfl⟩
   refine T.exit ?_
   obtain ⟨w_21,h,hw_21⟩:=Qsa h
   replace h:=h.trans (congrArg some (hv_18 _ hw_21))
   refine T.seq (T.region (go 2 5 (RS.nil (T.block (T.seq (T.region (go 3 5 (RS.nil (T.ci h rfl (fun hb_22 h=>?_) (fun hb_22 h=>?_))))))))))
   ·refine T.seq ?_
    obtain ⟨x13,hx13,h⟩:=bind_some h
    obtain ⟨x14,hx14,h⟩:=bind_some h
    obtain ⟨x15,hx15,h⟩:=bind_some h
    obtain ⟨x16,hx16,h⟩:=bind_some h
    refine T.region (go 3 5 (sQ (Qoa (en:=Qka) Ty.s82 rfl rfl rfl hx13 (go 1 5 (sO (Qwa (en:=Qka) (a:=x14) rfl rfl hx14 (Jra Ty.k3 (c:=iI x14.N) rfl (go 1 5 (sQ (Qoa (en:=Qka) Ty.s82 rfl rfl rfl hx15 (go 1 5 (sO (J2a (en:=Qka) (a:=x16) (a':=(⟨x16.Key,IntKind.i64.wrap (x14.N+1)⟩:Keyed)) Ty.c3 Ty.i3 rfl (vs:=[iI (IntKind.i64.wrap (x14.N+1))]) rfl rfl rfl hx16 rfl rfl rfl (RS.nil ?_))))))))))))))
    obtain ⟨x17,hx17,h⟩:=bind_some h
    obtain ⟨x18,hx18,h⟩:=bind_some h
    refine T.region (go 3 5 (sQ (Qoa (en:=Qka) Ty.s82 rfl rfl rfl hx17 (go 1 5 (sO (Qwa (en:=Qka) (a:=x18) rfl rfl hx18 (Jra Ty.k3 (c:=iI x18.N) rfl (go 2 5 (RS.nil (T.seq (T.drawn mixed (k:=5) rfl ?_)))))))))))
    apply RA.jn 2 #[true,true,true,false,false];intro hS23
    ·refine rL [0,2,3,4] 0 rfl (ra2 1 2 ?_ ?_)
     ·refine og 5 ⟨rfl,(ra1 2 (og 5 ⟨rfl,?_⟩))⟩
      exact raE hS23
     ·refine og 5 ⟨rfl,(ra1 1 (og 5 ⟨rfl,?_⟩))⟩
      exact raT hS23
    refine ra1 3 (og 5 ⟨rfl,(rq [4] 0 (RA.done (by decide +kernel) ?_))⟩)
    cases h
    exact tD
   refine T.seq (T.region (go 2 5 (sQ (Zfa (en:=Qka) Ty.s82 rfl rfl (go 2 5 (RS.nil (T.ci h rfl (fun hb_24 h=>?_) (fun hb_24 h=>?_))))))))
   ·refine T.seq ?_
    obtain ⟨x20,hx20,h⟩:=bind_some h
    refine T.region (go 5 5 (sO (Qva (rows:=List.map Qka [(⟨p3.Key,1⟩:Keyed)]) (vs:=[.agg [iI p3.Key,iI 1]]) Ty.s82 Ty.z97 rfl rfl rfl rfl rfl rfl (sO (J5a (en:=Qka) (xs:=x2) (ys:=([(⟨p3.Key,1⟩:Keyed)]:List Keyed)) Ty.s82 (fun _=>rfl) rfl rfl rfl hx20 rfl rfl (go 2 7 (RS.nil (T.seq ?_))))))))
    obtain ⟨x22,hx22,h⟩:=bind_some h
    refine T.region (go 2 7 (sO (o_mkIface Tryz.underlying82 rfl rfl (go 1 7 (sO (Vja (ac:=[.ifc 82 (.ref 6),.func 90 [.ptr 0 0]]) (as0:=[.ifc 82 (.ref 0),.func 90 [.ptr 1 0]]) (aw0:=[aR 97 2 Qka x20,.box [iI p2.Sum,.ref 0,iI (if p3.Dep > p2.Dep then p3.Dep else p2.Dep)]]) (aw1:=[aR 97 2 Qka x22,.box [iI p2.Sum,.ref 0,iI (if p3.Dep > p2.Dep then p3.Dep else p2.Dep)]]) (aw2:=[.box [iI p2.Sum,.ref 6,iI (if p3.Dep > p2.Dep then p3.Dep else p2.Dep)],.box [iI p3.Key,iI 0,iI (if p3.Dep > p2.Dep then p3.Dep else p2.Dep)],.box [iI 0,.nils,iI 0],.box [iI 0,iI 0,iI 0],.dead,.dead,aR 97 2 Qka x22]) (v:=.tup []) (v':=.tup []) (n0:=7) (n1:=2) [6,0] rfl rfl rfl rfl (by decide) (Z2a rfl V9a rfl (Jsa (cs:=[iI p2.Sum,.ref 0,iI (if p3.Dep > p2.Dep then p3.Dep else p2.Dep)]) (ds:=[iI p2.Sum,.ref 6,iI (if p3.Dep > p2.Dep then p3.Dep else p2.Dep)]) rfl ⟨Qga rfl,Qza rfl,Qga rfl,trivial⟩ (Qxa))) ⟨rn_ifc (Qza rfl),rn_func ⟨Qqa rfl,trivial⟩,trivial⟩ (sort_Slice_K_c x20 p2.Sum (if p3.Dep > p2.Dep then p3.Dep else p2.Dep) x22 hx22) rfl (rm_tup (cs:=[]) (ds:=[]) trivial) ⟨.inl ⟨1,_,by decide,rfl,Zoa (cs:=[iI p2.Sum,.ref 6,iI (if p3.Dep > p2.Dep then p3.Dep else p2.Dep)]) (ds:=[iI p2.Sum,.ref 0,iI (if p3.Dep > p2.Dep then p3.Dep else p2.Dep)]) ⟨Qua (Qea _ _),Vga (by decide),Qua (Qea _ _),trivial⟩⟩,.inr ⟨rfl,rfl⟩,.inr ⟨rfl,rfl⟩,.inr ⟨rfl,rfl⟩,.inr ⟨rfl,rfl⟩,.inr ⟨rfl,rfl⟩,.inl ⟨0,_,by decide,rfl,Zca V9a⟩,trivial⟩ (RS.nil (T.region (go 2 7 (RS.nil (T.seq ?_)))))))))))
    refine T.drawn mixed (k:=5) rfl ?_
    apply RA.jn 2 #[true,true,true,false,false];intro hS25
    ·refine rL [0,2,3,4] 0 rfl (ra2 1 2 ?_ ?_)
     ·refine og 7 ⟨rfl,(ra1 2 (og 7 ⟨rfl,?_⟩))⟩
      exact raE hS25
     ·refine og 7 ⟨rfl,(ra1 1 (og 7 ⟨rfl,?_⟩))⟩
      exact raT hS25
    refine ra1 3 (og 7 ⟨rfl,(rq [4] 0 (RA.done (by decide +kernel) ?_))⟩)
    cases h
    exact tD
   refine T.skip (T.seq (T.drawn mixed (k:=5) rfl ?_))
   apply RA.jn 2 #[true,true,true,false,false];intro hS26
   ·refine rL [0,2,3,4] 0 rfl (ra2 1 2 ?_ ?_)
    ·refine og 5 ⟨rfl,(ra1 2 (og 5 ⟨rfl,?_⟩))⟩
     exact raE hS26
    ·refine og 5 ⟨rfl,(ra1 1 (og 5 ⟨rfl,?_⟩))⟩
     exact raT hS26
   refine ra1 3 (og 5 ⟨rfl,(rq [4] 0 (RA.done (by decide +kernel) ?_))⟩)
   cases h
   exact tD
  refine T.seq (T.seq (T.region (go 2 5 (RS.nil (T.ci h rfl (fun hb_27 h=>?_) (fun hb_27 h=>?_))))))
  ·refine T.skip (T.ci h rfl (fun hb_28 h=>?_) (fun hb_28 h=>?_))
   ·refine T.skip (T.seq (T.drawn mixed (k:=5) rfl ?_))
    apply RA.jn 2 #[true,true,true,false,false];intro hS29
    ·refine rL [0,2,3,4] 0 rfl (ra2 1 2 ?_ ?_)
     ·refine og 5 ⟨rfl,(ra1 2 (og 5 ⟨rfl,?_⟩))⟩
      exact raE hS29
     ·refine og 5 ⟨rfl,(ra1 1 (og 5 ⟨rfl,?_⟩))⟩
      exact raT hS29
    refine ra1 3 (og 5 ⟨rfl,(rq [4] 0 (RA.done (by decide +kernel) ?_))⟩)
    cases h
    exact tD
   refine T.seq (T.region (go 5 5 (RS.nil ?_)))
   cases h
   exact tD
  refine T.seq (T.region (go 2 5 (RS.nil (T.ci h rfl (fun hb_30 h=>?_) (fun hb_30 h=>?_)))))
  ·refine T.skip (T.ci h rfl (fun hb_31 h=>?_) (fun hb_31 h=>?_))
   ·refine T.skip (T.seq (T.drawn mixed (k:=5) rfl ?_))
    apply RA.jn 2 #[true,true,true,false,false];intro hS32
    ·refine rL [0,2,3,4] 0 rfl (ra2 1 2 ?_ ?_)
     ·refine og 5 ⟨rfl,(ra1 2 (og 5 ⟨rfl,?_⟩))⟩
      exact raE hS32
     ·refine og 5 ⟨rfl,(ra1 1 (og 5 ⟨rfl,?_⟩))⟩
      exact raT hS32
    refine ra1 3 (og 5 ⟨rfl,(rq [4] 0 (RA.done (by decide +kernel) ?_))⟩)
    cases h
    exact tD
   refine T.seq (T.region (go 5 5 (RS.nil ?_)))
   cases h
   exact tD
  refine T.seq (T.region (go 2 5 (RS.nil (T.ci h rfl (fun hb_33 h=>?_) (fun hb_33 h=>?_)))))
  ·refine T.skip (T.ci h rfl (fun hb_34 h=>?_) (fun hb_34 h=>?_))
   ·refine T.skip (T.seq (T.drawn mixed (k:=5) rfl ?_))
    apply RA.jn 2 #[true,true,true,false,false];intro hS35
    ·refine rL [0,2,3,4] 0 rfl (ra2 1 2 ?_ ?_)
     ·refine og 5 ⟨rfl,(ra1 2 (og 5 ⟨rfl,?_⟩))⟩
      exact raE hS35
     ·refine og 5 ⟨rfl,(ra1 1 (og 5 ⟨rfl,?_⟩))⟩
      exact raT hS35
    refine ra1 3 (og 5 ⟨rfl,(rq [4] 0 (RA.done (by decide +kernel) ?_))⟩)
    cases h
    exact tD
   refine T.seq (T.region (go 5 5 (RS.nil ?_)))
   cases h
   exact tD
  refine T.seq (T.region (go 2 5 (RS.nil (T.ci h rfl (fun hb_36 h=>?_) (fun hb_36 h=>?_)))))
  ·refine T.skip (T.ci h rfl (fun hb_37 h=>?_) (fun hb_37 h=>?_))
   ·refine T.skip (T.seq (T.drawn mixed (k:=5) rfl ?_))
    apply RA.jn 2 #[true,true,true,false,false];intro hS38
    ·refine rL [0,2,3,4] 0 rfl (ra2 1 2 ?_ ?_)
     ·refine og 5 ⟨rfl,(ra1 2 (og 5 ⟨rfl,?_⟩))⟩
      exact raE hS38
     ·refine og 5 ⟨rfl,(ra1 1 (og 5 ⟨rfl,?_⟩))⟩
      exact raT hS38
    refine ra1 3 (og 5 ⟨rfl,(rq [4] 0 (RA.done (by decide +kernel) ?_))⟩)
    cases h
    exact tD
   refine T.seq (T.region (go 5 5 (RS.nil ?_)))
   cases h
   exact tD
  refine T.region (go 2 5 (RS.nil (T.ci h rfl (fun hb_39 h=>?_) (fun hb_39 h=>?_))))
  ·refine T.skip (T.seq (T.drawn mixed (k:=5) rfl ?_))
   apply RA.jn 2 #[true,true,true,false,false];intro hS40
   ·refine rL [0,2,3,4] 0 rfl (ra2 1 2 ?_ ?_)
    ·refine og 5 ⟨rfl,(ra1 2 (og 5 ⟨rfl,?_⟩))⟩
     exact raE hS40
    ·refine og 5 ⟨rfl,(ra1 1 (og 5 ⟨rfl,?_⟩))⟩
     exact raT hS40
   refine ra1 3 (og 5 ⟨rfl,(rq [4] 0 (RA.done (by decide +kernel) ?_))⟩)
   cases h
   exact tD
  refine T.seq (T.region (go 5 5 (RS.nil ?_)))
  cases h
  exact tD
theorem crossref_Moved_c (p0:Net) (p1:List (List Item)) (p2:State) (p3:Move) (r:State × Bool) (h:Q8b p0 p1 p2 p3=some r):Fn Tryz.prog 25 [.agg (Qma p0),sL (encL Qaa) p1,.agg (Qra p2),.agg (Qta p3)] (.tup [.agg (Qra r.1),.bool r.2]):=by
  unfold Q8b at h
  refine fnT 0 Tryz.func25 Tryz.ntmps25 ?_
  refine T.seq (T.region (go 5 0 (RS.nil (T.seq ?_))))
  obtain ⟨x2,hx2,h⟩:=bind_some h
  refine T.region (go 1 4 (sO (Vja (ac:=[.agg (Qra p2)]) (as0:=[.agg (Qra p2)]) (aw0:=[]) (aw1:=[aR 3 1 encI x2.1.At,.hd 29 2,.cl 72 3 (cL Qaa x2.2),aR 84 3 Qca x2.1.Memory,aR 77 2 Qba x2.1.Choices,aR 72 3 Qaa x2.1.Out]) (aw2:=[.box (Qma p0),.box (Qra p2),.box (Qta p3),.box [.nils,.nils,.nils,.nils,.nils],aR 3 1 encI x2.1.At,.hd 29 6,.cl 72 3 (cL Qaa x2.2),aR 84 3 Qca x2.1.Memory,aR 77 2 Qba x2.1.Choices,aR 72 3 Qaa x2.1.Out]) (v:=.agg [.ref 0,.ref 1,.ref 3,.ref 4,.ref 5]) (v':=.agg [.ref 4,.ref 5,.ref 7,.ref 8,.ref 9]) (n0:=4) (n1:=6) [] rfl rfl rfl rfl (by decide) (Qxa) ⟨rn_agg ⟨rn_s rfl,rn_s rfl,rn_s rfl,rn_s rfl,rn_s rfl,trivial⟩,trivial⟩ (FnX.of_fnO (crossref_OwnState_c p2 x2 hx2)) rfl (rm_agg (cs:=[.ref 4,.ref 5,.ref 7,.ref 8,.ref 9]) (ds:=[.ref 0,.ref 1,.ref 3,.ref 4,.ref 5]) ⟨Vga (by decide),Vga (by decide),Vga (by decide),Vga (by decide),Vga (by decide),trivial⟩) ⟨.inr ⟨rfl,rfl⟩,.inr ⟨rfl,rfl⟩,.inr ⟨rfl,rfl⟩,.inr ⟨rfl,rfl⟩,.inl ⟨0,_,by decide,rfl,Zca Yga⟩,.inl ⟨1,_,by decide,rfl,rom_hd (by decide)⟩,.inl ⟨2,_,by decide,rfl,rom_cl⟩,.inl ⟨3,_,by decide,rfl,Zca Q9a⟩,.inl ⟨4,_,by decide,rfl,Zca Q5a⟩,.inl ⟨5,_,by decide,rfl,Zca Q0a⟩,trivial⟩ (go 1 10 (RS.nil (T.seq ?_))))))
  obtain ⟨x4,hx4,h⟩:=bind_some h
  refine T.region (go 4 10 (sQ (Qda Ty.s22 (fun _=>rfl) rfl rfl hx4 (go 3 10 (RS.nil (T.seq (T.region (go 1 11 (RS.nil (T.join (Z:=Int × Int × Int × (List Int) × (List (Bool × List Item))) (fun zz_39=>mkA 188 [(4,.ptr 0 0),(6,.ptr 1 0),(7,.ptr 2 0),(8,.ptr 3 0),(10,.ptr 4 0),(11,.ptr 5 0)]) (fun zz_39=>[.box (Qma p0),.box [.ref 6,.ref 7,.ref 8,.ref 9,.ref 10],.box (Qta p3),.box [.nils,.nils,.nils,.nils,.nils],.box (Qja x4),.box [iI zz_39.1,iI zz_39.2.1,iI zz_39.2.2.1],aR 3 1 encI zz_39.2.2.2.1,.hd 29 11,aR 84 3 Qca x2.1.Memory,aR 77 2 Qba x2.1.Choices,aR 72 3 Qaa x2.1.Out,.cl 72 3 (cL Qaa zz_39.2.2.2.2)]) (fun zz_39=>Z4a p0 x2 p3 x4 zz_39.1 zz_39.2.1 zz_39.2.2.1 zz_39.2.2.2.1 zz_39.2.2.2.2=some r) (fun zz_39 h=>?_) (fun hK4=>?_)))))))))))
  ·obtain ⟨z27,z28,z29,z30,z31⟩:=zz_39
   replace h:Z4a p0 x2 p3 x4 z27 z28 z29 z30 z31=some r:=h
   try dsimp only
   unfold Z4a at h
   refine T.seq (T.region (go 3 12 (RS.nil (T.join (Z:=List Int) (fun zz_42=>mkA 188 [(4,.ptr 0 0),(6,.ptr 1 0),(7,.ptr 2 0),(8,.ptr 3 0),(10,.ptr 4 0),(11,.ptr 5 0),(14,sL encI zz_42)]) (fun zz_42=>[.box (Qma p0),.box [.ref 6,.ref 7,.ref 8,.ref 9,.ref 10],.box (Qta p3),.box [.nils,.nils,.nils,.nils,.nils],.box (Qja x4),.box [iI z27,iI z28,iI z29],aR 3 1 encI z30,.hd 29 11,aR 84 3 Qca x2.1.Memory,aR 77 2 Qba x2.1.Choices,aR 72 3 Qaa x2.1.Out,.cl 72 3 (cL Qaa z31)]) (fun zz_42=>Zma p0 x2 p3 x4 z27 z28 z29 z30 z31 zz_42=some r) (fun zz_42 h=>?_) (fun hK3=>?_)))))
   ·revert h;revert zz_42;intro z34 h
    replace h:Zma p0 x2 p3 x4 z27 z28 z29 z30 z31 z34=some r:=h
    try dsimp only
    unfold Zma at h
    refine T.join (Z:=Int × (List Choice)) (fun zz_45=>mkA 188 [(4,.ptr 0 0),(6,.ptr 1 0),(7,.ptr 2 0),(8,.ptr 3 0),(10,.ptr 4 0),(11,.ptr 5 0),(14,sL encI z34)]) (fun zz_45=>[.box (Qma p0),.box [.ref 6,.ref 7,.ref 8,.ref 9,.ref 10],.box (Qta p3),.box [.nils,.nils,.nils,.nils,.nils],.box (Qja x4),.box [iI z27,iI z28,iI zz_45.1],aR 3 1 encI z30,.hd 29 11,aR 84 3 Qca x2.1.Memory,aR 77 2 Qba zz_45.2,aR 72 3 Qaa x2.1.Out,.cl 72 3 (cL Qaa z31)]) (fun zz_45=>Voa p0 x2 p3 x4 z27 z28 z30 z31 z34 zz_45.1 zz_45.2=some r) (fun zz_45 h=>?_) (fun hK2=>?_)
    ·obtain ⟨z37,z38⟩:=zz_45
     replace h:Voa p0 x2 p3 x4 z27 z28 z30 z31 z34 z37 z38=some r:=h
     try dsimp only
     unfold Voa at h
     refine T.seq ?_
     obtain ⟨x44,hx44,h⟩:=bind_some h
     obtain ⟨x45,hx45,h⟩:=bind_some h
     obtain ⟨x46,hx46,h⟩:=bind_some h
     obtain ⟨x47,hx47,h⟩:=bind_some h
     obtain ⟨x48,hx48,h⟩:=bind_some h
     refine T.drawn mixed (k:=23) rfl ?_
     apply RA.jn 2 #[true,true,true,true,true,true,true,true,true,true,true,true,true,true,true,true,true,true,true,true,true,false,false];intro hS46
     apply RA.jn 4 #[true,true,true,false,true,true,true,true,true,true,true,true,true,true,true,true,true,true,true,true,false,false,false];intro hS47
     apply RA.jn 8 #[true,true,true,true,true,true,true,true,true,true,true,true,true,true,true,false,false,false,false,false,false,false,false];intro hS48
     apply RA.jn 9 #[true,true,true,false,true,true,true,true,true,true,true,true,true,true,true,false,false,false,false,false,false,false,false];intro hS49
     apply RA.jn 9 #[true,false,true,true,true,true,true,true,true,true,true,true,true,true,true,false,false,false,false,false,false,false,false];intro hS50
     apply RA.jn 9 #[true,true,true,true,true,true,true,true,true,true,true,true,true,false,true,false,false,false,false,false,false,false,false];intro hS51
     ·refine rq [0,2,4,6,8,10] 17 (rL [5,15,16,17,18,19,20,21,22] 5 rfl (rL [7,15,16,17,18,19,20,21,22] 7 rfl (rL [9,12,13,15,16,17,18,19,20,21,22] 9 rfl (rL [11,12,13,15,16,17,18,19,20,21,22] 11 rfl (r0 12 rfl (Qoa (en:=Qca) Ty.s27 rfl rfl rfl hx44 (rL [14,15,16,17,18,19,20,21,22] 14 rfl (ra3 1 3 13 ?_ ?_ ?_))))))))
      ·refine og 12 ⟨rfl,(ra2 3 13 ?_ ?_)⟩
       ·refine og 12 ⟨rfl,?_⟩
        exact raE hS51
       ·refine oO rfl (Qwa (en:=Qca) (a:=x45) rfl rfl hx45 (Ywa Ty.k84 Ty.c84 rfl (cs:=(Qca x45)) rfl ?_))
        exact raE hS49
      ·refine og 12 ⟨rfl,(ra2 1 13 ?_ ?_)⟩
       ·refine og 12 ⟨rfl,?_⟩
        exact raT hS51
       ·refine oO rfl (Qwa (en:=Qca) (a:=x45) rfl rfl hx45 (Ywa Ty.k84 Ty.c84 rfl (cs:=(Qca x45)) rfl ?_))
        exact raE hS50
      ·refine oO rfl (Qwa (en:=Qca) (a:=x45) rfl rfl hx45 (Ywa Ty.k84 Ty.c84 rfl (cs:=(Qca x45)) rfl (ra3 1 3 15 ?_ ?_ ?_)))
       ·refine og 12 ⟨rfl,?_⟩
        exact raT hS49
       ·refine og 12 ⟨rfl,?_⟩
        exact raT hS50
       ·refine oO rfl (cD (crossref_Make_c x4.Kind x4.A x45 (⟨z27,z28,z37⟩:Item) x46 hx46) ⟨rfl,(rq [16,17,18,19] 5 (rL [1,20,21,22] 1 rfl ?_))⟩)
        exact raE hS47
     ·refine ra1 13 (oO rfl (Qwa (en:=Qca) (a:=x45) rfl rfl hx45 (Ywa Ty.k84 Ty.c84 rfl (cs:=(Qca x45)) rfl ?_)))
      exact raE hS48
     ·refine ra2 1 15 ?_ ?_
      ·refine og 12 ⟨rfl,?_⟩
       exact raT hS48
      ·refine oO rfl (cD (crossref_Make_c x4.Kind x4.A x45 (⟨z27,z28,z37⟩:Item) x46 hx46) ⟨rfl,(rq [16,17,18,19] 4 (ra1 1 (og 12 ⟨rfl,(r0 20 rfl (Qoa (en:=Qca) Ty.s27 rfl rfl rfl hx47 ?_))⟩)))⟩)
       exact raE hS46
     ·refine ra2 3 15 ?_ ?_
      ·refine og 12 ⟨rfl,?_⟩
       exact raT hS48
      ·refine oO rfl (cD (crossref_Make_c x4.Kind x4.A x45 (⟨z27,z28,z37⟩:Item) x46 hx46) ⟨rfl,(rq [16,17,18,19] 4 ?_)⟩)
       exact raT hS47
     ·refine ra1 15 (oO rfl (cD (crossref_Make_c x4.Kind x4.A x45 (⟨z27,z28,z37⟩:Item) x46 hx46) ⟨rfl,(rq [16,17,18,19] 3 (r0 20 rfl (Qoa (en:=Qca) Ty.s27 rfl rfl rfl hx47 ?_)))⟩))
      exact raT hS46
     ·refine ra1 3 (og 12 ⟨rfl,(r0 20 rfl (Qoa (en:=Qca) Ty.s27 rfl rfl rfl hx47 ?_))⟩)
      exact raT hS46
     refine ra1 21 (oO rfl (J2a (en:=Qca) (a:=x48) (a':=x46.1) Ty.c84 Ty.i84 rfl (vs:=[iI x46.1.Sum,sL Qka x46.1.Keys,iI x46.1.Dep]) rfl rfl rfl hx48 rfl rfl rfl (ra1 22 (og 12 ⟨rfl,(RA.done (by decide +kernel) (T.seq (T.seq (T.region (go 1 12 (sQ (Qfa Ty.s26 rfl ?_)))))))⟩))))
     refine go 1 12 (RS.nil (T.block (T.iter (fun ss_78:Int × (List (Bool × List Item))=>mkA 188 [(4,.ptr 0 0),(6,.ptr 1 0),(8,.ptr 2 0),(10,.ptr 3 0),(11,.ptr 4 0),(144,sL encI z34),(145,iI ((z34).length:Int)),(146,iI ss_78.1)]) (fun ss_78=>[.box (Qma p0),.box [.ref 5,.ref 6,.ref 7,.ref 8,.ref 9],.box [.nils,.nils,.nils,.nils,.nils],.box (Qja x4),.box (Qaa x46.2.1),aR 3 1 encI z30,.hd 29 10,aR 84 3 Qca (List.set x2.1.Memory x47 x46.1),aR 77 2 Qba z38,aR 72 3 Qaa x2.1.Out,.cl 72 3 (cL Qaa ss_78.2)]) h (Weak.mkN [] [0,1,3,4,5,6,7,8,9,10,11] (by decide) (Qla _) rfl ⟨Qqa rfl,Qqa rfl,Qqa rfl,Qqa rfl,Qqa rfl,rn_s rfl,Qga rfl,Qga rfl,trivial⟩ (rw_bs (Qma p0) rfl (Jsa (cs:=[.ref 5,.ref 6,.ref 7,.ref 8,.ref 9]) (ds:=[.ref 6,.ref 7,.ref 8,.ref 9,.ref 10]) rfl ⟨Qza rfl,Qza rfl,Qza rfl,Qza rfl,Qza rfl,trivial⟩ (rw_bs [.nils,.nils,.nils,.nils,.nils] rfl (rw_bs (Qja x4) rfl (rw_bs (Qaa x46.2.1) rfl (rw_ar rfl rfl (rw_hd rfl rfl (rw_ar rfl rfl (rw_ar rfl rfl (rw_ar rfl rfl (rw_cl (en:=Qaa) (ys:=z31) rfl rfl (Qxa))))))))))))) (fun ss_78 v_79 h hv_79=>?_))))
     obtain ⟨s49,s50⟩:=ss_78
     replace h:Jda p0 x2 x4 z30 z34 z38 x46 x47 s49 s50=some v_79:=h
     try dsimp only
     unfold Jda at h
     refine T.seq (T.region (go 1 11 (RS.nil (T.seq (T.ci h rfl (fun hb_80 h=>?_) (fun hb_80 h=>?_))))))
     ·refine T.skip (T.seq (T.block (T.seq ?_)))
      obtain ⟨x52,hx52,h⟩:=bind_some h
      refine T.region (sQ (Qda Ty.s26 (fun _=>rfl) rfl rfl hx52 (go 2 11 (RS.nil (T.seq (T.seq ?_))))))
      obtain ⟨x55,hx55,h⟩:=bind_some h
      obtain ⟨x56,hx56,h⟩:=bind_some h
      refine T.drawn mixed (k:=9) rfl ?_
      apply RA.jn 0 #[true,true,true,true,true,true,true,true,true];intro hS81
      apply RA.jn 2 #[true,true,true,true,true,false,true,true,false];intro hS82
      apply RA.jn 3 #[true,true,true,true,false,false,true,true,false];intro hS83
      ·refine rq [0,2,6] 6 (rL [1,3,4,5,8] 1 rfl (ra2 3 7 ?_ ?_))
       ·refine oO rfl (Zla Ty.s25 rfl rfl rfl rfl cl_l hx55 (ra2 4 7 ?_ ?_))
        ·refine oO rfl (Zya Ty.k29 rfl rfl rfl hx56 (ra2 5 7 ?_ ?_))
         ·refine oO rfl (o_ln_hd Ty.s29 rfl rfl hx56 (ra1 7 (og 11 ⟨rfl,(rq [8] 0 ?_)⟩)))
          exact raE hS81
         ·refine og 11 ⟨rfl,?_⟩
          exact raE hS82
        ·refine og 11 ⟨rfl,?_⟩
         exact raE hS83
       ·refine og 11 ⟨rfl,(ra1 3 (oO rfl (Zla Ty.s25 rfl rfl rfl rfl cl_l hx55 ?_)))⟩
        exact raT hS83
      ·refine ra1 4 (oO rfl (Zya Ty.k29 rfl rfl rfl hx56 ?_))
       exact raT hS82
      ·refine ra1 5 (oO rfl (o_ln_hd Ty.s29 rfl rfl hx56 (rq [8] 0 ?_)))
       exact raT hS81
      refine RA.done (by decide +kernel) (T.ci h rfl (fun hb_84 h=>?_) (fun hb_84 h=>?_))
      ·refine T.seq (T.region (go 3 11 (RS.nil (T.thaw 6 10 rfl rfl rfl ?_))))
       obtain ⟨w_85,h,hw_85⟩:=Qsa h
       replace h:=h.trans (congrArg some (hv_79 _ hw_85))
       cases h
       exact tD
      refine T.skip ?_
      obtain ⟨x57,hx57,h⟩:=bind_some h
      obtain ⟨x58,hx58,h⟩:=bind_some h
      refine T.drawn mixed (k:=13) rfl ?_
      apply RA.jn 2 #[true,true,true,true,true,true,true,true,true,true,true,false,false];intro hS86
      apply RA.jn 3 #[true,true,true,true,true,true,true,true,true,true,false,false,false];intro hS87
      apply RA.jn 4 #[true,true,true,true,true,true,true,false,true,true,false,false,false];intro hS88
      apply RA.jn 4 #[true,false,true,true,true,true,true,true,true,true,false,false,false];intro hS89
      apply RA.jn 4 #[true,true,true,true,true,true,true,true,true,false,false,false,false];intro hS90
      apply RA.jn 5 #[true,true,true,true,true,true,false,false,true,true,false,false,false];intro hS91
      apply RA.jn 5 #[true,false,true,true,true,true,true,false,true,true,false,false,false];intro hS92
      apply RA.jn 5 #[true,true,true,true,true,true,true,false,true,false,false,false,false];intro hS93
      ·refine rq [0,2,3,5] 9 (rL [4,6,7,10,11,12] 4 rfl (rL [8,9,10,11,12] 8 rfl (ra3 1 6 9 ?_ ?_ ?_)))
       ·refine og 11 ⟨rfl,(ra2 6 9 ?_ ?_)⟩
        ·refine oO rfl (Zla Ty.s25 rfl rfl rfl rfl cl_l hx55 ?_)
         exact raE hS93
        ·refine oO rfl (Qva (rows:=List.map Qaa [x46.2.1]) (vs:=[.agg (Qaa x46.2.1)]) Ty.s29 Ty.z72 rfl rfl rfl rfl rfl rfl ?_)
         exact raE hS91
       ·refine oO rfl (Zla Ty.s25 rfl rfl rfl rfl cl_l hx55 (ra3 1 7 9 ?_ ?_ ?_))
        ·refine og 11 ⟨rfl,?_⟩
         exact raT hS93
        ·refine oO rfl (Zya Ty.k29 rfl rfl rfl hx56 (ra2 1 9 ?_ ?_))
         ·refine og 11 ⟨rfl,?_⟩
          exact raE hS90
         ·refine oO rfl (Qva (rows:=List.map Qaa [x46.2.1]) (vs:=[.agg (Qaa x46.2.1)]) Ty.s29 Ty.z72 rfl rfl rfl rfl rfl rfl ?_)
          exact raE hS89
        ·refine oO rfl (Qva (rows:=List.map Qaa [x46.2.1]) (vs:=[.agg (Qaa x46.2.1)]) Ty.s29 Ty.z72 rfl rfl rfl rfl rfl rfl ?_)
         exact raE hS92
       ·refine oO rfl (Qva (rows:=List.map Qaa [x46.2.1]) (vs:=[.agg (Qaa x46.2.1)]) Ty.s29 Ty.z72 rfl rfl rfl rfl rfl rfl (ra2 1 6 ?_ ?_))
        ·refine og 12 ⟨rfl,?_⟩
         exact raT hS91
        ·refine oO rfl (Zla Ty.s25 rfl rfl rfl rfl cl_l hx55 ?_)
         exact raT hS92
      ·refine ra2 7 9 ?_ ?_
       ·refine oO rfl (Zya Ty.k29 rfl rfl rfl hx56 ?_)
        exact raT hS90
       ·refine oO rfl (Qva (rows:=List.map Qaa [x46.2.1]) (vs:=[.agg (Qaa x46.2.1)]) Ty.s29 Ty.z72 rfl rfl rfl rfl rfl rfl ?_)
        exact raE hS88
      ·refine ra2 1 7 ?_ ?_
       ·refine og 12 ⟨rfl,?_⟩
        exact raT hS88
       ·refine oO rfl (Zya Ty.k29 rfl rfl rfl hx56 ?_)
        exact raT hS89
      ·refine ra1 6 (oO rfl (Zla Ty.s25 rfl rfl rfl rfl cl_l hx55 ?_))
       exact raT hS88
      ·refine ra1 9 (oO rfl (Qva (rows:=List.map Qaa [x46.2.1]) (vs:=[.agg (Qaa x46.2.1)]) Ty.s29 Ty.z72 rfl rfl rfl rfl rfl rfl ?_))
       exact raE hS87
      ·refine ra2 1 10 ?_ ?_
       ·refine og 12 ⟨rfl,?_⟩
        exact raT hS87
       ·refine RO.outc 167 10 x55 rfl rfl hx57 rfl rfl (oO rfl (J5a (en:=Qaa) (xs:=x57) (ys:=([x46.2.1]:List Item)) Ty.s29 (fun _=>rfl) rfl rfl rfl hx58 rfl rfl (ra1 1 (og 14 ⟨rfl,?_⟩))))
        exact raE hS86
      ·refine ra1 7 (oO rfl (Zya Ty.k29 rfl rfl rfl hx56 ?_))
       exact raT hS87
      ·refine ra1 10 (RO.outc 167 10 x55 rfl rfl hx57 rfl rfl (oO rfl (J5a (en:=Qaa) (xs:=x57) (ys:=([x46.2.1]:List Item)) Ty.s29 (fun _=>rfl) rfl rfl rfl hx58 rfl rfl ?_)))
       exact raT hS86
      refine ra1 11 (oO rfl (Zla Ty.s25 rfl rfl rfl rfl cl_lh hx55 (ra1 12 (oO rfl (o_st_hd Ty.c29 Ty.i29 (fun _=>rfl) (fun _=>rfl) rfl rfl rfl rfl cl_lh hx56 cl_sh rfl rfl (RA.done (by decide +kernel) (T.region (go 2 15 (RS.nil ?_)))))))))
      exact ⟨(IntKind.i64.wrap (s49+1),(own s50 x55 x58)),(Option.some.inj h).symm,Weak.mkN [] [0,1,2,3,4,5,6,7,8,9,14] (by decide) (Qla _) rfl ⟨Qqa rfl,Qqa rfl,Qqa rfl,Qqa rfl,Qqa rfl,rn_s rfl,Qga rfl,Qga rfl,trivial⟩ (rw_bs (Qma p0) rfl (Jsa (cs:=[.ref 5,.ref 6,.ref 7,.ref 8,.ref 9]) (ds:=[.ref 5,.ref 6,.ref 7,.ref 8,.ref 9]) rfl ⟨Qza rfl,Qza rfl,Qza rfl,Qza rfl,Qza rfl,trivial⟩ (rw_bs [.nils,.nils,.nils,.nils,.nils] rfl (rw_bs (Qja x4) rfl (rw_bs (Qaa x46.2.1) rfl (rw_ar rfl rfl (rw_hd rfl rfl (rw_ar rfl rfl (rw_ar rfl rfl (rw_ar rfl rfl (rw_cl (en:=Qaa) (ys:=(own s50 x55 x58)) rfl rfl (Qxa))))))))))))⟩
     refine T.exit ?_
     obtain ⟨w_94,h,hw_94⟩:=Qsa h
     replace h:=h.trans (congrArg some (hv_79 _ hw_94))
     refine T.seq (T.seq (T.region (go 3 11 (RS.nil (T.ci h rfl (fun hb_95 h=>?_) (fun hb_95 h=>?_))))))
     ·refine T.seq (T.seq (T.region (go 2 11 (sQ (Zfa (en:=Qaa) Ty.s29 rfl rfl (go 1 11 (RS.nil (T.ci h rfl (fun hb_96 h=>?_) (fun hb_96 h=>?_)))))))))
      ·refine T.seq (T.region (go 3 11 (RS.nil (T.thaw 6 10 rfl rfl rfl ?_))))
       cases h
       exact tD
      refine T.skip ?_
      obtain ⟨x59,hx59,h⟩:=bind_some h
      refine T.region (go 3 11 (sO (Qva (rows:=List.map Qaa [x46.2.1]) (vs:=[.agg (Qaa x46.2.1)]) Ty.s29 Ty.z72 rfl rfl rfl rfl rfl rfl (sO (J5a (en:=Qaa) (xs:=x2.1.Out) (ys:=([x46.2.1]:List Item)) Ty.s29 (fun _=>rfl) rfl rfl rfl hx59 rfl rfl (go 2 13 (RS.nil (T.seq (T.region (go 3 13 (RS.nil ?_)))))))))))
      refine T.thaw 6 10 rfl rfl rfl ?_
      cases h
      exact tD
     refine T.skip (T.seq (T.region (go 3 11 (RS.nil (T.thaw 6 10 rfl rfl rfl ?_)))))
     cases h
     exact tD
    refine T.seq (T.region (go 3 12 (RS.nil (T.ci h rfl (fun hb_97 h=>?_) (fun hb_97 h=>?_)))))
    ·refine T.seq (T.seq (T.region (go 2 12 (sQ (Zfa (en:=Qba) Ty.s28 rfl rfl (go 1 12 (RS.nil (T.ci h rfl (fun hb_98 h=>?_) (fun hb_98 h=>?_)))))))))
     ·refine T.seq (T.region (go 3 12 (RS.nil (T.thaw 7 11 rfl rfl rfl ?_))))
      cases h
      exact tD
     refine T.skip (T.seq ?_)
     obtain ⟨x36,hx36,h⟩:=bind_some h
     refine T.region (go 7 12 (sO (Qva (rows:=List.map Qba [(⟨p3.Node,p3.Lane⟩:Choice)]) (vs:=[.agg (Qta p3)]) Ty.s28 Ty.z77 rfl rfl rfl rfl rfl rfl (sO (J5a (en:=Qba) (xs:=x2.1.Choices) (ys:=([(⟨p3.Node,p3.Lane⟩:Choice)]:List Choice)) Ty.s28 (fun _=>rfl) rfl rfl rfl hx36 rfl rfl (go 2 14 (RS.nil (T.region (go 2 14 (sQ (Zfa (en:=Qba) Ty.s28 rfl rfl (go 2 14 ?_))))))))))))
     refine RS.nil ?_
     exact T.weakR (hK2 (((x36).length:Int),x36) h) (Weak.mkN [] [0,1,2,3,4,5,6,7,8,13,10,11] (by decide) (Qla _) rfl ⟨Qqa rfl,Qqa rfl,Qqa rfl,Qqa rfl,Qqa rfl,Qqa rfl,rn_s rfl,trivial⟩ (rw_bs (Qma p0) rfl (Jsa (cs:=[.ref 6,.ref 7,.ref 8,.ref 9,.ref 10]) (ds:=[.ref 6,.ref 7,.ref 8,.ref 13,.ref 10]) rfl ⟨Qza rfl,Qza rfl,Qza rfl,Qza rfl,Qza rfl,trivial⟩ (rw_bs (Qta p3) rfl (rw_bs [.nils,.nils,.nils,.nils,.nils] rfl (rw_bs (Qja x4) rfl (Jsa (cs:=[iI z27,iI z28,iI ((x36).length:Int)]) (ds:=[iI z27,iI z28,iI ((x36).length:Int)]) rfl ⟨Qga rfl,Qga rfl,Qga rfl,trivial⟩ (rw_ar rfl rfl (rw_hd rfl rfl (rw_ar rfl rfl (rw_ar rfl rfl (rw_ar rfl rfl (rw_cl (en:=Qaa) (ys:=z31) rfl rfl (Qxa))))))))))))))
    refine T.skip ?_
    exact T.su (hK2 (z29,x2.1.Choices) h)
   refine T.seq (T.region (go 3 12 (RS.nil (T.ci h rfl (fun hb_99 h=>?_) (fun hb_99 h=>?_)))))
   ·obtain ⟨x32,hx32,h⟩:=bind_some h
    obtain ⟨x33,hx33,h⟩:=bind_some h
    refine T.drawn mixed (k:=11) rfl ?_
    apply RA.jn 3 #[true,true,true,true,true,true,true,true,false,false,false];intro hS100
    ·refine rq [0,3] 9 (rL [4,5,6,7,8,9,10] 4 rfl (r0 5 rfl (Qfa Ty.s26 rfl (rL [2,6,7,8,9,10] 2 rfl (ra2 1 6 ?_ ?_)))))
     ·refine og 12 ⟨rfl,(ra1 6 (oO rfl (cF (crossref_Lane_c (⟨z27,z28,z29⟩:Item) ((x4.Out).length:Int) x32 hx32) ⟨rfl,(r0 7 rfl (Qda Ty.s26 (fun _=>rfl) rfl rfl hx33 ?_))⟩)))⟩
      exact raE hS100
     ·refine oO rfl (cF (crossref_Lane_c (⟨z27,z28,z29⟩:Item) ((x4.Out).length:Int) x32 hx32) ⟨rfl,(ra1 1 (og 12 ⟨rfl,(r0 7 rfl (Qda Ty.s26 (fun _=>rfl) rfl rfl hx33 ?_))⟩))⟩)
      exact raT hS100
    refine ra1 8 (og 12 ⟨rfl,(ra1 9 (oO rfl (Qva (rows:=List.map encI [x33]) (vs:=[iI x33]) Ty.s26 Ty.z3 rfl rfl rfl rfl rfl rfl (rq [10] 0 (RA.done (by decide +kernel) (T.fC 12 ?_))))))⟩)
    exact T.weakR (hK3 [x33] h) (Weak.mkN [] [0,1,2,3,4,5,6,7,8,9,10,11] (by decide) (Qla _) rfl ⟨Qqa rfl,Qqa rfl,Qqa rfl,Qqa rfl,Qqa rfl,Qqa rfl,rn_s rfl,trivial⟩ (rw_bs (Qma p0) rfl (Jsa (cs:=[.ref 6,.ref 7,.ref 8,.ref 9,.ref 10]) (ds:=[.ref 6,.ref 7,.ref 8,.ref 9,.ref 10]) rfl ⟨Qza rfl,Qza rfl,Qza rfl,Qza rfl,Qza rfl,trivial⟩ (rw_bs (Qta p3) rfl (rw_bs [.nils,.nils,.nils,.nils,.nils] rfl (rw_bs (Qja x4) rfl (rw_bs [iI z27,iI z28,iI z29] rfl (rw_ar rfl rfl (rw_hd rfl rfl (rw_ar rfl rfl (rw_ar rfl rfl (rw_ar rfl rfl (rw_cl (en:=Qaa) (ys:=z31) rfl rfl (Qxa))))))))))))))
   refine T.skip ?_
   exact T.su (hK3 x4.Out h)
  refine T.seq (T.region (go 3 12 (RS.nil (T.ci h rfl (fun hb_101 h=>?_) (fun hb_101 h=>?_)))))
  ·refine T.seq ?_
   obtain ⟨x9,hx9,h⟩:=bind_some h
   obtain ⟨x10,hx10,h⟩:=bind_some h
   obtain ⟨x11,hx11,h⟩:=bind_some h
   obtain ⟨x12,hx12,h⟩:=bind_some h
   refine T.drawn mixed (k:=13) rfl (rq [0,1,5,7] 9 (rL [2,3,4,11,12] 2 rfl (r0 3 rfl (Qda Ty.s25 (fun _=>rfl) rfl rfl hx9 (rL [4,11,12] 4 rfl (rL [6,9,10,11,12] 6 rfl (ra1 8 (og 12 ⟨rfl,(r0 9 rfl (Qoa (en:=encI) Ty.s26 rfl rfl rfl hx10 (ra1 10 ?_)))⟩))))))))
   refine oO rfl (Qwa (en:=encI) (a:=x11) rfl rfl hx11 (Jra Ty.k3 (c:=iI x11) rfl (r0 11 rfl (Vma Ty.s29 (fun _=>rfl) rfl rfl rfl hx12 (rq [12] 0 (RA.done (by decide +kernel) (T.seq (T.seq (T.region (go 1 12 (sQ (Qfa Ty.s29 rfl (go 1 12 ?_)))))))))))))
   refine RS.nil (T.ci h rfl (fun hb_102 h=>?_) (fun hb_102 h=>?_))
   ·refine T.seq (T.region (go 3 12 (RS.nil (T.thaw 5 6 rfl rfl rfl ?_))))
    cases h
    exact tD
   refine T.skip (T.seq ?_)
   obtain ⟨x14,hx14,h⟩:=bind_some h
   refine T.region (go 1 12 (sQ (Qda Ty.s29 (fun _=>rfl) rfl rfl hx14 (go 2 12 (RS.nil ?_)))))
   obtain ⟨x15,hx15,h⟩:=bind_some h
   obtain ⟨x16,hx16,h⟩:=bind_some h
   obtain ⟨x17,hx17,h⟩:=bind_some h
   obtain ⟨x18,hx18,h⟩:=bind_some h
   refine T.region (go 4 12 (sQ (Qoa (en:=encI) Ty.s26 rfl rfl rfl hx15 (sO (Qwa (en:=encI) (a:=x16) rfl rfl hx16 (Jra Ty.k3 (c:=iI x16) rfl (go 1 12 (sQ (Qoa (en:=encI) Ty.s26 rfl rfl rfl hx17 (sO (J2a (en:=encI) (a:=x18) (a':=IntKind.i64.wrap (x16+1)) Ty.c3 Ty.i3 rfl (vs:=[iI (IntKind.i64.wrap (x16+1))]) rfl rfl rfl hx18 rfl rfl rfl (RS.nil ?_))))))))))))
   exact T.weakR (hK4 (x14.Key,x14.Val,x14.Dep,(List.set x2.1.At x17 (IntKind.i64.wrap (x16+1))),x2.2) h) (Weak.mkN [] [0,1,2,3,10,11,4,5,7,8,9,6] (by decide) (Qla _) rfl ⟨Qqa rfl,Qqa rfl,Qqa rfl,Qqa rfl,Qqa rfl,Qqa rfl,trivial⟩ (rw_bs (Qma p0) rfl (Jsa (cs:=[.ref 6,.ref 7,.ref 8,.ref 9,.ref 10]) (ds:=[.ref 4,.ref 5,.ref 7,.ref 8,.ref 9]) rfl ⟨Qza rfl,Qza rfl,Qza rfl,Qza rfl,Qza rfl,trivial⟩ (rw_bs (Qta p3) rfl (rw_bs [.nils,.nils,.nils,.nils,.nils] rfl (rw_bs (Qja x4) rfl (Jsa (cs:=(Qaa x14)) (ds:=(Qaa x14)) rfl ⟨Qga rfl,Qga rfl,Qga rfl,trivial⟩ (rw_ar rfl rfl (rw_hd rfl rfl (rw_ar rfl rfl (rw_ar rfl rfl (rw_ar rfl rfl (rw_cl (en:=Qaa) (ys:=x2.2) rfl rfl (Qxa))))))))))))))
  refine T.seq ?_
  obtain ⟨x20,hx20,h⟩:=bind_some h
  refine T.region (go 4 12 (sQ (Qda Ty.s26 (fun _=>rfl) rfl rfl hx20 (go 2 12 (RS.nil (T.seq (T.seq ?_)))))))
  obtain ⟨x23,hx23,h⟩:=bind_some h
  obtain ⟨x24,hx24,h⟩:=bind_some h
  refine T.region (go 3 12 (sO (Zla Ty.s25 rfl rfl rfl rfl cl_l hx23 (sO (Zya Ty.k29 rfl rfl rfl hx24 (sO (o_ln_hd Ty.s29 rfl rfl hx24 (go 1 12 (RS.nil (T.ci h rfl (fun hb_103 h=>?_) (fun hb_103 h=>?_)))))))))))
  ·refine T.seq (T.region (go 3 12 (RS.nil (T.thaw 5 6 rfl rfl rfl ?_))))
   cases h
   exact tD
  refine T.skip ?_
  obtain ⟨x25,hx25,h⟩:=bind_some h
  obtain ⟨x26,hx26,h⟩:=bind_some h
  refine T.drawn mixed (k:=19) rfl ?_
  apply RA.jn 2 #[true,true,true,true,true,true,true,true,true,true,true,true,true,true,true,true,true,false,false];intro hS104
  apply RA.jn 3 #[true,true,true,true,true,true,true,true,true,true,true,true,true,true,true,true,false,false,false];intro hS105
  apply RA.jn 3 #[true,false,true,true,true,true,true,true,true,true,true,true,true,true,true,true,true,false,false];intro hS106
  apply RA.jn 4 #[true,false,true,true,true,true,true,true,true,true,true,true,true,true,true,true,false,false,false];intro hS107
  apply RA.jn 4 #[true,true,true,true,true,true,true,true,true,false,true,true,true,true,true,true,false,false,false];intro hS108
  apply RA.jn 4 #[true,true,true,true,true,true,true,true,true,true,true,true,true,true,false,false,true,false,false];intro hS109
  apply RA.jn 5 #[true,true,true,true,true,true,true,true,true,true,true,true,true,true,false,false,false,false,false];intro hS110
  apply RA.jn 5 #[true,false,true,true,true,true,true,true,true,true,true,true,true,true,false,false,true,false,false];intro hS111
  apply RA.jn 5 #[true,true,true,true,true,true,true,true,true,true,true,true,true,false,false,false,true,false,false];intro hS112
  apply RA.jn 6 #[true,true,true,true,true,true,true,false,false,false,true,true,true,true,true,true,false,false,false];intro hS113
  apply RA.jn 6 #[true,true,true,true,true,true,true,true,true,false,true,true,true,true,false,false,false,false,false];intro hS114
  apply RA.jn 6 #[true,false,true,true,true,true,true,true,true,true,true,true,true,true,false,false,false,false,false];intro hS115
  apply RA.jn 6 #[true,true,true,true,true,true,true,true,true,true,true,true,true,false,false,false,false,false,false];intro hS116
  apply RA.jn 6 #[true,false,true,true,true,true,true,true,true,true,true,true,true,false,false,false,true,false,false];intro hS117
  apply RA.jn 7 #[true,true,true,true,true,true,false,false,false,false,true,true,true,true,true,true,false,false,false];intro hS118
  apply RA.jn 7 #[true,false,true,true,true,true,true,false,false,false,true,true,true,true,true,true,false,false,false];intro hS119
  apply RA.jn 7 #[true,false,true,true,true,true,true,true,true,false,true,true,true,true,false,false,false,false,false];intro hS120
  apply RA.jn 7 #[true,true,true,true,true,true,true,true,true,false,true,true,true,false,false,false,false,false,false];intro hS121
  apply RA.jn 7 #[true,false,true,true,true,true,true,true,true,true,true,true,true,false,false,false,false,false,false];intro hS122
  apply RA.jn 7 #[true,true,true,true,true,true,true,true,true,true,true,false,true,false,false,false,false,false,false];intro hS123
  apply RA.jn 8 #[true,false,true,true,true,true,false,false,false,false,true,true,true,true,true,true,false,false,false];intro hS124
  apply RA.jn 8 #[true,true,true,true,true,true,true,false,false,false,true,true,true,true,false,false,false,false,false];intro hS125
  apply RA.jn 8 #[true,false,true,true,true,true,true,true,true,false,true,true,true,false,false,false,false,false,false];intro hS126
  apply RA.jn 8 #[true,true,true,true,true,true,true,true,true,false,true,false,true,false,false,false,false,false,false];intro hS127
  apply RA.jn 9 #[true,true,true,true,true,true,false,false,false,false,true,true,true,true,false,false,false,false,false];intro hS128
  apply RA.jn 9 #[true,false,true,true,true,true,true,false,false,false,true,true,true,true,false,false,false,false,false];intro hS129
  apply RA.jn 9 #[true,true,true,true,true,true,true,false,false,false,true,true,true,false,false,false,false,false,false];intro hS130
  apply RA.jn 10 #[true,true,true,true,false,true,false,false,false,false,true,true,true,true,false,false,false,false,false];intro hS131
  apply RA.jn 10 #[true,false,true,true,true,true,false,false,false,false,true,true,true,true,false,false,false,false,false];intro hS132
  apply RA.jn 10 #[true,true,true,true,true,true,false,false,false,false,true,true,true,false,false,false,false,false,false];intro hS133
  apply RA.jn 10 #[true,false,true,true,true,true,true,false,false,false,true,true,true,false,false,false,false,false,false];intro hS134
  apply RA.jn 10 #[true,true,true,true,true,true,true,false,false,false,true,false,true,false,false,false,false,false,false];intro hS135
  apply RA.jn 11 #[true,true,true,true,false,true,false,false,false,false,true,true,true,false,false,false,false,false,false];intro hS136
  apply RA.jn 11 #[true,false,true,true,true,true,false,false,false,false,true,true,true,false,false,false,false,false,false];intro hS137
  apply RA.jn 11 #[true,true,true,true,true,true,false,false,false,false,true,false,true,false,false,false,false,false,false];intro hS138
  ·refine rq [0,2,3,5,10,12] 13 (ra3 1 4 11 ?_ ?_ ?_)
   ·refine og 12 ⟨rfl,(ra2 4 11 ?_ ?_)⟩
    ·refine og 12 ⟨rfl,?_⟩
     exact raE hS138
    ·refine og 12 ⟨rfl,?_⟩
     exact raE hS136
   ·refine og 12 ⟨rfl,(ra3 1 6 11 ?_ ?_ ?_)⟩
    ·refine og 12 ⟨rfl,?_⟩
     exact raT hS138
    ·refine oO rfl (Zla Ty.s25 rfl rfl rfl rfl cl_l hx23 (ra3 1 7 11 ?_ ?_ ?_))
     ·refine og 12 ⟨rfl,?_⟩
      exact raE hS135
     ·refine oO rfl (Zya Ty.k29 rfl rfl rfl hx24 (RA.fzi 76 6 x23 rfl rfl hx24 rfl (r0 8 rfl (Qda Ty.s29 (fun _=>rfl) rfl rfl hx25 (ra3 1 9 11 ?_ ?_ ?_)))))
      ·refine og 13 ⟨rfl,?_⟩
       exact raE hS127
      ·refine og 13 ⟨rfl,(ra3 1 11 16 ?_ ?_ ?_)⟩
       ·refine og 13 ⟨rfl,?_⟩
        exact raE hS123
       ·refine og 13 ⟨rfl,?_⟩
        exact raE hS122
       ·refine og 13 ⟨rfl,(rL [11,13,14,15,17,18] 11 rfl ?_)⟩
        exact raE hS117
      ·refine og 13 ⟨rfl,?_⟩
       exact raE hS126
     ·refine og 12 ⟨rfl,?_⟩
      exact raE hS134
    ·refine og 12 ⟨rfl,?_⟩
     exact raE hS137
   ·refine og 12 ⟨rfl,(ra3 1 4 13 ?_ ?_ ?_)⟩
    ·refine og 12 ⟨rfl,?_⟩
     exact raT hS136
    ·refine og 12 ⟨rfl,?_⟩
     exact raT hS137
    ·refine oO rfl (Zla Ty.s25 rfl rfl rfl rfl cl_l hx23 (ra3 1 4 14 ?_ ?_ ?_))
     ·refine og 12 ⟨rfl,?_⟩
      exact raE hS131
     ·refine og 12 ⟨rfl,?_⟩
      exact raE hS132
     ·refine oO rfl (Zya Ty.k29 rfl rfl rfl hx24 (RA.fzi 83 6 x23 rfl rfl hx24 rfl (r0 15 rfl (Vma Ty.s29 (fun _=>rfl) rfl rfl rfl hx26 (rL [4,6,7,8,9,16,17,18] 4 rfl ?_)))))
      exact raE hS124
  ·refine ra2 6 11 ?_ ?_
   ·refine oO rfl (Zla Ty.s25 rfl rfl rfl rfl cl_l hx23 ?_)
    exact raT hS135
   ·refine og 12 ⟨rfl,?_⟩
    exact raE hS133
  ·refine ra3 1 6 13 ?_ ?_ ?_
   ·refine og 12 ⟨rfl,?_⟩
    exact raT hS133
   ·refine oO rfl (Zla Ty.s25 rfl rfl rfl rfl cl_l hx23 ?_)
    exact raT hS134
   ·refine oO rfl (Zla Ty.s25 rfl rfl rfl rfl cl_l hx23 ?_)
    exact raT hS132
  ·refine ra2 4 13 ?_ ?_
   ·refine og 12 ⟨rfl,?_⟩
    exact raT hS133
   ·refine oO rfl (Zla Ty.s25 rfl rfl rfl rfl cl_l hx23 ?_)
    exact raT hS131
  ·refine ra2 7 11 ?_ ?_
   ·refine oO rfl (Zya Ty.k29 rfl rfl rfl hx24 (RA.fzi 76 6 x23 rfl rfl hx24 rfl (r0 8 rfl (Qda Ty.s29 (fun _=>rfl) rfl rfl hx25 ?_))))
    exact raT hS127
   ·refine og 12 ⟨rfl,?_⟩
    exact raE hS130
  ·refine ra3 1 7 13 ?_ ?_ ?_
   ·refine og 12 ⟨rfl,?_⟩
    exact raT hS130
   ·refine oO rfl (Zya Ty.k29 rfl rfl rfl hx24 (RA.fzi 76 6 x23 rfl rfl hx24 rfl (r0 8 rfl (Qda Ty.s29 (fun _=>rfl) rfl rfl hx25 ?_))))
    exact raT hS126
   ·refine oO rfl (Zla Ty.s25 rfl rfl rfl rfl cl_l hx23 ?_)
    exact raE hS129
  ·refine ra2 6 13 ?_ ?_
   ·refine oO rfl (Zla Ty.s25 rfl rfl rfl rfl cl_l hx23 ?_)
    exact raT hS130
   ·refine oO rfl (Zla Ty.s25 rfl rfl rfl rfl cl_l hx23 ?_)
    exact raE hS128
  ·refine ra3 1 6 14 ?_ ?_ ?_
   ·refine og 12 ⟨rfl,?_⟩
    exact raT hS128
   ·refine oO rfl (Zla Ty.s25 rfl rfl rfl rfl cl_l hx23 ?_)
    exact raT hS129
   ·refine oO rfl (Zya Ty.k29 rfl rfl rfl hx24 (RA.fzi 83 6 x23 rfl rfl hx24 rfl (r0 15 rfl (Vma Ty.s29 (fun _=>rfl) rfl rfl rfl hx26 ?_))))
    exact raT hS124
  ·refine ra2 4 14 ?_ ?_
   ·refine og 12 ⟨rfl,?_⟩
    exact raT hS128
   ·refine oO rfl (Zya Ty.k29 rfl rfl rfl hx24 (RA.fzi 83 6 x23 rfl rfl hx24 rfl (r0 15 rfl (Vma Ty.s29 (fun _=>rfl) rfl rfl rfl hx26 (ra1 4 (og 13 ⟨rfl,?_⟩))))))
    exact raE hS118
  ·refine ra2 7 13 ?_ ?_
   ·refine oO rfl (Zya Ty.k29 rfl rfl rfl hx24 (RA.fzi 76 6 x23 rfl rfl hx24 rfl (r0 8 rfl (Qda Ty.s29 (fun _=>rfl) rfl rfl hx25 ?_))))
    exact raE hS121
   ·refine oO rfl (Zla Ty.s25 rfl rfl rfl rfl cl_l hx23 ?_)
    exact raE hS125
  ·refine ra3 1 7 14 ?_ ?_ ?_
   ·refine og 12 ⟨rfl,?_⟩
    exact raT hS125
   ·refine oO rfl (Zya Ty.k29 rfl rfl rfl hx24 (RA.fzi 76 6 x23 rfl rfl hx24 rfl (r0 8 rfl (Qda Ty.s29 (fun _=>rfl) rfl rfl hx25 ?_))))
    exact raE hS120
   ·refine oO rfl (Zya Ty.k29 rfl rfl rfl hx24 (RA.fzi 83 6 x23 rfl rfl hx24 rfl (r0 15 rfl (Vma Ty.s29 (fun _=>rfl) rfl rfl rfl hx26 ?_))))
    exact raE hS119
  ·refine ra2 6 14 ?_ ?_
   ·refine oO rfl (Zla Ty.s25 rfl rfl rfl rfl cl_l hx23 ?_)
    exact raT hS125
   ·refine oO rfl (Zya Ty.k29 rfl rfl rfl hx24 (RA.fzi 83 6 x23 rfl rfl hx24 rfl (r0 15 rfl (Vma Ty.s29 (fun _=>rfl) rfl rfl rfl hx26 ?_))))
    exact raT hS118
  ·refine ra2 9 11 ?_ ?_
   ·refine og 13 ⟨rfl,?_⟩
    exact raT hS123
   ·refine og 13 ⟨rfl,?_⟩
    exact raT hS121
  ·refine ra3 1 9 13 ?_ ?_ ?_
   ·refine og 13 ⟨rfl,?_⟩
    exact raT hS121
   ·refine og 13 ⟨rfl,?_⟩
    exact raT hS122
   ·refine oO rfl (Zla Ty.s25 rfl rfl rfl rfl cl_l (ixf hx23) ?_)
    exact raT hS120
  ·refine ra2 7 14 ?_ ?_
   ·refine oO rfl (Zya Ty.k29 rfl rfl rfl hx24 (RA.fzi 76 6 x23 rfl rfl hx24 rfl (r0 8 rfl (Qda Ty.s29 (fun _=>rfl) rfl rfl hx25 ?_))))
    exact raE hS114
   ·refine oO rfl (Zya Ty.k29 rfl rfl rfl hx24 (RA.fzi 83 6 x23 rfl rfl hx24 rfl (r0 15 rfl (Vma Ty.s29 (fun _=>rfl) rfl rfl rfl hx26 ?_))))
    exact raE hS113
  ·refine ra2 1 6 ?_ ?_
   ·refine og 13 ⟨rfl,?_⟩
    exact raT hS118
   ·refine oO rfl (Zla Ty.s25 rfl rfl rfl rfl cl_l (ixf hx23) ?_)
    exact raT hS119
  ·refine ra2 11 16 ?_ ?_
   ·refine og 13 ⟨rfl,?_⟩
    exact raE hS116
   ·refine og 13 ⟨rfl,(ra1 11 (og 13 ⟨rfl,?_⟩))⟩
    exact raE hS112
  ·refine ra3 1 13 16 ?_ ?_ ?_
   ·refine og 13 ⟨rfl,?_⟩
    exact raT hS116
   ·refine oO rfl (Zla Ty.s25 rfl rfl rfl rfl cl_l (ixf hx23) ?_)
    exact raE hS115
   ·refine og 13 ⟨rfl,?_⟩
    exact raT hS117
  ·refine ra2 9 13 ?_ ?_
   ·refine og 13 ⟨rfl,?_⟩
    exact raT hS116
   ·refine oO rfl (Zla Ty.s25 rfl rfl rfl rfl cl_l (ixf hx23) ?_)
    exact raT hS114
  ·refine ra3 1 9 14 ?_ ?_ ?_
   ·refine og 13 ⟨rfl,?_⟩
    exact raT hS114
   ·refine og 13 ⟨rfl,?_⟩
    exact raT hS115
   ·refine oO rfl (Zya Ty.k29 rfl rfl rfl (atf hx24 hx24) (RA.fzi 83 6 x23 rfl rfl (atf hx24 hx24) rfl (r0 15 rfl (Vma Ty.s29 (fun _=>rfl) rfl rfl rfl hx26 (rL [9,16,17,18] 9 rfl ?_)))))
    exact raE hS107
  ·refine ra2 1 7 ?_ ?_
   ·refine og 13 ⟨rfl,?_⟩
    exact raT hS113
   ·refine oO rfl (Zya Ty.k29 rfl rfl rfl (atf hx24 hx24) (RA.fzi 76 6 x23 rfl rfl (atf hx24 hx24) rfl (r0 8 rfl (Qda Ty.s29 (fun _=>rfl) rfl rfl hx25 (rL [9,16,17,18] 9 rfl ?_)))))
    exact raT hS107
  ·refine ra1 6 (oO rfl (Zla Ty.s25 rfl rfl rfl rfl cl_l (ixf hx23) ?_))
   exact raT hS113
  ·refine ra2 1 13 ?_ ?_
   ·refine og 13 ⟨rfl,?_⟩
    exact raT hS112
   ·refine oO rfl (Zla Ty.s25 rfl rfl rfl rfl cl_l (ixf hx23) ?_)
    exact raE hS111
  ·refine ra2 13 16 ?_ ?_
   ·refine oO rfl (Zla Ty.s25 rfl rfl rfl rfl cl_l (ixf hx23) ?_)
    exact raE hS110
   ·refine og 13 ⟨rfl,?_⟩
    exact raT hS112
  ·refine ra3 1 14 16 ?_ ?_ ?_
   ·refine og 13 ⟨rfl,?_⟩
    exact raT hS110
   ·refine oO rfl (Zya Ty.k29 rfl rfl rfl (atf hx24 hx24) (RA.fzi 83 6 x23 rfl rfl (atf hx24 hx24) rfl (r0 15 rfl (Vma Ty.s29 (fun _=>rfl) rfl rfl rfl hx26 ?_))))
    exact raT hS107
   ·refine og 13 ⟨rfl,?_⟩
    exact raT hS111
  ·refine ra2 9 14 ?_ ?_
   ·refine og 13 ⟨rfl,?_⟩
    exact raT hS110
   ·refine oO rfl (Zya Ty.k29 rfl rfl rfl (atf hx24 hx24) (RA.fzi 83 6 x23 rfl rfl (atf hx24 hx24) rfl (r0 15 rfl (Vma Ty.s29 (fun _=>rfl) rfl rfl rfl hx26 ?_))))
    exact raE hS108
  ·refine ra1 7 (oO rfl (Zya Ty.k29 rfl rfl rfl (atf hx24 hx24) (RA.fzi 76 6 x23 rfl rfl (atf hx24 hx24) rfl (r0 8 rfl (Qda Ty.s29 (fun _=>rfl) rfl rfl hx25 ?_)))))
   exact raT hS108
  ·refine ra1 13 (oO rfl (Zla Ty.s25 rfl rfl rfl rfl cl_l (ixf hx23) ?_))
   exact raE hS109
  ·refine ra2 1 14 ?_ ?_
   ·refine og 13 ⟨rfl,?_⟩
    exact raT hS109
   ·refine oO rfl (Zya Ty.k29 rfl rfl rfl (atf hx24 hx24) (RA.fzi 83 6 x23 rfl rfl (atf hx24 hx24) rfl (r0 15 rfl (Vma Ty.s29 (fun _=>rfl) rfl rfl rfl hx26 ?_))))
    exact raE hS106
  ·refine ra2 14 16 ?_ ?_
   ·refine oO rfl (Zya Ty.k29 rfl rfl rfl (atf hx24 hx24) (RA.fzi 83 6 x23 rfl rfl (atf hx24 hx24) rfl (r0 15 rfl (Vma Ty.s29 (fun _=>rfl) rfl rfl rfl hx26 ?_))))
    exact raE hS105
   ·refine og 13 ⟨rfl,?_⟩
    exact raT hS109
  ·refine ra1 14 (oO rfl (Zya Ty.k29 rfl rfl rfl (atf hx24 hx24) (RA.fzi 83 6 x23 rfl rfl (atf hx24 hx24) rfl (r0 15 rfl (Vma Ty.s29 (fun _=>rfl) rfl rfl rfl hx26 ?_)))))
   exact raE hS104
  ·refine ra1 9 (og 14 ⟨rfl,?_⟩)
   exact raT hS105
  ·refine ra2 1 16 ?_ ?_
   ·refine og 14 ⟨rfl,?_⟩
    exact raT hS105
   ·refine og 14 ⟨rfl,?_⟩
    exact raT hS106
  ·refine ra1 1 (og 14 ⟨rfl,?_⟩)
   exact raT hS104
  ·refine ra1 16 (og 14 ⟨rfl,?_⟩)
   exact raT hS104
  refine ra1 17 (oO rfl (Zla Ty.s25 rfl rfl rfl rfl cl_l (ixf (ixf hx23)) (ra1 18 (oO rfl (o_st_hdf Ty.c29 Ty.i29 (fun _=>rfl) (fun _=>rfl) rfl rfl rfl cl_l (atf (atf hx24 hx24) (atf hx24 hx24)) cl_f rfl rfl (RA.done (by decide +kernel) ?_))))))
  exact T.weakR (hK4 (x25.Key,x25.Val,x25.Dep,x2.1.At,(fzd (fzd (fzd x2.2 x23 x24) x23 x24) x23 x26)) h) (Weak.mkN [] [0,1,2,3,10,11,4,5,7,8,9,14] (by decide) (Qla _) rfl ⟨Qqa rfl,Qqa rfl,Qqa rfl,Qqa rfl,Qqa rfl,Qqa rfl,trivial⟩ (rw_bs (Qma p0) rfl (Jsa (cs:=[.ref 6,.ref 7,.ref 8,.ref 9,.ref 10]) (ds:=[.ref 4,.ref 5,.ref 7,.ref 8,.ref 9]) rfl ⟨Qza rfl,Qza rfl,Qza rfl,Qza rfl,Qza rfl,trivial⟩ (rw_bs (Qta p3) rfl (rw_bs [.nils,.nils,.nils,.nils,.nils] rfl (rw_bs (Qja x4) rfl (Jsa (cs:=(Qaa x25)) (ds:=(Qaa x25)) rfl ⟨Qga rfl,Qga rfl,Qga rfl,trivial⟩ (rw_ar rfl rfl (rw_hd rfl rfl (rw_ar rfl rfl (rw_ar rfl rfl (rw_ar rfl rfl (rw_cl (en:=Qaa) (ys:=(fzd (fzd (fzd x2.2 x23 x24) x23 x24) x23 x26)) rfl rfl (Qxa))))))))))))))
end Go.Proofs.YtfbmoockopakjaaGreat
