/-
  Part 4 of the proof of saveCutLaw.proved: the code computes these functions, and the law holds of them, with no condition beyond the statement's own; put together by a program of ours (wip/decl.py) out of texts of ours.
-/
import Derived.Test.YtchmpaaofmihcaaZSaveCut3
namespace Go.Proofs.Ytchmpaaofmihcaa
open Go.RowKit
set_option linter.unusedVariables false
set_option linter.unusedSimpArgs false
set_option maxRecDepth 100000
set_option maxHeartbeats 4000000
set_option synthInstance.maxSize 100000
set_option synthInstance.maxHeartbeats 4000000
theorem slices_ContainsFunc_int_x9c8e_c (p0:List Int) (p1:List Int) (p2:List (List Item)) (p3:List Memory) (p4:List Choice) (p5:List Item) (p6:List Node) (p7:Int) (p8:Int) (r:Bool) (h:J4a p0 p1 p2 p3 p4 p5 p6 p7 p8=some r):FnX Try.prog 75 [sL encI p0,.func 76 [.ptr 0 0,.ptr 1 0]] [.box [sL encI p1,sL (encL Qaa) p2,sL Qba p3,sL Qea p4,sL Qaa p5],.box [sL Jda p6,iI p7,iI p8]] (.bool r) [.box [sL encI p1,sL (encL Qaa) p2,sL Qba p3,sL Qea p4,sL Qaa p5],.box [sL Jda p6,iI p7,iI p8]]:=by
  unfold J4a at h
  refine fnT 2 Try.func75 Try.ntmps75 ?_
  refine T.seq (T.region (go 1 2 (RS.nil (T.seq ?_))))
  obtain ⟨x2,hx2,h⟩:=bind_some h
  refine T.region (go 2 2 (sO (Q5a (ac:=[sL encI p0,.func 76 [.ptr 0 0,.ptr 1 0]]) (as0:=[sL encI p0,.func 76 [.ptr 0 0,.ptr 1 0]]) (aw0:=[.box [sL encI p1,sL (encL Qaa) p2,sL Qba p3,sL Qea p4,sL Qaa p5],.box [sL Jda p6,iI p7,iI p8]]) (aw1:=[.box [sL encI p1,sL (encL Qaa) p2,sL Qba p3,sL Qea p4,sL Qaa p5],.box [sL Jda p6,iI p7,iI p8]]) (aw2:=[.box [sL encI p1,sL (encL Qaa) p2,sL Qba p3,sL Qea p4,sL Qaa p5],.box [sL Jda p6,iI p7,iI p8]]) (v:=iI x2) (v':=iI x2) (n0:=2) (n1:=2) [0,1] rfl rfl rfl rfl (by decide) (Jea (cs:=[sL encI p1,sL (encL Qaa) p2,sL Qba p3,sL Qea p4,sL Qaa p5]) (ds:=[sL encI p1,sL (encL Qaa) p2,sL Qba p3,sL Qea p4,sL Qaa p5]) rfl ⟨rn_s rfl,rn_s rfl,rn_s rfl,rn_s rfl,rn_s rfl,trivial⟩ (Jea (cs:=[sL Jda p6,iI p7,iI p8]) (ds:=[sL Jda p6,iI p7,iI p8]) rfl ⟨rn_s rfl,Qqa rfl,Qqa rfl,trivial⟩ (Qna))) ⟨rn_s rfl,rn_func ⟨Qma rfl,Qma rfl,trivial⟩,trivial⟩ (slices_IndexFunc_int_x9c8e_c p0 p1 p2 p3 p4 p5 p6 p7 p8 x2 hx2) rfl (Qia (Qsa _ _)) ⟨.inl ⟨0,_,by decide,rfl,Jaa (cs:=[sL encI p1,sL (encL Qaa) p2,sL Qba p3,sL Qea p4,sL Qaa p5]) (ds:=[sL encI p1,sL (encL Qaa) p2,sL Qba p3,sL Qea p4,sL Qaa p5]) ⟨Qia (Qwa encI_p _),Qia (Qwa (encL_p Jba) _),Qia (Qwa J7a _),Qia (Qwa J6a _),Qia (Qwa Jba _),trivial⟩⟩,.inl ⟨1,_,by decide,rfl,Jaa (cs:=[sL Jda p6,iI p7,iI p8]) (ds:=[sL Jda p6,iI p7,iI p8]) ⟨Qia (Qwa encNode_p _),Qia (Qsa _ _),Qia (Qsa _ _),trivial⟩⟩,trivial⟩ (go 2 2 (RS.nil ?_)))))
  cases h
  exact tN [0,1]
theorem slices_Clone_Keyed_c (p0 r:List Keyed) (h:Yva p0=some r):FnO Try.prog 87 [.sl (List.map Qla p0)] (.ref 0) [.arr 65 2 (List.map Qla r)]:=by
  have hr:p0=r:=by
    unfold Yva app at h
    split at h
    · simpa using h
    · cases h
  refine fn_of_T (N:=0) rfl Try.func87 rfl (by kernel_rfl) Try.ntmps87 rfl ?_
  show T _ _ _ _ (mkA 8 [(0,.sl (List.map Qla p0))]) []
  refine T.seq ?_
  refine T.region ?_
  refine RS.op rfl (OP.q rfl (Qgb (v:=.nils) rfl ?_))
  refine RS.nil ?_
  refine T.seq ?_
  refine T.seq ?_
  refine T.region ?_
  refine RS.op rfl (OP.q rfl (v_move (v:=.sl (List.map Qla p0)) rfl ?_))
  refine RS.op rfl (OP.q rfl (v_nileq Ty.s61 rfl rfl (fun z hz=>?_)))
  refine RS.nil ?_
  refine T.cond (b:=z) rfl (fun hb=>?_) (fun hb=>?_)
  · refine T.seq ?_
    refine T.region ?_
    refine RS.op rfl (OP.q rfl (Qgb (v:=.nils) rfl ?_))
    refine RS.nil ?_
    refine T.ret ?_
    refine res_tmpA (v:=.nils) rfl ?_
    refine Qmb ?_
    have h0:p0=[]:=List.map_eq_nil_iff.1 (hz hb)
    exact ret_own (.ref 0) [(0,65,2)] [0] (by decide) (Qpa _) rfl (Q6a rfl) (Jwa (en:=Qla) (ys:=[]) rfl Yba (by rw [← hr,h0]) (Qna)) ⟨rfl,rfl⟩
  · refine T.skip ?_
    refine T.seq ?_
    refine T.region ?_
    refine RS.op rfl (Qya (rows:=List.map Qla []) (vs:=[]) Ty.s61 Ty.z65 rfl rfl rfl rfl rfl (aw':=[.arr 65 2 (List.map Qla [])]) rfl ?_)
    refine RS.op rfl (OP.q rfl (v_move (v:=.sl (List.map Qla p0)) rfl ?_))
    refine RS.op rfl (Zta (en:=Qla) (xs:=([]:List Keyed)) (ys:=p0) (r:=r) Ty.s61 (fun _=>rfl) rfl rfl rfl h rfl (aw':=[.dead,.arr 65 2 (List.map Qla r)]) rfl ?_)
    refine RS.op rfl (OP.q rfl (Qgb (v:=.ref 1) rfl ?_))
    refine RS.nil ?_
    refine T.ret ?_
    refine res_tmpA (v:=.ref 1) rfl ?_
    refine Qmb ?_
    exact ret_own (.ref 0) [] [1] (by decide) (Qpa _) rfl (Q6a rfl) (Jwa rfl Yba rfl (Qna)) ⟨rfl,rfl⟩
theorem stage_Copy_c (p0:Memory) (r:Memory) (h:stage_Copy p0=some r):FnO Try.prog 79 [.agg (Qba p0)] (.agg [iI r.Sum,.ref 0,iI r.Dep]) [aR 65 2 Qla r.Keys]:=by
  unfold stage_Copy at h
  refine fnT 0 Try.func79 Try.ntmps79 ?_
  refine T.seq (T.region (go 2 0 (RS.nil (T.seq ?_))))
  obtain ⟨x2,hx2,h⟩:=bind_some h
  refine T.region (go 2 2 (sO (cO 2 (slices_Clone_Keyed_c p0.Keys x2 hx2) ⟨rfl,(go 2 3 (RS.nil (T.seq (T.region (go 2 3 (RS.nil ?_))))))⟩)))
  cases h
  exact tO [] [2] 3
theorem stage_mapped_1_c (p0:Item) (r:Int) (h:stage_mapped_1 p0=some r):Fn Try.prog 88 [.agg (Qaa p0)] (iI r):=by
  unfold stage_mapped_1 at h
  refine fnT 0 Try.func88 Try.ntmps88 ?_
  refine T.seq (T.region (go 2 0 (RS.nil (T.seq (T.region (go 4 1 (RS.nil ?_)))))))
  cases h
  exact tD
theorem stage_mapped_2_c (p0:Item) (r:Int) (h:stage_mapped_2 p0=some r):Fn Try.prog 89 [.agg (Qaa p0)] (iI r):=by
  unfold stage_mapped_2 at h
  refine fnT 0 Try.func89 Try.ntmps89 ?_
  refine T.seq (T.region (go 2 0 (RS.nil (T.seq (T.region (go 4 1 (RS.nil ?_)))))))
  cases h
  exact tD
theorem stage_mapped_3_c (p0:Item) (r:Int) (h:stage_mapped_3 p0=some r):Fn Try.prog 90 [.agg (Qaa p0)] (iI r):=by
  unfold stage_mapped_3 at h
  refine fnT 0 Try.func90 Try.ntmps90 ?_
  refine T.seq (T.region (go 2 0 (RS.nil (T.seq (T.region (go 4 1 (RS.nil ?_)))))))
  cases h
  exact tD
theorem stage_mapped_4_c (p0:Item) (r:Int) (h:stage_mapped_4 p0=some r):Fn Try.prog 91 [.agg (Qaa p0)] (iI r):=by
  unfold stage_mapped_4 at h
  refine fnT 0 Try.func91 Try.ntmps91 ?_
  refine T.seq (T.region (go 2 0 (RS.nil (T.seq (T.region (go 6 1 (RS.nil ?_)))))))
  cases h
  exact tD
theorem stage_mapped_c (p0:Int) (p1:Item) (r:Item) (h:stage_mapped p0 p1=some r):Fn Try.prog 80 [iI p0,.agg (Qaa p1)] (.agg (Qaa r)):=by
  unfold stage_mapped at h
  refine fnT 0 Try.func80 Try.ntmps80 ?_
  refine T.seq (T.region (go 2 0 (RS.nil (T.seq (T.region (sQ (v_build (cs:=[.func 88 [],.func 89 [],.func 90 [],.func 91 []]) Ty.z172 Ty.p172 rfl (go 2 2 (RS.nil ?_)))))))))
  obtain ⟨zt_4,hz,h⟩:=bind_some h
  revert hz h;revert zt_4;intro c6 hz h
  refine T.join (Z:=Unit) (fun _=>mkA 14 [(3,.ptr 0 0),(4,.ptr 1 0)]) (fun _=>[.box [iI p1.Key,iI c6,iI p1.Dep],.box [iI 0,iI 0,iI 0]]) (fun _=>True) (fun _ _=>?_) (fun hK=>?_)
  ·refine T.seq (T.region (go 2 2 (RS.nil ?_)))
   cases h
   exact tD
  rcases Qca (p0==0) with hb_1 | hb_1
  ·replace hz:=ite_T hz hb_1
   obtain ⟨x1,hx1,hz⟩:=bind_some hz
   refine T.drawn mixed (k:=7) rfl (rq [0] 6 (r0 1 rfl (v_index_arr (q:=0) Try.underlying172 Ty.c171 Ty.i171 rfl rfl (by simpa using hb_1) rfl rfl (off':=0) rfl (rL [2,4,5,6] 2 rfl (ra1 3 (og 3 ⟨rfl,(ra1 4 (oO rfl (cF (stage_mapped_1_c p1 x1 hx1) ⟨rfl,(rq [5] 1 (ra1 6 ?_))⟩)))⟩))))))
   refine og 3 ⟨rfl,(RA.done (by decide +kernel) ?_)⟩
   exact T.weakR (hK () trivial) (Weak.mkN [] [0,1] (by decide) (Qpa _) rfl ⟨Qma rfl,Qma rfl,trivial⟩ (Jea (cs:=[iI p1.Key,iI c6,iI p1.Dep]) (ds:=[iI p1.Key,iI x1,iI p1.Dep]) rfl ⟨Qqa rfl,Qqa ((congrArg (fun p=>p) (Option.some.inj hz)).symm),Qqa rfl,trivial⟩ (rw_bs [iI 0,iI 0,iI 0] rfl (Qna))))
  replace hz:=ite_F hz hb_1
  rcases Qca (p0==1) with hb_2 | hb_2
  ·replace hz:=ite_T hz hb_2
   obtain ⟨x2,hx2,hz⟩:=bind_some hz
   refine T.drawn mixed (k:=7) rfl (rq [0] 6 (r0 1 rfl (v_index_arr (q:=1) Try.underlying172 Ty.c171 Ty.i171 rfl rfl (by simpa using hb_2) rfl rfl (off':=1) rfl (rL [2,4,5,6] 2 rfl (ra1 3 (og 3 ⟨rfl,(ra1 4 (oO rfl (cF (stage_mapped_2_c p1 x2 hx2) ⟨rfl,(rq [5] 1 (ra1 6 ?_))⟩)))⟩))))))
   refine og 3 ⟨rfl,(RA.done (by decide +kernel) ?_)⟩
   exact T.weakR (hK () trivial) (Weak.mkN [] [0,1] (by decide) (Qpa _) rfl ⟨Qma rfl,Qma rfl,trivial⟩ (Jea (cs:=[iI p1.Key,iI c6,iI p1.Dep]) (ds:=[iI p1.Key,iI x2,iI p1.Dep]) rfl ⟨Qqa rfl,Qqa ((congrArg (fun p=>p) (Option.some.inj hz)).symm),Qqa rfl,trivial⟩ (rw_bs [iI 0,iI 0,iI 0] rfl (Qna))))
  replace hz:=ite_F hz hb_2
  rcases Qca (p0==2) with hb_3 | hb_3
  ·replace hz:=ite_T hz hb_3
   obtain ⟨x3,hx3,hz⟩:=bind_some hz
   refine T.drawn mixed (k:=7) rfl (rq [0] 6 (r0 1 rfl (v_index_arr (q:=2) Try.underlying172 Ty.c171 Ty.i171 rfl rfl (by simpa using hb_3) rfl rfl (off':=2) rfl (rL [2,4,5,6] 2 rfl (ra1 3 (og 3 ⟨rfl,(ra1 4 (oO rfl (cF (stage_mapped_3_c p1 x3 hx3) ⟨rfl,(rq [5] 1 (ra1 6 ?_))⟩)))⟩))))))
   refine og 3 ⟨rfl,(RA.done (by decide +kernel) ?_)⟩
   exact T.weakR (hK () trivial) (Weak.mkN [] [0,1] (by decide) (Qpa _) rfl ⟨Qma rfl,Qma rfl,trivial⟩ (Jea (cs:=[iI p1.Key,iI c6,iI p1.Dep]) (ds:=[iI p1.Key,iI x3,iI p1.Dep]) rfl ⟨Qqa rfl,Qqa ((congrArg (fun p=>p) (Option.some.inj hz)).symm),Qqa rfl,trivial⟩ (rw_bs [iI 0,iI 0,iI 0] rfl (Qna))))
  replace hz:=ite_F hz hb_3
  obtain ⟨x4,hx4,hz⟩:=bind_some hz
  obtain ⟨x5,hx5,hz⟩:=bind_some hz
  refine T.drawn mixed (k:=7) rfl (rq [0] 6 (r0 1 rfl (v_index_arr (q:=3) Try.underlying172 Ty.c171 Ty.i171 rfl rfl (isAt_some hx4) rfl rfl (off':=3) rfl (rL [2,4,5,6] 2 rfl (ra1 3 (og 3 ⟨rfl,(ra1 4 (oO rfl (cF (stage_mapped_4_c p1 x5 hx5) ⟨rfl,(rq [5] 1 (ra1 6 ?_))⟩)))⟩))))))
  refine og 3 ⟨rfl,(RA.done (by decide +kernel) ?_)⟩
  exact T.weakR (hK () trivial) (Weak.mkN [] [0,1] (by decide) (Qpa _) rfl ⟨Qma rfl,Qma rfl,trivial⟩ (Jea (cs:=[iI p1.Key,iI c6,iI p1.Dep]) (ds:=[iI p1.Key,iI x5,iI p1.Dep]) rfl ⟨Qqa rfl,Qqa ((congrArg (fun p=>p) (Option.some.inj hz)).symm),Qqa rfl,trivial⟩ (rw_bs [iI 0,iI 0,iI 0] rfl (Qna))))
theorem stage_Step_1_c (p0:Keyed) (p1:Int) (r:Int) (h:Jbb p0 p1=some r):Fn Try.prog 82 [.agg (Qla p0),iI p1] (iI r):=by
  unfold Jbb at h
  refine fnT 0 Try.func82 Try.ntmps82 ?_
  refine T.seq (T.region (go 2 0 (RS.nil (T.seq (T.block (T.seq (T.region (go 5 1 (RS.nil ?_)))))))))
  refine T.ci h rfl (fun hb_1 h=>?_) (fun hb_1 h=>?_)
  ·refine T.seq (T.region (go 1 1 (RS.nil ?_)))
   cases h
   exact tD
  refine T.seq (T.region (go 5 1 (RS.nil (T.ci h rfl (fun hb_2 h=>?_) (fun hb_2 h=>?_)))))
  ·refine T.seq (T.region (go 1 1 (RS.nil ?_)))
   cases h
   exact tD
  refine T.skip (T.seq (T.region (go 1 1 (RS.nil ?_))))
  cases h
  exact tD
theorem Qqb (p0:List Keyed) (p1:Int) (r:Int × Bool) (h:Jna p0 p1=some r):Fn Try.prog 81 [sL Qla p0,iI p1,.func 82 []] (.tup [iI r.1,.bool r.2]):=by
  unfold Jna at h
  refine fnT 0 Try.func81 Try.ntmps81 ?_
  refine T.seq (T.region (go 2 0 (RS.nil (T.seq (T.region (go 1 0 (sQ (Qha Ty.s61 rfl (go 1 0 (RS.nil ?_))))))))))
  refine T.seq (T.region (go 3 0 (RS.nil (T.seq (T.block (T.iter (fun ss_5:Int × Int=>mkA 49 [(0,sL Qla p0),(1,iI p1),(2,.func 82 []),(8,iI ((p0).length:Int)),(9,iI ss_5.1),(10,iI ss_5.2)]) (fun ss_5=>[]) h (wk [] [] 0 rfl) (fun ss_5 v_6 h hv_6=>?_)))))))
  obtain ⟨s1,s2⟩:=ss_5
  replace h:Jja p0 p1 s1 s2=some v_6:=h
  try dsimp only
  unfold Jja at h
  refine T.seq (T.seq (T.region (go 3 0 (RS.nil (T.ci h rfl (fun hb_7 h=>?_) (fun hb_7 h=>?_))))))
  ·refine T.skip (T.block (T.seq ?_))
   obtain ⟨x4,hx4,h⟩:=bind_some h
   refine T.region (go 4 0 (sQ (v_shr rfl rfl hx4 (go 2 0 (RS.nil (T.seq ?_))))))
   obtain ⟨x7,hx7,h⟩:=bind_some h
   obtain ⟨x8,hx8,h⟩:=bind_some h
   refine T.region (go 3 0 (sQ (Qga Ty.s61 (fun _=>rfl) rfl rfl hx7 (go 2 0 (sO (cF (stage_Step_1_c x7 p1 x8 hx8) ⟨rfl,(go 1 0 (RS.nil (T.ci h rfl (fun hb_8 h=>?_) (fun hb_8 h=>?_))))⟩))))))
   ·refine T.region (go 3 0 (RS.nil ?_))
    exact ⟨(IntKind.i64.wrap ((IntKind.i64.wrap x4)+1),s2),(Option.some.inj h).symm,wk [] [] 0 rfl⟩
   refine T.region (go 2 0 (RS.nil ?_))
   exact ⟨(s1,IntKind.i64.wrap x4),(Option.some.inj h).symm,wk [] [] 0 rfl⟩
  refine T.exit ?_
  obtain ⟨w_9,h,hw_9⟩:=Qua h
  replace h:=h.trans (congrArg some (hv_6 _ hw_9))
  obtain ⟨zt_11,hz,h⟩:=bind_some h
  revert hz h;revert zt_11;intro c11 hz h
  refine T.join (Z:=Unit) (fun _=>mkA 49 [(6,iI s1),(7,.bool c11)]) (fun _=>[]) (fun _=>True) (fun _ _=>?_) (fun hK=>?_)
  ·cases h
   exact tD
  refine T.region (go 5 0 ?_)
  rcases Qca (decide (s1<((p0).length:Int))) with hb_10 | hb_10
  ·replace hz:=ite_T hz hb_10
   obtain ⟨x9,hx9,hz⟩:=bind_some hz
   obtain ⟨x10,hx10,hz⟩:=bind_some hz
   refine yg 0 hb_10 (yg 0 hb_10 (yg 0 hb_10 (yQ hb_10 (Qga Ty.s61 (fun _=>rfl) rfl rfl hx9 (yg 0 hb_10 (yg 0 hb_10 (yO hb_10 (cF (stage_Step_1_c x9 p1 x10 hx10) ⟨rfl,(yg 0 hb_10 (sQ (Qfa (v:=.bool (x10==0)) rfl hb_10 rfl (go 2 0 ?_))))⟩))))))))
   refine RS.nil ?_
   exact T.sub (hK () trivial) ⟨rfl,(congrArg AV.bool ((congrArg (fun p=>p) (Option.some.inj hz)).symm)).symm,trivial⟩
  replace hz:=ite_F hz hb_10
  refine sN hb_10 (sN hb_10 (sN hb_10 (sN hb_10 (sN hb_10 (sN hb_10 (sN hb_10 (sN hb_10 (sQ (Qda (v:=.bool false) rfl hb_10 rfl (go 2 0 ?_))))))))))
  refine RS.nil ?_
  exact T.sub (hK () trivial) ⟨rfl,(congrArg AV.bool ((congrArg (fun p=>p) (Option.some.inj hz)).symm)).symm,trivial⟩
theorem slices_Insert_Keyed_xe708_c (p0:Int) (p1:List Keyed) (p2:List Keyed) (r:List Keyed) (h:Zka p0 p1 p2=some r):FnX Try.prog 83 [.ref 0,iI p0,.ref 1] [aR 65 2 Qla p1,aR 65 2 Qla p2] (.ref 2) [.dead,.dead,aR 65 2 Qla r]:=by
  unfold Zka at h
  refine fnT 2 Try.func83 Try.ntmps83 ?_
  refine T.mvS 0 0 rfl rfl rfl rfl (T.exposeM 0 2 (xs:=p1) rfl rfl (fun C hC=>?_))
  have h:=allC_some h C hC
  unfold Vta at h
  refine T.seq (T.region (go 1 3 (RS.nil (T.seq ?_))))
  obtain ⟨x2,hx2,h⟩:=bind_some h
  refine T.region (go 2 3 (sO (o_slice_vc Ty.s61 rfl rfl rfl hx2 (RS.nil (T.seq (T.region (go 1 3 (sQ (Yoa (en:=Qla) Ty.s61 rfl rfl (go 1 3 (RS.nil ?_)))))))))))
  refine T.seq (T.seq (T.region (go 2 3 (RS.nil (T.ci h rfl (fun hb_1 h=>?_) (fun hb_1 h=>?_))))))
  ·cases h
  refine T.skip (T.seq (T.region (go 1 3 (sO (v_len_vw Ty.s61 rfl (go 1 3 (RS.nil (T.seq (T.seq (T.region ?_))))))))))
  refine go 3 3 (RS.nil (T.ci h rfl (fun hb_2 h=>?_) (fun hb_2 h=>?_)))
  ·refine T.seq ?_
   obtain ⟨x4,hx4,h⟩:=bind_some h
   refine T.region (go 2 3 (sO (o_app_vw (en:=Qla) (xs:=p1) (ys:=p2) Ty.s61 (fun _=>rfl) rfl rfl rfl rfl rfl rfl hx4 rfl rfl (go 1 4 (RS.nil ?_)))))
   cases h
   exact tO [] [0,1,3] 4
  refine T.skip (T.seq (T.seq (T.region (go 4 3 (sO (o_cap_vw Ty.s61 rfl (go 1 3 (RS.nil (T.ci h rfl (fun hb_3 h=>?_) (fun hb_3 h=>?_))))))))))
  ·refine T.seq ?_
   obtain ⟨x7,hx7,h⟩:=bind_some h
   obtain ⟨x8,hx8,h⟩:=bind_some h
   refine T.region (go 2 3 (sO (o_slice_vh Ty.s61 rfl rfl hx7 (go 5 3 (sO (o_app_vz (en:=Qla) (z0:=(⟨0,0⟩:Keyed)) (xs:=p1) Ty.s61 Try.underlying3 Ty.z65 (fun _=>rfl) rfl rfl rfl hx8 rfl rfl (go 1 4 (RS.nil (T.seq ?_)))))))))
   obtain ⟨x11,hx11,h⟩:=bind_some h
   obtain ⟨x12,hx12,h⟩:=bind_some h
   refine T.region (go 2 4 (sO (Q8b (en:=Qla) (xs:=x8) Ty.s61 rfl rfl rfl rfl hx11 (go 1 4 (sO (o_copy_vr (en:=Qla) (xs:=x8) (ys:=p2) Ty.s61 (fun _=>rfl) rfl rfl rfl rfl hx12 rfl (RS.nil (T.seq ?_))))))))
   obtain ⟨x17,hx17,h⟩:=bind_some h
   obtain ⟨x18,hx18,h⟩:=bind_some h
   obtain ⟨x19,hx19,h⟩:=bind_some h
   obtain ⟨x20,hx20,h⟩:=bind_some h
   refine T.drawn mixed (k:=9) rfl ?_
   apply RA.jn 1 #[true,true,true,true,true,true,true,true,false];intro hS4
   ·refine rq [0,1,2,3,5,6] 3 (ra2 4 7 ?_ ?_)
    ·refine oO rfl (Q8b (en:=Qla) (xs:=(cpy x8 ((p0).toNat) ((((x8).length:Int)).toNat - (p0).toNat) p2)) Ty.s61 rfl rfl rfl rfl hx17 (ra1 7 (oO rfl (o_slice_vc Ty.s61 rfl rfl rfl hx18 ?_))))
     exact raE hS4
    ·refine oO rfl (o_slice_vc Ty.s61 rfl rfl rfl hx18 (ra1 4 (oO rfl (Q8b (en:=Qla) (xs:=(cpy x8 ((p0).toNat) ((((x8).length:Int)).toNat - (p0).toNat) p2)) Ty.s61 rfl rfl rfl rfl hx17 ?_))))
     exact raT hS4
   refine ra1 8 (oO rfl (o_copy_v2 (en:=Qla) (xs:=(cpy x8 ((p0).toNat) ((((x8).length:Int)).toNat - (p0).toNat) p2)) (ys:=p1) Ty.s61 (fun _=>rfl) rfl rfl rfl rfl hx19 hx20 rfl (RA.done (by decide +kernel) (T.seq (T.region (go 2 4 (RS.nil ?_)))))))
   cases h
   exact tO [] [0,1,3] 4
  refine T.skip (T.seq ?_)
  obtain ⟨x22,hx22,h⟩:=bind_some h
  refine T.region (go 4 3 (sO (o_room (en:=Qla) (xs:=p1) Ty.s61 rfl rfl rfl rfl hx22 rfl rfl (go 1 4 (RS.nil (T.seq (T.seq ?_)))))))
  obtain ⟨x25,hx25,h⟩:=bind_some h
  obtain ⟨x26,hx26,h⟩:=bind_some h
  refine T.region (go 5 4 (sO (o_slice_U (en:=Qla) (xs:=p1) Ty.s61 rfl rfl rfl rfl hx25 (sO (o_overlaps (fn:=Try.f92) (tS:=61) (tR:=4) (en:=Qla) (xs:=p1) (ys:=p2) Try.func92 (by kernel_rfl) (by kernel_rfl) (by kernel_rfl) (by kernel_rfl) Ty.s61 rfl rfl rfl rfl hx26 (go 1 4 (RS.nil (T.ct rfl (T.seq ?_)))))))))
  obtain ⟨x30,hx30,h⟩:=bind_some h
  obtain ⟨x31,hx31,h⟩:=bind_some h
  obtain ⟨x32,hx32,h⟩:=bind_some h
  refine T.drawn mixed (k:=9) rfl ?_
  apply RA.jn 1 #[true,true,true,true,true,true,true,true,false];intro hS5
  ·refine rq [0,1,2,3,5,6] 3 (ra2 4 7 ?_ ?_)
   ·refine oO rfl (o_slice_U (en:=Qla) (xs:=p1) Ty.s61 rfl rfl rfl rfl hx30 (ra1 7 (oO rfl (o_slice_U (en:=Qla) (xs:=p1) Ty.s61 rfl rfl rfl rfl hx31 ?_))))
    exact raE hS5
   ·refine oO rfl (o_slice_U (en:=Qla) (xs:=p1) Ty.s61 rfl rfl rfl rfl hx31 (ra1 4 (oO rfl (o_slice_U (en:=Qla) (xs:=p1) Ty.s61 rfl rfl rfl rfl hx30 ?_))))
    exact raT hS5
  refine ra1 8 (oO rfl (o_copy_U (en:=Qla) (xs:=p1) Ty.s61 (fun _=>rfl) rfl rfl rfl hx32 rfl (RA.done (by decide +kernel) (T.seq ?_))))
  obtain ⟨x35,hx35,h⟩:=bind_some h
  obtain ⟨x36,hx36,h⟩:=bind_some h
  refine T.region (go 2 4 (sO (Q8b (en:=Qla) (xs:=x32) Ty.s61 rfl rfl rfl rfl hx35 (go 1 4 (sO (o_copy_vr (en:=Qla) (xs:=x32) (ys:=p2) Ty.s61 (fun _=>rfl) rfl rfl rfl rfl hx36 rfl (RS.nil (T.seq (T.region (go 2 4 (RS.nil ?_)))))))))))
  cases h
  exact tO [] [0,1,3] 4
theorem Yla (p0:Int) (p1:Int) (p2:Memory) (p3:Item) (r:Memory × Item × Int) (h:Qnb p0 p1 p2 p3=some r):Fn Try.prog 69 [iI p0,iI p1,.agg (Qba p2),.agg (Qaa p3)] (.tup [.agg (Qba r.1),.agg (Qaa r.2.1),iI r.2.2]):=by
  unfold Qnb at h
  refine fnT 0 Try.func69 Try.ntmps69 ?_
  refine T.seq (T.region (go 5 0 (RS.nil (T.seq (T.seq ?_)))))
  obtain ⟨x2,hx2,h⟩:=bind_some h
  refine T.region (go 1 4 (sO (cF (stage_Check_c p2 x2 hx2) ⟨rfl,(go 1 4 (RS.nil (T.seq (T.region (go 2 4 (RS.nil (T.ci h rfl (fun hb_1 h=>?_) (fun hb_1 h=>?_))))))))⟩)))
  ·refine T.seq (T.region (go 6 4 (RS.nil ?_)))
   cases h
   exact tD
  refine T.skip (T.seq (T.seq (T.region (go 3 4 (RS.nil (T.ci h rfl (fun hb_2 h=>?_) (fun hb_2 h=>?_)))))))
  ·refine T.seq (T.region (go 5 4 (RS.nil ?_)))
   cases h
   exact tD
  refine T.skip (T.seq ?_)
  obtain ⟨x4,hx4,h⟩:=bind_some h
  refine T.region (go 1 4 (sO (Q5a (ac:=[.agg (Qba p2)]) (as0:=[.agg (Qba p2)]) (aw0:=[]) (aw1:=[aR 65 2 Qla x4.Keys]) (aw2:=[.box (Qba p2),.box (Qaa p3),.box [iI 0,.nils,iI 0],.box [iI 0,iI 0,iI 0],aR 65 2 Qla x4.Keys]) (v:=.agg [iI x4.Sum,.ref 0,iI x4.Dep]) (v':=.agg [iI x4.Sum,.ref 4,iI x4.Dep]) (n0:=4) (n1:=1) [] rfl rfl rfl rfl (by decide) (Qna) ⟨rn_agg ⟨Qqa rfl,rn_s rfl,Qqa rfl,trivial⟩,trivial⟩ (FnX.of_fnO (stage_Copy_c p2 x4 hx4)) rfl (rm_agg (cs:=[iI x4.Sum,.ref 4,iI x4.Dep]) (ds:=[iI x4.Sum,.ref 0,iI x4.Dep]) ⟨Qia (Qsa _ _),Jya (by decide),Qia (Qsa _ _),trivial⟩) ⟨.inr ⟨rfl,rfl⟩,.inr ⟨rfl,rfl⟩,.inr ⟨rfl,rfl⟩,.inr ⟨rfl,rfl⟩,.inl ⟨0,_,by decide,rfl,Jia Yba⟩,trivial⟩ (go 1 5 (RS.nil (T.seq (T.seq (T.region (go 1 5 (RS.nil ?_))))))))))
  refine T.block (T.seq (T.region (go 2 5 (RS.nil (T.ci h rfl (fun hb_3 h=>?_) (fun hb_3 h=>?_))))))
  ·refine T.seq (T.join (Z:=Unit) (fun _=>mkA 137 [(1,iI p1),(6,.ptr 0 0),(7,.ptr 1 0),(8,.ptr 2 0),(9,.ptr 3 0),(36,.bool ((decide (p1<0)) || decide (p1 > 3)))]) (fun _=>[.box [iI x4.Sum,.ref 4,iI x4.Dep],.box (Qaa p3),.box [iI 0,.nils,iI 0],.box [iI 0,iI 0,iI 0],aR 65 2 Qla x4.Keys]) (fun _=>True) (fun _ _=>?_) (fun hK=>?_))
   ·refine T.ci h rfl (fun hb_5 h=>?_) (fun hb_5 h=>?_)
    ·refine T.seq (T.region (go 5 5 (RS.nil ?_)))
     cases h
     exact tD
    refine T.skip (T.seq ?_)
    obtain ⟨x7,hx7,h⟩:=bind_some h
    refine T.drawn mixed (k:=7) rfl ?_
    apply RA.jn 3 #[true,true,true,true,false,false,false];intro hS6
    ·refine rq [1] 6 (rL [2,3,4,5,6] 2 rfl (ra2 0 3 ?_ ?_))
     ·refine og 5 ⟨rfl,(ra1 3 (oO rfl (cF (stage_mapped_c p1 p3 x7 hx7) ⟨rfl,?_⟩)))⟩
      exact raE hS6
     ·refine oO rfl (cF (stage_mapped_c p1 p3 x7 hx7) ⟨rfl,(ra1 0 (og 5 ⟨rfl,?_⟩))⟩)
      exact raT hS6
    refine ra1 4 (og 5 ⟨rfl,(ra1 5 (og 5 ⟨rfl,(rq [6] 0 (RA.done (by decide +kernel) ?_))⟩))⟩)
    cases h
    exact tD
   refine T.region (go 3 5 ?_)
   rcases Qca (decide (p1<0)) with hb_4 | hb_4
   ·refine sN hb_4 (sN hb_4 (sQ (Qfa (v:=.bool true) rfl hb_4 rfl (RS.nil ?_))))
    exact T.sub (hK () trivial) ⟨rfl,rfl,rfl,rfl,rfl,(congrArg AV.bool (by simp only [hb_4,bz,if_true,if_false,Bool.false_eq_true])).symm,trivial⟩
   refine yg 5 hb_4 (yg 5 hb_4 (sQ (Qda (v:=.bool (decide (p1 > 3))) rfl hb_4 rfl (RS.nil ?_))))
   exact T.sub (hK () trivial) ⟨rfl,rfl,rfl,rfl,rfl,(congrArg AV.bool (by simp only [hb_4,bz,if_true,if_false,Bool.false_eq_true])).symm,trivial⟩
  refine T.seq (T.region (go 2 5 (RS.nil (T.ci h rfl (fun hb_7 h=>?_) (fun hb_7 h=>?_)))))
  ·refine T.seq (T.region (go 7 5 (RS.nil (T.seq (T.region (go 7 5 (RS.nil (T.seq (T.drawn mixed (k:=11) rfl ?_)))))))))
   apply RA.jn 2 #[true,true,true,true,true,true,true,true,true,false,false];intro hS8
   apply RA.jn 3 #[true,true,true,true,true,true,true,true,false,false,false];intro hS9
   apply RA.jn 4 #[true,true,true,true,true,true,false,false,true,false,false];intro hS10
   apply RA.jn 4 #[true,true,true,true,false,true,true,false,true,false,false];intro hS11
   apply RA.jn 5 #[true,true,true,true,false,true,true,false,false,false,false];intro hS12
   apply RA.jn 5 #[true,true,false,true,true,true,true,false,false,false,false];intro hS13
   apply RA.jn 5 #[true,true,true,true,true,true,false,false,false,false,false];intro hS14
   ·refine rq [1,3,5] 8 (rL [0,8,9,10] 0 rfl (ra4 2 4 6 8 ?_ ?_ ?_ ?_))
    ·refine og 5 ⟨rfl,(ra3 4 6 8 ?_ ?_ ?_)⟩
     ·refine og 5 ⟨rfl,?_⟩
      exact raE hS14
     ·refine og 5 ⟨rfl,?_⟩
      exact raE hS12
     ·refine og 5 ⟨rfl,(rL [4,7,9,10] 4 rfl ?_)⟩
      exact raE hS10
    ·refine og 5 ⟨rfl,(ra3 2 6 8 ?_ ?_ ?_)⟩
     ·refine og 5 ⟨rfl,?_⟩
      exact raT hS14
     ·refine og 5 ⟨rfl,?_⟩
      exact raE hS13
     ·refine og 5 ⟨rfl,(rL [2,7,9,10] 2 rfl ?_)⟩
      exact raT hS10
    ·refine og 5 ⟨rfl,(ra3 2 4 8 ?_ ?_ ?_)⟩
     ·refine og 5 ⟨rfl,?_⟩
      exact raT hS12
     ·refine og 5 ⟨rfl,?_⟩
      exact raT hS13
     ·refine og 5 ⟨rfl,(rL [2,7,9,10] 2 rfl ?_)⟩
      exact raE hS11
    ·refine og 5 ⟨rfl,(rL [2,7,9,10] 2 rfl (rL [4,7,9,10] 4 rfl ?_))⟩
     exact raT hS10
   ·refine ra2 6 8 ?_ ?_
    ·refine og 5 ⟨rfl,(rq [7] 3 ?_)⟩
     exact raE hS9
    ·refine og 5 ⟨rfl,?_⟩
     exact raT hS10
   ·refine ra2 2 8 ?_ ?_
    ·refine og 5 ⟨rfl,(rq [7] 3 ?_)⟩
     exact raT hS9
    ·refine og 5 ⟨rfl,(ra1 2 (og 5 ⟨rfl,(rq [7] 2 ?_)⟩))⟩
     exact raE hS8
   ·refine ra2 4 8 ?_ ?_
    ·refine og 5 ⟨rfl,(rq [7] 3 ?_)⟩
     exact raT hS9
    ·refine og 5 ⟨rfl,?_⟩
     exact raT hS11
   ·refine ra1 4 (og 5 ⟨rfl,(rq [7] 2 ?_)⟩)
    exact raT hS8
   ·refine ra1 6 (og 5 ⟨rfl,(rq [7] 2 ?_)⟩)
    exact raT hS8
   ·refine ra1 8 (og 5 ⟨rfl,?_⟩)
    exact raT hS8
   refine ra1 9 (og 5 ⟨rfl,(rq [10] 0 (RA.done (by decide +kernel) ?_))⟩)
   cases h
   exact tD
  refine T.seq (T.region (go 2 5 (RS.nil (T.ci h rfl (fun hb_15 h=>?_) (fun hb_15 h=>?_)))))
  ·refine T.seq ?_
   obtain ⟨x9,hx9,h⟩:=bind_some h
   refine T.region (go 4 5 (sO (cF (Qqb x4.Keys p3.Key x9 hx9) ⟨rfl,(go 5 5 (RS.nil (T.seq (T.region (go 7 5 (RS.nil (T.seq ?_)))))))⟩)))
   refine T.join (Z:=Unit) (fun _=>mkA 137 [(6,.ptr 0 0),(7,.ptr 1 0),(8,.ptr 2 0),(9,.ptr 3 0),(12,iI x9.1),(13,.bool x9.2),(88,.bool ((!x9.2) && ((x4.Keys).length:Int)==6))]) (fun _=>[.box [iI x4.Sum,.ref 4,iI (if p3.Dep > x4.Dep then p3.Dep else x4.Dep)],.box (Qaa p3),.box [iI 0,.nils,iI 0],.box [iI 0,iI 0,iI 0],aR 65 2 Qla x4.Keys]) (fun _=>True) (fun _ _=>?_) (fun hK=>?_)
   ·refine T.ci h rfl (fun hb_17 h=>?_) (fun hb_17 h=>?_)
    ·refine T.seq (T.drawn mixed (k:=9) rfl ?_)
     apply RA.jn 2 #[true,true,true,true,true,true,true,false,false];intro hS18
     apply RA.jn 3 #[true,true,true,true,true,true,false,false,false];intro hS19
     apply RA.jn 4 #[true,true,true,true,false,false,true,false,false];intro hS20
     ·refine rq [1,3] 7 (rL [0,6,7,8] 0 rfl (ra3 2 4 6 ?_ ?_ ?_))
      ·refine og 5 ⟨rfl,(ra2 4 6 ?_ ?_)⟩
       ·refine og 5 ⟨rfl,(rq [5] 3 ?_)⟩
        exact raE hS19
       ·refine og 5 ⟨rfl,?_⟩
        exact raE hS20
      ·refine og 5 ⟨rfl,(ra2 2 6 ?_ ?_)⟩
       ·refine og 5 ⟨rfl,(rq [5] 3 ?_)⟩
        exact raT hS19
       ·refine og 5 ⟨rfl,(ra1 2 (og 5 ⟨rfl,(rq [5] 2 ?_)⟩))⟩
        exact raE hS18
      ·refine og 5 ⟨rfl,(rL [2,5,7,8] 2 rfl ?_)⟩
       exact raT hS20
     ·refine ra1 4 (og 5 ⟨rfl,(rq [5] 2 ?_)⟩)
      exact raT hS18
     ·refine ra1 6 (og 5 ⟨rfl,?_⟩)
      exact raT hS18
     refine ra1 7 (og 5 ⟨rfl,(rq [8] 0 (RA.done (by decide +kernel) ?_))⟩)
     cases h
     exact tD
    refine T.skip (T.join (Z:=List Keyed) (fun zz_22=>mkA 137 [(6,.ptr 0 0),(7,.ptr 1 0),(8,.ptr 2 0),(9,.ptr 3 0),(12,iI x9.1)]) (fun zz_22=>[.box [iI x4.Sum,.ref 4,iI (if p3.Dep > x4.Dep then p3.Dep else x4.Dep)],.box (Qaa p3),.box [iI 0,.nils,iI 0],.box [iI 0,iI 0,iI 0],aR 65 2 Qla zz_22]) (fun zz_22=>Yna p3 x4 x9 zz_22=some r) (fun zz_22 h=>?_) (fun hK1=>?_))
    ·revert h;revert zz_22;intro z12 h
     replace h:Yna p3 x4 x9 z12=some r:=h
     try dsimp only
     unfold Yna at h
     refine T.seq ?_
     obtain ⟨x17,hx17,h⟩:=bind_some h
     obtain ⟨x18,hx18,h⟩:=bind_some h
     obtain ⟨x19,hx19,h⟩:=bind_some h
     obtain ⟨x20,hx20,h⟩:=bind_some h
     refine T.region (go 3 5 (sQ (Qta (en:=Qla) Ty.s61 rfl rfl rfl hx17 (go 1 5 (sO (Q2a (en:=Qla) (a:=x18) rfl rfl hx18 (J3a Ty.k3 (c:=iI x18.N) rfl (go 1 5 (sQ (Qta (en:=Qla) Ty.s61 rfl rfl rfl hx19 (go 1 5 (sO (Z6a (en:=Qla) (a:=x20) (a':=(⟨x20.Key,IntKind.i64.wrap (x18.N+1)⟩:Keyed)) Ty.c3 Ty.i3 rfl (vs:=[iI (IntKind.i64.wrap (x18.N+1))]) rfl rfl rfl hx20 rfl rfl rfl (RS.nil ?_))))))))))))))
     refine T.seq ?_
     obtain ⟨x23,hx23,h⟩:=bind_some h
     obtain ⟨x24,hx24,h⟩:=bind_some h
     refine T.drawn mixed (k:=15) rfl ?_
     apply RA.jn 2 #[true,true,true,true,true,true,true,true,true,true,true,true,true,false,false];intro hS23
     apply RA.jn 3 #[true,true,true,true,true,true,true,true,true,true,true,true,false,false,false];intro hS24
     apply RA.jn 4 #[true,true,true,true,true,true,true,true,false,true,true,false,true,false,false];intro hS25
     apply RA.jn 4 #[true,true,true,true,true,true,true,true,true,true,false,false,true,false,false];intro hS26
     apply RA.jn 5 #[true,true,true,true,true,true,true,true,false,true,true,false,false,false,false];intro hS27
     apply RA.jn 5 #[true,true,false,true,true,true,true,true,true,true,true,false,false,false,false];intro hS28
     apply RA.jn 5 #[true,true,true,true,true,true,true,true,true,true,false,false,false,false,false];intro hS29
     apply RA.jn 6 #[true,true,false,true,true,true,true,true,false,true,true,false,false,false,false];intro hS30
     apply RA.jn 6 #[true,true,true,true,true,true,true,true,false,true,false,false,false,false,false];intro hS31
     apply RA.jn 7 #[true,true,false,true,true,true,true,true,false,true,false,false,false,false,false];intro hS32
     apply RA.jn 8 #[true,true,true,true,false,true,false,false,false,true,true,false,false,false,false];intro hS33
     apply RA.jn 9 #[true,true,false,true,false,true,false,false,false,true,true,false,false,false,false];intro hS34
     apply RA.jn 9 #[false,true,true,true,false,true,false,false,false,true,true,false,false,false,false];intro hS35
     apply RA.jn 9 #[true,true,true,true,false,true,false,false,false,true,false,false,false,false,false];intro hS36
     ·refine rq [1,3,5,9] 11 (ra4 0 2 4 10 ?_ ?_ ?_ ?_)
      ·refine og 5 ⟨rfl,(ra4 2 4 10 12 ?_ ?_ ?_ ?_)⟩
       ·refine og 5 ⟨rfl,?_⟩
        exact raE hS36
       ·refine og 5 ⟨rfl,(r0 6 rfl (Qta (en:=Qla) Ty.s61 rfl rfl rfl hx23 (rq [7] 7 ?_)))⟩
        exact raE hS32
       ·refine og 5 ⟨rfl,?_⟩
        exact raE hS34
       ·refine og 5 ⟨rfl,(rL [4,6,7,8,11,13,14] 4 rfl (r0 6 rfl (Qta (en:=Qla) Ty.s61 rfl rfl rfl hx23 (rq [7] 6 (rL [2,11,13,14] 2 rfl (rL [10,11,13,14] 10 rfl ?_))))))⟩
        exact raE hS25
      ·refine og 5 ⟨rfl,(ra3 0 4 10 ?_ ?_ ?_)⟩
       ·refine og 5 ⟨rfl,?_⟩
        exact raT hS36
       ·refine og 5 ⟨rfl,(r0 6 rfl (Qta (en:=Qla) Ty.s61 rfl rfl rfl hx23 (rq [7] 7 (rL [0,12,13,14] 0 rfl ?_))))⟩
        exact raE hS31
       ·refine og 5 ⟨rfl,?_⟩
        exact raE hS35
      ·refine og 5 ⟨rfl,(r0 6 rfl (Qta (en:=Qla) Ty.s61 rfl rfl rfl hx23 (rq [7] 8 (rL [0,12,13,14] 0 rfl ?_))))⟩
       exact raT hS32
      ·refine og 5 ⟨rfl,(ra3 0 2 4 ?_ ?_ ?_)⟩
       ·refine og 5 ⟨rfl,?_⟩
        exact raT hS34
       ·refine og 5 ⟨rfl,?_⟩
        exact raT hS35
       ·refine og 5 ⟨rfl,(r0 6 rfl (Qta (en:=Qla) Ty.s61 rfl rfl rfl hx23 (rq [7] 7 (rL [0,12,13,14] 0 rfl ?_))))⟩
        exact raE hS30
     ·refine ra3 4 10 12 ?_ ?_ ?_
      ·refine og 5 ⟨rfl,(r0 6 rfl (Qta (en:=Qla) Ty.s61 rfl rfl rfl hx23 (rq [7] 6 ?_)))⟩
       exact raT hS31
      ·refine og 5 ⟨rfl,?_⟩
       exact raE hS33
      ·refine og 5 ⟨rfl,(rL [4,6,7,8,11,13,14] 4 rfl (r0 6 rfl (Qta (en:=Qla) Ty.s61 rfl rfl rfl hx23 (rq [7] 5 (rL [10,11,13,14] 10 rfl ?_)))))⟩
       exact raT hS25
     ·refine ra2 0 4 ?_ ?_
      ·refine og 5 ⟨rfl,?_⟩
       exact raT hS33
      ·refine og 5 ⟨rfl,(r0 6 rfl (Qta (en:=Qla) Ty.s61 rfl rfl rfl hx23 (rq [7] 6 (rL [0,12,13,14] 0 rfl ?_))))⟩
       exact raE hS27
     ·refine ra3 2 4 12 ?_ ?_ ?_
      ·refine og 5 ⟨rfl,?_⟩
       exact raT hS33
      ·refine og 5 ⟨rfl,(r0 6 rfl (Qta (en:=Qla) Ty.s61 rfl rfl rfl hx23 (rq [7] 6 ?_)))⟩
       exact raT hS30
      ·refine og 5 ⟨rfl,(rL [4,6,7,8,11,13,14] 4 rfl (r0 6 rfl (Qta (en:=Qla) Ty.s61 rfl rfl rfl hx23 (rq [7] 5 (rL [2,11,13,14] 2 rfl ?_)))))⟩
       exact raT hS25
     ·refine ra2 4 12 ?_ ?_
      ·refine og 5 ⟨rfl,(r0 6 rfl (Qta (en:=Qla) Ty.s61 rfl rfl rfl hx23 (rq [7] 5 ?_)))⟩
       exact raT hS27
      ·refine og 5 ⟨rfl,(ra1 4 (og 5 ⟨rfl,(r0 6 rfl (Qta (en:=Qla) Ty.s61 rfl rfl rfl hx23 (rq [7] 4 ?_)))⟩))⟩
       exact raT hS25
     ·refine ra4 2 8 10 12 ?_ ?_ ?_ ?_
      ·refine og 5 ⟨rfl,?_⟩
       exact raT hS31
      ·refine oO rfl (Q2a (en:=Qla) (a:=x24) rfl rfl hx24 (J3a Ty.k3 (c:=iI x24.N) rfl (ra3 2 10 12 ?_ ?_ ?_)))
       ·refine og 5 ⟨rfl,?_⟩
        exact raE hS29
       ·refine og 5 ⟨rfl,?_⟩
        exact raE hS28
       ·refine og 5 ⟨rfl,(rL [2,11,13,14] 2 rfl ?_)⟩
        exact raE hS26
      ·refine og 5 ⟨rfl,?_⟩
       exact raT hS30
      ·refine og 5 ⟨rfl,(rL [2,11,13,14] 2 rfl (rL [10,11,13,14] 10 rfl ?_))⟩
       exact raT hS25
     ·refine ra3 8 10 12 ?_ ?_ ?_
      ·refine oO rfl (Q2a (en:=Qla) (a:=x24) rfl rfl hx24 (J3a Ty.k3 (c:=iI x24.N) rfl ?_))
       exact raT hS29
      ·refine og 5 ⟨rfl,?_⟩
       exact raT hS27
      ·refine og 5 ⟨rfl,(rL [10,11,13,14] 10 rfl ?_)⟩
       exact raT hS25
     ·refine ra3 2 8 12 ?_ ?_ ?_
      ·refine og 5 ⟨rfl,?_⟩
       exact raT hS27
      ·refine oO rfl (Q2a (en:=Qla) (a:=x24) rfl rfl hx24 (J3a Ty.k3 (c:=iI x24.N) rfl ?_))
       exact raT hS28
      ·refine og 5 ⟨rfl,(rL [2,11,13,14] 2 rfl ?_)⟩
       exact raT hS25
     ·refine ra2 10 12 ?_ ?_
      ·refine og 5 ⟨rfl,(rq [11] 3 ?_)⟩
       exact raE hS24
      ·refine og 5 ⟨rfl,?_⟩
       exact raT hS26
     ·refine ra2 2 12 ?_ ?_
      ·refine og 5 ⟨rfl,(rq [11] 3 ?_)⟩
       exact raT hS24
      ·refine og 5 ⟨rfl,(ra1 2 (og 5 ⟨rfl,(rq [11] 2 ?_)⟩))⟩
       exact raE hS23
     ·refine ra2 8 12 ?_ ?_
      ·refine oO rfl (Q2a (en:=Qla) (a:=x24) rfl rfl hx24 (J3a Ty.k3 (c:=iI x24.N) rfl (rq [11] 3 ?_)))
       exact raT hS24
      ·refine og 5 ⟨rfl,?_⟩
       exact raT hS25
     ·refine ra1 10 (og 5 ⟨rfl,(rq [11] 2 ?_)⟩)
      exact raT hS23
     ·refine ra1 8 (oO rfl (Q2a (en:=Qla) (a:=x24) rfl rfl hx24 (J3a Ty.k3 (c:=iI x24.N) rfl (rq [11] 2 ?_))))
      exact raT hS23
     ·refine ra1 12 (og 5 ⟨rfl,?_⟩)
      exact raT hS23
     refine ra1 13 (og 5 ⟨rfl,(rq [14] 0 (RA.done (by decide +kernel) ?_))⟩)
     cases h
     exact tD
    refine T.seq (T.region (go 2 5 (RS.nil (T.ci h rfl (fun hb_37 h=>?_) (fun hb_37 h=>?_)))))
    ·obtain ⟨x11,hx11,h⟩:=bind_some h
     refine T.region (go 6 5 (sO (Qya (rows:=List.map Qla [(⟨p3.Key,0⟩:Keyed)]) (vs:=[.agg [iI p3.Key,iI 0]]) Ty.s61 Ty.z65 rfl rfl rfl rfl rfl rfl (sO (Q5a (ac:=[.ref 4,iI x9.1,.ref 5]) (as0:=[.ref 0,iI x9.1,.ref 1]) (aw0:=[aR 65 2 Qla x4.Keys,aR 65 2 Qla ([(⟨p3.Key,0⟩:Keyed)]:List Keyed)]) (aw1:=[.dead,.dead,aR 65 2 Qla x11]) (aw2:=[.box [iI x4.Sum,.ref 4,iI (if p3.Dep > x4.Dep then p3.Dep else x4.Dep)],.box (Qaa p3),.box [iI 0,.nils,iI 0],.box [iI 0,iI 0,iI 0],.dead,.dead,aR 65 2 Qla x11]) (v:=.ref 2) (v':=.ref 6) (n0:=6) (n1:=3) [4,5] rfl rfl rfl rfl (by decide) (Jwa rfl Yba rfl (Jwa rfl Yba rfl (Qna))) ⟨Q6a rfl,Qqa rfl,Q6a rfl,trivial⟩ (slices_Insert_Keyed_xe708_c x9.1 x4.Keys ([(⟨p3.Key,0⟩:Keyed)]:List Keyed) x11 hx11) rfl (Jya (by decide)) ⟨.inr ⟨rfl,rfl⟩,.inr ⟨rfl,rfl⟩,.inr ⟨rfl,rfl⟩,.inr ⟨rfl,rfl⟩,.inl ⟨0,_,by decide,rfl,trivial⟩,.inl ⟨1,_,by decide,rfl,trivial⟩,.inl ⟨2,_,by decide,rfl,Jia Yba⟩,trivial⟩ (go 2 7 (RS.nil ?_)))))))
     exact T.weakR (hK1 x11 h) (wk [] [0,1,2,3,6] 7 rfl)
    refine T.skip ?_
    exact T.su (hK1 x4.Keys h)
   refine T.region (go 3 5 ?_)
   rcases Qca (!x9.2) with hb_16 | hb_16
   ·refine yg 5 hb_16 (yg 5 hb_16 (yQ hb_16 (Yoa (en:=Qla) Ty.s61 rfl rfl (yg 5 hb_16 (sQ (Qfa (v:=.bool (((x4.Keys).length:Int)==6)) rfl hb_16 rfl (RS.nil ?_)))))))
    exact T.sub (hK () trivial) ⟨rfl,rfl,rfl,rfl,rfl,rfl,(congrArg AV.bool (by simp only [hb_16,bz,if_true,if_false,Bool.false_eq_true])).symm,trivial⟩
   refine sN hb_16 (sN hb_16 (sN hb_16 (sN hb_16 (sQ (Qda (v:=.bool false) rfl hb_16 rfl (RS.nil ?_))))))
   exact T.sub (hK () trivial) ⟨rfl,rfl,rfl,rfl,rfl,rfl,(congrArg AV.bool (by simp only [hb_16,bz,if_true,if_false,Bool.false_eq_true])).symm,trivial⟩
  refine T.seq (T.seq (T.region (go 2 5 (RS.nil (T.ci h rfl (fun hb_38 h=>?_) (fun hb_38 h=>?_))))))
  ·refine T.skip (T.ci h rfl (fun hb_39 h=>?_) (fun hb_39 h=>?_))
   ·refine T.seq (T.drawn mixed (k:=5) rfl ?_)
    apply RA.jn 2 #[true,true,true,false,false];intro hS40
    ·refine rL [0,2,3,4] 0 rfl (ra2 1 2 ?_ ?_)
     ·refine og 5 ⟨rfl,(ra1 2 (og 5 ⟨rfl,?_⟩))⟩
      exact raE hS40
     ·refine og 5 ⟨rfl,(ra1 1 (og 5 ⟨rfl,?_⟩))⟩
      exact raT hS40
    refine ra1 3 (og 5 ⟨rfl,(rq [4] 0 (RA.done (by decide +kernel) ?_))⟩)
    cases h
    exact tD
   refine T.skip (T.seq (T.region (go 5 5 (RS.nil ?_))))
   cases h
   exact tD
  refine T.seq (T.region (go 2 5 (RS.nil (T.ci h rfl (fun hb_41 h=>?_) (fun hb_41 h=>?_)))))
  ·refine T.skip (T.ci h rfl (fun hb_42 h=>?_) (fun hb_42 h=>?_))
   ·refine T.seq (T.drawn mixed (k:=5) rfl ?_)
    apply RA.jn 2 #[true,true,true,false,false];intro hS43
    ·refine rL [0,2,3,4] 0 rfl (ra2 1 2 ?_ ?_)
     ·refine og 5 ⟨rfl,(ra1 2 (og 5 ⟨rfl,?_⟩))⟩
      exact raE hS43
     ·refine og 5 ⟨rfl,(ra1 1 (og 5 ⟨rfl,?_⟩))⟩
      exact raT hS43
    refine ra1 3 (og 5 ⟨rfl,(rq [4] 0 (RA.done (by decide +kernel) ?_))⟩)
    cases h
    exact tD
   refine T.skip (T.seq (T.region (go 5 5 (RS.nil ?_))))
   cases h
   exact tD
  refine T.seq (T.region (go 2 5 (RS.nil (T.ci h rfl (fun hb_44 h=>?_) (fun hb_44 h=>?_)))))
  ·refine T.skip (T.ci h rfl (fun hb_45 h=>?_) (fun hb_45 h=>?_))
   ·refine T.seq (T.drawn mixed (k:=5) rfl ?_)
    apply RA.jn 2 #[true,true,true,false,false];intro hS46
    ·refine rL [0,2,3,4] 0 rfl (ra2 1 2 ?_ ?_)
     ·refine og 5 ⟨rfl,(ra1 2 (og 5 ⟨rfl,?_⟩))⟩
      exact raE hS46
     ·refine og 5 ⟨rfl,(ra1 1 (og 5 ⟨rfl,?_⟩))⟩
      exact raT hS46
    refine ra1 3 (og 5 ⟨rfl,(rq [4] 0 (RA.done (by decide +kernel) ?_))⟩)
    cases h
    exact tD
   refine T.skip (T.seq (T.region (go 5 5 (RS.nil ?_))))
   cases h
   exact tD
  refine T.seq (T.region (go 2 5 (RS.nil (T.ci h rfl (fun hb_47 h=>?_) (fun hb_47 h=>?_)))))
  ·refine T.skip (T.ci h rfl (fun hb_48 h=>?_) (fun hb_48 h=>?_))
   ·refine T.seq (T.drawn mixed (k:=5) rfl ?_)
    apply RA.jn 2 #[true,true,true,false,false];intro hS49
    ·refine rL [0,2,3,4] 0 rfl (ra2 1 2 ?_ ?_)
     ·refine og 5 ⟨rfl,(ra1 2 (og 5 ⟨rfl,?_⟩))⟩
      exact raE hS49
     ·refine og 5 ⟨rfl,(ra1 1 (og 5 ⟨rfl,?_⟩))⟩
      exact raT hS49
    refine ra1 3 (og 5 ⟨rfl,(rq [4] 0 (RA.done (by decide +kernel) ?_))⟩)
    cases h
    exact tD
   refine T.skip (T.seq (T.region (go 5 5 (RS.nil ?_))))
   cases h
   exact tD
  refine T.region (go 2 5 (RS.nil (T.ci h rfl (fun hb_50 h=>?_) (fun hb_50 h=>?_))))
  ·refine T.seq (T.drawn mixed (k:=5) rfl ?_)
   apply RA.jn 2 #[true,true,true,false,false];intro hS51
   ·refine rL [0,2,3,4] 0 rfl (ra2 1 2 ?_ ?_)
    ·refine og 5 ⟨rfl,(ra1 2 (og 5 ⟨rfl,?_⟩))⟩
     exact raE hS51
    ·refine og 5 ⟨rfl,(ra1 1 (og 5 ⟨rfl,?_⟩))⟩
     exact raT hS51
   refine ra1 3 (og 5 ⟨rfl,(rq [4] 0 (RA.done (by decide +kernel) ?_))⟩)
   cases h
   exact tD
  refine T.skip (T.seq (T.region (go 5 5 (RS.nil ?_))))
  cases h
  exact tD
theorem move_can_c (p0:Net) (p1:List (List Item)) (p2:State) (p3:Move) (r:Bool) (h:move_can p0 p1 p2 p3=some r):Fn Try.prog 65 [.agg (Jca p0),sL (encL Qaa) p1,.agg (Qra p2),.agg (Zda p3)] (.bool r):=by
  unfold move_can at h
  refine fnT 0 Try.func65 Try.ntmps65 ?_
  refine T.seq (T.region (go 4 0 (RS.nil (T.seq ?_))))
  obtain ⟨x2,hx2,h⟩:=bind_some h
  refine T.region (go 4 3 (sQ (Qga Ty.s22 (fun _=>rfl) rfl rfl hx2 (go 3 3 (RS.nil (T.seq ?_))))))
  obtain ⟨x4,hx4,h⟩:=bind_some h
  refine T.region (go 4 4 (sO (cF (move_head_c p0 p1 p2 p3 x4 hx4) ⟨rfl,(go 6 4 (RS.nil (T.seq ?_)))⟩)))
  obtain ⟨zt_2,hz,h⟩:=bind_some h
  revert hz h;revert zt_2;intro c7 hz h
  refine T.join (Z:=Unit) (fun _=>mkA 76 [(6,.ptr 0 0),(7,.ptr 1 0),(9,.ptr 2 0),(10,.ptr 3 0),(37,.bool c7)]) (fun _=>[.box (Qra p2),.box (Zda p3),.box (Jda x2),.box (Qaa x4.1)]) (fun _=>True) (fun _ _=>?_) (fun hK=>?_)
  ·refine T.ci h rfl (fun hb_3 h=>?_) (fun hb_3 h=>?_)
   ·refine T.seq (T.region (go 1 4 (RS.nil ?_)))
    cases h
    exact tD
   refine T.skip (T.seq (T.join (Z:=Unit) (fun _=>mkA 76 [(6,.ptr 0 0),(7,.ptr 1 0),(9,.ptr 2 0),(10,.ptr 3 0),(57,.bool (if (x2.Kind==6)=true then ((((p2.Choices).length:Int)==500) || ((x2.Kind==8) && ((p2.Out).length:Int)==2000)) else ((x2.Kind==8) && ((p2.Out).length:Int)==2000)))]) (fun _=>[.box (Qra p2),.box (Zda p3),.box (Jda x2),.box (Qaa x4.1)]) (fun _=>True) (fun _ _=>?_) (fun hK=>?_)))
   ·refine T.ci h rfl (fun hb_8 h=>?_) (fun hb_8 h=>?_)
    ·refine T.seq (T.region (go 1 4 (RS.nil ?_)))
     cases h
     exact tD
    refine T.skip (T.seq ?_)
    obtain ⟨x11,hx11,h⟩:=bind_some h
    obtain ⟨x12,hx12,h⟩:=bind_some h
    refine T.drawn mixed (k:=21) rfl ?_
    apply RA.jn 3 #[true,true,true,true,true,true,true,true,true,true,true,true,true,true,true,true,true,true,false,false,false];intro hS9
    apply RA.jn 4 #[true,true,true,true,true,true,true,true,true,true,true,true,true,true,true,true,false,true,false,false,false];intro hS10
    apply RA.jn 4 #[true,true,true,true,true,true,true,true,true,true,true,true,true,true,true,true,true,false,false,false,false];intro hS11
    apply RA.jn 8 #[true,true,true,true,true,true,true,true,true,true,true,false,false,false,false,false,true,true,false,false,false];intro hS12
    ·refine rq [0,2,4,6] 17 (rL [1,11,12,13,14,15,18,19,20] 1 rfl (rL [3,11,12,13,14,15,18,19,20] 3 rfl (rL [5,8,9,11,12,13,14,15,18,19,20] 5 rfl (rL [7,8,9,11,12,13,14,15,18,19,20] 7 rfl (r0 8 rfl (Qga Ty.s27 (fun _=>rfl) rfl rfl hx11 (rL [9,11,12,13,14,15,18,19,20] 9 rfl (rL [10,11,12,13,14,15,18,19,20] 10 rfl (ra3 11 16 17 ?_ ?_ ?_)))))))))
     ·refine oO rfl (cD (Yla x2.Kind x2.A x11 x4.1 x12 hx12) ⟨rfl,(rq [12,13,14,15] 5 (ra2 16 17 ?_ ?_))⟩)
      ·refine og 4 ⟨rfl,?_⟩
       exact raE hS11
      ·refine og 4 ⟨rfl,?_⟩
       exact raE hS10
     ·refine og 4 ⟨rfl,(ra2 11 17 ?_ ?_)⟩
      ·refine oO rfl (cD (Yla x2.Kind x2.A x11 x4.1 x12 hx12) ⟨rfl,(rq [12,13,14,15] 4 ?_)⟩)
       exact raT hS11
      ·refine og 5 ⟨rfl,?_⟩
       exact raE hS12
     ·refine og 4 ⟨rfl,(ra2 11 16 ?_ ?_)⟩
      ·refine oO rfl (cD (Yla x2.Kind x2.A x11 x4.1 x12 hx12) ⟨rfl,(rq [12,13,14,15] 4 ?_)⟩)
       exact raT hS10
      ·refine og 5 ⟨rfl,?_⟩
       exact raV hS12 [0,1,2,3,5,4] rfl
    ·refine ra1 11 (oO rfl (cD (Yla x2.Kind x2.A x11 x4.1 x12 hx12) ⟨rfl,(rq [12,13,14,15] 3 ?_)⟩))
     exact raE hS9
    ·refine ra1 17 (og 5 ⟨rfl,?_⟩)
     exact raT hS9
    ·refine ra1 16 (og 5 ⟨rfl,?_⟩)
     exact raV hS9 [0,1,2,3,5,4] rfl
    refine ra1 18 (og 6 ⟨rfl,(ra1 19 (og 6 ⟨rfl,(rq [20] 0 (RA.done (by decide +kernel) (T.seq (T.region (go 3 6 (RS.nil ?_))))))⟩))⟩)
    cases h
    exact tD
   refine T.region (go 4 4 ?_)
   rcases Qca (x2.Kind==6) with hb_4 | hb_4
   ·refine yg 4 hb_4 (yg 4 hb_4 (yQ hb_4 (Qha Ty.s28 rfl (yg 4 hb_4 (sQ (Qfa (v:=.bool (((p2.Choices).length:Int)==500)) rfl hb_4 rfl (go 1 4 ?_)))))))
    rcases Qca (((p2.Choices).length:Int)==500) with hb_5 | hb_5
    ·refine sN hb_5 (sN hb_5 (sN hb_5 (sN hb_5 (sU (sU (sU (sU (sN hb_5 (sQ (Qfa (v:=.bool true) rfl hb_5 rfl ?_))))))))))
     refine RS.nil ?_
     exact T.sub (hK () trivial) ⟨rfl,rfl,rfl,rfl,(congrArg AV.bool (by simp only [hb_4,hb_5,bz,if_true,if_false,Bool.false_eq_true])).symm,trivial⟩
    refine yg 4 hb_5 (yg 4 hb_5 (yg 4 hb_5 (yg 4 hb_5 ?_)))
    rcases Qca (x2.Kind==8) with hb_6 | hb_6
    ·refine yg 4 hb_6 (yg 4 hb_6 (yQ hb_6 (Qha Ty.s29 rfl (yg 4 hb_6 (yQ hb_5 (Qfa (v:=.bool (((p2.Out).length:Int)==2000)) rfl hb_6 rfl (sQ (Qda (v:=.bool (((p2.Out).length:Int)==2000)) rfl hb_5 rfl (RS.nil ?_)))))))))
     exact T.sub (hK () trivial) ⟨rfl,rfl,rfl,rfl,(congrArg AV.bool (by simp only [hb_4,hb_5,hb_6,bz,if_true,if_false,Bool.false_eq_true])).symm,trivial⟩
    refine sN hb_6 (sN hb_6 (sN hb_6 (sN hb_6 (yQ hb_5 (Qda (v:=.bool false) rfl hb_6 rfl (sQ (Qda (v:=.bool false) rfl hb_5 rfl (RS.nil ?_))))))))
    exact T.sub (hK () trivial) ⟨rfl,rfl,rfl,rfl,(congrArg AV.bool (by simp only [hb_4,hb_5,hb_6,bz,if_true,if_false,Bool.false_eq_true])).symm,trivial⟩
   refine sN hb_4 (sN hb_4 (sN hb_4 (sN hb_4 (sQ (Qda (v:=.bool false) rfl hb_4 rfl (go 1 4 (yg 4 rfl (yg 4 rfl (yg 4 rfl (yg 4 rfl ?_))))))))))
   rcases Qca (x2.Kind==8) with hb_7 | hb_7
   ·refine yg 4 hb_7 (yg 4 hb_7 (yQ hb_7 (Qha Ty.s29 rfl (yg 4 hb_7 (yQ rfl (Qfa (v:=.bool (((p2.Out).length:Int)==2000)) rfl hb_7 rfl (sQ (Qda (v:=.bool (((p2.Out).length:Int)==2000)) rfl rfl rfl (RS.nil ?_)))))))))
    exact T.sub (hK () trivial) ⟨rfl,rfl,rfl,rfl,(congrArg AV.bool (by simp only [hb_4,hb_7,bz,if_true,if_false,Bool.false_eq_true])).symm,trivial⟩
   refine sN hb_7 (sN hb_7 (sN hb_7 (sN hb_7 (yQ rfl (Qda (v:=.bool false) rfl hb_7 rfl (sQ (Qda (v:=.bool false) rfl rfl rfl (RS.nil ?_))))))))
   exact T.sub (hK () trivial) ⟨rfl,rfl,rfl,rfl,(congrArg AV.bool (by simp only [hb_4,hb_7,bz,if_true,if_false,Bool.false_eq_true])).symm,trivial⟩
  refine T.region (go 3 5 ?_)
  rcases Qca (!x4.2) with hb_1 | hb_1
  ·replace hz:=ite_T hz hb_1
   refine sN hb_1 (sN hb_1 (sN hb_1 (sN hb_1 (sN hb_1 (sQ (Qfa (v:=.bool true) rfl hb_1 rfl (RS.nil ?_)))))))
   exact T.weakR (hK () trivial) (Weak.mkN [] [1,2,3,4] (by decide) (Qpa _) rfl ⟨Qma rfl,Qma rfl,Qma rfl,Qma rfl,Jla ((congrArg (fun p=>p) (Option.some.inj hz)).symm),trivial⟩ (rw_bs (Qra p2) rfl (rw_bs (Zda p3) rfl (rw_bs (Jda x2) rfl (rw_bs (Qaa x4.1) rfl (Qna))))))
  replace hz:=ite_F hz hb_1
  obtain ⟨x5,hx5,hz⟩:=bind_some hz
  obtain ⟨x6,hx6,hz⟩:=bind_some hz
  refine yg 5 hb_1 (yg 5 hb_1 (yO hb_1 (cD (move_outs_c x2 x4.1 x5 hx5) ⟨rfl,(yg 5 hb_1 (yO hb_1 (Q5a (ac:=[sL encI x5,.func 76 [.ptr 1 0,.ptr 0 0]]) (as0:=[sL encI x5,.func 76 [.ptr 0 0,.ptr 1 0]]) (aw0:=[.box (Qra p2),.box (Jca p0)]) (aw1:=[.box (Qra p2),.box (Jca p0)]) (aw2:=[.box (Jca p0),.box (Qra p2),.box (Zda p3),.box (Jda x2),.box (Qaa x4.1)]) (v:=.bool x6) (v':=.bool x6) (n0:=5) (n1:=2) [1,0] rfl rfl rfl rfl (by decide) (Jea (cs:=(Qra p2)) (ds:=(Qra p2)) rfl ⟨rn_s rfl,rn_s rfl,rn_s rfl,rn_s rfl,rn_s rfl,trivial⟩ (Jea (cs:=(Jca p0)) (ds:=(Jca p0)) rfl ⟨rn_s rfl,Qqa rfl,Qqa rfl,trivial⟩ (Qna))) ⟨rn_s rfl,rn_func ⟨Qma rfl,Qma rfl,trivial⟩,trivial⟩ (slices_ContainsFunc_int_x9c8e_c x5 p2.At p2.Rings p2.Memory p2.Choices p2.Out p0.Nodes p0.Rings p0.Room x6 hx6) rfl (Qia (Vfa _)) ⟨.inl ⟨1,_,by decide,rfl,Jaa (cs:=(Jca p0)) (ds:=(Jca p0)) ⟨Qia (Qwa encNode_p _),Qia (Qsa _ _),Qia (Qsa _ _),trivial⟩⟩,.inl ⟨0,_,by decide,rfl,Jaa (cs:=(Qra p2)) (ds:=(Qra p2)) ⟨Qia (Qwa encI_p _),Qia (Qwa (encL_p Jba) _),Qia (Qwa J7a _),Qia (Qwa J6a _),Qia (Qwa Jba _),trivial⟩⟩,.inr ⟨rfl,rfl⟩,.inr ⟨rfl,rfl⟩,.inr ⟨rfl,rfl⟩,trivial⟩ (sQ (Qda (v:=.bool x6) rfl hb_1 rfl (RS.nil ?_))))))⟩)))
  exact T.weakR (hK () trivial) (Weak.mkN [] [1,2,3,4] (by decide) (Qpa _) rfl ⟨Qma rfl,Qma rfl,Qma rfl,Qma rfl,Jla ((congrArg (fun p=>p) (Option.some.inj hz)).symm),trivial⟩ (rw_bs (Qra p2) rfl (rw_bs (Zda p3) rfl (rw_bs (Jda x2) rfl (rw_bs (Qaa x4.1) rfl (Qna))))))
theorem move_ready_c (p0:Net) (p1:List (List Item)) (p2:State) (r:List Move) (h:move_ready p0 p1 p2=some r):FnO Try.prog 43 [.agg (Jca p0),sL (encL Qaa) p1,.agg (Qra p2)] (.ref 0) [aR 110 2 Zda r]:=by
  unfold move_ready at h
  refine fnT 0 Try.func43 Try.ntmps43 ?_
  refine T.seq (T.region (go 3 0 (RS.nil (T.seq (T.region (go 1 2 (RS.nil (T.seq (T.seq ?_)))))))))
  refine T.region (go 2 2 (sQ (Qha Ty.s22 rfl (go 1 2 (RS.nil (T.block (T.iter (fun ss_27:Int × (List Move)=>mkA 46 [(1,sL (encL Qaa) p1),(3,.ptr 0 0),(5,.ptr 1 0),(7,.ref 2),(14,sL Jda p0.Nodes),(15,iI ((p0.Nodes).length:Int)),(16,iI ss_27.1)]) (fun ss_27=>[.box (Jca p0),.box (Qra p2),aR 110 2 Zda ss_27.2]) h (wk [(7,110,2)] [0,1,2] 2 rfl) (fun ss_27 v_28 h hv_28=>?_))))))))
  obtain ⟨s1,s2⟩:=ss_27
  replace h:V2a p0 p1 p2 s1 s2=some v_28:=h
  try dsimp only
  unfold V2a at h
  refine T.seq (T.region (go 1 3 (RS.nil (T.seq (T.ci h rfl (fun hb_29 h=>?_) (fun hb_29 h=>?_))))))
  ·refine T.skip (T.seq (T.block (T.seq ?_)))
   obtain ⟨x4,hx4,h⟩:=bind_some h
   refine T.region (go 1 3 (sQ (Qga Ty.s22 (fun _=>rfl) rfl rfl hx4 (go 4 3 (RS.nil (T.seq (T.region (go 1 4 (RS.nil (T.join (Z:=Int) (fun zz_31=>mkA 46 [(1,sL (encL Qaa) p1),(3,.ptr 0 0),(5,.ptr 1 0),(7,.ref 2),(8,iI s1),(10,iI zz_31),(14,sL Jda p0.Nodes),(15,iI ((p0.Nodes).length:Int)),(16,iI s1)]) (fun zz_31=>[.box (Jca p0),.box (Qra p2),aR 110 2 Zda s2]) (fun zz_31=>Qib p0 p1 s1 p2 s2 zz_31=some v_28) (fun zz_31 h=>?_) (fun hK2=>?_)))))))))))
   ·revert h;revert zz_31;intro z5 h
    replace h:Qib p0 p1 s1 p2 s2 z5=some v_28:=h
    try dsimp only
    unfold Qib at h
    refine T.seq (T.region (go 2 3 (RS.nil (T.block (T.iter (fun ss_36:Int × (List Move)=>mkA 46 [(1,sL (encL Qaa) p1),(3,.ptr 0 0),(5,.ptr 1 0),(7,.ref 2),(8,iI s1),(14,sL Jda p0.Nodes),(15,iI ((p0.Nodes).length:Int)),(16,iI s1),(27,iI z5),(28,iI ss_36.1)]) (fun ss_36=>[.box (Jca p0),.box (Qra p2),aR 110 2 Zda ss_36.2]) h (wk [] [0,1,2] 3 rfl) (fun ss_36 v_37 h hv_37=>?_))))))
    obtain ⟨s6,s7⟩:=ss_36
    replace h:Zsa p0 p1 s1 p2 z5 s6 s7=some v_37:=h
    try dsimp only
    unfold Zsa at h
    refine T.seq (T.region (go 1 3 (RS.nil (T.seq (T.ci h rfl (fun hb_38 h=>?_) (fun hb_38 h=>?_))))))
    ·refine T.skip (T.seq (T.block (T.seq (T.region (go 2 3 (RS.nil (T.seq (T.region (go 5 3 ?_)))))))))
     refine RS.nil (T.seq ?_)
     obtain ⟨x9,hx9,h⟩:=bind_some h
     refine T.region (go 4 4 (sO (cF (move_can_c p0 p1 p2 (⟨s1,s6⟩:Move) x9 hx9) ⟨rfl,(RS.nil (T.ci h rfl (fun hb_39 h=>?_) (fun hb_39 h=>?_)))⟩)))
     ·obtain ⟨x10,hx10,h⟩:=bind_some h
      refine T.region (go 2 4 (sO (Qya (rows:=List.map Zda [(⟨s1,s6⟩:Move)]) (vs:=[.agg [iI s1,iI s6]]) Ty.s106 Ty.z110 rfl rfl rfl rfl rfl rfl (sO (Zta (en:=Zda) (xs:=s7) (ys:=([(⟨s1,s6⟩:Move)]:List Move)) Ty.s106 (fun _=>rfl) rfl rfl rfl hx10 rfl rfl (go 1 6 (RS.nil (T.region (go 2 6 (RS.nil ?_))))))))))
      exact ⟨(IntKind.i64.wrap (s6+1),x10),(Option.some.inj h).symm,wk [] [0,1,5] 6 rfl⟩
     refine T.skip (T.region (go 2 4 (RS.nil ?_)))
     exact ⟨(IntKind.i64.wrap (s6+1),s7),(Option.some.inj h).symm,wk [] [0,1,2] 4 rfl⟩
    refine T.exit ?_
    obtain ⟨w_40,h,hw_40⟩:=Qua h
    replace h:=h.trans (congrArg some (hv_37 _ hw_40))
    refine T.region (go 2 3 (RS.nil ?_))
    exact ⟨(IntKind.i64.wrap (s1+1),s7),(Option.some.inj h).symm,wk [] [0,1,2] 3 rfl⟩
   refine T.seq (T.region (go 3 4 (RS.nil (T.ci h rfl (fun hb_41 h=>?_) (fun hb_41 h=>?_)))))
   ·refine T.region (go 2 4 (sQ (Qha Ty.s26 rfl (go 1 4 (RS.nil ?_)))))
    exact T.weakR (hK2 ((x4.In).length:Int) h) (wk [] [0,1,2] 4 rfl)
   refine T.skip ?_
   exact T.weakR (hK2 1 h) (wk [] [0,1,2] 4 rfl)
  refine T.exit ?_
  obtain ⟨w_42,h,hw_42⟩:=Qua h
  replace h:=h.trans (congrArg some (hv_28 _ hw_42))
  refine T.seq (T.region (go 2 3 (RS.nil ?_)))
  cases h
  exact tO [] [2] 3
theorem Vua (p0 r:List Item) (h:Voa p0=some r):FnO Try.prog 77 [.sl (List.map Qaa p0)] (.ref 0) [.arr 94 3 (List.map Qaa r)]:=by
  have hr:p0=r:=by
    unfold Voa app at h
    split at h
    · simpa using h
    · cases h
  refine fn_of_T (N:=0) rfl Try.func77 rfl (by kernel_rfl) Try.ntmps77 rfl ?_
  show T _ _ _ _ (mkA 8 [(0,.sl (List.map Qaa p0))]) []
  refine T.seq ?_
  refine T.region ?_
  refine RS.op rfl (OP.q rfl (Qgb (v:=.nils) rfl ?_))
  refine RS.nil ?_
  refine T.seq ?_
  refine T.seq ?_
  refine T.region ?_
  refine RS.op rfl (OP.q rfl (v_move (v:=.sl (List.map Qaa p0)) rfl ?_))
  refine RS.op rfl (OP.q rfl (v_nileq Ty.s29 rfl rfl (fun z hz=>?_)))
  refine RS.nil ?_
  refine T.cond (b:=z) rfl (fun hb=>?_) (fun hb=>?_)
  · refine T.seq ?_
    refine T.region ?_
    refine RS.op rfl (OP.q rfl (Qgb (v:=.nils) rfl ?_))
    refine RS.nil ?_
    refine T.ret ?_
    refine res_tmpA (v:=.nils) rfl ?_
    refine Qmb ?_
    have h0:p0=[]:=List.map_eq_nil_iff.1 (hz hb)
    exact ret_own (.ref 0) [(0,94,3)] [0] (by decide) (Qpa _) rfl (Q6a rfl) (Jwa (en:=Qaa) (ys:=[]) rfl Jba (by rw [← hr,h0]) (Qna)) ⟨rfl,rfl⟩
  · refine T.skip ?_
    refine T.seq ?_
    refine T.region ?_
    refine RS.op rfl (Qya (rows:=List.map Qaa []) (vs:=[]) Ty.s29 Ty.z94 rfl rfl rfl rfl rfl (aw':=[.arr 94 3 (List.map Qaa [])]) rfl ?_)
    refine RS.op rfl (OP.q rfl (v_move (v:=.sl (List.map Qaa p0)) rfl ?_))
    refine RS.op rfl (Zta (en:=Qaa) (xs:=([]:List Item)) (ys:=p0) (r:=r) Ty.s29 (fun _=>rfl) rfl rfl rfl h rfl (aw':=[.dead,.arr 94 3 (List.map Qaa r)]) rfl ?_)
    refine RS.op rfl (OP.q rfl (Qgb (v:=.ref 1) rfl ?_))
    refine RS.nil ?_
    refine T.ret ?_
    refine res_tmpA (v:=.ref 1) rfl ?_
    refine Qmb ?_
    exact ret_own (.ref 0) [] [1] (by decide) (Qpa _) rfl (Q6a rfl) (Jwa rfl Jba rfl (Qna)) ⟨rfl,rfl⟩
theorem V7a (p0:List Item) (r:Item × (List Item) × Int) (h:ring_Take p0=some r):FnO Try.prog 67 [sL Qaa p0] (.tup [.agg (Qaa r.1),.ref 0,iI r.2.2]) [aR 94 3 Qaa r.2.1]:=by
  unfold ring_Take at h
  refine fnT 0 Try.func67 Try.ntmps67 ?_
  refine T.seq (T.region (go 3 0 (RS.nil (T.seq (T.seq (T.region (go 1 1 (sQ (Qha Ty.s29 rfl (go 1 1 ?_))))))))))
  refine RS.nil (T.ci h rfl (fun hb_1 h=>?_) (fun hb_1 h=>?_))
  ·refine T.seq (T.region (go 4 1 (RS.nil ?_)))
   cases h
   exact tO [(1,94,3)] [1] 1
  refine T.skip (T.seq (T.seq (T.region (go 1 1 (sQ (Qha Ty.s29 rfl (go 1 1 (RS.nil (T.ci h rfl (fun hb_2 h=>?_) (fun hb_2 h=>?_))))))))))
  ·refine T.seq (T.region (go 4 1 (RS.nil ?_)))
   cases h
   exact tO [(1,94,3)] [1] 1
  refine T.skip (T.seq ?_)
  obtain ⟨x4,hx4,h⟩:=bind_some h
  obtain ⟨x5,hx5,h⟩:=bind_some h
  obtain ⟨x6,hx6,h⟩:=bind_some h
  refine T.drawn mixed (k:=9) rfl ?_
  apply RA.jn 3 #[true,true,true,true,true,true,false,false,false];intro hS3
  ·refine rq [0] 8 (r0 1 rfl (Qga Ty.s29 (fun _=>rfl) rfl rfl hx4 (rq [3] 6 (r0 4 rfl (v_slice_sl Ty.s29 (fun _=>rfl) rfl rfl rfl hx5 (ra2 2 5 ?_ ?_))))))
   ·refine og 1 ⟨rfl,(ra1 5 (oO rfl (cO 1 (Vua x5 x6 hx6) ⟨rfl,?_⟩)))⟩
    exact raE hS3
   ·refine oO rfl (cO 1 (Vua x5 x6 hx6) ⟨rfl,(ra1 2 (og 2 ⟨rfl,?_⟩))⟩)
    exact raT hS3
  refine ra1 6 (og 2 ⟨rfl,(rq [7,8] 0 (RA.done (by decide +kernel) ?_))⟩)
  cases h
  exact tO [] [1] 2
theorem ring_Put_c (p0:List Item) (p1:Int) (p2:Item) (r:(List Item) × Int) (h:ring_Put p0 p1 p2=some r):FnO Try.prog 70 [sL Qaa p0,iI p1,.agg (Qaa p2)] (.tup [.ref 0,iI r.2]) [aR 94 3 Qaa r.1]:=by
  unfold ring_Put at h
  refine fnT 0 Try.func70 Try.ntmps70 ?_
  refine T.seq (T.region (go 3 0 (RS.nil (T.seq (T.join (Z:=Unit) (fun _=>mkA 27 [(0,sL Qaa p0),(1,iI p1),(5,.ptr 0 0),(13,.bool ((decide (p1<1)) || decide (p1 > 6)))]) (fun _=>[.box (Qaa p2)]) (fun _=>True) (fun _ _=>?_) (fun hK=>?_))))))
  ·refine T.ci h rfl (fun hb_2 h=>?_) (fun hb_2 h=>?_)
   ·refine T.seq (T.region (go 2 1 (RS.nil ?_)))
    cases h
    exact tO [(0,94,3)] [1] 1
   refine T.skip (T.seq (T.seq (T.region (go 1 1 (sQ (Qha Ty.s29 rfl (go 2 1 (RS.nil (T.ci h rfl (fun hb_3 h=>?_) (fun hb_3 h=>?_))))))))))
   ·refine T.seq (T.region (go 2 1 (RS.nil ?_)))
    cases h
    exact tO [(0,94,3)] [1] 1
   refine T.skip (T.seq (T.seq (T.region (go 1 1 (sQ (Qha Ty.s29 rfl (go 2 1 (RS.nil (T.ci h rfl (fun hb_4 h=>?_) (fun hb_4 h=>?_))))))))))
   ·refine T.seq (T.region (go 2 1 (RS.nil ?_)))
    cases h
    exact tO [(0,94,3)] [1] 1
   refine T.skip (T.seq ?_)
   obtain ⟨x4,hx4,h⟩:=bind_some h
   obtain ⟨x5,hx5,h⟩:=bind_some h
   refine T.drawn mixed (k:=7) rfl ?_
   apply RA.jn 3 #[true,true,true,true,false,false,false];intro hS5
   apply RA.jn 4 #[true,true,true,false,false,false,false];intro hS6
   ·refine rq [0] 6 (ra2 1 2 ?_ ?_)
    ·refine oO rfl (cO 1 (Vua p0 x4 hx4) ⟨rfl,(ra1 2 (og 2 ⟨rfl,?_⟩))⟩)
     exact raE hS6
    ·refine og 1 ⟨rfl,(ra2 1 3 ?_ ?_)⟩
     ·refine oO rfl (cO 1 (Vua p0 x4 hx4) ⟨rfl,?_⟩)
      exact raT hS6
     ·refine oO rfl (Qya (rows:=List.map Qaa [p2]) (vs:=[.agg (Qaa p2)]) Ty.s29 Ty.z94 rfl rfl rfl rfl rfl rfl (ra1 1 (oO rfl (cO 2 (Vua p0 x4 hx4) ⟨rfl,?_⟩))))
      exact raE hS5
   ·refine ra1 3 (oO rfl (Qya (rows:=List.map Qaa [p2]) (vs:=[.agg (Qaa p2)]) Ty.s29 Ty.z94 rfl rfl rfl rfl rfl rfl ?_))
    exact raV hS5 [0,2,1] rfl
   refine ra1 4 (oO rfl (Zta (en:=Qaa) (xs:=x4) (ys:=([p2]:List Item)) Ty.s29 (fun _=>rfl) rfl rfl rfl hx5 rfl rfl (rq [5,6] 0 (RA.done (by decide +kernel) ?_))))
   cases h
   exact tO [] [3] 4
  refine T.region (go 3 1 ?_)
  rcases Qca (decide (p1<1)) with hb_1 | hb_1
  ·refine sN hb_1 (sN hb_1 (sQ (Qfa (v:=.bool true) rfl hb_1 rfl (RS.nil ?_))))
   exact T.sub (hK () trivial) ⟨rfl,rfl,rfl,(congrArg AV.bool (by simp only [hb_1,bz,if_true,if_false,Bool.false_eq_true])).symm,trivial⟩
  refine yg 1 hb_1 (yg 1 hb_1 (sQ (Qda (v:=.bool (decide (p1 > 6))) rfl hb_1 rfl (RS.nil ?_))))
  exact T.sub (hK () trivial) ⟨rfl,rfl,rfl,(congrArg AV.bool (by simp only [hb_1,bz,if_true,if_false,Bool.false_eq_true])).symm,trivial⟩
theorem move_do_x5aa6_c (p0:Net) (p1:List (List Item)) (p2:Move) (p3:List Int) (p4:List (List Item)) (p5:List Memory) (p6:List Choice) (p7:List Item) (r:(List Int) × (List (List Item)) × (List Memory) × (List Choice) × (List Item)) (h:Qjb p0 p1 p2 p3 p4 p5 p6 p7=some r):FnX Try.prog 44 [.agg (Jca p0),sL (encL Qaa) p1,.ptr 0 0,.agg (Zda p2)] [.box [.ref 1,.ref 2,.ref 3,.ref 4,.ref 5],aR 3 1 encI p3,aR 29 1 (encL Qaa) p4,aR 63 3 Qba p5,aR 67 2 Qea p6,aR 94 3 Qaa p7] (.tup []) [.box [.ref 1,.ref 2,.ref 3,.ref 6,.ref 7],aR 3 1 encI r.1,aR 29 1 (encL Qaa) r.2.1,aR 63 3 Qba r.2.2.1,.dead,.dead,aR 67 2 Qea r.2.2.2.1,aR 94 3 Qaa r.2.2.2.2]:=by
  unfold Qjb at h
  refine fnT 6 Try.func44 Try.ntmps44 ?_
  refine T.mvB 0 4 5 (cs:=[.ref 1,.ref 2,.ref 3,.ref 4,.ref 5]) rfl rfl rfl rfl (cs':=[.ref 1,.ref 2,.ref 3,.ref 4,.ref 6]) rfl rfl (T.mvB 0 3 4 (cs:=[.ref 1,.ref 2,.ref 3,.ref 4,.ref 6]) rfl rfl rfl rfl (cs':=[.ref 1,.ref 2,.ref 3,.ref 7,.ref 6]) rfl rfl (T.seq (T.region (go 2 8 (RS.nil (T.seq ?_))))))
  obtain ⟨x2,hx2,h⟩:=bind_some h
  refine T.region (go 4 10 (sQ (Qga Ty.s22 (fun _=>rfl) rfl rfl hx2 (go 3 10 (RS.nil (T.seq ?_))))))
  obtain ⟨x4,hx4,h⟩:=bind_some h
  refine T.drawn mixed (k:=13) rfl ?_
  apply RA.jn 2 #[true,true,true,true,true,true,true,true,true,true,true,false,false];intro hS1
  ·refine rq [1,2,3] 10 (rL [0,6,7,8,9,11,12] 0 rfl (rL [4,6,7,8,9,11,12] 4 rfl (rL [5,6,7,8,9,11,12] 5 rfl (ra2 6 10 ?_ ?_))))
   ·refine oO rfl (cF (move_head_c p0 p1 (⟨p3,p4,p5,p6,p7⟩:State) p2 x4 hx4) ⟨rfl,(rq [7,8,9] 3 (ra1 10 (og 11 ⟨rfl,?_⟩)))⟩)
    exact raE hS1
   ·refine og 11 ⟨rfl,(ra1 6 (oO rfl (cF (move_head_c p0 p1 (⟨p3,p4,p5,p6,p7⟩:State) p2 x4 hx4) ⟨rfl,(rq [7,8,9] 2 ?_)⟩)))⟩
    exact raT hS1
  refine ra1 11 (og 12 ⟨rfl,(rq [12] 0 (RA.done (by decide +kernel) (T.join (Z:=(List Int) × (List (List Item))) (fun zz_21=>mkA 162 [(2,.ptr 0 0),(4,.ptr 6 0),(7,.ptr 7 0),(8,.ptr 8 0),(9,.ptr 9 0)]) (fun zz_21=>[.box [.ref 1,.ref 2,.ref 3,.ref 10,.ref 11],aR 3 1 encI zz_21.1,aR 29 1 (encL Qaa) zz_21.2,aR 63 3 Qba p5,.dead,.dead,.box (Jca p0),.box (Zda p2),.box (Jda x2),.box (Qaa x4.1),aR 67 2 Qea p6,aR 94 3 Qaa p7]) (fun zz_21=>Vda p0 p2 x2 x4 p5 p6 p7 zz_21.1 zz_21.2=some r) (fun zz_21 h=>?_) (fun hK4=>?_))))⟩)
  ·obtain ⟨z16,z17⟩:=zz_21
   replace h:Vda p0 p2 x2 x4 p5 p6 p7 z16 z17=some r:=h
   try dsimp only
   unfold Vda at h
   refine T.seq ?_
   obtain ⟨x19,hx19,h⟩:=bind_some h
   refine T.region (go 2 12 (sO (cD (move_outs_c x2 x4.1 x19 hx19) ⟨rfl,(go 1 12 (RS.nil (T.join (Z:=Int × (List Choice)) (fun zz_23=>mkA 162 [(2,.ptr 0 0),(4,.ptr 6 0),(7,.ptr 7 0),(8,.ptr 8 0),(9,.ptr 9 0),(11,sL encI x19)]) (fun zz_23=>[.box [.ref 1,.ref 2,.ref 3,.ref 10,.ref 11],aR 3 1 encI z16,aR 29 1 (encL Qaa) z17,aR 63 3 Qba p5,.dead,.dead,.box (Jca p0),.box (Zda p2),.box (Jda x2),.box [iI x4.1.Key,iI x4.1.Val,iI zz_23.1],aR 67 2 Qea zz_23.2,aR 94 3 Qaa p7]) (fun zz_23=>Vea p0 p2 x2 x4 p5 p7 z16 z17 x19 zz_23.1 zz_23.2=some r) (fun zz_23 h=>?_) (fun hK3=>?_))))⟩)))
   ·obtain ⟨z22,z23⟩:=zz_23
    replace h:Vea p0 p2 x2 x4 p5 p7 z16 z17 x19 z22 z23=some r:=h
    try dsimp only
    unfold Vea at h
    refine T.seq ?_
    obtain ⟨x29,hx29,h⟩:=bind_some h
    obtain ⟨x30,hx30,h⟩:=bind_some h
    obtain ⟨x31,hx31,h⟩:=bind_some h
    obtain ⟨x32,hx32,h⟩:=bind_some h
    obtain ⟨x33,hx33,h⟩:=bind_some h
    refine T.drawn mixed (k:=27) rfl ?_
    apply RA.jn 2 #[true,true,true,true,true,true,true,true,true,true,true,true,true,true,true,true,true,true,true,true,true,true,true,true,true,false,false];intro hS24
    apply RA.jn 4 #[true,true,true,true,true,false,true,true,true,true,true,true,true,true,true,true,true,true,true,true,true,true,true,true,false,false,false];intro hS25
    apply RA.jn 8 #[true,true,true,true,true,true,true,true,true,true,true,true,true,true,true,true,true,true,true,false,false,false,false,false,false,false,false];intro hS26
    apply RA.jn 9 #[true,true,true,true,true,false,true,true,true,true,true,true,true,true,true,true,true,true,true,false,false,false,false,false,false,false,false];intro hS27
    apply RA.jn 9 #[true,true,true,false,true,true,true,true,true,true,true,true,true,true,true,true,true,true,true,false,false,false,false,false,false,false,false];intro hS28
    apply RA.jn 9 #[true,true,true,true,true,true,true,true,true,true,true,true,true,true,true,true,true,false,true,false,false,false,false,false,false,false,false];intro hS29
    ·refine rq [0,1,2,4,6,8,10,11,12,14] 17 (rL [7,19,20,21,22,23,24,25,26] 7 rfl (rL [9,19,20,21,22,23,24,25,26] 9 rfl (rL [13,16,17,19,20,21,22,23,24,25,26] 13 rfl (rL [15,16,17,19,20,21,22,23,24,25,26] 15 rfl (r0 16 rfl (Qta (en:=Qba) Ty.s27 rfl rfl rfl hx29 (rL [18,19,20,21,22,23,24,25,26] 18 rfl (ra3 3 5 17 ?_ ?_ ?_))))))))
     ·refine og 12 ⟨rfl,(ra2 5 17 ?_ ?_)⟩
      ·refine og 12 ⟨rfl,?_⟩
       exact raE hS29
      ·refine oO rfl (Q2a (en:=Qba) (a:=x30) rfl rfl hx30 (loadRowA Ty.k63 Ty.c63 rfl (cs:=(Qba x30)) rfl ?_))
       exact raE hS27
     ·refine og 12 ⟨rfl,(ra2 3 17 ?_ ?_)⟩
      ·refine og 12 ⟨rfl,?_⟩
       exact raT hS29
      ·refine oO rfl (Q2a (en:=Qba) (a:=x30) rfl rfl hx30 (loadRowA Ty.k63 Ty.c63 rfl (cs:=(Qba x30)) rfl ?_))
       exact raE hS28
     ·refine oO rfl (Q2a (en:=Qba) (a:=x30) rfl rfl hx30 (loadRowA Ty.k63 Ty.c63 rfl (cs:=(Qba x30)) rfl (ra3 3 5 19 ?_ ?_ ?_)))
      ·refine og 12 ⟨rfl,?_⟩
       exact raT hS27
      ·refine og 12 ⟨rfl,?_⟩
       exact raT hS28
      ·refine oO rfl (cD (Yla x2.Kind x2.A x30 (⟨x4.1.Key,x4.1.Val,z22⟩:Item) x31 hx31) ⟨rfl,(rq [20,21,22,23] 5 (rL [3,24,25,26] 3 rfl ?_))⟩)
       exact raE hS25
    ·refine ra1 17 (oO rfl (Q2a (en:=Qba) (a:=x30) rfl rfl hx30 (loadRowA Ty.k63 Ty.c63 rfl (cs:=(Qba x30)) rfl ?_)))
     exact raE hS26
    ·refine ra2 3 19 ?_ ?_
     ·refine og 12 ⟨rfl,?_⟩
      exact raT hS26
     ·refine oO rfl (cD (Yla x2.Kind x2.A x30 (⟨x4.1.Key,x4.1.Val,z22⟩:Item) x31 hx31) ⟨rfl,(rq [20,21,22,23] 4 (ra1 3 (og 12 ⟨rfl,(r0 24 rfl (Qta (en:=Qba) Ty.s27 rfl rfl rfl hx32 ?_))⟩)))⟩)
      exact raE hS24
    ·refine ra2 5 19 ?_ ?_
     ·refine og 12 ⟨rfl,?_⟩
      exact raT hS26
     ·refine oO rfl (cD (Yla x2.Kind x2.A x30 (⟨x4.1.Key,x4.1.Val,z22⟩:Item) x31 hx31) ⟨rfl,(rq [20,21,22,23] 4 ?_)⟩)
      exact raT hS25
    ·refine ra1 19 (oO rfl (cD (Yla x2.Kind x2.A x30 (⟨x4.1.Key,x4.1.Val,z22⟩:Item) x31 hx31) ⟨rfl,(rq [20,21,22,23] 3 (r0 24 rfl (Qta (en:=Qba) Ty.s27 rfl rfl rfl hx32 ?_)))⟩))
     exact raT hS24
    ·refine ra1 5 (og 12 ⟨rfl,(r0 24 rfl (Qta (en:=Qba) Ty.s27 rfl rfl rfl hx32 ?_))⟩)
     exact raT hS24
    refine ra1 25 (oO rfl (Z6a (en:=Qba) (a:=x33) (a':=x31.1) Ty.c63 Ty.i63 rfl (vs:=[iI x31.1.Sum,sL Qla x31.1.Keys,iI x31.1.Dep]) rfl rfl rfl hx33 rfl rfl rfl (ra1 26 (og 12 ⟨rfl,(RA.done (by decide +kernel) (T.join (Z:=List Item) (fun zz_31=>mkA 162 [(2,.ptr 0 0),(4,.ptr 6 0),(9,.ptr 7 0),(11,sL encI x19)]) (fun zz_31=>[.box [.ref 1,.ref 2,.ref 3,.ref 8,.ref 9],aR 3 1 encI z16,aR 29 1 (encL Qaa) z17,aR 63 3 Qba (List.set p5 x32 x31.1),.dead,.dead,.box (Jca p0),.box (Qaa x31.2.1),aR 67 2 Qea z23,aR 94 3 Qaa zz_31]) (fun zz_31=>Vwa p0 p5 z16 z17 x19 z23 x31 x32 zz_31=some r) (fun zz_31 h=>?_) (fun hK2=>?_)))⟩))))
    ·revert h;revert zz_31;intro z35 h
     replace h:Vwa p0 p5 z16 z17 x19 z23 x31 x32 z35=some r:=h
     try dsimp only
     unfold Vwa at h
     refine T.seq (T.region (go 1 10 (sQ (Qha Ty.s26 rfl (go 1 10 (RS.nil (T.block (T.iter (fun ss_38:Int × (List (List Item))=>mkA 162 [(2,.ptr 0 0),(4,.ptr 6 0),(9,.ptr 7 0),(135,sL encI x19),(136,iI ((x19).length:Int)),(137,iI ss_38.1)]) (fun ss_38=>[.box [.ref 1,.ref 2,.ref 3,.ref 8,.ref 9],aR 3 1 encI z16,aR 29 1 (encL Qaa) ss_38.2,aR 63 3 Qba (List.set p5 x32 x31.1),.dead,.dead,.box (Jca p0),.box (Qaa x31.2.1),aR 67 2 Qea z23,aR 94 3 Qaa z35]) h (wk [] [0,1,2,3,4,5,6,7,8,9] 10 rfl) (fun ss_38 v_39 h hv_39=>?_)))))))))
     obtain ⟨s36,s37⟩:=ss_38
     replace h:Zya p0 p5 z16 x19 z23 x31 x32 z35 s36 s37=some v_39:=h
     try dsimp only
     unfold Zya at h
     refine T.seq (T.region (go 1 10 (RS.nil (T.seq (T.ci h rfl (fun hb_40 h=>?_) (fun hb_40 h=>?_))))))
     ·refine T.skip (T.seq (T.block (T.seq ?_)))
      obtain ⟨x39,hx39,h⟩:=bind_some h
      refine T.region (sQ (Qga Ty.s26 (fun _=>rfl) rfl rfl hx39 (go 2 10 (RS.nil ?_))))
      obtain ⟨x40,hx40,h⟩:=bind_some h
      obtain ⟨x41,hx41,h⟩:=bind_some h
      obtain ⟨x42,hx42,h⟩:=bind_some h
      obtain ⟨x43,hx43,h⟩:=bind_some h
      obtain ⟨x44,hx44,h⟩:=bind_some h
      refine T.drawn mixed (k:=21) rfl ?_
      apply RA.jn 1 #[true,true,true,true,true,true,true,true,true,true,true,true,true,true,true,true,true,true,true,true,false];intro hS41
      apply RA.jn 6 #[true,true,true,true,true,true,true,true,true,true,true,true,true,true,true,false,false,false,false,false,false];intro hS42
      ·refine rq [0,1,2,4,5,6,7,9,12] 12 (rL [8,10,11,15,16,17,18,19,20] 8 rfl (r0 10 rfl (Qta (en:=(encL Qaa)) Ty.s25 rfl rfl rfl hx40 (rL [13,15,16,17,18,19,20] 13 rfl (rL [14,15,16,17,18,19,20] 14 rfl (ra2 3 11 ?_ ?_))))))
       ·refine og 10 ⟨rfl,(ra1 11 (oO rfl (Q2a (en:=(encL Qaa)) (a:=x41) rfl rfl hx41 (J3a Ty.k29 (c:=sL Qaa x41) rfl ?_))))⟩
        exact raE hS42
       ·refine oO rfl (Q2a (en:=(encL Qaa)) (a:=x41) rfl rfl hx41 (J3a Ty.k29 (c:=sL Qaa x41) rfl (ra2 3 15 ?_ ?_)))
        ·refine og 10 ⟨rfl,?_⟩
         exact raT hS42
        ·refine oO rfl (cO 10 (ring_Put_c x41 p0.Room x31.2.1 x42 hx42) ⟨rfl,(rq [16,17,18] 3 (ra1 3 (og 11 ⟨rfl,(r0 19 rfl (Qta (en:=(encL Qaa)) Ty.s25 rfl rfl rfl hx43 ?_))⟩)))⟩)
         exact raE hS41
      ·refine ra1 15 (oO rfl (cO 10 (ring_Put_c x41 p0.Room x31.2.1 x42 hx42) ⟨rfl,(rq [16,17,18] 2 (r0 19 rfl (Qta (en:=(encL Qaa)) Ty.s25 rfl rfl rfl hx43 ?_)))⟩))
       exact raT hS41
      refine ra1 20 (RO.fC 10 (oO rfl (Z6a (en:=(encL Qaa)) (a:=x44) (a':=x42.1) Ty.c29 Ty.i29 rfl (vs:=[sL Qaa x42.1]) rfl rfl rfl hx44 rfl rfl rfl (RA.done (by decide +kernel) (T.region (go 2 11 (RS.nil ?_)))))))
      exact ⟨(IntKind.i64.wrap (s36+1),(List.set s37 x43 x42.1)),(Option.some.inj h).symm,wk [] [0,1,2,3,4,5,6,7,8,9] 11 rfl⟩
     refine T.exit ?_
     obtain ⟨w_43,h,hw_43⟩:=Qua h
     replace h:=h.trans (congrArg some (hv_39 _ hw_43))
     refine exN (Qmb ?_)
     exact ret_norm (v:=.tup []) (aw1:=[.box [.ref 1,.ref 2,.ref 3,.ref 8,.ref 9],aR 3 1 encI z16,aR 29 1 (encL Qaa) s37,aR 63 3 Qba (List.set p5 x32 x31.1),.dead,.dead,.box (Jca p0),.box (Qaa x31.2.1),aR 67 2 Qea z23,aR 94 3 Qaa z35]) (.tup []) [0,1,2,3,4,5,8,9] rfl (by decide) (by decide) (rn_tup trivial) (Jea (cs:=[.ref 1,.ref 2,.ref 3,.ref 6,.ref 7]) (ds:=[.ref 1,.ref 2,.ref 3,.ref 8,.ref 9]) rfl ⟨Q6a rfl,Q6a rfl,Q6a rfl,Q6a rfl,Q6a rfl,trivial⟩ (Jwa rfl encI_p (congrArg (fun r:(List Int) × (List (List Item)) × (List Memory) × (List Choice) × (List Item)=>r.1) (Option.some.inj h)).symm (Jwa rfl (encL_p Jba) (congrArg (fun r:(List Int) × (List (List Item)) × (List Memory) × (List Choice) × (List Item)=>r.2.1) (Option.some.inj h)).symm (Jwa rfl J7a (congrArg (fun r:(List Int) × (List (List Item)) × (List Memory) × (List Choice) × (List Item)=>r.2.2.1) (Option.some.inj h)).symm (rw_dead rfl (rw_dead rfl (Jwa rfl J6a (congrArg (fun r:(List Int) × (List (List Item)) × (List Memory) × (List Choice) × (List Item)=>r.2.2.2.1) (Option.some.inj h)).symm (Jwa rfl Jba (congrArg (fun r:(List Int) × (List (List Item)) × (List Memory) × (List Choice) × (List Item)=>r.2.2.2.2) (Option.some.inj h)).symm (Qna))))))))) ⟨rfl,rfl⟩
    refine T.seq (T.region (go 3 12 (RS.nil (T.ci h rfl (fun hb_44 h=>?_) (fun hb_44 h=>?_)))))
    ·obtain ⟨x34,hx34,h⟩:=bind_some h
     refine T.drawn mixed (k:=11) rfl (rq [0,1,2,3] 7 (rL [4,7,8,9,10] 4 rfl (ra1 5 (og 12 ⟨rfl,(ra1 6 (oO rfl (Qya (rows:=List.map Qaa [x31.2.1]) (vs:=[.agg (Qaa x31.2.1)]) Ty.s29 Ty.z94 rfl rfl rfl rfl rfl rfl (ra1 7 (oO rfl (Zta (en:=Qaa) (xs:=p7) (ys:=([x31.2.1]:List Item)) Ty.s29 (fun _=>rfl) rfl rfl rfl hx34 rfl rfl (rq [8,9] 1 ?_)))))))⟩))))
     refine ra1 10 (og 14 ⟨rfl,(RA.done (by decide +kernel) ?_)⟩)
     exact T.weakR (hK2 x34 h) (wk [] [0,1,2,3,4,5,6,9,10,13] 14 rfl)
    refine T.skip ?_
    exact T.weakR (hK2 p7 h) (wk [] [0,1,2,3,4,5,6,9,10,11] 12 rfl)
   refine T.seq (T.region (go 3 12 (RS.nil (T.ci h rfl (fun hb_45 h=>?_) (fun hb_45 h=>?_)))))
   ·refine T.seq ?_
    obtain ⟨x21,hx21,h⟩:=bind_some h
    refine T.drawn mixed (k:=15) rfl (rq [0,1,2,3,5,7] 9 (rL [4,11,12,13,14] 4 rfl (rL [6,9,10,11,12,13,14] 6 rfl (ra1 8 (og 12 ⟨rfl,(rq [9] 5 (ra1 10 (oO rfl (Qya (rows:=List.map Qea [(⟨p2.Node,p2.Lane⟩:Choice)]) (vs:=[.agg (Zda p2)]) Ty.s28 Ty.z67 rfl rfl rfl rfl rfl rfl (ra1 11 ?_)))))⟩)))))
    refine oO rfl (Zta (en:=Qea) (xs:=p6) (ys:=([(⟨p2.Node,p2.Lane⟩:Choice)]:List Choice)) Ty.s28 (fun _=>rfl) rfl rfl rfl hx21 rfl rfl (rq [12,13] 1 (ra1 14 (og 14 ⟨rfl,(RA.done (by decide +kernel) (T.region (go 4 14 (sQ (Yoa (en:=Qea) Ty.s28 rfl rfl (go 2 14 (RS.nil ?_)))))))⟩))))
    exact T.weakR (hK3 (((x21).length:Int),x21) h) (wk [] [0,1,2,3,4,5,6,7,8,9,13,11] 14 rfl)
   refine T.skip ?_
   exact T.su (hK3 (x4.1.Dep,p6) h)
  refine T.seq (T.region (go 3 12 (RS.nil (T.ci h rfl (fun hb_46 h=>?_) (fun hb_46 h=>?_)))))
  ·obtain ⟨x5,hx5,h⟩:=bind_some h
   obtain ⟨x6,hx6,h⟩:=bind_some h
   obtain ⟨x7,hx7,h⟩:=bind_some h
   obtain ⟨x8,hx8,h⟩:=bind_some h
   refine T.drawn mixed (k:=11) rfl (rq [0,1,2,4] 7 (rL [3,6,7,8,9,10] 3 rfl (ra1 5 (og 12 ⟨rfl,(r0 6 rfl (Qta (en:=encI) Ty.s26 rfl rfl rfl hx5 (ra1 7 (oO rfl (Q2a (en:=encI) (a:=x6) rfl rfl hx6 (J3a Ty.k3 (c:=iI x6) rfl (rq [8] 2 (r0 9 rfl (Qta (en:=encI) Ty.s26 rfl rfl rfl hx7 ?_)))))))))⟩))))
   refine ra1 10 (oO rfl (Z6a (en:=encI) (a:=x8) (a':=IntKind.i64.wrap (x6+1)) Ty.c3 Ty.i3 rfl (vs:=[iI (IntKind.i64.wrap (x6+1))]) rfl rfl rfl hx8 rfl rfl rfl (RA.done (by decide +kernel) ?_)))
   exact T.weakR (hK4 ((List.set p3 x7 (IntKind.i64.wrap (x6+1))),p4) h) (wk [] [0,1,2,3,4,5,8,9,10,11,7,6] 12 rfl)
  obtain ⟨x9,hx9,h⟩:=bind_some h
  obtain ⟨x10,hx10,h⟩:=bind_some h
  obtain ⟨x11,hx11,h⟩:=bind_some h
  obtain ⟨x12,hx12,h⟩:=bind_some h
  obtain ⟨x13,hx13,h⟩:=bind_some h
  obtain ⟨x14,hx14,h⟩:=bind_some h
  obtain ⟨x15,hx15,h⟩:=bind_some h
  refine T.drawn mixed (k:=29) rfl ?_
  apply RA.jn 1 #[true,true,true,true,true,true,true,true,true,true,true,true,true,true,true,true,true,true,true,true,true,true,true,true,true,true,true,true,false];intro hS47
  apply RA.jn 3 #[true,true,true,true,true,true,true,true,true,false,true,true,true,true,true,true,true,true,true,true,true,true,true,true,true,true,true,false,false];intro hS48
  apply RA.jn 5 #[true,true,true,true,true,true,true,false,false,false,true,true,true,true,true,true,true,true,true,true,true,true,true,true,true,true,true,false,false];intro hS49
  apply RA.jn 5 #[true,true,true,true,true,false,true,true,false,false,true,true,true,true,true,true,true,true,true,true,true,true,true,true,true,true,true,false,false];intro hS50
  apply RA.jn 7 #[true,true,true,true,true,true,true,true,true,true,true,true,true,true,true,true,true,true,true,true,true,true,false,false,false,false,false,false,false];intro hS51
  apply RA.jn 8 #[true,true,true,true,true,true,true,true,true,false,true,true,true,true,true,true,true,true,true,true,true,true,false,false,false,false,false,false,false];intro hS52
  apply RA.jn 8 #[true,true,true,false,true,true,true,true,true,true,true,true,true,true,true,true,true,true,true,true,true,true,false,false,false,false,false,false,false];intro hS53
  apply RA.jn 8 #[true,true,true,true,true,true,true,true,true,true,true,true,true,true,true,true,true,true,true,true,true,false,false,false,false,false,false,false,false];intro hS54
  apply RA.jn 9 #[true,true,true,false,true,true,true,true,true,false,true,true,true,true,true,true,true,true,true,true,true,true,false,false,false,false,false,false,false];intro hS55
  apply RA.jn 9 #[true,true,true,true,true,true,true,true,true,false,true,true,true,true,true,true,true,true,true,true,true,false,false,false,false,false,false,false,false];intro hS56
  apply RA.jn 10 #[true,true,true,true,true,false,true,true,false,false,true,true,true,true,true,true,true,true,true,true,true,true,false,false,false,false,false,false,false];intro hS57
  apply RA.jn 10 #[true,true,true,true,true,true,true,false,false,false,true,true,true,true,true,true,true,true,true,true,true,true,false,false,false,false,false,false,false];intro hS58
  apply RA.jn 10 #[true,true,true,false,true,true,true,true,true,false,true,true,true,true,true,true,true,true,true,true,true,false,false,false,false,false,false,false,false];intro hS59
  apply RA.jn 11 #[true,true,true,true,true,false,true,false,false,false,true,true,true,true,true,true,true,true,true,true,true,true,false,false,false,false,false,false,false];intro hS60
  apply RA.jn 11 #[true,true,true,false,true,true,true,false,false,false,true,true,true,true,true,true,true,true,true,true,true,true,false,false,false,false,false,false,false];intro hS61
  apply RA.jn 11 #[true,true,true,false,true,false,true,true,false,false,true,true,true,true,true,true,true,true,true,true,true,true,false,false,false,false,false,false,false];intro hS62
  apply RA.jn 11 #[true,true,true,true,true,false,true,true,false,false,true,true,true,true,true,true,true,true,true,true,true,false,false,false,false,false,false,false,false];intro hS63
  apply RA.jn 11 #[true,true,true,true,true,true,true,false,false,false,true,true,true,true,true,true,true,true,true,true,true,false,false,false,false,false,false,false,false];intro hS64
  ·refine rq [0,1,2,4,6,10,11,12,14,16] 19 (rL [13,20,21,22,23,24,25,26,27,28] 13 rfl (rL [15,18,19,20,21,22,23,24,25,26,27,28] 15 rfl (rL [17,18,19,20,21,22,23,24,25,26,27,28] 17 rfl (r0 18 rfl (Qga Ty.s26 (fun _=>rfl) rfl rfl hx10 (rL [19,20,21,22,23,24,25,26,27,28] 19 rfl (r0 20 rfl (Qta (en:=(encL Qaa)) Ty.s25 rfl rfl rfl hx11 (ra4 3 5 7 21 ?_ ?_ ?_ ?_)))))))))
   ·refine og 12 ⟨rfl,(ra3 5 7 21 ?_ ?_ ?_)⟩
    ·refine og 12 ⟨rfl,?_⟩
     exact raE hS64
    ·refine og 12 ⟨rfl,?_⟩
     exact raE hS63
    ·refine oO rfl (Q2a (en:=(encL Qaa)) (a:=x12) rfl rfl hx12 (J3a Ty.k29 (c:=sL Qaa x12) rfl ?_))
     exact raE hS60
   ·refine og 12 ⟨rfl,(ra3 3 7 21 ?_ ?_ ?_)⟩
    ·refine og 12 ⟨rfl,?_⟩
     exact raT hS64
    ·refine og 12 ⟨rfl,(r0 8 rfl (Qga Ty.s26 (fun _=>rfl) rfl rfl hx9 ?_))⟩
     exact raE hS59
    ·refine oO rfl (Q2a (en:=(encL Qaa)) (a:=x12) rfl rfl hx12 (J3a Ty.k29 (c:=sL Qaa x12) rfl ?_))
     exact raE hS61
   ·refine og 12 ⟨rfl,(ra3 3 5 21 ?_ ?_ ?_)⟩
    ·refine og 12 ⟨rfl,?_⟩
     exact raT hS63
    ·refine og 12 ⟨rfl,(r0 8 rfl (Qga Ty.s26 (fun _=>rfl) rfl rfl hx9 ?_))⟩
     exact raT hS59
    ·refine oO rfl (Q2a (en:=(encL Qaa)) (a:=x12) rfl rfl hx12 (J3a Ty.k29 (c:=sL Qaa x12) rfl ?_))
     exact raE hS62
   ·refine oO rfl (Q2a (en:=(encL Qaa)) (a:=x12) rfl rfl hx12 (J3a Ty.k29 (c:=sL Qaa x12) rfl (ra4 3 5 7 22 ?_ ?_ ?_ ?_)))
    ·refine og 12 ⟨rfl,?_⟩
     exact raT hS60
    ·refine og 12 ⟨rfl,?_⟩
     exact raT hS61
    ·refine og 12 ⟨rfl,?_⟩
     exact raT hS62
    ·refine oO rfl (cO 12 (V7a x12 x13 hx13) ⟨rfl,(rq [23,24,25,26] 7 (rL [3,27,28] 3 rfl (rL [5,8,9,27,28] 5 rfl ?_)))⟩)
     exact raE hS49
  ·refine ra2 7 21 ?_ ?_
   ·refine og 12 ⟨rfl,(r0 8 rfl (Qga Ty.s26 (fun _=>rfl) rfl rfl hx9 ?_))⟩
    exact raE hS56
   ·refine oO rfl (Q2a (en:=(encL Qaa)) (a:=x12) rfl rfl hx12 (J3a Ty.k29 (c:=sL Qaa x12) rfl ?_))
    exact raE hS58
  ·refine ra2 5 21 ?_ ?_
   ·refine og 12 ⟨rfl,(r0 8 rfl (Qga Ty.s26 (fun _=>rfl) rfl rfl hx9 ?_))⟩
    exact raT hS56
   ·refine oO rfl (Q2a (en:=(encL Qaa)) (a:=x12) rfl rfl hx12 (J3a Ty.k29 (c:=sL Qaa x12) rfl ?_))
    exact raE hS57
  ·refine ra3 3 5 22 ?_ ?_ ?_
   ·refine og 12 ⟨rfl,?_⟩
    exact raT hS57
   ·refine og 12 ⟨rfl,(r0 8 rfl (Qga Ty.s26 (fun _=>rfl) rfl rfl hx9 ?_))⟩
    exact raE hS55
   ·refine oO rfl (cO 12 (V7a x12 x13 hx13) ⟨rfl,(rq [23,24,25,26] 6 (rL [3,27,28] 3 rfl ?_))⟩)
    exact raE hS50
  ·refine ra3 3 7 22 ?_ ?_ ?_
   ·refine og 12 ⟨rfl,?_⟩
    exact raT hS58
   ·refine og 12 ⟨rfl,(r0 8 rfl (Qga Ty.s26 (fun _=>rfl) rfl rfl hx9 ?_))⟩
    exact raT hS55
   ·refine oO rfl (cO 12 (V7a x12 x13 hx13) ⟨rfl,(rq [23,24,25,26] 6 (rL [3,27,28] 3 rfl ?_))⟩)
    exact raT hS49
  ·refine ra3 5 7 22 ?_ ?_ ?_
   ·refine og 12 ⟨rfl,?_⟩
    exact raT hS58
   ·refine og 12 ⟨rfl,?_⟩
    exact raT hS57
   ·refine oO rfl (cO 12 (V7a x12 x13 hx13) ⟨rfl,(rq [23,24,25,26] 6 (rL [5,8,9,27,28] 5 rfl ?_))⟩)
    exact raT hS49
  ·refine ra3 3 9 21 ?_ ?_ ?_
   ·refine og 12 ⟨rfl,?_⟩
    exact raT hS56
   ·refine og 12 ⟨rfl,(ra2 3 21 ?_ ?_)⟩
    ·refine og 12 ⟨rfl,?_⟩
     exact raE hS54
    ·refine oO rfl (Q2a (en:=(encL Qaa)) (a:=x12) rfl rfl hx12 (J3a Ty.k29 (c:=sL Qaa x12) rfl ?_))
     exact raE hS53
   ·refine oO rfl (Q2a (en:=(encL Qaa)) (a:=x12) rfl rfl hx12 (J3a Ty.k29 (c:=sL Qaa x12) rfl ?_))
    exact raT hS55
  ·refine ra2 7 22 ?_ ?_
   ·refine og 12 ⟨rfl,(r0 8 rfl (Qga Ty.s26 (fun _=>rfl) rfl rfl hx9 ?_))⟩
    exact raE hS52
   ·refine oO rfl (cO 12 (V7a x12 x13 hx13) ⟨rfl,(rq [23,24,25,26] 5 ?_)⟩)
    exact raT hS49
  ·refine ra2 5 22 ?_ ?_
   ·refine og 12 ⟨rfl,(r0 8 rfl (Qga Ty.s26 (fun _=>rfl) rfl rfl hx9 ?_))⟩
    exact raT hS52
   ·refine oO rfl (cO 12 (V7a x12 x13 hx13) ⟨rfl,(rq [23,24,25,26] 5 ?_)⟩)
    exact raT hS50
  ·refine ra2 9 21 ?_ ?_
   ·refine og 12 ⟨rfl,?_⟩
    exact raT hS54
   ·refine oO rfl (Q2a (en:=(encL Qaa)) (a:=x12) rfl rfl hx12 (J3a Ty.k29 (c:=sL Qaa x12) rfl ?_))
    exact raT hS52
  ·refine ra3 3 9 22 ?_ ?_ ?_
   ·refine og 12 ⟨rfl,?_⟩
    exact raT hS52
   ·refine og 12 ⟨rfl,?_⟩
    exact raT hS53
   ·refine oO rfl (cO 12 (V7a x12 x13 hx13) ⟨rfl,(rq [23,24,25,26] 4 (rL [3,27,28] 3 rfl ?_))⟩)
    exact raE hS48
  ·refine ra1 21 (oO rfl (Q2a (en:=(encL Qaa)) (a:=x12) rfl rfl hx12 (J3a Ty.k29 (c:=sL Qaa x12) rfl ?_)))
   exact raE hS51
  ·refine ra2 3 22 ?_ ?_
   ·refine og 12 ⟨rfl,?_⟩
    exact raT hS51
   ·refine oO rfl (cO 12 (V7a x12 x13 hx13) ⟨rfl,(rq [23,24,25,26] 3 (ra1 3 (og 13 ⟨rfl,(r0 27 rfl (Qta (en:=(encL Qaa)) Ty.s25 rfl rfl rfl hx14 ?_))⟩)))⟩)
    exact raE hS47
  ·refine ra2 9 22 ?_ ?_
   ·refine og 12 ⟨rfl,?_⟩
    exact raT hS51
   ·refine oO rfl (cO 12 (V7a x12 x13 hx13) ⟨rfl,(rq [23,24,25,26] 3 ?_)⟩)
    exact raT hS48
  ·refine ra1 22 (oO rfl (cO 12 (V7a x12 x13 hx13) ⟨rfl,(rq [23,24,25,26] 2 (r0 27 rfl (Qta (en:=(encL Qaa)) Ty.s25 rfl rfl rfl hx14 ?_)))⟩))
   exact raT hS47
  ·refine ra1 5 (og 13 ⟨rfl,(r0 8 rfl (Qga Ty.s26 (fun _=>rfl) rfl rfl hx9 ?_))⟩)
   exact raT hS48
  ·refine ra1 7 (og 13 ⟨rfl,(r0 8 rfl (Qga Ty.s26 (fun _=>rfl) rfl rfl hx9 ?_))⟩)
   exact raT hS48
  ·refine ra1 9 (og 13 ⟨rfl,(r0 27 rfl (Qta (en:=(encL Qaa)) Ty.s25 rfl rfl rfl hx14 ?_))⟩)
   exact raT hS47
  refine ra1 28 (RO.fC 12 (oO rfl (Z6a (en:=(encL Qaa)) (a:=x15) (a':=x13.2.1) Ty.c29 Ty.i29 rfl (vs:=[sL Qaa x13.2.1]) rfl rfl rfl hx15 rfl rfl rfl (RA.done (by decide +kernel) ?_))))
  exact T.weakR (hK4 (p3,(List.set p4 x14 x13.2.1)) h) (wk [] [0,1,2,3,4,5,8,9,10,11,7,6] 13 rfl)
end Go.Proofs.Ytchmpaaofmihcaa
namespace Go.Proofs.Ytchmpaaofmihcaa
open Go.RowKit
set_option maxRecDepth 100000
set_option maxHeartbeats 4000000
theorem fnTD {P:Program} {aw:List Ob} {f:FuncId} {fn:Func} {c:Code} {args:List AV} {Q:AV→List Ob→Prop} {m:Nat} (N:Nat) (hf:P.funcs[f]?=some fn) (hm:fn.ntmps=m) (h:iniC 0 args fun l=>TD P N c (retQ P fn N Q) (mkA m l) aw)
    (hb:fn.body=some c:=by rfl) (hN:aw.length=N:=by rfl) (hname:(fn.name == "runtime.NumGoroutine")=false:=by kernel_rfl) (hl:Nat.ble args.length m=true:=by rfl):ACalls P f args aw Q :=
  fn_of_TD hN hf hb hname hm hl (iniC_ok (K:=fun l=>TD P N c (retQ P fn N Q) (mkA m l) aw) h)
theorem catch_idle (p q:Value) (w:World) :
    CallsD Try.prog 46 #[p,q] .returning w fun e u' w'=>(∃ v,e=.returned v)∧u'=.returning∧w'=w:=by
  refine callsD_of_wpS Try.func46 rfl fun c₀ cs hu=>?_
  apply wpS_seq
  apply wpS_region
  simp [wpOpsS,go_sem,recoverD,hu,Try.ntmps46,Exit.thenS]
  apply wpS_seq
  apply wpS_region
  simp [wpOpsS,go_sem,Exit.thenS]
  refine wpS_cond (t:=false) (by simp [Act.eval,Array.replicate]) ?_
  simp only [Bool.false_eq_true,if_false]
  refine wpS_of_wp (wp_skip ?_)
  cases c₀
  simp_all [bodyPostS,results,Try.results46]
theorem idleF:IdleF Try.prog 46 2:=fun cvs h=>by
  match cvs,h with
  | [p,q],_ =>
    exact ⟨.func 46,#[p,q],46,#[p,q],rfl,fun w=>callable Try.func46 rfl (by kernel_rfl) _ w,fun w=>catch_idle p q w⟩
end Go.Proofs.Ytchmpaaofmihcaa
namespace Go.Proofs.Ytchmpaaofmihcaa
open Go.RowKit
set_option linter.unusedVariables false
set_option linter.unusedSimpArgs false
set_option maxRecDepth 100000
set_option maxHeartbeats 4000000
set_option synthInstance.maxSize 100000
set_option synthInstance.maxHeartbeats 4000000
theorem move_Play_c (p0:Net) (p1:List (List Item)) (p2:List Int) (r:State × Int) (h:move_Play p0 p1 p2=some r):Fn Try.prog 18 [.agg (Jca p0),sL (encL Qaa) p1,sL encI p2] (.tup [.agg (Qra r.1),iI r.2]):=by
  unfold move_Play at h
  refine fnT 0 Try.func18 Try.ntmps18 ?_
  refine T.seq (T.region (go 3 0 (RS.nil (T.seq ?_))))
  obtain ⟨x2,hx2,h⟩:=bind_some h
  refine T.region (go 2 2 (sO (Q5a (ac:=[.agg (Jca p0),sL (encL Qaa) p1]) (as0:=[.agg (Jca p0),sL (encL Qaa) p1]) (aw0:=[]) (aw1:=[aR 3 1 encI x2.1.At,aR 29 1 (encL Qaa) x2.1.Rings,aR 63 3 Qba x2.1.Memory,aR 67 2 Qea x2.1.Choices,aR 94 3 Qaa x2.1.Out]) (aw2:=[.box (Jca p0),.box [.nils,.nils,.nils,.nils,.nils],aR 3 1 encI x2.1.At,aR 29 1 (encL Qaa) x2.1.Rings,aR 63 3 Qba x2.1.Memory,aR 67 2 Qea x2.1.Choices,aR 94 3 Qaa x2.1.Out]) (v:=.tup [.agg [.ref 0,.ref 1,.ref 2,.ref 3,.ref 4],iI x2.2]) (v':=.tup [.agg [.ref 2,.ref 3,.ref 4,.ref 5,.ref 6],iI x2.2]) (n0:=2) (n1:=5) [] rfl rfl rfl rfl (by decide) (Qna) ⟨rn_agg ⟨rn_s rfl,Qqa rfl,Qqa rfl,trivial⟩,rn_s rfl,trivial⟩ (FnX.of_fnO (move_Start_c p0 p1 x2 hx2)) rfl (Yxa (cs:=[.agg [.ref 2,.ref 3,.ref 4,.ref 5,.ref 6],iI x2.2]) (ds:=[.agg [.ref 0,.ref 1,.ref 2,.ref 3,.ref 4],iI x2.2]) ⟨rm_agg (cs:=[.ref 2,.ref 3,.ref 4,.ref 5,.ref 6]) (ds:=[.ref 0,.ref 1,.ref 2,.ref 3,.ref 4]) ⟨Jya (by decide),Jya (by decide),Jya (by decide),Jya (by decide),Jya (by decide),trivial⟩,Qia (Qsa _ _),trivial⟩) ⟨.inr ⟨rfl,rfl⟩,.inr ⟨rfl,rfl⟩,.inl ⟨0,_,by decide,rfl,Jia encI_p⟩,.inl ⟨1,_,by decide,rfl,Jia (encL_p Jba)⟩,.inl ⟨2,_,by decide,rfl,Jia J7a⟩,.inl ⟨3,_,by decide,rfl,Jia J6a⟩,.inl ⟨4,_,by decide,rfl,Jia Jba⟩,trivial⟩ (go 6 7 (RS.nil (T.seq (T.seq (T.region (go 2 8 (RS.nil ?_))))))))))
  refine T.ci h rfl (fun hb_1 h=>?_) (fun hb_1 h=>?_)
  ·refine T.seq (T.region (go 4 8 (RS.nil ?_)))
   cases h
   exact tD
  refine T.skip (T.seq (T.seq (T.region (go 1 8 (sQ (Qha Ty.s26 rfl (go 1 8 (RS.nil (T.ci h rfl (fun hb_2 h=>?_) (fun hb_2 h=>?_))))))))))
  ·refine T.seq (T.region (go 3 8 (RS.nil ?_)))
   cases h
   exact tD
  refine T.skip (T.seq (T.seq (T.region (go 1 8 (sQ (Qha Ty.s26 rfl (go 1 8 (RS.nil (T.block (T.iter (fun ss_7:Int × (List Int) × (List (List Item)) × (List Memory) × (List Choice) × (List Item)=>mkA 58 [(1,sL (encL Qaa) p1),(3,.ptr 0 0),(6,.ptr 1 0),(8,.ptr 2 0),(27,sL encI p2),(28,iI ((p2).length:Int)),(29,iI ss_7.1)]) (fun ss_7=>[.box (Jca p0),.box [.nils,.nils,.nils,.nils,.nils],.box [.ref 3,.ref 4,.ref 5,.ref 6,.ref 7],aR 3 1 encI ss_7.2.1,aR 29 1 (encL Qaa) ss_7.2.2.1,aR 63 3 Qba ss_7.2.2.2.1,aR 67 2 Qea ss_7.2.2.2.2.1,aR 94 3 Qaa ss_7.2.2.2.2.2]) h (wk [] [0,1,7,2,3,4,5,6] 8 rfl) (fun ss_7 v_8 h hv_8=>?_)))))))))))
  obtain ⟨s3,s4,s5,s6,s7,s8⟩:=ss_7
  replace h:Vna p0 p1 p2 s3 s4 s5 s6 s7 s8=some v_8:=h
  try dsimp only
  unfold Vna at h
  refine T.seq (T.region (go 1 8 (RS.nil (T.seq (T.ci h rfl (fun hb_9 h=>?_) (fun hb_9 h=>?_))))))
  ·refine T.skip (T.seq (T.block (T.seq ?_)))
   obtain ⟨x10,hx10,h⟩:=bind_some h
   refine T.region (sQ (Qga Ty.s26 (fun _=>rfl) rfl rfl hx10 (go 2 8 (RS.nil (T.seq ?_)))))
   obtain ⟨x12,hx12,h⟩:=bind_some h
   refine T.region (go 3 8 (sO (cO 8 (move_ready_c p0 p1 (⟨s4,s5,s6,s7,s8⟩:State) x12 hx12) ⟨rfl,(go 1 9 (RS.nil (T.seq (T.seq (T.region (go 1 9 (sQ (Yoa (en:=Zda) Ty.s106 rfl rfl ?_))))))))⟩)))
   refine go 1 9 (RS.nil (T.ci h rfl (fun hb_10 h=>?_) (fun hb_10 h=>?_)))
   ·refine T.exit ?_
    obtain ⟨w_11,h,hw_11⟩:=Qua h
    replace h:=h.trans (congrArg some (hv_8 _ hw_11))
    refine T.seq (T.region (go 3 9 (RS.nil ?_)))
    cases h
    exact tD
   refine T.skip ?_
   obtain ⟨x13,hx13,h⟩:=bind_some h
   obtain ⟨x14,hx14,h⟩:=bind_some h
   obtain ⟨x15,hx15,h⟩:=bind_some h
   obtain ⟨x16,hx16,h⟩:=bind_some h
   obtain ⟨x17,hx17,h⟩:=bind_some h
   refine T.drawn mixed (k:=16) rfl (rq [1,2,3,4] 12 (r0 5 rfl (Yoa (en:=Zda) Ty.s106 rfl rfl (r0 6 rfl (v_rem rfl rfl hx13 (rq [7] 9 (r0 8 rfl (Yoa (en:=Zda) Ty.s106 rfl rfl (rq [9,10] 6 (r0 11 rfl (Yoa (en:=Zda) Ty.s106 rfl rfl (r0 12 rfl (v_rem rfl rfl hx14 (r0 13 rfl (Qta (en:=Zda) Ty.s106 rfl rfl rfl hx15 ?_)))))))))))))))
   refine rL [0,15] 0 rfl (ra1 14 (oO rfl (Q2a (en:=Zda) (a:=x16) rfl rfl hx16 (loadRowA Ty.k110 Ty.c110 rfl (cs:=(Zda x16)) rfl (ra1 15 (oO rfl (Q5a (ac:=[.agg (Jca p0),sL (encL Qaa) p1,.ptr 2 0,.agg (Zda x16)]) (as0:=[.agg (Jca p0),sL (encL Qaa) p1,.ptr 0 0,.agg (Zda x16)]) (aw0:=[.box [.ref 1,.ref 2,.ref 3,.ref 4,.ref 5],aR 3 1 encI s4,aR 29 1 (encL Qaa) s5,aR 63 3 Qba s6,aR 67 2 Qea s7,aR 94 3 Qaa s8]) (aw1:=[.box [.ref 1,.ref 2,.ref 3,.ref 6,.ref 7],aR 3 1 encI x17.1,aR 29 1 (encL Qaa) x17.2.1,aR 63 3 Qba x17.2.2.1,.dead,.dead,aR 67 2 Qea x17.2.2.2.1,aR 94 3 Qaa x17.2.2.2.2]) (aw2:=[.box (Jca p0),.box [.nils,.nils,.nils,.nils,.nils],.box [.ref 3,.ref 4,.ref 5,.ref 9,.ref 10],aR 3 1 encI x17.1,aR 29 1 (encL Qaa) x17.2.1,aR 63 3 Qba x17.2.2.1,.dead,.dead,aR 110 2 Zda x12,aR 67 2 Qea x17.2.2.2.1,aR 94 3 Qaa x17.2.2.2.2]) (v:=.tup []) (v':=.tup []) (n0:=9) (n1:=8) [2,3,4,5,6,7] rfl rfl rfl rfl (by decide) (Jea (cs:=[.ref 1,.ref 2,.ref 3,.ref 4,.ref 5]) (ds:=[.ref 3,.ref 4,.ref 5,.ref 6,.ref 7]) rfl ⟨Q6a rfl,Q6a rfl,Q6a rfl,Q6a rfl,Q6a rfl,trivial⟩ (Jwa rfl encI_p rfl (Jwa rfl (encL_p Jba) rfl (Jwa rfl J7a rfl (Jwa rfl J6a rfl (Jwa rfl Jba rfl (Qna))))))) ⟨rn_agg ⟨rn_s rfl,Qqa rfl,Qqa rfl,trivial⟩,rn_s rfl,Qma rfl,rn_agg ⟨Qqa rfl,Qqa rfl,trivial⟩,trivial⟩ (move_do_x5aa6_c p0 p1 x16 s4 s5 s6 s7 s8 x17 hx17) rfl (Yxa (cs:=[]) (ds:=[]) trivial) ⟨.inr ⟨rfl,rfl⟩,.inr ⟨rfl,rfl⟩,.inl ⟨0,_,by decide,rfl,Jaa (cs:=[.ref 3,.ref 4,.ref 5,.ref 9,.ref 10]) (ds:=[.ref 1,.ref 2,.ref 3,.ref 6,.ref 7]) ⟨Jya (by decide),Jya (by decide),Jya (by decide),Jya (by decide),Jya (by decide),trivial⟩⟩,.inl ⟨1,_,by decide,rfl,Jia encI_p⟩,.inl ⟨2,_,by decide,rfl,Jia (encL_p Jba)⟩,.inl ⟨3,_,by decide,rfl,Jia J7a⟩,.inl ⟨4,_,by decide,rfl,trivial⟩,.inl ⟨5,_,by decide,rfl,trivial⟩,.inr ⟨rfl,rfl⟩,.inl ⟨6,_,by decide,rfl,Jia J6a⟩,.inl ⟨7,_,by decide,rfl,Jia Jba⟩,trivial⟩ (RA.done (by decide +kernel) (T.region (go 2 11 (RS.nil ?_)))))))))))
   exact ⟨(IntKind.i64.wrap (s3+1),x17.1,x17.2.1,x17.2.2.1,x17.2.2.2.1,x17.2.2.2.2),(Option.some.inj h).symm,wk [] [0,1,2,3,4,5,9,10] 11 rfl⟩
  refine T.exit ?_
  obtain ⟨w_12,h,hw_12⟩:=Qua h
  replace h:=h.trans (congrArg some (hv_8 _ hw_12))
  refine T.seq (T.region (go 3 8 (RS.nil ?_)))
  cases h
  exact tD
theorem Qja (p0:List UInt8) (r:Int × (List UInt8)) (h:Qoa p0=some r):FnX Try.prog 48 [.ptr 0 0] [.box [.str p0]] (iI r.1) [.box [.str r.2]]:=by
  unfold Qoa at h
  refine fnT 1 Try.func48 Try.ntmps48 ?_
  refine T.seq (T.region (go 1 1 (RS.nil (T.seq (T.region (go 1 1 (RS.nil (T.seq (T.seq ?_)))))))))
  refine T.region (go 7 1 (RS.nil (T.block (T.iter (fun ss_5:Int × Int=>mkA 55 [(0,.ptr 0 0),(2,iI 0),(3,.int .u64 ss_5.1),(10,iI (if ((p0).length:Int)<10 then ((p0).length:Int) else 10)),(11,iI ss_5.2)]) (fun ss_5=>[.box [.str p0]]) h (wk [] [0] 1 rfl) (fun ss_5 v_6 h hv_6=>?_)))))
  obtain ⟨s1,s2⟩:=ss_5
  replace h:Jga p0 s1 s2=some v_6:=h
  try dsimp only
  unfold Jga at h
  refine T.seq (T.region (go 1 1 (RS.nil (T.seq (T.ci h rfl (fun hb_7 h=>?_) (fun hb_7 h=>?_))))))
  ·refine T.skip (T.seq (T.block (T.seq (T.region (go 2 1 (RS.nil (T.seq ?_)))))))
   obtain ⟨x5,hx5,h⟩:=bind_some h
   obtain ⟨x6,hx6,h⟩:=bind_some h
   refine T.region (go 6 1 (sQ (Joa Try.underlying9 rfl rfl hx5 (go 4 1 (sQ (v_shl rfl rfl hx6 (go 2 1 (RS.nil (T.seq ?_)))))))))
   obtain ⟨x8,hx8,h⟩:=bind_some h
   refine T.region (go 5 1 (sQ (Joa Try.underlying9 rfl rfl hx8 (go 1 1 (RS.nil (T.ci h rfl (fun hb_8 h=>?_) (fun hb_8 h=>?_)))))))
   ·refine T.seq ?_
    obtain ⟨x10,hx10,h⟩:=bind_some h
    refine T.region (go 7 1 (sO (o_slice_str Try.underlying9 rfl rfl rfl hx10 (go 3 1 (RS.nil (T.seq ?_))))))
    obtain ⟨x12,hx12,h⟩:=bind_some h
    refine T.region (go 1 1 (sQ (v_shr rfl rfl hx12 (go 7 1 (RS.nil ?_)))))
    obtain ⟨w_9,h,hw_9⟩:=Qua h
    replace h:=h.trans (congrArg some (hv_6 _ hw_9))
    cases h
    exact tN [0]
   refine T.skip (T.region (go 2 1 (RS.nil ?_)))
   exact ⟨(ibits .or .u64 s1 x6,IntKind.i64.wrap (s2+1)),(Option.some.inj h).symm,wk [] [0] 1 rfl⟩
  refine T.exit ?_
  obtain ⟨w_10,h,hw_10⟩:=Qua h
  replace h:=h.trans (congrArg some (hv_6 _ hw_10))
  cases h
theorem save_list_int_x6121_c (p0:List UInt8) (r:(List Int) × (List UInt8)) (h:Vsa p0=some r):FnX Try.prog 47 [.ptr 0 0,.bnd 48 [.ptr 0 0]] [.box [.str p0]] (.ref 1) [.box [.str r.2],aR 3 1 encI r.1]:=by
  unfold Vsa at h
  refine fnT 1 Try.func47 Try.ntmps47 ?_
  refine T.seq (T.region (go 1 1 (RS.nil (T.seq ?_))))
  obtain ⟨x2,hx2,h⟩:=bind_some h
  refine T.region (go 1 1 (sO (Q5a (ac:=[.ptr 0 0]) (as0:=[.ptr 0 0]) (aw0:=[.box [.str p0]]) (aw1:=[.box [.str x2.2]]) (aw2:=[.box [.str x2.2]]) (v:=iI x2.1) (v':=iI x2.1) (n0:=1) (n1:=1) [0] rfl rfl rfl rfl (by decide) (Jea (cs:=[.str p0]) (ds:=[.str p0]) rfl ⟨Jua rfl,trivial⟩ (Qna)) ⟨Qma rfl,trivial⟩ (Qja p0 x2 hx2) rfl (Qia (Qsa _ _)) ⟨.inl ⟨0,_,by decide,rfl,Jaa (cs:=[.str x2.2]) (ds:=[.str x2.2]) ⟨Qia (Jfa _),trivial⟩⟩,trivial⟩ (go 1 1 (RS.nil (T.seq (T.join (Z:=Unit) (fun _=>mkA 32 [(1,.bnd 48 [.ptr 0 0]),(5,iI x2.1),(19,.bool ((decide (x2.1<0)) || decide (x2.1 > ((x2.2).length:Int))))]) (fun _=>[.box [.str x2.2]]) (fun _=>True) (fun _ _=>?_) (fun hK=>?_))))))))
  ·refine T.ci h rfl (fun hb_2 h=>?_) (fun hb_2 h=>?_)
   ·cases h
   refine T.skip (T.seq (T.region (go 1 1 (RS.nil (T.seq (T.seq (T.region (go 2 1 (RS.nil ?_)))))))))
   refine T.block (T.iter (fun ss_5:Int × (List UInt8) × (List Int)=>mkA 32 [(1,.bnd 48 [.ptr 0 0]),(6,.ref 1),(22,iI x2.1),(23,iI ss_5.1)]) (fun ss_5=>[.box [.str ss_5.2.1],aR 3 1 encI ss_5.2.2]) h (wk [(6,3,1)] [0,1] 1 rfl) (fun ss_5 v_6 h hv_6=>?_))
   obtain ⟨s4,s5,s6⟩:=ss_5
   replace h:Zja x2 s4 s5 s6=some v_6:=h
   try dsimp only
   unfold Zja at h
   refine T.seq (T.region (go 1 2 (RS.nil (T.seq (T.ci h rfl (fun hb_7 h=>?_) (fun hb_7 h=>?_))))))
   ·refine T.skip (T.seq (T.block ?_))
    obtain ⟨x7,hx7,h⟩:=bind_some h
    obtain ⟨x8,hx8,h⟩:=bind_some h
    refine T.region (go 2 2 (sO (o_callFb (ac:=[.ptr 0 0]) (as0:=[.ptr 0 0]) (aw0:=[.box [.str s5]]) (aw1:=[.box [.str x7.2]]) (aw2:=[.box [.str x7.2],aR 3 1 encI s6]) (v:=iI x7.1) (v':=iI x7.1) (n0:=2) (n1:=1) [0] rfl rfl rfl rfl (by decide) (Jea (cs:=[.str s5]) (ds:=[.str s5]) rfl ⟨Jua rfl,trivial⟩ (Qna)) ⟨Qma rfl,trivial⟩ (Qja s5 x7 hx7) rfl (Qia (Qsa _ _)) ⟨.inl ⟨0,_,by decide,rfl,Jaa (cs:=[.str x7.2]) (ds:=[.str x7.2]) ⟨Qia (Jfa _),trivial⟩⟩,.inr ⟨rfl,rfl⟩,trivial⟩ (sO (Qya (rows:=List.map encI [x7.1]) (vs:=[iI x7.1]) Ty.s26 Ty.z3 rfl rfl rfl rfl rfl rfl (sO (Zta (en:=encI) (xs:=s6) (ys:=([x7.1]:List Int)) Ty.s26 (fun _=>rfl) rfl rfl rfl hx8 rfl rfl (go 1 4 (RS.nil (T.region (go 2 4 (RS.nil ?_))))))))))))
    exact ⟨(IntKind.i64.wrap (s4+1),x7.2,x8),(Option.some.inj h).symm,wk [] [0,3] 4 rfl⟩
   refine T.exit ?_
   obtain ⟨w_8,h,hw_8⟩:=Qua h
   replace h:=h.trans (congrArg some (hv_6 _ hw_8))
   refine T.seq (T.region (go 2 2 (RS.nil ?_)))
   cases h
   exact tO [] [0,1] 2
  refine T.region (go 3 1 ?_)
  rcases Qca (decide (x2.1<0)) with hb_1 | hb_1
  ·refine sN hb_1 (sN hb_1 (sN hb_1 (sN hb_1 (sN hb_1 (sN hb_1 (sN hb_1 (sQ (Qfa (v:=.bool true) rfl hb_1 rfl (RS.nil ?_)))))))))
   exact T.sub (hK () trivial) ⟨rfl,rfl,(congrArg AV.bool (by simp only [hb_1,bz,if_true,if_false,Bool.false_eq_true])).symm,trivial⟩
  refine yg 1 hb_1 (yg 1 hb_1 (yg 1 hb_1 (yg 1 hb_1 (yg 1 hb_1 (yg 1 hb_1 (yg 1 hb_1 (sQ (Qda (v:=.bool (decide (x2.1 > ((x2.2).length:Int)))) rfl hb_1 rfl (RS.nil ?_)))))))))
  exact T.sub (hK () trivial) ⟨rfl,rfl,(congrArg AV.bool (by simp only [hb_1,bz,if_true,if_false,Bool.false_eq_true])).symm,trivial⟩
theorem save_reader_item_xd243_c (p0:List UInt8) (r:Item × (List UInt8)) (h:Z3a p0=some r):FnX Try.prog 72 [.ptr 0 0] [.box [.str p0]] (.agg (Qaa r.1)) [.box [.str r.2]]:=by
  unfold Z3a at h
  refine fnT 1 Try.func72 Try.ntmps72 ?_
  refine T.seq (T.region (go 1 1 (RS.nil (T.seq ?_))))
  obtain ⟨x4,hx4,h⟩:=bind_some h
  obtain ⟨x5,hx5,h⟩:=bind_some h
  obtain ⟨x6,hx6,h⟩:=bind_some h
  refine T.region (go 1 2 (sO (Q5a (ac:=[.ptr 0 0]) (as0:=[.ptr 0 0]) (aw0:=[.box [.str p0]]) (aw1:=[.box [.str x4.2]]) (aw2:=[.box [.str x4.2],.box [iI 0,iI 0,iI 0]]) (v:=iI x4.1) (v':=iI x4.1) (n0:=2) (n1:=1) [0] rfl rfl rfl rfl (by decide) (Jea (cs:=[.str p0]) (ds:=[.str p0]) rfl ⟨Jua rfl,trivial⟩ (Qna)) ⟨Qma rfl,trivial⟩ (Qja p0 x4 hx4) rfl (Qia (Qsa _ _)) ⟨.inl ⟨0,_,by decide,rfl,Jaa (cs:=[.str x4.2]) (ds:=[.str x4.2]) ⟨Qia (Jfa _),trivial⟩⟩,.inr ⟨rfl,rfl⟩,trivial⟩ (go 1 2 (sO (Q5a (ac:=[.ptr 0 0]) (as0:=[.ptr 0 0]) (aw0:=[.box [.str x4.2]]) (aw1:=[.box [.str x5.2]]) (aw2:=[.box [.str x5.2],.box [iI 0,iI 0,iI 0]]) (v:=iI x5.1) (v':=iI x5.1) (n0:=2) (n1:=1) [0] rfl rfl rfl rfl (by decide) (Jea (cs:=[.str x4.2]) (ds:=[.str x4.2]) rfl ⟨Jua rfl,trivial⟩ (Qna)) ⟨Qma rfl,trivial⟩ (Qja x4.2 x5 hx5) rfl (Qia (Qsa _ _)) ⟨.inl ⟨0,_,by decide,rfl,Jaa (cs:=[.str x5.2]) (ds:=[.str x5.2]) ⟨Qia (Jfa _),trivial⟩⟩,.inr ⟨rfl,rfl⟩,trivial⟩ (go 1 2 (sO (Q5a (ac:=[.ptr 0 0]) (as0:=[.ptr 0 0]) (aw0:=[.box [.str x5.2]]) (aw1:=[.box [.str x6.2]]) (aw2:=[.box [.str x6.2],.box [iI 0,iI 0,iI 0]]) (v:=iI x6.1) (v':=iI x6.1) (n0:=2) (n1:=1) [0] rfl rfl rfl rfl (by decide) (Jea (cs:=[.str x5.2]) (ds:=[.str x5.2]) rfl ⟨Jua rfl,trivial⟩ (Qna)) ⟨Qma rfl,trivial⟩ (Qja x5.2 x6 hx6) rfl (Qia (Qsa _ _)) ⟨.inl ⟨0,_,by decide,rfl,Jaa (cs:=[.str x6.2]) (ds:=[.str x6.2]) ⟨Qia (Jfa _),trivial⟩⟩,.inr ⟨rfl,rfl⟩,trivial⟩ (go 2 2 (RS.nil ?_)))))))))))
  cases h
  exact tN [0]
theorem save_list_api_Item_xccb1_c (p0:List UInt8) (r:(List Item) × (List UInt8)) (h:Vba p0=some r):FnX Try.prog 71 [.ptr 0 0,.bnd 72 [.ptr 0 0]] [.box [.str p0]] (.ref 1) [.box [.str r.2],aR 94 3 Qaa r.1]:=by
  unfold Vba at h
  refine fnT 1 Try.func71 Try.ntmps71 ?_
  refine T.seq (T.region (go 1 1 (RS.nil (T.seq ?_))))
  obtain ⟨x2,hx2,h⟩:=bind_some h
  refine T.region (go 1 1 (sO (Q5a (ac:=[.ptr 0 0]) (as0:=[.ptr 0 0]) (aw0:=[.box [.str p0]]) (aw1:=[.box [.str x2.2]]) (aw2:=[.box [.str x2.2]]) (v:=iI x2.1) (v':=iI x2.1) (n0:=1) (n1:=1) [0] rfl rfl rfl rfl (by decide) (Jea (cs:=[.str p0]) (ds:=[.str p0]) rfl ⟨Jua rfl,trivial⟩ (Qna)) ⟨Qma rfl,trivial⟩ (Qja p0 x2 hx2) rfl (Qia (Qsa _ _)) ⟨.inl ⟨0,_,by decide,rfl,Jaa (cs:=[.str x2.2]) (ds:=[.str x2.2]) ⟨Qia (Jfa _),trivial⟩⟩,trivial⟩ (go 1 1 (RS.nil (T.seq (T.join (Z:=Unit) (fun _=>mkA 32 [(1,.bnd 72 [.ptr 0 0]),(5,iI x2.1),(19,.bool ((decide (x2.1<0)) || decide (x2.1 > ((x2.2).length:Int))))]) (fun _=>[.box [.str x2.2]]) (fun _=>True) (fun _ _=>?_) (fun hK=>?_))))))))
  ·refine T.ci h rfl (fun hb_2 h=>?_) (fun hb_2 h=>?_)
   ·cases h
   refine T.skip (T.seq (T.region (go 1 1 (RS.nil (T.seq (T.seq (T.region (go 2 1 (RS.nil ?_)))))))))
   refine T.block (T.iter (fun ss_5:Int × (List UInt8) × (List Item)=>mkA 32 [(1,.bnd 72 [.ptr 0 0]),(6,.ref 1),(22,iI x2.1),(23,iI ss_5.1)]) (fun ss_5=>[.box [.str ss_5.2.1],aR 94 3 Qaa ss_5.2.2]) h (wk [(6,94,3)] [0,1] 1 rfl) (fun ss_5 v_6 h hv_6=>?_))
   obtain ⟨s4,s5,s6⟩:=ss_5
   replace h:Jva x2 s4 s5 s6=some v_6:=h
   try dsimp only
   unfold Jva at h
   refine T.seq (T.region (go 1 2 (RS.nil (T.seq (T.ci h rfl (fun hb_7 h=>?_) (fun hb_7 h=>?_))))))
   ·refine T.skip (T.seq (T.block ?_))
    obtain ⟨x7,hx7,h⟩:=bind_some h
    obtain ⟨x8,hx8,h⟩:=bind_some h
    refine T.region (go 2 2 (sO (o_callFb (ac:=[.ptr 0 0]) (as0:=[.ptr 0 0]) (aw0:=[.box [.str s5]]) (aw1:=[.box [.str x7.2]]) (aw2:=[.box [.str x7.2],aR 94 3 Qaa s6]) (v:=.agg (Qaa x7.1)) (v':=.agg (Qaa x7.1)) (n0:=2) (n1:=1) [0] rfl rfl rfl rfl (by decide) (Jea (cs:=[.str s5]) (ds:=[.str s5]) rfl ⟨Jua rfl,trivial⟩ (Qna)) ⟨Qma rfl,trivial⟩ (save_reader_item_xd243_c s5 x7 hx7) rfl (rm_agg (cs:=(Qaa x7.1)) (ds:=(Qaa x7.1)) ⟨Qia (Qsa _ _),Qia (Qsa _ _),Qia (Qsa _ _),trivial⟩) ⟨.inl ⟨0,_,by decide,rfl,Jaa (cs:=[.str x7.2]) (ds:=[.str x7.2]) ⟨Qia (Jfa _),trivial⟩⟩,.inr ⟨rfl,rfl⟩,trivial⟩ (sO (Qya (rows:=List.map Qaa [x7.1]) (vs:=[.agg (Qaa x7.1)]) Ty.s29 Ty.z94 rfl rfl rfl rfl rfl rfl (sO (Zta (en:=Qaa) (xs:=s6) (ys:=([x7.1]:List Item)) Ty.s29 (fun _=>rfl) rfl rfl rfl hx8 rfl rfl (go 1 4 (RS.nil (T.region (go 2 4 (RS.nil ?_))))))))))))
    exact ⟨(IntKind.i64.wrap (s4+1),x7.2,x8),(Option.some.inj h).symm,wk [] [0,3] 4 rfl⟩
   refine T.exit ?_
   obtain ⟨w_8,h,hw_8⟩:=Qua h
   replace h:=h.trans (congrArg some (hv_6 _ hw_8))
   refine T.seq (T.region (go 2 2 (RS.nil ?_)))
   cases h
   exact tO [] [0,1] 2
  refine T.region (go 3 1 ?_)
  rcases Qca (decide (x2.1<0)) with hb_1 | hb_1
  ·refine sN hb_1 (sN hb_1 (sN hb_1 (sN hb_1 (sN hb_1 (sN hb_1 (sN hb_1 (sQ (Qfa (v:=.bool true) rfl hb_1 rfl (RS.nil ?_)))))))))
   exact T.sub (hK () trivial) ⟨rfl,rfl,(congrArg AV.bool (by simp only [hb_1,bz,if_true,if_false,Bool.false_eq_true])).symm,trivial⟩
  refine yg 1 hb_1 (yg 1 hb_1 (yg 1 hb_1 (yg 1 hb_1 (yg 1 hb_1 (yg 1 hb_1 (yg 1 hb_1 (sQ (Qda (v:=.bool (decide (x2.1 > ((x2.2).length:Int)))) rfl hb_1 rfl (RS.nil ?_)))))))))
  exact T.sub (hK () trivial) ⟨rfl,rfl,(congrArg AV.bool (by simp only [hb_1,bz,if_true,if_false,Bool.false_eq_true])).symm,trivial⟩
theorem Qub (p0:List UInt8) (r:(List Item) × (List UInt8)) (h:Zba p0=some r):FnX Try.prog 50 [.ptr 0 0] [.box [.str p0]] (.ref 1) [.box [.str r.2],aR 94 3 Qaa r.1]:=by
  unfold Zba at h
  refine fnT 1 Try.func50 Try.ntmps50 ?_
  refine T.seq (T.region (go 1 1 (RS.nil (T.seq ?_))))
  obtain ⟨x2,hx2,h⟩:=bind_some h
  refine T.region (go 2 1 (sQ (v_bnd (cs:=[.ptr 0 0]) rfl (sO (Q5a (ac:=[.ptr 0 0,.bnd 72 [.ptr 0 0]]) (as0:=[.ptr 0 0,.bnd 72 [.ptr 0 0]]) (aw0:=[.box [.str p0]]) (aw1:=[.box [.str x2.2],aR 94 3 Qaa x2.1]) (aw2:=[.box [.str x2.2],aR 94 3 Qaa x2.1]) (v:=.ref 1) (v':=.ref 1) (n0:=1) (n1:=2) [0] rfl rfl rfl rfl (by decide) (Jea (cs:=[.str p0]) (ds:=[.str p0]) rfl ⟨Jua rfl,trivial⟩ (Qna)) ⟨Qma rfl,rn_bnd ⟨Qma rfl,trivial⟩,trivial⟩ (save_list_api_Item_xccb1_c p0 x2 hx2) rfl (Jya (by decide)) ⟨.inl ⟨0,_,by decide,rfl,Jaa (cs:=[.str x2.2]) (ds:=[.str x2.2]) ⟨Qia (Jfa _),trivial⟩⟩,.inl ⟨1,_,by decide,rfl,Jia Jba⟩,trivial⟩ (go 1 2 (RS.nil ?_)))))))
  cases h
  exact tO [] [0,1] 2
theorem save_list_Item_xfbdb_c (p0:List UInt8) (r:(List (List Item)) × (List UInt8)) (h:Vga p0=some r):FnX Try.prog 49 [.ptr 0 0,.bnd 50 [.ptr 0 0]] [.box [.str p0]] (.ref 1) [.box [.str r.2],aR 29 1 (encL Qaa) r.1]:=by
  unfold Vga at h
  refine fnT 1 Try.func49 Try.ntmps49 ?_
  refine T.seq (T.region (go 1 1 (RS.nil (T.seq ?_))))
  obtain ⟨x2,hx2,h⟩:=bind_some h
  refine T.region (go 1 1 (sO (Q5a (ac:=[.ptr 0 0]) (as0:=[.ptr 0 0]) (aw0:=[.box [.str p0]]) (aw1:=[.box [.str x2.2]]) (aw2:=[.box [.str x2.2]]) (v:=iI x2.1) (v':=iI x2.1) (n0:=1) (n1:=1) [0] rfl rfl rfl rfl (by decide) (Jea (cs:=[.str p0]) (ds:=[.str p0]) rfl ⟨Jua rfl,trivial⟩ (Qna)) ⟨Qma rfl,trivial⟩ (Qja p0 x2 hx2) rfl (Qia (Qsa _ _)) ⟨.inl ⟨0,_,by decide,rfl,Jaa (cs:=[.str x2.2]) (ds:=[.str x2.2]) ⟨Qia (Jfa _),trivial⟩⟩,trivial⟩ (go 1 1 (RS.nil (T.seq (T.join (Z:=Unit) (fun _=>mkA 32 [(1,.bnd 50 [.ptr 0 0]),(5,iI x2.1),(19,.bool ((decide (x2.1<0)) || decide (x2.1 > ((x2.2).length:Int))))]) (fun _=>[.box [.str x2.2]]) (fun _=>True) (fun _ _=>?_) (fun hK=>?_))))))))
  ·refine T.ci h rfl (fun hb_2 h=>?_) (fun hb_2 h=>?_)
   ·cases h
   refine T.skip (T.seq (T.region (go 1 1 (RS.nil (T.seq (T.seq (T.region (go 2 1 (RS.nil ?_)))))))))
   refine T.block (T.iter (fun ss_5:Int × (List UInt8) × (List (List Item))=>mkA 32 [(1,.bnd 50 [.ptr 0 0]),(6,.ref 1),(22,iI x2.1),(23,iI ss_5.1)]) (fun ss_5=>[.box [.str ss_5.2.1],aR 29 1 (encL Qaa) ss_5.2.2]) h (wk [(6,29,1)] [0,1] 1 rfl) (fun ss_5 v_6 h hv_6=>?_))
   obtain ⟨s4,s5,s6⟩:=ss_5
   replace h:Zea x2 s4 s5 s6=some v_6:=h
   try dsimp only
   unfold Zea at h
   refine T.seq (T.region (go 1 2 (RS.nil (T.seq (T.ci h rfl (fun hb_7 h=>?_) (fun hb_7 h=>?_))))))
   ·refine T.skip (T.seq (T.block ?_))
    obtain ⟨x7,hx7,h⟩:=bind_some h
    obtain ⟨x8,hx8,h⟩:=bind_some h
    refine T.region (go 2 2 (sO (o_callFb (ac:=[.ptr 0 0]) (as0:=[.ptr 0 0]) (aw0:=[.box [.str s5]]) (aw1:=[.box [.str x7.2],aR 94 3 Qaa x7.1]) (aw2:=[.box [.str x7.2],aR 29 1 (encL Qaa) s6,aR 94 3 Qaa x7.1]) (v:=.ref 1) (v':=.ref 2) (n0:=2) (n1:=2) [0] rfl rfl rfl rfl (by decide) (Jea (cs:=[.str s5]) (ds:=[.str s5]) rfl ⟨Jua rfl,trivial⟩ (Qna)) ⟨Qma rfl,trivial⟩ (Qub s5 x7 hx7) rfl (Jya (by decide)) ⟨.inl ⟨0,_,by decide,rfl,Jaa (cs:=[.str x7.2]) (ds:=[.str x7.2]) ⟨Qia (Jfa _),trivial⟩⟩,.inr ⟨rfl,rfl⟩,.inl ⟨1,_,by decide,rfl,Jia Jba⟩,trivial⟩ (RS.fC 2 (sO (Qya (rows:=List.map (encL Qaa) [x7.1]) (vs:=[sL Qaa x7.1]) Ty.s25 Ty.z29 rfl rfl rfl rfl rfl rfl (sO (Zta (en:=(encL Qaa)) (xs:=s6) (ys:=([x7.1]:List (List Item))) Ty.s25 (fun _=>rfl) rfl rfl rfl hx8 rfl rfl (go 1 5 (RS.nil (T.region (go 2 5 ?_))))))))))))
    refine RS.nil ?_
    exact ⟨(IntKind.i64.wrap (s4+1),x7.2,x8),(Option.some.inj h).symm,wk [] [0,4] 5 rfl⟩
   refine T.exit ?_
   obtain ⟨w_8,h,hw_8⟩:=Qua h
   replace h:=h.trans (congrArg some (hv_6 _ hw_8))
   refine T.seq (T.region (go 2 2 (RS.nil ?_)))
   cases h
   exact tO [] [0,1] 2
  refine T.region (go 3 1 ?_)
  rcases Qca (decide (x2.1<0)) with hb_1 | hb_1
  ·refine sN hb_1 (sN hb_1 (sN hb_1 (sN hb_1 (sN hb_1 (sN hb_1 (sN hb_1 (sQ (Qfa (v:=.bool true) rfl hb_1 rfl (RS.nil ?_)))))))))
   exact T.sub (hK () trivial) ⟨rfl,rfl,(congrArg AV.bool (by simp only [hb_1,bz,if_true,if_false,Bool.false_eq_true])).symm,trivial⟩
  refine yg 1 hb_1 (yg 1 hb_1 (yg 1 hb_1 (yg 1 hb_1 (yg 1 hb_1 (yg 1 hb_1 (yg 1 hb_1 (sQ (Qda (v:=.bool (decide (x2.1 > ((x2.2).length:Int)))) rfl hb_1 rfl (RS.nil ?_)))))))))
  exact T.sub (hK () trivial) ⟨rfl,rfl,(congrArg AV.bool (by simp only [hb_1,bz,if_true,if_false,Bool.false_eq_true])).symm,trivial⟩
theorem save_Of_2_1_x700a_c (p0:List UInt8) (r:Keyed × (List UInt8)) (h:Yda p0=some r):FnX Try.prog 54 [.ptr 0 0] [.box [.ptr 1 0],.box [.str p0]] (.agg (Qla r.1)) [.box [.ptr 1 0],.box [.str r.2]]:=by
  unfold Yda at h
  refine fnT 2 Try.func54 Try.ntmps54 ?_
  refine T.seq (T.region (go 1 2 (RS.nil (T.seq ?_))))
  obtain ⟨x3,hx3,h⟩:=bind_some h
  obtain ⟨x4,hx4,h⟩:=bind_some h
  refine T.drawn mixed (k:=6) rfl ?_
  apply RA.jn 3 #[true,true,true,false,false,false];intro hS1
  ·refine rL [0,1,3,4,5] 0 rfl (ra2 1 2 ?_ ?_)
   ·refine oO rfl (Q5a (ac:=[.ptr 1 0]) (as0:=[.ptr 0 0]) (aw0:=[.box [.str p0]]) (aw1:=[.box [.str x3.2]]) (aw2:=[.box [.ptr 1 0],.box [.str x3.2],.box [iI 0,iI 0]]) (v:=iI x3.1) (v':=iI x3.1) (n0:=3) (n1:=1) [1] rfl rfl rfl rfl (by decide) (Jea (cs:=[.str p0]) (ds:=[.str p0]) rfl ⟨Jua rfl,trivial⟩ (Qna)) ⟨Qma rfl,trivial⟩ (Qja p0 x3 hx3) rfl (Qia (Qsa _ _)) ⟨.inr ⟨rfl,rfl⟩,.inl ⟨0,_,by decide,rfl,Jaa (cs:=[.str x3.2]) (ds:=[.str x3.2]) ⟨Qia (Jfa _),trivial⟩⟩,.inr ⟨rfl,rfl⟩,trivial⟩ (ra1 2 (og 3 ⟨rfl,?_⟩)))
    exact raE hS1
   ·refine og 3 ⟨rfl,(ra1 1 (oO rfl (Q5a (ac:=[.ptr 1 0]) (as0:=[.ptr 0 0]) (aw0:=[.box [.str p0]]) (aw1:=[.box [.str x3.2]]) (aw2:=[.box [.ptr 1 0],.box [.str x3.2],.box [iI 0,iI 0]]) (v:=iI x3.1) (v':=iI x3.1) (n0:=3) (n1:=1) [1] rfl rfl rfl rfl (by decide) (Jea (cs:=[.str p0]) (ds:=[.str p0]) rfl ⟨Jua rfl,trivial⟩ (Qna)) ⟨Qma rfl,trivial⟩ (Qja p0 x3 hx3) rfl (Qia (Qsa _ _)) ⟨.inr ⟨rfl,rfl⟩,.inl ⟨0,_,by decide,rfl,Jaa (cs:=[.str x3.2]) (ds:=[.str x3.2]) ⟨Qia (Jfa _),trivial⟩⟩,.inr ⟨rfl,rfl⟩,trivial⟩ ?_)))⟩
    exact raT hS1
  refine ra1 3 (oO rfl (Q5a (ac:=[.ptr 1 0]) (as0:=[.ptr 0 0]) (aw0:=[.box [.str x3.2]]) (aw1:=[.box [.str x4.2]]) (aw2:=[.box [.ptr 1 0],.box [.str x4.2],.box [iI 0,iI 0]]) (v:=iI x4.1) (v':=iI x4.1) (n0:=3) (n1:=1) [1] rfl rfl rfl rfl (by decide) (Jea (cs:=[.str x3.2]) (ds:=[.str x3.2]) rfl ⟨Jua rfl,trivial⟩ (Qna)) ⟨Qma rfl,trivial⟩ (Qja x3.2 x4 hx4) rfl (Qia (Qsa _ _)) ⟨.inr ⟨rfl,rfl⟩,.inl ⟨0,_,by decide,rfl,Jaa (cs:=[.str x4.2]) (ds:=[.str x4.2]) ⟨Qia (Jfa _),trivial⟩⟩,.inr ⟨rfl,rfl⟩,trivial⟩ (rq [4] 1 (ra1 5 (og 3 ⟨rfl,(RA.done (by decide +kernel) ?_)⟩)))))
  cases h
  exact tN [0,1]
theorem save_list_api_Keyed_x5e48_c (p0:List UInt8) (r:(List Keyed) × (List UInt8)) (h:Zla p0=some r):FnX Try.prog 53 [.ptr 0 0,.func 54 [.ptr 1 0]] [.box [.str p0],.box [.ptr 0 0]] (.ref 2) [.box [.str r.2],.box [.ptr 0 0],aR 65 2 Qla r.1]:=by
  unfold Zla at h
  refine fnT 2 Try.func53 Try.ntmps53 ?_
  refine T.seq (T.region (go 1 2 (RS.nil (T.seq ?_))))
  obtain ⟨x2,hx2,h⟩:=bind_some h
  refine T.region (go 1 2 (sO (Q5a (ac:=[.ptr 0 0]) (as0:=[.ptr 0 0]) (aw0:=[.box [.str p0]]) (aw1:=[.box [.str x2.2]]) (aw2:=[.box [.str x2.2],.box [.ptr 0 0]]) (v:=iI x2.1) (v':=iI x2.1) (n0:=2) (n1:=1) [0] rfl rfl rfl rfl (by decide) (Jea (cs:=[.str p0]) (ds:=[.str p0]) rfl ⟨Jua rfl,trivial⟩ (Qna)) ⟨Qma rfl,trivial⟩ (Qja p0 x2 hx2) rfl (Qia (Qsa _ _)) ⟨.inl ⟨0,_,by decide,rfl,Jaa (cs:=[.str x2.2]) (ds:=[.str x2.2]) ⟨Qia (Jfa _),trivial⟩⟩,.inr ⟨rfl,rfl⟩,trivial⟩ (go 1 2 (RS.nil (T.seq (T.join (Z:=Unit) (fun _=>mkA 32 [(1,.func 54 [.ptr 1 0]),(5,iI x2.1),(19,.bool ((decide (x2.1<0)) || decide (x2.1 > ((x2.2).length:Int))))]) (fun _=>[.box [.str x2.2],.box [.ptr 0 0]]) (fun _=>True) (fun _ _=>?_) (fun hK=>?_))))))))
  ·refine T.ci h rfl (fun hb_2 h=>?_) (fun hb_2 h=>?_)
   ·cases h
   refine T.skip (T.seq (T.region (go 1 2 (RS.nil (T.seq (T.seq (T.region (go 2 2 (RS.nil ?_)))))))))
   refine T.block (T.iter (fun ss_5:Int × (List UInt8) × (List Keyed)=>mkA 32 [(1,.func 54 [.ptr 1 0]),(6,.ref 2),(22,iI x2.1),(23,iI ss_5.1)]) (fun ss_5=>[.box [.str ss_5.2.1],.box [.ptr 0 0],aR 65 2 Qla ss_5.2.2]) h (wk [(6,65,2)] [0,1,2] 2 rfl) (fun ss_5 v_6 h hv_6=>?_))
   obtain ⟨s4,s5,s6⟩:=ss_5
   replace h:Jta x2 s4 s5 s6=some v_6:=h
   try dsimp only
   unfold Jta at h
   refine T.seq (T.region (go 1 3 (RS.nil (T.seq (T.ci h rfl (fun hb_7 h=>?_) (fun hb_7 h=>?_))))))
   ·refine T.skip (T.seq (T.block ?_))
    obtain ⟨x7,hx7,h⟩:=bind_some h
    obtain ⟨x8,hx8,h⟩:=bind_some h
    refine T.region (go 2 3 (sO (Q5a (ac:=[.ptr 1 0]) (as0:=[.ptr 0 0]) (aw0:=[.box [.ptr 1 0],.box [.str s5]]) (aw1:=[.box [.ptr 1 0],.box [.str x7.2]]) (aw2:=[.box [.str x7.2],.box [.ptr 0 0],aR 65 2 Qla s6]) (v:=.agg (Qla x7.1)) (v':=.agg (Qla x7.1)) (n0:=3) (n1:=2) [1,0] rfl rfl rfl rfl (by decide) (Jea (cs:=[.ptr 1 0]) (ds:=[.ptr 0 0]) rfl ⟨Qma rfl,trivial⟩ (Jea (cs:=[.str s5]) (ds:=[.str s5]) rfl ⟨Jua rfl,trivial⟩ (Qna))) ⟨Qma rfl,trivial⟩ (save_Of_2_1_x700a_c s5 x7 hx7) rfl (rm_agg (cs:=(Qla x7.1)) (ds:=(Qla x7.1)) ⟨Qia (Qsa _ _),Qia (Qsa _ _),trivial⟩) ⟨.inl ⟨1,_,by decide,rfl,Jaa (cs:=[.str x7.2]) (ds:=[.str x7.2]) ⟨Qia (Jfa _),trivial⟩⟩,.inl ⟨0,_,by decide,rfl,Jaa (cs:=[.ptr 0 0]) (ds:=[.ptr 1 0]) ⟨rm_ptr (by decide),trivial⟩⟩,.inr ⟨rfl,rfl⟩,trivial⟩ (sO (Qya (rows:=List.map Qla [x7.1]) (vs:=[.agg (Qla x7.1)]) Ty.s61 Ty.z65 rfl rfl rfl rfl rfl rfl (sO (Zta (en:=Qla) (xs:=s6) (ys:=([x7.1]:List Keyed)) Ty.s61 (fun _=>rfl) rfl rfl rfl hx8 rfl rfl (go 1 5 (RS.nil (T.region (go 2 5 (RS.nil ?_))))))))))))
    exact ⟨(IntKind.i64.wrap (s4+1),x7.2,x8),(Option.some.inj h).symm,wk [] [0,1,4] 5 rfl⟩
   refine T.exit ?_
   obtain ⟨w_8,h,hw_8⟩:=Qua h
   replace h:=h.trans (congrArg some (hv_6 _ hw_8))
   refine T.seq (T.region (go 2 3 (RS.nil ?_)))
   cases h
   exact tO [] [0,1,2] 3
  refine T.region (go 3 2 ?_)
  rcases Qca (decide (x2.1<0)) with hb_1 | hb_1
  ·refine sN hb_1 (sN hb_1 (sN hb_1 (sN hb_1 (sN hb_1 (sN hb_1 (sN hb_1 (sQ (Qfa (v:=.bool true) rfl hb_1 rfl (RS.nil ?_)))))))))
   exact T.sub (hK () trivial) ⟨rfl,rfl,(congrArg AV.bool (by simp only [hb_1,bz,if_true,if_false,Bool.false_eq_true])).symm,trivial⟩
  refine yg 2 hb_1 (yg 2 hb_1 (yg 2 hb_1 (yg 2 hb_1 (yg 2 hb_1 (yg 2 hb_1 (yg 2 hb_1 (sQ (Qda (v:=.bool (decide (x2.1 > ((x2.2).length:Int)))) rfl hb_1 rfl (RS.nil ?_)))))))))
  exact T.sub (hK () trivial) ⟨rfl,rfl,(congrArg AV.bool (by simp only [hb_1,bz,if_true,if_false,Bool.false_eq_true])).symm,trivial⟩
theorem save_Of_2_x700a_c (p0:List UInt8) (r:Memory × (List UInt8)) (h:Yya p0=some r):FnX Try.prog 52 [.ptr 0 0] [.box [.ptr 1 0],.box [.str p0]] (.agg (Qba r.1)) [.box [.ptr 1 0],.box [.str r.2]]:=by
  unfold Yya at h
  refine fnT 2 Try.func52 Try.ntmps52 ?_
  refine T.seq (T.region (go 1 2 (RS.nil (T.seq ?_))))
  obtain ⟨x4,hx4,h⟩:=bind_some h
  obtain ⟨x5,hx5,h⟩:=bind_some h
  obtain ⟨x6,hx6,h⟩:=bind_some h
  refine T.drawn mixed (k:=9) rfl ?_
  apply RA.jn 3 #[true,true,true,true,true,true,false,false,false];intro hS1
  apply RA.jn 4 #[true,true,true,false,true,true,false,false,false];intro hS2
  apply RA.jn 5 #[true,true,true,false,false,true,false,false,false];intro hS3
  apply RA.jn 5 #[true,false,true,false,true,true,false,false,false];intro hS4
  ·refine rq [5] 8 (rL [0,1,3,6,7,8] 0 rfl (ra3 1 2 4 ?_ ?_ ?_))
   ·refine oO rfl (Q5a (ac:=[.ptr 1 0]) (as0:=[.ptr 0 0]) (aw0:=[.box [.str p0]]) (aw1:=[.box [.str x4.2]]) (aw2:=[.box [.ptr 1 0],.box [.str x4.2],.box [iI 0,.nils,iI 0]]) (v:=iI x4.1) (v':=iI x4.1) (n0:=3) (n1:=1) [1] rfl rfl rfl rfl (by decide) (Jea (cs:=[.str p0]) (ds:=[.str p0]) rfl ⟨Jua rfl,trivial⟩ (Qna)) ⟨Qma rfl,trivial⟩ (Qja p0 x4 hx4) rfl (Qia (Qsa _ _)) ⟨.inr ⟨rfl,rfl⟩,.inl ⟨0,_,by decide,rfl,Jaa (cs:=[.str x4.2]) (ds:=[.str x4.2]) ⟨Qia (Jfa _),trivial⟩⟩,.inr ⟨rfl,rfl⟩,trivial⟩ (rL [2,3,6,7,8] 2 rfl ?_))
    exact raE hS3
   ·refine og 3 ⟨rfl,(ra2 1 4 ?_ ?_)⟩
    ·refine oO rfl (Q5a (ac:=[.ptr 1 0]) (as0:=[.ptr 0 0]) (aw0:=[.box [.str p0]]) (aw1:=[.box [.str x4.2]]) (aw2:=[.box [.ptr 1 0],.box [.str x4.2],.box [iI 0,.nils,iI 0]]) (v:=iI x4.1) (v':=iI x4.1) (n0:=3) (n1:=1) [1] rfl rfl rfl rfl (by decide) (Jea (cs:=[.str p0]) (ds:=[.str p0]) rfl ⟨Jua rfl,trivial⟩ (Qna)) ⟨Qma rfl,trivial⟩ (Qja p0 x4 hx4) rfl (Qia (Qsa _ _)) ⟨.inr ⟨rfl,rfl⟩,.inl ⟨0,_,by decide,rfl,Jaa (cs:=[.str x4.2]) (ds:=[.str x4.2]) ⟨Qia (Jfa _),trivial⟩⟩,.inr ⟨rfl,rfl⟩,trivial⟩ ?_)
     exact raT hS3
    ·refine og 3 ⟨rfl,?_⟩
     exact raE hS4
   ·refine og 3 ⟨rfl,(ra2 1 2 ?_ ?_)⟩
    ·refine oO rfl (Q5a (ac:=[.ptr 1 0]) (as0:=[.ptr 0 0]) (aw0:=[.box [.str p0]]) (aw1:=[.box [.str x4.2]]) (aw2:=[.box [.ptr 1 0],.box [.str x4.2],.box [iI 0,.nils,iI 0]]) (v:=iI x4.1) (v':=iI x4.1) (n0:=3) (n1:=1) [1] rfl rfl rfl rfl (by decide) (Jea (cs:=[.str p0]) (ds:=[.str p0]) rfl ⟨Jua rfl,trivial⟩ (Qna)) ⟨Qma rfl,trivial⟩ (Qja p0 x4 hx4) rfl (Qia (Qsa _ _)) ⟨.inr ⟨rfl,rfl⟩,.inl ⟨0,_,by decide,rfl,Jaa (cs:=[.str x4.2]) (ds:=[.str x4.2]) ⟨Qia (Jfa _),trivial⟩⟩,.inr ⟨rfl,rfl⟩,trivial⟩ (ra1 2 (og 3 ⟨rfl,?_⟩)))
     exact raE hS2
    ·refine og 3 ⟨rfl,?_⟩
     exact raT hS4
  ·refine ra1 1 (oO rfl (Q5a (ac:=[.ptr 1 0]) (as0:=[.ptr 0 0]) (aw0:=[.box [.str p0]]) (aw1:=[.box [.str x4.2]]) (aw2:=[.box [.ptr 1 0],.box [.str x4.2],.box [iI 0,.nils,iI 0]]) (v:=iI x4.1) (v':=iI x4.1) (n0:=3) (n1:=1) [1] rfl rfl rfl rfl (by decide) (Jea (cs:=[.str p0]) (ds:=[.str p0]) rfl ⟨Jua rfl,trivial⟩ (Qna)) ⟨Qma rfl,trivial⟩ (Qja p0 x4 hx4) rfl (Qia (Qsa _ _)) ⟨.inr ⟨rfl,rfl⟩,.inl ⟨0,_,by decide,rfl,Jaa (cs:=[.str x4.2]) (ds:=[.str x4.2]) ⟨Qia (Jfa _),trivial⟩⟩,.inr ⟨rfl,rfl⟩,trivial⟩ ?_))
   exact raT hS2
  ·refine ra2 3 4 ?_ ?_
   ·refine oO rfl (Q5a (ac:=[.ptr 1 0]) (as0:=[.ptr 0 0]) (aw0:=[.box [.str x4.2]]) (aw1:=[.box [.str x5.2]]) (aw2:=[.box [.ptr 1 0],.box [.str x5.2],.box [iI 0,.nils,iI 0]]) (v:=iI x5.1) (v':=iI x5.1) (n0:=3) (n1:=1) [1] rfl rfl rfl rfl (by decide) (Jea (cs:=[.str x4.2]) (ds:=[.str x4.2]) rfl ⟨Jua rfl,trivial⟩ (Qna)) ⟨Qma rfl,trivial⟩ (Qja x4.2 x5 hx5) rfl (Qia (Qsa _ _)) ⟨.inr ⟨rfl,rfl⟩,.inl ⟨0,_,by decide,rfl,Jaa (cs:=[.str x5.2]) (ds:=[.str x5.2]) ⟨Qia (Jfa _),trivial⟩⟩,.inr ⟨rfl,rfl⟩,trivial⟩ (ra1 4 (og 3 ⟨rfl,?_⟩)))
    exact raE hS1
   ·refine og 3 ⟨rfl,?_⟩
    exact raT hS2
  ·refine ra1 3 (oO rfl (Q5a (ac:=[.ptr 1 0]) (as0:=[.ptr 0 0]) (aw0:=[.box [.str x4.2]]) (aw1:=[.box [.str x5.2]]) (aw2:=[.box [.ptr 1 0],.box [.str x5.2],.box [iI 0,.nils,iI 0]]) (v:=iI x5.1) (v':=iI x5.1) (n0:=3) (n1:=1) [1] rfl rfl rfl rfl (by decide) (Jea (cs:=[.str x4.2]) (ds:=[.str x4.2]) rfl ⟨Jua rfl,trivial⟩ (Qna)) ⟨Qma rfl,trivial⟩ (Qja x4.2 x5 hx5) rfl (Qia (Qsa _ _)) ⟨.inr ⟨rfl,rfl⟩,.inl ⟨0,_,by decide,rfl,Jaa (cs:=[.str x5.2]) (ds:=[.str x5.2]) ⟨Qia (Jfa _),trivial⟩⟩,.inr ⟨rfl,rfl⟩,trivial⟩ ?_))
   exact raT hS1
  refine ra1 6 (oO rfl (Q5a (ac:=[.ptr 1 0,.func 54 [.ptr 0 0]]) (as0:=[.ptr 0 0,.func 54 [.ptr 1 0]]) (aw0:=[.box [.str x5.2],.box [.ptr 0 0]]) (aw1:=[.box [.str x6.2],.box [.ptr 0 0],aR 65 2 Qla x6.1]) (aw2:=[.box [.ptr 1 0],.box [.str x6.2],.box [iI 0,.nils,iI 0],aR 65 2 Qla x6.1]) (v:=.ref 2) (v':=.ref 3) (n0:=3) (n1:=3) [1,0] rfl rfl rfl rfl (by decide) (Jea (cs:=[.str x5.2]) (ds:=[.str x5.2]) rfl ⟨Jua rfl,trivial⟩ (Jea (cs:=[.ptr 0 0]) (ds:=[.ptr 1 0]) rfl ⟨Qma rfl,trivial⟩ (Qna))) ⟨Qma rfl,rn_func ⟨Qma rfl,trivial⟩,trivial⟩ (save_list_api_Keyed_x5e48_c x5.2 x6 hx6) rfl (Jya (by decide)) ⟨.inl ⟨1,_,by decide,rfl,Jaa (cs:=[.ptr 1 0]) (ds:=[.ptr 0 0]) ⟨rm_ptr (by decide),trivial⟩⟩,.inl ⟨0,_,by decide,rfl,Jaa (cs:=[.str x6.2]) (ds:=[.str x6.2]) ⟨Qia (Jfa _),trivial⟩⟩,.inr ⟨rfl,rfl⟩,.inl ⟨2,_,by decide,rfl,Jia Yba⟩,trivial⟩ (rq [7] 1 (ra1 8 (og 4 ⟨rfl,(RA.done (by decide +kernel) ?_)⟩)))))
  cases h
  exact tN [0,1]
theorem save_list_api_Memory_xfa57_c (p0:List UInt8) (r:(List Memory) × (List UInt8)) (h:Zha p0=some r):FnX Try.prog 51 [.ptr 0 0,.func 52 [.ptr 1 0]] [.box [.str p0],.box [.ptr 0 0]] (.ref 2) [.box [.str r.2],.box [.ptr 0 0],aR 63 3 Qba r.1]:=by
  unfold Zha at h
  refine fnT 2 Try.func51 Try.ntmps51 ?_
  refine T.seq (T.region (go 1 2 (RS.nil (T.seq ?_))))
  obtain ⟨x2,hx2,h⟩:=bind_some h
  refine T.region (go 1 2 (sO (Q5a (ac:=[.ptr 0 0]) (as0:=[.ptr 0 0]) (aw0:=[.box [.str p0]]) (aw1:=[.box [.str x2.2]]) (aw2:=[.box [.str x2.2],.box [.ptr 0 0]]) (v:=iI x2.1) (v':=iI x2.1) (n0:=2) (n1:=1) [0] rfl rfl rfl rfl (by decide) (Jea (cs:=[.str p0]) (ds:=[.str p0]) rfl ⟨Jua rfl,trivial⟩ (Qna)) ⟨Qma rfl,trivial⟩ (Qja p0 x2 hx2) rfl (Qia (Qsa _ _)) ⟨.inl ⟨0,_,by decide,rfl,Jaa (cs:=[.str x2.2]) (ds:=[.str x2.2]) ⟨Qia (Jfa _),trivial⟩⟩,.inr ⟨rfl,rfl⟩,trivial⟩ (go 1 2 (RS.nil (T.seq (T.join (Z:=Unit) (fun _=>mkA 32 [(1,.func 52 [.ptr 1 0]),(5,iI x2.1),(19,.bool ((decide (x2.1<0)) || decide (x2.1 > ((x2.2).length:Int))))]) (fun _=>[.box [.str x2.2],.box [.ptr 0 0]]) (fun _=>True) (fun _ _=>?_) (fun hK=>?_))))))))
  ·refine T.ci h rfl (fun hb_2 h=>?_) (fun hb_2 h=>?_)
   ·cases h
   refine T.skip (T.seq (T.region (go 1 2 (RS.nil (T.seq (T.seq (T.region (go 2 2 (RS.nil ?_)))))))))
   refine T.block (T.iter (fun ss_5:Int × (List UInt8) × (List Memory)=>mkA 32 [(1,.func 52 [.ptr 1 0]),(6,.ref 2),(22,iI x2.1),(23,iI ss_5.1)]) (fun ss_5=>[.box [.str ss_5.2.1],.box [.ptr 0 0],aR 63 3 Qba ss_5.2.2]) h (wk [(6,63,3)] [0,1,2] 2 rfl) (fun ss_5 v_6 h hv_6=>?_))
   obtain ⟨s4,s5,s6⟩:=ss_5
   replace h:Jpa x2 s4 s5 s6=some v_6:=h
   try dsimp only
   unfold Jpa at h
   refine T.seq (T.region (go 1 3 (RS.nil (T.seq (T.ci h rfl (fun hb_7 h=>?_) (fun hb_7 h=>?_))))))
   ·refine T.skip (T.seq (T.block ?_))
    obtain ⟨x7,hx7,h⟩:=bind_some h
    obtain ⟨x8,hx8,h⟩:=bind_some h
    refine T.region (go 2 3 (sO (Q5a (ac:=[.ptr 1 0]) (as0:=[.ptr 0 0]) (aw0:=[.box [.ptr 1 0],.box [.str s5]]) (aw1:=[.box [.ptr 1 0],.box [.str x7.2]]) (aw2:=[.box [.str x7.2],.box [.ptr 0 0],aR 63 3 Qba s6]) (v:=.agg (Qba x7.1)) (v':=.agg (Qba x7.1)) (n0:=3) (n1:=2) [1,0] rfl rfl rfl rfl (by decide) (Jea (cs:=[.ptr 1 0]) (ds:=[.ptr 0 0]) rfl ⟨Qma rfl,trivial⟩ (Jea (cs:=[.str s5]) (ds:=[.str s5]) rfl ⟨Jua rfl,trivial⟩ (Qna))) ⟨Qma rfl,trivial⟩ (save_Of_2_x700a_c s5 x7 hx7) rfl (rm_agg (cs:=(Qba x7.1)) (ds:=(Qba x7.1)) ⟨Qia (Qsa _ _),Qia (Qwa Yba _),Qia (Qsa _ _),trivial⟩) ⟨.inl ⟨1,_,by decide,rfl,Jaa (cs:=[.str x7.2]) (ds:=[.str x7.2]) ⟨Qia (Jfa _),trivial⟩⟩,.inl ⟨0,_,by decide,rfl,Jaa (cs:=[.ptr 0 0]) (ds:=[.ptr 1 0]) ⟨rm_ptr (by decide),trivial⟩⟩,.inr ⟨rfl,rfl⟩,trivial⟩ (sO (Qya (rows:=List.map Qba [x7.1]) (vs:=[.agg (Qba x7.1)]) Ty.s27 Ty.z63 rfl rfl rfl rfl rfl rfl (sO (Zta (en:=Qba) (xs:=s6) (ys:=([x7.1]:List Memory)) Ty.s27 (fun _=>rfl) rfl rfl rfl hx8 rfl rfl (go 1 5 (RS.nil (T.region (go 2 5 (RS.nil ?_))))))))))))
    exact ⟨(IntKind.i64.wrap (s4+1),x7.2,x8),(Option.some.inj h).symm,wk [] [0,1,4] 5 rfl⟩
   refine T.exit ?_
   obtain ⟨w_8,h,hw_8⟩:=Qua h
   replace h:=h.trans (congrArg some (hv_6 _ hw_8))
   refine T.seq (T.region (go 2 3 (RS.nil ?_)))
   cases h
   exact tO [] [0,1,2] 3
  refine T.region (go 3 2 ?_)
  rcases Qca (decide (x2.1<0)) with hb_1 | hb_1
  ·refine sN hb_1 (sN hb_1 (sN hb_1 (sN hb_1 (sN hb_1 (sN hb_1 (sN hb_1 (sQ (Qfa (v:=.bool true) rfl hb_1 rfl (RS.nil ?_)))))))))
   exact T.sub (hK () trivial) ⟨rfl,rfl,(congrArg AV.bool (by simp only [hb_1,bz,if_true,if_false,Bool.false_eq_true])).symm,trivial⟩
  refine yg 2 hb_1 (yg 2 hb_1 (yg 2 hb_1 (yg 2 hb_1 (yg 2 hb_1 (yg 2 hb_1 (yg 2 hb_1 (sQ (Qda (v:=.bool (decide (x2.1 > ((x2.2).length:Int)))) rfl hb_1 rfl (RS.nil ?_)))))))))
  exact T.sub (hK () trivial) ⟨rfl,rfl,(congrArg AV.bool (by simp only [hb_1,bz,if_true,if_false,Bool.false_eq_true])).symm,trivial⟩
theorem save_Of_3_x700a_c (p0:List UInt8) (r:Choice × (List UInt8)) (h:Y0a p0=some r):FnX Try.prog 56 [.ptr 0 0] [.box [.ptr 1 0],.box [.str p0]] (.agg (Qea r.1)) [.box [.ptr 1 0],.box [.str r.2]]:=by
  unfold Y0a at h
  refine fnT 2 Try.func56 Try.ntmps56 ?_
  refine T.seq (T.region (go 1 2 (RS.nil (T.seq ?_))))
  obtain ⟨x3,hx3,h⟩:=bind_some h
  obtain ⟨x4,hx4,h⟩:=bind_some h
  refine T.drawn mixed (k:=6) rfl ?_
  apply RA.jn 3 #[true,true,true,false,false,false];intro hS1
  ·refine rL [0,1,3,4,5] 0 rfl (ra2 1 2 ?_ ?_)
   ·refine oO rfl (Q5a (ac:=[.ptr 1 0]) (as0:=[.ptr 0 0]) (aw0:=[.box [.str p0]]) (aw1:=[.box [.str x3.2]]) (aw2:=[.box [.ptr 1 0],.box [.str x3.2],.box [iI 0,iI 0]]) (v:=iI x3.1) (v':=iI x3.1) (n0:=3) (n1:=1) [1] rfl rfl rfl rfl (by decide) (Jea (cs:=[.str p0]) (ds:=[.str p0]) rfl ⟨Jua rfl,trivial⟩ (Qna)) ⟨Qma rfl,trivial⟩ (Qja p0 x3 hx3) rfl (Qia (Qsa _ _)) ⟨.inr ⟨rfl,rfl⟩,.inl ⟨0,_,by decide,rfl,Jaa (cs:=[.str x3.2]) (ds:=[.str x3.2]) ⟨Qia (Jfa _),trivial⟩⟩,.inr ⟨rfl,rfl⟩,trivial⟩ (ra1 2 (og 3 ⟨rfl,?_⟩)))
    exact raE hS1
   ·refine og 3 ⟨rfl,(ra1 1 (oO rfl (Q5a (ac:=[.ptr 1 0]) (as0:=[.ptr 0 0]) (aw0:=[.box [.str p0]]) (aw1:=[.box [.str x3.2]]) (aw2:=[.box [.ptr 1 0],.box [.str x3.2],.box [iI 0,iI 0]]) (v:=iI x3.1) (v':=iI x3.1) (n0:=3) (n1:=1) [1] rfl rfl rfl rfl (by decide) (Jea (cs:=[.str p0]) (ds:=[.str p0]) rfl ⟨Jua rfl,trivial⟩ (Qna)) ⟨Qma rfl,trivial⟩ (Qja p0 x3 hx3) rfl (Qia (Qsa _ _)) ⟨.inr ⟨rfl,rfl⟩,.inl ⟨0,_,by decide,rfl,Jaa (cs:=[.str x3.2]) (ds:=[.str x3.2]) ⟨Qia (Jfa _),trivial⟩⟩,.inr ⟨rfl,rfl⟩,trivial⟩ ?_)))⟩
    exact raT hS1
  refine ra1 3 (oO rfl (Q5a (ac:=[.ptr 1 0]) (as0:=[.ptr 0 0]) (aw0:=[.box [.str x3.2]]) (aw1:=[.box [.str x4.2]]) (aw2:=[.box [.ptr 1 0],.box [.str x4.2],.box [iI 0,iI 0]]) (v:=iI x4.1) (v':=iI x4.1) (n0:=3) (n1:=1) [1] rfl rfl rfl rfl (by decide) (Jea (cs:=[.str x3.2]) (ds:=[.str x3.2]) rfl ⟨Jua rfl,trivial⟩ (Qna)) ⟨Qma rfl,trivial⟩ (Qja x3.2 x4 hx4) rfl (Qia (Qsa _ _)) ⟨.inr ⟨rfl,rfl⟩,.inl ⟨0,_,by decide,rfl,Jaa (cs:=[.str x4.2]) (ds:=[.str x4.2]) ⟨Qia (Jfa _),trivial⟩⟩,.inr ⟨rfl,rfl⟩,trivial⟩ (rq [4] 1 (ra1 5 (og 3 ⟨rfl,(RA.done (by decide +kernel) ?_)⟩)))))
  cases h
  exact tN [0,1]
theorem save_list_api_Choice_xfcb2_c (p0:List UInt8) (r:(List Choice) × (List UInt8)) (h:Zfa p0=some r):FnX Try.prog 55 [.ptr 0 0,.func 56 [.ptr 1 0]] [.box [.str p0],.box [.ptr 0 0]] (.ref 2) [.box [.str r.2],.box [.ptr 0 0],aR 67 2 Qea r.1]:=by
  unfold Zfa at h
  refine fnT 2 Try.func55 Try.ntmps55 ?_
  refine T.seq (T.region (go 1 2 (RS.nil (T.seq ?_))))
  obtain ⟨x2,hx2,h⟩:=bind_some h
  refine T.region (go 1 2 (sO (Q5a (ac:=[.ptr 0 0]) (as0:=[.ptr 0 0]) (aw0:=[.box [.str p0]]) (aw1:=[.box [.str x2.2]]) (aw2:=[.box [.str x2.2],.box [.ptr 0 0]]) (v:=iI x2.1) (v':=iI x2.1) (n0:=2) (n1:=1) [0] rfl rfl rfl rfl (by decide) (Jea (cs:=[.str p0]) (ds:=[.str p0]) rfl ⟨Jua rfl,trivial⟩ (Qna)) ⟨Qma rfl,trivial⟩ (Qja p0 x2 hx2) rfl (Qia (Qsa _ _)) ⟨.inl ⟨0,_,by decide,rfl,Jaa (cs:=[.str x2.2]) (ds:=[.str x2.2]) ⟨Qia (Jfa _),trivial⟩⟩,.inr ⟨rfl,rfl⟩,trivial⟩ (go 1 2 (RS.nil (T.seq (T.join (Z:=Unit) (fun _=>mkA 32 [(1,.func 56 [.ptr 1 0]),(5,iI x2.1),(19,.bool ((decide (x2.1<0)) || decide (x2.1 > ((x2.2).length:Int))))]) (fun _=>[.box [.str x2.2],.box [.ptr 0 0]]) (fun _=>True) (fun _ _=>?_) (fun hK=>?_))))))))
  ·refine T.ci h rfl (fun hb_2 h=>?_) (fun hb_2 h=>?_)
   ·cases h
   refine T.skip (T.seq (T.region (go 1 2 (RS.nil (T.seq (T.seq (T.region (go 2 2 (RS.nil ?_)))))))))
   refine T.block (T.iter (fun ss_5:Int × (List UInt8) × (List Choice)=>mkA 32 [(1,.func 56 [.ptr 1 0]),(6,.ref 2),(22,iI x2.1),(23,iI ss_5.1)]) (fun ss_5=>[.box [.str ss_5.2.1],.box [.ptr 0 0],aR 67 2 Qea ss_5.2.2]) h (wk [(6,67,2)] [0,1,2] 2 rfl) (fun ss_5 v_6 h hv_6=>?_))
   obtain ⟨s4,s5,s6⟩:=ss_5
   replace h:Jqa x2 s4 s5 s6=some v_6:=h
   try dsimp only
   unfold Jqa at h
   refine T.seq (T.region (go 1 3 (RS.nil (T.seq (T.ci h rfl (fun hb_7 h=>?_) (fun hb_7 h=>?_))))))
   ·refine T.skip (T.seq (T.block ?_))
    obtain ⟨x7,hx7,h⟩:=bind_some h
    obtain ⟨x8,hx8,h⟩:=bind_some h
    refine T.region (go 2 3 (sO (Q5a (ac:=[.ptr 1 0]) (as0:=[.ptr 0 0]) (aw0:=[.box [.ptr 1 0],.box [.str s5]]) (aw1:=[.box [.ptr 1 0],.box [.str x7.2]]) (aw2:=[.box [.str x7.2],.box [.ptr 0 0],aR 67 2 Qea s6]) (v:=.agg (Qea x7.1)) (v':=.agg (Qea x7.1)) (n0:=3) (n1:=2) [1,0] rfl rfl rfl rfl (by decide) (Jea (cs:=[.ptr 1 0]) (ds:=[.ptr 0 0]) rfl ⟨Qma rfl,trivial⟩ (Jea (cs:=[.str s5]) (ds:=[.str s5]) rfl ⟨Jua rfl,trivial⟩ (Qna))) ⟨Qma rfl,trivial⟩ (save_Of_3_x700a_c s5 x7 hx7) rfl (rm_agg (cs:=(Qea x7.1)) (ds:=(Qea x7.1)) ⟨Qia (Qsa _ _),Qia (Qsa _ _),trivial⟩) ⟨.inl ⟨1,_,by decide,rfl,Jaa (cs:=[.str x7.2]) (ds:=[.str x7.2]) ⟨Qia (Jfa _),trivial⟩⟩,.inl ⟨0,_,by decide,rfl,Jaa (cs:=[.ptr 0 0]) (ds:=[.ptr 1 0]) ⟨rm_ptr (by decide),trivial⟩⟩,.inr ⟨rfl,rfl⟩,trivial⟩ (sO (Qya (rows:=List.map Qea [x7.1]) (vs:=[.agg (Qea x7.1)]) Ty.s28 Ty.z67 rfl rfl rfl rfl rfl rfl (sO (Zta (en:=Qea) (xs:=s6) (ys:=([x7.1]:List Choice)) Ty.s28 (fun _=>rfl) rfl rfl rfl hx8 rfl rfl (go 1 5 (RS.nil (T.region (go 2 5 (RS.nil ?_))))))))))))
    exact ⟨(IntKind.i64.wrap (s4+1),x7.2,x8),(Option.some.inj h).symm,wk [] [0,1,4] 5 rfl⟩
   refine T.exit ?_
   obtain ⟨w_8,h,hw_8⟩:=Qua h
   replace h:=h.trans (congrArg some (hv_6 _ hw_8))
   refine T.seq (T.region (go 2 3 (RS.nil ?_)))
   cases h
   exact tO [] [0,1,2] 3
  refine T.region (go 3 2 ?_)
  rcases Qca (decide (x2.1<0)) with hb_1 | hb_1
  ·refine sN hb_1 (sN hb_1 (sN hb_1 (sN hb_1 (sN hb_1 (sN hb_1 (sN hb_1 (sQ (Qfa (v:=.bool true) rfl hb_1 rfl (RS.nil ?_)))))))))
   exact T.sub (hK () trivial) ⟨rfl,rfl,(congrArg AV.bool (by simp only [hb_1,bz,if_true,if_false,Bool.false_eq_true])).symm,trivial⟩
  refine yg 2 hb_1 (yg 2 hb_1 (yg 2 hb_1 (yg 2 hb_1 (yg 2 hb_1 (yg 2 hb_1 (yg 2 hb_1 (sQ (Qda (v:=.bool (decide (x2.1 > ((x2.2).length:Int)))) rfl hb_1 rfl (RS.nil ?_)))))))))
  exact T.sub (hK () trivial) ⟨rfl,rfl,(congrArg AV.bool (by simp only [hb_1,bz,if_true,if_false,Bool.false_eq_true])).symm,trivial⟩
theorem save_Of_c (p0:Net) (p1:List (List Item)) (p2:List UInt8) (r:State × Int) (h:save_Of p0 p1 p2=some r):Fn Try.prog 21 [.agg (Jca p0),sL (encL Qaa) p1,.str p2] (.tup [.agg (Qra r.1),iI r.2]):=by
  unfold save_Of at h
  refine fnTD 0 Try.func21 Try.ntmps21 ?_
  refine TD.seq (T.region (go 3 0 (RS.nil (TD.seq (T.seq ?_)))))
  obtain ⟨x2,hx2,h⟩:=bind_some h
  refine T.region (go 2 3 (sO (cF (net_Sources_c p0 p1 x2 hx2) ⟨rfl,(go 1 3 (RS.nil (T.seq (T.region (go 2 3 (RS.nil (T.ci h rfl (fun hb_1 h=>?_) (fun hb_1 h=>?_))))))))⟩)))
  ·refine T.seq (T.region (go 4 3 (RS.nil ?_)))
   cases h
   exact tD
  refine T.skip (TD.defer 1 rfl (go 1 3 (RS.nil ⟨_,_,_,rfl,rfl,idleF,(T.seq (T.region (go 5 3 (RS.nil (T.seq ?_)))))⟩)))
  obtain ⟨x4,hx4,h⟩:=bind_some h
  refine T.region (go 2 5 (sQ (v_bnd (cs:=[.ptr 3 0]) rfl (sO (Q5a (ac:=[.ptr 3 0,.bnd 48 [.ptr 3 0]]) (as0:=[.ptr 0 0,.bnd 48 [.ptr 0 0]]) (aw0:=[.box [.str p2]]) (aw1:=[.box [.str x4.2],aR 3 1 encI x4.1]) (aw2:=[.box (Jca p0),.box [.nils,.nils,.nils,.nils,.nils],.box [iI 0],.box [.str x4.2],.box [.ptr 3 0],aR 3 1 encI x4.1]) (v:=.ref 1) (v':=.ref 5) (n0:=5) (n1:=2) [3] rfl rfl rfl rfl (by decide) (Jea (cs:=[.str p2]) (ds:=[.str p2]) rfl ⟨Jua rfl,trivial⟩ (Qna)) ⟨Qma rfl,rn_bnd ⟨Qma rfl,trivial⟩,trivial⟩ (save_list_int_x6121_c p2 x4 hx4) rfl (Jya (by decide)) ⟨.inr ⟨rfl,rfl⟩,.inr ⟨rfl,rfl⟩,.inr ⟨rfl,rfl⟩,.inl ⟨0,_,by decide,rfl,Jaa (cs:=[.str x4.2]) (ds:=[.str x4.2]) ⟨Qia (Jfa _),trivial⟩⟩,.inr ⟨rfl,rfl⟩,.inl ⟨1,_,by decide,rfl,Jia encI_p⟩,trivial⟩ (go 2 6 (RS.nil (T.seq ?_))))))))
  obtain ⟨x6,hx6,h⟩:=bind_some h
  refine T.region (go 2 6 (sQ (v_bnd (cs:=[.ptr 3 0]) rfl (sO (Q5a (ac:=[.ptr 3 0,.bnd 50 [.ptr 3 0]]) (as0:=[.ptr 0 0,.bnd 50 [.ptr 0 0]]) (aw0:=[.box [.str x4.2]]) (aw1:=[.box [.str x6.2],aR 29 1 (encL Qaa) x6.1]) (aw2:=[.box (Jca p0),.box [.ref 5,.nils,.nils,.nils,.nils],.box [iI 0],.box [.str x6.2],.box [.ptr 3 0],aR 3 1 encI x4.1,aR 29 1 (encL Qaa) x6.1]) (v:=.ref 1) (v':=.ref 6) (n0:=6) (n1:=2) [3] rfl rfl rfl rfl (by decide) (Jea (cs:=[.str x4.2]) (ds:=[.str x4.2]) rfl ⟨Jua rfl,trivial⟩ (Qna)) ⟨Qma rfl,rn_bnd ⟨Qma rfl,trivial⟩,trivial⟩ (save_list_Item_xfbdb_c x4.2 x6 hx6) rfl (Jya (by decide)) ⟨.inr ⟨rfl,rfl⟩,.inr ⟨rfl,rfl⟩,.inr ⟨rfl,rfl⟩,.inl ⟨0,_,by decide,rfl,Jaa (cs:=[.str x6.2]) (ds:=[.str x6.2]) ⟨Qia (Jfa _),trivial⟩⟩,.inr ⟨rfl,rfl⟩,.inr ⟨rfl,rfl⟩,.inl ⟨1,_,by decide,rfl,Jia (encL_p Jba)⟩,trivial⟩ (go 2 7 (RS.nil (T.seq ?_))))))))
  obtain ⟨x8,hx8,h⟩:=bind_some h
  refine T.region (go 2 7 (sO (Q5a (ac:=[.ptr 3 0,.func 52 [.ptr 4 0]]) (as0:=[.ptr 0 0,.func 52 [.ptr 1 0]]) (aw0:=[.box [.str x6.2],.box [.ptr 0 0]]) (aw1:=[.box [.str x8.2],.box [.ptr 0 0],aR 63 3 Qba x8.1]) (aw2:=[.box (Jca p0),.box [.ref 5,.ref 6,.nils,.nils,.nils],.box [iI 0],.box [.str x8.2],.box [.ptr 3 0],aR 3 1 encI x4.1,aR 29 1 (encL Qaa) x6.1,aR 63 3 Qba x8.1]) (v:=.ref 2) (v':=.ref 7) (n0:=7) (n1:=3) [3,4] rfl rfl rfl rfl (by decide) (Jea (cs:=[.str x6.2]) (ds:=[.str x6.2]) rfl ⟨Jua rfl,trivial⟩ (Jea (cs:=[.ptr 0 0]) (ds:=[.ptr 3 0]) rfl ⟨Qma rfl,trivial⟩ (Qna))) ⟨Qma rfl,rn_func ⟨Qma rfl,trivial⟩,trivial⟩ (save_list_api_Memory_xfa57_c x6.2 x8 hx8) rfl (Jya (by decide)) ⟨.inr ⟨rfl,rfl⟩,.inr ⟨rfl,rfl⟩,.inr ⟨rfl,rfl⟩,.inl ⟨0,_,by decide,rfl,Jaa (cs:=[.str x8.2]) (ds:=[.str x8.2]) ⟨Qia (Jfa _),trivial⟩⟩,.inl ⟨1,_,by decide,rfl,Jaa (cs:=[.ptr 3 0]) (ds:=[.ptr 0 0]) ⟨rm_ptr (by decide),trivial⟩⟩,.inr ⟨rfl,rfl⟩,.inr ⟨rfl,rfl⟩,.inl ⟨2,_,by decide,rfl,Jia J7a⟩,trivial⟩ (go 2 8 (RS.nil (T.seq ?_))))))
  obtain ⟨x10,hx10,h⟩:=bind_some h
  refine T.region (go 2 8 (sO (Q5a (ac:=[.ptr 3 0,.func 56 [.ptr 4 0]]) (as0:=[.ptr 0 0,.func 56 [.ptr 1 0]]) (aw0:=[.box [.str x8.2],.box [.ptr 0 0]]) (aw1:=[.box [.str x10.2],.box [.ptr 0 0],aR 67 2 Qea x10.1]) (aw2:=[.box (Jca p0),.box [.ref 5,.ref 6,.ref 7,.nils,.nils],.box [iI 0],.box [.str x10.2],.box [.ptr 3 0],aR 3 1 encI x4.1,aR 29 1 (encL Qaa) x6.1,aR 63 3 Qba x8.1,aR 67 2 Qea x10.1]) (v:=.ref 2) (v':=.ref 8) (n0:=8) (n1:=3) [3,4] rfl rfl rfl rfl (by decide) (Jea (cs:=[.str x8.2]) (ds:=[.str x8.2]) rfl ⟨Jua rfl,trivial⟩ (Jea (cs:=[.ptr 0 0]) (ds:=[.ptr 3 0]) rfl ⟨Qma rfl,trivial⟩ (Qna))) ⟨Qma rfl,rn_func ⟨Qma rfl,trivial⟩,trivial⟩ (save_list_api_Choice_xfcb2_c x8.2 x10 hx10) rfl (Jya (by decide)) ⟨.inr ⟨rfl,rfl⟩,.inr ⟨rfl,rfl⟩,.inr ⟨rfl,rfl⟩,.inl ⟨0,_,by decide,rfl,Jaa (cs:=[.str x10.2]) (ds:=[.str x10.2]) ⟨Qia (Jfa _),trivial⟩⟩,.inl ⟨1,_,by decide,rfl,Jaa (cs:=[.ptr 3 0]) (ds:=[.ptr 0 0]) ⟨rm_ptr (by decide),trivial⟩⟩,.inr ⟨rfl,rfl⟩,.inr ⟨rfl,rfl⟩,.inr ⟨rfl,rfl⟩,.inl ⟨2,_,by decide,rfl,Jia J6a⟩,trivial⟩ (go 2 9 (RS.nil (T.seq ?_))))))
  obtain ⟨x12,hx12,h⟩:=bind_some h
  refine T.region (go 1 9 (sO (Q5a (ac:=[.ptr 3 0]) (as0:=[.ptr 0 0]) (aw0:=[.box [.str x10.2]]) (aw1:=[.box [.str x12.2],aR 94 3 Qaa x12.1]) (aw2:=[.box (Jca p0),.box [.ref 5,.ref 6,.ref 7,.ref 8,.nils],.box [iI 0],.box [.str x12.2],.box [.ptr 3 0],aR 3 1 encI x4.1,aR 29 1 (encL Qaa) x6.1,aR 63 3 Qba x8.1,aR 67 2 Qea x10.1,aR 94 3 Qaa x12.1]) (v:=.ref 1) (v':=.ref 9) (n0:=9) (n1:=2) [3] rfl rfl rfl rfl (by decide) (Jea (cs:=[.str x10.2]) (ds:=[.str x10.2]) rfl ⟨Jua rfl,trivial⟩ (Qna)) ⟨Qma rfl,trivial⟩ (Qub x10.2 x12 hx12) rfl (Jya (by decide)) ⟨.inr ⟨rfl,rfl⟩,.inr ⟨rfl,rfl⟩,.inr ⟨rfl,rfl⟩,.inl ⟨0,_,by decide,rfl,Jaa (cs:=[.str x12.2]) (ds:=[.str x12.2]) ⟨Qia (Jfa _),trivial⟩⟩,.inr ⟨rfl,rfl⟩,.inr ⟨rfl,rfl⟩,.inr ⟨rfl,rfl⟩,.inr ⟨rfl,rfl⟩,.inr ⟨rfl,rfl⟩,.inl ⟨1,_,by decide,rfl,Jia Jba⟩,trivial⟩ (go 2 10 (RS.nil (T.seq (T.seq ?_)))))))
  obtain ⟨x14,hx14,h⟩:=bind_some h
  refine T.region (go 3 10 (sO (cF (save_Bytes_c p0 p1 (⟨x4.1,x6.1,x8.1,x10.1,x12.1⟩:State) x14 hx14) ⟨rfl,(go 5 10 (RS.nil (T.join (Z:=Unit) (fun _=>mkA 60 [(6,.ptr 0 0),(7,.ptr 1 0),(57,.bool ((x14.2 != 0) || !(x14.1==p2)))]) (fun _=>[.box [.ref 2,.ref 3,.ref 4,.ref 5,.ref 6],.box [iI 0],aR 3 1 encI x4.1,aR 29 1 (encL Qaa) x6.1,aR 63 3 Qba x8.1,aR 67 2 Qea x10.1,aR 94 3 Qaa x12.1]) (fun _=>True) (fun _ _=>?_) (fun hK=>?_))))⟩)))
  ·refine T.ci h rfl (fun hb_3 h=>?_) (fun hb_3 h=>?_)
   ·refine T.seq (T.region (go 3 7 (RS.nil ?_)))
    cases h
    exact tD
   refine T.skip (T.seq (T.region (go 3 7 (RS.nil ?_))))
   cases h
   exact tD
  refine T.region (go 3 10 ?_)
  rcases Qca (x14.2 != 0) with hb_2 | hb_2
  ·refine sN hb_2 (sN hb_2 (sN hb_2 (sQ (Qfa (v:=.bool true) rfl hb_2 rfl (RS.nil ?_)))))
   exact T.weakR (hK () trivial) (Weak.mkN [] [1,2,5,6,7,8,9] (by decide) (Qpa _) rfl ⟨Qma rfl,Qma rfl,Jla (by simp only [hb_2,bz,if_true,if_false,Bool.false_eq_true]),trivial⟩ (Jea (cs:=[.ref 2,.ref 3,.ref 4,.ref 5,.ref 6]) (ds:=[.ref 5,.ref 6,.ref 7,.ref 8,.ref 9]) rfl ⟨Q6a rfl,Q6a rfl,Q6a rfl,Q6a rfl,Q6a rfl,trivial⟩ (rw_bs [iI 0] rfl (rw_ar rfl rfl (rw_ar rfl rfl (rw_ar rfl rfl (rw_ar rfl rfl (rw_ar rfl rfl (Qna)))))))))
  refine yg 10 hb_2 (yg 10 hb_2 (yg 10 hb_2 (sQ (Qda (v:=.bool (!(x14.1==p2))) rfl hb_2 rfl (RS.nil ?_)))))
  exact T.weakR (hK () trivial) (Weak.mkN [] [1,2,5,6,7,8,9] (by decide) (Qpa _) rfl ⟨Qma rfl,Qma rfl,Jla (by simp only [hb_2,bz,if_true,if_false,Bool.false_eq_true]),trivial⟩ (Jea (cs:=[.ref 2,.ref 3,.ref 4,.ref 5,.ref 6]) (ds:=[.ref 5,.ref 6,.ref 7,.ref 8,.ref 9]) rfl ⟨Q6a rfl,Q6a rfl,Q6a rfl,Q6a rfl,Q6a rfl,trivial⟩ (rw_bs [iI 0] rfl (rw_ar rfl rfl (rw_ar rfl rfl (rw_ar rfl rfl (rw_ar rfl rfl (rw_ar rfl rfl (Qna)))))))))
theorem disk_Check_c (p0:Disk) (r:Int) (h:V9a p0=some r):Fn Try.prog 28 [.agg (Q3a p0)] (iI r):=by
  unfold V9a at h
  refine fnT 0 Try.func28 Try.ntmps28 ?_
  refine T.seq (T.region (go 2 0 (RS.nil (T.seq (T.join (Z:=Unit) (fun _=>mkA 48 [(1,.ptr 0 0),(16,.bool ((decide (((p0.Sectors).length:Int) > 200)) || decide (((p0.Wait).length:Int) > 300)))]) (fun _=>[.box (Q3a p0)]) (fun _=>True) (fun _ _=>?_) (fun hK=>?_))))))
  ·refine T.ci h rfl (fun hb_2 h=>?_) (fun hb_2 h=>?_)
   ·refine T.seq (T.region (go 1 1 (RS.nil ?_)))
    cases h
    exact tD
   refine T.skip (T.seq (T.seq (T.region (go 2 1 (sQ (Qha Ty.s38 rfl (go 1 1 (RS.nil (T.block (T.iter (fun ss_7:Int=>mkA 48 [(1,.ptr 0 0),(18,sL encS p0.Sectors),(19,iI ((p0.Sectors).length:Int)),(20,iI ss_7)]) (fun ss_7=>[.box (Q3a p0)]) h (wk [] [0] 1 rfl) (fun ss_7 v_8 h hv_8=>?_)))))))))))
   revert hv_8 h;revert ss_7;intro s2 h hv_8
   replace h:Vja p0 s2=some v_8:=h
   try dsimp only
   unfold Vja at h
   refine T.seq (T.region (go 1 1 (RS.nil (T.seq (T.ci h rfl (fun hb_9 h=>?_) (fun hb_9 h=>?_))))))
   ·refine T.skip (T.seq (T.block (T.seq ?_)))
    obtain ⟨x4,hx4,h⟩:=bind_some h
    refine T.region (sQ (Qga Ty.s38 (fun _=>rfl) rfl rfl hx4 (go 2 1 (RS.nil (T.seq (T.region (go 3 1 (RS.nil (T.ci h rfl (fun hb_10 h=>?_) (fun hb_10 h=>?_))))))))))
    ·refine T.seq (T.region (go 1 1 (RS.nil ?_)))
     obtain ⟨w_11,h,hw_11⟩:=Qua h
     replace h:=h.trans (congrArg some (hv_8 _ hw_11))
     cases h
     exact tD
    refine T.skip (T.region (go 2 1 (RS.nil ?_)))
    exact ⟨IntKind.i64.wrap (s2+1),(Option.some.inj h).symm,wk [] [0] 1 rfl⟩
   refine T.exit ?_
   obtain ⟨w_12,h,hw_12⟩:=Qua h
   replace h:=h.trans (congrArg some (hv_8 _ hw_12))
   refine T.seq (T.seq (T.region (go 2 1 (sQ (Qha Ty.s39 rfl (go 1 1 (RS.nil (T.block (T.iter (fun ss_21:Int=>mkA 48 [(29,sL Jka p0.Wait),(30,iI ((p0.Wait).length:Int)),(31,iI ss_21)]) (fun ss_21=>[]) h (wk [] [] 1 rfl) (fun ss_21 v_22 h hv_22=>?_))))))))))
   revert hv_22 h;revert ss_21;intro s5 h hv_22
   replace h:V6a p0 s5=some v_22:=h
   try dsimp only
   unfold V6a at h
   refine T.seq (T.region (go 1 0 (RS.nil (T.seq (T.ci h rfl (fun hb_23 h=>?_) (fun hb_23 h=>?_))))))
   ·refine T.skip (T.seq (T.block (T.seq ?_)))
    obtain ⟨x7,hx7,h⟩:=bind_some h
    refine T.region (sQ (Qga Ty.s39 (fun _=>rfl) rfl rfl hx7 (go 3 0 (RS.nil (T.seq (T.join (Z:=Unit) (fun _=>mkA 48 [(6,.ptr 0 0),(29,sL Jka p0.Wait),(30,iI ((p0.Wait).length:Int)),(31,iI s5),(42,.bool ((decide (x7.At<0)) || decide (x7.At ≥ 200)))]) (fun _=>[.box (Jka x7)]) (fun _=>True) (fun _ _=>?_) (fun hK=>?_)))))))
    ·refine T.ci h rfl (fun hb_25 h=>?_) (fun hb_25 h=>?_)
     ·refine T.seq (T.region (go 1 1 (RS.nil ?_)))
      obtain ⟨w_26,h,hw_26⟩:=Qua h
      replace h:=h.trans (congrArg some (hv_22 _ hw_26))
      cases h
      exact tD
     refine T.skip (T.seq (T.region (go 4 1 (RS.nil (T.ci h rfl (fun hb_27 h=>?_) (fun hb_27 h=>?_))))))
     ·refine T.seq (T.region (go 1 1 (RS.nil ?_)))
      obtain ⟨w_28,h,hw_28⟩:=Qua h
      replace h:=h.trans (congrArg some (hv_22 _ hw_28))
      cases h
      exact tD
     refine T.skip (T.region (go 2 1 (RS.nil ?_)))
     exact ⟨IntKind.i64.wrap (s5+1),(Option.some.inj h).symm,wk [] [] 1 rfl⟩
    refine T.region (go 4 1 ?_)
    rcases Qca (decide (x7.At<0)) with hb_24 | hb_24
    ·refine sN hb_24 (sN hb_24 (sN hb_24 (sQ (Qfa (v:=.bool true) rfl hb_24 rfl (RS.nil ?_)))))
     exact T.sub (hK () trivial) ⟨rfl,rfl,rfl,rfl,(congrArg AV.bool (by simp only [hb_24,bz,if_true,if_false,Bool.false_eq_true])).symm,trivial⟩
    refine yg 1 hb_24 (yg 1 hb_24 (yg 1 hb_24 (sQ (Qda (v:=.bool (decide (x7.At ≥ 200))) rfl hb_24 rfl (RS.nil ?_)))))
    exact T.sub (hK () trivial) ⟨rfl,rfl,rfl,rfl,(congrArg AV.bool (by simp only [hb_24,bz,if_true,if_false,Bool.false_eq_true])).symm,trivial⟩
   refine T.exit ?_
   obtain ⟨w_29,h,hw_29⟩:=Qua h
   replace h:=h.trans (congrArg some (hv_22 _ hw_29))
   refine T.seq (T.region (go 1 0 (RS.nil ?_)))
   cases h
   exact tD
  refine T.region (go 2 1 (sQ (Qha Ty.s38 rfl (go 2 1 ?_))))
  rcases Qca (decide (((p0.Sectors).length:Int) > 200)) with hb_1 | hb_1
  ·refine sN hb_1 (sN hb_1 (sN hb_1 (sN hb_1 (sQ (Qfa (v:=.bool true) rfl hb_1 rfl (RS.nil ?_))))))
   exact T.sub (hK () trivial) ⟨rfl,(congrArg AV.bool (by simp only [hb_1,bz,if_true,if_false,Bool.false_eq_true])).symm,trivial⟩
  refine yg 1 hb_1 (yg 1 hb_1 (yQ hb_1 (Qha Ty.s39 rfl (yg 1 hb_1 (sQ (Qda (v:=.bool (decide (((p0.Wait).length:Int) > 300))) rfl hb_1 rfl (RS.nil ?_)))))))
  exact T.sub (hK () trivial) ⟨rfl,(congrArg AV.bool (by simp only [hb_1,bz,if_true,if_false,Bool.false_eq_true])).symm,trivial⟩
theorem frame_sum_c (p0:List UInt8) (r:Int) (h:frame_sum p0=some r):Fn Try.prog 59 [.str p0] (iI r):=by
  unfold frame_sum at h
  refine fnT 0 Try.func59 Try.ntmps59 ?_
  refine T.seq (T.region (go 1 0 (RS.nil (T.seq (T.region (go 1 0 (RS.nil (T.seq (T.seq ?_)))))))))
  refine T.region (go 3 0 (RS.nil (T.block (T.iter (fun ss_21:Int × Int=>mkA 29 [(0,.str p0),(3,iI ss_21.1),(6,iI ((p0).length:Int)),(7,iI ss_21.2)]) (fun ss_21=>[]) h (wk [] [] 0 rfl) (fun ss_21 v_22 h hv_22=>?_)))))
  obtain ⟨s1,s2⟩:=ss_21
  replace h:Yka p0 s1 s2=some v_22:=h
  try dsimp only
  unfold Yka at h
  refine T.seq (T.region (go 1 0 (RS.nil (T.seq (T.ci h rfl (fun hb_23 h=>?_) (fun hb_23 h=>?_))))))
  ·refine T.skip (T.seq (T.block (T.seq (T.region (go 2 0 (RS.nil (T.seq ?_)))))))
   obtain ⟨x5,hx5,h⟩:=bind_some h
   obtain ⟨x6,hx6,h⟩:=bind_some h
   refine T.region (go 3 0 (sQ (Joa Try.underlying9 rfl rfl hx5 (go 1 0 (sQ (v_shl rfl rfl hx6 (go 2 0 (RS.nil (T.seq (T.region (go 1 0 ?_)))))))))))
   refine RS.nil (T.block (T.iter (fun ss_28:Int × Int=>mkA 29 [(0,.str p0),(3,iI ss_28.1),(6,iI ((p0).length:Int)),(7,iI s2),(17,iI ss_28.2)]) (fun ss_28=>[]) h (wk [] [] 0 rfl) (fun ss_28 v_29 h hv_29=>?_)))
   obtain ⟨s7,s8⟩:=ss_28
   replace h:Yia s2 s7 s8=some v_29:=h
   try dsimp only
   unfold Yia at h
   refine T.seq (T.region (go 1 0 (RS.nil (T.seq (T.ci h rfl (fun hb_30 h=>?_) (fun hb_30 h=>?_))))))
   ·refine T.skip (T.seq (T.block (T.seq ?_)))
    obtain ⟨x10,hx10,h⟩:=bind_some h
    refine T.region (go 1 0 (sQ (v_shl rfl rfl hx10 (go 1 0 (RS.nil (T.seq (T.region (go 3 0 (RS.nil (T.ci h rfl (fun hb_31 h=>?_) (fun hb_31 h=>?_)))))))))))
    ·refine T.region (go 3 0 (RS.nil (T.region (go 2 0 (RS.nil ?_)))))
     exact ⟨(ibits .xor .i64 x10 69665,IntKind.i64.wrap (s8+1)),(Option.some.inj h).symm,wk [] [] 0 rfl⟩
    refine T.skip (T.region (go 2 0 (RS.nil ?_)))
    exact ⟨(x10,IntKind.i64.wrap (s8+1)),(Option.some.inj h).symm,wk [] [] 0 rfl⟩
   refine T.exit ?_
   obtain ⟨w_32,h,hw_32⟩:=Qua h
   replace h:=h.trans (congrArg some (hv_29 _ hw_32))
   refine T.region (go 2 0 (RS.nil ?_))
   exact ⟨(s7,IntKind.i64.wrap (s2+1)),(Option.some.inj h).symm,wk [] [] 0 rfl⟩
  refine T.exit ?_
  obtain ⟨w_33,h,hw_33⟩:=Qua h
  replace h:=h.trans (congrArg some (hv_22 _ hw_33))
  refine T.seq (T.region (go 2 0 (RS.nil ?_)))
  cases h
  exact tD
theorem frame_Put_c (p0:List UInt8) (r:(List UInt8) × Int) (h:frame_Put p0=some r):Fn Try.prog 29 [.str p0] (.tup [.str r.1,iI r.2]):=by
  unfold frame_Put at h
  refine fnT 0 Try.func29 Try.ntmps29 ?_
  refine T.seq (T.region (go 2 0 (RS.nil (T.seq (T.seq (T.region (go 2 0 (RS.nil (T.ci h rfl (fun hb_1 h=>?_) (fun hb_1 h=>?_))))))))))
  ·refine T.seq (T.region (go 2 0 (RS.nil ?_)))
   cases h
   exact tD
  refine T.skip (T.seq (T.seq (T.region (go 3 0 (RS.nil (T.ci h rfl (fun hb_2 h=>?_) (fun hb_2 h=>?_)))))))
  ·refine T.seq (T.region (go 2 0 (RS.nil ?_)))
   cases h
   exact tD
  refine T.skip (T.seq ?_)
  obtain ⟨x3,hx3,h⟩:=bind_some h
  obtain ⟨x4,hx4,h⟩:=bind_some h
  refine T.region (go 3 0 (sO (Qya (rows:=List.map enc8 [IntKind.u8.wrap ((p0).length:Int)]) (vs:=[.int .u8 (IntKind.u8.wrap ((p0).length:Int))]) Ty.s54 Ty.z5 rfl rfl rfl rfl rfl rfl (sO (o_conv_bytes (xs:=[IntKind.u8.wrap ((p0).length:Int)]) Try.underlying54 Try.underlying5 Try.underlying9 rfl rfl (go 1 1 (sQ (v_sadd rfl rfl hx3 (sO (cF (frame_sum_c x3 x4 hx4) ⟨rfl,(go 1 1 (RS.nil (T.seq ?_)))⟩))))))))))
  obtain ⟨x8,hx8,h⟩:=bind_some h
  obtain ⟨x9,hx9,h⟩:=bind_some h
  obtain ⟨x10,hx10,h⟩:=bind_some h
  refine T.region (go 3 1 (sO (Qya (rows:=List.map enc8 [IntKind.u8.wrap ((p0).length:Int)]) (vs:=[.int .u8 (IntKind.u8.wrap ((p0).length:Int))]) Ty.s54 Ty.z5 rfl rfl rfl rfl rfl rfl (sO (o_conv_bytes (xs:=[IntKind.u8.wrap ((p0).length:Int)]) Try.underlying54 Try.underlying5 Try.underlying9 rfl rfl (go 1 2 (sQ (v_sadd rfl rfl hx8 (go 1 2 (sQ (v_shr rfl rfl hx9 (go 3 2 (sO (Qya (rows:=List.map enc8 [IntKind.u8.wrap x9,IntKind.u8.wrap x4]) (vs:=[.int .u8 (IntKind.u8.wrap x9),.int .u8 (IntKind.u8.wrap x4)]) Ty.s54 Ty.z5 rfl rfl rfl rfl rfl rfl ?_))))))))))))))
  refine sO (o_conv_bytes (xs:=[IntKind.u8.wrap x9,IntKind.u8.wrap x4]) Try.underlying54 Try.underlying5 Try.underlying9 rfl rfl (sQ (v_sadd rfl rfl hx10 (go 2 3 (RS.nil ?_)))))
  cases h
  exact tD
theorem Zma (p0 r:List (List UInt8)) (h:Z5a p0=some r):FnO Try.prog 34 [.sl (List.map encS p0)] (.ref 0) [.arr 9 1 (List.map encS r)]:=by
  have hr:p0=r:=by
    unfold Z5a app at h
    split at h
    · simpa using h
    · cases h
  refine fn_of_T (N:=0) rfl Try.func34 rfl (by kernel_rfl) Try.ntmps34 rfl ?_
  show T _ _ _ _ (mkA 8 [(0,.sl (List.map encS p0))]) []
  refine T.seq ?_
  refine T.region ?_
  refine RS.op rfl (OP.q rfl (Qgb (v:=.nils) rfl ?_))
  refine RS.nil ?_
  refine T.seq ?_
  refine T.seq ?_
  refine T.region ?_
  refine RS.op rfl (OP.q rfl (v_move (v:=.sl (List.map encS p0)) rfl ?_))
  refine RS.op rfl (OP.q rfl (v_nileq Ty.s38 rfl rfl (fun z hz=>?_)))
  refine RS.nil ?_
  refine T.cond (b:=z) rfl (fun hb=>?_) (fun hb=>?_)
  · refine T.seq ?_
    refine T.region ?_
    refine RS.op rfl (OP.q rfl (Qgb (v:=.nils) rfl ?_))
    refine RS.nil ?_
    refine T.ret ?_
    refine res_tmpA (v:=.nils) rfl ?_
    refine Qmb ?_
    have h0:p0=[]:=List.map_eq_nil_iff.1 (hz hb)
    exact ret_own (.ref 0) [(0,9,1)] [0] (by decide) (Qpa _) rfl (Q6a rfl) (Jwa (en:=encS) (ys:=[]) rfl encS_p (by rw [← hr,h0]) (Qna)) ⟨rfl,rfl⟩
  · refine T.skip ?_
    refine T.seq ?_
    refine T.region ?_
    refine RS.op rfl (Qya (rows:=List.map encS []) (vs:=[]) Ty.s38 Ty.z9 rfl rfl rfl rfl rfl (aw':=[.arr 9 1 (List.map encS [])]) rfl ?_)
    refine RS.op rfl (OP.q rfl (v_move (v:=.sl (List.map encS p0)) rfl ?_))
    refine RS.op rfl (Zta (en:=encS) (xs:=([]:List (List UInt8))) (ys:=p0) (r:=r) Ty.s38 (fun _=>rfl) rfl rfl rfl h rfl (aw':=[.dead,.arr 9 1 (List.map encS r)]) rfl ?_)
    refine RS.op rfl (OP.q rfl (Qgb (v:=.ref 1) rfl ?_))
    refine RS.nil ?_
    refine T.ret ?_
    refine res_tmpA (v:=.ref 1) rfl ?_
    refine Qmb ?_
    exact ret_own (.ref 0) [] [1] (by decide) (Qpa _) rfl (Q6a rfl) (Jwa rfl encS_p rfl (Qna)) ⟨rfl,rfl⟩
theorem slices_Clone_Write_c (p0 r:List Write) (h:V1a p0=some r):FnO Try.prog 60 [.sl (List.map Jka p0)] (.ref 0) [.arr 88 2 (List.map Jka r)]:=by
  have hr:p0=r:=by
    unfold V1a app at h
    split at h
    · simpa using h
    · cases h
  refine fn_of_T (N:=0) rfl Try.func60 rfl (by kernel_rfl) Try.ntmps60 rfl ?_
  show T _ _ _ _ (mkA 8 [(0,.sl (List.map Jka p0))]) []
  refine T.seq ?_
  refine T.region ?_
  refine RS.op rfl (OP.q rfl (Qgb (v:=.nils) rfl ?_))
  refine RS.nil ?_
  refine T.seq ?_
  refine T.seq ?_
  refine T.region ?_
  refine RS.op rfl (OP.q rfl (v_move (v:=.sl (List.map Jka p0)) rfl ?_))
  refine RS.op rfl (OP.q rfl (v_nileq Ty.s39 rfl rfl (fun z hz=>?_)))
  refine RS.nil ?_
  refine T.cond (b:=z) rfl (fun hb=>?_) (fun hb=>?_)
  · refine T.seq ?_
    refine T.region ?_
    refine RS.op rfl (OP.q rfl (Qgb (v:=.nils) rfl ?_))
    refine RS.nil ?_
    refine T.ret ?_
    refine res_tmpA (v:=.nils) rfl ?_
    refine Qmb ?_
    have h0:p0=[]:=List.map_eq_nil_iff.1 (hz hb)
    exact ret_own (.ref 0) [(0,88,2)] [0] (by decide) (Qpa _) rfl (Q6a rfl) (Jwa (en:=Jka) (ys:=[]) rfl Q9b (by rw [← hr,h0]) (Qna)) ⟨rfl,rfl⟩
  · refine T.skip ?_
    refine T.seq ?_
    refine T.region ?_
    refine RS.op rfl (Qya (rows:=List.map Jka []) (vs:=[]) Ty.s39 Ty.z88 rfl rfl rfl rfl rfl (aw':=[.arr 88 2 (List.map Jka [])]) rfl ?_)
    refine RS.op rfl (OP.q rfl (v_move (v:=.sl (List.map Jka p0)) rfl ?_))
    refine RS.op rfl (Zta (en:=Jka) (xs:=([]:List Write)) (ys:=p0) (r:=r) Ty.s39 (fun _=>rfl) rfl rfl rfl h rfl (aw':=[.dead,.arr 88 2 (List.map Jka r)]) rfl ?_)
    refine RS.op rfl (OP.q rfl (Qgb (v:=.ref 1) rfl ?_))
    refine RS.nil ?_
    refine T.ret ?_
    refine res_tmpA (v:=.ref 1) rfl ?_
    refine Qmb ?_
    exact ret_own (.ref 0) [] [1] (by decide) (Qpa _) rfl (Q6a rfl) (Jwa rfl Q9b rfl (Qna)) ⟨rfl,rfl⟩
theorem disk_Write_c (p0:Disk) (p1:Int) (p2:List UInt8) (r:Disk × Int) (h:disk_Write p0 p1 p2=some r):Fn Try.prog 30 [.agg (Q3a p0),iI p1,.str p2] (.tup [.agg (Q3a r.1),iI r.2]):=by
  unfold disk_Write at h
  refine fnT 0 Try.func30 Try.ntmps30 ?_
  refine T.seq (T.region (go 3 0 (RS.nil (T.seq (T.seq ?_)))))
  obtain ⟨x2,hx2,h⟩:=bind_some h
  refine T.region (go 1 2 (sO (cF (disk_Check_c p0 x2 hx2) ⟨rfl,(go 1 2 (RS.nil (T.seq (T.region (go 2 2 (RS.nil (T.ci h rfl (fun hb_1 h=>?_) (fun hb_1 h=>?_))))))))⟩)))
  ·refine T.seq (T.region (go 4 2 (RS.nil ?_)))
   cases h
   exact tD
  refine T.skip (T.seq (T.join (Z:=Unit) (fun _=>mkA 43 [(1,iI p1),(2,.str p2),(3,.ptr 0 0),(6,.ptr 1 0),(20,.bool ((decide (p1<0)) || decide (p1 ≥ 200)))]) (fun _=>[.box (Q3a p0),.box [.nils,.nils]]) (fun _=>True) (fun _ _=>?_) (fun hK=>?_)))
  ·refine T.ci h rfl (fun hb_3 h=>?_) (fun hb_3 h=>?_)
   ·refine T.seq (T.region (go 3 2 (RS.nil ?_)))
    cases h
    exact tD
   refine T.skip (T.seq (T.seq (T.region (go 3 2 (RS.nil (T.ci h rfl (fun hb_4 h=>?_) (fun hb_4 h=>?_)))))))
   ·refine T.seq (T.region (go 3 2 (RS.nil ?_)))
    cases h
    exact tD
   refine T.skip (T.seq (T.seq (T.region (go 2 2 (sQ (Qha Ty.s39 rfl (go 1 2 (RS.nil (T.ci h rfl (fun hb_5 h=>?_) (fun hb_5 h=>?_))))))))))
   ·refine T.seq (T.region (go 3 2 (RS.nil ?_)))
    cases h
    exact tD
   refine T.skip (T.seq ?_)
   obtain ⟨x7,hx7,h⟩:=bind_some h
   obtain ⟨x8,hx8,h⟩:=bind_some h
   obtain ⟨x9,hx9,h⟩:=bind_some h
   refine T.drawn mixed (k:=14) rfl ?_
   apply RA.jn 4 #[true,true,true,true,true,true,true,true,true,true,false,false,false,false];intro hS6
   apply RA.jn 5 #[true,true,true,true,true,false,true,true,true,true,false,false,false,false];intro hS7
   apply RA.jn 6 #[true,true,true,true,true,false,true,true,true,false,false,false,false,false];intro hS8
   apply RA.jn 6 #[true,true,false,true,true,false,true,true,true,true,false,false,false,false];intro hS9
   ·refine rq [0,3,6,7,8] 9 (rL [1,2,5,10,11,12,13] 1 rfl (ra3 2 4 9 ?_ ?_ ?_))
    ·refine oO rfl (cO 2 (Zma p0.Sectors x7 hx7) ⟨rfl,(rL [4,5,10,11,12,13] 4 rfl ?_)⟩)
     exact raE hS8
    ·refine og 2 ⟨rfl,(ra2 2 9 ?_ ?_)⟩
     ·refine oO rfl (cO 2 (Zma p0.Sectors x7 hx7) ⟨rfl,?_⟩)
      exact raT hS8
     ·refine oO rfl (Qya (rows:=List.map Jka [(⟨p1,p2⟩:Write)]) (vs:=[.agg [iI p1,.str p2]]) Ty.s39 Ty.z88 rfl rfl rfl rfl rfl rfl ?_)
      exact raE hS9
    ·refine oO rfl (Qya (rows:=List.map Jka [(⟨p1,p2⟩:Write)]) (vs:=[.agg [iI p1,.str p2]]) Ty.s39 Ty.z88 rfl rfl rfl rfl rfl rfl (ra2 2 4 ?_ ?_))
     ·refine oO rfl (cO 3 (Zma p0.Sectors x7 hx7) ⟨rfl,(ra1 4 (og 4 ⟨rfl,?_⟩))⟩)
      exact raE hS7
     ·refine og 3 ⟨rfl,?_⟩
      exact raT hS9
   ·refine ra1 2 (oO rfl (cO 3 (Zma p0.Sectors x7 hx7) ⟨rfl,?_⟩))
    exact raT hS7
   ·refine ra2 5 9 ?_ ?_
    ·refine oO rfl (cO 3 (slices_Clone_Write_c p0.Wait x8 hx8) ⟨rfl,(ra1 9 (oO rfl (Qya (rows:=List.map Jka [(⟨p1,p2⟩:Write)]) (vs:=[.agg [iI p1,.str p2]]) Ty.s39 Ty.z88 rfl rfl rfl rfl rfl rfl ?_)))⟩)
     exact raE hS6
    ·refine oO rfl (Qya (rows:=List.map Jka [(⟨p1,p2⟩:Write)]) (vs:=[.agg [iI p1,.str p2]]) Ty.s39 Ty.z88 rfl rfl rfl rfl rfl rfl ?_)
     exact raV hS7 [0,1,3,2] rfl
   ·refine ra1 5 (oO rfl (cO 4 (slices_Clone_Write_c p0.Wait x8 hx8) ⟨rfl,?_⟩))
    exact raV hS6 [0,1,3,4,2] rfl
   refine ra1 10 (oO rfl (Zta (en:=Jka) (xs:=x8) (ys:=([(⟨p1,p2⟩:Write)]:List Write)) Ty.s39 (fun _=>rfl) rfl rfl rfl hx9 rfl rfl (rq [11] 2 (ra1 12 (og 6 ⟨rfl,(rq [13] 0 (RA.done (by decide +kernel) ?_))⟩)))))
   cases h
   exact tD
  refine T.region (go 3 2 ?_)
  rcases Qca (decide (p1<0)) with hb_2 | hb_2
  ·refine sN hb_2 (sN hb_2 (sQ (Qfa (v:=.bool true) rfl hb_2 rfl (RS.nil ?_))))
   exact T.sub (hK () trivial) ⟨rfl,rfl,rfl,rfl,(congrArg AV.bool (by simp only [hb_2,bz,if_true,if_false,Bool.false_eq_true])).symm,trivial⟩
  refine yg 2 hb_2 (yg 2 hb_2 (sQ (Qda (v:=.bool (decide (p1 ≥ 200))) rfl hb_2 rfl (RS.nil ?_))))
  exact T.sub (hK () trivial) ⟨rfl,rfl,rfl,rfl,(congrArg AV.bool (by simp only [hb_2,bz,if_true,if_false,Bool.false_eq_true])).symm,trivial⟩
theorem save_Put_c (p0:Disk) (p1:Int) (p2:Int) (p3:List UInt8) (r:Disk × Int) (h:save_Put p0 p1 p2 p3=some r):Fn Try.prog 9 [.agg (Q3a p0),iI p1,iI p2,.str p3] (.tup [.agg (Q3a r.1),iI r.2]):=by
  unfold save_Put at h
  refine fnT 0 Try.func9 Try.ntmps9 ?_
  refine T.seq (T.region (go 3 0 (RS.nil (T.seq (T.seq ?_)))))
  obtain ⟨x2,hx2,h⟩:=bind_some h
  refine T.region (go 1 2 (sO (cF (disk_Check_c p0 x2 hx2) ⟨rfl,(go 1 2 (RS.nil (T.seq (T.region (go 2 2 (RS.nil (T.ci h rfl (fun hb_1 h=>?_) (fun hb_1 h=>?_))))))))⟩)))
  ·refine T.seq (T.region (go 4 2 (RS.nil ?_)))
   cases h
   exact tD
  refine T.skip (T.seq (T.join (Z:=Unit) (fun _=>mkA 93 [(1,iI p1),(2,iI p2),(3,.str p3),(4,.ptr 0 0),(8,.ptr 1 0),(36,.bool ((decide (p1<0)) || ((decide (p1 > 1)) || ((decide (p2<0)) || decide (p2 > 200)))))]) (fun _=>[.box (Q3a p0),.box [.nils,.nils]]) (fun _=>True) (fun _ _=>?_) (fun hK=>?_)))
  ·refine T.ci h rfl (fun hb_5 h=>?_) (fun hb_5 h=>?_)
   ·refine T.seq (T.region (go 3 2 (RS.nil ?_)))
    cases h
    exact tD
   refine T.skip (T.seq ?_)
   obtain ⟨x5,hx5,h⟩:=bind_some h
   refine T.region (go 4 2 (sQ (v_quo rfl rfl hx5 (go 1 2 (RS.nil (T.seq (T.seq (T.region (go 2 2 (RS.nil ?_))))))))))
   refine T.ci h rfl (fun hb_6 h=>?_) (fun hb_6 h=>?_)
   ·refine T.seq (T.region (go 3 2 (RS.nil ?_)))
    cases h
    exact tD
   refine T.skip (T.seq (T.seq (T.region (go 2 2 (RS.nil (T.block (T.iter (fun ss_17:Int × (List (List UInt8)) × (List Write)=>mkA 93 [(1,iI p1),(2,iI p2),(3,.str p3),(4,.ptr 0 0),(8,.ptr 1 0),(11,iI x5),(12,iI ss_17.1)]) (fun ss_17=>[.box [sL encS ss_17.2.1,sL Jka ss_17.2.2],.box [.nils,.nils]]) h (wk [] [0,1] 2 rfl) (fun ss_17 v_18 h hv_18=>?_))))))))
   obtain ⟨s6,s7,s8⟩:=ss_17
   replace h:Qyb p1 p2 p3 x5 s6 s7 s8=some v_18:=h
   try dsimp only
   unfold Qyb at h
   refine T.seq (T.seq (T.region (go 2 2 (RS.nil (T.ci h rfl (fun hb_19 h=>?_) (fun hb_19 h=>?_))))))
   ·refine T.skip (T.seq (T.block (T.seq (T.region (go 6 2 (sO (Qya (rows:=List.map enc8 [IntKind.u8.wrap p2,IntKind.u8.wrap s6,IntKind.u8.wrap x5]) (vs:=[.int .u8 (IntKind.u8.wrap p2),.int .u8 (IntKind.u8.wrap s6),.int .u8 (IntKind.u8.wrap x5)]) Ty.s54 Ty.z5 rfl rfl rfl rfl rfl rfl (sO (o_conv_bytes (xs:=[IntKind.u8.wrap p2,IntKind.u8.wrap s6,IntKind.u8.wrap x5]) Try.underlying54 Try.underlying5 Try.underlying9 rfl rfl (go 1 3 (RS.nil ?_)))))))))))
    refine T.join (Z:=List UInt8) (fun zz_21=>mkA 93 [(1,iI p1),(2,iI p2),(3,.str p3),(4,.ptr 0 0),(8,.ptr 1 0),(11,iI x5),(12,iI s6),(13,.str zz_21)]) (fun zz_21=>[.box [sL encS s7,sL Jka s8],.box [.nils,.nils]]) (fun zz_21=>Q1b p1 s6 s7 s8 zz_21=some v_18) (fun zz_21 h=>?_) (fun hK1=>?_)
    ·revert h;revert zz_21;intro z11 h
     replace h:Q1b p1 s6 s7 s8 z11=some v_18:=h
     try dsimp only
     unfold Q1b at h
     refine T.seq ?_
     obtain ⟨x13,hx13,h⟩:=bind_some h
     refine T.region (go 1 2 (sO (cF (frame_Put_c z11 x13 hx13) ⟨rfl,(go 5 2 (RS.nil (T.seq (T.region (go 1 2 (RS.nil (T.seq ?_)))))))⟩)))
     obtain ⟨x15,hx15,h⟩:=bind_some h
     refine T.region (go 6 2 (sO (cD (disk_Write_c (⟨s7,s8⟩:Disk) (IntKind.i64.wrap ((IntKind.i64.wrap (p1*60))+s6)) x13.1 x15 hx15) ⟨rfl,(go 5 2 (RS.nil (T.seq (T.region (go 2 2 (RS.nil (T.ci h rfl (fun hb_22 h=>?_) (fun hb_22 h=>?_))))))))⟩)))
     ·refine T.seq (T.region (go 4 2 (RS.nil ?_)))
      obtain ⟨w_23,h,hw_23⟩:=Qua h
      replace h:=h.trans (congrArg some (hv_18 _ hw_23))
      cases h
      exact tD
     refine T.skip (T.region (go 3 2 (RS.nil ?_)))
     exact ⟨(IntKind.i64.wrap (s6 - 1),x15.1.Sectors,x15.1.Wait),(Option.some.inj h).symm,wk [] [0,1] 2 rfl⟩
    refine T.seq (T.region (go 2 3 (RS.nil (T.ci h rfl (fun hb_24 h=>?_) (fun hb_24 h=>?_)))))
    ·obtain ⟨x9,hx9,h⟩:=bind_some h
     obtain ⟨x10,hx10,h⟩:=bind_some h
     refine T.region (go 10 3 (sO (o_slice_str Try.underlying9 rfl rfl rfl hx9 (sQ (v_sadd rfl rfl hx10 (go 1 3 (RS.nil ?_)))))))
     exact T.weakR (hK1 x10 h) (wk [] [0,1] 3 rfl)
    refine T.skip ?_
    exact T.weakR (hK1 (toStr [IntKind.u8.wrap p2,IntKind.u8.wrap s6,IntKind.u8.wrap x5]) h) (wk [] [0,1] 3 rfl)
   refine T.exit ?_
   obtain ⟨w_25,h,hw_25⟩:=Qua h
   replace h:=h.trans (congrArg some (hv_18 _ hw_25))
   refine T.seq (T.region (go 3 2 (RS.nil ?_)))
   cases h
   exact tD
  refine T.region (go 3 2 ?_)
  rcases Qca (decide (p1<0)) with hb_2 | hb_2
  ·refine sN hb_2 (sN hb_2 (sQ (Qfa (v:=.bool true) rfl hb_2 rfl (go 1 2 (sN rfl (sN rfl (sQ (Qfa (v:=.bool true) rfl rfl rfl (go 1 2 (sN rfl (sN rfl ?_)))))))))))
   refine sQ (Qfa (v:=.bool true) rfl rfl rfl (RS.nil ?_))
   exact T.sub (hK () trivial) ⟨rfl,rfl,rfl,rfl,rfl,(congrArg AV.bool (by simp only [hb_2,bz,if_true,if_false,Bool.false_eq_true])).symm,trivial⟩
  refine yg 2 hb_2 (yg 2 hb_2 (sQ (Qda (v:=.bool (decide (p1 > 1))) rfl hb_2 rfl (go 1 2 ?_))))
  rcases Qca (decide (p1 > 1)) with hb_3 | hb_3
  ·refine sN hb_3 (sN hb_3 (sQ (Qfa (v:=.bool true) rfl hb_3 rfl (go 1 2 (sN rfl (sN rfl (sQ (Qfa (v:=.bool true) rfl rfl rfl (RS.nil ?_)))))))))
   exact T.sub (hK () trivial) ⟨rfl,rfl,rfl,rfl,rfl,(congrArg AV.bool (by simp only [hb_2,hb_3,bz,if_true,if_false,Bool.false_eq_true])).symm,trivial⟩
  refine yg 2 hb_3 (yg 2 hb_3 (sQ (Qda (v:=.bool (decide (p2<0))) rfl hb_3 rfl (go 1 2 ?_))))
  rcases Qca (decide (p2<0)) with hb_4 | hb_4
  ·refine sN hb_4 (sN hb_4 (sQ (Qfa (v:=.bool true) rfl hb_4 rfl (RS.nil ?_))))
   exact T.sub (hK () trivial) ⟨rfl,rfl,rfl,rfl,rfl,(congrArg AV.bool (by simp only [hb_2,hb_3,hb_4,bz,if_true,if_false,Bool.false_eq_true])).symm,trivial⟩
  refine yg 2 hb_4 (yg 2 hb_4 (sQ (Qda (v:=.bool (decide (p2 > 200))) rfl hb_4 rfl (RS.nil ?_))))
  exact T.sub (hK () trivial) ⟨rfl,rfl,rfl,rfl,rfl,(congrArg AV.bool (by simp only [hb_2,hb_3,hb_4,bz,if_true,if_false,Bool.false_eq_true])).symm,trivial⟩
theorem disk_put_x866e_c (p0:List Write) (p1:List (List UInt8)) (r:List (List UInt8)) (h:Qsb p0 p1=some r):FnX Try.prog 33 [.ref 0,sL Jka p0] [aR 9 1 encS p1] (.ref 1) [.dead,aR 9 1 encS r]:=by
  unfold Qsb at h
  refine fnT 1 Try.func33 Try.ntmps33 ?_
  refine T.mvS 0 0 rfl rfl rfl rfl (T.seq (T.region (go 1 2 (RS.nil (T.seq (T.seq (T.region (go 1 2 (sQ (Qha Ty.s39 rfl ?_))))))))))
  refine go 1 2 (RS.nil (T.block (T.iter (fun ss_15:Int × (List (List UInt8))=>mkA 29 [(0,.ref 1),(7,sL Jka p0),(8,iI ((p0).length:Int)),(9,iI ss_15.1)]) (fun ss_15=>[.dead,aR 9 1 encS ss_15.2]) h (wk [] [0,1] 2 rfl) (fun ss_15 v_16 h hv_16=>?_))))
  obtain ⟨s1,s2⟩:=ss_15
  replace h:Zna p0 s1 s2=some v_16:=h
  try dsimp only
  unfold Zna at h
  refine T.seq (T.region (go 1 2 (RS.nil (T.seq (T.ci h rfl (fun hb_17 h=>?_) (fun hb_17 h=>?_))))))
  ·refine T.skip (T.seq (T.block (T.seq ?_)))
   obtain ⟨x4,hx4,h⟩:=bind_some h
   refine T.region (sQ (Qga Ty.s39 (fun _=>rfl) rfl rfl hx4 (go 3 2 (RS.nil (T.seq (T.block (T.iter (fun ss_20:List (List UInt8)=>mkA 29 [(0,.ref 1),(6,.ptr 2 0),(7,sL Jka p0),(8,iI ((p0).length:Int)),(9,iI s1)]) (fun ss_20=>[.dead,aR 9 1 encS ss_20,.box (Jka x4)]) h (wk [] [0,1,2] 3 rfl) (fun ss_20 v_21 h hv_21=>?_))))))))
   revert hv_21 h;revert ss_20;intro s5 h hv_21
   replace h:Qob s1 x4 s5=some v_21:=h
   try dsimp only
   unfold Qob at h
   refine T.seq (T.seq (T.region (go 1 3 (sQ (Yoa (en:=encS) Ty.s38 rfl rfl (go 3 3 (RS.nil (T.ci h rfl (fun hb_22 h=>?_) (fun hb_22 h=>?_)))))))))
   ·refine T.skip (T.block ?_)
    obtain ⟨x6,hx6,h⟩:=bind_some h
    refine T.region (go 1 3 (sO (Qya (rows:=List.map encS [[]]) (vs:=[.str []]) Ty.s38 Ty.z9 rfl rfl rfl rfl rfl rfl (sO (Zta (en:=encS) (xs:=s5) (ys:=([[]]:List (List UInt8))) Ty.s38 (fun _=>rfl) rfl rfl rfl hx6 rfl rfl (go 1 5 (RS.nil ?_)))))))
    exact ⟨x6,(Option.some.inj h).symm,wk [] [0,4,2] 5 rfl⟩
   refine T.exit ?_
   obtain ⟨w_23,h,hw_23⟩:=Qua h
   replace h:=h.trans (congrArg some (hv_21 _ hw_23))
   obtain ⟨x7,hx7,h⟩:=bind_some h
   obtain ⟨x8,hx8,h⟩:=bind_some h
   refine T.region (go 5 3 (sQ (Qta (en:=encS) Ty.s38 rfl rfl rfl hx7 (sO (Z6a (en:=encS) (a:=x8) (a':=x4.Bytes) Ty.c9 Ty.i9 rfl (vs:=[.str x4.Bytes]) rfl rfl rfl hx8 rfl rfl rfl (RS.nil (T.region (go 2 3 (RS.nil ?_)))))))))
   exact ⟨(IntKind.i64.wrap (s1+1),(List.set s5 x7 x4.Bytes)),(Option.some.inj h).symm,wk [] [0,1] 3 rfl⟩
  refine T.exit ?_
  obtain ⟨w_24,h,hw_24⟩:=Qua h
  replace h:=h.trans (congrArg some (hv_16 _ hw_24))
  refine T.seq (T.region (go 2 2 (RS.nil ?_)))
  cases h
  exact tO [] [0,1] 2
end Go.Proofs.Ytchmpaaofmihcaa
namespace Go.Proofs.Ytchmpaaofmihcaa
open Go.RowKit
set_option linter.unusedVariables false
set_option linter.unusedSimpArgs false
set_option maxRecDepth 100000
set_option maxHeartbeats 4000000
set_option synthInstance.maxSize 100000
set_option synthInstance.maxHeartbeats 4000000
theorem disk_Cut_c (p0:Disk) (p1:Int) (r:Disk × Int) (h:disk_Cut p0 p1=some r):Fn Try.prog 13 [.agg (Q3a p0),iI p1] (.tup [.agg (Q3a r.1),iI r.2]):=by
  unfold disk_Cut at h
  refine fnT 0 Try.func13 Try.ntmps13 ?_
  refine T.seq (T.region (go 3 0 (RS.nil (T.seq (T.seq ?_)))))
  obtain ⟨x2,hx2,h⟩:=bind_some h
  refine T.region (go 1 2 (sO (cF (disk_Check_c p0 x2 hx2) ⟨rfl,(go 1 2 (RS.nil (T.seq (T.region (go 2 2 (RS.nil (T.ci h rfl (fun hb_1 h=>?_) (fun hb_1 h=>?_))))))))⟩)))
  ·refine T.seq (T.region (go 4 2 (RS.nil ?_)))
   cases h
   exact tD
  refine T.skip (T.seq (T.join (Z:=Unit) (fun _=>mkA 32 [(1,iI p1),(2,.ptr 0 0),(4,.ptr 1 0),(21,.bool ((decide (p1<0)) || decide (p1 > ((p0.Wait).length:Int))))]) (fun _=>[.box (Q3a p0),.box [.nils,.nils]]) (fun _=>True) (fun _ _=>?_) (fun hK=>?_)))
  ·refine T.ci h rfl (fun hb_3 h=>?_) (fun hb_3 h=>?_)
   ·refine T.seq (T.region (go 3 2 (RS.nil ?_)))
    cases h
    exact tD
   refine T.skip (T.seq ?_)
   obtain ⟨x7,hx7,h⟩:=bind_some h
   obtain ⟨x8,hx8,h⟩:=bind_some h
   obtain ⟨x9,hx9,h⟩:=bind_some h
   refine T.drawn mixed (k:=11) rfl ?_
   apply RA.jn 4 #[true,true,true,true,true,true,true,false,false,false,false];intro hS4
   apply RA.jn 5 #[true,true,false,true,true,true,true,false,false,false,false];intro hS5
   ·refine rq [0,3,5] 8 (ra2 1 4 ?_ ?_)
    ·refine og 2 ⟨rfl,(ra2 2 4 ?_ ?_)⟩
     ·refine oO rfl (cO 2 (Zma p0.Sectors x7 hx7) ⟨rfl,(ra1 4 (og 3 ⟨rfl,(r0 6 rfl (v_slice_sl Ty.s39 (fun _=>rfl) rfl rfl rfl hx8 ?_))⟩))⟩)
      exact raE hS4
     ·refine og 2 ⟨rfl,(r0 6 rfl (v_slice_sl Ty.s39 (fun _=>rfl) rfl rfl rfl hx8 ?_))⟩
      exact raE hS5
    ·refine og 2 ⟨rfl,(r0 6 rfl (v_slice_sl Ty.s39 (fun _=>rfl) rfl rfl rfl hx8 (ra1 1 (og 2 ⟨rfl,?_⟩))))⟩
     exact raT hS5
   ·refine ra1 2 (oO rfl (cO 2 (Zma p0.Sectors x7 hx7) ⟨rfl,?_⟩))
    exact raT hS4
   refine ra1 7 (oO rfl (Q5a (ac:=[.ref 2,sL Jka x8]) (as0:=[.ref 0,sL Jka x8]) (aw0:=[aR 9 1 encS x7]) (aw1:=[.dead,aR 9 1 encS x9]) (aw2:=[.box (Q3a p0),.box [.nils,.nils],.dead,aR 9 1 encS x9]) (v:=.ref 1) (v':=.ref 3) (n0:=3) (n1:=2) [2] rfl rfl rfl rfl (by decide) (Jwa rfl encS_p rfl (Qna)) ⟨Q6a rfl,rn_s rfl,trivial⟩ (disk_put_x866e_c x8 x7 x9 hx9) rfl (Jya (by decide)) ⟨.inr ⟨rfl,rfl⟩,.inr ⟨rfl,rfl⟩,.inl ⟨0,_,by decide,rfl,trivial⟩,.inl ⟨1,_,by decide,rfl,Jia encS_p⟩,trivial⟩ (rq [8] 2 (ra1 9 (og 4 ⟨rfl,(rq [10] 0 (RA.done (by decide +kernel) ?_))⟩)))))
   cases h
   exact tD
  refine T.region (go 3 2 ?_)
  rcases Qca (decide (p1<0)) with hb_2 | hb_2
  ·refine sN hb_2 (sN hb_2 (sN hb_2 (sN hb_2 (sN hb_2 (sQ (Qfa (v:=.bool true) rfl hb_2 rfl (RS.nil ?_)))))))
   exact T.sub (hK () trivial) ⟨rfl,rfl,rfl,(congrArg AV.bool (by simp only [hb_2,bz,if_true,if_false,Bool.false_eq_true])).symm,trivial⟩
  refine yg 2 hb_2 (yg 2 hb_2 (yg 2 hb_2 (yQ hb_2 (Qha Ty.s39 rfl (yg 2 hb_2 (sQ (Qda (v:=.bool (decide (p1 > ((p0.Wait).length:Int)))) rfl hb_2 rfl (RS.nil ?_))))))))
  exact T.sub (hK () trivial) ⟨rfl,rfl,rfl,(congrArg AV.bool (by simp only [hb_2,bz,if_true,if_false,Bool.false_eq_true])).symm,trivial⟩
theorem disk_Flush_c (p0:Disk) (r:Disk × Int) (h:Jdb p0=some r):Fn Try.prog 8 [.agg (Q3a p0)] (.tup [.agg (Q3a r.1),iI r.2]):=by
  unfold Jdb at h
  refine fnT 0 Try.func8 Try.ntmps8 ?_
  refine T.seq (T.region (go 3 0 (RS.nil (T.seq ?_))))
  obtain ⟨x2,hx2,h⟩:=bind_some h
  refine T.region (go 3 2 (sQ (Qha Ty.s39 rfl (sO (cD (disk_Cut_c p0 ((p0.Wait).length:Int) x2 hx2) ⟨rfl,(go 4 2 (RS.nil ?_))⟩)))))
  cases h
  exact tD
theorem frame_Read_c (p0:List UInt8) (r:(List (List UInt8)) × Int × Int) (h:frame_Read p0=some r):FnO Try.prog 32 [.str p0] (.tup [.ref 0,iI r.2.1,iI r.2.2]) [aR 9 1 encS r.1]:=by
  unfold frame_Read at h
  refine fnT 0 Try.func32 Try.ntmps32 ?_
  refine T.seq (T.region (go 3 0 (RS.nil (T.seq (T.seq (T.region (go 3 0 (RS.nil (T.ci h rfl (fun hb_1 h=>?_) (fun hb_1 h=>?_))))))))))
  ·refine T.seq (T.region (go 3 0 (RS.nil ?_)))
   cases h
   exact tO [(0,9,1)] [0] 0
  refine T.skip (T.seq (T.block (T.iter (fun ss_12:Int × (List (List UInt8))=>mkA 66 [(0,.str p0),(2,.ref 0),(3,iI ss_12.1)]) (fun ss_12=>[aR 9 1 encS ss_12.2]) h (wk [(2,9,1)] [0] 0 rfl) (fun ss_12 v_13 h hv_13=>?_))))
  obtain ⟨s1,s2⟩:=ss_12
  replace h:Zca p0 s1 s2=some v_13:=h
  try dsimp only
  unfold Zca at h
  refine T.seq (T.seq (T.region (go 4 1 (RS.nil (T.ci h rfl (fun hb_14 h=>?_) (fun hb_14 h=>?_))))))
  ·refine T.skip (T.block (T.seq ?_))
   obtain ⟨x4,hx4,h⟩:=bind_some h
   refine T.region (go 2 1 (sO (o_slice_str Try.underlying9 rfl rfl rfl hx4 (go 1 1 (RS.nil (T.seq ?_))))))
   obtain ⟨x6,hx6,h⟩:=bind_some h
   refine T.region (go 1 1 (sQ (Joa Try.underlying9 rfl rfl hx6 (go 2 1 (RS.nil (T.seq (T.join (Z:=Unit) (fun _=>mkA 66 [(0,.str p0),(2,.ref 0),(3,iI s1),(5,.str x4),(6,iI (IntKind.i64.wrap (x6.toNat:Int))),(33,.bool ((decide ((IntKind.i64.wrap (x6.toNat:Int))<1)) || ((decide ((IntKind.i64.wrap (x6.toNat:Int)) > 60)) || decide (((x4).length:Int)<(IntKind.i64.wrap ((IntKind.i64.wrap (x6.toNat:Int))+3))))))]) (fun _=>[aR 9 1 encS s2]) (fun _=>True) (fun _ _=>?_) (fun hK=>?_))))))))
   ·refine T.ci h rfl (fun hb_17 h=>?_) (fun hb_17 h=>?_)
    ·refine T.exit ?_
     obtain ⟨w_18,h,hw_18⟩:=Qua h
     replace h:=h.trans (congrArg some (hv_13 _ hw_18))
     refine T.seq (T.region (go 5 1 (RS.nil ?_)))
     cases h
     exact tO [] [0] 1
    refine T.skip (T.seq ?_)
    obtain ⟨x10,hx10,h⟩:=bind_some h
    obtain ⟨x11,hx11,h⟩:=bind_some h
    refine T.region (go 3 1 (sO (o_slice_str Try.underlying9 rfl rfl rfl hx10 (sO (cF (frame_sum_c x10 x11 hx11) ⟨rfl,(go 1 1 (RS.nil (T.seq (T.seq ?_))))⟩)))))
    obtain ⟨x15,hx15,h⟩:=bind_some h
    obtain ⟨x16,hx16,h⟩:=bind_some h
    obtain ⟨x17,hx17,h⟩:=bind_some h
    refine T.drawn mixed (k:=14) rfl (rq [0,1,2] 11 (r0 3 rfl (Joa Try.underlying9 rfl rfl hx15 (rq [4] 9 (r0 5 rfl (v_shl rfl rfl hx16 (rq [6,7,8] 5 (r0 9 rfl (Joa Try.underlying9 rfl rfl hx17 (rq [10,11,12,13] 0 (RA.done (by decide +kernel) (T.ci h rfl (fun hb_19 h=>?_) (fun hb_19 h=>?_)))))))))))))
    ·refine T.exit ?_
     obtain ⟨w_20,h,hw_20⟩:=Qua h
     replace h:=h.trans (congrArg some (hv_13 _ hw_20))
     refine T.seq (T.region (go 5 1 (RS.nil ?_)))
     cases h
     exact tO [] [0] 1
    refine T.skip (T.seq ?_)
    obtain ⟨x20,hx20,h⟩:=bind_some h
    obtain ⟨x21,hx21,h⟩:=bind_some h
    refine T.region (go 4 1 (sO (o_slice_str Try.underlying9 rfl rfl rfl hx20 (sO (Qya (rows:=List.map encS [x20]) (vs:=[.str x20]) Ty.s38 Ty.z9 rfl rfl rfl rfl rfl rfl (sO (Zta (en:=encS) (xs:=s2) (ys:=([x20]:List (List UInt8))) Ty.s38 (fun _=>rfl) rfl rfl rfl hx21 rfl rfl (go 1 3 (RS.nil (T.region (go 5 3 (RS.nil ?_))))))))))))
    exact ⟨(IntKind.i64.wrap (s1+(IntKind.i64.wrap ((IntKind.i64.wrap (x6.toNat:Int))+3))),x21),(Option.some.inj h).symm,wk [] [2] 3 rfl⟩
   refine T.region (go 3 1 ?_)
   rcases Qca (decide ((IntKind.i64.wrap (x6.toNat:Int))<1)) with hb_15 | hb_15
   ·refine sN hb_15 (sN hb_15 (sQ (Qfa (v:=.bool true) rfl hb_15 rfl (go 1 1 (sN rfl (sN rfl (sN rfl (sN rfl (sN rfl (sQ (Qfa (v:=.bool true) rfl rfl rfl ?_)))))))))))
    refine RS.nil ?_
    exact T.sub (hK () trivial) ⟨rfl,rfl,rfl,rfl,rfl,(congrArg AV.bool (by simp only [hb_15,bz,if_true,if_false,Bool.false_eq_true])).symm,trivial⟩
   refine yg 1 hb_15 (yg 1 hb_15 (sQ (Qda (v:=.bool (decide ((IntKind.i64.wrap (x6.toNat:Int)) > 60))) rfl hb_15 rfl (go 1 1 ?_))))
   rcases Qca (decide ((IntKind.i64.wrap (x6.toNat:Int)) > 60)) with hb_16 | hb_16
   ·refine sN hb_16 (sN hb_16 (sN hb_16 (sN hb_16 (sN hb_16 (sQ (Qfa (v:=.bool true) rfl hb_16 rfl (RS.nil ?_)))))))
    exact T.sub (hK () trivial) ⟨rfl,rfl,rfl,rfl,rfl,(congrArg AV.bool (by simp only [hb_15,hb_16,bz,if_true,if_false,Bool.false_eq_true])).symm,trivial⟩
   refine yg 1 hb_16 (yg 1 hb_16 (yg 1 hb_16 (yg 1 hb_16 (yg 1 hb_16 (sQ (Qda (v:=.bool (decide (((x4).length:Int)<(IntKind.i64.wrap ((IntKind.i64.wrap (x6.toNat:Int))+3))))) rfl hb_16 rfl (RS.nil ?_)))))))
   exact T.sub (hK () trivial) ⟨rfl,rfl,rfl,rfl,rfl,(congrArg AV.bool (by simp only [hb_15,hb_16,bz,if_true,if_false,Bool.false_eq_true])).symm,trivial⟩
  refine T.exit ?_
  obtain ⟨w_21,h,hw_21⟩:=Qua h
  replace h:=h.trans (congrArg some (hv_13 _ hw_21))
  refine T.seq (T.region (go 5 1 (RS.nil ?_)))
  cases h
  exact tO [] [0] 1
theorem save_Get_1_x9d52_c (p0:Int) (p1:Int) (p2:List (List UInt8)) (p3:List Write) (r:(List UInt8) × Bool) (h:Vxa p0 p1 p2 p3=some r):FnX Try.prog 31 [iI p0,.ptr 0 0,.ptr 1 0] [.box [iI p1],.box [sL encS p2,sL Jka p3]] (.tup [.str r.1,.bool r.2]) [.box [iI p1],.box [sL encS p2,sL Jka p3]]:=by
  unfold Vxa at h
  refine fnT 2 Try.func31 Try.ntmps31 ?_
  refine T.seq (T.region (go 2 2 (RS.nil (T.seq (T.region (go 5 2 (RS.nil (T.seq (T.seq ?_)))))))))
  refine T.region (go 3 2 (sQ (Qha Ty.s38 rfl (go 1 2 (RS.nil (T.ci h rfl (fun hb_1 h=>?_) (fun hb_1 h=>?_)))))))
  ·refine T.seq (T.region (go 2 2 (RS.nil ?_)))
   cases h
   exact tN [0,1]
  refine T.skip (T.seq ?_)
  obtain ⟨x3,hx3,h⟩:=bind_some h
  obtain ⟨x4,hx4,h⟩:=bind_some h
  refine T.region (go 3 2 (sQ (Qga Ty.s38 (fun _=>rfl) rfl rfl hx3 (go 1 2 (sO (cO 2 (frame_Read_c x3 x4 hx4) ⟨rfl,(go 7 3 (RS.nil (T.seq ?_)))⟩))))))
  obtain ⟨zt_5,hz,h⟩:=bind_some h
  revert hz h;revert zt_5;intro c11 hz h
  refine T.join (Z:=Unit) (fun _=>mkA 61 [(7,.ref 2),(57,.bool c11)]) (fun _=>[.box [iI p1],.box [sL encS p2,sL Jka p3],aR 9 1 encS x4.1]) (fun _=>True) (fun _ _=>?_) (fun hK=>?_)
  ·refine T.ci h rfl (fun hb_6 h=>?_) (fun hb_6 h=>?_)
   ·refine T.seq (T.region (go 2 3 (RS.nil ?_)))
    cases h
    exact tN [0,1]
   refine T.skip (T.seq ?_)
   obtain ⟨x14,hx14,h⟩:=bind_some h
   obtain ⟨x15,hx15,h⟩:=bind_some h
   refine T.region (go 1 3 (sQ (Qta (en:=encS) Ty.s38 rfl rfl rfl hx14 (sO (Q2a (en:=encS) (a:=x15) rfl rfl hx15 (J3a Ty.k9 (c:=.str x15) rfl (go 2 3 (RS.nil ?_))))))))
   cases h
   exact tN [0,1]
  refine T.region (go 1 3 (sQ (Yoa (en:=encS) Ty.s38 rfl rfl (go 2 3 ?_))))
  rcases Qca (((x4.1).length:Int) != 1) with hb_2 | hb_2
  ·replace hz:=ite_T hz hb_2
   refine sN hb_2 (sN hb_2 (sN hb_2 (sN hb_2 (sN hb_2 (sN hb_2 (sN hb_2 (sN hb_2 (sQ (Qfa (v:=.bool true) rfl hb_2 rfl (go 1 3 ?_))))))))))
   refine sN rfl (sN rfl (sN rfl (sN rfl (sN rfl (sQ (Qfa (v:=.bool true) rfl rfl rfl (go 1 3 (sN rfl (sN rfl (sN rfl ?_))))))))))
   refine sN rfl (sN rfl (sN rfl (sN rfl (sQ (Qfa (v:=.bool true) rfl rfl rfl (RS.nil ?_))))))
   exact T.sub (hK () trivial) ⟨rfl,(congrArg AV.bool ((congrArg (fun p=>p) (Option.some.inj hz)).symm)).symm,trivial⟩
  replace hz:=ite_F hz hb_2
  obtain ⟨x5,hx5,hz⟩:=bind_some hz
  refine yg 3 hb_2 (yg 3 hb_2 (yg 3 hb_2 (yg 3 hb_2 (yQ hb_2 (Qga Ty.s38 (fun _=>rfl) rfl rfl hx5 (yg 3 hb_2 (yg 3 hb_2 (yg 3 hb_2 (sQ (Qda (v:=.bool (x4.2.1 != ((x5).length:Int))) rfl hb_2 rfl (go 1 3 ?_)))))))))))
  rcases Qca (x4.2.1 != ((x5).length:Int)) with hb_3 | hb_3
  ·replace hz:=ite_T hz hb_3
   refine sN hb_3 (sN hb_3 (sN hb_3 (sN hb_3 (sN hb_3 (sQ (Qfa (v:=.bool true) rfl hb_3 rfl (go 1 3 (sN rfl (sN rfl (sN rfl ?_))))))))))
   refine sN rfl (sN rfl (sN rfl (sN rfl (sQ (Qfa (v:=.bool true) rfl rfl rfl (RS.nil ?_))))))
   exact T.sub (hK () trivial) ⟨rfl,(congrArg AV.bool ((congrArg (fun p=>p) (Option.some.inj hz)).symm)).symm,trivial⟩
  replace hz:=ite_F hz hb_3
  obtain ⟨x6,hx6,hz⟩:=bind_some hz
  obtain ⟨x7,hx7,hz⟩:=bind_some hz
  refine yg 3 hb_3 (yQ hb_3 (Qta (en:=encS) Ty.s38 rfl rfl rfl hx6 (yO hb_3 (Q2a (en:=encS) (a:=x7) rfl rfl hx7 (J3a Ty.k9 (c:=.str x7) rfl (yg 3 hb_3 (yg 3 hb_3 (sQ (Qda (v:=.bool (decide (((x7).length:Int)<3))) rfl hb_3 rfl (go 1 3 ?_))))))))))
  rcases Qca (decide (((x7).length:Int)<3)) with hb_4 | hb_4
  ·replace hz:=ite_T hz hb_4
   refine sN hb_4 (sN hb_4 (sN hb_4 (sN hb_4 (sN hb_4 (sN hb_4 (sN hb_4 (sQ (Qfa (v:=.bool true) rfl hb_4 rfl (RS.nil ?_)))))))))
   exact T.sub (hK () trivial) ⟨rfl,(congrArg AV.bool ((congrArg (fun p=>p) (Option.some.inj hz)).symm)).symm,trivial⟩
  replace hz:=ite_F hz hb_4
  obtain ⟨x8,hx8,hz⟩:=bind_some hz
  obtain ⟨x9,hx9,hz⟩:=bind_some hz
  obtain ⟨x10,hx10,hz⟩:=bind_some hz
  refine yg 3 hb_4 (yQ hb_4 (Qta (en:=encS) Ty.s38 rfl rfl rfl hx8 (yO hb_4 (Q2a (en:=encS) (a:=x9) rfl rfl hx9 (J3a Ty.k9 (c:=.str x9) rfl (yQ hb_4 (Joa Try.underlying9 rfl rfl hx10 (yg 3 hb_4 (yg 3 hb_4 (yg 3 hb_4 (sQ (Qda (v:=.bool ((IntKind.i64.wrap (x10.toNat:Int)) != p0)) rfl hb_4 rfl (RS.nil ?_)))))))))))))
  exact T.sub (hK () trivial) ⟨rfl,(congrArg AV.bool ((congrArg (fun p=>p) (Option.some.inj hz)).symm)).symm,trivial⟩
theorem save_Get_c (p0:Disk) (p1:Int) (r:(List UInt8) × Int × Int) (h:save_Get p0 p1=some r):Fn Try.prog 10 [.agg (Q3a p0),iI p1] (.tup [.str r.1,iI r.2.1,iI r.2.2]):=by
  unfold save_Get at h
  refine fnT 0 Try.func10 Try.ntmps10 ?_
  refine T.seq (T.region (go 5 0 (RS.nil (T.seq (T.seq ?_)))))
  obtain ⟨x2,hx2,h⟩:=bind_some h
  refine T.region (go 1 2 (sO (cF (disk_Check_c p0 x2 hx2) ⟨rfl,(go 1 2 (RS.nil (T.seq (T.region (go 2 2 (RS.nil (T.ci h rfl (fun hb_1 h=>?_) (fun hb_1 h=>?_))))))))⟩)))
  ·refine T.seq (T.region (go 4 2 (RS.nil ?_)))
   cases h
   exact tD
  refine T.skip (T.seq (T.join (Z:=Unit) (fun _=>mkA 112 [(2,.ptr 0 0),(3,.ptr 1 0),(4,.str []),(25,.bool ((decide (p1<0)) || decide (p1 > 1)))]) (fun _=>[.box (Q3a p0),.box [iI p1]]) (fun _=>True) (fun _ _=>?_) (fun hK=>?_)))
  ·refine T.ci h rfl (fun hb_3 h=>?_) (fun hb_3 h=>?_)
   ·refine T.seq (T.region (go 3 2 (RS.nil ?_)))
    cases h
    exact tD
   refine T.skip (T.seq (T.region (go 2 2 (RS.nil (T.seq ?_)))))
   obtain ⟨x5,hx5,h⟩:=bind_some h
   refine T.region (go 1 2 (sO (Q5a (ac:=[iI 0,.ptr 1 0,.ptr 0 0]) (as0:=[iI (0:Int),.ptr 0 0,.ptr 1 0]) (aw0:=[.box [iI p1],.box (Q3a p0)]) (aw1:=[.box [iI p1],.box (Q3a p0)]) (aw2:=[.box (Q3a p0),.box [iI p1]]) (v:=.tup [.str x5.1,.bool x5.2]) (v':=.tup [.str x5.1,.bool x5.2]) (n0:=2) (n1:=2) [1,0] rfl rfl rfl rfl (by decide) (Jea (cs:=[iI p1]) (ds:=[iI p1]) rfl ⟨Qqa rfl,trivial⟩ (Jea (cs:=(Q3a p0)) (ds:=(Q3a p0)) rfl ⟨rn_s rfl,rn_s rfl,trivial⟩ (Qna))) ⟨Qqa rfl,Qma rfl,Qma rfl,trivial⟩ (save_Get_1_x9d52_c (0:Int) p1 p0.Sectors p0.Wait x5 hx5) rfl (Yxa (cs:=[.str x5.1,.bool x5.2]) (ds:=[.str x5.1,.bool x5.2]) ⟨Qia (Jfa _),Qia (Vfa _),trivial⟩) ⟨.inl ⟨1,_,by decide,rfl,Jaa (cs:=(Q3a p0)) (ds:=(Q3a p0)) ⟨Qia (Qwa encS_p _),Qia (Qwa Q9b _),trivial⟩⟩,.inl ⟨0,_,by decide,rfl,Jaa (cs:=[iI p1]) (ds:=[iI p1]) ⟨Qia (Qsa _ _),trivial⟩⟩,trivial⟩ (go 5 2 (RS.nil (T.seq ?_))))))
   obtain ⟨zt_7,hz,h⟩:=bind_some h
   revert hz h;revert zt_7;intro c8 hz h
   refine T.join (Z:=Unit) (fun _=>mkA 112 [(4,.str []),(8,.func 31 [.ptr 0 0,.ptr 1 0]),(9,.str x5.1),(50,.bool c8)]) (fun _=>[.box [iI p1],.box (Q3a p0)]) (fun _=>True) (fun _ _=>?_) (fun hK=>?_)
   ·refine T.ci h rfl (fun hb_8 h=>?_) (fun hb_8 h=>?_)
    ·refine T.seq (T.region (go 3 2 (RS.nil ?_)))
     cases h
     exact tD
    refine T.skip (T.seq (T.seq (T.region (go 1 2 (RS.nil (T.block (T.iter (fun ss_29:(List UInt8) × Int=>mkA 112 [(4,.str ss_29.1),(8,.func 31 [.ptr 0 0,.ptr 1 0]),(9,.str x5.1),(11,iI ss_29.2)]) (fun ss_29=>[.box [iI p1],.box (Q3a p0)]) h (wk [] [0,1] 2 rfl) (fun ss_29 v_30 h hv_30=>?_))))))))
    obtain ⟨s9,s10⟩:=ss_29
    replace h:Q3b p0 p1 x5 s9 s10=some v_30:=h
    try dsimp only
    unfold Q3b at h
    refine T.seq (T.seq ?_)
    obtain ⟨x12,hx12,h⟩:=bind_some h
    refine T.region (go 2 2 (sQ (Joa Try.underlying9 rfl rfl hx12 (go 2 2 (RS.nil (T.ci h rfl (fun hb_31 h=>?_) (fun hb_31 h=>?_)))))))
    ·refine T.skip (T.seq (T.block (T.seq ?_)))
     obtain ⟨x14,hx14,h⟩:=bind_some h
     refine T.region (go 2 2 (sO (Q5a (ac:=[iI s10,.ptr 0 0,.ptr 1 0]) (as0:=[iI s10,.ptr 0 0,.ptr 1 0]) (aw0:=[.box [iI p1],.box (Q3a p0)]) (aw1:=[.box [iI p1],.box (Q3a p0)]) (aw2:=[.box [iI p1],.box (Q3a p0)]) (v:=.tup [.str x14.1,.bool x14.2]) (v':=.tup [.str x14.1,.bool x14.2]) (n0:=2) (n1:=2) [0,1] rfl rfl rfl rfl (by decide) (Jea (cs:=[iI p1]) (ds:=[iI p1]) rfl ⟨Qqa rfl,trivial⟩ (Jea (cs:=(Q3a p0)) (ds:=(Q3a p0)) rfl ⟨rn_s rfl,rn_s rfl,trivial⟩ (Qna))) ⟨Qqa rfl,Qma rfl,Qma rfl,trivial⟩ (save_Get_1_x9d52_c s10 p1 p0.Sectors p0.Wait x14 hx14) rfl (Yxa (cs:=[.str x14.1,.bool x14.2]) (ds:=[.str x14.1,.bool x14.2]) ⟨Qia (Jfa _),Qia (Vfa _),trivial⟩) ⟨.inl ⟨0,_,by decide,rfl,Jaa (cs:=[iI p1]) (ds:=[iI p1]) ⟨Qia (Qsa _ _),trivial⟩⟩,.inl ⟨1,_,by decide,rfl,Jaa (cs:=(Q3a p0)) (ds:=(Q3a p0)) ⟨Qia (Qwa encS_p _),Qia (Qwa Q9b _),trivial⟩⟩,trivial⟩ (go 5 2 (RS.nil ?_)))))
     obtain ⟨zt_35,hz,h⟩:=bind_some h
     revert hz h;revert zt_35;intro c16 hz h
     refine T.join (Z:=Unit) (fun _=>mkA 112 [(4,.str s9),(8,.func 31 [.ptr 0 0,.ptr 1 0]),(9,.str x5.1),(11,iI s10),(12,.str x14.1),(13,.bool x14.2),(14,.bool c16)]) (fun _=>[.box [iI p1],.box (Q3a p0)]) (fun _=>True) (fun _ _=>?_) (fun hK=>?_)
     ·refine T.seq ?_
      obtain ⟨zt_39,hz,h⟩:=bind_some h
      revert hz h;revert zt_39;intro c21 hz h
      refine T.join (Z:=Unit) (fun _=>mkA 112 [(4,.str s9),(8,.func 31 [.ptr 0 0,.ptr 1 0]),(9,.str x5.1),(11,iI s10),(12,.str x14.1),(103,.bool c21)]) (fun _=>[.box [iI p1],.box (Q3a p0)]) (fun _=>True) (fun _ _=>?_) (fun hK=>?_)
      ·refine T.ci h rfl (fun hb_40 h=>?_) (fun hb_40 h=>?_)
       ·refine T.seq (T.region (go 3 2 (RS.nil ?_)))
        obtain ⟨w_41,h,hw_41⟩:=Qua h
        replace h:=h.trans (congrArg some (hv_30 _ hw_41))
        cases h
        exact tD
       refine T.skip ?_
       obtain ⟨x22,hx22,h⟩:=bind_some h
       obtain ⟨x23,hx23,h⟩:=bind_some h
       refine T.region (go 2 2 (sO (o_slice_str Try.underlying9 rfl rfl rfl hx22 (sQ (v_sadd rfl rfl hx23 (go 1 2 (RS.nil (T.region (go 3 2 (RS.nil ?_))))))))))
       exact ⟨(x23,IntKind.i64.wrap (s10+1)),(Option.some.inj h).symm,wk [] [0,1] 2 rfl⟩
      rcases Qca (!x14.2) with hb_36 | hb_36
      ·replace hz:=ite_T hz hb_36
       refine T.drawn mixed (k:=20) rfl (rq [0,1,2] 17 (r2 3 rfl hb_36 (r2 4 rfl hb_36 (r2 5 rfl hb_36 (r2 6 rfl hb_36 (r2 7 rfl hb_36 (r0 8 rfl (Qfa (v:=.bool true) rfl hb_36 rfl (rq [9] 10 (r2 10 rfl rfl ?_))))))))))
       refine r2 11 rfl rfl (r2 12 rfl rfl (r2 13 rfl rfl (r2 14 rfl rfl (r0 15 rfl (Qfa (v:=.bool true) rfl rfl rfl (rq [16] 3 (r2 17 rfl rfl (r2 18 rfl rfl (r0 19 rfl (Qfa (v:=.bool true) rfl rfl rfl (RA.done (by decide +kernel) ?_)))))))))))
       exact T.sub (hK () trivial) ⟨rfl,rfl,rfl,rfl,rfl,(congrArg AV.bool ((congrArg (fun p=>p) (Option.some.inj hz)).symm)).symm,trivial⟩
      replace hz:=ite_F hz hb_36
      obtain ⟨x17,hx17,hz⟩:=bind_some hz
      obtain ⟨x18,hx18,hz⟩:=bind_some hz
      rcases Qca ((x17.toNat:Int) != (x18.toNat:Int)) with hb_37 | hb_37
      ·replace hz:=ite_T hz hb_37
       refine T.drawn mixed (k:=20) rfl (rq [0,1,2] 17 (ry 3 hb_36 rfl (r1 4 rfl hb_36 (Joa Try.underlying9 rfl rfl hx17 (ry 5 hb_36 rfl (r1 6 rfl hb_36 (Joa Try.underlying9 rfl rfl hx18 (ry 7 hb_36 rfl (r0 8 rfl (Qda (v:=.bool ((x17.toNat:Int) != (x18.toNat:Int))) rfl hb_36 rfl (rq [9] 10 (r2 10 rfl hb_37 ?_))))))))))))
       refine r2 11 rfl hb_37 (r2 12 rfl hb_37 (r2 13 rfl hb_37 (r2 14 rfl hb_37 (r0 15 rfl (Qfa (v:=.bool true) rfl hb_37 rfl (rq [16] 3 (r2 17 rfl rfl (r2 18 rfl rfl (r0 19 rfl (Qfa (v:=.bool true) rfl rfl rfl (RA.done (by decide +kernel) ?_)))))))))))
       exact T.sub (hK () trivial) ⟨rfl,rfl,rfl,rfl,rfl,(congrArg AV.bool ((congrArg (fun p=>p) (Option.some.inj hz)).symm)).symm,trivial⟩
      replace hz:=ite_F hz hb_37
      obtain ⟨x19,hx19,hz⟩:=bind_some hz
      obtain ⟨x20,hx20,hz⟩:=bind_some hz
      rcases Qca ((x19.toNat:Int) != (x20.toNat:Int)) with hb_38 | hb_38
      ·replace hz:=ite_T hz hb_38
       refine T.drawn mixed (k:=20) rfl (rq [0,1,2] 17 (ry 3 hb_36 rfl (r1 4 rfl hb_36 (Joa Try.underlying9 rfl rfl hx17 (ry 5 hb_36 rfl (r1 6 rfl hb_36 (Joa Try.underlying9 rfl rfl hx18 (ry 7 hb_36 rfl (r0 8 rfl (Qda (v:=.bool ((x17.toNat:Int) != (x18.toNat:Int))) rfl hb_36 rfl (rq [9] 10 (ry 10 hb_37 rfl ?_))))))))))))
       refine r1 11 rfl hb_37 (Joa Try.underlying9 rfl rfl hx19 (ry 12 hb_37 rfl (r1 13 rfl hb_37 (Joa Try.underlying9 rfl rfl hx20 (ry 14 hb_37 rfl (r0 15 rfl (Qda (v:=.bool ((x19.toNat:Int) != (x20.toNat:Int))) rfl hb_37 rfl (rq [16] 3 (r2 17 rfl hb_38 (r2 18 rfl hb_38 (r0 19 rfl (Qfa (v:=.bool true) rfl hb_38 rfl (RA.done (by decide +kernel) ?_)))))))))))))
       exact T.sub (hK () trivial) ⟨rfl,rfl,rfl,rfl,rfl,(congrArg AV.bool ((congrArg (fun p=>p) (Option.some.inj hz)).symm)).symm,trivial⟩
      replace hz:=ite_F hz hb_38
      refine T.drawn mixed (k:=20) rfl (rq [0,1,2] 17 (ry 3 hb_36 rfl (r1 4 rfl hb_36 (Joa Try.underlying9 rfl rfl hx17 (ry 5 hb_36 rfl (r1 6 rfl hb_36 (Joa Try.underlying9 rfl rfl hx18 (ry 7 hb_36 rfl (r0 8 rfl (Qda (v:=.bool ((x17.toNat:Int) != (x18.toNat:Int))) rfl hb_36 rfl (rq [9] 10 (ry 10 hb_37 rfl ?_))))))))))))
      refine r1 11 rfl hb_37 (Joa Try.underlying9 rfl rfl hx19 (ry 12 hb_37 rfl (r1 13 rfl hb_37 (Joa Try.underlying9 rfl rfl hx20 (ry 14 hb_37 rfl (r0 15 rfl (Qda (v:=.bool ((x19.toNat:Int) != (x20.toNat:Int))) rfl hb_37 rfl (rq [16] 3 (ry 17 hb_38 rfl (ry 18 hb_38 rfl (r0 19 rfl (Qda (v:=.bool (!c16)) rfl hb_38 rfl (RA.done (by decide +kernel) ?_)))))))))))))
      exact T.sub (hK () trivial) ⟨rfl,rfl,rfl,rfl,rfl,(congrArg AV.bool ((congrArg (fun p=>p) (Option.some.inj hz)).symm)).symm,trivial⟩
     refine T.region (go 4 2 ?_)
     rcases Qca (((x14.1).length:Int)==53) with hb_32 | hb_32
     ·replace hz:=ite_T hz hb_32
      refine sN hb_32 (sN hb_32 (sN hb_32 (sN hb_32 (sN hb_32 (sN hb_32 (sU (sU (sU (sN hb_32 ?_)))))))))
      refine sN hb_32 (sU (sU (sU (sN hb_32 (sQ (Qfa (v:=.bool true) rfl hb_32 rfl (go 1 2 (RS.nil ?_))))))))
      exact T.sub (hK () trivial) ⟨rfl,rfl,rfl,rfl,rfl,rfl,(congrArg AV.bool ((congrArg (fun p=>p) (Option.some.inj hz)).symm)).symm,trivial⟩
     replace hz:=ite_F hz hb_32
     obtain ⟨x15,hx15,hz⟩:=bind_some hz
     refine yg 2 hb_32 (yg 2 hb_32 (yQ hb_32 (Joa Try.underlying9 rfl rfl hx15 (yg 2 hb_32 (yg 2 hb_32 (yg 2 hb_32 ?_))))))
     rcases Qca (s10==(IntKind.i64.wrap (x15.toNat:Int))) with hb_33 | hb_33
     ·replace hz:=ite_T hz hb_33
      refine yg 2 hb_33 (yg 2 hb_33 (yg 2 hb_33 (yQ hb_32 (Qfa (v:=.bool (decide (((x14.1).length:Int) > 3))) rfl hb_33 rfl (yg 2 hb_32 ?_)))))
      rcases Qca (decide (((x14.1).length:Int) > 3)) with hb_34 | hb_34
      ·replace hz:=ite_T hz hb_34
       refine yg 2 hb_34 (yg 2 hb_34 (yg 2 hb_34 (yQ hb_32 (Qfa (v:=.bool (decide (((x14.1).length:Int)<53))) rfl hb_34 rfl (sQ (Qda (v:=.bool (decide (((x14.1).length:Int)<53))) rfl hb_32 rfl (go 1 2 (RS.nil ?_))))))))
       exact T.sub (hK () trivial) ⟨rfl,rfl,rfl,rfl,rfl,rfl,(congrArg AV.bool ((congrArg (fun p=>p) (Option.some.inj hz)).symm)).symm,trivial⟩
      replace hz:=ite_F hz hb_34
      refine sN hb_34 (sN hb_34 (sN hb_34 (yQ hb_32 (Qda (v:=.bool false) rfl hb_34 rfl (sQ (Qda (v:=.bool false) rfl hb_32 rfl (go 1 2 (RS.nil ?_))))))))
      exact T.sub (hK () trivial) ⟨rfl,rfl,rfl,rfl,rfl,rfl,(congrArg AV.bool ((congrArg (fun p=>p) (Option.some.inj hz)).symm)).symm,trivial⟩
     replace hz:=ite_F hz hb_33
     refine sN hb_33 (sN hb_33 (sN hb_33 (yQ hb_32 (Qda (v:=.bool false) rfl hb_33 rfl (yg 2 hb_32 (sN rfl (sN rfl (sN rfl (yQ hb_32 (Qda (v:=.bool false) rfl rfl rfl (sQ (Qda (v:=.bool false) rfl hb_32 rfl ?_))))))))))))
     refine go 1 2 (RS.nil ?_)
     exact T.sub (hK () trivial) ⟨rfl,rfl,rfl,rfl,rfl,rfl,(congrArg AV.bool ((congrArg (fun p=>p) (Option.some.inj hz)).symm)).symm,trivial⟩
    refine T.exit ?_
    obtain ⟨w_42,h,hw_42⟩:=Qua h
    replace h:=h.trans (congrArg some (hv_30 _ hw_42))
    refine T.seq ?_
    obtain ⟨x25,hx25,h⟩:=bind_some h
    refine T.drawn mixed (k:=7) rfl (rq [0,1] 5 (r0 2 rfl (Joa Try.underlying9 rfl rfl hx25 (rq [3,4,5,6] 0 (RA.done (by decide +kernel) ?_)))))
    cases h
    exact tD
   refine T.region (go 3 2 ?_)
   rcases Qca (!x5.2) with hb_4 | hb_4
   ·replace hz:=ite_T hz hb_4
    refine sN hb_4 (sN hb_4 (sN hb_4 (sQ (Qfa (v:=.bool true) rfl hb_4 rfl (go 1 2 (sN rfl (sN rfl (sN rfl (sN rfl (sQ (Qfa (v:=.bool true) rfl rfl rfl ?_)))))))))))
    refine go 1 2 (sN rfl (sN rfl (sN rfl (sN rfl (sQ (Qfa (v:=.bool true) rfl rfl rfl (RS.nil ?_)))))))
    exact T.weakR (hK () trivial) (Weak.mkN [] [1,0] (by decide) (Qpa _) rfl ⟨Jua rfl,rn_func ⟨Qma rfl,Qma rfl,trivial⟩,Jua rfl,Jla ((congrArg (fun p=>p) (Option.some.inj hz)).symm),trivial⟩ (rw_bs [iI p1] rfl (rw_bs (Q3a p0) rfl (Qna))))
   replace hz:=ite_F hz hb_4
   refine yg 2 hb_4 (yg 2 hb_4 (yg 2 hb_4 (sQ (Qda (v:=.bool (((x5.1).length:Int) != 3)) rfl hb_4 rfl (go 1 2 ?_)))))
   rcases Qca (((x5.1).length:Int) != 3) with hb_5 | hb_5
   ·replace hz:=ite_T hz hb_5
    refine sN hb_5 (sN hb_5 (sN hb_5 (sN hb_5 (sQ (Qfa (v:=.bool true) rfl hb_5 rfl (go 1 2 (sN rfl (sN rfl (sN rfl (sN rfl ?_))))))))))
    refine sQ (Qfa (v:=.bool true) rfl rfl rfl (RS.nil ?_))
    exact T.weakR (hK () trivial) (Weak.mkN [] [1,0] (by decide) (Qpa _) rfl ⟨Jua rfl,rn_func ⟨Qma rfl,Qma rfl,trivial⟩,Jua rfl,Jla ((congrArg (fun p=>p) (Option.some.inj hz)).symm),trivial⟩ (rw_bs [iI p1] rfl (rw_bs (Q3a p0) rfl (Qna))))
   replace hz:=ite_F hz hb_5
   obtain ⟨x6,hx6,hz⟩:=bind_some hz
   refine yg 2 hb_5 (yQ hb_5 (Joa Try.underlying9 rfl rfl hx6 (yg 2 hb_5 (yg 2 hb_5 (sQ (Qda (v:=.bool (decide ((IntKind.i64.wrap (x6.toNat:Int)) > 200))) rfl hb_5 rfl (go 1 2 ?_)))))))
   rcases Qca (decide ((IntKind.i64.wrap (x6.toNat:Int)) > 200)) with hb_6 | hb_6
   ·replace hz:=ite_T hz hb_6
    refine sN hb_6 (sN hb_6 (sN hb_6 (sN hb_6 (sQ (Qfa (v:=.bool true) rfl hb_6 rfl (RS.nil ?_))))))
    exact T.weakR (hK () trivial) (Weak.mkN [] [1,0] (by decide) (Qpa _) rfl ⟨Jua rfl,rn_func ⟨Qma rfl,Qma rfl,trivial⟩,Jua rfl,Jla ((congrArg (fun p=>p) (Option.some.inj hz)).symm),trivial⟩ (rw_bs [iI p1] rfl (rw_bs (Q3a p0) rfl (Qna))))
   replace hz:=ite_F hz hb_6
   obtain ⟨x7,hx7,hz⟩:=bind_some hz
   refine yg 2 hb_6 (yQ hb_6 (Joa Try.underlying9 rfl rfl hx7 (yg 2 hb_6 (yg 2 hb_6 (sQ (Qda (v:=.bool (decide ((IntKind.i64.wrap (x7.toNat:Int)) ≥ 60))) rfl hb_6 rfl (RS.nil ?_)))))))
   exact T.weakR (hK () trivial) (Weak.mkN [] [1,0] (by decide) (Qpa _) rfl ⟨Jua rfl,rn_func ⟨Qma rfl,Qma rfl,trivial⟩,Jua rfl,Jla ((congrArg (fun p=>p) (Option.some.inj hz)).symm),trivial⟩ (rw_bs [iI p1] rfl (rw_bs (Q3a p0) rfl (Qna))))
  refine T.region (go 3 2 ?_)
  rcases Qca (decide (p1<0)) with hb_2 | hb_2
  ·refine sN hb_2 (sN hb_2 (sQ (Qfa (v:=.bool true) rfl hb_2 rfl (RS.nil ?_))))
   exact T.sub (hK () trivial) ⟨rfl,rfl,rfl,(congrArg AV.bool (by simp only [hb_2,bz,if_true,if_false,Bool.false_eq_true])).symm,trivial⟩
  refine yg 2 hb_2 (yg 2 hb_2 (sQ (Qda (v:=.bool (decide (p1 > 1))) rfl hb_2 rfl (RS.nil ?_))))
  exact T.sub (hK () trivial) ⟨rfl,rfl,rfl,(congrArg AV.bool (by simp only [hb_2,bz,if_true,if_false,Bool.false_eq_true])).symm,trivial⟩
theorem slices_Equal_int_c (p0:List Int) (p1:List Int) (r:Bool) (h:Ypa p0 p1=some r):Fn Try.prog 22 [sL encI p0,sL encI p1] (.bool r):=by
  unfold Ypa at h
  refine fnT 0 Try.func22 Try.ntmps22 ?_
  refine T.seq (T.region (go 1 0 (RS.nil (T.seq (T.seq (T.region (go 1 0 (sQ (Qha Ty.s26 rfl (go 1 0 ?_))))))))))
  refine sQ (Qha Ty.s26 rfl (go 1 0 (RS.nil (T.ci h rfl (fun hb_1 h=>?_) (fun hb_1 h=>?_)))))
  ·refine T.seq (T.region (go 1 0 (RS.nil ?_)))
   cases h
   exact tD
  refine T.skip (T.seq (T.seq (T.region (go 1 0 (sQ (Qha Ty.s26 rfl (go 1 0 (RS.nil (T.block (T.iter (fun ss_6:Int=>mkA 26 [(0,sL encI p0),(1,sL encI p1),(12,iI ((p0).length:Int)),(13,iI ss_6)]) (fun ss_6=>[]) h (wk [] [] 0 rfl) (fun ss_6 v_7 h hv_7=>?_)))))))))))
  revert hv_7 h;revert ss_6;intro s1 h hv_7
  replace h:Vqa p0 p1 s1=some v_7:=h
  try dsimp only
  unfold Vqa at h
  refine T.seq (T.region (go 1 0 (RS.nil (T.seq (T.ci h rfl (fun hb_8 h=>?_) (fun hb_8 h=>?_))))))
  ·refine T.skip (T.seq (T.block (T.seq (T.region (go 2 0 (RS.nil (T.seq ?_)))))))
   obtain ⟨x4,hx4,h⟩:=bind_some h
   obtain ⟨x5,hx5,h⟩:=bind_some h
   refine T.drawn mixed (k:=9) rfl (rq [0,1] 7 (r0 2 rfl (Qga Ty.s26 (fun _=>rfl) rfl rfl hx4 (rq [4,5] 4 (r0 6 rfl (Qga Ty.s26 (fun _=>rfl) rfl rfl hx5 (rL [3,8] 3 rfl (ra1 7 (og 0 ⟨rfl,(rq [8] 0 (RA.done (by decide +kernel) ?_))⟩)))))))))
   refine T.ci h rfl (fun hb_9 h=>?_) (fun hb_9 h=>?_)
   ·refine T.seq (T.region (go 1 0 (RS.nil ?_)))
    obtain ⟨w_10,h,hw_10⟩:=Qua h
    replace h:=h.trans (congrArg some (hv_7 _ hw_10))
    cases h
    exact tD
   refine T.skip (T.region (go 2 0 (RS.nil ?_)))
   exact ⟨IntKind.i64.wrap (s1+1),(Option.some.inj h).symm,wk [] [] 0 rfl⟩
  refine T.exit ?_
  obtain ⟨w_11,h,hw_11⟩:=Qua h
  replace h:=h.trans (congrArg some (hv_7 _ hw_11))
  refine T.seq (T.region (go 1 0 (RS.nil ?_)))
  cases h
  exact tD
theorem slices_Equal_Item_c (p0:List Item) (p1:List Item) (r:Bool) (h:Yca p0 p1=some r):Fn Try.prog 57 [sL Qaa p0,sL Qaa p1] (.bool r):=by
  unfold Yca at h
  refine fnT 0 Try.func57 Try.ntmps57 ?_
  refine T.seq (T.region (go 1 0 (RS.nil (T.seq (T.seq (T.region (go 1 0 (sQ (Qha Ty.s29 rfl (go 1 0 ?_))))))))))
  refine sQ (Qha Ty.s29 rfl (go 1 0 (RS.nil (T.ci h rfl (fun hb_1 h=>?_) (fun hb_1 h=>?_)))))
  ·refine T.seq (T.region (go 1 0 (RS.nil ?_)))
   cases h
   exact tD
  refine T.skip (T.seq (T.seq (T.region (go 1 0 (sQ (Qha Ty.s29 rfl (go 1 0 (RS.nil (T.block (T.iter (fun ss_6:Int=>mkA 26 [(0,sL Qaa p0),(1,sL Qaa p1),(12,iI ((p0).length:Int)),(13,iI ss_6)]) (fun ss_6=>[]) h (wk [] [] 0 rfl) (fun ss_6 v_7 h hv_7=>?_)))))))))))
  revert hv_7 h;revert ss_6;intro s1 h hv_7
  replace h:Via p0 p1 s1=some v_7:=h
  try dsimp only
  unfold Via at h
  refine T.seq (T.region (go 1 0 (RS.nil (T.seq (T.ci h rfl (fun hb_8 h=>?_) (fun hb_8 h=>?_))))))
  ·refine T.skip (T.seq (T.block (T.seq (T.region (go 2 0 (RS.nil (T.seq ?_)))))))
   obtain ⟨x4,hx4,h⟩:=bind_some h
   obtain ⟨x5,hx5,h⟩:=bind_some h
   refine T.drawn mixed (k:=9) rfl (rq [0,1] 7 (r0 2 rfl (Qga Ty.s29 (fun _=>rfl) rfl rfl hx4 (rq [4,5] 4 (r0 6 rfl (Qga Ty.s29 (fun _=>rfl) rfl rfl hx5 (rL [3,8] 3 rfl (ra1 7 (og 0 ⟨rfl,(r0 8 rfl (v_gneq (cs:=[iI x4.Key,iI x4.Val,iI x4.Dep]) (ds:=[iI x5.Key,iI x5.Val,iI x5.Dep]) (r:=x4==x5) Ty.q94 rfl rfl rfl rfl (encItem_eq x4 x5) (RA.done (by decide +kernel) ?_)))⟩)))))))))
   refine T.ci h rfl (fun hb_9 h=>?_) (fun hb_9 h=>?_)
   ·refine T.seq (T.region (go 1 0 (RS.nil ?_)))
    obtain ⟨w_10,h,hw_10⟩:=Qua h
    replace h:=h.trans (congrArg some (hv_7 _ hw_10))
    cases h
    exact tD
   refine T.skip (T.region (go 2 0 (RS.nil ?_)))
   exact ⟨IntKind.i64.wrap (s1+1),(Option.some.inj h).symm,wk [] [] 0 rfl⟩
  refine T.exit ?_
  obtain ⟨w_11,h,hw_11⟩:=Qua h
  replace h:=h.trans (congrArg some (hv_7 _ hw_11))
  refine T.seq (T.region (go 1 0 (RS.nil ?_)))
  cases h
  exact tD
theorem crossref_SameItems_c (p0:List Item) (p1:List Item) (r:Bool) (h:Vaa p0 p1=some r):Fn Try.prog 24 [sL Qaa p0,sL Qaa p1] (.bool r):=by
  unfold Vaa at h
  refine fnT 0 Try.func24 Try.ntmps24 ?_
  refine T.seq (T.region (go 1 0 (RS.nil (T.seq ?_))))
  obtain ⟨x2,hx2,h⟩:=bind_some h
  refine T.region (go 2 0 (sO (cF (slices_Equal_Item_c p0 p1 x2 hx2) ⟨rfl,(go 1 0 (RS.nil ?_))⟩)))
  cases h
  exact tD
theorem Z2a (p0:List (List Item)) (p1:List (List Item)) (r:Bool) (h:Q1a p0 p1=some r):Fn Try.prog 23 [sL (encL Qaa) p0,sL (encL Qaa) p1,.func 24 []] (.bool r):=by
  unfold Q1a at h
  refine fnT 0 Try.func23 Try.ntmps23 ?_
  refine T.seq (T.region (go 1 0 (RS.nil (T.seq (T.seq (T.region (go 1 0 (sQ (Qha Ty.s25 rfl (go 1 0 ?_))))))))))
  refine sQ (Qha Ty.s25 rfl (go 1 0 (RS.nil (T.ci h rfl (fun hb_1 h=>?_) (fun hb_1 h=>?_)))))
  ·refine T.seq (T.region (go 1 0 (RS.nil ?_)))
   cases h
   exact tD
  refine T.skip (T.seq (T.seq (T.region (go 1 0 (sQ (Qha Ty.s25 rfl (go 1 0 (RS.nil (T.block (T.iter (fun ss_6:Int=>mkA 32 [(1,sL (encL Qaa) p1),(2,.func 24 []),(15,sL (encL Qaa) p0),(16,iI ((p0).length:Int)),(17,iI ss_6)]) (fun ss_6=>[]) h (wk [] [] 0 rfl) (fun ss_6 v_7 h hv_7=>?_)))))))))))
  revert hv_7 h;revert ss_6;intro s1 h hv_7
  replace h:Q0a p0 p1 s1=some v_7:=h
  try dsimp only
  unfold Q0a at h
  refine T.seq (T.region (go 1 0 (RS.nil (T.seq (T.ci h rfl (fun hb_8 h=>?_) (fun hb_8 h=>?_))))))
  ·refine T.skip (T.seq (T.block (T.seq ?_)))
   obtain ⟨x3,hx3,h⟩:=bind_some h
   refine T.region (go 1 0 (sQ (Qga Ty.s25 (fun _=>rfl) rfl rfl hx3 (go 3 0 (RS.nil (T.seq ?_))))))
   obtain ⟨x5,hx5,h⟩:=bind_some h
   refine T.region (go 2 0 (sQ (Qga Ty.s25 (fun _=>rfl) rfl rfl hx5 (go 2 0 (RS.nil (T.seq ?_))))))
   obtain ⟨x7,hx7,h⟩:=bind_some h
   refine T.region (go 3 0 (sO (cF (crossref_SameItems_c x3 x5 x7 hx7) ⟨rfl,(go 1 0 (RS.nil (T.ci h rfl (fun hb_9 h=>?_) (fun hb_9 h=>?_))))⟩)))
   ·refine T.seq (T.region (go 1 0 (RS.nil ?_)))
    obtain ⟨w_10,h,hw_10⟩:=Qua h
    replace h:=h.trans (congrArg some (hv_7 _ hw_10))
    cases h
    exact tD
   refine T.skip (T.region (go 2 0 (RS.nil ?_)))
   exact ⟨IntKind.i64.wrap (s1+1),(Option.some.inj h).symm,wk [] [] 0 rfl⟩
  refine T.exit ?_
  obtain ⟨w_11,h,hw_11⟩:=Qua h
  replace h:=h.trans (congrArg some (hv_7 _ hw_11))
  refine T.seq (T.region (go 1 0 (RS.nil ?_)))
  cases h
  exact tD
theorem slices_Equal_Keyed_c (p0:List Keyed) (p1:List Keyed) (r:Bool) (h:Vza p0 p1=some r):Fn Try.prog 58 [sL Qla p0,sL Qla p1] (.bool r):=by
  unfold Vza at h
  refine fnT 0 Try.func58 Try.ntmps58 ?_
  refine T.seq (T.region (go 1 0 (RS.nil (T.seq (T.seq (T.region (go 1 0 (sQ (Qha Ty.s61 rfl (go 1 0 ?_))))))))))
  refine sQ (Qha Ty.s61 rfl (go 1 0 (RS.nil (T.ci h rfl (fun hb_1 h=>?_) (fun hb_1 h=>?_)))))
  ·refine T.seq (T.region (go 1 0 (RS.nil ?_)))
   cases h
   exact tD
  refine T.skip (T.seq (T.seq (T.region (go 1 0 (sQ (Qha Ty.s61 rfl (go 1 0 (RS.nil (T.block (T.iter (fun ss_6:Int=>mkA 26 [(0,sL Qla p0),(1,sL Qla p1),(12,iI ((p0).length:Int)),(13,iI ss_6)]) (fun ss_6=>[]) h (wk [] [] 0 rfl) (fun ss_6 v_7 h hv_7=>?_)))))))))))
  revert hv_7 h;revert ss_6;intro s1 h hv_7
  replace h:Z9a p0 p1 s1=some v_7:=h
  try dsimp only
  unfold Z9a at h
  refine T.seq (T.region (go 1 0 (RS.nil (T.seq (T.ci h rfl (fun hb_8 h=>?_) (fun hb_8 h=>?_))))))
  ·refine T.skip (T.seq (T.block (T.seq (T.region (go 2 0 (RS.nil (T.seq ?_)))))))
   obtain ⟨x4,hx4,h⟩:=bind_some h
   obtain ⟨x5,hx5,h⟩:=bind_some h
   refine T.drawn mixed (k:=9) rfl (rq [0,1] 7 (r0 2 rfl (Qga Ty.s61 (fun _=>rfl) rfl rfl hx4 (rq [4,5] 4 (r0 6 rfl (Qga Ty.s61 (fun _=>rfl) rfl rfl hx5 (rL [3,8] 3 rfl (ra1 7 (og 0 ⟨rfl,(r0 8 rfl (v_gneq (cs:=[iI x4.Key,iI x4.N]) (ds:=[iI x5.Key,iI x5.N]) (r:=x4==x5) Ty.q65 rfl rfl rfl rfl (encKeyed_eq x4 x5) (RA.done (by decide +kernel) ?_)))⟩)))))))))
   refine T.ci h rfl (fun hb_9 h=>?_) (fun hb_9 h=>?_)
   ·refine T.seq (T.region (go 1 0 (RS.nil ?_)))
    obtain ⟨w_10,h,hw_10⟩:=Qua h
    replace h:=h.trans (congrArg some (hv_7 _ hw_10))
    cases h
    exact tD
   refine T.skip (T.region (go 2 0 (RS.nil ?_)))
   exact ⟨IntKind.i64.wrap (s1+1),(Option.some.inj h).symm,wk [] [] 0 rfl⟩
  refine T.exit ?_
  obtain ⟨w_11,h,hw_11⟩:=Qua h
  replace h:=h.trans (congrArg some (hv_7 _ hw_11))
  refine T.seq (T.region (go 1 0 (RS.nil ?_)))
  cases h
  exact tD
theorem crossref_SameMemory_c (p0:Memory) (p1:Memory) (r:Bool) (h:Vra p0 p1=some r):Fn Try.prog 26 [.agg (Qba p0),.agg (Qba p1)] (.bool r):=by
  unfold Vra at h
  refine fnT 0 Try.func26 Try.ntmps26 ?_
  refine T.seq (T.region (go 3 0 (RS.nil ?_)))
  obtain ⟨zt_3,hz,h⟩:=bind_some h
  revert hz h;revert zt_3;intro c2 hz h
  refine T.join (Z:=Unit) (fun _=>mkA 24 [(4,.bool c2)]) (fun _=>[]) (fun _=>True) (fun _ _=>?_) (fun hK=>?_)
  ·cases h
   exact tD
  refine T.region (go 6 2 ?_)
  rcases Qca (p0.Sum==p1.Sum) with hb_1 | hb_1
  ·replace hz:=ite_T hz hb_1
   refine yg 2 hb_1 (yg 2 hb_1 (yg 2 hb_1 (yg 2 hb_1 (yg 2 hb_1 (sQ (Qfa (v:=.bool (p0.Dep==p1.Dep)) rfl hb_1 rfl (go 1 2 ?_)))))))
   rcases Qca (p0.Dep==p1.Dep) with hb_2 | hb_2
   ·replace hz:=ite_T hz hb_2
    obtain ⟨x1,hx1,hz⟩:=bind_some hz
    refine yg 2 hb_2 (yg 2 hb_2 (yg 2 hb_2 (yg 2 hb_2 (yO hb_2 (cF (slices_Equal_Keyed_c p0.Keys p1.Keys x1 hx1) ⟨rfl,(sQ (Qfa (v:=.bool x1) rfl hb_2 rfl (go 1 2 (RS.nil ?_))))⟩)))))
    exact T.weakR (hK () trivial) (Weak.mkN [] [] (by decide) (Qpa _) rfl ⟨Jla ((congrArg (fun p=>p) (Option.some.inj hz)).symm),trivial⟩ (Qna))
   replace hz:=ite_F hz hb_2
   refine sN hb_2 (sN hb_2 (sN hb_2 (sN hb_2 (sN hb_2 (sQ (Qda (v:=.bool false) rfl hb_2 rfl (go 1 2 (RS.nil ?_))))))))
   exact T.weakR (hK () trivial) (Weak.mkN [] [] (by decide) (Qpa _) rfl ⟨Jla ((congrArg (fun p=>p) (Option.some.inj hz)).symm),trivial⟩ (Qna))
  replace hz:=ite_F hz hb_1
  refine sN hb_1 (sN hb_1 (sN hb_1 (sN hb_1 (sN hb_1 (sQ (Qda (v:=.bool false) rfl hb_1 rfl (go 1 2 (sN rfl (sN rfl (sN rfl ?_))))))))))
  refine sN rfl (sN rfl (sQ (Qda (v:=.bool false) rfl rfl rfl (go 1 2 (RS.nil ?_)))))
  exact T.weakR (hK () trivial) (Weak.mkN [] [] (by decide) (Qpa _) rfl ⟨Jla ((congrArg (fun p=>p) (Option.some.inj hz)).symm),trivial⟩ (Qna))
theorem Zra (p0:List Memory) (p1:List Memory) (r:Bool) (h:Qza p0 p1=some r):Fn Try.prog 25 [sL Qba p0,sL Qba p1,.func 26 []] (.bool r):=by
  unfold Qza at h
  refine fnT 0 Try.func25 Try.ntmps25 ?_
  refine T.seq (T.region (go 1 0 (RS.nil (T.seq (T.seq (T.region (go 1 0 (sQ (Qha Ty.s27 rfl (go 1 0 ?_))))))))))
  refine sQ (Qha Ty.s27 rfl (go 1 0 (RS.nil (T.ci h rfl (fun hb_1 h=>?_) (fun hb_1 h=>?_)))))
  ·refine T.seq (T.region (go 1 0 (RS.nil ?_)))
   cases h
   exact tD
  refine T.skip (T.seq (T.seq (T.region (go 1 0 (sQ (Qha Ty.s27 rfl (go 1 0 (RS.nil (T.block (T.iter (fun ss_6:Int=>mkA 32 [(1,sL Qba p1),(2,.func 26 []),(15,sL Qba p0),(16,iI ((p0).length:Int)),(17,iI ss_6)]) (fun ss_6=>[]) h (wk [] [] 0 rfl) (fun ss_6 v_7 h hv_7=>?_)))))))))))
  revert hv_7 h;revert ss_6;intro s1 h hv_7
  replace h:Qxa p0 p1 s1=some v_7:=h
  try dsimp only
  unfold Qxa at h
  refine T.seq (T.region (go 1 0 (RS.nil (T.seq (T.ci h rfl (fun hb_8 h=>?_) (fun hb_8 h=>?_))))))
  ·refine T.skip (T.seq (T.block (T.seq ?_)))
   obtain ⟨x3,hx3,h⟩:=bind_some h
   refine T.region (go 1 0 (sQ (Qga Ty.s27 (fun _=>rfl) rfl rfl hx3 (go 4 0 (RS.nil (T.seq ?_))))))
   obtain ⟨x5,hx5,h⟩:=bind_some h
   refine T.region (go 2 1 (sQ (Qga Ty.s27 (fun _=>rfl) rfl rfl hx5 (go 3 1 (RS.nil (T.seq ?_))))))
   obtain ⟨x7,hx7,h⟩:=bind_some h
   refine T.region (go 3 2 (sO (cF (crossref_SameMemory_c x3 x5 x7 hx7) ⟨rfl,(go 1 2 (RS.nil (T.ci h rfl (fun hb_9 h=>?_) (fun hb_9 h=>?_))))⟩)))
   ·refine T.seq (T.region (go 1 2 (RS.nil ?_)))
    obtain ⟨w_10,h,hw_10⟩:=Qua h
    replace h:=h.trans (congrArg some (hv_7 _ hw_10))
    cases h
    exact tD
   refine T.skip (T.region (go 2 2 (RS.nil ?_)))
   exact ⟨IntKind.i64.wrap (s1+1),(Option.some.inj h).symm,wk [] [] 2 rfl⟩
  refine T.exit ?_
  obtain ⟨w_11,h,hw_11⟩:=Qua h
  replace h:=h.trans (congrArg some (hv_7 _ hw_11))
  refine T.seq (T.region (go 1 0 (RS.nil ?_)))
  cases h
  exact tD
theorem slices_Equal_Choice_c (p0:List Choice) (p1:List Choice) (r:Bool) (h:Vpa p0 p1=some r):Fn Try.prog 27 [sL Qea p0,sL Qea p1] (.bool r):=by
  unfold Vpa at h
  refine fnT 0 Try.func27 Try.ntmps27 ?_
  refine T.seq (T.region (go 1 0 (RS.nil (T.seq (T.seq (T.region (go 1 0 (sQ (Qha Ty.s28 rfl (go 1 0 ?_))))))))))
  refine sQ (Qha Ty.s28 rfl (go 1 0 (RS.nil (T.ci h rfl (fun hb_1 h=>?_) (fun hb_1 h=>?_)))))
  ·refine T.seq (T.region (go 1 0 (RS.nil ?_)))
   cases h
   exact tD
  refine T.skip (T.seq (T.seq (T.region (go 1 0 (sQ (Qha Ty.s28 rfl (go 1 0 (RS.nil (T.block (T.iter (fun ss_6:Int=>mkA 26 [(0,sL Qea p0),(1,sL Qea p1),(12,iI ((p0).length:Int)),(13,iI ss_6)]) (fun ss_6=>[]) h (wk [] [] 0 rfl) (fun ss_6 v_7 h hv_7=>?_)))))))))))
  revert hv_7 h;revert ss_6;intro s1 h hv_7
  replace h:Z1a p0 p1 s1=some v_7:=h
  try dsimp only
  unfold Z1a at h
  refine T.seq (T.region (go 1 0 (RS.nil (T.seq (T.ci h rfl (fun hb_8 h=>?_) (fun hb_8 h=>?_))))))
  ·refine T.skip (T.seq (T.block (T.seq (T.region (go 2 0 (RS.nil (T.seq ?_)))))))
   obtain ⟨x4,hx4,h⟩:=bind_some h
   obtain ⟨x5,hx5,h⟩:=bind_some h
   refine T.drawn mixed (k:=9) rfl (rq [0,1] 7 (r0 2 rfl (Qga Ty.s28 (fun _=>rfl) rfl rfl hx4 (rq [4,5] 4 (r0 6 rfl (Qga Ty.s28 (fun _=>rfl) rfl rfl hx5 (rL [3,8] 3 rfl (ra1 7 (og 0 ⟨rfl,(r0 8 rfl (v_gneq (cs:=[iI x4.Node,iI x4.Lane]) (ds:=[iI x5.Node,iI x5.Lane]) (r:=x4==x5) Ty.q67 rfl rfl rfl rfl (encChoice_eq x4 x5) (RA.done (by decide +kernel) ?_)))⟩)))))))))
   refine T.ci h rfl (fun hb_9 h=>?_) (fun hb_9 h=>?_)
   ·refine T.seq (T.region (go 1 0 (RS.nil ?_)))
    obtain ⟨w_10,h,hw_10⟩:=Qua h
    replace h:=h.trans (congrArg some (hv_7 _ hw_10))
    cases h
    exact tD
   refine T.skip (T.region (go 2 0 (RS.nil ?_)))
   exact ⟨IntKind.i64.wrap (s1+1),(Option.some.inj h).symm,wk [] [] 0 rfl⟩
  refine T.exit ?_
  obtain ⟨w_11,h,hw_11⟩:=Qua h
  replace h:=h.trans (congrArg some (hv_7 _ hw_11))
  refine T.seq (T.region (go 1 0 (RS.nil ?_)))
  cases h
  exact tD
theorem crossref_SameState_c (p0:State) (p1:State) (r:Bool) (h:V4a p0 p1=some r):Fn Try.prog 7 [.agg (Qra p0),.agg (Qra p1)] (.bool r):=by
  unfold V4a at h
  refine fnT 0 Try.func7 Try.ntmps7 ?_
  refine T.seq (T.region (go 3 0 (RS.nil ?_)))
  obtain ⟨x1,hx1,h⟩:=bind_some h
  obtain ⟨zt_5,hz,h⟩:=bind_some h
  revert hz h;revert zt_5;intro c6 hz h
  refine T.join (Z:=Unit) (fun _=>mkA 38 [(4,.bool c6)]) (fun _=>[]) (fun _=>True) (fun _ _=>?_) (fun hK=>?_)
  ·cases h
   exact tD
  refine T.region (go 4 2 (sO (cF (slices_Equal_int_c p0.At p1.At x1 hx1) ⟨rfl,(go 1 2 ?_)⟩)))
  rcases Qca x1 with hb_1 | hb_1
  ·replace hz:=ite_T hz hb_1
   obtain ⟨x2,hx2,hz⟩:=bind_some hz
   refine yg 2 hb_1 (yg 2 hb_1 (yg 2 hb_1 (yg 2 hb_1 (yO hb_1 (cF (Z2a p0.Rings p1.Rings x2 hx2) ⟨rfl,(sQ (Qfa (v:=.bool x2) rfl hb_1 rfl (go 1 2 ?_)))⟩)))))
   rcases Qca x2 with hb_2 | hb_2
   ·replace hz:=ite_T hz hb_2
    obtain ⟨x3,hx3,hz⟩:=bind_some hz
    refine yg 2 hb_2 (yg 2 hb_2 (yg 2 hb_2 (yg 2 hb_2 (yO hb_2 (cF (Zra p0.Memory p1.Memory x3 hx3) ⟨rfl,(sQ (Qfa (v:=.bool x3) rfl hb_2 rfl (go 1 2 ?_)))⟩)))))
    rcases Qca x3 with hb_3 | hb_3
    ·replace hz:=ite_T hz hb_3
     obtain ⟨x4,hx4,hz⟩:=bind_some hz
     refine yg 2 hb_3 (yg 2 hb_3 (yg 2 hb_3 (yg 2 hb_3 (yO hb_3 (cF (slices_Equal_Choice_c p0.Choices p1.Choices x4 hx4) ⟨rfl,(sQ (Qfa (v:=.bool x4) rfl hb_3 rfl (go 1 2 ?_)))⟩)))))
     rcases Qca x4 with hb_4 | hb_4
     ·replace hz:=ite_T hz hb_4
      obtain ⟨x5,hx5,hz⟩:=bind_some hz
      refine yg 2 hb_4 (yg 2 hb_4 (yg 2 hb_4 (yg 2 hb_4 (yO hb_4 (cF (crossref_SameItems_c p0.Out p1.Out x5 hx5) ⟨rfl,(sQ (Qfa (v:=.bool x5) rfl hb_4 rfl (go 1 2 (RS.nil ?_))))⟩)))))
      exact T.weakR (hK () trivial) (Weak.mkN [] [] (by decide) (Qpa _) rfl ⟨Jla ((congrArg (fun p=>p) (Option.some.inj hz)).symm),trivial⟩ (Qna))
     replace hz:=ite_F hz hb_4
     refine sN hb_4 (sN hb_4 (sN hb_4 (sN hb_4 (sN hb_4 (sQ (Qda (v:=.bool false) rfl hb_4 rfl (go 1 2 (RS.nil ?_))))))))
     exact T.weakR (hK () trivial) (Weak.mkN [] [] (by decide) (Qpa _) rfl ⟨Jla ((congrArg (fun p=>p) (Option.some.inj hz)).symm),trivial⟩ (Qna))
    replace hz:=ite_F hz hb_3
    refine sN hb_3 (sN hb_3 (sN hb_3 (sN hb_3 (sN hb_3 (sQ (Qda (v:=.bool false) rfl hb_3 rfl (go 1 2 (sN rfl (sN rfl (sN rfl ?_))))))))))
    refine sN rfl (sN rfl (sQ (Qda (v:=.bool false) rfl rfl rfl (go 1 2 (RS.nil ?_)))))
    exact T.weakR (hK () trivial) (Weak.mkN [] [] (by decide) (Qpa _) rfl ⟨Jla ((congrArg (fun p=>p) (Option.some.inj hz)).symm),trivial⟩ (Qna))
   replace hz:=ite_F hz hb_2
   refine sN hb_2 (sN hb_2 (sN hb_2 (sN hb_2 (sN hb_2 (sQ (Qda (v:=.bool false) rfl hb_2 rfl (go 1 2 (sN rfl (sN rfl (sN rfl ?_))))))))))
   refine sN rfl (sN rfl (sQ (Qda (v:=.bool false) rfl rfl rfl (go 1 2 (sN rfl (sN rfl (sN rfl (sN rfl (sN rfl (sQ (Qda (v:=.bool false) rfl rfl rfl ?_)))))))))))
   refine go 1 2 (RS.nil ?_)
   exact T.weakR (hK () trivial) (Weak.mkN [] [] (by decide) (Qpa _) rfl ⟨Jla ((congrArg (fun p=>p) (Option.some.inj hz)).symm),trivial⟩ (Qna))
  replace hz:=ite_F hz hb_1
  refine sN hb_1 (sN hb_1 (sN hb_1 (sN hb_1 (sN hb_1 (sQ (Qda (v:=.bool false) rfl hb_1 rfl (go 1 2 (sN rfl (sN rfl (sN rfl ?_))))))))))
  refine sN rfl (sN rfl (sQ (Qda (v:=.bool false) rfl rfl rfl (go 1 2 (sN rfl (sN rfl (sN rfl (sN rfl (sN rfl (sQ (Qda (v:=.bool false) rfl rfl rfl ?_)))))))))))
  refine go 1 2 (sN rfl (sN rfl (sN rfl (sN rfl (sN rfl (sQ (Qda (v:=.bool false) rfl rfl rfl (go 1 2 (RS.nil ?_)))))))))
  exact T.weakR (hK () trivial) (Weak.mkN [] [] (by decide) (Qpa _) rfl ⟨Jla ((congrArg (fun p=>p) (Option.some.inj hz)).symm),trivial⟩ (Qna))
theorem crosslaw_saved_c (r:Bool) (h:Ysa=some r):Fn Try.prog 6 [] (.bool r):=by
  unfold Ysa at h
  refine fnT 0 Try.func6 Try.ntmps6 ?_
  refine T.seq (T.region (go 1 0 (RS.nil (T.seq ?_))))
  obtain ⟨x6,hx6,h⟩:=bind_some h
  obtain ⟨x7,hx7,h⟩:=bind_some h
  obtain ⟨x10,hx10,h⟩:=bind_some h
  refine T.region (sO (cD (Ywa x6 hx6) ⟨rfl,(sO (cQ 0 (crosslaw_two_c x7 hx7) ⟨rfl,(sO (Qya (rows:=List.map encI [0,0,0]) (vs:=[iI 0,iI 0,iI 0]) Ty.s26 Ty.z3 rfl rfl rfl rfl rfl rfl (RS.fC 0 (RS.fC 1 (sO (cD (move_Play_c x6 x7 ([0,0,0]:List Int) x10 hx10) ⟨rfl,(go 6 2 (RS.nil (T.seq ?_)))⟩))))))⟩))⟩))
  obtain ⟨x14,hx14,h⟩:=bind_some h
  obtain ⟨x15,hx15,h⟩:=bind_some h
  obtain ⟨x16,hx16,h⟩:=bind_some h
  refine T.drawn mixed (k:=9) rfl ?_
  apply RA.jn 6 #[true,true,true,false,false,false,false,false,false];intro hS1
  apply RA.jn 7 #[true,false,true,false,false,false,false,false,false];intro hS2
  ·refine ra2 0 2 ?_ ?_
   ·refine oO rfl (cD (Ywa x14 hx14) ⟨rfl,(ra2 1 2 ?_ ?_)⟩)
    ·refine oO rfl (cQ 3 (crosslaw_two_c x15 hx15) ⟨rfl,(ra1 2 (og 4 ⟨rfl,?_⟩))⟩)
     exact raE hS1
    ·refine og 3 ⟨rfl,?_⟩
     exact raE hS2
   ·refine og 3 ⟨rfl,(ra1 0 (oO rfl (cD (Ywa x14 hx14) ⟨rfl,?_⟩)))⟩
    exact raT hS2
  ·refine ra1 1 (oO rfl (cQ 3 (crosslaw_two_c x15 hx15) ⟨rfl,?_⟩))
   exact raT hS1
  refine ra1 3 (oO rfl (cF (save_Bytes_c x14 x15 x10.1 x16 hx16) ⟨rfl,(rq [4,5,6,7,8] 0 (RA.done (by decide +kernel) (T.seq ?_)))⟩))
  obtain ⟨x21,hx21,h⟩:=bind_some h
  obtain ⟨x22,hx22,h⟩:=bind_some h
  obtain ⟨x24,hx24,h⟩:=bind_some h
  refine T.region (sO (cD (Ywa x21 hx21) ⟨rfl,(sO (cQ 4 (crosslaw_two_c x22 hx22) ⟨rfl,(go 1 5 (RS.fC 4 (sO (cD (save_Of_c x21 x22 x16.1 x24 hx24) ⟨rfl,(go 6 5 (RS.nil (T.seq ?_)))⟩))))⟩))⟩))
  obtain ⟨x26,hx26,h⟩:=bind_some h
  refine T.region (go 1 6 (sO (cD (save_Put_c (⟨[],[]⟩:Disk) (1:Int) (7:Int) ([97,98,99]:List UInt8) x26 hx26) ⟨rfl,(go 6 6 (RS.nil (T.seq ?_)))⟩)))
  obtain ⟨x28,hx28,h⟩:=bind_some h
  refine T.region (go 1 7 (sO (cD (disk_Flush_c x26.1 x28 hx28) ⟨rfl,(go 5 7 (RS.nil (T.seq ?_)))⟩)))
  obtain ⟨x30,hx30,h⟩:=bind_some h
  refine T.region (go 1 7 (sO (cF (save_Get_c x28.1 (1:Int) x30 hx30) ⟨rfl,(go 7 7 (RS.nil ?_))⟩)))
  obtain ⟨zt_12,hz,h⟩:=bind_some h
  revert hz h;revert zt_12;intro c32 hz h
  refine T.join (Z:=Unit) (fun _=>mkA 91 [(0,.bool c32)]) (fun _=>[]) (fun _=>True) (fun _ _=>?_) (fun hK=>?_)
  ·cases h
   exact tD
  refine T.region (go 3 7 ?_)
  rcases Qca (x16.2==0) with hb_3 | hb_3
  ·replace hz:=ite_T hz hb_3
   refine yg 7 hb_3 (yg 7 hb_3 (sQ (Qfa (v:=.bool (x24.2==0)) rfl hb_3 rfl (go 1 7 ?_))))
   rcases Qca (x24.2==0) with hb_4 | hb_4
   ·replace hz:=ite_T hz hb_4
    refine yg 7 hb_4 (yg 7 hb_4 (sQ (Qfa (v:=.bool (x26.2==0)) rfl hb_4 rfl (go 1 7 ?_))))
    rcases Qca (x26.2==0) with hb_5 | hb_5
    ·replace hz:=ite_T hz hb_5
     refine yg 7 hb_5 (yg 7 hb_5 (sQ (Qfa (v:=.bool (x28.2==0)) rfl hb_5 rfl (go 1 7 ?_))))
     rcases Qca (x28.2==0) with hb_6 | hb_6
     ·replace hz:=ite_T hz hb_6
      refine yg 7 hb_6 (yg 7 hb_6 (sQ (Qfa (v:=.bool (x30.2.2==0)) rfl hb_6 rfl (go 1 7 ?_))))
      rcases Qca (x30.2.2==0) with hb_7 | hb_7
      ·replace hz:=ite_T hz hb_7
       refine yg 7 hb_7 (yg 7 hb_7 (sQ (Qfa (v:=.bool (!(x16.1==[]))) rfl hb_7 rfl (go 1 7 ?_))))
       rcases Qca (!(x16.1==[])) with hb_8 | hb_8
       ·replace hz:=ite_T hz hb_8
        obtain ⟨x31,hx31,hz⟩:=bind_some hz
        refine yg 7 hb_8 (yg 7 hb_8 (yO hb_8 (cF (crossref_SameState_c x10.1 x24.1 x31 hx31) ⟨rfl,(sQ (Qfa (v:=.bool x31) rfl hb_8 rfl (go 1 7 ?_)))⟩)))
        rcases Qca x31 with hb_9 | hb_9
        ·replace hz:=ite_T hz hb_9
         refine yg 7 hb_9 (yg 7 hb_9 (yQ hb_9 (Qha Ty.s28 rfl (yg 7 hb_9 (sQ (Qfa (v:=.bool (((x10.1.Choices).length:Int)==1)) rfl hb_9 rfl (go 1 7 ?_)))))))
         rcases Qca (((x10.1.Choices).length:Int)==1) with hb_10 | hb_10
         ·replace hz:=ite_T hz hb_10
          refine yg 7 hb_10 (yg 7 hb_10 (sQ (Qfa (v:=.bool (x30.1==[97,98,99])) rfl hb_10 rfl (go 1 7 ?_))))
          rcases Qca (x30.1==[97,98,99]) with hb_11 | hb_11
          ·replace hz:=ite_T hz hb_11
           refine yg 7 hb_11 (yg 7 hb_11 (sQ (Qfa (v:=.bool (x30.2.1==7)) rfl hb_11 rfl (go 1 7 (RS.nil ?_)))))
           exact T.weakR (hK () trivial) (Weak.mkN [] [] (by decide) (Qpa _) rfl ⟨Jla ((congrArg (fun p=>p) (Option.some.inj hz)).symm),trivial⟩ (Qna))
          replace hz:=ite_F hz hb_11
          refine sN hb_11 (sN hb_11 (sQ (Qda (v:=.bool false) rfl hb_11 rfl (go 1 7 (RS.nil ?_)))))
          exact T.weakR (hK () trivial) (Weak.mkN [] [] (by decide) (Qpa _) rfl ⟨Jla ((congrArg (fun p=>p) (Option.some.inj hz)).symm),trivial⟩ (Qna))
         replace hz:=ite_F hz hb_10
         refine sN hb_10 (sN hb_10 (sQ (Qda (v:=.bool false) rfl hb_10 rfl (go 1 7 (sN rfl (sN rfl (sQ (Qda (v:=.bool false) rfl rfl rfl (go 1 7 (RS.nil ?_))))))))))
         exact T.weakR (hK () trivial) (Weak.mkN [] [] (by decide) (Qpa _) rfl ⟨Jla ((congrArg (fun p=>p) (Option.some.inj hz)).symm),trivial⟩ (Qna))
        replace hz:=ite_F hz hb_9
        refine sN hb_9 (sN hb_9 (sN hb_9 (sN hb_9 (sQ (Qda (v:=.bool false) rfl hb_9 rfl (go 1 7 (sN rfl (sN rfl (sQ (Qda (v:=.bool false) rfl rfl rfl (go 1 7 ?_)))))))))))
        refine sN rfl (sN rfl (sQ (Qda (v:=.bool false) rfl rfl rfl (go 1 7 (RS.nil ?_)))))
        exact T.weakR (hK () trivial) (Weak.mkN [] [] (by decide) (Qpa _) rfl ⟨Jla ((congrArg (fun p=>p) (Option.some.inj hz)).symm),trivial⟩ (Qna))
       replace hz:=ite_F hz hb_8
       refine sN hb_8 (sN hb_8 (sN hb_8 (sQ (Qda (v:=.bool false) rfl hb_8 rfl (go 1 7 (sN rfl (sN rfl (sN rfl (sN rfl (sQ (Qda (v:=.bool false) rfl rfl rfl ?_)))))))))))
       refine go 1 7 (sN rfl (sN rfl (sQ (Qda (v:=.bool false) rfl rfl rfl (go 1 7 (sN rfl (sN rfl (sQ (Qda (v:=.bool false) rfl rfl rfl (go 1 7 (RS.nil ?_)))))))))))
       exact T.weakR (hK () trivial) (Weak.mkN [] [] (by decide) (Qpa _) rfl ⟨Jla ((congrArg (fun p=>p) (Option.some.inj hz)).symm),trivial⟩ (Qna))
      replace hz:=ite_F hz hb_7
      refine sN hb_7 (sN hb_7 (sQ (Qda (v:=.bool false) rfl hb_7 rfl (go 1 7 (sN rfl (sN rfl (sN rfl (sQ (Qda (v:=.bool false) rfl rfl rfl (go 1 7 (sN rfl ?_)))))))))))
      refine sN rfl (sN rfl (sN rfl (sQ (Qda (v:=.bool false) rfl rfl rfl (go 1 7 (sN rfl (sN rfl (sQ (Qda (v:=.bool false) rfl rfl rfl (go 1 7 (sN rfl ?_)))))))))))
      refine sN rfl (sQ (Qda (v:=.bool false) rfl rfl rfl (go 1 7 (RS.nil ?_))))
      exact T.weakR (hK () trivial) (Weak.mkN [] [] (by decide) (Qpa _) rfl ⟨Jla ((congrArg (fun p=>p) (Option.some.inj hz)).symm),trivial⟩ (Qna))
     replace hz:=ite_F hz hb_6
     refine sN hb_6 (sN hb_6 (sQ (Qda (v:=.bool false) rfl hb_6 rfl (go 1 7 (sN rfl (sN rfl (sQ (Qda (v:=.bool false) rfl rfl rfl (go 1 7 (sN rfl (sN rfl ?_)))))))))))
     refine sN rfl (sQ (Qda (v:=.bool false) rfl rfl rfl (go 1 7 (sN rfl (sN rfl (sN rfl (sN rfl (sQ (Qda (v:=.bool false) rfl rfl rfl (go 1 7 (sN rfl ?_)))))))))))
     refine sN rfl (sQ (Qda (v:=.bool false) rfl rfl rfl (go 1 7 (sN rfl (sN rfl (sQ (Qda (v:=.bool false) rfl rfl rfl (go 1 7 (RS.nil ?_)))))))))
     exact T.weakR (hK () trivial) (Weak.mkN [] [] (by decide) (Qpa _) rfl ⟨Jla ((congrArg (fun p=>p) (Option.some.inj hz)).symm),trivial⟩ (Qna))
    replace hz:=ite_F hz hb_5
    refine sN hb_5 (sN hb_5 (sQ (Qda (v:=.bool false) rfl hb_5 rfl (go 1 7 (sN rfl (sN rfl (sQ (Qda (v:=.bool false) rfl rfl rfl (go 1 7 (sN rfl (sN rfl ?_)))))))))))
    refine sQ (Qda (v:=.bool false) rfl rfl rfl (go 1 7 (sN rfl (sN rfl (sN rfl (sQ (Qda (v:=.bool false) rfl rfl rfl (go 1 7 (sN rfl (sN rfl (sN rfl ?_)))))))))))
    refine sN rfl (sQ (Qda (v:=.bool false) rfl rfl rfl (go 1 7 (sN rfl (sN rfl (sQ (Qda (v:=.bool false) rfl rfl rfl (go 1 7 (sN rfl (sN rfl (sQ (Qda (v:=.bool false) rfl rfl rfl ?_))))))))))))
    refine go 1 7 (RS.nil ?_)
    exact T.weakR (hK () trivial) (Weak.mkN [] [] (by decide) (Qpa _) rfl ⟨Jla ((congrArg (fun p=>p) (Option.some.inj hz)).symm),trivial⟩ (Qna))
   replace hz:=ite_F hz hb_4
   refine sN hb_4 (sN hb_4 (sQ (Qda (v:=.bool false) rfl hb_4 rfl (go 1 7 (sN rfl (sN rfl (sQ (Qda (v:=.bool false) rfl rfl rfl (go 1 7 (sN rfl (sN rfl ?_)))))))))))
   refine sQ (Qda (v:=.bool false) rfl rfl rfl (go 1 7 (sN rfl (sN rfl (sQ (Qda (v:=.bool false) rfl rfl rfl (go 1 7 (sN rfl (sN rfl (sN rfl (sQ (Qda (v:=.bool false) rfl rfl rfl ?_))))))))))))
   refine go 1 7 (sN rfl (sN rfl (sN rfl (sN rfl (sQ (Qda (v:=.bool false) rfl rfl rfl (go 1 7 (sN rfl (sN rfl (sQ (Qda (v:=.bool false) rfl rfl rfl ?_)))))))))))
   refine go 1 7 (sN rfl (sN rfl (sQ (Qda (v:=.bool false) rfl rfl rfl (go 1 7 (RS.nil ?_))))))
   exact T.weakR (hK () trivial) (Weak.mkN [] [] (by decide) (Qpa _) rfl ⟨Jla ((congrArg (fun p=>p) (Option.some.inj hz)).symm),trivial⟩ (Qna))
  replace hz:=ite_F hz hb_3
  refine sN hb_3 (sN hb_3 (sQ (Qda (v:=.bool false) rfl hb_3 rfl (go 1 7 (sN rfl (sN rfl (sQ (Qda (v:=.bool false) rfl rfl rfl (go 1 7 (sN rfl (sN rfl ?_)))))))))))
  refine sQ (Qda (v:=.bool false) rfl rfl rfl (go 1 7 (sN rfl (sN rfl (sQ (Qda (v:=.bool false) rfl rfl rfl (go 1 7 (sN rfl (sN rfl (sQ (Qda (v:=.bool false) rfl rfl rfl (go 1 7 ?_))))))))))))
  refine sN rfl (sN rfl (sN rfl (sQ (Qda (v:=.bool false) rfl rfl rfl (go 1 7 (sN rfl (sN rfl (sN rfl (sN rfl (sQ (Qda (v:=.bool false) rfl rfl rfl ?_)))))))))))
  refine go 1 7 (sN rfl (sN rfl (sQ (Qda (v:=.bool false) rfl rfl rfl (go 1 7 (sN rfl (sN rfl (sQ (Qda (v:=.bool false) rfl rfl rfl (go 1 7 (RS.nil ?_)))))))))))
  exact T.weakR (hK () trivial) (Weak.mkN [] [] (by decide) (Qpa _) rfl ⟨Jla ((congrArg (fun p=>p) (Option.some.inj hz)).symm),trivial⟩ (Qna))
theorem disk_Read_c (p0:Disk) (p1:Int) (r:(List UInt8) × Int) (h:disk_Read p0 p1=some r):Fn Try.prog 11 [.agg (Q3a p0),iI p1] (.tup [.str r.1,iI r.2]):=by
  unfold disk_Read at h
  refine fnT 0 Try.func11 Try.ntmps11 ?_
  refine T.seq (T.region (go 3 0 (RS.nil (T.seq (T.seq ?_)))))
  obtain ⟨x2,hx2,h⟩:=bind_some h
  refine T.region (go 1 1 (sO (cF (disk_Check_c p0 x2 hx2) ⟨rfl,(go 1 1 (RS.nil (T.seq (T.region (go 2 1 (RS.nil (T.ci h rfl (fun hb_1 h=>?_) (fun hb_1 h=>?_))))))))⟩)))
  ·refine T.seq (T.region (go 3 1 (RS.nil ?_)))
   cases h
   exact tD
  refine T.skip (T.seq (T.join (Z:=Unit) (fun _=>mkA 46 [(1,iI p1),(2,.ptr 0 0),(20,.bool ((decide (p1<0)) || decide (p1 ≥ 200)))]) (fun _=>[.box (Q3a p0)]) (fun _=>True) (fun _ _=>?_) (fun hK=>?_)))
  ·refine T.ci h rfl (fun hb_3 h=>?_) (fun hb_3 h=>?_)
   ·refine T.seq (T.region (go 2 1 (RS.nil ?_)))
    cases h
    exact tD
   refine T.skip (T.seq (T.region (go 1 1 (RS.nil (T.join (Z:=List UInt8) (fun zz_5=>mkA 46 [(1,iI p1),(2,.ptr 0 0),(7,.str zz_5)]) (fun zz_5=>[.box (Q3a p0)]) (fun zz_5=>Y8a p0 p1 zz_5=some r) (fun zz_5 h=>?_) (fun hK2=>?_))))))
   ·revert h;revert zz_5;intro z5 h
    replace h:Y8a p0 p1 z5=some r:=h
    try dsimp only
    unfold Y8a at h
    refine T.seq (T.seq (T.region (go 2 1 (sQ (Qha Ty.s39 rfl (go 1 1 (RS.nil (T.block (T.iter (fun ss_10:(List UInt8) × Int=>mkA 46 [(1,iI p1),(7,.str ss_10.1),(32,sL Jka p0.Wait),(33,iI ((p0.Wait).length:Int)),(34,iI ss_10.2)]) (fun ss_10=>[]) h (wk [] [] 1 rfl) (fun ss_10 v_11 h hv_11=>?_))))))))))
    obtain ⟨s6,s7⟩:=ss_10
    replace h:Yfa p0 p1 s6 s7=some v_11:=h
    try dsimp only
    unfold Yfa at h
    refine T.seq (T.region (go 1 0 (RS.nil (T.seq (T.ci h rfl (fun hb_12 h=>?_) (fun hb_12 h=>?_))))))
    ·refine T.skip (T.seq (T.block (T.seq ?_)))
     obtain ⟨x9,hx9,h⟩:=bind_some h
     refine T.region (sQ (Qga Ty.s39 (fun _=>rfl) rfl rfl hx9 (go 3 0 (RS.nil (T.seq (T.region (go 4 1 (RS.nil (T.ci h rfl (fun hb_13 h=>?_) (fun hb_13 h=>?_))))))))))
     ·refine T.region (go 3 1 (RS.nil (T.region (go 2 1 (RS.nil ?_)))))
      exact ⟨(x9.Bytes,IntKind.i64.wrap (s7+1)),(Option.some.inj h).symm,wk [] [] 1 rfl⟩
     refine T.skip (T.region (go 2 1 (RS.nil ?_)))
     exact ⟨(s6,IntKind.i64.wrap (s7+1)),(Option.some.inj h).symm,wk [] [] 1 rfl⟩
    refine T.exit ?_
    obtain ⟨w_14,h,hw_14⟩:=Qua h
    replace h:=h.trans (congrArg some (hv_11 _ hw_14))
    refine T.seq (T.region (go 3 0 (RS.nil ?_)))
    cases h
    exact tD
   refine T.seq (T.region (go 3 1 (sQ (Qha Ty.s38 rfl (go 1 1 (RS.nil (T.ci h rfl (fun hb_15 h=>?_) (fun hb_15 h=>?_))))))))
   ·obtain ⟨x4,hx4,h⟩:=bind_some h
    refine T.region (go 3 1 (sQ (Qga Ty.s38 (fun _=>rfl) rfl rfl hx4 (go 2 1 (RS.nil ?_)))))
    exact T.su (hK2 x4 h)
   refine T.skip ?_
   exact T.su (hK2 [] h)
  refine T.region (go 3 1 ?_)
  rcases Qca (decide (p1<0)) with hb_2 | hb_2
  ·refine sN hb_2 (sN hb_2 (sQ (Qfa (v:=.bool true) rfl hb_2 rfl (RS.nil ?_))))
   exact T.sub (hK () trivial) ⟨rfl,rfl,(congrArg AV.bool (by simp only [hb_2,bz,if_true,if_false,Bool.false_eq_true])).symm,trivial⟩
  refine yg 1 hb_2 (yg 1 hb_2 (sQ (Qda (v:=.bool (decide (p1 ≥ 200))) rfl hb_2 rfl (RS.nil ?_))))
  exact T.sub (hK () trivial) ⟨rfl,rfl,(congrArg AV.bool (by simp only [hb_2,bz,if_true,if_false,Bool.false_eq_true])).symm,trivial⟩
theorem crossref_At_c (p0:Int) (p1:Int) (r:Int) (h:crossref_At p0 p1=some r):Fn Try.prog 12 [iI p0,iI p1] (iI r):=by
  unfold crossref_At at h
  refine fnT 0 Try.func12 Try.ntmps12 ?_
  refine T.seq (T.region (go 1 0 (RS.nil (T.seq ?_))))
  obtain ⟨x2,hx2,h⟩:=bind_some h
  refine T.region (go 2 0 (sQ (v_rem rfl rfl hx2 (go 1 0 (RS.nil (T.seq (T.seq (T.region (go 2 0 (RS.nil ?_))))))))))
  refine T.ci h rfl (fun hb_1 h=>?_) (fun hb_1 h=>?_)
  ·refine T.region (go 4 0 (RS.nil (T.seq (T.region (go 2 0 (RS.nil ?_))))))
   cases h
   exact tD
  refine T.skip (T.seq (T.region (go 2 0 (RS.nil ?_))))
  cases h
  exact tD
theorem crosslaw_SaveCut_c (p0:Disk) (p1:Int) (p2:Int) (p3:List UInt8) (p4:Int) (r:Bool) (h:Qwb p0 p1 p2 p3 p4=some r):Fn Try.prog 4 [.agg (Q3a p0),iI p1,iI p2,.str p3,iI p4] (.bool r):=by
  unfold Qwb at h
  refine fnT 0 Try.func4 Try.ntmps4 ?_
  refine T.seq (T.region (go 2 0 (RS.nil (T.seq ?_))))
  obtain ⟨x2,hx2,h⟩:=bind_some h
  refine T.region (go 1 1 (sO (cD (disk_Flush_c p0 x2 hx2) ⟨rfl,(go 6 1 (RS.nil (T.seq ?_)))⟩)))
  obtain ⟨x4,hx4,h⟩:=bind_some h
  refine T.region (go 4 2 (sO (cD (save_Put_c x2.1 p1 p2 p3 x4 hx4) ⟨rfl,(go 6 2 (RS.nil (T.seq ?_)))⟩)))
  obtain ⟨x5,hx5,h⟩:=bind_some h
  refine T.join (Z:=Unit) (fun _=>mkA 189 [(1,iI p1),(2,iI p2),(3,.str p3),(4,iI p4),(11,.ptr 0 0),(13,.ptr 1 0),(51,.bool ((!x5) || ((x2.2 != 0) || x4.2 != 0)))]) (fun _=>[.box (Q3a x2.1),.box (Q3a x4.1)]) (fun _=>True) (fun _ _=>?_) (fun hK=>?_)
  ·refine T.ci h rfl (fun hb_3 h=>?_) (fun hb_3 h=>?_)
   ·refine T.seq ?_
    obtain ⟨x8,hx8,h⟩:=bind_some h
    refine T.region (sO (cF (crosslaw_saved_c x8 hx8) ⟨rfl,(go 1 2 (RS.nil ?_))⟩))
    cases h
    exact tD
   refine T.skip (T.seq ?_)
   obtain ⟨x10,hx10,h⟩:=bind_some h
   refine T.region (go 2 2 (sO (cF (save_Get_c x2.1 p1 x10 hx10) ⟨rfl,(go 7 2 (RS.nil (T.seq ?_)))⟩)))
   obtain ⟨x12,hx12,h⟩:=bind_some h
   refine T.region (go 3 2 (sO (cF (disk_Read_c x2.1 (IntKind.i64.wrap (60*p1)) x12 hx12) ⟨rfl,(go 5 2 (RS.nil (T.seq (T.seq (T.region (go 2 2 (RS.nil ?_)))))))⟩)))
   refine T.ci h rfl (fun hb_4 h=>?_) (fun hb_4 h=>?_)
   ·refine T.seq (T.region (go 1 2 (RS.nil ?_)))
    cases h
    exact tD
   refine T.skip (T.seq (T.join (Z:=Unit) (fun _=>mkA 189 [(1,iI p1),(2,iI p2),(3,.str p3),(4,iI p4),(11,.ptr 0 0),(13,.ptr 1 0),(15,.str x10.1),(16,iI x10.2.1),(17,iI x10.2.2),(83,.bool (if (x10.2.2==0)=true then ((x10.2.1==p2) || ((x10.2.2 != 0) && !(x12.1==[]))) else ((x10.2.2 != 0) && !(x12.1==[]))))]) (fun _=>[.box (Q3a x2.1),.box (Q3a x4.1)]) (fun _=>True) (fun _ _=>?_) (fun hK=>?_)))
   ·refine T.ci h rfl (fun hb_9 h=>?_) (fun hb_9 h=>?_)
    ·refine T.seq (T.region (go 1 2 (RS.nil ?_)))
     cases h
     exact tD
    refine T.skip (T.seq ?_)
    obtain ⟨x15,hx15,h⟩:=bind_some h
    refine T.region (go 3 2 (sQ (Qha Ty.s39 rfl (go 1 2 (sO (cF (crossref_At_c p4 (IntKind.i64.wrap (((x4.1.Wait).length:Int)+1)) x15 hx15) ⟨rfl,(go 1 2 (RS.nil (T.seq ?_)))⟩))))))
    obtain ⟨x17,hx17,h⟩:=bind_some h
    refine T.region (go 2 2 (sO (cD (disk_Cut_c x4.1 x15 x17 hx17) ⟨rfl,(go 6 2 (RS.nil (T.seq ?_)))⟩)))
    obtain ⟨x19,hx19,h⟩:=bind_some h
    refine T.region (go 2 3 (sO (cF (save_Get_c x17.1 p1 x19 hx19) ⟨rfl,(go 7 3 (RS.nil (T.seq (T.join (Z:=Unit) (fun _=>mkA 189 [(1,iI p1),(2,iI p2),(3,.str p3),(4,iI x15),(11,.ptr 0 0),(13,.ptr 1 0),(14,iI x19.2.2),(15,.str x10.1),(16,iI x10.2.1),(17,iI x10.2.2),(20,.ptr 2 0),(21,.str x19.1),(22,iI x19.2.1),(112,.bool ((x17.2 != 0) || ((x19.2.2 != 0) && x19.2.2 != 12)))]) (fun _=>[.box (Q3a x2.1),.box (Q3a x4.1),.box (Q3a x17.1)]) (fun _=>True) (fun _ _=>?_) (fun hK=>?_)))))⟩)))
    ·refine T.ci h rfl (fun hb_12 h=>?_) (fun hb_12 h=>?_)
     ·refine T.seq (T.region (go 1 3 (RS.nil ?_)))
      cases h
      exact tD
     refine T.skip (T.seq (T.join (Z:=Unit) (fun _=>mkA 189 [(1,iI p1),(2,iI p2),(3,.str p3),(11,.ptr 0 0),(14,iI x19.2.2),(15,.str x10.1),(16,iI x10.2.1),(17,iI x10.2.2),(20,.ptr 1 0),(21,.str x19.1),(22,iI x19.2.1),(131,.bool ((x15==((x4.1.Wait).length:Int)) && ((x19.2.2 != 0) || ((!(x19.1==p3)) || x19.2.1 != p2))))]) (fun _=>[.box (Q3a x2.1),.box (Q3a x17.1)]) (fun _=>True) (fun _ _=>?_) (fun hK=>?_)))
     ·refine T.ci h rfl (fun hb_16 h=>?_) (fun hb_16 h=>?_)
      ·refine T.seq (T.region (go 1 2 (RS.nil ?_)))
       cases h
       exact tD
      refine T.skip (T.seq (T.join (Z:=Unit) (fun _=>mkA 189 [(1,iI p1),(11,.ptr 0 0),(20,.ptr 1 0),(159,.bool ((x19.2.2==0) && (if (x19.1==p3)=true then ((!(x19.2.1==p2)) && (!(x10.2.2==0) || (!(x19.1==x10.1) || !(x19.2.1==x10.2.1)))) else (!(x10.2.2==0) || (!(x19.1==x10.1) || !(x19.2.1==x10.2.1))))))]) (fun _=>[.box (Q3a x2.1),.box (Q3a x17.1)]) (fun _=>True) (fun _ _=>?_) (fun hK=>?_)))
      ·refine T.ci h rfl (fun hb_24 h=>?_) (fun hb_24 h=>?_)
       ·refine T.seq (T.region (go 1 2 (RS.nil ?_)))
        cases h
        exact tD
       refine T.skip (T.seq ?_)
       obtain ⟨x24,hx24,h⟩:=bind_some h
       refine T.region (go 3 2 (sO (cF (save_Get_c x2.1 (IntKind.i64.wrap (1 - p1)) x24 hx24) ⟨rfl,(go 7 2 (RS.nil (T.seq ?_)))⟩)))
       obtain ⟨x26,hx26,h⟩:=bind_some h
       refine T.region (go 3 2 (sO (cF (save_Get_c x17.1 (IntKind.i64.wrap (1 - p1)) x26 hx26) ⟨rfl,(go 7 2 (RS.nil (T.join (Z:=Unit) (fun _=>mkA 189 [(10,.bool ((x24.2.2==x26.2.2) && ((x24.1==x26.1) && x24.2.1==x26.2.1)))]) (fun _=>[]) (fun _=>True) (fun _ _=>?_) (fun hK=>?_))))⟩)))
       ·cases h
        exact tD
       refine T.region (go 4 2 ?_)
       rcases Qca (x24.2.2==x26.2.2) with hb_25 | hb_25
       ·refine yg 2 hb_25 (yg 2 hb_25 (yg 2 hb_25 (sQ (Qfa (v:=.bool (x24.1==x26.1)) rfl hb_25 rfl (go 1 2 ?_)))))
        rcases Qca (x24.1==x26.1) with hb_26 | hb_26
        ·refine yg 2 hb_26 (yg 2 hb_26 (yg 2 hb_26 (sQ (Qfa (v:=.bool (x24.2.1==x26.2.1)) rfl hb_26 rfl (go 1 2 (RS.nil ?_))))))
         exact T.weakR (hK () trivial) (Weak.mkN [] [] (by decide) (Qpa _) rfl ⟨Jla (by simp only [hb_25,hb_26,bz,if_true,if_false,Bool.false_eq_true]),trivial⟩ (Qna))
        refine sN hb_26 (sN hb_26 (sN hb_26 (sQ (Qda (v:=.bool false) rfl hb_26 rfl (go 1 2 (RS.nil ?_))))))
        exact T.weakR (hK () trivial) (Weak.mkN [] [] (by decide) (Qpa _) rfl ⟨Jla (by simp only [hb_25,hb_26,bz,if_true,if_false,Bool.false_eq_true]),trivial⟩ (Qna))
       refine sN hb_25 (sN hb_25 (sN hb_25 (sQ (Qda (v:=.bool false) rfl hb_25 rfl (go 1 2 (sN rfl (sN rfl (sN rfl (sQ (Qda (v:=.bool false) rfl rfl rfl (go 1 2 ?_)))))))))))
       refine RS.nil ?_
       exact T.weakR (hK () trivial) (Weak.mkN [] [] (by decide) (Qpa _) rfl ⟨Jla (by simp only [hb_25,bz,if_true,if_false,Bool.false_eq_true]),trivial⟩ (Qna))
      refine T.region (go 3 2 ?_)
      rcases Qca (x19.2.2==0) with hb_17 | hb_17
      ·refine yg 2 hb_17 (yg 2 hb_17 (yg 2 hb_17 (yg 2 hb_17 ?_)))
       rcases Qca (x19.1==p3) with hb_18 | hb_18
       ·refine yg 2 hb_18 (yg 2 hb_18 (yg 2 hb_18 (yQ hb_17 (Qfa (v:=.bool (x19.2.1==p2)) rfl hb_18 rfl (yg 2 hb_17 (sQ (Qfa (v:=.bool (!(x19.2.1==p2))) rfl hb_17 rfl (go 1 2 ?_))))))))
        rcases Qca (!(x19.2.1==p2)) with hb_19 | hb_19
        ·refine yg 2 hb_19 (yg 2 hb_19 (yg 2 hb_19 ?_))
         rcases Qca (x10.2.2==0) with hb_20 | hb_20
         ·refine yg 2 hb_20 (yg 2 hb_20 (yg 2 hb_20 (yQ hb_19 (Qfa (v:=.bool (x19.1==x10.1)) rfl hb_20 rfl (yg 2 hb_19 ?_)))))
          rcases Qca (x19.1==x10.1) with hb_21 | hb_21
          ·refine yg 2 hb_21 (yg 2 hb_21 (yg 2 hb_21 (yQ hb_19 (Qfa (v:=.bool (x19.2.1==x10.2.1)) rfl hb_21 rfl (yg 2 hb_19 (sQ (Qfa (v:=.bool (!(x19.2.1==x10.2.1))) rfl hb_19 rfl (RS.nil ?_))))))))
           exact T.sub (hK () trivial) ⟨rfl,rfl,rfl,(congrArg AV.bool (by simp only [hb_17,hb_18,hb_19,hb_20,hb_21,bz,if_true,if_false,Bool.false_eq_true])).symm,trivial⟩
          refine sN hb_21 (sN hb_21 (sN hb_21 (yQ hb_19 (Qda (v:=.bool false) rfl hb_21 rfl (yg 2 hb_19 (sQ (Qfa (v:=.bool true) rfl hb_19 rfl (RS.nil ?_))))))))
          exact T.sub (hK () trivial) ⟨rfl,rfl,rfl,(congrArg AV.bool (by simp only [hb_17,hb_18,hb_19,hb_20,hb_21,bz,if_true,if_false,Bool.false_eq_true])).symm,trivial⟩
         refine sN hb_20 (sN hb_20 (sN hb_20 (yQ hb_19 (Qda (v:=.bool false) rfl hb_20 rfl (yg 2 hb_19 (sN rfl (sN rfl (sN rfl (yQ hb_19 (Qda (v:=.bool false) rfl rfl rfl (yg 2 hb_19 ?_)))))))))))
         refine sQ (Qfa (v:=.bool true) rfl hb_19 rfl (RS.nil ?_))
         exact T.sub (hK () trivial) ⟨rfl,rfl,rfl,(congrArg AV.bool (by simp only [hb_17,hb_18,hb_19,hb_20,bz,if_true,if_false,Bool.false_eq_true])).symm,trivial⟩
        refine sN hb_19 (sN hb_19 (sN hb_19 (sU (sU (sU (sN hb_19 (sN hb_19 (sU (sU ?_)))))))))
        refine sU (sN hb_19 (sN hb_19 (sQ (Qda (v:=.bool false) rfl hb_19 rfl (RS.nil ?_)))))
        exact T.sub (hK () trivial) ⟨rfl,rfl,rfl,(congrArg AV.bool (by simp only [hb_17,hb_18,hb_19,bz,if_true,if_false,Bool.false_eq_true])).symm,trivial⟩
       refine sN hb_18 (sN hb_18 (sN hb_18 (yQ hb_17 (Qda (v:=.bool false) rfl hb_18 rfl (yg 2 hb_17 (sQ (Qfa (v:=.bool true) rfl hb_17 rfl (go 1 2 (yg 2 rfl (yg 2 rfl (yg 2 rfl ?_)))))))))))
       rcases Qca (x10.2.2==0) with hb_22 | hb_22
       ·refine yg 2 hb_22 (yg 2 hb_22 (yg 2 hb_22 (yQ rfl (Qfa (v:=.bool (x19.1==x10.1)) rfl hb_22 rfl (yg 2 rfl ?_)))))
        rcases Qca (x19.1==x10.1) with hb_23 | hb_23
        ·refine yg 2 hb_23 (yg 2 hb_23 (yg 2 hb_23 (yQ rfl (Qfa (v:=.bool (x19.2.1==x10.2.1)) rfl hb_23 rfl (yg 2 rfl (sQ (Qfa (v:=.bool (!(x19.2.1==x10.2.1))) rfl rfl rfl (RS.nil ?_))))))))
         exact T.sub (hK () trivial) ⟨rfl,rfl,rfl,(congrArg AV.bool (by simp only [hb_17,hb_18,hb_22,hb_23,bz,if_true,if_false,Bool.false_eq_true])).symm,trivial⟩
        refine sN hb_23 (sN hb_23 (sN hb_23 (yQ rfl (Qda (v:=.bool false) rfl hb_23 rfl (yg 2 rfl (sQ (Qfa (v:=.bool true) rfl rfl rfl (RS.nil ?_))))))))
        exact T.sub (hK () trivial) ⟨rfl,rfl,rfl,(congrArg AV.bool (by simp only [hb_17,hb_18,hb_22,hb_23,bz,if_true,if_false,Bool.false_eq_true])).symm,trivial⟩
       refine sN hb_22 (sN hb_22 (sN hb_22 (yQ rfl (Qda (v:=.bool false) rfl hb_22 rfl (yg 2 rfl (sN rfl (sN rfl (sN rfl (yQ rfl (Qda (v:=.bool false) rfl rfl rfl (yg 2 rfl ?_)))))))))))
       refine sQ (Qfa (v:=.bool true) rfl rfl rfl (RS.nil ?_))
       exact T.sub (hK () trivial) ⟨rfl,rfl,rfl,(congrArg AV.bool (by simp only [hb_17,hb_18,hb_22,bz,if_true,if_false,Bool.false_eq_true])).symm,trivial⟩
      refine sN hb_17 (sN hb_17 (sN hb_17 (sN hb_17 (sU (sU (sU (sN hb_17 (sN hb_17 (sQ (Qda (v:=.bool false) rfl hb_17 rfl ?_))))))))))
      refine go 1 2 (sN rfl (sN rfl (sN rfl (sU (sU (sU (sN rfl (sN rfl (sU ?_)))))))))
      refine sU (sU (sN rfl (sN rfl (sQ (Qda (v:=.bool false) rfl rfl rfl (RS.nil ?_))))))
      exact T.sub (hK () trivial) ⟨rfl,rfl,rfl,(congrArg AV.bool (by simp only [hb_17,bz,if_true,if_false,Bool.false_eq_true])).symm,trivial⟩
     refine T.region (go 3 3 (sQ (Qha Ty.s39 rfl (go 2 3 ?_))))
     rcases Qca (x15==((x4.1.Wait).length:Int)) with hb_13 | hb_13
     ·refine yg 3 hb_13 (yg 3 hb_13 (yg 3 hb_13 ?_))
      rcases Qca (x19.2.2 != 0) with hb_14 | hb_14
      ·refine sN hb_14 (sN hb_14 (sN hb_14 (yQ hb_13 (Qfa (v:=.bool true) rfl hb_14 rfl (yg 3 hb_13 (sN rfl (sN rfl (sN rfl (yQ hb_13 (Qfa (v:=.bool true) rfl rfl rfl (sQ (Qfa (v:=.bool true) rfl hb_13 rfl ?_))))))))))))
       refine RS.nil ?_
       exact T.weakR (hK () trivial) (Weak.mkN [] [0,2] (by decide) (Qpa _) rfl ⟨Qqa rfl,Qqa rfl,Jua rfl,Qma rfl,Qqa rfl,Jua rfl,Qqa rfl,Qqa rfl,Qma rfl,Jua rfl,Qqa rfl,Jla (by simp only [hb_13,hb_14,bz,if_true,if_false,Bool.false_eq_true]),trivial⟩ (rw_bs (Q3a x2.1) rfl (rw_bs (Q3a x17.1) rfl (Qna))))
      refine yg 3 hb_14 (yg 3 hb_14 (yg 3 hb_14 (yQ hb_13 (Qda (v:=.bool (!(x19.1==p3))) rfl hb_14 rfl (yg 3 hb_13 ?_)))))
      rcases Qca (!(x19.1==p3)) with hb_15 | hb_15
      ·refine sN hb_15 (sN hb_15 (sN hb_15 (yQ hb_13 (Qfa (v:=.bool true) rfl hb_15 rfl (sQ (Qfa (v:=.bool true) rfl hb_13 rfl (RS.nil ?_)))))))
       exact T.weakR (hK () trivial) (Weak.mkN [] [0,2] (by decide) (Qpa _) rfl ⟨Qqa rfl,Qqa rfl,Jua rfl,Qma rfl,Qqa rfl,Jua rfl,Qqa rfl,Qqa rfl,Qma rfl,Jua rfl,Qqa rfl,Jla (by simp only [hb_13,hb_14,hb_15,bz,if_true,if_false,Bool.false_eq_true]),trivial⟩ (rw_bs (Q3a x2.1) rfl (rw_bs (Q3a x17.1) rfl (Qna))))
      refine yg 3 hb_15 (yg 3 hb_15 (yg 3 hb_15 (yQ hb_13 (Qda (v:=.bool (x19.2.1 != p2)) rfl hb_15 rfl (sQ (Qfa (v:=.bool (x19.2.1 != p2)) rfl hb_13 rfl (RS.nil ?_)))))))
      exact T.weakR (hK () trivial) (Weak.mkN [] [0,2] (by decide) (Qpa _) rfl ⟨Qqa rfl,Qqa rfl,Jua rfl,Qma rfl,Qqa rfl,Jua rfl,Qqa rfl,Qqa rfl,Qma rfl,Jua rfl,Qqa rfl,Jla (by simp only [hb_13,hb_14,hb_15,bz,if_true,if_false,Bool.false_eq_true]),trivial⟩ (rw_bs (Q3a x2.1) rfl (rw_bs (Q3a x17.1) rfl (Qna))))
     refine sN hb_13 (sN hb_13 (sN hb_13 (sU (sU (sU (sN hb_13 (sN hb_13 (sU (sU ?_)))))))))
     refine sU (sN hb_13 (sQ (Qda (v:=.bool false) rfl hb_13 rfl (RS.nil ?_))))
     exact T.weakR (hK () trivial) (Weak.mkN [] [0,2] (by decide) (Qpa _) rfl ⟨Qqa rfl,Qqa rfl,Jua rfl,Qma rfl,Qqa rfl,Jua rfl,Qqa rfl,Qqa rfl,Qma rfl,Jua rfl,Qqa rfl,Jla (by simp only [hb_13,bz,if_true,if_false,Bool.false_eq_true]),trivial⟩ (rw_bs (Q3a x2.1) rfl (rw_bs (Q3a x17.1) rfl (Qna))))
    refine T.region (go 3 3 ?_)
    rcases Qca (x17.2 != 0) with hb_10 | hb_10
    ·refine sN hb_10 (sN hb_10 (sN hb_10 (sU (sU (sN hb_10 (sQ (Qfa (v:=.bool true) rfl hb_10 rfl (RS.nil ?_))))))))
     exact T.sub (hK () trivial) ⟨rfl,rfl,rfl,rfl,rfl,rfl,rfl,rfl,rfl,rfl,rfl,rfl,rfl,(congrArg AV.bool (by simp only [hb_10,bz,if_true,if_false,Bool.false_eq_true])).symm,trivial⟩
    refine yg 3 hb_10 (yg 3 hb_10 (yg 3 hb_10 ?_))
    rcases Qca (x19.2.2 != 0) with hb_11 | hb_11
    ·refine yg 3 hb_11 (yg 3 hb_11 (yQ hb_10 (Qfa (v:=.bool (x19.2.2 != 12)) rfl hb_11 rfl (sQ (Qda (v:=.bool (x19.2.2 != 12)) rfl hb_10 rfl (RS.nil ?_))))))
     exact T.sub (hK () trivial) ⟨rfl,rfl,rfl,rfl,rfl,rfl,rfl,rfl,rfl,rfl,rfl,rfl,rfl,(congrArg AV.bool (by simp only [hb_10,hb_11,bz,if_true,if_false,Bool.false_eq_true])).symm,trivial⟩
    refine sN hb_11 (sN hb_11 (yQ hb_10 (Qda (v:=.bool false) rfl hb_11 rfl (sQ (Qda (v:=.bool false) rfl hb_10 rfl (RS.nil ?_))))))
    exact T.sub (hK () trivial) ⟨rfl,rfl,rfl,rfl,rfl,rfl,rfl,rfl,rfl,rfl,rfl,rfl,rfl,(congrArg AV.bool (by simp only [hb_10,hb_11,bz,if_true,if_false,Bool.false_eq_true])).symm,trivial⟩
   refine T.region (go 3 2 ?_)
   rcases Qca (x10.2.2==0) with hb_5 | hb_5
   ·refine yg 2 hb_5 (yg 2 hb_5 (yg 2 hb_5 (sQ (Qfa (v:=.bool (x10.2.1==p2)) rfl hb_5 rfl (go 1 2 ?_)))))
    rcases Qca (x10.2.1==p2) with hb_6 | hb_6
    ·refine sN hb_6 (sN hb_6 (sN hb_6 (sU (sU (sN hb_6 (sQ (Qfa (v:=.bool true) rfl hb_6 rfl (RS.nil ?_))))))))
     exact T.sub (hK () trivial) ⟨rfl,rfl,rfl,rfl,rfl,rfl,rfl,rfl,rfl,(congrArg AV.bool (by simp only [hb_5,hb_6,bz,if_true,if_false,Bool.false_eq_true])).symm,trivial⟩
    refine yg 2 hb_6 (yg 2 hb_6 (yg 2 hb_6 ?_))
    rcases Qca (x10.2.2 != 0) with hb_7 | hb_7
    ·refine yg 2 hb_7 (yg 2 hb_7 (yQ hb_6 (Qfa (v:=.bool (!(x12.1==[]))) rfl hb_7 rfl (sQ (Qda (v:=.bool (!(x12.1==[]))) rfl hb_6 rfl (RS.nil ?_))))))
     exact T.sub (hK () trivial) ⟨rfl,rfl,rfl,rfl,rfl,rfl,rfl,rfl,rfl,(congrArg AV.bool (by simp only [hb_5,hb_6,hb_7,bz,if_true,if_false,Bool.false_eq_true])).symm,trivial⟩
    refine sN hb_7 (sN hb_7 (yQ hb_6 (Qda (v:=.bool false) rfl hb_7 rfl (sQ (Qda (v:=.bool false) rfl hb_6 rfl (RS.nil ?_))))))
    exact T.sub (hK () trivial) ⟨rfl,rfl,rfl,rfl,rfl,rfl,rfl,rfl,rfl,(congrArg AV.bool (by simp only [hb_5,hb_6,hb_7,bz,if_true,if_false,Bool.false_eq_true])).symm,trivial⟩
   refine sN hb_5 (sN hb_5 (sN hb_5 (sQ (Qda (v:=.bool false) rfl hb_5 rfl (go 1 2 (yg 2 rfl (yg 2 rfl (yg 2 rfl ?_))))))))
   rcases Qca (x10.2.2 != 0) with hb_8 | hb_8
   ·refine yg 2 hb_8 (yg 2 hb_8 (yQ rfl (Qfa (v:=.bool (!(x12.1==[]))) rfl hb_8 rfl (sQ (Qda (v:=.bool (!(x12.1==[]))) rfl rfl rfl (RS.nil ?_))))))
    exact T.sub (hK () trivial) ⟨rfl,rfl,rfl,rfl,rfl,rfl,rfl,rfl,rfl,(congrArg AV.bool (by simp only [hb_5,hb_8,bz,if_true,if_false,Bool.false_eq_true])).symm,trivial⟩
   refine sN hb_8 (sN hb_8 (yQ rfl (Qda (v:=.bool false) rfl hb_8 rfl (sQ (Qda (v:=.bool false) rfl rfl rfl (RS.nil ?_))))))
   exact T.sub (hK () trivial) ⟨rfl,rfl,rfl,rfl,rfl,rfl,rfl,rfl,rfl,(congrArg AV.bool (by simp only [hb_5,hb_8,bz,if_true,if_false,Bool.false_eq_true])).symm,trivial⟩
  refine T.region (sO (cF (crosslaw_saved_c x5 hx5) ⟨rfl,(go 2 3 ?_)⟩))
  rcases Qca (!x5) with hb_1 | hb_1
  ·refine sN hb_1 (sN hb_1 (sQ (Qfa (v:=.bool true) rfl hb_1 rfl (go 1 3 (sN rfl (sN rfl (sQ (Qfa (v:=.bool true) rfl rfl rfl (RS.nil ?_)))))))))
   exact T.weakR (hK () trivial) (Weak.mkN [] [1,2] (by decide) (Qpa _) rfl ⟨Qqa rfl,Qqa rfl,Jua rfl,Qqa rfl,Qma rfl,Qma rfl,Jla (by simp only [hb_1,bz,if_true,if_false,Bool.false_eq_true]),trivial⟩ (rw_bs (Q3a x2.1) rfl (rw_bs (Q3a x4.1) rfl (Qna))))
  refine yg 3 hb_1 (yg 3 hb_1 (sQ (Qda (v:=.bool (x2.2 != 0)) rfl hb_1 rfl (go 1 3 ?_))))
  rcases Qca (x2.2 != 0) with hb_2 | hb_2
  ·refine sN hb_2 (sN hb_2 (sQ (Qfa (v:=.bool true) rfl hb_2 rfl (RS.nil ?_))))
   exact T.weakR (hK () trivial) (Weak.mkN [] [1,2] (by decide) (Qpa _) rfl ⟨Qqa rfl,Qqa rfl,Jua rfl,Qqa rfl,Qma rfl,Qma rfl,Jla (by simp only [hb_1,hb_2,bz,if_true,if_false,Bool.false_eq_true]),trivial⟩ (rw_bs (Q3a x2.1) rfl (rw_bs (Q3a x4.1) rfl (Qna))))
  refine yg 3 hb_2 (yg 3 hb_2 (sQ (Qda (v:=.bool (x4.2 != 0)) rfl hb_2 rfl (RS.nil ?_))))
  exact T.weakR (hK () trivial) (Weak.mkN [] [1,2] (by decide) (Qpa _) rfl ⟨Qqa rfl,Qqa rfl,Jua rfl,Qqa rfl,Qma rfl,Qma rfl,Jla (by simp only [hb_1,hb_2,bz,if_true,if_false,Bool.false_eq_true]),trivial⟩ (rw_bs (Q3a x2.1) rfl (rw_bs (Q3a x4.1) rfl (Qna))))
end Go.Proofs.Ytchmpaaofmihcaa
namespace Go.Proofs.Ytchmpaaofmihcaa
open Go.ChangeShapes Go.WideShapes Go.ChangeAt Go.RowKit
set_option linter.unusedVariables false
set_option linter.unusedSimpArgs false
theorem list_choose {α:Type} {p:Nat→α→Prop}:∀ n:Nat,(∀ i,i<n→∃ x,p i x)→∃ l:List α,l.length=n∧∀ (i:Nat) x,l[i]?=some x→p i x
  | 0,_=>⟨[],rfl,fun i x h=>by simp at h⟩
  | n + 1,h=>by
    obtain ⟨l,hl,hp⟩:=list_choose n (fun i hi=>h i (by omega))
    obtain ⟨y,hy⟩:=h n (by omega)
    refine ⟨l++[y],by simp [hl],fun i x hx=>?_⟩
    rw [List.getElem?_append] at hx
    split at hx
    · exact hp i x hx
    · have:i=n:=by
        have:=(List.getElem?_eq_some_iff.1 hx).1
        simp at this;omega
      subst this
      simp [hl] at hx
      subst hx;exact hy
theorem bulk_one {H:Type} (d:DataW H):1≤Rows.uptoBulk d:=by
  cases d with
  | lit l=>cases l<;>simp [Rows.uptoBulk]
  | _=>simp [Rows.uptoBulk]
theorem bulk_sum {H α:Type} (m:α→Nat):∀ (l:List α) (ds:List (DataW H)),l.length=ds.length→(∀ (i:Nat) x d,l[i]?=some x→ds[i]?=some d→m x≤Rows.uptoBulk d)→(l.map m).sum≤Rows.uptoBulkAll ds
  | [],[],_,_=>by simp
  | [],_::_,h,_=>by simp at h
  | _::_,[],h,_=>by simp at h
  | x::l,d::ds,h,hp=>by
    have h0:=hp 0 x d rfl rfl
    have h1:=bulk_sum m l ds (by simpa using h) (fun i y e hy he=>hp (i+1) y e (by simpa using hy) (by simpa using he))
    simp only [List.map_cons,List.sum_cons,Rows.uptoBulkAll]
    omega
structure Opn (P:Program) (t:TypeId) {α:Type} (en:α→List AV) (good:α→Prop) (m:α→Nat):Prop where
  opn:∀ {H:Type} {enc:TypeId × Value→H} {W:World} {fuel:Nat} {cs:List Value} {x:DataW H × List MemPlace},DataW.trod enc P W 0 (fun _=>true) true fuel t cs=some x →
    ∃ a,RelL [] W (fun b=>b<W.heap.size) (en a) cs∧(∀ u,u∈cs→u.oneCell'=true)∧good a∧m a≤Rows.uptoBulk x.1
theorem Opn.map {P:Program} {t:TypeId} {α β:Type} {en:α→List AV} {good:α→Prop} {m:α→Nat} (h:Opn P t en good m) (f:α→β) {en':β→List AV} {good':β→Prop} {m':β→Nat}
    (he:∀ a,en' (f a)=en a) (hg:∀ a,good a→good' (f a)) (hm:∀ a,m' (f a)≤m a):Opn P t en' good' m' :=
  ⟨fun hx=>by
    obtain ⟨a,h1,h2,h3,h4⟩:=h.opn hx
    exact ⟨f a,by rw [he];exact h1,h2,hg a h3,Nat.le_trans (hm a) h4⟩⟩
theorem relL_one {σ:List Value} {w:World} {F:Nat→Prop} {a:AV} {v:Value} (h:Rel σ w F a v):RelL σ w F [a] [v]:=.cons h .nil
theorem Opn.bool {P:Program} {t:TypeId} (ht:P.underlying t=some .bool):Opn P t (fun b:Bool=>[.bool b]) (fun _=>True) (fun _=>1) :=
  ⟨fun hx=>by
    obtain ⟨b,rfl,rfl⟩:=DataW.trod_bool ht hx
    exact ⟨b,relL_one (.bool b),by simp [Value.oneCell'],trivial,bulk_one _⟩⟩
theorem Opn.int {P:Program} {t:TypeId} {k:IntKind} (ht:P.underlying t=some (.int k)):Opn P t (fun n:Int=>[.int k n]) (fun n=>k.min≤n∧n≤k.max) (fun _=>1) :=
  ⟨fun hx=>by
    obtain ⟨n,rfl,rfl,hw⟩:=DataW.trod_int ht hx
    refine ⟨n,relL_one (.int k n),by simp [Value.oneCell'],?_,bulk_one _⟩
    simpa only [Lit.wf,Bool.and_eq_true,decide_eq_true_eq] using hw⟩
theorem Opn.str {P:Program} {t:TypeId} (ht:P.underlying t=some .string):Opn P t (fun s:List UInt8=>[.str s]) (fun s=>s.length≤maxLen) (fun s=>s.length+1) :=
  ⟨fun hx=>by
    obtain ⟨s,rfl,rfl,hw⟩:=DataW.trod_string ht hx
    refine ⟨s.data.toList,relL_one (by simpa using Rel.str s.data.toList),by simp [Value.oneCell'],?_,by simp [Rows.uptoBulk]⟩
    have e:s.data.toList.length=s.size:=by rw [Array.length_toList];rfl
    omega⟩
theorem Opn.slice {P:Program} {t e:TypeId} {α:Type} {en:α→List AV} {good:α→Prop} {m:α→Nat} {size:Nat} (ht:P.underlying t=some (.slice e)) (hc:P.cellsOf e=size+1) (h:Opn P e en good m) :
    Opn P t (fun l:List α=>[.sl (l.map en)]) (fun l=>∀ a,a∈l→good a) (fun l=>(l.map m).sum+1):=by
  refine ⟨fun {H enc W fuel cs x} hx=>?_⟩
  rcases DataW.trod_slice ht hx with ⟨rfl,rfl⟩ | ⟨a,len,cap,elems,rest,n,_,rfl,rfl,hb,hl,hm,hlen,hel,hsp,hns⟩
  · exact ⟨[],relL_one .slNil,by simp [Value.oneCell'],by simp,by simp [Rows.uptoBulk]⟩
  rw [hc] at hel
  have hone:∀ i,i<len→∃ y:α × List Value × (DataW H × List MemPlace),elems[i]?=some y.2.2∧W.cells? 0 (a.add (i*(size+1))) (size+1)=some y.2.1∧RelL [] W (fun b=>b<W.heap.size) (en y.1) y.2.1∧(∀ u,u∈y.2.1→u.oneCell'=true)∧good y.1∧m y.1≤Rows.uptoBulk y.2.2.1:=by
    intro i hi
    have h1:=hel i hi
    rw [List.getElem?_eq_getElem (by omega:i<elems.length)] at h1
    obtain ⟨cs',hcs,ht'⟩:=Option.bind_eq_some_iff.1 h1
    obtain ⟨y,g1,g2,g3,g4⟩:=h.opn ht'
    exact ⟨(y,cs',elems[i]),List.getElem?_eq_getElem (by omega),hcs,g1,g2,g3,g4⟩
  obtain ⟨ys,hys,hp⟩:=list_choose len hone
  refine ⟨ys.map (·.1),relL_one ?_,by simp [Value.oneCell'],?_,?_⟩
  · have hrl:((ys.map (·.1)).map en).length=len:=by simp [hys]
    have key:Rel [] W (fun b=>b<W.heap.size) (.sl ((ys.map (·.1)).map en)) (.slice (some a) ((ys.map (·.1)).map en).length cap):=by
      refine .sl _ (size+1) a cap (fun i j=>((ys[i]?).bind (fun y=>y.2.1[j]?)).getD .nilIface) (fun hne=>?_) (by omega) hm (fun row hrow=>?_) (fun i j hi hj=>?_) (fun i j hi hj=>?_) (fun i row j x hi hj=>?_)
      · have hpos:0<len:=by
          rcases Nat.eq_zero_or_pos len with h0 | h0
          · exfalso;apply hne;apply List.eq_nil_of_length_eq_zero;omega
          · exact h0
        obtain ⟨y,hy⟩:∃ y,ys[0]?=some y:=⟨ys[0],List.getElem?_eq_getElem (by omega)⟩
        have:=World.cells?_block (hp 0 y hy).2.1 (by omega)
        rwa [Jab] at this
      · simp only [List.map_map,List.mem_map] at hrow
        obtain ⟨y,hy,rfl⟩:=hrow
        obtain ⟨i,hi,hi'⟩:=List.getElem_of_mem hy
        have h1:=hp i y (by rw [List.getElem?_eq_getElem hi,hi'])
        have h2:=(World.cells?_some h1.2.1).2.1
        have h3:=h1.2.2.1.1
        simp only [Function.comp];omega
      · rw [hrl] at hi
        obtain ⟨y,hy⟩:∃ y,ys[i]?=some y:=⟨ys[i],List.getElem?_eq_getElem (by omega)⟩
        have h1:=hp i y hy
        have h2:=(World.cells?_some h1.2.1).2.1
        have h3:y.2.1[j]?=some y.2.1[j]:=List.getElem?_eq_getElem (by omega)
        simp only [hy,Option.bind_some,h3,Option.getD_some]
        exact h1.2.2.2.1 _ (List.getElem_mem _)
      · rw [hrl] at hi
        obtain ⟨y,hy⟩:∃ y,ys[i]?=some y:=⟨ys[i],List.getElem?_eq_getElem (by omega)⟩
        have h1:=hp i y hy
        have h2:=World.cells?_some h1.2.1
        have h3:y.2.1[j]?=some y.2.1[j]:=List.getElem?_eq_getElem (by omega)
        simp only [hy,Option.bind_some,h3,Option.getD_some]
        rw [← Yra,h2.2.2 j hj,h3]
      · simp only [List.map_map,List.getElem?_map,Option.map_eq_some_iff] at hi
        obtain ⟨y,hy,rfl⟩:=hi
        have h1:=hp i y hy
        obtain ⟨v,hv,hr⟩:=h1.2.2.1.get hj
        simp only [hy,Option.bind_some,hv,Option.getD_some]
        exact hr
    rwa [hrl] at key
  · intro z hz
    simp only [List.mem_map] at hz
    obtain ⟨y,hy,rfl⟩:=hz
    obtain ⟨i,hi,hi'⟩:=List.getElem_of_mem hy
    exact (hp i y (by rw [List.getElem?_eq_getElem hi,hi'])).2.2.2.2.1
  · have:=bulk_sum m (ys.map (·.1)) (elems.map (·.1)) (by simp [hys,hlen]) (fun i z d hz hd=>by
      simp only [List.getElem?_map,Option.map_eq_some_iff] at hz hd
      obtain ⟨y,hy,rfl⟩:=hz
      obtain ⟨el,he,rfl⟩:=hd
      have h1:=hp i y hy
      rw [h1.1] at he
      obtain rfl:=Option.some.inj he
      exact h1.2.2.2.2.2)
    simp only [Rows.uptoBulk]
    omega
structure OpnF (P:Program) (fs:List Field) (off total:Nat) {α:Type} (en:α→List AV) (good:α→Prop) (m:α→Nat):Prop where
  opn:∀ {H:Type} {enc:TypeId × Value→H} {W:World} {fuel:Nat} {cs:List Value} {xs:List (DataW H × List MemPlace)},cs.length=total →
    xs.length=fs.length→(∀ (i:Nat) (f:Field),fs[i]?=some f→DataW.trod enc P W 0 (fun _=>true) true fuel f.type ((cs.drop f.offset).take (P.cellsOf f.type))=xs[i]?) →
    ∃ a,RelL [] W (fun b=>b<W.heap.size) (en a) (cs.drop off)∧(∀ u,u∈cs.drop off→u.oneCell'=true)∧good a∧m a≤Rows.uptoBulkAll (xs.map (·.1))
theorem OpnF.nil {P:Program} {total:Nat}:OpnF P [] total total (fun _:Unit=>[]) (fun _=>True) (fun _=>0) :=
  ⟨fun hl hx hp=>⟨(),by rw [List.drop_of_length_le (by omega)];exact .nil,by rw [List.drop_of_length_le (by omega)];simp,trivial,by simp⟩⟩
theorem OpnF.cons {P:Program} {f:Field} {fs:List Field} {off total:Nat} {α β:Type} {en1:α→List AV} {en2:β→List AV} {g1:α→Prop} {g2:β→Prop} {m1:α→Nat} {m2:β→Nat}
    (ho:f.offset=off) (c:Nat) (hc:P.cellsOf f.type=c) (h1:Opn P f.type en1 g1 m1) (h2:OpnF P fs (off+c) total en2 g2 m2) :
    OpnF P (f::fs) off total (fun p:α × β=>en1 p.1++en2 p.2) (fun p=>g1 p.1∧g2 p.2) (fun p=>m1 p.1+m2 p.2):=by
  refine ⟨fun {H enc W fuel cs xs} hl hx hp=>?_⟩
  match xs,hx with
  | x :: xs,hx =>
    have h0:=hp 0 f rfl
    simp only [List.getElem?_cons_zero] at h0
    subst ho;subst hc
    obtain ⟨a,a1,a2,a3,a4⟩:=h1.opn h0
    obtain ⟨b,b1,b2,b3,b4⟩:=h2.opn (xs:=xs) hl (by simpa using hx) (fun i f' hf=>by simpa using hp (i+1) f' (by simpa using hf))
    have hs:cs.drop f.offset=(cs.drop f.offset).take (P.cellsOf f.type)++cs.drop (f.offset+P.cellsOf f.type):=by
      rw [← List.drop_drop];exact (List.take_append_drop _ _).symm
    refine ⟨(a,b),?_,fun u hu=>?_,⟨a3,b3⟩,?_⟩
    · rw [hs];exact a1.append b1
    · rw [hs,List.mem_append] at hu
      exact hu.elim (a2 u) (b2 u)
    · simp only [List.map_cons,Rows.uptoBulkAll];omega
theorem Opn.struct {P:Program} {t:TypeId} {fs:Array Field} {total:Nat} {α:Type} {en:α→List AV} {good:α→Prop} {m:α→Nat} (ht:P.underlying t=some (.struct fs)) (hc:P.cellsOf t=total)
    (h:OpnF P fs.toList 0 total en good m):Opn P t en good m:=by
  refine ⟨fun {H enc W fuel cs x} hx=>?_⟩
  obtain ⟨xs,n,rfl,rfl,hl,hxl,hp⟩:=DataW.trod_struct ht hx
  obtain ⟨a,h1,h2,h3,h4⟩:=h.opn (enc:=enc) (W:=W) (fuel:=n) (cs:=cs) (xs:=xs) (by omega) (by simp [hxl]) (fun i f hf=>hp i f (by simpa using hf))
  exact ⟨a,by simpa using h1,by simpa using h2,h3,by simp only [Rows.uptoBulk];omega⟩
theorem Opn.arg {P:Program} {t:TypeId} {α:Type} {en:α→AV} {good:α→Prop} {m:α→Nat} (h:Opn P t (fun a=>[en a]) good m)
    (ht:(match P.underlying t with | some (.struct _) | some (.array _ _)=>false | _=>true)=true)
    {H:Type} {enc:TypeId × Value→H} {W:World} {base:Nat} {v:Value} {d:DataW H} {ps:List MemPlace} (hval:Value.okWide P W .any base t v) (hd:DataW.Trod enc P W 0 (fun _=>true) true t v d ps) :
    ∃ a,Rel [] W (fun b=>b<W.heap.size) (en a) v∧good a∧m a≤Rows.uptoBulk d:=by
  obtain ⟨fuel,hf⟩:=hd
  obtain ⟨a,h1,h2,h3,h4⟩:=h.opn hf
  have hv:v.cells=#[v]:=by
    cases v with
    | agg cs =>
      exfalso
      unfold Value.okWide at hval
      split at hval
      · rename_i e;rw [e] at ht;simp at ht
      · rename_i e;rw [e] at ht;simp at ht
      · unfold Cell.okWide at hval
        split at hval<;>simp_all [Cell.ok]
    | _=>rfl
  rw [hv] at h1
  exact ⟨a,h1.2 0 (en a) v rfl rfl,h3,h4⟩
theorem Opn.args {P:Program} {t:TypeId} {α:Type} {en:α→List AV} {good:α→Prop} {m:α→Nat} (h:Opn P t en good m)
    {fs:Array Field} (ht:P.underlying t=some (.struct fs))
    {H:Type} {enc:TypeId × Value→H} {W:World} {base:Nat} {v:Value} {d:DataW H} {ps:List MemPlace} (hval:Value.okWide P W .any base t v) (hd:DataW.Trod enc P W 0 (fun _=>true) true t v d ps) :
    ∃ a,Rel [] W (fun b=>b<W.heap.size) (.agg (en a)) v∧good a∧m a≤Rows.uptoBulk d:=by
  obtain ⟨fuel,hf⟩:=hd
  obtain ⟨a,h1,h2,h3,h4⟩:=h.opn hf
  unfold Value.okWide at hval
  rw [ht] at hval
  obtain ⟨cs,rfl,_,_⟩:=hval
  simp only [Value.cells] at h1 h2
  refine ⟨a,?_,h3,h4⟩
  have:=Rel.agg (σ:=[]) (w:=W) (F:=fun b=>b<W.heap.size) (en a) cs.toList h1.1 h2 h1.2
  simpa using this
theorem stays_all {H:Type} {enc:TypeId × Value→H} {P:Program} (hl:laidOutB P=true) {W W':World} (hb:Below W.heap.size W W') (sp:Nat→Bool) :
    ∀ {ts:List TypeId} {vs:List Value} {ds:List (DataW H)} {ps:List MemPlace},(ts.all fun t=>P.readableRec t && decide (t<P.types.size))=true→DataW.TrodAll enc P W 0 (fun _=>true) true ts vs ds ps →
      (∀ x∈ps,x.block<W.heap.size)→(∀ x∈ps,sp x.block=true)→DataW.TrodAll enc P W' 0 sp true ts vs ds ps
  | [],[],[],_,_,h,_,_=>h
  | [],_::_,_,_,_,h,_,_=>h.elim
  | [],[],_::_,_,_,h,_,_=>h.elim
  | _::_,[],_,_,_,h,_,_=>h.elim
  | _::_,_::_,[],_,_,h,_,_=>h.elim
  | t :: ts,v::vs,d::ds,ps,hr,h,hlt,hsp=>by
    obtain ⟨p,q,h1,h2,rfl⟩:=h
    simp only [List.all_cons,Bool.and_eq_true,decide_eq_true_eq] at hr
    exact ⟨p,q,WideElems.Trod_stays hl hr.1.1 hr.1.2 h1 (fun x hx=>hb.same (hlt x (by simp [hx]))) (fun x hx=>hsp x (by simp [hx])),
      stays_all hl hb sp hr.2 h2 (fun x hx=>hlt x (by simp [hx])) (fun x hx=>hsp x (by simp [hx])),rfl⟩
section
variable {H:Type} {enc:TypeId × Value→H} {P:Program}
theorem post_of_below {f:Func} {s:ChangeSpec} {apart fresh handsOn again:Bool} {W W':World} {args:Array Value} {v:Value} {ds gs:List (DataW H)} {before pa pv:List MemPlace}
    (hW:DataW.Whole enc P f.params.toList s.vars apart W args.toList ds gs before)
    (hres:∀ (b:Nat) (sp:Nat→Bool) (hd:Bool),DataW.TrodAll enc P W' b sp hd f.resultTypes.toList (v.resultList f.resultTypes.size) (s.fn H (ds++gs)).results [])
    (hargs:∀ sp:Nat→Bool,(∀ p∈before,sp p.block=true)→DataW.TrodAll enc P W' 0 sp true f.params.toList args.toList (s.fn H (ds++gs)).args pa)
    (hvars:∀ sp:Nat→Bool,(∀ p∈before,sp p.block=true)→DataW.TrodVars enc P W' sp s.vars (s.fn H (ds++gs)).vars pv)
    (hps:before=pa++pv) (hb:Below W.heap.size W W')
    (hok:∀ (j:Nat) (t:TypeId) (r:Value),f.resultTypes[j]?=some t→(v.resultList f.resultTypes.size)[j]?=some r→Value.okWide P W' .any 0 t r) :
    s.post enc P f apart fresh handsOn again W args v W':=by
  have hlt:∀ p∈before,p.block<W.heap.size:=fun p hp=>hW.lt p hp
  have hold:∀ p∈before,(fun b=>decide (b<W.heap.size)) p.block=true:=fun p hp=>by simpa using hlt p hp
  refine ⟨ds,gs,before,[],pa,pv,hW,hres _ _ _,hargs _ hold,hvars _ hold,World.keptBut_mono (fun p hp=>⟨hp,?_⟩) (hb.frame (·∈before)),fun _=>?_⟩
  · rw [hps,List.mem_append] at hp
    exact Or.inr hp
  · obtain ⟨_,_,_,_,_,hz,hn⟩:=hW
    refine ⟨hok,_,_,([]++pa)++pv,⟨[]++pa,pv,trodAll_append (hargs _ (fun _ _=>rfl)) (hres _ _ _),hvars _ (fun _ _=>rfl),rfl,?_,?_⟩,?_⟩
    · intro b off hp
      have hin:MemPlace.cell b off∈before:=by rw [hps];simpa using hp
      rw [hb.frozen (hlt _ hin)]
      exact hz b off hin
    · intro ha
      have:=hn ha
      rw [hps] at this
      simpa using this
    · intro p hp _
      rw [hps]
      simpa using hp
end
theorem law_post {H:Type} {enc:TypeId × Value→H} {P:Program} {id:FuncId} {f:Func} {s:ChangeSpec} {W:World} {args:Array Value} {ds gs:List (DataW H)} {before:List MemPlace} {av:List AV} {tb:TypeId}
    (hl:laidOutB P=true) (htb:P.underlying tb=some .bool) (hres:f.resultTypes=#[tb]) (hr:(f.params.toList.all fun t=>P.readableRec t && decide (t<P.types.size))=true) (hvars:s.vars=[])
    (hfn:(s.fn H (ds++gs)).results=[.lit (.bool true)]) (hfa:(s.fn H (ds++gs)).args=ds) (hfv:(s.fn H (ds++gs)).vars=[])
    (hW:DataW.Whole enc P f.params.toList s.vars false W args.toList ds gs before)
    (hrel:RelL [] W (fun b=>b<W.heap.size) av args.toList) (hc:ACalls P id av [] fun r aw'=>r=.bool true∧aw'=[]) :
    Calls P id args W fun e W'=>∃ v,e=.returned v∧s.post enc P f false true false false W args v W':=by
  have hs:Sim [] [] W (fun b=>b<W.heap.size):=⟨rfl,fun k o v h=>by simp at h,fun k k' o o' v v' g _ h=>by simp at h,fun b h=>h⟩
  refine (hc.2 W _ [] args.toList hs hrel).mono fun e W' hx=>?_
  obtain ⟨v,r,aw',σ',F',he,⟨hr1,hr2⟩,_,hv,hm⟩:=hx
  subst hr1;subst hr2
  cases hv
  have hb:Below W.heap.size W W':=⟨hm.os,hm.tape,hm.output,hm.size,fun k hk=>hm.keep k hk (fun ⟨k',o,v,ho,_⟩=>by simp at ho)⟩
  refine ⟨.bool true,he,?_⟩
  have hW':=hW
  obtain ⟨p,q,hA,hV,rfl,hfz,hnd⟩:=hW'
  rw [hvars] at hV
  obtain ⟨rfl,rfl⟩:=trodVars_none hV
  have hlt:∀ x∈p++[],x.block<W.heap.size:=fun x hx=>hW.lt x hx
  refine post_of_below (pa:=p) (pv:=[]) hW (fun b sp hd=>?_) (fun sp hsp=>?_) (fun sp hsp=>?_) rfl hb (ok_one hres rfl (okWide_bool_mk htb _))
  · rw [hfn,hres]
    exact trodAll_cons_mk (shut_bool htb _) trodAll_mk0
  · rw [hfa]
    exact stays_all hl hb sp hr hA (fun x hx=>hlt x (by simpa using hx)) (fun x hx=>hsp x (by simpa using hx))
  · rw [hfv,hvars]
    exact rfl
end Go.Proofs.Ytchmpaaofmihcaa
namespace Go.Proofs.Ytchmpaaofmihcaa
set_option linter.unusedVariables false
set_option linter.unusedSimpArgs false
def gI (n:Int):Prop := -9223372036854775808≤n∧n≤9223372036854775807
def gL {α:Type} (g:α→Prop) (l:List α):Prop:=∀ a,a∈l→g a
def gS (s:List UInt8):Prop:=True
def gItem (a:Item):Prop:=gI a.Key∧gI a.Val∧gI a.Dep
def gKeyed (a:Keyed):Prop:=gI a.Key∧gI a.N
def gMemory (a:Memory):Prop:=gI a.Sum∧gL gKeyed a.Keys∧gI a.Dep
def gChoice (a:Choice):Prop:=gI a.Node∧gI a.Lane
def gState (a:State):Prop:=gL gI a.At∧gL (gL gItem) a.Rings∧gL gMemory a.Memory∧gL gChoice a.Choices∧gL gItem a.Out
def gWrite (a:Write):Prop:=gI a.At∧gS a.Bytes
def gDisk (a:Disk):Prop:=gL gS a.Sectors∧gL gWrite a.Wait
def mI (n:Int):Nat:=1
def mB (b:Bool):Nat:=1
def mS (s:List UInt8):Nat:=s.length+1
def mL {α:Type} (m:α→Nat) (l:List α):Nat:=(l.map m).sum+1
def mItem (a:Item):Nat:=3
def mKeyed (a:Keyed):Nat:=2
def mMemory (a:Memory):Nat:=mL mKeyed a.Keys+2
def mChoice (a:Choice):Nat:=2
def mState (a:State):Nat:=mL mI a.At+mL (mL mItem) a.Rings+mL mMemory a.Memory+mL mChoice a.Choices+mL mItem a.Out
def mWrite (a:Write):Nat:=mS a.Bytes+1
def mDisk (a:Disk):Nat:=mL mS a.Sectors+mL mWrite a.Wait
theorem len_le {α:Type} {m:α→Nat} (h:∀ a,1≤m a):∀ l:List α,l.length≤mL m l
  | []=>by simp [mL]
  | a::l=>by
    have:=len_le h l
    have:=h a
    simp [mL] at *;omega
theorem sum_le {α:Type} {m:α→Nat}:∀ {l:List α} {a:α},a∈l→m a≤mL m l
  | b :: l,a,h=>by
    rcases List.mem_cons.1 h with rfl | h
    · simp [mL];omega
    · have:=sum_le (m:=m) h
      simp [mL] at *;omega
theorem J1a {n:Int} (h0 : -9223372036854775808≤n) (h1:n≤9223372036854775807):IntKind.i64.wrap n=n:=IntWalk.i64_in n ⟨h0,h1⟩
theorem Yja {k:Nat} (h:k<4611686018427387904):IntKind.i64.wrap ((k:Int)+1)=((k+1:Nat):Int):=by rw [J1a (by omega) (by omega)];rfl
theorem Zxa {α:Type} {xs:List α} {k:Nat} {x:α} (h:xs[k]?=some x):idx xs (k:Int)=some x:=by
  unfold idx;rw [if_pos (by omega)];simpa using h
theorem ixN_at {α:Type} {xs:List α} {k:Nat} (h:k<xs.length):ixN xs (k:Int)=some k:=by
  unfold ixN;rw [if_pos (by omega)];simp
theorem app_ok {α:Type} {xs ys:List α} (h:xs.length+ys.length≤1099511627776):app xs ys=some (xs++ys):=by unfold app;rw [if_pos h]
theorem cat_ok {xs ys:List UInt8} (h:xs.length+ys.length≤4611686018427387904):cat xs ys=some (xs++ys):=by unfold cat;rw [if_pos h]
theorem sub_ok {α:Type} {xs:List α} {i j:Nat} (h:i≤j) (h2:j≤xs.length):sub xs (i:Int) (j:Int)=some ((xs.take j).drop i):=by
  unfold sub;rw [if_pos (by omega)];simp
theorem sub_0 {α:Type} {xs:List α} {j:Nat} (h2:j≤xs.length):sub xs 0 (j:Int)=some (xs.take j):=by
  have:=sub_ok (xs:=xs) (i:=0) (j:=j) (by omega) h2
  simpa using this
theorem sub_end {α:Type} {xs:List α} {i:Nat} (h2:i≤xs.length):sub xs (i:Int) (xs.length:Int)=some (xs.drop i):=by
  have:=sub_ok (xs:=xs) (i:=i) (j:=xs.length) h2 (Nat.le_refl _)
  simpa using this
def foldE {α σ ρ:Type} (f:Nat→α→σ→Option (σ ⊕ ρ)) (fin:σ→Option ρ):Nat→List α→σ→Option ρ
  | _,[],st=>fin st
  | k,x::xs,st=>match f k x st with
    | none=>none
    | some (.inl st')=>foldE f fin (k+1) xs st'
    | some (.inr r)=>some r
theorem iter_list {α σ ρ τ:Type} (xs:List α) (hx:xs.length≤1099511627776) (e:Nat→σ→τ) {body:τ→Option (τ ⊕ ρ)} (f:Nat→α→σ→Option (σ ⊕ ρ)) (fin:σ→Option ρ)
    (h1 : ∀ (k:Nat) x st,xs[k]?=some x→k<xs.length→idx xs (k:Int)=some x→decide ((k:Int)<(xs.length:Int))=true→IntKind.i64.wrap ((k:Int)+1)=((k+1:Nat):Int) →
      body (e k st)=match f k x st with
        | none=>none
        | some (.inl st')=>some (.inl (e (k+1) st'))
        | some (.inr r)=>some (.inr r))
    (h2:∀ st,decide ((xs.length:Int)<(xs.length:Int))=false→body (e xs.length st)=(fin st).map .inr) :
    ∀ (n k:Nat) st,k+n=xs.length→iter body (e k st)=foldE f fin k (xs.drop k) st
  | 0,k,st,h=>by
    have hk:k=xs.length:=by omega
    subst hk
    rw [Q8a,h2 st (by simp),List.drop_length]
    unfold foldE
    cases fin st<;>rfl
  | n + 1,k,st,h=>by
    have hlt:k<xs.length:=by omega
    have hg:xs[k]?=some xs[k]:=List.getElem?_eq_getElem hlt
    rw [Q8a,h1 k xs[k] st hg hlt (Zxa hg) (by simp;omega) (Yja (by omega)),List.drop_eq_getElem_cons hlt]
    unfold foldE
    cases f k xs[k] st with
    | none=>rfl
    | some v =>
      cases v with
      | inl st'=>exact iter_list xs hx e f fin h1 h2 n (k+1) st' (by omega)
      | inr r=>rfl
theorem iter_list0 {α σ ρ τ:Type} (xs:List α) (hx:xs.length≤1099511627776) (e:Nat→σ→τ) {body:τ→Option (τ ⊕ ρ)} (f:Nat→α→σ→Option (σ ⊕ ρ)) (fin:σ→Option ρ) (st:σ)
    (h1 : ∀ (k:Nat) x st,xs[k]?=some x→k<xs.length→idx xs (k:Int)=some x→decide ((k:Int)<(xs.length:Int))=true→IntKind.i64.wrap ((k:Int)+1)=((k+1:Nat):Int) →
      body (e k st)=match f k x st with
        | none=>none
        | some (.inl st')=>some (.inl (e (k+1) st'))
        | some (.inr r)=>some (.inr r))
    (h2:∀ st,decide ((xs.length:Int)<(xs.length:Int))=false→body (e xs.length st)=(fin st).map .inr):iter body (e 0 st)=foldE f fin 0 xs st:=by
  have:=iter_list xs hx e f fin h1 h2 xs.length 0 st (by omega)
  simpa using this
theorem iter_inv {α β:Type} {body:α→Option (α ⊕ β)} (I:α→Prop) (μ:α→Nat) (R:β→Prop) (h:∀ s,I s→(∃ s',body s=some (.inl s')∧I s'∧μ s' < μ s)∨∃ r,body s=some (.inr r)∧R r):∀ (n:Nat) s,μ s≤n→I s→∃ r,iter body s=some r∧R r
  | n,s,hn,hs=>by
    rcases h s hs with ⟨s',h1,h2,h3⟩ | ⟨r,h1,h2⟩
    · match n,hn with
      | 0,hn=>omega
      | n+1,hn =>
        obtain ⟨r,h4,h5⟩:=iter_inv I μ R h n s' (by omega) h2
        exact ⟨r,by rw [Q8a,h1];exact h4,h5⟩
    · exact ⟨r,by rw [Q8a,h1],h2⟩
theorem equal_loop {α:Type} [DecidableEq α] (a b:List α) (ha:a.length≤1099511627776) (hl:a.length=b.length) {body:Int→Option (Int ⊕ Bool)}
    (h1:∀ (k:Nat) x y,decide ((k:Int)<(a.length:Int))=true→idx a (k:Int)=some x→idx b (k:Int)=some y→IntKind.i64.wrap ((k:Int)+1)=((k+1:Nat):Int)→body k=if x=y then some (.inl ((k+1:Nat):Int)) else some (.inr false))
    (h2:decide ((a.length:Int)<(a.length:Int))=false→body a.length=some (.inr true)):iter body 0=some (decide (a=b)):=by
  have key:∀ (n k:Nat),k+n=a.length→iter body k=some (decide (a.drop k=b.drop k)):=by
    intro n
    induction n with
    | zero =>
      intro k hk
      have hk:k=a.length:=by omega
      subst hk
      rw [Q8a,h2 (by simp),List.drop_length,List.drop_of_length_le (by omega)]
      simp
    | succ n ih =>
      intro k hk
      have hlt:k<a.length:=by omega
      have hlt2:k<b.length:=by omega
      have hd:(a.drop k=b.drop k) ↔ (a[k]=b[k]∧a.drop (k+1)=b.drop (k+1)):=by
        have ea:=List.drop_eq_getElem_cons hlt
        have eb:=List.drop_eq_getElem_cons hlt2
        constructor
        · intro h;rw [ea,eb] at h;exact List.cons.inj h
        · rintro ⟨h1,h2⟩;rw [ea,eb,h1,h2]
      rw [Q8a,h1 k a[k] b[k] (by simp;omega) (Zxa (List.getElem?_eq_getElem hlt)) (Zxa (List.getElem?_eq_getElem hlt2)) (Yja (by omega))]
      by_cases hxy:a[k]=b[k]
      · rw [if_pos hxy]
        simp only
        rw [ih (k+1) (by omega)]
        simp [hd,hxy]
      · rw [if_neg hxy]
        simp [hd,hxy]
  have:=key a.length 0 (by omega)
  simpa using this
end Go.Proofs.Ytchmpaaofmihcaa
namespace Go.Proofs.Ytchmpaaofmihcaa
open Go.RowKit
set_option linter.unusedVariables false
set_option linter.unusedSimpArgs false
theorem on3:Opn Try.prog 3 (fun n:Int=>[.int .i64 n]) gI mI :=
  (Opn.int Try.underlying3).map id (fun _=>rfl) (fun a h=>⟨h.1,h.2⟩) (fun _=>Nat.le_refl _)
theorem on9:Opn Try.prog 9 (fun s:List UInt8=>[.str s]) gS mS :=
  (Opn.str Try.underlying9).map id (fun _=>rfl) (fun _ _=>trivial) (fun _=>Nat.le_refl _)
theorem on38:Opn Try.prog 38 (fun l=>[.sl (l.map encS)]) (gL gS) (mL mS) :=
  (Opn.slice (size:=0) Try.underlying38 Ty.c9 on9).map id (fun _=>rfl) (fun a h=>h) (fun _=>Nat.le_refl _)
theorem on88:Opn Try.prog 88 Jka gWrite mWrite :=
  (Opn.struct Try.underlying88 Ty.c88 (OpnF.cons rfl 1 Ty.c3 on3 (OpnF.cons rfl 1 Ty.c9 on9 OpnF.nil))).map (fun p=>(⟨p.1,p.2.1⟩:Write)) (fun p=>rfl) (fun p h=>⟨h.1,h.2.1⟩) (fun p=>by simp only [mWrite,mI,mB];omega)
theorem on39:Opn Try.prog 39 (fun l=>[.sl (l.map Jka)]) (gL gWrite) (mL mWrite) :=
  (Opn.slice (size:=1) Try.underlying39 Ty.c88 on88).map id (fun _=>rfl) (fun a h=>h) (fun _=>Nat.le_refl _)
theorem on41:Opn Try.prog 41 Q3a gDisk mDisk :=
  (Opn.struct Try.underlying41 Ty.c41 (OpnF.cons rfl 1 Ty.c38 on38 (OpnF.cons rfl 1 Ty.c39 on39 OpnF.nil))).map (fun p=>(⟨p.1,p.2.1⟩:Disk)) (fun p=>rfl) (fun p h=>⟨h.1,h.2.1⟩) (fun p=>by simp only [mDisk,mI,mB];omega)
end Go.Proofs.Ytchmpaaofmihcaa
namespace Go.Proofs.Ytchmpaaofmihcaa
set_option linter.unusedVariables false
set_option linter.unusedSimpArgs false
def zz (n:Int):Nat:=if 0≤n then (2*n).toNat else (-2*n - 1).toNat
theorem zz_lt {n:Int} (h:gI n):zz n<18446744073709551616:=by unfold gI at h;unfold zz;split<;>omega
def vb:Nat→Nat→List UInt8
  | 0,u=>[UInt8.ofNat u]
  | f+1,u=>if u<128 then [UInt8.ofNat u] else UInt8.ofNat (u % 128+128)::vb f (u / 128)
def num (n:Int):List UInt8:=vb 9 (zz n)
theorem vb_len:∀ (f u:Nat),(vb f u).length≤f+1∧1≤(vb f u).length
  | 0,u=>by simp [vb]
  | f+1,u=>by
    unfold vb
    have:=vb_len f (u / 128)
    split<;>simp<;>omega
theorem Yua (n:Int):(num n).length≤10∧1≤(num n).length:=vb_len 9 _
def lst {α:Type} (e:α→List UInt8) (l:List α):List UInt8:=num (l.length:Int)++l.flatMap e
def bItem (x:Item):List UInt8:=num x.Key++(num x.Val++num x.Dep)
def bKeyed (x:Keyed):List UInt8:=num x.Key++num x.N
def bMem (x:Memory):List UInt8:=num x.Sum++(num x.Dep++lst bKeyed x.Keys)
def Z4a (x:Choice):List UInt8:=num x.Node++num x.Lane
def bState (x:State):List UInt8:=lst num x.At++(lst (lst bItem) x.Rings++(lst bMem x.Memory++(lst Z4a x.Choices++lst bItem x.Out)))
abbrev short {α:Type} (ok:α→Prop) (l:List α):Prop:=l.length≤1099511627776∧∀ a,a∈l→ok a
def sMem (x:Memory):Prop:=gI x.Sum∧gI x.Dep∧short gKeyed x.Keys
def sState (x:State):Prop:=short gI x.At∧short (short gItem) x.Rings∧short sMem x.Memory∧short gChoice x.Choices∧short gItem x.Out
end Go.Proofs.Ytchmpaaofmihcaa
namespace Go.Proofs.Ytchmpaaofmihcaa
set_option linter.unusedVariables false
set_option linter.unusedSimpArgs false
theorem ofInt_i64 (a:Nat) (ha:a<9223372036854775808):(BitVec.ofInt 64 (a:Int)).toNat=a:=by
  rw [BitVec.toNat_ofInt];omega
theorem bits_and (a b:Nat) (ha:a<9223372036854775808) (hb:b<9223372036854775808):ibits .and .i64 (a:Int) (b:Int)=((a &&& b:Nat):Int):=by
  have hx:a &&& b<2 ^ 63:=Nat.lt_of_le_of_lt Nat.and_le_left (by omega)
  show IntKind.i64.wrap ((BitVec.ofInt 64 (a:Int) &&& BitVec.ofInt 64 (b:Int)).toNat:Int)=_
  rw [BitVec.toNat_and,ofInt_i64 a ha,ofInt_i64 b hb,J1a (by omega) (by omega)]
theorem bits_or (a b:Nat) (ha:a<9223372036854775808) (hb:b<9223372036854775808):ibits .or .i64 (a:Int) (b:Int)=((a ||| b:Nat):Int):=by
  have hx:a ||| b<2 ^ 63:=Nat.or_lt_two_pow (by omega) (by omega)
  show IntKind.i64.wrap ((BitVec.ofInt 64 (a:Int) ||| BitVec.ofInt 64 (b:Int)).toNat:Int)=_
  rw [BitVec.toNat_or,ofInt_i64 a ha,ofInt_i64 b hb,J1a (by omega) (by omega)]
theorem bits_xor (a b:Nat) (ha:a<9223372036854775808) (hb:b<9223372036854775808):ibits .xor .i64 (a:Int) (b:Int)=((a ^^^ b:Nat):Int):=by
  have hx:a ^^^ b<2 ^ 63:=Nat.xor_lt_two_pow (by omega) (by omega)
  show IntKind.i64.wrap ((BitVec.ofInt 64 (a:Int) ^^^ BitVec.ofInt 64 (b:Int)).toNat:Int)=_
  rw [BitVec.toNat_xor,ofInt_i64 a ha,ofInt_i64 b hb,J1a (by omega) (by omega)]
def crc1 (n:Nat):Nat:=if (n*2) &&& 65536≠0 then (n*2) ^^^ 69665 else n*2
def crcN:Nat→Nat→Nat
  | 0,n=>n
  | k+1,n=>crcN k (crc1 n)
def crcB (n:Nat) (b:UInt8):Nat:=crcN 8 (n ^^^ (b.toNat*256))
def crc (l:List UInt8):Nat:=l.foldl crcB 65535
theorem and_hi (q r q' r':Nat) (hr:r<65536) (hr':r' < 65536):(65536*q+r) &&& (65536*q' + r')=65536*(q &&& q')+(r &&& r'):=by
  have hrr:r &&& r' < 2 ^ 16:=Nat.lt_of_le_of_lt Nat.and_le_left hr
  apply Nat.eq_of_testBit_eq
  intro i
  have e:(65536:Nat)=2 ^ 16:=by decide
  rw [e] at hr hr' ⊢
  rw [Nat.testBit_and,Nat.testBit_two_pow_mul_add _ hr,Nat.testBit_two_pow_mul_add _ hr',Nat.testBit_two_pow_mul_add _ hrr]
  split<;>simp [Nat.testBit_and]
theorem xor_hi (q r q' r':Nat) (hr:r<65536) (hr':r' < 65536):(65536*q+r) ^^^ (65536*q' + r')=65536*(q ^^^ q')+(r ^^^ r'):=by
  have hrr:r ^^^ r' < 2 ^ 16:=Nat.xor_lt_two_pow (n:=16) (by omega) (by omega)
  apply Nat.eq_of_testBit_eq
  intro i
  have e:(65536:Nat)=2 ^ 16:=by decide
  rw [e] at hr hr' ⊢
  rw [Nat.testBit_xor,Nat.testBit_two_pow_mul_add _ hr,Nat.testBit_two_pow_mul_add _ hr',Nat.testBit_two_pow_mul_add _ hrr]
  split<;>simp [Nat.testBit_xor]
theorem xor_lt16 {a b:Nat} (ha:a<65536) (hb:b<65536):a ^^^ b<65536:=Nat.xor_lt_two_pow (n:=16) ha hb
theorem crc1_lo {n:Nat} (h:n<32768):crc1 n=n*2:=by
  have e:(n*2) &&& 65536=0:=by
    have:=and_hi 0 (n*2) 1 0 (by omega) (by omega)
    simpa using this
  unfold crc1
  rw [e];rfl
theorem crc1_hi {n:Nat} (h:32768≤n) (h':n<65536):crc1 n=(n*2 - 65536) ^^^ 4129:=by
  have e:n*2=65536*1+(n*2 - 65536):=by omega
  have e1:(n*2) &&& 65536=65536:=by
    have:=and_hi 1 (n*2 - 65536) 1 0 (by omega) (by omega)
    rw [← e] at this
    simpa using this
  have e2:=xor_hi 1 (n*2 - 65536) 1 4129 (by omega) (by omega)
  rw [← e] at e2
  unfold crc1
  rw [e1,if_pos (by decide)]
  simpa using e2
theorem crc1_lt {n:Nat} (h:n<65536):crc1 n<65536:=by
  by_cases h':n<32768
  · rw [crc1_lo h'];omega
  · rw [crc1_hi (by omega) h];exact xor_lt16 (by omega) (by decide)
theorem crcN_lt {k n:Nat} (h:n<65536):crcN k n<65536:=by
  induction k generalizing n with
  | zero=>exact h
  | succ k ih=>exact ih (crc1_lt h)
theorem crcX_lt {n:Nat} {b:UInt8} (h:n<65536):n ^^^ (b.toNat*256)<65536:=xor_lt16 h (by have:=b.toNat_lt;omega)
theorem crcB_lt {n:Nat} {b:UInt8} (h:n<65536):crcB n b<65536:=crcN_lt (crcX_lt h)
theorem crcF_lt (l:List UInt8):∀ {n:Nat},n<65536→l.foldl crcB n<65536:=by
  induction l with
  | nil=>exact fun h=>h
  | cons b l ih=>exact fun h=>ih (crcB_lt h)
theorem crc_lt (l:List UInt8):crc l<65536:=crcF_lt l (by decide)
theorem wrap_n {n:Nat} (h:n<9223372036854775808):IntKind.i64.wrap (n:Int)=(n:Int):=J1a (by omega) (by omega)
theorem wrap_b (c:UInt8):IntKind.i64.wrap (c.toNat:Int)=(c.toNat:Int):=wrap_n (by have:=c.toNat_lt;omega)
theorem u8_mod (n:Nat):IntKind.u8.wrap (n:Int)=((n % 256:Nat):Int):=by simp [IntKind.wrap,IntKind.signed,IntKind.bits]
theorem str_1 (n:Nat):toStr [IntKind.u8.wrap (n:Int)]=[UInt8.ofNat n]:=by
  unfold toStr
  rw [u8_mod]
  simp only [List.map_cons,List.map_nil,Int.toNat_natCast]
  congr 1
  exact UInt8.toNat_inj.1 (by simp)
theorem str_2 (n m:Nat):toStr [IntKind.u8.wrap (n:Int),IntKind.u8.wrap (m:Int)]=[UInt8.ofNat n,UInt8.ofNat m]:=by
  have h1:=str_1 n
  have h2:=str_1 m
  unfold toStr at *
  simp only [List.map_cons,List.map_nil,List.cons.injEq,and_true] at *
  exact ⟨h1,h2⟩
theorem shl_n {x k:Nat} (hk:k≤64) (h:x*2 ^ k<9223372036854775808):shl .i64 (x:Int) (k:Int)=some ((x*2 ^ k:Nat):Int):=by
  unfold shl
  rw [if_pos (by omega)]
  have e:min (k:Int).toNat IntKind.i64.bits=k:=by
    have:IntKind.i64.bits=64:=rfl
    rw [this];simp;omega
  rw [e]
  congr 1
  have:((x:Int)*2 ^ k)=((x*2 ^ k:Nat):Int):=by push_cast;rfl
  rw [this,wrap_n h]
theorem shr8 {x:Nat} (h:x<9223372036854775808):shr .i64 (x:Int) 8=some ((x / 256:Nat):Int):=by
  unfold shr
  rw [if_pos (by omega)]
  have e:min (8:Int).toNat IntKind.i64.bits=8:=rfl
  rw [e]
  congr 1
  rw [Int.fdiv_eq_ediv_of_nonneg _ (by decide)]
  omega
theorem sum_inner (s2:Int):∀ (n j x:Nat),j+n=8→x<65536→iter (fun ss:Int × Int=>Yia s2 ss.1 ss.2) ((x:Int),(j:Int))=some (.inl (((crcN n x:Nat):Int),IntKind.i64.wrap (s2+1)))
  | 0,j,x,hj,hx=>by
    have e:Yia s2 (x:Int) (j:Int)=some (.inr (.inl ((x:Int),IntKind.i64.wrap (s2+1)))):=by
      unfold Yia
      rw [if_neg (by simp;omega)];rfl
    rw [Q8a];simp only [e];rfl
  | n + 1,j,x,hj,hx=>by
    have h1:shl .i64 (x:Int) 1=some ((x*2:Nat):Int):=by
      have:=shl_n (x:=x) (k:=1) (by omega) (by omega)
      simpa using this
    have ha:ibits .and .i64 ((x*2:Nat):Int) 65536=(((x*2) &&& 65536:Nat):Int):=bits_and (x*2) 65536 (by omega) (by decide)
    have hb:ibits .xor .i64 ((x*2:Nat):Int) 69665=(((x*2) ^^^ 69665:Nat):Int):=bits_xor (x*2) 69665 (by omega) (by decide)
    have e:Yia s2 (x:Int) (j:Int)=some (.inl (((crc1 x:Nat):Int),((j+1:Nat):Int))):=by
      unfold Yia
      rw [if_pos (by simp;omega),h1]
      simp only [Option.bind_some]
      rw [ha,hb,Yja (by omega)]
      unfold crc1
      by_cases hc:(x*2) &&& 65536=0
      · rw [if_neg (by simp [hc]),if_neg (by simp [hc])]
      · rw [if_pos (by simpa using hc),if_pos (by simpa using hc)]
    rw [Q8a];simp only [e]
    exact sum_inner s2 n (j+1) (crc1 x) (by omega) (crc1_lt hx)
theorem frame_sum_eq (b:List UInt8) (hb:b.length≤1099511627776):frame_sum b=some ((crc b:Nat):Int):=by
  unfold frame_sum
  have:=iter_list0 (σ:=Fin 65536) b hb (fun k st=>((st.val:Int),(k:Int))) (body:=fun ss:Int × Int=>Yka b ss.1 ss.2)
    (fun k x st=>some (.inl ⟨crcB st.val x,crcB_lt st.isLt⟩)) (fun st=>some (st.val:Int)) ⟨65535,by decide⟩
    (fun k x st _ hk h1 h2 h3=>by
      show Yka b (st.val:Int) (k:Int)=_
      unfold Yka
      rw [h2,h1]
      simp only [if_true,Option.bind_some,wrap_b]
      have hx:=x.toNat_lt
      have hst:=st.isLt
      have h4:shl .i64 (x.toNat:Int) 8=some ((x.toNat*256:Nat):Int):=by
        have:=shl_n (x:=x.toNat) (k:=8) (by omega) (by omega)
        simpa using this
      rw [h4]
      simp only [Option.bind_some]
      rw [bits_xor _ _ (by omega) (by omega)]
      have:=sum_inner (k:Int) 8 0 (st.val ^^^ x.toNat*256) (by omega) (crcX_lt st.isLt)
      rw [h3] at this
      exact this)
    (fun st h=>by
      show Yka b (st.val:Int) (b.length:Int)=_
      unfold Yka
      rw [h];rfl)
  refine Eq.trans this ?_
  have fold:∀ (ys:List UInt8) (k:Nat) (st:Fin 65536),foldE (σ:=Fin 65536) (ρ:=Int) (fun k x st=>some (.inl ⟨crcB st.val x,crcB_lt st.isLt⟩)) (fun st=>some (st.val:Int)) k ys st=some ((ys.foldl crcB st.val:Nat):Int):=by
    intro ys
    induction ys with
    | nil=>intro k st;rfl
    | cons y ys ih=>intro k st;unfold foldE;simp only;rw [ih];rfl
  rw [fold];rfl
def frm (b:List UInt8):List UInt8:=UInt8.ofNat b.length::b++[UInt8.ofNat (crc (UInt8.ofNat b.length::b) / 256),UInt8.ofNat (crc (UInt8.ofNat b.length::b))]
def putFr (b:List UInt8):List UInt8 × Int:=if b=[] then ([],4) else if 60<b.length then ([],2) else (frm b,0)
theorem frame_Put_eq (b:List UInt8):frame_Put b=some (putFr b):=by
  unfold frame_Put putFr
  by_cases h1:b=[]
  · rw [if_pos (by simp [h1]),if_pos h1]
  rw [if_neg (by simpa using h1),if_neg h1]
  by_cases h2:60<b.length
  · rw [if_pos (by simp;omega),if_pos h2]
  rw [if_neg (by simp;omega),if_neg h2,str_1,cat_ok (by simp;omega)]
  simp only [Option.bind_some,List.singleton_append]
  rw [frame_sum_eq _ (by simp;omega)]
  simp only [Option.bind_some]
  have hc:=crc_lt (UInt8.ofNat b.length::b)
  rw [shr8 (by omega)]
  simp only [Option.bind_some]
  rw [str_2,cat_ok (by simp;omega)]
  simp [frm]
def recAt (r:List UInt8):Option (List UInt8) :=
  match r with
  | []=>none
  | h::t =>
    if h.toNat<1∨60<h.toNat∨t.length+1<h.toNat+3 then none
    else if (t.getD h.toNat 0).toNat*256+(t.getD (h.toNat+1) 0).toNat≠crc (h::t.take h.toNat) then none
    else some (t.take h.toNat)
def records:Nat→List UInt8→List (List UInt8) × Nat
  | 0,_=>([],0)
  | n+1,r =>
    match recAt r with
    | none=>([],0)
    | some p=>(p::(records n (r.drop (p.length+3))).1,p.length+3+(records n (r.drop (p.length+3))).2)
def readR (b:List UInt8):List (List UInt8) × Int × Int :=
  if 12800<b.length then ([],0,2) else ((records b.length b).1,((records b.length b).2:Int),0)
theorem frame_Read_eq (b:List UInt8):frame_Read b=some (readR b):=by
  unfold frame_Read readR
  by_cases h0:12800<b.length
  · rw [if_pos (by simp;omega),if_pos h0]
  rw [if_neg (by simp;omega),if_neg h0]
  have key:∀ (n u:Nat) (acc:List (List UInt8)),u≤b.length→acc.length≤u→b.length≤u+n →
      iter (fun ss:Int × List (List UInt8)=>Zca b ss.1 ss.2) ((u:Int),acc)=some (acc++(records n (b.drop u)).1,((u+(records n (b.drop u)).2:Nat):Int),0):=by
    intro n
    induction n with
    | zero =>
      intro u acc hu ha hn
      have e:Zca b (u:Int) acc=some (.inr (acc,(u:Int),0)):=by
        unfold Zca
        rw [if_neg (by simp;omega)];rfl
      rw [Q8a];simp only [e];simp [records]
    | succ n ih =>
      intro u acc hu ha hn
      have stop:recAt (b.drop u)=none→Zca b (u:Int) acc=some (.inr (acc,(u:Int),0))→iter (fun ss:Int × List (List UInt8)=>Zca b ss.1 ss.2) ((u:Int),acc)=some (acc++(records (n+1) (b.drop u)).1,((u+(records (n+1) (b.drop u)).2:Nat):Int),0):=by
        intro h1 h2
        rw [Q8a];simp only [h2];simp [records,h1]
      by_cases hlt:u<b.length
      · have hr:b.drop u=b[u]::b.drop (u+1):=List.drop_eq_getElem_cons hlt
        generalize hc:b[u]=c at hr
        generalize ht:b.drop (u+1)=t at hr
        have hlen:t.length+1+u=b.length:=by rw [← ht];simp;omega
        have hcl:=c.toNat_lt
        have w1:IntKind.i64.wrap ((c.toNat:Int)+1)=((c.toNat+1:Nat):Int):=by rw [J1a (by omega) (by omega)];rfl
        have w2:IntKind.i64.wrap ((c.toNat:Int)+2)=((c.toNat+2:Nat):Int):=by rw [J1a (by omega) (by omega)];rfl
        have w3:IntKind.i64.wrap ((c.toNat:Int)+3)=((c.toNat+3:Nat):Int):=by rw [J1a (by omega) (by omega)];rfl
        have e1:sub b (u:Int) (b.length:Int)=some (c::t):=by rw [sub_end hu,hr]
        have e2:idx (c::t) 0=some c:=by simp [idx]
        rw [hr] at stop ⊢
        by_cases hbad:c.toNat<1∨60<c.toNat∨t.length+1<c.toNat+3
        · refine stop (by simp only [recAt];rw [if_pos hbad]) ?_
          unfold Zca
          rw [if_pos (by simp;omega),e1]
          simp only [Option.bind_some]
          rw [e2]
          simp only [Option.bind_some,wrap_b,w1,w2,w3]
          rw [if_pos (by simp;omega)];rfl
        have e3:sub (c::t) 0 ((c.toNat+1:Nat):Int)=some (c::t.take c.toNat):=by rw [sub_0 (by simp;omega)];simp
        have e4:sub (c::t) 1 ((c.toNat+1:Nat):Int)=some (t.take c.toNat):=by
          have:=sub_ok (xs:=c::t) (i:=1) (j:=c.toNat+1) (by omega) (by simp;omega)
          simpa using this
        have hs:=frame_sum_eq (c::t.take c.toNat) (by simp;omega)
        have hcs:=crc_lt (c::t.take c.toNat)
        have hx:∃ x,t[c.toNat]?=some x:=⟨_,List.getElem?_eq_getElem (by omega)⟩
        have hy:∃ y,t[c.toNat+1]?=some y:=⟨_,List.getElem?_eq_getElem (by omega)⟩
        obtain ⟨x,hx⟩:=hx
        obtain ⟨y,hy⟩:=hy
        have ix:idx (c::t) ((c.toNat+1:Nat):Int)=some x:=Zxa (by simpa using hx)
        have iy:idx (c::t) ((c.toNat+2:Nat):Int)=some y:=Zxa (by simpa using hy)
        have hxl:=x.toNat_lt
        have hyl:=y.toNat_lt
        have h8:shl .i64 (x.toNat:Int) 8=some ((x.toNat*256:Nat):Int):=by
          have:=shl_n (x:=x.toNat) (k:=8) (by omega) (by omega)
          simpa using this
        have hor:x.toNat*256 ||| y.toNat=x.toNat*256+y.toNat:=by
          have:=Nat.two_pow_add_eq_or_of_lt (i:=8) (b:=y.toNat) hyl x.toNat
          rw [Nat.mul_comm x.toNat 256,show (256:Nat)=2 ^ 8 by decide,← this]
        have hx':t.getD c.toNat 0=x:=by rw [List.getD_eq_getElem?_getD,hx];rfl
        have hy':t.getD (c.toNat+1) 0=y:=by rw [List.getD_eq_getElem?_getD,hy];rfl
        by_cases hsum:x.toNat*256+y.toNat=crc (c::t.take c.toNat)
        · have hsome:recAt (c::t)=some (t.take c.toNat):=by simp only [recAt,hx',hy'];rw [if_neg hbad,if_neg (by omega)]
          have hp:(t.take c.toNat).length=c.toNat:=by simp;omega
          have e:Zca b (u:Int) acc=some (.inl (((u+(c.toNat+3):Nat):Int),acc++[t.take c.toNat])):=by
            unfold Zca
            rw [if_pos (by simp;omega),e1]
            simp only [Option.bind_some]
            rw [e2]
            simp only [Option.bind_some,wrap_b,w1,w2,w3]
            rw [if_neg (by simp;omega),e3]
            simp only [Option.bind_some]
            rw [hs]
            simp only [Option.bind_some]
            rw [ix]
            simp only [Option.bind_some,wrap_b]
            rw [h8]
            simp only [Option.bind_some]
            rw [iy]
            simp only [Option.bind_some,wrap_b]
            rw [bits_or _ _ (by omega) (by omega),hor,if_neg (by simp [hsum]),e4]
            simp only [Option.bind_some]
            rw [app_ok (by simp;omega)]
            simp only [Option.bind_some]
            rw [show (u:Int)+((c.toNat+3:Nat):Int)=((u+(c.toNat+3):Nat):Int) by omega,wrap_n (by omega)]
          rw [Q8a];simp only [e]
          have hdrop:(c::t).drop (c.toNat+3)=b.drop (u+(c.toNat+3)):=by rw [← hr,List.drop_drop]
          rw [ih (u+(c.toNat+3)) (acc++[t.take c.toNat]) (by omega) (by simp;omega) (by omega)]
          have hstep:records (n+1) (c::t)=(t.take c.toNat::(records n (b.drop (u+(c.toNat+3)))).1,c.toNat+3+(records n (b.drop (u+(c.toNat+3)))).2):=by
            simp only [records,hsome,hp,hdrop]
          rw [hstep]
          simp;omega
        · refine stop (by simp only [recAt,hx',hy'];rw [if_neg hbad,if_pos hsum]) ?_
          unfold Zca
          rw [if_pos (by simp;omega),e1]
          simp only [Option.bind_some]
          rw [e2]
          simp only [Option.bind_some,wrap_b,w1,w2,w3]
          rw [if_neg (by simp;omega),e3]
          simp only [Option.bind_some]
          rw [hs]
          simp only [Option.bind_some]
          rw [ix]
          simp only [Option.bind_some,wrap_b]
          rw [h8]
          simp only [Option.bind_some]
          rw [iy]
          simp only [Option.bind_some,wrap_b]
          rw [bits_or _ _ (by omega) (by omega),hor,if_pos (by simp;omega)];rfl
      · have hnil:b.drop u=[]:=List.drop_of_length_le (by omega)
        refine stop (by rw [hnil];rfl) ?_
        unfold Zca
        rw [if_neg (by simp;omega)];rfl
  have:=key b.length 0 [] (by omega) (by simp) (by omega)
  simpa using this
theorem AtF_eq (k:Int) (n:Nat) (hn:0<n) (hn':n≤1099511627776):crossref_At k (n:Int)=some (k % (n:Int)):=by
  unfold crossref_At rem
  have e:=Int.tmod_eq_emod (a:=k) (b:=(n:Int))
  have h1:=Int.emod_nonneg k (by omega:(n:Int)≠0)
  have h2:=Int.emod_lt_of_pos k (by omega:(0:Int)<n)
  rw [if_neg (by omega)]
  simp only [Option.bind_some]
  rw [e]
  by_cases hc:0≤k∨(n:Int) ∣ k
  · rw [if_pos hc,if_neg (by simp;omega)];simp
  · rw [if_neg hc,if_pos (by simp;omega),J1a (by omega) (by omega)]
    congr 1;simp
end Go.Proofs.Ytchmpaaofmihcaa
