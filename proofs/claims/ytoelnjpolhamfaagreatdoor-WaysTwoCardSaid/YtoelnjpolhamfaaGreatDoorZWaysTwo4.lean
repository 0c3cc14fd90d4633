/-
  Part 4 of the proof of waysTwoLaw.proved: the code computes these functions, and the law holds of them, with no condition beyond the statement's own; put together by a program of ours (wip/decl.py) out of texts of ours.
-/
import Derived.Test.YtoelnjpolhamfaaGreatDoorZWaysTwo3
namespace Go.Proofs.YtoelnjpolhamfaaGreatDoor
open Go.RowKit
set_option linter.unusedVariables false
set_option linter.unusedSimpArgs false
set_option maxRecDepth 100000
set_option maxHeartbeats 4000000
set_option synthInstance.maxSize 100000
set_option synthInstance.maxHeartbeats 4000000
theorem move_head_c {p0:Net} {p1:List (List Item)} {p2:State} {p3:Move} {r:Item × Bool} (h:move_head p0 p1 p2 p3=some r):Fn Tryz.prog 84 [.agg (encNet p0),sL (encL encItem) p1,.agg (encState p2),.agg (encMove p3)] (.tup [.agg (encItem r.1),.bool r.2]):=by
  unfold move_head at h
  refine fT 0 0 Tryz.func84 Tryz.ntmps84 rfl ?_
  refine B h fun x2 hx2 h=>(X 14 0 (sQ (v_index_sl Ty.s22 (fun _=>rfl) rfl rfl hx2 (Y 11 4 (T.ci h rfl (fun hb_1 h=>?_) (fun hb_1 h=>?_))))))
  ·refine B h fun x5 hx5 h=>(B h fun x6 hx6 h=>(X 2 5 (T.drawn mixed (k:=13) rfl (rq [0,2,6,7] 9 (rL [8,9,10,11,12] 8 rfl (r0 9 rfl (v_index_sl Ty.s25 (fun _=>rfl) rfl rfl hx6 (rL [10,11,12] 10 rfl (r0 11 rfl (v_len_sl Ty.s26 rfl (rL [1,4,5,12] 1 rfl ?_)))))))))))
   refine ra1 3 (og 5 ⟨rfl,(r0 4 rfl (v_index_sl Ty.s49 (fun _=>rfl) rfl rfl hx5 (ra1 5 (og 5 ⟨rfl,(rq [12] 0 (RA.done (by decide +kernel) (T.ci h rfl (fun hb_2 h=>?_) (fun hb_2 h=>?_))))⟩))))⟩)
   ·refine X 6 5 ?_
    cases h
    exact tD
   refine B h fun x10 hx10 h=>(B h fun x11 hx11 h=>(B h fun x12 hx12 h=>(X 2 5 (T.drawn mixed (k:=15) rfl (rq [0,1,5,7] 11 (rL [2,3,4,11,12,13,14] 2 rfl (r0 3 rfl (v_index_sl Ty.s25 (fun _=>rfl) rfl rfl hx10 (rL [4,11,12,13,14] 4 rfl (rL [6,9,10,11,12,13,14] 6 rfl ?_))))))))))
   refine ra1 8 (og 5 ⟨rfl,(r0 9 rfl (v_index_sl Ty.s49 (fun _=>rfl) rfl rfl hx11 (ra1 10 (og 5 ⟨rfl,(r0 11 rfl (v_index_sl Ty.s26 (fun _=>rfl) rfl rfl hx12 (ra1 12 (og 5 ⟨rfl,(ra1 13 (og 5 ⟨rfl,?_⟩))⟩))))⟩))))⟩)
   refine rq [14] 0 (RA.done (by decide +kernel) ?_)
   cases h
   exact tD
  refine B h fun x15 hx15 h=>(B h fun x16 hx16 h=>(X 2 5 (T.drawn mixed (k:=11) rfl (rq [0,2,4] 8 (rL [1,8,9,10] 1 rfl (rL [3,6,7,8,9,10] 3 rfl (ra1 5 (og 5 ⟨rfl,(r0 6 rfl (v_index_sl Ty.s49 (fun _=>rfl) rfl rfl hx15 ?_))⟩))))))))
  refine ra1 7 (og 5 ⟨rfl,(r0 8 rfl (v_index_sl Ty.s25 (fun _=>rfl) rfl rfl hx16 (ra1 9 (og 5 ⟨rfl,(rq [10] 0 (RA.done (by decide +kernel) (X 4 5 (sQ (v_len_sl Ty.s26 rfl (Y 2 5 ?_))))))⟩))))⟩)
  refine T.ci h rfl (fun hb_3 h=>?_) (fun hb_3 h=>?_)
  ·refine X 6 5 ?_
   cases h
   exact tD
  refine B h fun x18 hx18 h=>(X 4 5 (sQ (v_index_sl Ty.s26 (fun _=>rfl) rfl rfl hx18 (Y 4 5 ?_))))
  cases h
  exact tD
theorem stage_Lane_c {p0:Item} {p1:Int} {r:Int × Int} (h:stage_Lane p0 p1=some r):Fn Tryz.prog 111 [.agg (encItem p0),iI p1] (.tup [iI r.1,iI r.2]):=by
  unfold stage_Lane at h
  refine fT 0 7 Tryz.func111 Tryz.ntmps111 rfl (j1 [(1,iI p1),(2,.ptr 0 0),(11,.bool ((decide (p1<1)) || decide (p1 > 16)))] [.box (encItem p0)] ?_ (fun hK=>?_))
  ·refine T.ci h rfl (fun hb_2 h=>?_) (fun hb_2 h=>?_)
   ·refine X 5 1 ?_
    cases h
    exact tD
   refine B h fun x4 hx4 h=>(B h fun x5 hx5 h=>(X 6 1 (sQ (v_rem rfl rfl hx4 (Y 3 1 (sQ (v_rem rfl rfl hx5 (Y 3 1 ?_))))))))
   cases h
   exact tD
  refine X 5 1 (gp 8 (fun hb_1=>?_) (fun hb_1=>?_))
  ·refine Yp 4 1 ?_
   rw [hb_1] at hK
   exact sx hK
  refine Yp 4 1 ?_
  rw [hb_1] at hK
  exact sx hK
theorem move_outs_c {p0:Node} {p1:Item} {r:List Int} (h:move_outs p0 p1=some r):Fn Tryz.prog 86 [.agg (encNode p0),.agg (encItem p1)] (sL encI r):=by
  unfold move_outs at h
  refine fT 0 13 Tryz.func86 Tryz.ntmps86 rfl (T.ci h rfl (fun hb_1 h=>?_) (fun hb_1 h=>?_))
  ·refine X 6 2 ?_
   cases h
   exact tD
  refine B h fun x2 hx2 h=>(X 6 2 (sQ (v_len_sl Ty.s49 rfl (sO (cF (stage_Lane_c hx2) ⟨rfl,(B h fun x4 hx4 h=>(Y 13 2 (sO (o_slice_sl Ty.s49 (fun _=>rfl) rfl rfl rfl hx4 (Y 2 2 ?_)))))⟩)))))
  cases h
  exact tD
theorem move_can_1_xbf12_c {p0:Int} {p1:List Int} {p2:List (List Item)} {p3:List Memory} {p4:List Choice} {p5:List Item} {p6:List Node} {p7:Int} {p8:Int} {r:Bool} (h:move_can_1_xbf12 p0 p1 p2 p3 p4 p5 p6 p7 p8=some r):FnX Tryz.prog 110 [iI p0,.ptr 0 0,.ptr 1 0] [.box [sL encI p1,sL (encL encItem) p2,sL encMemory p3,sL encChoice p4,sL encItem p5],.box [sL encNode p6,iI p7,iI p8]] (.bool r) [.box [sL encI p1,sL (encL encItem) p2,sL encMemory p3,sL encChoice p4,sL encItem p5],.box [sL encNode p6,iI p7,iI p8]]:=by
  unfold move_can_1_xbf12 at h
  refine fT 2 0 Tryz.func110 Tryz.ntmps110 rfl ?_
  refine B h fun x2 hx2 h=>(X 5 2 (T.drawn mixed (k:=10) rfl (rq [0,2,6] 7 (rL [1,3,4,5,8,9] 1 rfl (r0 3 rfl (v_index_sl Ty.s25 (fun _=>rfl) rfl rfl hx2 (rL [4,5,8,9] 4 rfl (r0 5 rfl (v_len_sl Ty.s26 rfl (ra1 7 (og 2 ⟨rfl,?_⟩)))))))))))
  refine rq [8,9] 0 (RA.done (by decide +kernel) ?_)
  cases h
  exact tN [0,1]
theorem slices_IndexFunc_int_x9c8e_c {p0:List Int} {p1:List Int} {p2:List (List Item)} {p3:List Memory} {p4:List Choice} {p5:List Item} {p6:List Node} {p7:Int} {p8:Int} {r:Int} (h:slices_IndexFunc_int_x9c8e p0 p1 p2 p3 p4 p5 p6 p7 p8=some r):FnX Tryz.prog 129 [sL encI p0,.func 110 [.ptr 0 0,.ptr 1 0]] [.box [sL encI p1,sL (encL encItem) p2,sL encMemory p3,sL encChoice p4,sL encItem p5],.box [sL encNode p6,iI p7,iI p8]] (iI r) [.box [sL encI p1,sL (encL encItem) p2,sL encMemory p3,sL encChoice p4,sL encItem p5],.box [sL encNode p6,iI p7,iI p8]]:=by
  unfold slices_IndexFunc_int_x9c8e at h
  refine fT 2 8 Tryz.func129 Tryz.ntmps129 rfl (sQ (v_len_sl Ty.s49 rfl (Y 3 2 (itr (fun ss_5:Int=>mkA 19 [(0,sL encI p0),(1,.func 110 [.ptr 0 0,.ptr 1 0]),(7,iI ((p0).length:Int)),(8,iI ss_5)]) (fun ss_5=>[.box [sL encI p1,sL (encL encItem) p2,sL encMemory p3,sL encChoice p4,sL encItem p5],.box [sL encNode p6,iI p7,iI p8]]) h (wk [] [0,1] 2 rfl) (fun ss_5 v_6 h hv_6=>?_)))))
  revert hv_6 h;revert ss_5;intro s1 h hv_6
  replace h:slices_IndexFunc_int_x9c8e_l1 p0 p1 p2 p3 p4 p5 p6 p7 p8 s1=some v_6:=h
  try dsimp only
  unfold slices_IndexFunc_int_x9c8e_l1 at h
  refine X 5 2 (T.ci h rfl (fun hb_7 h=>?_) (fun hb_7 h=>?_))
  ·refine B h fun x4 hx4 h=>(B h fun x5 hx5 h=>(X 13 2 (sQ (v_index_sl Ty.s49 (fun _=>rfl) rfl rfl hx4 (Y 1 2 (sO (cG [0,1] 2 2 (move_can_1_xbf12_c hx5) ⟨rfl,(Y 1 2 (T.ci h rfl (fun hb_8 h=>?_) (fun hb_8 h=>?_)))⟩)))))))
   ·refine X 5 2 ?_
    replace h:=mi h hv_6
    cases h
    exact tN [0,1]
   exact X 5 2 (lk h (wk [] [0,1] 2 rfl))
  refine X 1 2 ?_
  replace h:=mi h hv_6
  refine X 4 2 ?_
  cases h
  exact tN [0,1]
theorem slices_ContainsFunc_int_x9c8e_c {p0:List Int} {p1:List Int} {p2:List (List Item)} {p3:List Memory} {p4:List Choice} {p5:List Item} {p6:List Node} {p7:Int} {p8:Int} {r:Bool} (h:slices_ContainsFunc_int_x9c8e p0 p1 p2 p3 p4 p5 p6 p7 p8=some r):FnX Tryz.prog 109 [sL encI p0,.func 110 [.ptr 0 0,.ptr 1 0]] [.box [sL encI p1,sL (encL encItem) p2,sL encMemory p3,sL encChoice p4,sL encItem p5],.box [sL encNode p6,iI p7,iI p8]] (.bool r) [.box [sL encI p1,sL (encL encItem) p2,sL encMemory p3,sL encChoice p4,sL encItem p5],.box [sL encNode p6,iI p7,iI p8]]:=by
  unfold slices_ContainsFunc_int_x9c8e at h
  refine fT 2 0 Tryz.func109 Tryz.ntmps109 rfl ?_
  refine B h fun x2 hx2 h=>(X 8 2 (sO (cG [0,1] 2 2 (slices_IndexFunc_int_x9c8e_c hx2) ⟨rfl,(Y 3 2 ?_)⟩)))
  cases h
  exact tN [0,1]
theorem slices_Clone_Keyed_c {p0 r:List Keyed} (h:slices_Clone_Keyed p0=some r):FnO Tryz.prog 104 [.sl (List.map encKeyed p0)] (.ref 0) [.arr 161 2 (List.map encKeyed r)]:=by
  have hr:p0=r:=by
    unfold slices_Clone_Keyed app at h
    split at h
    · simpa using h
    · cases h
  refine fn_of_T (N:=0) rfl Tryz.func104 rfl (by kernel_rfl) Tryz.ntmps104 rfl ?_
  show T _ _ _ _ (mkA 8 [(0,.sl (List.map encKeyed p0))]) []
  refine T.seq ?_
  refine T.region ?_
  refine RS.op rfl (OP.q rfl (v_assign (v:=.nils) rfl ?_))
  refine RS.nil ?_
  refine T.seq ?_
  refine T.seq ?_
  refine T.region ?_
  refine RS.op rfl (OP.q rfl (v_move (v:=.sl (List.map encKeyed p0)) rfl ?_))
  refine RS.op rfl (OP.q rfl (v_nileq Ty.s120 rfl rfl (fun z hz=>?_)))
  refine RS.nil ?_
  refine T.cond (b:=z) rfl (fun hb=>?_) (fun hb=>?_)
  · refine T.seq ?_
    refine T.region ?_
    refine RS.op rfl (OP.q rfl (v_assign (v:=.nils) rfl ?_))
    refine RS.nil ?_
    refine T.ret ?_
    refine res_tmpA (v:=.nils) rfl ?_
    refine res_done ?_
    have h0:p0=[]:=List.map_eq_nil_iff.1 (hz hb)
    exact ret_own (.ref 0) [(0,161,2)] [0] (by decide) (none_kept _) rfl (rn_ref rfl) (rw_arr (en:=encKeyed) (ys:=[]) rfl encKeyed_p (by rw [← hr,h0]) (rw_nil)) ⟨rfl,rfl⟩
  · refine T.skip ?_
    refine T.seq ?_
    refine T.region ?_
    refine RS.op rfl (o_buildSlice (rows:=List.map encKeyed []) (vs:=[]) Ty.s120 Ty.z161 rfl rfl rfl rfl rfl (aw':=[.arr 161 2 (List.map encKeyed [])]) rfl ?_)
    refine RS.op rfl (OP.q rfl (v_move (v:=.sl (List.map encKeyed p0)) rfl ?_))
    refine RS.op rfl (o_app_ref (en:=encKeyed) (xs:=([]:List Keyed)) (ys:=p0) (r:=r) Ty.s120 (fun _=>rfl) rfl rfl rfl h rfl (aw':=[.dead,.arr 161 2 (List.map encKeyed r)]) rfl ?_)
    refine RS.op rfl (OP.q rfl (v_assign (v:=.ref 1) rfl ?_))
    refine RS.nil ?_
    refine T.ret ?_
    refine res_tmpA (v:=.ref 1) rfl ?_
    refine res_done ?_
    exact ret_own (.ref 0) [] [1] (by decide) (none_kept _) rfl (rn_ref rfl) (rw_arr rfl encKeyed_p rfl (rw_nil)) ⟨rfl,rfl⟩
theorem stage_Copy_c {p0:Memory} {r:Memory} (h:stage_Copy p0=some r):FnO Tryz.prog 81 [.agg (encMemory p0)] (.agg [iI r.Sum,.ref 0,iI r.Dep]) [aR 161 2 encKeyed r.Keys]:=by
  unfold stage_Copy at h
  refine fT 0 0 Tryz.func81 Tryz.ntmps81 rfl ?_
  refine B h fun x2 hx2 h=>(X 9 0 (sO (cO 2 (slices_Clone_Keyed_c hx2) ⟨rfl,(Y 8 3 ?_)⟩)))
  cases h
  exact tO [] [2] 3
theorem stage_mapped_1_c {p0:Item} {r:Int} (h:stage_mapped_1 p0=some r):Fn Tryz.prog 130 [.agg (encItem p0)] (iI r):=by
  unfold stage_mapped_1 at h
  refine fT 0 12 Tryz.func130 Tryz.ntmps130 rfl ?_
  cases h
  exact tD
theorem stage_mapped_2_c {p0:Item} {r:Int} (h:stage_mapped_2 p0=some r):Fn Tryz.prog 131 [.agg (encItem p0)] (iI r):=by
  unfold stage_mapped_2 at h
  refine fT 0 12 Tryz.func131 Tryz.ntmps131 rfl ?_
  cases h
  exact tD
theorem stage_mapped_3_c {p0:Item} {r:Int} (h:stage_mapped_3 p0=some r):Fn Tryz.prog 132 [.agg (encItem p0)] (iI r):=by
  unfold stage_mapped_3 at h
  refine fT 0 12 Tryz.func132 Tryz.ntmps132 rfl ?_
  cases h
  exact tD
theorem stage_mapped_4_c {p0:Item} {r:Int} (h:stage_mapped_4 p0=some r):Fn Tryz.prog 133 [.agg (encItem p0)] (iI r):=by
  unfold stage_mapped_4 at h
  refine fT 0 14 Tryz.func133 Tryz.ntmps133 rfl ?_
  cases h
  exact tD
theorem stage_mapped_c {p0:Int} {p1:Item} {r:Item} (h:stage_mapped p0 p1=some r):Fn Tryz.prog 112 [iI p0,.agg (encItem p1)] (.agg (encItem r)):=by
  unfold stage_mapped at h
  refine fT 0 7 Tryz.func112 Tryz.ntmps112 rfl (sQ (v_build (cs:=[.func 130 [],.func 131 [],.func 132 [],.func 133 []]) Ty.z197 Ty.p197 rfl (Y 3 2 ?_)))
  obtain ⟨zt_4,hz,h⟩:=bind_some h
  revert hz h;revert zt_4;intro c6 hz h
  refine j1 [(3,.ptr 0 0),(4,.ptr 1 0)] [.box [iI p1.Key,iI c6,iI p1.Dep],.box [iI 0,iI 0,iI 0]] ?_ (fun hK=>?_)
  ·refine X 5 2 ?_
   cases h
   exact tD
  refine X 1 3 ?_
  rcases bool_cases (p0==0) with hb_1 | hb_1
  ·replace hz:=ite_T hz hb_1
   refine B hz fun x1 hx1 hz=>(T.drawn mixed (k:=7) rfl (rq [0] 6 (r0 1 rfl (v_index_arr (q:=0) Tryz.underlying197 Ty.c196 Ty.i196 rfl rfl (by simpa using hb_1) rfl rfl (off':=0) rfl (rL [2,4,5,6] 2 rfl (ra1 3 (og 3 ⟨rfl,(ra1 4 (oO rfl (cF (stage_mapped_1_c hx1) ⟨rfl,(rq [5] 1 ?_)⟩)))⟩)))))))
   exact ra1 6 (og 3 ⟨rfl,(RA.done (by decide +kernel) (T.weakR hK (Weak.mkN [] [0,1] (by decide) (none_kept _) rfl ⟨rn_ptr rfl,rn_ptr rfl,trivial⟩ (rw_box (cs:=[iI p1.Key,iI c6,iI p1.Dep]) (ds:=[iI p1.Key,iI x1,iI p1.Dep]) rfl ⟨rn_int rfl,rn_int ((congrArg (fun p=>p) (Option.some.inj hz)).symm),rn_int rfl,trivial⟩ (rw_bs [iI 0,iI 0,iI 0] rfl (rw_nil))))))⟩)
  replace hz:=ite_F hz hb_1
  rcases bool_cases (p0==1) with hb_2 | hb_2
  ·replace hz:=ite_T hz hb_2
   refine B hz fun x2 hx2 hz=>(T.drawn mixed (k:=7) rfl (rq [0] 6 (r0 1 rfl (v_index_arr (q:=1) Tryz.underlying197 Ty.c196 Ty.i196 rfl rfl (by simpa using hb_2) rfl rfl (off':=1) rfl (rL [2,4,5,6] 2 rfl (ra1 3 (og 3 ⟨rfl,(ra1 4 (oO rfl (cF (stage_mapped_2_c hx2) ⟨rfl,(rq [5] 1 ?_)⟩)))⟩)))))))
   exact ra1 6 (og 3 ⟨rfl,(RA.done (by decide +kernel) (T.weakR hK (Weak.mkN [] [0,1] (by decide) (none_kept _) rfl ⟨rn_ptr rfl,rn_ptr rfl,trivial⟩ (rw_box (cs:=[iI p1.Key,iI c6,iI p1.Dep]) (ds:=[iI p1.Key,iI x2,iI p1.Dep]) rfl ⟨rn_int rfl,rn_int ((congrArg (fun p=>p) (Option.some.inj hz)).symm),rn_int rfl,trivial⟩ (rw_bs [iI 0,iI 0,iI 0] rfl (rw_nil))))))⟩)
  replace hz:=ite_F hz hb_2
  rcases bool_cases (p0==2) with hb_3 | hb_3
  ·replace hz:=ite_T hz hb_3
   refine B hz fun x3 hx3 hz=>(T.drawn mixed (k:=7) rfl (rq [0] 6 (r0 1 rfl (v_index_arr (q:=2) Tryz.underlying197 Ty.c196 Ty.i196 rfl rfl (by simpa using hb_3) rfl rfl (off':=2) rfl (rL [2,4,5,6] 2 rfl (ra1 3 (og 3 ⟨rfl,(ra1 4 (oO rfl (cF (stage_mapped_3_c hx3) ⟨rfl,(rq [5] 1 ?_)⟩)))⟩)))))))
   exact ra1 6 (og 3 ⟨rfl,(RA.done (by decide +kernel) (T.weakR hK (Weak.mkN [] [0,1] (by decide) (none_kept _) rfl ⟨rn_ptr rfl,rn_ptr rfl,trivial⟩ (rw_box (cs:=[iI p1.Key,iI c6,iI p1.Dep]) (ds:=[iI p1.Key,iI x3,iI p1.Dep]) rfl ⟨rn_int rfl,rn_int ((congrArg (fun p=>p) (Option.some.inj hz)).symm),rn_int rfl,trivial⟩ (rw_bs [iI 0,iI 0,iI 0] rfl (rw_nil))))))⟩)
  replace hz:=ite_F hz hb_3
  refine B hz fun x4 hx4 hz=>(B hz fun x5 hx5 hz=>(T.drawn mixed (k:=7) rfl (rq [0] 6 (r0 1 rfl (v_index_arr (q:=3) Tryz.underlying197 Ty.c196 Ty.i196 rfl rfl (isAt_some hx4) rfl rfl (off':=3) rfl (rL [2,4,5,6] 2 rfl (ra1 3 (og 3 ⟨rfl,(ra1 4 (oO rfl (cF (stage_mapped_4_c hx5) ⟨rfl,?_⟩)))⟩))))))))
  exact rq [5] 1 (ra1 6 (og 3 ⟨rfl,(RA.done (by decide +kernel) (T.weakR hK (Weak.mkN [] [0,1] (by decide) (none_kept _) rfl ⟨rn_ptr rfl,rn_ptr rfl,trivial⟩ (rw_box (cs:=[iI p1.Key,iI c6,iI p1.Dep]) (ds:=[iI p1.Key,iI x5,iI p1.Dep]) rfl ⟨rn_int rfl,rn_int ((congrArg (fun p=>p) (Option.some.inj hz)).symm),rn_int rfl,trivial⟩ (rw_bs [iI 0,iI 0,iI 0] rfl (rw_nil))))))⟩))
theorem stage_Step_1_c {p0:Keyed} {p1:Int} {r:Int} (h:stage_Step_1 p0 p1=some r):Fn Tryz.prog 114 [.agg (encKeyed p0),iI p1] (iI r):=by
  unfold stage_Step_1 at h
  refine fT 0 15 Tryz.func114 Tryz.ntmps114 rfl (T.ci h rfl (fun hb_1 h=>?_) (fun hb_1 h=>?_))
  ·refine X 4 1 ?_
   cases h
   exact tD
  refine X 8 1 (T.ci h rfl (fun hb_2 h=>?_) (fun hb_2 h=>?_))
  ·refine X 4 1 ?_
   cases h
   exact tD
  refine X 5 1 ?_
  cases h
  exact tD
theorem slices_BinarySearchFunc_Keyed_x37fe_c {p0:List Keyed} {p1:Int} {r:Int × Bool} (h:slices_BinarySearchFunc_Keyed_x37fe p0 p1=some r):Fn Tryz.prog 113 [sL encKeyed p0,iI p1,.func 114 []] (.tup [iI r.1,.bool r.2]):=by
  unfold slices_BinarySearchFunc_Keyed_x37fe at h
  refine fT 0 8 Tryz.func113 Tryz.ntmps113 rfl (sQ (v_len_sl Ty.s120 rfl (Y 10 0 (itr (fun ss_5:Int × Int=>mkA 49 [(0,sL encKeyed p0),(1,iI p1),(2,.func 114 []),(8,iI ((p0).length:Int)),(9,iI ss_5.1),(10,iI ss_5.2)]) (fun ss_5=>[]) h (wk [] [] 0 rfl) (fun ss_5 v_6 h hv_6=>?_)))))
  obtain ⟨s1,s2⟩:=ss_5
  replace h:slices_BinarySearchFunc_Keyed_x37fe_l1 p0 p1 s1 s2=some v_6:=h
  try dsimp only
  unfold slices_BinarySearchFunc_Keyed_x37fe_l1 at h
  refine X 7 0 (T.ci h rfl (fun hb_7 h=>?_) (fun hb_7 h=>?_))
  ·refine B h fun x4 hx4 h=>(X 8 0 (sQ (v_shr rfl rfl hx4 (B h fun x7 hx7 h=>(B h fun x8 hx8 h=>(Y 8 0 (sQ (v_index_sl Ty.s120 (fun _=>rfl) rfl rfl hx7 (Y 2 0 (sO (cF (stage_Step_1_c hx8) ⟨rfl,(Y 2 0 ?_)⟩)))))))))))
   refine T.ci h rfl (fun hb_8 h=>?_) (fun hb_8 h=>?_)
   ·exact X 5 0 (lk h (wk [] [] 0 rfl))
   exact X 4 0 (lk h (wk [] [] 0 rfl))
  refine X 1 0 ?_
  replace h:=mi h hv_6
  obtain ⟨zt_11,hz,h⟩:=bind_some h
  revert hz h;revert zt_11;intro c11 hz h
  refine j1 [(6,iI s1),(7,.bool c11)] [] ?_ (fun hK=>?_)
  ·cases h
   exact tD
  refine X 7 0 (gi 39 hz (fun hb_10 hz=>?_) (fun hb_10 hz=>?_))
  ·refine B hz fun x9 hx9 hz=>(B hz fun x10 hx10 hz=>(Y 3 0 (yQ rfl (v_index_sl Ty.s120 (fun _=>rfl) rfl rfl hx9 (Y 2 0 (yO rfl (cF (stage_Step_1_c hx10) ⟨rfl,(Yp 5 0 ?_)⟩)))))))
   cases hz
   exact sx hK
  refine Yp 12 0 ?_
  cases hz
  exact sx hK
theorem slices_Insert_Keyed_xe708_c {p0:Int} {p1:List Keyed} {p2:List Keyed} {r:List Keyed} (h:slices_Insert_Keyed_xe708 p0 p1 p2=some r):FnX Tryz.prog 115 [.ref 0,iI p0,.ref 1] [aR 161 2 encKeyed p1,aR 161 2 encKeyed p2] (.ref 2) [.dead,.dead,aR 161 2 encKeyed r]:=by
  unfold slices_Insert_Keyed_xe708 at h
  refine fT 2 0 Tryz.func115 Tryz.ntmps115 rfl ?_
  refine T.mvS 0 0 rfl rfl rfl rfl (T.exposeM 0 2 (xs:=p1) rfl rfl (fun C hC=>?_))
  have h:=allC_some h C hC
  unfold slices_Insert_Keyed_xe708_C at h
  refine B h fun x2 hx2 h=>(X 8 3 (sO (o_slice_vc Ty.s120 rfl rfl rfl hx2 (Y 4 3 (sQ (v_len_ref (en:=encKeyed) Ty.s120 rfl rfl (Y 8 3 (T.ci h rfl (fun hb_1 h=>?_) (fun hb_1 h=>?_)))))))))
  ·cases h
  refine X 4 3 (sO (v_len_vw Ty.s120 rfl (Y 9 3 (T.ci h rfl (fun hb_2 h=>?_) (fun hb_2 h=>?_)))))
  ·refine B h fun x4 hx4 h=>(X 4 3 (sO (o_app_vw (en:=encKeyed) (xs:=p1) (ys:=p2) Ty.s120 (fun _=>rfl) rfl rfl rfl rfl rfl rfl hx4 rfl rfl (Y 2 4 ?_))))
   cases h
   exact tO [] [0,1,3] 4
  refine X 8 3 (sO (o_cap_vw Ty.s120 rfl (Y 2 3 (T.ci h rfl (fun hb_3 h=>?_) (fun hb_3 h=>?_)))))
  ·refine B h fun x7 hx7 h=>(B h fun x8 hx8 h=>(X 4 3 (sO (o_slice_vh Ty.s120 rfl rfl hx7 (Y 5 3 (sO (o_app_vz (en:=encKeyed) (z0:=(⟨0,0⟩:Keyed)) (xs:=p1) Ty.s120 Tryz.underlying3 Ty.z161 (fun _=>rfl) rfl rfl rfl hx8 rfl rfl (B h fun x11 hx11 h=>(B h fun x12 hx12 h=>(Y 6 4 (sO (o_slice_vw (en:=encKeyed) (xs:=x8) Ty.s120 rfl rfl rfl rfl hx11 ?_))))))))))))
   refine Y 1 4 (sO (o_copy_vr (en:=encKeyed) (xs:=x8) (ys:=p2) Ty.s120 (fun _=>rfl) rfl rfl rfl rfl hx12 rfl (B h fun x17 hx17 h=>(B h fun x18 hx18 h=>(B h fun x19 hx19 h=>(B h fun x20 hx20 h=>(Y 2 4 (T.drawn mixed (k:=9) rfl ?_))))))))
   apply RA.jn 1 (bm 9 255);intro hS4
   ·refine rq [0,1,2,3,5,6] 3 (ra2 4 7 ?_ ?_)
    ·exact oO rfl (o_slice_vw (en:=encKeyed) (xs:=(cpy x8 ((p0).toNat) ((((x8).length:Int)).toNat - (p0).toNat) p2)) Ty.s120 rfl rfl rfl rfl hx17 (ra1 7 (oO rfl (o_slice_vc Ty.s120 rfl rfl rfl hx18 (raE hS4)))))
    ·exact oO rfl (o_slice_vc Ty.s120 rfl rfl rfl hx18 (ra1 4 (oO rfl (o_slice_vw (en:=encKeyed) (xs:=(cpy x8 ((p0).toNat) ((((x8).length:Int)).toNat - (p0).toNat) p2)) Ty.s120 rfl rfl rfl rfl hx17 (raT hS4)))))
   refine ra1 8 (oO rfl (o_copy_v2 (en:=encKeyed) (xs:=(cpy x8 ((p0).toNat) ((((x8).length:Int)).toNat - (p0).toNat) p2)) (ys:=p1) Ty.s120 (fun _=>rfl) rfl rfl rfl rfl hx19 hx20 rfl (RA.done (by decide +kernel) (X 5 4 ?_))))
   cases h
   exact tO [] [0,1,3] 4
  refine B h fun x22 hx22 h=>(X 7 3 (sO (o_room (en:=encKeyed) (xs:=p1) Ty.s120 rfl rfl rfl rfl hx22 rfl rfl (B h fun x25 hx25 h=>(B h fun x26 hx26 h=>(Y 10 4 (sO (o_slice_U (en:=encKeyed) (xs:=p1) Ty.s120 rfl rfl rfl rfl hx25 (sO (o_overlaps (fn:=Tryz.f134) (tS:=120) (tR:=4) (en:=encKeyed) (xs:=p1) (ys:=p2) Tryz.func134 (by kernel_rfl) (by kernel_rfl) (by kernel_rfl) (by kernel_rfl) Ty.s120 rfl rfl rfl rfl hx26 (B h fun x30 hx30 h=>(B h fun x31 hx31 h=>?_))))))))))))
  refine B h fun x32 hx32 h=>(Y 4 4 (T.drawn mixed (k:=9) rfl ?_))
  apply RA.jn 1 (bm 9 255);intro hS5
  ·refine rq [0,1,2,3,5,6] 3 (ra2 4 7 ?_ ?_)
   ·exact oO rfl (o_slice_U (en:=encKeyed) (xs:=p1) Ty.s120 rfl rfl rfl rfl hx30 (ra1 7 (oO rfl (o_slice_U (en:=encKeyed) (xs:=p1) Ty.s120 rfl rfl rfl rfl hx31 (raE hS5)))))
   ·exact oO rfl (o_slice_U (en:=encKeyed) (xs:=p1) Ty.s120 rfl rfl rfl rfl hx31 (ra1 4 (oO rfl (o_slice_U (en:=encKeyed) (xs:=p1) Ty.s120 rfl rfl rfl rfl hx30 (raT hS5)))))
  refine ra1 8 (oO rfl (o_copy_U (en:=encKeyed) (xs:=p1) Ty.s120 (fun _=>rfl) rfl rfl rfl hx32 rfl (RA.done (by decide +kernel) (B h fun x35 hx35 h=>(B h fun x36 hx36 h=>(X 4 4 (sO (o_slice_vw (en:=encKeyed) (xs:=x32) Ty.s120 rfl rfl rfl rfl hx35 (Y 1 4 (sO (o_copy_vr (en:=encKeyed) (xs:=x32) (ys:=p2) Ty.s120 (fun _=>rfl) rfl rfl rfl rfl hx36 rfl (Y 6 4 ?_))))))))))))
  cases h
  exact tO [] [0,1,3] 4
theorem stage_Step_c {p0:Int} {p1:Int} {p2:Memory} {p3:Item} {r:Memory × Item × Int} (h:stage_Step p0 p1 p2 p3=some r):Fn Tryz.prog 87 [iI p0,iI p1,.agg (encMemory p2),.agg (encItem p3)] (.tup [.agg (encMemory r.1),.agg (encItem r.2.1),iI r.2.2]):=by
  unfold stage_Step at h
  refine fT 0 0 Tryz.func87 Tryz.ntmps87 rfl ?_
  refine B h fun x2 hx2 h=>(X 12 0 (sO (cF (stage_Check_c hx2) ⟨rfl,(Y 7 4 (T.ci h rfl (fun hb_1 h=>?_) (fun hb_1 h=>?_)))⟩)))
  ·refine X 9 4 ?_
   cases h
   exact tD
  refine X 8 4 (T.ci h rfl (fun hb_2 h=>?_) (fun hb_2 h=>?_))
  ·refine X 8 4 ?_
   cases h
   exact tD
  refine B h fun x4 hx4 h=>(X 4 4 (sO (cG [] 4 1 (FnX.of_fnO (stage_Copy_c hx4)) ⟨rfl,(Y 13 5 (T.ci h rfl (fun hb_3 h=>?_) (fun hb_3 h=>?_)))⟩)))
  ·refine X 1 5 (j1 [(1,iI p1),(6,.ptr 0 0),(7,.ptr 1 0),(8,.ptr 2 0),(9,.ptr 3 0),(36,.bool ((decide (p1<0)) || decide (p1 > 3)))] [.box [iI x4.Sum,.ref 4,iI x4.Dep],.box (encItem p3),.box [iI 0,.nils,iI 0],.box [iI 0,iI 0,iI 0],aR 161 2 encKeyed x4.Keys] ?_ (fun hK=>?_))
   ·refine T.ci h rfl (fun hb_5 h=>?_) (fun hb_5 h=>?_)
    ·refine X 8 5 ?_
     cases h
     exact tD
    refine B h fun x7 hx7 h=>(X 2 5 (T.drawn mixed (k:=7) rfl ?_))
    apply RA.jn 3 (bm 7 15);intro hS6
    ·refine rq [1] 6 (rL [2,3,4,5,6] 2 rfl (ra2 0 3 ?_ ?_))
     ·exact og 5 ⟨rfl,(ra1 3 (oO rfl (cF (stage_mapped_c hx7) ⟨rfl,(raE hS6)⟩)))⟩
     ·exact oO rfl (cF (stage_mapped_c hx7) ⟨rfl,(ra1 0 (og 5 ⟨rfl,(raT hS6)⟩))⟩)
    refine ra1 4 (og 5 ⟨rfl,(ra1 5 (og 5 ⟨rfl,(rq [6] 0 (RA.done (by decide +kernel) ?_))⟩))⟩)
    cases h
    exact tD
   refine X 5 5 (gp 33 (fun hb_4=>?_) (fun hb_4=>?_))
   ·refine Yp 4 5 ?_
    rw [hb_4] at hK
    exact sx hK
   refine Yp 4 5 ?_
   rw [hb_4] at hK
   exact sx hK
  refine X 5 5 (T.ci h rfl (fun hb_7 h=>?_) (fun hb_7 h=>?_))
  ·refine X 21 5 (T.drawn mixed (k:=11) rfl ?_)
   apply RA.jn 2 (bm 11 511);intro hS8
   apply RA.jn 3 (bm 11 255);intro hS9
   apply RA.jn 4 (bm 11 319);intro hS10
   apply RA.jn 4 (bm 11 367);intro hS11
   apply RA.jn 5 (bm 11 111);intro hS12
   apply RA.jn 5 (bm 11 123);intro hS13
   apply RA.jn 5 (bm 11 63);intro hS14
   ·refine rq [1,3,5] 8 (rL [0,8,9,10] 0 rfl (ra4 2 4 6 8 ?_ ?_ ?_ ?_))
    ·refine og 5 ⟨rfl,(ra3 4 6 8 ?_ ?_ ?_)⟩
     ·exact og 5 ⟨rfl,(raE hS14)⟩
     ·exact og 5 ⟨rfl,(raE hS12)⟩
     ·exact og 5 ⟨rfl,(rL [4,7,9,10] 4 rfl (raE hS10))⟩
    ·refine og 5 ⟨rfl,(ra3 2 6 8 ?_ ?_ ?_)⟩
     ·exact og 5 ⟨rfl,(raT hS14)⟩
     ·exact og 5 ⟨rfl,(raE hS13)⟩
     ·exact og 5 ⟨rfl,(rL [2,7,9,10] 2 rfl (raT hS10))⟩
    ·refine og 5 ⟨rfl,(ra3 2 4 8 ?_ ?_ ?_)⟩
     ·exact og 5 ⟨rfl,(raT hS12)⟩
     ·exact og 5 ⟨rfl,(raT hS13)⟩
     ·exact og 5 ⟨rfl,(rL [2,7,9,10] 2 rfl (raE hS11))⟩
    ·exact og 5 ⟨rfl,(rL [2,7,9,10] 2 rfl (rL [4,7,9,10] 4 rfl (raT hS10)))⟩
   ·refine ra2 6 8 ?_ ?_
    ·exact og 5 ⟨rfl,(rq [7] 3 (raE hS9))⟩
    ·exact og 5 ⟨rfl,(raT hS10)⟩
   ·refine ra2 2 8 ?_ ?_
    ·exact og 5 ⟨rfl,(rq [7] 3 (raT hS9))⟩
    ·exact og 5 ⟨rfl,(ra1 2 (og 5 ⟨rfl,(rq [7] 2 (raE hS8))⟩))⟩
   ·refine ra2 4 8 ?_ ?_
    ·exact og 5 ⟨rfl,(rq [7] 3 (raT hS9))⟩
    ·exact og 5 ⟨rfl,(raT hS11)⟩
   ·exact ra1 4 (og 5 ⟨rfl,(rq [7] 2 (raT hS8))⟩)
   ·exact ra1 6 (og 5 ⟨rfl,(rq [7] 2 (raT hS8))⟩)
   ·exact ra1 8 (og 5 ⟨rfl,(raT hS8)⟩)
   refine ra1 9 (og 5 ⟨rfl,(rq [10] 0 (RA.done (by decide +kernel) ?_))⟩)
   cases h
   exact tD
  refine X 5 5 (T.ci h rfl (fun hb_15 h=>?_) (fun hb_15 h=>?_))
  ·refine B h fun x9 hx9 h=>(X 6 5 (sO (cF (slices_BinarySearchFunc_Keyed_x37fe_c hx9) ⟨rfl,(Y 17 5 (j1 [(6,.ptr 0 0),(7,.ptr 1 0),(8,.ptr 2 0),(9,.ptr 3 0),(12,iI x9.1),(13,.bool x9.2),(88,.bool ((!x9.2) && ((x4.Keys).length:Int)==6))] [.box [iI x4.Sum,.ref 4,iI (if p3.Dep > x4.Dep then p3.Dep else x4.Dep)],.box (encItem p3),.box [iI 0,.nils,iI 0],.box [iI 0,iI 0,iI 0],aR 161 2 encKeyed x4.Keys] ?_ (fun hK=>?_)))⟩)))
   ·refine T.ci h rfl (fun hb_17 h=>?_) (fun hb_17 h=>?_)
    ·refine X 1 5 (T.drawn mixed (k:=9) rfl ?_)
     apply RA.jn 2 (bm 9 127);intro hS18
     apply RA.jn 3 (bm 9 63);intro hS19
     apply RA.jn 4 (bm 9 79);intro hS20
     ·refine rq [1,3] 7 (rL [0,6,7,8] 0 rfl (ra3 2 4 6 ?_ ?_ ?_))
      ·refine og 5 ⟨rfl,(ra2 4 6 ?_ ?_)⟩
       ·exact og 5 ⟨rfl,(rq [5] 3 (raE hS19))⟩
       ·exact og 5 ⟨rfl,(raE hS20)⟩
      ·refine og 5 ⟨rfl,(ra2 2 6 ?_ ?_)⟩
       ·exact og 5 ⟨rfl,(rq [5] 3 (raT hS19))⟩
       ·exact og 5 ⟨rfl,(ra1 2 (og 5 ⟨rfl,(rq [5] 2 (raE hS18))⟩))⟩
      ·exact og 5 ⟨rfl,(rL [2,5,7,8] 2 rfl (raT hS20))⟩
     ·exact ra1 4 (og 5 ⟨rfl,(rq [5] 2 (raT hS18))⟩)
     ·exact ra1 6 (og 5 ⟨rfl,(raT hS18)⟩)
     refine ra1 7 (og 5 ⟨rfl,(rq [8] 0 (RA.done (by decide +kernel) ?_))⟩)
     cases h
     exact tD
    refine X 1 5 (jn (Z:=List Keyed) (fun zz_22=>mkA 137 [(6,.ptr 0 0),(7,.ptr 1 0),(8,.ptr 2 0),(9,.ptr 3 0),(12,iI x9.1)]) (fun zz_22=>[.box [iI x4.Sum,.ref 4,iI (if p3.Dep > x4.Dep then p3.Dep else x4.Dep)],.box (encItem p3),.box [iI 0,.nils,iI 0],.box [iI 0,iI 0,iI 0],aR 161 2 encKeyed zz_22]) (fun zz_22=>stage_Step_k1 p3 x4 x9 zz_22=some r) (fun zz_22 h=>?_) (fun hK1=>?_))
    ·revert h;revert zz_22;intro z12 h
     replace h:stage_Step_k1 p3 x4 x9 z12=some r:=h
     try dsimp only
     unfold stage_Step_k1 at h
     refine B h fun x17 hx17 h=>(B h fun x18 hx18 h=>(B h fun x19 hx19 h=>(B h fun x20 hx20 h=>(X 5 5 (sQ (v_index_ref' (en:=encKeyed) Ty.s120 rfl rfl rfl hx17 (Y 1 5 (sO (o_load_aptr' (en:=encKeyed) (a:=x18) rfl rfl hx18 (loadRow1 Ty.k3 (c:=iI x18.N) rfl (Y 1 5 (sQ (v_index_ref' (en:=encKeyed) Ty.s120 rfl rfl rfl hx19 ?_)))))))))))))
     refine Y 1 5 (sO (o_store_aptr' (en:=encKeyed) (a:=x20) (a':=(⟨x20.Key,IntKind.i64.wrap (x18.N+1)⟩:Keyed)) Ty.c3 Ty.i3 rfl (vs:=[iI (IntKind.i64.wrap (x18.N+1))]) rfl rfl rfl hx20 rfl rfl rfl (B h fun x23 hx23 h=>(B h fun x24 hx24 h=>(Y 2 5 (T.drawn mixed (k:=15) rfl ?_))))))
     apply RA.jn 2 (bm 15 8191);intro hS23
     apply RA.jn 3 (bm 15 4095);intro hS24
     apply RA.jn 4 (bm 15 5887);intro hS25
     apply RA.jn 4 (bm 15 5119);intro hS26
     apply RA.jn 5 (bm 15 1791);intro hS27
     apply RA.jn 5 (bm 15 2043);intro hS28
     apply RA.jn 5 (bm 15 1023);intro hS29
     apply RA.jn 6 (bm 15 1787);intro hS30
     apply RA.jn 6 (bm 15 767);intro hS31
     apply RA.jn 7 (bm 15 763);intro hS32
     apply RA.jn 8 (bm 15 1583);intro hS33
     apply RA.jn 9 (bm 15 1579);intro hS34
     apply RA.jn 9 (bm 15 1582);intro hS35
     apply RA.jn 9 (bm 15 559);intro hS36
     ·refine rq [1,3,5,9] 11 (ra4 0 2 4 10 ?_ ?_ ?_ ?_)
      ·refine og 5 ⟨rfl,(ra4 2 4 10 12 ?_ ?_ ?_ ?_)⟩
       ·exact og 5 ⟨rfl,(raE hS36)⟩
       ·exact og 5 ⟨rfl,(r0 6 rfl (v_index_ref' (en:=encKeyed) Ty.s120 rfl rfl rfl hx23 (rq [7] 7 (raE hS32))))⟩
       ·exact og 5 ⟨rfl,(raE hS34)⟩
       ·exact og 5 ⟨rfl,(rL [4,6,7,8,11,13,14] 4 rfl (r0 6 rfl (v_index_ref' (en:=encKeyed) Ty.s120 rfl rfl rfl hx23 (rq [7] 6 (rL [2,11,13,14] 2 rfl (rL [10,11,13,14] 10 rfl (raE hS25)))))))⟩
      ·refine og 5 ⟨rfl,(ra3 0 4 10 ?_ ?_ ?_)⟩
       ·exact og 5 ⟨rfl,(raT hS36)⟩
       ·exact og 5 ⟨rfl,(r0 6 rfl (v_index_ref' (en:=encKeyed) Ty.s120 rfl rfl rfl hx23 (rq [7] 7 (rL [0,12,13,14] 0 rfl (raE hS31)))))⟩
       ·exact og 5 ⟨rfl,(raE hS35)⟩
      ·exact og 5 ⟨rfl,(r0 6 rfl (v_index_ref' (en:=encKeyed) Ty.s120 rfl rfl rfl hx23 (rq [7] 8 (rL [0,12,13,14] 0 rfl (raT hS32)))))⟩
      ·refine og 5 ⟨rfl,(ra3 0 2 4 ?_ ?_ ?_)⟩
       ·exact og 5 ⟨rfl,(raT hS34)⟩
       ·exact og 5 ⟨rfl,(raT hS35)⟩
       ·exact og 5 ⟨rfl,(r0 6 rfl (v_index_ref' (en:=encKeyed) Ty.s120 rfl rfl rfl hx23 (rq [7] 7 (rL [0,12,13,14] 0 rfl (raE hS30)))))⟩
     ·refine ra3 4 10 12 ?_ ?_ ?_
      ·exact og 5 ⟨rfl,(r0 6 rfl (v_index_ref' (en:=encKeyed) Ty.s120 rfl rfl rfl hx23 (rq [7] 6 (raT hS31))))⟩
      ·exact og 5 ⟨rfl,(raE hS33)⟩
      ·exact og 5 ⟨rfl,(rL [4,6,7,8,11,13,14] 4 rfl (r0 6 rfl (v_index_ref' (en:=encKeyed) Ty.s120 rfl rfl rfl hx23 (rq [7] 5 (rL [10,11,13,14] 10 rfl (raT hS25))))))⟩
     ·refine ra2 0 4 ?_ ?_
      ·exact og 5 ⟨rfl,(raT hS33)⟩
      ·exact og 5 ⟨rfl,(r0 6 rfl (v_index_ref' (en:=encKeyed) Ty.s120 rfl rfl rfl hx23 (rq [7] 6 (rL [0,12,13,14] 0 rfl (raE hS27)))))⟩
     ·refine ra3 2 4 12 ?_ ?_ ?_
      ·exact og 5 ⟨rfl,(raT hS33)⟩
      ·exact og 5 ⟨rfl,(r0 6 rfl (v_index_ref' (en:=encKeyed) Ty.s120 rfl rfl rfl hx23 (rq [7] 6 (raT hS30))))⟩
      ·exact og 5 ⟨rfl,(rL [4,6,7,8,11,13,14] 4 rfl (r0 6 rfl (v_index_ref' (en:=encKeyed) Ty.s120 rfl rfl rfl hx23 (rq [7] 5 (rL [2,11,13,14] 2 rfl (raT hS25))))))⟩
     ·refine ra2 4 12 ?_ ?_
      ·exact og 5 ⟨rfl,(r0 6 rfl (v_index_ref' (en:=encKeyed) Ty.s120 rfl rfl rfl hx23 (rq [7] 5 (raT hS27))))⟩
      ·exact og 5 ⟨rfl,(ra1 4 (og 5 ⟨rfl,(r0 6 rfl (v_index_ref' (en:=encKeyed) Ty.s120 rfl rfl rfl hx23 (rq [7] 4 (raT hS25))))⟩))⟩
     ·refine ra4 2 8 10 12 ?_ ?_ ?_ ?_
      ·exact og 5 ⟨rfl,(raT hS31)⟩
      ·refine oO rfl (o_load_aptr' (en:=encKeyed) (a:=x24) rfl rfl hx24 (loadRow1 Ty.k3 (c:=iI x24.N) rfl (ra3 2 10 12 ?_ ?_ ?_)))
       ·exact og 5 ⟨rfl,(raE hS29)⟩
       ·exact og 5 ⟨rfl,(raE hS28)⟩
       ·exact og 5 ⟨rfl,(rL [2,11,13,14] 2 rfl (raE hS26))⟩
      ·exact og 5 ⟨rfl,(raT hS30)⟩
      ·exact og 5 ⟨rfl,(rL [2,11,13,14] 2 rfl (rL [10,11,13,14] 10 rfl (raT hS25)))⟩
     ·refine ra3 8 10 12 ?_ ?_ ?_
      ·exact oO rfl (o_load_aptr' (en:=encKeyed) (a:=x24) rfl rfl hx24 (loadRow1 Ty.k3 (c:=iI x24.N) rfl (raT hS29)))
      ·exact og 5 ⟨rfl,(raT hS27)⟩
      ·exact og 5 ⟨rfl,(rL [10,11,13,14] 10 rfl (raT hS25))⟩
     ·refine ra3 2 8 12 ?_ ?_ ?_
      ·exact og 5 ⟨rfl,(raT hS27)⟩
      ·exact oO rfl (o_load_aptr' (en:=encKeyed) (a:=x24) rfl rfl hx24 (loadRow1 Ty.k3 (c:=iI x24.N) rfl (raT hS28)))
      ·exact og 5 ⟨rfl,(rL [2,11,13,14] 2 rfl (raT hS25))⟩
     ·refine ra2 10 12 ?_ ?_
      ·exact og 5 ⟨rfl,(rq [11] 3 (raE hS24))⟩
      ·exact og 5 ⟨rfl,(raT hS26)⟩
     ·refine ra2 2 12 ?_ ?_
      ·exact og 5 ⟨rfl,(rq [11] 3 (raT hS24))⟩
      ·exact og 5 ⟨rfl,(ra1 2 (og 5 ⟨rfl,(rq [11] 2 (raE hS23))⟩))⟩
     ·refine ra2 8 12 ?_ ?_
      ·exact oO rfl (o_load_aptr' (en:=encKeyed) (a:=x24) rfl rfl hx24 (loadRow1 Ty.k3 (c:=iI x24.N) rfl (rq [11] 3 (raT hS24))))
      ·exact og 5 ⟨rfl,(raT hS25)⟩
     ·exact ra1 10 (og 5 ⟨rfl,(rq [11] 2 (raT hS23))⟩)
     ·exact ra1 8 (oO rfl (o_load_aptr' (en:=encKeyed) (a:=x24) rfl rfl hx24 (loadRow1 Ty.k3 (c:=iI x24.N) rfl (rq [11] 2 (raT hS23)))))
     ·exact ra1 12 (og 5 ⟨rfl,(raT hS23)⟩)
     refine ra1 13 (og 5 ⟨rfl,(rq [14] 0 (RA.done (by decide +kernel) ?_))⟩)
     cases h
     exact tD
    refine X 6 5 (T.ci h rfl (fun hb_37 h=>?_) (fun hb_37 h=>?_))
    ·exact B h fun x11 hx11 h=>(X 7 5 (sO (o_buildSlice (rows:=List.map encKeyed [(⟨p3.Key,0⟩:Keyed)]) (vs:=[.agg [iI p3.Key,iI 0]]) Ty.s120 Ty.z161 rfl rfl rfl rfl rfl rfl (sO (cG [4,5] 6 3 (slices_Insert_Keyed_xe708_c hx11) ⟨rfl,(Y 3 7 (wu (hK1 x11 h) [] [0,1,2,3,6] 7 rfl))⟩)))))
    exact X 1 5 (sx (hK1 x4.Keys h))
   refine X 5 5 (gp 83 (fun hb_16=>?_) (fun hb_16=>?_))
   ·refine Y 2 5 (yQ rfl (v_len_ref (en:=encKeyed) Ty.s120 rfl rfl (Yp 3 5 ?_)))
    rw [hb_16] at hK
    exact sx hK
   refine Yp 6 5 ?_
   rw [hb_16] at hK
   exact sx hK
  refine X 6 5 (T.ci h rfl (fun hb_38 h=>?_) (fun hb_38 h=>?_))
  ·refine X 1 5 (T.ci h rfl (fun hb_39 h=>?_) (fun hb_39 h=>?_))
   ·refine X 1 5 (T.drawn mixed (k:=5) rfl ?_)
    apply RA.jn 2 (bm 5 7);intro hS40
    ·refine rL [0,2,3,4] 0 rfl (ra2 1 2 ?_ ?_)
     ·exact og 5 ⟨rfl,(ra1 2 (og 5 ⟨rfl,(raE hS40)⟩))⟩
     ·exact og 5 ⟨rfl,(ra1 1 (og 5 ⟨rfl,(raT hS40)⟩))⟩
    refine ra1 3 (og 5 ⟨rfl,(rq [4] 0 (RA.done (by decide +kernel) ?_))⟩)
    cases h
    exact tD
   refine X 9 5 ?_
   cases h
   exact tD
  refine X 5 5 (T.ci h rfl (fun hb_41 h=>?_) (fun hb_41 h=>?_))
  ·refine X 1 5 (T.ci h rfl (fun hb_42 h=>?_) (fun hb_42 h=>?_))
   ·refine X 1 5 (T.drawn mixed (k:=5) rfl ?_)
    apply RA.jn 2 (bm 5 7);intro hS43
    ·refine rL [0,2,3,4] 0 rfl (ra2 1 2 ?_ ?_)
     ·exact og 5 ⟨rfl,(ra1 2 (og 5 ⟨rfl,(raE hS43)⟩))⟩
     ·exact og 5 ⟨rfl,(ra1 1 (og 5 ⟨rfl,(raT hS43)⟩))⟩
    refine ra1 3 (og 5 ⟨rfl,(rq [4] 0 (RA.done (by decide +kernel) ?_))⟩)
    cases h
    exact tD
   refine X 9 5 ?_
   cases h
   exact tD
  refine X 5 5 (T.ci h rfl (fun hb_44 h=>?_) (fun hb_44 h=>?_))
  ·refine X 1 5 (T.ci h rfl (fun hb_45 h=>?_) (fun hb_45 h=>?_))
   ·refine X 1 5 (T.drawn mixed (k:=5) rfl ?_)
    apply RA.jn 2 (bm 5 7);intro hS46
    ·refine rL [0,2,3,4] 0 rfl (ra2 1 2 ?_ ?_)
     ·exact og 5 ⟨rfl,(ra1 2 (og 5 ⟨rfl,(raE hS46)⟩))⟩
     ·exact og 5 ⟨rfl,(ra1 1 (og 5 ⟨rfl,(raT hS46)⟩))⟩
    refine ra1 3 (og 5 ⟨rfl,(rq [4] 0 (RA.done (by decide +kernel) ?_))⟩)
    cases h
    exact tD
   refine X 9 5 ?_
   cases h
   exact tD
  refine X 5 5 (T.ci h rfl (fun hb_47 h=>?_) (fun hb_47 h=>?_))
  ·refine X 1 5 (T.ci h rfl (fun hb_48 h=>?_) (fun hb_48 h=>?_))
   ·refine X 1 5 (T.drawn mixed (k:=5) rfl ?_)
    apply RA.jn 2 (bm 5 7);intro hS49
    ·refine rL [0,2,3,4] 0 rfl (ra2 1 2 ?_ ?_)
     ·exact og 5 ⟨rfl,(ra1 2 (og 5 ⟨rfl,(raE hS49)⟩))⟩
     ·exact og 5 ⟨rfl,(ra1 1 (og 5 ⟨rfl,(raT hS49)⟩))⟩
    refine ra1 3 (og 5 ⟨rfl,(rq [4] 0 (RA.done (by decide +kernel) ?_))⟩)
    cases h
    exact tD
   refine X 9 5 ?_
   cases h
   exact tD
  refine X 4 5 (T.ci h rfl (fun hb_50 h=>?_) (fun hb_50 h=>?_))
  ·refine X 1 5 (T.drawn mixed (k:=5) rfl ?_)
   apply RA.jn 2 (bm 5 7);intro hS51
   ·refine rL [0,2,3,4] 0 rfl (ra2 1 2 ?_ ?_)
    ·exact og 5 ⟨rfl,(ra1 2 (og 5 ⟨rfl,(raE hS51)⟩))⟩
    ·exact og 5 ⟨rfl,(ra1 1 (og 5 ⟨rfl,(raT hS51)⟩))⟩
   refine ra1 3 (og 5 ⟨rfl,(rq [4] 0 (RA.done (by decide +kernel) ?_))⟩)
   cases h
   exact tD
  refine X 9 5 ?_
  cases h
  exact tD
theorem move_can_c {p0:Net} {p1:List (List Item)} {p2:State} {p3:Move} {r:Bool} (h:move_can p0 p1 p2 p3=some r):Fn Tryz.prog 83 [.agg (encNet p0),sL (encL encItem) p1,.agg (encState p2),.agg (encMove p3)] (.bool r):=by
  unfold move_can at h
  refine fT 0 0 Tryz.func83 Tryz.ntmps83 rfl ?_
  refine B h fun x2 hx2 h=>(X 13 0 (sQ (v_index_sl Ty.s22 (fun _=>rfl) rfl rfl hx2 (B h fun x4 hx4 h=>(Y 10 3 (sO (cF (move_head_c hx4) ⟨rfl,(Y 8 4 ?_)⟩)))))))
  obtain ⟨zt_2,hz,h⟩:=bind_some h
  revert hz h;revert zt_2;intro c7 hz h
  refine j1 [(6,.ptr 0 0),(7,.ptr 1 0),(9,.ptr 2 0),(10,.ptr 3 0),(37,.bool c7)] [.box (encState p2),.box (encMove p3),.box (encNode x2),.box (encItem x4.1)] ?_ (fun hK=>?_)
  ·refine T.ci h rfl (fun hb_3 h=>?_) (fun hb_3 h=>?_)
   ·refine X 4 4 ?_
    cases h
    exact tD
   refine X 2 4 (j1 [(6,.ptr 0 0),(7,.ptr 1 0),(9,.ptr 2 0),(10,.ptr 3 0),(57,.bool (if (x2.Kind==6)=true then ((((p2.Choices).length:Int)==500) || ((x2.Kind==8) && ((p2.Out).length:Int)==2000)) else ((x2.Kind==8) && ((p2.Out).length:Int)==2000)))] [.box (encState p2),.box (encMove p3),.box (encNode x2),.box (encItem x4.1)] ?_ (fun hK=>?_))
   ·refine T.ci h rfl (fun hb_8 h=>?_) (fun hb_8 h=>?_)
    ·refine X 4 4 ?_
     cases h
     exact tD
    refine B h fun x11 hx11 h=>(B h fun x12 hx12 h=>(X 2 4 (T.drawn mixed (k:=21) rfl ?_)))
    apply RA.jn 3 (bm 21 262143);intro hS9
    apply RA.jn 4 (bm 21 196607);intro hS10
    apply RA.jn 4 (bm 21 131071);intro hS11
    apply RA.jn 8 (bm 21 198655);intro hS12
    ·refine rq [0,2,4,6] 17 (rL [1,11,12,13,14,15,18,19,20] 1 rfl (rL [3,11,12,13,14,15,18,19,20] 3 rfl (rL [5,8,9,11,12,13,14,15,18,19,20] 5 rfl (rL [7,8,9,11,12,13,14,15,18,19,20] 7 rfl (r0 8 rfl (v_index_sl Ty.s50 (fun _=>rfl) rfl rfl hx11 (rL [9,11,12,13,14,15,18,19,20] 9 rfl (rL [10,11,12,13,14,15,18,19,20] 10 rfl (ra3 11 16 17 ?_ ?_ ?_)))))))))
     ·refine oO rfl (cD (stage_Step_c hx12) ⟨rfl,(rq [12,13,14,15] 5 (ra2 16 17 ?_ ?_))⟩)
      ·exact og 4 ⟨rfl,(raE hS11)⟩
      ·exact og 4 ⟨rfl,(raE hS10)⟩
     ·refine og 4 ⟨rfl,(ra2 11 17 ?_ ?_)⟩
      ·exact oO rfl (cD (stage_Step_c hx12) ⟨rfl,(rq [12,13,14,15] 4 (raT hS11))⟩)
      ·exact og 5 ⟨rfl,(raE hS12)⟩
     ·refine og 4 ⟨rfl,(ra2 11 16 ?_ ?_)⟩
      ·exact oO rfl (cD (stage_Step_c hx12) ⟨rfl,(rq [12,13,14,15] 4 (raT hS10))⟩)
      ·exact og 5 ⟨rfl,(raV hS12 [0,1,2,3,5,4] rfl)⟩
    ·exact ra1 11 (oO rfl (cD (stage_Step_c hx12) ⟨rfl,(rq [12,13,14,15] 3 (raE hS9))⟩))
    ·exact ra1 17 (og 5 ⟨rfl,(raT hS9)⟩)
    ·exact ra1 16 (og 5 ⟨rfl,(raV hS9 [0,1,2,3,5,4] rfl)⟩)
    refine ra1 18 (og 6 ⟨rfl,(ra1 19 (og 6 ⟨rfl,(rq [20] 0 (RA.done (by decide +kernel) (X 6 6 ?_)))⟩))⟩)
    cases h
    exact tD
   refine X 6 4 (gp 41 (fun hb_4=>?_) (fun hb_4=>?_))
   ·refine Y 2 4 (yQ rfl (v_len_sl Ty.s51 rfl (Yp 3 4 (gp 47 (fun hb_5=>?_) (fun hb_5=>?_)))))
    ·refine Yp 11 4 ?_
     rw [hb_4] at hK
     rw [hb_5] at hK
     exact sx hK
    refine Y 4 4 (gp 51 (fun hb_6=>?_) (fun hb_6=>?_))
    ·refine Y 2 4 (yQ rfl (v_len_sl Ty.s26 rfl (Yp 4 4 ?_)))
     rw [hb_4] at hK
     rw [hb_5] at hK
     rw [hb_6] at hK
     exact sx hK
    refine Yp 7 4 ?_
    rw [hb_4] at hK
    rw [hb_5] at hK
    rw [hb_6] at hK
    exact sx hK
   refine Yp 10 4 (gp 51 (fun hb_7=>?_) (fun hb_7=>?_))
   ·refine Y 2 4 (yQ rfl (v_len_sl Ty.s26 rfl (Yp 4 4 ?_)))
    rw [hb_4] at hK
    rw [hb_7] at hK
    exact sx hK
   refine Yp 7 4 ?_
   rw [hb_4] at hK
   rw [hb_7] at hK
   exact sx hK
  refine X 5 5 (gi 31 hz (fun hb_1 hz=>?_) (fun hb_1 hz=>?_))
  ·refine Yp 7 5 ?_
   cases hz
   exact wu hK [] [1,2,3,4] 5 rfl
  refine B hz fun x5 hx5 hz=>(B hz fun x6 hx6 hz=>(Y 2 5 (yO rfl (cD (move_outs_c hx5) ⟨rfl,(Y 1 5 (yO rfl (cG [1,0] 5 2 (slices_ContainsFunc_int_x9c8e_c hx6) ⟨rfl,(Yp 2 5 ?_)⟩)))⟩))))
  cases hz
  exact wu hK [] [1,2,3,4] 5 rfl
theorem move_ready_c {p0:Net} {p1:List (List Item)} {p2:State} {r:List Move} (h:move_ready p0 p1 p2=some r):FnO Tryz.prog 56 [.agg (encNet p0),sL (encL encItem) p1,.agg (encState p2)] (.ref 0) [aR 88 2 encMove r]:=by
  unfold move_ready at h
  refine fT 0 15 Tryz.func56 Tryz.ntmps56 rfl (sQ (v_len_sl Ty.s22 rfl (Y 3 2 (itr (fun ss_27:Int × (List Move)=>mkA 46 [(1,sL (encL encItem) p1),(3,.ptr 0 0),(5,.ptr 1 0),(7,.ref 2),(14,sL encNode p0.Nodes),(15,iI ((p0.Nodes).length:Int)),(16,iI ss_27.1)]) (fun ss_27=>[.box (encNet p0),.box (encState p2),aR 88 2 encMove ss_27.2]) h (wk [(7,88,2)] [0,1,2] 2 rfl) (fun ss_27 v_28 h hv_28=>?_)))))
  obtain ⟨s1,s2⟩:=ss_27
  replace h:move_ready_l3 p0 p1 p2 s1 s2=some v_28:=h
  try dsimp only
  unfold move_ready_l3 at h
  refine X 5 3 (T.ci h rfl (fun hb_29 h=>?_) (fun hb_29 h=>?_))
  ·refine B h fun x4 hx4 h=>(X 6 3 (sQ (v_index_sl Ty.s22 (fun _=>rfl) rfl rfl hx4 (Y 9 3 (jn (Z:=Int) (fun zz_31=>mkA 46 [(1,sL (encL encItem) p1),(3,.ptr 0 0),(5,.ptr 1 0),(7,.ref 2),(8,iI s1),(10,iI zz_31),(14,sL encNode p0.Nodes),(15,iI ((p0.Nodes).length:Int)),(16,iI s1)]) (fun zz_31=>[.box (encNet p0),.box (encState p2),aR 88 2 encMove s2]) (fun zz_31=>move_ready_k2 p0 p1 s1 p2 s2 zz_31=some v_28) (fun zz_31 h=>?_) (fun hK2=>?_))))))
   ·revert h;revert zz_31;intro z5 h
    replace h:move_ready_k2 p0 p1 s1 p2 s2 z5=some v_28:=h
    try dsimp only
    unfold move_ready_k2 at h
    refine X 6 3 (itr (fun ss_36:Int × (List Move)=>mkA 46 [(1,sL (encL encItem) p1),(3,.ptr 0 0),(5,.ptr 1 0),(7,.ref 2),(8,iI s1),(14,sL encNode p0.Nodes),(15,iI ((p0.Nodes).length:Int)),(16,iI s1),(27,iI z5),(28,iI ss_36.1)]) (fun ss_36=>[.box (encNet p0),.box (encState p2),aR 88 2 encMove ss_36.2]) h (wk [] [0,1,2] 3 rfl) (fun ss_36 v_37 h hv_37=>?_))
    obtain ⟨s6,s7⟩:=ss_36
    replace h:move_ready_l1 p0 p1 s1 p2 z5 s6 s7=some v_37:=h
    try dsimp only
    unfold move_ready_l1 at h
    refine X 5 3 (T.ci h rfl (fun hb_38 h=>?_) (fun hb_38 h=>?_))
    ·refine B h fun x9 hx9 h=>(X 22 3 (sO (cF (move_can_c hx9) ⟨rfl,(Y 1 4 (T.ci h rfl (fun hb_39 h=>?_) (fun hb_39 h=>?_)))⟩)))
     ·exact B h fun x10 hx10 h=>(X 3 4 (sO (o_buildSlice (rows:=List.map encMove [(⟨s1,s6⟩:Move)]) (vs:=[.agg [iI s1,iI s6]]) Ty.s84 Ty.z88 rfl rfl rfl rfl rfl rfl (sO (o_app_ref (en:=encMove) (xs:=s7) (ys:=([(⟨s1,s6⟩:Move)]:List Move)) Ty.s84 (fun _=>rfl) rfl rfl rfl hx10 rfl rfl (Y 6 6 (lk h (wk [] [0,1,5] 6 rfl))))))))
     exact X 5 4 (lk h (wk [] [0,1,2] 4 rfl))
    refine X 1 3 ?_
    replace h:=mi h hv_37
    exact X 4 3 (lk h (wk [] [0,1,2] 3 rfl))
   refine X 7 4 (T.ci h rfl (fun hb_41 h=>?_) (fun hb_41 h=>?_))
   ·exact X 3 4 (sQ (v_len_sl Ty.s49 rfl (Y 2 4 (wu (hK2 ((x4.In).length:Int) h) [] [0,1,2] 4 rfl))))
   exact X 1 4 (wu (hK2 1 h) [] [0,1,2] 4 rfl)
  refine X 1 3 ?_
  replace h:=mi h hv_28
  refine X 5 3 ?_
  cases h
  exact tO [] [2] 3
theorem move_Ready_c {p0:Net} {p1:List (List Item)} {p2:State} {r:(List Move) × Int} (h:move_Ready p0 p1 p2=some r):FnO Tryz.prog 89 [.agg (encNet p0),sL (encL encItem) p1,.agg (encState p2)] (.tup [.ref 0,iI r.2]) [aR 88 2 encMove r.1]:=by
  unfold move_Ready at h
  refine fT 0 0 Tryz.func89 Tryz.ntmps89 rfl ?_
  refine B h fun x2 hx2 h=>(X 13 0 (sO (cF (move_Check_c hx2) ⟨rfl,(Y 7 2 (T.ci h rfl (fun hb_1 h=>?_) (fun hb_1 h=>?_)))⟩)))
  ·refine X 6 2 ?_
   cases h
   exact tO [(0,88,2)] [2] 2
  refine B h fun x4 hx4 h=>(X 6 2 (sO (cO 2 (move_ready_c hx4) ⟨rfl,(Y 3 3 ?_)⟩)))
  cases h
  exact tO [] [2] 3
theorem ways_walker_calm_1_xbf29_c {p0:Move} {p1:List Node} {p2:Int} {p3:Int} {p4:List (List Item)} {p5:Int} {p6:List ((List UInt8) × Unit)} {p7:List (List Item)} {r:Bool} (h:ways_walker_calm_1_xbf29 p0 p1 p2 p3 p4 p5 p6 p7=some r):FnX Tryz.prog 90 [.agg (encMove p0),.ptr 0 0] [.box [.ptr 1 0],.box [sL encNode p1,iI p2,iI p3,sL (encL encItem) p4,iI p5,.mpr 2,.ref 3],.mp (List.map kS (List.map Prod.fst p6)) (List.map kU (List.map Prod.snd p6)),aR 26 1 (encL encItem) p7] (.bool r) [.box [.ptr 1 0],.box [sL encNode p1,iI p2,iI p3,sL (encL encItem) p4,iI p5,.mpr 2,.ref 3],.mp (List.map kS (List.map Prod.fst p6)) (List.map kU (List.map Prod.snd p6)),aR 26 1 (encL encItem) p7]:=by
  unfold ways_walker_calm_1_xbf29 at h
  refine fT 4 0 Tryz.func90 Tryz.ntmps90 rfl ?_
  refine B h fun x2 hx2 h=>(X 6 4 (T.drawn mixed (k:=12) rfl (rq [5] 11 (rL [0,1,2,3,4,7,8,9,10,11] 0 rfl (rq [1,2,3] 7 (rL [4,7,8,9,10,11] 4 rfl (ra1 6 (og 5 ⟨rfl,(r0 7 rfl (v_index_sl Ty.s22 (fun _=>rfl) rfl rfl hx2 ?_))⟩))))))))
  refine rq [8] 3 (ra1 9 (og 5 ⟨rfl,(rq [10,11] 0 (RA.done (by decide +kernel) ?_))⟩))
  cases h
  exact tN [0,1,2,3]
theorem slices_IndexFunc_Move_x9634_c {p0:List Move} {p1:List Node} {p2:Int} {p3:Int} {p4:List (List Item)} {p5:Int} {p6:List ((List UInt8) × Unit)} {p7:List (List Item)} {r:Int} (h:slices_IndexFunc_Move_x9634 p0 p1 p2 p3 p4 p5 p6 p7=some r):FnX Tryz.prog 43 [.ref 0,.func 90 [.ptr 1 0]] [aR 88 2 encMove p0,.box [.ptr 2 0],.box [sL encNode p1,iI p2,iI p3,sL (encL encItem) p4,iI p5,.mpr 3,.ref 4],.mp (List.map kS (List.map Prod.fst p6)) (List.map kU (List.map Prod.snd p6)),aR 26 1 (encL encItem) p7] (iI r) [aR 88 2 encMove p0,.box [.ptr 2 0],.box [sL encNode p1,iI p2,iI p3,sL (encL encItem) p4,iI p5,.mpr 3,.ref 4],.mp (List.map kS (List.map Prod.fst p6)) (List.map kU (List.map Prod.snd p6)),aR 26 1 (encL encItem) p7]:=by
  unfold slices_IndexFunc_Move_x9634 at h
  refine fT 5 8 Tryz.func43 Tryz.ntmps43 rfl (sQ (v_len_ref (en:=encMove) Ty.s84 rfl rfl (Y 3 5 (itr (fun ss_5:Int=>mkA 19 [(0,.ref 0),(1,.func 90 [.ptr 1 0]),(7,iI ((p0).length:Int)),(8,iI ss_5)]) (fun ss_5=>[aR 88 2 encMove p0,.box [.ptr 2 0],.box [sL encNode p1,iI p2,iI p3,sL (encL encItem) p4,iI p5,.mpr 3,.ref 4],.mp (List.map kS (List.map Prod.fst p6)) (List.map kU (List.map Prod.snd p6)),aR 26 1 (encL encItem) p7]) h (wk [] [0,1,2,3,4] 5 rfl) (fun ss_5 v_6 h hv_6=>?_)))))
  revert hv_6 h;revert ss_5;intro s1 h hv_6
  replace h:slices_IndexFunc_Move_x9634_l1 p0 p1 p2 p3 p4 p5 p6 p7 s1=some v_6:=h
  try dsimp only
  unfold slices_IndexFunc_Move_x9634_l1 at h
  refine X 5 5 (T.ci h rfl (fun hb_7 h=>?_) (fun hb_7 h=>?_))
  ·refine B h fun x5 hx5 h=>(B h fun x6 hx6 h=>(B h fun x7 hx7 h=>(X 13 5 (sQ (v_index_ref' (en:=encMove) Ty.s84 rfl rfl rfl hx5 (sO (o_load_aptr' (en:=encMove) (a:=x6) rfl rfl hx6 (loadRowA Ty.k88 Ty.c88 rfl (cs:=(encMove x6)) rfl (sO (cG [1,2,3,4] 5 4 (ways_walker_calm_1_xbf29_c hx7) ⟨rfl,(Y 1 5 (T.ci h rfl (fun hb_8 h=>?_) (fun hb_8 h=>?_)))⟩))))))))))
   ·refine X 5 5 ?_
    replace h:=mi h hv_6
    cases h
    exact tN [0,1,2,3,4]
   exact X 5 5 (lk h (wk [] [0,1,2,3,4] 5 rfl))
  refine X 1 5 ?_
  replace h:=mi h hv_6
  refine X 4 5 ?_
  cases h
  exact tN [0,1,2,3,4]
theorem slices_Clone_api_Item_api_Item_c {p0 r:List (List Item)} (h:slices_Clone_api_Item_api_Item p0=some r):FnO Tryz.prog 20 [.sl (List.map (encL encItem) p0)] (.ref 0) [.arr 26 1 (List.map (encL encItem) r)]:=by
  have hr:p0=r:=by
    unfold slices_Clone_api_Item_api_Item app at h
    split at h
    · simpa using h
    · cases h
  refine fn_of_T (N:=0) rfl Tryz.func20 rfl (by kernel_rfl) Tryz.ntmps20 rfl ?_
  show T _ _ _ _ (mkA 8 [(0,.sl (List.map (encL encItem) p0))]) []
  refine T.seq ?_
  refine T.region ?_
  refine RS.op rfl (OP.q rfl (v_assign (v:=.nils) rfl ?_))
  refine RS.nil ?_
  refine T.seq ?_
  refine T.seq ?_
  refine T.region ?_
  refine RS.op rfl (OP.q rfl (v_move (v:=.sl (List.map (encL encItem) p0)) rfl ?_))
  refine RS.op rfl (OP.q rfl (v_nileq Ty.s25 rfl rfl (fun z hz=>?_)))
  refine RS.nil ?_
  refine T.cond (b:=z) rfl (fun hb=>?_) (fun hb=>?_)
  · refine T.seq ?_
    refine T.region ?_
    refine RS.op rfl (OP.q rfl (v_assign (v:=.nils) rfl ?_))
    refine RS.nil ?_
    refine T.ret ?_
    refine res_tmpA (v:=.nils) rfl ?_
    refine res_done ?_
    have h0:p0=[]:=List.map_eq_nil_iff.1 (hz hb)
    exact ret_own (.ref 0) [(0,26,1)] [0] (by decide) (none_kept _) rfl (rn_ref rfl) (rw_arr (en:=(encL encItem)) (ys:=[]) rfl (encL_p encItem_p) (by rw [← hr,h0]) (rw_nil)) ⟨rfl,rfl⟩
  · refine T.skip ?_
    refine T.seq ?_
    refine T.region ?_
    refine RS.op rfl (o_buildSlice (rows:=List.map (encL encItem) []) (vs:=[]) Ty.s25 Ty.z26 rfl rfl rfl rfl rfl (aw':=[.arr 26 1 (List.map (encL encItem) [])]) rfl ?_)
    refine RS.op rfl (OP.q rfl (v_move (v:=.sl (List.map (encL encItem) p0)) rfl ?_))
    refine RS.op rfl (o_app_ref (en:=(encL encItem)) (xs:=([]:List (List Item))) (ys:=p0) (r:=r) Ty.s25 (fun _=>rfl) rfl rfl rfl h rfl (aw':=[.dead,.arr 26 1 (List.map (encL encItem) r)]) rfl ?_)
    refine RS.op rfl (OP.q rfl (v_assign (v:=.ref 1) rfl ?_))
    refine RS.nil ?_
    refine T.ret ?_
    refine res_tmpA (v:=.ref 1) rfl ?_
    refine res_done ?_
    exact ret_own (.ref 0) [] [1] (by decide) (none_kept _) rfl (rn_ref rfl) (rw_arr rfl (encL_p encItem_p) rfl (rw_nil)) ⟨rfl,rfl⟩
theorem slices_Clone_Item_c {p0 r:List Item} (h:slices_Clone_Item p0=some r):FnO Tryz.prog 21 [.sl (List.map encItem p0)] (.ref 0) [.arr 39 3 (List.map encItem r)]:=by
  have hr:p0=r:=by
    unfold slices_Clone_Item app at h
    split at h
    · simpa using h
    · cases h
  refine fn_of_T (N:=0) rfl Tryz.func21 rfl (by kernel_rfl) Tryz.ntmps21 rfl ?_
  show T _ _ _ _ (mkA 8 [(0,.sl (List.map encItem p0))]) []
  refine T.seq ?_
  refine T.region ?_
  refine RS.op rfl (OP.q rfl (v_assign (v:=.nils) rfl ?_))
  refine RS.nil ?_
  refine T.seq ?_
  refine T.seq ?_
  refine T.region ?_
  refine RS.op rfl (OP.q rfl (v_move (v:=.sl (List.map encItem p0)) rfl ?_))
  refine RS.op rfl (OP.q rfl (v_nileq Ty.s26 rfl rfl (fun z hz=>?_)))
  refine RS.nil ?_
  refine T.cond (b:=z) rfl (fun hb=>?_) (fun hb=>?_)
  · refine T.seq ?_
    refine T.region ?_
    refine RS.op rfl (OP.q rfl (v_assign (v:=.nils) rfl ?_))
    refine RS.nil ?_
    refine T.ret ?_
    refine res_tmpA (v:=.nils) rfl ?_
    refine res_done ?_
    have h0:p0=[]:=List.map_eq_nil_iff.1 (hz hb)
    exact ret_own (.ref 0) [(0,39,3)] [0] (by decide) (none_kept _) rfl (rn_ref rfl) (rw_arr (en:=encItem) (ys:=[]) rfl encItem_p (by rw [← hr,h0]) (rw_nil)) ⟨rfl,rfl⟩
  · refine T.skip ?_
    refine T.seq ?_
    refine T.region ?_
    refine RS.op rfl (o_buildSlice (rows:=List.map encItem []) (vs:=[]) Ty.s26 Ty.z39 rfl rfl rfl rfl rfl (aw':=[.arr 39 3 (List.map encItem [])]) rfl ?_)
    refine RS.op rfl (OP.q rfl (v_move (v:=.sl (List.map encItem p0)) rfl ?_))
    refine RS.op rfl (o_app_ref (en:=encItem) (xs:=([]:List Item)) (ys:=p0) (r:=r) Ty.s26 (fun _=>rfl) rfl rfl rfl h rfl (aw':=[.dead,.arr 39 3 (List.map encItem r)]) rfl ?_)
    refine RS.op rfl (OP.q rfl (v_assign (v:=.ref 1) rfl ?_))
    refine RS.nil ?_
    refine T.ret ?_
    refine res_tmpA (v:=.ref 1) rfl ?_
    refine res_done ?_
    exact ret_own (.ref 0) [] [1] (by decide) (none_kept _) rfl (rn_ref rfl) (rw_arr rfl encItem_p rfl (rw_nil)) ⟨rfl,rfl⟩
theorem slices_Clone_Memory_c {p0 r:List Memory} (h:slices_Clone_Memory p0=some r):FnO Tryz.prog 80 [.sl (List.map encMemory p0)] (.ref 0) [.arr 122 3 (List.map encMemory r)]:=by
  have hr:p0=r:=by
    unfold slices_Clone_Memory app at h
    split at h
    · simpa using h
    · cases h
  refine fn_of_T (N:=0) rfl Tryz.func80 rfl (by kernel_rfl) Tryz.ntmps80 rfl ?_
  show T _ _ _ _ (mkA 8 [(0,.sl (List.map encMemory p0))]) []
  refine T.seq ?_
  refine T.region ?_
  refine RS.op rfl (OP.q rfl (v_assign (v:=.nils) rfl ?_))
  refine RS.nil ?_
  refine T.seq ?_
  refine T.seq ?_
  refine T.region ?_
  refine RS.op rfl (OP.q rfl (v_move (v:=.sl (List.map encMemory p0)) rfl ?_))
  refine RS.op rfl (OP.q rfl (v_nileq Ty.s50 rfl rfl (fun z hz=>?_)))
  refine RS.nil ?_
  refine T.cond (b:=z) rfl (fun hb=>?_) (fun hb=>?_)
  · refine T.seq ?_
    refine T.region ?_
    refine RS.op rfl (OP.q rfl (v_assign (v:=.nils) rfl ?_))
    refine RS.nil ?_
    refine T.ret ?_
    refine res_tmpA (v:=.nils) rfl ?_
    refine res_done ?_
    have h0:p0=[]:=List.map_eq_nil_iff.1 (hz hb)
    exact ret_own (.ref 0) [(0,122,3)] [0] (by decide) (none_kept _) rfl (rn_ref rfl) (rw_arr (en:=encMemory) (ys:=[]) rfl encMemory_p (by rw [← hr,h0]) (rw_nil)) ⟨rfl,rfl⟩
  · refine T.skip ?_
    refine T.seq ?_
    refine T.region ?_
    refine RS.op rfl (o_buildSlice (rows:=List.map encMemory []) (vs:=[]) Ty.s50 Ty.z122 rfl rfl rfl rfl rfl (aw':=[.arr 122 3 (List.map encMemory [])]) rfl ?_)
    refine RS.op rfl (OP.q rfl (v_move (v:=.sl (List.map encMemory p0)) rfl ?_))
    refine RS.op rfl (o_app_ref (en:=encMemory) (xs:=([]:List Memory)) (ys:=p0) (r:=r) Ty.s50 (fun _=>rfl) rfl rfl rfl h rfl (aw':=[.dead,.arr 122 3 (List.map encMemory r)]) rfl ?_)
    refine RS.op rfl (OP.q rfl (v_assign (v:=.ref 1) rfl ?_))
    refine RS.nil ?_
    refine T.ret ?_
    refine res_tmpA (v:=.ref 1) rfl ?_
    refine res_done ?_
    exact ret_own (.ref 0) [] [1] (by decide) (none_kept _) rfl (rn_ref rfl) (rw_arr rfl encMemory_p rfl (rw_nil)) ⟨rfl,rfl⟩
theorem slices_Clone_Choice_c {p0 r:List Choice} (h:slices_Clone_Choice p0=some r):FnO Tryz.prog 82 [.sl (List.map encChoice p0)] (.ref 0) [.arr 119 2 (List.map encChoice r)]:=by
  have hr:p0=r:=by
    unfold slices_Clone_Choice app at h
    split at h
    · simpa using h
    · cases h
  refine fn_of_T (N:=0) rfl Tryz.func82 rfl (by kernel_rfl) Tryz.ntmps82 rfl ?_
  show T _ _ _ _ (mkA 8 [(0,.sl (List.map encChoice p0))]) []
  refine T.seq ?_
  refine T.region ?_
  refine RS.op rfl (OP.q rfl (v_assign (v:=.nils) rfl ?_))
  refine RS.nil ?_
  refine T.seq ?_
  refine T.seq ?_
  refine T.region ?_
  refine RS.op rfl (OP.q rfl (v_move (v:=.sl (List.map encChoice p0)) rfl ?_))
  refine RS.op rfl (OP.q rfl (v_nileq Ty.s51 rfl rfl (fun z hz=>?_)))
  refine RS.nil ?_
  refine T.cond (b:=z) rfl (fun hb=>?_) (fun hb=>?_)
  · refine T.seq ?_
    refine T.region ?_
    refine RS.op rfl (OP.q rfl (v_assign (v:=.nils) rfl ?_))
    refine RS.nil ?_
    refine T.ret ?_
    refine res_tmpA (v:=.nils) rfl ?_
    refine res_done ?_
    have h0:p0=[]:=List.map_eq_nil_iff.1 (hz hb)
    exact ret_own (.ref 0) [(0,119,2)] [0] (by decide) (none_kept _) rfl (rn_ref rfl) (rw_arr (en:=encChoice) (ys:=[]) rfl encChoice_p (by rw [← hr,h0]) (rw_nil)) ⟨rfl,rfl⟩
  · refine T.skip ?_
    refine T.seq ?_
    refine T.region ?_
    refine RS.op rfl (o_buildSlice (rows:=List.map encChoice []) (vs:=[]) Ty.s51 Ty.z119 rfl rfl rfl rfl rfl (aw':=[.arr 119 2 (List.map encChoice [])]) rfl ?_)
    refine RS.op rfl (OP.q rfl (v_move (v:=.sl (List.map encChoice p0)) rfl ?_))
    refine RS.op rfl (o_app_ref (en:=encChoice) (xs:=([]:List Choice)) (ys:=p0) (r:=r) Ty.s51 (fun _=>rfl) rfl rfl rfl h rfl (aw':=[.dead,.arr 119 2 (List.map encChoice r)]) rfl ?_)
    refine RS.op rfl (OP.q rfl (v_assign (v:=.ref 1) rfl ?_))
    refine RS.nil ?_
    refine T.ret ?_
    refine res_tmpA (v:=.ref 1) rfl ?_
    refine res_done ?_
    exact ret_own (.ref 0) [] [1] (by decide) (none_kept _) rfl (rn_ref rfl) (rw_arr rfl encChoice_p rfl (rw_nil)) ⟨rfl,rfl⟩
theorem move_Copy_c {p0:State} {r:State} (h:move_Copy p0=some r):FnO Tryz.prog 55 [.agg (encState p0)] (.agg [.ref 0,.ref 1,.ref 2,.ref 3,.ref 4]) [aR 3 1 encI r.At,aR 26 1 (encL encItem) r.Rings,aR 122 3 encMemory r.Memory,aR 119 2 encChoice r.Choices,aR 39 3 encItem r.Out]:=by
  unfold move_Copy at h
  refine fT 0 0 Tryz.func55 Tryz.ntmps55 rfl ?_
  refine B h fun x2 hx2 h=>(X 9 0 (sO (cO 2 (slices_Clone_int_c hx2) ⟨rfl,(B h fun x4 hx4 h=>(Y 7 3 (sO (cQ 3 (slices_Clone_api_Item_api_Item_c hx4) ⟨rfl,(Y 8 4 (sQ (v_len_ref (en:=(encL encItem)) Ty.s25 rfl rfl (Y 3 4 (itr (fun ss_7:Int × (List (List Item))=>mkA 60 [(1,.ptr 0 0),(2,.ptr 1 0),(15,iI ((x4).length:Int)),(16,iI ss_7.1)]) (fun ss_7=>[.box [.ref 2,.ref 3,sL encMemory p0.Memory,sL encChoice p0.Choices,sL encItem p0.Out],.box [.nils,.nils,.nils,.nils,.nils],aR 3 1 encI x2,aR 26 1 (encL encItem) ss_7.2]) h (wk [] [0,1,2,3] 4 rfl) (fun ss_7 v_8 h hv_8=>?_))))))⟩))))⟩)))
  obtain ⟨s5,s6⟩:=ss_7
  replace h:move_Copy_l2 p0 x2 x4 s5 s6=some v_8:=h
  try dsimp only
  unfold move_Copy_l2 at h
  refine X 5 4 (T.ci h rfl (fun hb_9 h=>?_) (fun hb_9 h=>?_))
  ·refine B h fun x7 hx7 h=>(B h fun x8 hx8 h=>(B h fun x9 hx9 h=>(B h fun x10 hx10 h=>(B h fun x11 hx11 h=>(X 8 4 (T.drawn mixed (k:=11) rfl ?_))))))
   apply RA.jn 1 (bm 11 1023);intro hS10
   apply RA.jn 3 (bm 11 255);intro hS11
   ·refine rq [0,2,3,5] 7 (rL [4,6,7,8,9,10] 4 rfl (r0 6 rfl (v_index_ref' (en:=(encL encItem)) Ty.s25 rfl rfl rfl hx7 (ra2 1 7 ?_ ?_))))
    ·exact og 4 ⟨rfl,(ra1 7 (oO rfl (o_load_aptr' (en:=(encL encItem)) (a:=x8) rfl rfl hx8 (loadRow1 Ty.k26 (c:=sL encItem x8) rfl (raE hS11)))))⟩
    ·refine oO rfl (o_load_aptr' (en:=(encL encItem)) (a:=x8) rfl rfl hx8 (loadRow1 Ty.k26 (c:=sL encItem x8) rfl (ra2 1 8 ?_ ?_)))
     ·exact og 4 ⟨rfl,(raT hS11)⟩
     ·exact oO rfl (cO 4 (slices_Clone_Item_c hx9) ⟨rfl,(ra1 1 (og 5 ⟨rfl,(r0 9 rfl (v_index_ref' (en:=(encL encItem)) Ty.s25 rfl rfl rfl hx10 (raE hS10)))⟩))⟩)
   ·exact ra1 8 (oO rfl (cO 4 (slices_Clone_Item_c hx9) ⟨rfl,(r0 9 rfl (v_index_ref' (en:=(encL encItem)) Ty.s25 rfl rfl rfl hx10 (raT hS10)))⟩))
   exact ra1 10 (RO.fC 4 (oO rfl (o_store_aptr' (en:=(encL encItem)) (a:=x11) (a':=x9) Ty.c26 Ty.i26 rfl (vs:=[sL encItem x9]) rfl rfl rfl hx11 rfl rfl rfl (RA.done (by decide +kernel) (X 4 5 (lk h (wk [] [0,1,2,3] 5 rfl)))))))
  refine X 1 4 ?_
  replace h:=mi h hv_8
  refine B h fun x13 hx13 h=>(X 4 4 (sO (cQ 4 (slices_Clone_Memory_c hx13) ⟨rfl,(Y 8 5 (sQ (v_len_ref (en:=encMemory) Ty.s50 rfl rfl (Y 3 5 (itr (fun ss_19:Int × (List Memory)=>mkA 60 [(1,.ptr 0 0),(2,.ptr 1 0),(36,iI ((x13).length:Int)),(37,iI ss_19.1)]) (fun ss_19=>[.box [.ref 2,.ref 3,.ref 4,sL encChoice p0.Choices,sL encItem p0.Out],.box [.nils,.nils,.nils,.nils,.nils],aR 3 1 encI x2,aR 26 1 (encL encItem) s6,aR 122 3 encMemory ss_19.2]) h (wk [] [0,1,2,3,4] 5 rfl) (fun ss_19 v_20 h hv_20=>?_))))))⟩)))
  obtain ⟨s14,s15⟩:=ss_19
  replace h:move_Copy_l1 p0 x2 s6 x13 s14 s15=some v_20:=h
  try dsimp only
  unfold move_Copy_l1 at h
  refine X 5 5 (T.ci h rfl (fun hb_21 h=>?_) (fun hb_21 h=>?_))
  ·refine B h fun x16 hx16 h=>(B h fun x17 hx17 h=>(B h fun x18 hx18 h=>(B h fun x19 hx19 h=>(B h fun x20 hx20 h=>(X 8 5 (T.drawn mixed (k:=11) rfl ?_))))))
   apply RA.jn 1 (bm 11 1023);intro hS22
   apply RA.jn 3 (bm 11 255);intro hS23
   ·refine rq [0,2,3,5] 7 (rL [4,6,7,8,9,10] 4 rfl (r0 6 rfl (v_index_ref' (en:=encMemory) Ty.s50 rfl rfl rfl hx16 (ra2 1 7 ?_ ?_))))
    ·exact og 5 ⟨rfl,(ra1 7 (oO rfl (o_load_aptr' (en:=encMemory) (a:=x17) rfl rfl hx17 (loadRowA Ty.k122 Ty.c122 rfl (cs:=(encMemory x17)) rfl (raE hS23)))))⟩
    ·refine oO rfl (o_load_aptr' (en:=encMemory) (a:=x17) rfl rfl hx17 (loadRowA Ty.k122 Ty.c122 rfl (cs:=(encMemory x17)) rfl (ra2 1 8 ?_ ?_)))
     ·exact og 5 ⟨rfl,(raT hS23)⟩
     ·exact oO rfl (cG [] 5 1 (FnX.of_fnO (stage_Copy_c hx18)) ⟨rfl,(ra1 1 (og 6 ⟨rfl,(r0 9 rfl (v_index_ref' (en:=encMemory) Ty.s50 rfl rfl rfl hx19 (raE hS22)))⟩))⟩)
   ·exact ra1 8 (oO rfl (cG [] 5 1 (FnX.of_fnO (stage_Copy_c hx18)) ⟨rfl,(r0 9 rfl (v_index_ref' (en:=encMemory) Ty.s50 rfl rfl rfl hx19 (raT hS22)))⟩))
   exact ra1 10 (RO.fC 5 (oO rfl (o_store_aptr' (en:=encMemory) (a:=x20) (a':=x18) Ty.c122 Ty.i122 rfl (vs:=[iI x18.Sum,sL encKeyed x18.Keys,iI x18.Dep]) rfl rfl rfl hx20 rfl rfl rfl (RA.done (by decide +kernel) (X 4 6 (lk h (wk [] [0,1,2,3,4] 6 rfl)))))))
  refine X 1 5 ?_
  replace h:=mi h hv_20
  refine B h fun x22 hx22 h=>(X 4 5 (sO (cO 5 (slices_Clone_Choice_c hx22) ⟨rfl,(B h fun x24 hx24 h=>(Y 7 6 (sO (cO 6 (slices_Clone_Item_c hx24) ⟨rfl,(Y 8 7 ?_)⟩))))⟩)))
  cases h
  exact tO [] [2,3,4,5,6] 7
theorem ring_Take_c {p0:List Item} {r:Item × (List Item) × Int} (h:ring_Take p0=some r):FnO Tryz.prog 85 [sL encItem p0] (.tup [.agg (encItem r.1),.ref 0,iI r.2.2]) [aR 39 3 encItem r.2.1]:=by
  unfold ring_Take at h
  refine fT 0 10 Tryz.func85 Tryz.ntmps85 rfl (sQ (v_len_sl Ty.s26 rfl (Y 2 1 (T.ci h rfl (fun hb_1 h=>?_) (fun hb_1 h=>?_)))))
  ·refine X 7 1 ?_
   cases h
   exact tO [(1,39,3)] [1] 1
  refine X 5 1 (sQ (v_len_sl Ty.s26 rfl (Y 2 1 (T.ci h rfl (fun hb_2 h=>?_) (fun hb_2 h=>?_)))))
  ·refine X 7 1 ?_
   cases h
   exact tO [(1,39,3)] [1] 1
  refine B h fun x4 hx4 h=>(B h fun x5 hx5 h=>(B h fun x6 hx6 h=>(X 2 1 (T.drawn mixed (k:=9) rfl ?_))))
  apply RA.jn 3 (bm 9 63);intro hS3
  ·refine rq [0] 8 (r0 1 rfl (v_index_sl Ty.s26 (fun _=>rfl) rfl rfl hx4 (rq [3] 6 (r0 4 rfl (v_slice_sl Ty.s26 (fun _=>rfl) rfl rfl rfl hx5 (ra2 2 5 ?_ ?_))))))
   ·exact og 1 ⟨rfl,(ra1 5 (oO rfl (cO 1 (slices_Clone_Item_c hx6) ⟨rfl,(raE hS3)⟩)))⟩
   ·exact oO rfl (cO 1 (slices_Clone_Item_c hx6) ⟨rfl,(ra1 2 (og 2 ⟨rfl,(raT hS3)⟩))⟩)
  refine ra1 6 (og 2 ⟨rfl,(rq [7,8] 0 (RA.done (by decide +kernel) ?_))⟩)
  cases h
  exact tO [] [1] 2
theorem ring_Put_c {p0:List Item} {p1:Int} {p2:Item} {r:(List Item) × Int} (h:ring_Put p0 p1 p2=some r):FnO Tryz.prog 88 [sL encItem p0,iI p1,.agg (encItem p2)] (.tup [.ref 0,iI r.2]) [aR 39 3 encItem r.1]:=by
  unfold ring_Put at h
  refine fT 0 7 Tryz.func88 Tryz.ntmps88 rfl (j1 [(0,sL encItem p0),(1,iI p1),(5,.ptr 0 0),(13,.bool ((decide (p1<1)) || decide (p1 > 6)))] [.box (encItem p2)] ?_ (fun hK=>?_))
  ·refine T.ci h rfl (fun hb_2 h=>?_) (fun hb_2 h=>?_)
   ·refine X 5 1 ?_
    cases h
    exact tO [(0,39,3)] [1] 1
   refine X 5 1 (sQ (v_len_sl Ty.s26 rfl (Y 3 1 (T.ci h rfl (fun hb_3 h=>?_) (fun hb_3 h=>?_)))))
   ·refine X 5 1 ?_
    cases h
    exact tO [(0,39,3)] [1] 1
   refine X 5 1 (sQ (v_len_sl Ty.s26 rfl (Y 3 1 (T.ci h rfl (fun hb_4 h=>?_) (fun hb_4 h=>?_)))))
   ·refine X 5 1 ?_
    cases h
    exact tO [(0,39,3)] [1] 1
   refine B h fun x4 hx4 h=>(B h fun x5 hx5 h=>(X 2 1 (T.drawn mixed (k:=7) rfl ?_)))
   apply RA.jn 3 (bm 7 15);intro hS5
   apply RA.jn 4 (bm 7 7);intro hS6
   ·refine rq [0] 6 (ra2 1 2 ?_ ?_)
    ·exact oO rfl (cO 1 (slices_Clone_Item_c hx4) ⟨rfl,(ra1 2 (og 2 ⟨rfl,(raE hS6)⟩))⟩)
    ·refine og 1 ⟨rfl,(ra2 1 3 ?_ ?_)⟩
     ·exact oO rfl (cO 1 (slices_Clone_Item_c hx4) ⟨rfl,(raT hS6)⟩)
     ·exact oO rfl (o_buildSlice (rows:=List.map encItem [p2]) (vs:=[.agg (encItem p2)]) Ty.s26 Ty.z39 rfl rfl rfl rfl rfl rfl (ra1 1 (oO rfl (cO 2 (slices_Clone_Item_c hx4) ⟨rfl,(raE hS5)⟩))))
   ·exact ra1 3 (oO rfl (o_buildSlice (rows:=List.map encItem [p2]) (vs:=[.agg (encItem p2)]) Ty.s26 Ty.z39 rfl rfl rfl rfl rfl rfl (raV hS5 [0,2,1] rfl)))
   refine ra1 4 (oO rfl (o_app_ref (en:=encItem) (xs:=x4) (ys:=([p2]:List Item)) Ty.s26 (fun _=>rfl) rfl rfl rfl hx5 rfl rfl (rq [5,6] 0 (RA.done (by decide +kernel) ?_))))
   cases h
   exact tO [] [3] 4
  refine X 5 1 (gp 10 (fun hb_1=>?_) (fun hb_1=>?_))
  ·refine Yp 4 1 ?_
   rw [hb_1] at hK
   exact sx hK
  refine Yp 4 1 ?_
  rw [hb_1] at hK
  exact sx hK
theorem move_do_x5aa6_c {p0:Net} {p1:List (List Item)} {p2:Move} {p3:List Int} {p4:List (List Item)} {p5:List Memory} {p6:List Choice} {p7:List Item} {r:(List Int) × (List (List Item)) × (List Memory) × (List Choice) × (List Item)} (h:move_do_x5aa6 p0 p1 p2 p3 p4 p5 p6 p7=some r):FnX Tryz.prog 57 [.agg (encNet p0),sL (encL encItem) p1,.ptr 0 0,.agg (encMove p2)] [.box [.ref 1,.ref 2,.ref 3,.ref 4,.ref 5],aR 3 1 encI p3,aR 26 1 (encL encItem) p4,aR 122 3 encMemory p5,aR 119 2 encChoice p6,aR 39 3 encItem p7] (.tup []) [.box [.ref 1,.ref 2,.ref 3,.ref 6,.ref 7],aR 3 1 encI r.1,aR 26 1 (encL encItem) r.2.1,aR 122 3 encMemory r.2.2.1,.dead,.dead,aR 119 2 encChoice r.2.2.2.1,aR 39 3 encItem r.2.2.2.2]:=by
  unfold move_do_x5aa6 at h
  refine fT 6 0 Tryz.func57 Tryz.ntmps57 rfl ?_
  refine mO 0 4 5 6 (mO 0 3 4 7 (B h fun x2 hx2 h=>(X 11 8 (sQ (v_index_sl Ty.s22 (fun _=>rfl) rfl rfl hx2 (B h fun x4 hx4 h=>(Y 5 10 (T.drawn mixed (k:=13) rfl ?_))))))))
  apply RA.jn 2 (bm 13 2047);intro hS1
  ·refine rq [1,2,3] 10 (rL [0,6,7,8,9,11,12] 0 rfl (rL [4,6,7,8,9,11,12] 4 rfl (rL [5,6,7,8,9,11,12] 5 rfl (ra2 6 10 ?_ ?_))))
   ·exact oO rfl (cF (move_head_c hx4) ⟨rfl,(rq [7,8,9] 3 (ra1 10 (og 11 ⟨rfl,(raE hS1)⟩)))⟩)
   ·exact og 11 ⟨rfl,(ra1 6 (oO rfl (cF (move_head_c hx4) ⟨rfl,(rq [7,8,9] 2 (raT hS1))⟩)))⟩
  refine ra1 11 (og 12 ⟨rfl,(rq [12] 0 (RA.done (by decide +kernel) (jn (Z:=(List Int) × (List (List Item))) (fun zz_21=>mkA 162 [(2,.ptr 0 0),(4,.ptr 6 0),(7,.ptr 7 0),(8,.ptr 8 0),(9,.ptr 9 0)]) (fun zz_21=>[.box [.ref 1,.ref 2,.ref 3,.ref 10,.ref 11],aR 3 1 encI zz_21.1,aR 26 1 (encL encItem) zz_21.2,aR 122 3 encMemory p5,.dead,.dead,.box (encNet p0),.box (encMove p2),.box (encNode x2),.box (encItem x4.1),aR 119 2 encChoice p6,aR 39 3 encItem p7]) (fun zz_21=>move_do_x5aa6_k4 p0 p2 x2 x4 p5 p6 p7 zz_21.1 zz_21.2=some r) (fun zz_21 h=>?_) (fun hK4=>?_))))⟩)
  ·obtain ⟨z16,z17⟩:=zz_21
   replace h:move_do_x5aa6_k4 p0 p2 x2 x4 p5 p6 p7 z16 z17=some r:=h
   try dsimp only
   unfold move_do_x5aa6_k4 at h
   refine B h fun x19 hx19 h=>(X 4 12 (sO (cD (move_outs_c hx19) ⟨rfl,(Y 2 12 (jn (Z:=Int × (List Choice)) (fun zz_23=>mkA 162 [(2,.ptr 0 0),(4,.ptr 6 0),(7,.ptr 7 0),(8,.ptr 8 0),(9,.ptr 9 0),(11,sL encI x19)]) (fun zz_23=>[.box [.ref 1,.ref 2,.ref 3,.ref 10,.ref 11],aR 3 1 encI z16,aR 26 1 (encL encItem) z17,aR 122 3 encMemory p5,.dead,.dead,.box (encNet p0),.box (encMove p2),.box (encNode x2),.box [iI x4.1.Key,iI x4.1.Val,iI zz_23.1],aR 119 2 encChoice zz_23.2,aR 39 3 encItem p7]) (fun zz_23=>move_do_x5aa6_k3 p0 p2 x2 x4 p5 p7 z16 z17 x19 zz_23.1 zz_23.2=some r) (fun zz_23 h=>?_) (fun hK3=>?_)))⟩)))
   ·obtain ⟨z22,z23⟩:=zz_23
    replace h:move_do_x5aa6_k3 p0 p2 x2 x4 p5 p7 z16 z17 x19 z22 z23=some r:=h
    try dsimp only
    unfold move_do_x5aa6_k3 at h
    refine B h fun x29 hx29 h=>(B h fun x30 hx30 h=>(B h fun x31 hx31 h=>(B h fun x32 hx32 h=>(B h fun x33 hx33 h=>(X 1 12 (T.drawn mixed (k:=27) rfl ?_))))))
    apply RA.jn 2 (bm 27 33554431);intro hS24
    apply RA.jn 4 (bm 27 16777183);intro hS25
    apply RA.jn 8 (bm 27 524287);intro hS26
    apply RA.jn 9 (bm 27 524255);intro hS27
    apply RA.jn 9 (bm 27 524279);intro hS28
    apply RA.jn 9 (bm 27 393215);intro hS29
    ·refine rq [0,1,2,4,6,8,10,11,12,14] 17 (rL [7,19,20,21,22,23,24,25,26] 7 rfl (rL [9,19,20,21,22,23,24,25,26] 9 rfl (rL [13,16,17,19,20,21,22,23,24,25,26] 13 rfl (rL [15,16,17,19,20,21,22,23,24,25,26] 15 rfl (r0 16 rfl (v_index_ref' (en:=encMemory) Ty.s50 rfl rfl rfl hx29 (rL [18,19,20,21,22,23,24,25,26] 18 rfl (ra3 3 5 17 ?_ ?_ ?_))))))))
     ·refine og 12 ⟨rfl,(ra2 5 17 ?_ ?_)⟩
      ·exact og 12 ⟨rfl,(raE hS29)⟩
      ·exact oO rfl (o_load_aptr' (en:=encMemory) (a:=x30) rfl rfl hx30 (loadRowA Ty.k122 Ty.c122 rfl (cs:=(encMemory x30)) rfl (raE hS27)))
     ·refine og 12 ⟨rfl,(ra2 3 17 ?_ ?_)⟩
      ·exact og 12 ⟨rfl,(raT hS29)⟩
      ·exact oO rfl (o_load_aptr' (en:=encMemory) (a:=x30) rfl rfl hx30 (loadRowA Ty.k122 Ty.c122 rfl (cs:=(encMemory x30)) rfl (raE hS28)))
     ·refine oO rfl (o_load_aptr' (en:=encMemory) (a:=x30) rfl rfl hx30 (loadRowA Ty.k122 Ty.c122 rfl (cs:=(encMemory x30)) rfl (ra3 3 5 19 ?_ ?_ ?_)))
      ·exact og 12 ⟨rfl,(raT hS27)⟩
      ·exact og 12 ⟨rfl,(raT hS28)⟩
      ·exact oO rfl (cD (stage_Step_c hx31) ⟨rfl,(rq [20,21,22,23] 5 (rL [3,24,25,26] 3 rfl (raE hS25)))⟩)
    ·exact ra1 17 (oO rfl (o_load_aptr' (en:=encMemory) (a:=x30) rfl rfl hx30 (loadRowA Ty.k122 Ty.c122 rfl (cs:=(encMemory x30)) rfl (raE hS26))))
    ·refine ra2 3 19 ?_ ?_
     ·exact og 12 ⟨rfl,(raT hS26)⟩
     ·exact oO rfl (cD (stage_Step_c hx31) ⟨rfl,(rq [20,21,22,23] 4 (ra1 3 (og 12 ⟨rfl,(r0 24 rfl (v_index_ref' (en:=encMemory) Ty.s50 rfl rfl rfl hx32 (raE hS24)))⟩)))⟩)
    ·refine ra2 5 19 ?_ ?_
     ·exact og 12 ⟨rfl,(raT hS26)⟩
     ·exact oO rfl (cD (stage_Step_c hx31) ⟨rfl,(rq [20,21,22,23] 4 (raT hS25))⟩)
    ·exact ra1 19 (oO rfl (cD (stage_Step_c hx31) ⟨rfl,(rq [20,21,22,23] 3 (r0 24 rfl (v_index_ref' (en:=encMemory) Ty.s50 rfl rfl rfl hx32 (raT hS24))))⟩))
    ·exact ra1 5 (og 12 ⟨rfl,(r0 24 rfl (v_index_ref' (en:=encMemory) Ty.s50 rfl rfl rfl hx32 (raT hS24)))⟩)
    refine ra1 25 (oO rfl (o_store_aptr' (en:=encMemory) (a:=x33) (a':=x31.1) Ty.c122 Ty.i122 rfl (vs:=[iI x31.1.Sum,sL encKeyed x31.1.Keys,iI x31.1.Dep]) rfl rfl rfl hx33 rfl rfl rfl (ra1 26 (og 12 ⟨rfl,(RA.done (by decide +kernel) (jn (Z:=List Item) (fun zz_31=>mkA 162 [(2,.ptr 0 0),(4,.ptr 6 0),(9,.ptr 7 0),(11,sL encI x19)]) (fun zz_31=>[.box [.ref 1,.ref 2,.ref 3,.ref 8,.ref 9],aR 3 1 encI z16,aR 26 1 (encL encItem) z17,aR 122 3 encMemory (List.set p5 x32 x31.1),.dead,.dead,.box (encNet p0),.box (encItem x31.2.1),aR 119 2 encChoice z23,aR 39 3 encItem zz_31]) (fun zz_31=>move_do_x5aa6_k2 p0 p5 z16 z17 x19 z23 x31 x32 zz_31=some r) (fun zz_31 h=>?_) (fun hK2=>?_)))⟩))))
    ·revert h;revert zz_31;intro z35 h
     replace h:move_do_x5aa6_k2 p0 p5 z16 z17 x19 z23 x31 x32 z35=some r:=h
     try dsimp only
     unfold move_do_x5aa6_k2 at h
     refine X 3 10 (sQ (v_len_sl Ty.s49 rfl (Y 3 10 (itr (fun ss_38:Int × (List (List Item))=>mkA 162 [(2,.ptr 0 0),(4,.ptr 6 0),(9,.ptr 7 0),(135,sL encI x19),(136,iI ((x19).length:Int)),(137,iI ss_38.1)]) (fun ss_38=>[.box [.ref 1,.ref 2,.ref 3,.ref 8,.ref 9],aR 3 1 encI z16,aR 26 1 (encL encItem) ss_38.2,aR 122 3 encMemory (List.set p5 x32 x31.1),.dead,.dead,.box (encNet p0),.box (encItem x31.2.1),aR 119 2 encChoice z23,aR 39 3 encItem z35]) h (wk [] [0,1,2,3,4,5,6,7,8,9] 10 rfl) (fun ss_38 v_39 h hv_39=>?_)))))
     obtain ⟨s36,s37⟩:=ss_38
     replace h:move_do_x5aa6_l1 p0 p5 z16 x19 z23 x31 x32 z35 s36 s37=some v_39:=h
     try dsimp only
     unfold move_do_x5aa6_l1 at h
     refine X 5 10 (T.ci h rfl (fun hb_40 h=>?_) (fun hb_40 h=>?_))
     ·refine B h fun x39 hx39 h=>(X 5 10 (sQ (v_index_sl Ty.s49 (fun _=>rfl) rfl rfl hx39 (B h fun x40 hx40 h=>(B h fun x41 hx41 h=>(B h fun x42 hx42 h=>(B h fun x43 hx43 h=>(B h fun x44 hx44 h=>(Y 3 10 (T.drawn mixed (k:=21) rfl ?_))))))))))
      apply RA.jn 1 (bm 21 1048575);intro hS41
      apply RA.jn 6 (bm 21 32767);intro hS42
      ·refine rq [0,1,2,4,5,6,7,9,12] 12 (rL [8,10,11,15,16,17,18,19,20] 8 rfl (r0 10 rfl (v_index_ref' (en:=(encL encItem)) Ty.s25 rfl rfl rfl hx40 (rL [13,15,16,17,18,19,20] 13 rfl (rL [14,15,16,17,18,19,20] 14 rfl (ra2 3 11 ?_ ?_))))))
       ·exact og 10 ⟨rfl,(ra1 11 (oO rfl (o_load_aptr' (en:=(encL encItem)) (a:=x41) rfl rfl hx41 (loadRow1 Ty.k26 (c:=sL encItem x41) rfl (raE hS42)))))⟩
       ·refine oO rfl (o_load_aptr' (en:=(encL encItem)) (a:=x41) rfl rfl hx41 (loadRow1 Ty.k26 (c:=sL encItem x41) rfl (ra2 3 15 ?_ ?_)))
        ·exact og 10 ⟨rfl,(raT hS42)⟩
        ·exact oO rfl (cO 10 (ring_Put_c hx42) ⟨rfl,(rq [16,17,18] 3 (ra1 3 (og 11 ⟨rfl,(r0 19 rfl (v_index_ref' (en:=(encL encItem)) Ty.s25 rfl rfl rfl hx43 (raE hS41)))⟩)))⟩)
      ·exact ra1 15 (oO rfl (cO 10 (ring_Put_c hx42) ⟨rfl,(rq [16,17,18] 2 (r0 19 rfl (v_index_ref' (en:=(encL encItem)) Ty.s25 rfl rfl rfl hx43 (raT hS41))))⟩))
      exact ra1 20 (RO.fC 10 (oO rfl (o_store_aptr' (en:=(encL encItem)) (a:=x44) (a':=x42.1) Ty.c26 Ty.i26 rfl (vs:=[sL encItem x42.1]) rfl rfl rfl hx44 rfl rfl rfl (RA.done (by decide +kernel) (X 4 11 (lk h (wk [] [0,1,2,3,4,5,6,7,8,9] 11 rfl)))))))
     refine X 1 10 ?_
     replace h:=mi h hv_39
     cases h
     exact eN [0,1,2,3,4,5,8,9]
    refine X 7 12 (T.ci h rfl (fun hb_44 h=>?_) (fun hb_44 h=>?_))
    ·refine B h fun x34 hx34 h=>(T.drawn mixed (k:=11) rfl (rq [0,1,2,3] 7 (rL [4,7,8,9,10] 4 rfl (ra1 5 (og 12 ⟨rfl,(ra1 6 (oO rfl (o_buildSlice (rows:=List.map encItem [x31.2.1]) (vs:=[.agg (encItem x31.2.1)]) Ty.s26 Ty.z39 rfl rfl rfl rfl rfl rfl (ra1 7 (oO rfl (o_app_ref (en:=encItem) (xs:=p7) (ys:=([x31.2.1]:List Item)) Ty.s26 (fun _=>rfl) rfl rfl rfl hx34 rfl rfl ?_))))))⟩)))))
     exact rq [8,9] 1 (ra1 10 (og 14 ⟨rfl,(RA.done (by decide +kernel) (wu (hK2 x34 h) [] [0,1,2,3,4,5,6,9,10,13] 14 rfl))⟩))
    exact X 1 12 (wu (hK2 p7 h) [] [0,1,2,3,4,5,6,9,10,11] 12 rfl)
   refine X 7 12 (T.ci h rfl (fun hb_45 h=>?_) (fun hb_45 h=>?_))
   ·refine B h fun x21 hx21 h=>(X 1 12 (T.drawn mixed (k:=15) rfl (rq [0,1,2,3,5,7] 9 (rL [4,11,12,13,14] 4 rfl (rL [6,9,10,11,12,13,14] 6 rfl (ra1 8 (og 12 ⟨rfl,(rq [9] 5 (ra1 10 ?_))⟩)))))))
    refine oO rfl (o_buildSlice (rows:=List.map encChoice [(⟨p2.Node,p2.Lane⟩:Choice)]) (vs:=[.agg (encMove p2)]) Ty.s51 Ty.z119 rfl rfl rfl rfl rfl rfl (ra1 11 (oO rfl (o_app_ref (en:=encChoice) (xs:=p6) (ys:=([(⟨p2.Node,p2.Lane⟩:Choice)]:List Choice)) Ty.s51 (fun _=>rfl) rfl rfl rfl hx21 rfl rfl (rq [12,13] 1 (ra1 14 (og 14 ⟨rfl,(RA.done (by decide +kernel) (X 5 14 (sQ (v_len_ref (en:=encChoice) Ty.s51 rfl rfl (Y 3 14 ?_)))))⟩)))))))
    exact wu (hK3 (((x21).length:Int),x21) h) [] [0,1,2,3,4,5,6,7,8,9,13,11] 14 rfl
   exact X 1 12 (sx (hK3 (x4.1.Dep,p6) h))
  refine X 7 12 (T.ci h rfl (fun hb_46 h=>?_) (fun hb_46 h=>?_))
  ·refine B h fun x5 hx5 h=>(B h fun x6 hx6 h=>(B h fun x7 hx7 h=>(B h fun x8 hx8 h=>(T.drawn mixed (k:=11) rfl (rq [0,1,2,4] 7 (rL [3,6,7,8,9,10] 3 rfl (ra1 5 (og 12 ⟨rfl,(r0 6 rfl (v_index_ref' (en:=encI) Ty.s49 rfl rfl rfl hx5 ?_))⟩))))))))
   exact ra1 7 (oO rfl (o_load_aptr' (en:=encI) (a:=x6) rfl rfl hx6 (loadRow1 Ty.k3 (c:=iI x6) rfl (rq [8] 2 (r0 9 rfl (v_index_ref' (en:=encI) Ty.s49 rfl rfl rfl hx7 (ra1 10 (oO rfl (o_store_aptr' (en:=encI) (a:=x8) (a':=IntKind.i64.wrap (x6+1)) Ty.c3 Ty.i3 rfl (vs:=[iI (IntKind.i64.wrap (x6+1))]) rfl rfl rfl hx8 rfl rfl rfl (RA.done (by decide +kernel) (wu (hK4 ((List.set p3 x7 (IntKind.i64.wrap (x6+1))),p4) h) [] [0,1,2,3,4,5,8,9,10,11,7,6] 12 rfl)))))))))))
  refine B h fun x9 hx9 h=>(B h fun x10 hx10 h=>(B h fun x11 hx11 h=>(B h fun x12 hx12 h=>(B h fun x13 hx13 h=>(B h fun x14 hx14 h=>(B h fun x15 hx15 h=>(T.drawn mixed (k:=29) rfl ?_)))))))
  apply RA.jn 1 (bm 29 268435455);intro hS47
  apply RA.jn 3 (bm 29 134217215);intro hS48
  apply RA.jn 5 (bm 29 134216831);intro hS49
  apply RA.jn 5 (bm 29 134216927);intro hS50
  apply RA.jn 7 (bm 29 4194303);intro hS51
  apply RA.jn 8 (bm 29 4193791);intro hS52
  apply RA.jn 8 (bm 29 4194295);intro hS53
  apply RA.jn 8 (bm 29 2097151);intro hS54
  apply RA.jn 9 (bm 29 4193783);intro hS55
  apply RA.jn 9 (bm 29 2096639);intro hS56
  apply RA.jn 10 (bm 29 4193503);intro hS57
  apply RA.jn 10 (bm 29 4193407);intro hS58
  apply RA.jn 10 (bm 29 2096631);intro hS59
  apply RA.jn 11 (bm 29 4193375);intro hS60
  apply RA.jn 11 (bm 29 4193399);intro hS61
  apply RA.jn 11 (bm 29 4193495);intro hS62
  apply RA.jn 11 (bm 29 2096351);intro hS63
  apply RA.jn 11 (bm 29 2096255);intro hS64
  ·refine rq [0,1,2,4,6,10,11,12,14,16] 19 (rL [13,20,21,22,23,24,25,26,27,28] 13 rfl (rL [15,18,19,20,21,22,23,24,25,26,27,28] 15 rfl (rL [17,18,19,20,21,22,23,24,25,26,27,28] 17 rfl (r0 18 rfl (v_index_sl Ty.s49 (fun _=>rfl) rfl rfl hx10 (rL [19,20,21,22,23,24,25,26,27,28] 19 rfl (r0 20 rfl (v_index_ref' (en:=(encL encItem)) Ty.s25 rfl rfl rfl hx11 (ra4 3 5 7 21 ?_ ?_ ?_ ?_)))))))))
   ·refine og 12 ⟨rfl,(ra3 5 7 21 ?_ ?_ ?_)⟩
    ·exact og 12 ⟨rfl,(raE hS64)⟩
    ·exact og 12 ⟨rfl,(raE hS63)⟩
    ·exact oO rfl (o_load_aptr' (en:=(encL encItem)) (a:=x12) rfl rfl hx12 (loadRow1 Ty.k26 (c:=sL encItem x12) rfl (raE hS60)))
   ·refine og 12 ⟨rfl,(ra3 3 7 21 ?_ ?_ ?_)⟩
    ·exact og 12 ⟨rfl,(raT hS64)⟩
    ·exact og 12 ⟨rfl,(r0 8 rfl (v_index_sl Ty.s49 (fun _=>rfl) rfl rfl hx9 (raE hS59)))⟩
    ·exact oO rfl (o_load_aptr' (en:=(encL encItem)) (a:=x12) rfl rfl hx12 (loadRow1 Ty.k26 (c:=sL encItem x12) rfl (raE hS61)))
   ·refine og 12 ⟨rfl,(ra3 3 5 21 ?_ ?_ ?_)⟩
    ·exact og 12 ⟨rfl,(raT hS63)⟩
    ·exact og 12 ⟨rfl,(r0 8 rfl (v_index_sl Ty.s49 (fun _=>rfl) rfl rfl hx9 (raT hS59)))⟩
    ·exact oO rfl (o_load_aptr' (en:=(encL encItem)) (a:=x12) rfl rfl hx12 (loadRow1 Ty.k26 (c:=sL encItem x12) rfl (raE hS62)))
   ·refine oO rfl (o_load_aptr' (en:=(encL encItem)) (a:=x12) rfl rfl hx12 (loadRow1 Ty.k26 (c:=sL encItem x12) rfl (ra4 3 5 7 22 ?_ ?_ ?_ ?_)))
    ·exact og 12 ⟨rfl,(raT hS60)⟩
    ·exact og 12 ⟨rfl,(raT hS61)⟩
    ·exact og 12 ⟨rfl,(raT hS62)⟩
    ·exact oO rfl (cO 12 (ring_Take_c hx13) ⟨rfl,(rq [23,24,25,26] 7 (rL [3,27,28] 3 rfl (rL [5,8,9,27,28] 5 rfl (raE hS49))))⟩)
  ·refine ra2 7 21 ?_ ?_
   ·exact og 12 ⟨rfl,(r0 8 rfl (v_index_sl Ty.s49 (fun _=>rfl) rfl rfl hx9 (raE hS56)))⟩
   ·exact oO rfl (o_load_aptr' (en:=(encL encItem)) (a:=x12) rfl rfl hx12 (loadRow1 Ty.k26 (c:=sL encItem x12) rfl (raE hS58)))
  ·refine ra2 5 21 ?_ ?_
   ·exact og 12 ⟨rfl,(r0 8 rfl (v_index_sl Ty.s49 (fun _=>rfl) rfl rfl hx9 (raT hS56)))⟩
   ·exact oO rfl (o_load_aptr' (en:=(encL encItem)) (a:=x12) rfl rfl hx12 (loadRow1 Ty.k26 (c:=sL encItem x12) rfl (raE hS57)))
  ·refine ra3 3 5 22 ?_ ?_ ?_
   ·exact og 12 ⟨rfl,(raT hS57)⟩
   ·exact og 12 ⟨rfl,(r0 8 rfl (v_index_sl Ty.s49 (fun _=>rfl) rfl rfl hx9 (raE hS55)))⟩
   ·exact oO rfl (cO 12 (ring_Take_c hx13) ⟨rfl,(rq [23,24,25,26] 6 (rL [3,27,28] 3 rfl (raE hS50)))⟩)
  ·refine ra3 3 7 22 ?_ ?_ ?_
   ·exact og 12 ⟨rfl,(raT hS58)⟩
   ·exact og 12 ⟨rfl,(r0 8 rfl (v_index_sl Ty.s49 (fun _=>rfl) rfl rfl hx9 (raT hS55)))⟩
   ·exact oO rfl (cO 12 (ring_Take_c hx13) ⟨rfl,(rq [23,24,25,26] 6 (rL [3,27,28] 3 rfl (raT hS49)))⟩)
  ·refine ra3 5 7 22 ?_ ?_ ?_
   ·exact og 12 ⟨rfl,(raT hS58)⟩
   ·exact og 12 ⟨rfl,(raT hS57)⟩
   ·exact oO rfl (cO 12 (ring_Take_c hx13) ⟨rfl,(rq [23,24,25,26] 6 (rL [5,8,9,27,28] 5 rfl (raT hS49)))⟩)
  ·refine ra3 3 9 21 ?_ ?_ ?_
   ·exact og 12 ⟨rfl,(raT hS56)⟩
   ·refine og 12 ⟨rfl,(ra2 3 21 ?_ ?_)⟩
    ·exact og 12 ⟨rfl,(raE hS54)⟩
    ·exact oO rfl (o_load_aptr' (en:=(encL encItem)) (a:=x12) rfl rfl hx12 (loadRow1 Ty.k26 (c:=sL encItem x12) rfl (raE hS53)))
   ·exact oO rfl (o_load_aptr' (en:=(encL encItem)) (a:=x12) rfl rfl hx12 (loadRow1 Ty.k26 (c:=sL encItem x12) rfl (raT hS55)))
  ·refine ra2 7 22 ?_ ?_
   ·exact og 12 ⟨rfl,(r0 8 rfl (v_index_sl Ty.s49 (fun _=>rfl) rfl rfl hx9 (raE hS52)))⟩
   ·exact oO rfl (cO 12 (ring_Take_c hx13) ⟨rfl,(rq [23,24,25,26] 5 (raT hS49))⟩)
  ·refine ra2 5 22 ?_ ?_
   ·exact og 12 ⟨rfl,(r0 8 rfl (v_index_sl Ty.s49 (fun _=>rfl) rfl rfl hx9 (raT hS52)))⟩
   ·exact oO rfl (cO 12 (ring_Take_c hx13) ⟨rfl,(rq [23,24,25,26] 5 (raT hS50))⟩)
  ·refine ra2 9 21 ?_ ?_
   ·exact og 12 ⟨rfl,(raT hS54)⟩
   ·exact oO rfl (o_load_aptr' (en:=(encL encItem)) (a:=x12) rfl rfl hx12 (loadRow1 Ty.k26 (c:=sL encItem x12) rfl (raT hS52)))
  ·refine ra3 3 9 22 ?_ ?_ ?_
   ·exact og 12 ⟨rfl,(raT hS52)⟩
   ·exact og 12 ⟨rfl,(raT hS53)⟩
   ·exact oO rfl (cO 12 (ring_Take_c hx13) ⟨rfl,(rq [23,24,25,26] 4 (rL [3,27,28] 3 rfl (raE hS48)))⟩)
  ·exact ra1 21 (oO rfl (o_load_aptr' (en:=(encL encItem)) (a:=x12) rfl rfl hx12 (loadRow1 Ty.k26 (c:=sL encItem x12) rfl (raE hS51))))
  ·refine ra2 3 22 ?_ ?_
   ·exact og 12 ⟨rfl,(raT hS51)⟩
   ·exact oO rfl (cO 12 (ring_Take_c hx13) ⟨rfl,(rq [23,24,25,26] 3 (ra1 3 (og 13 ⟨rfl,(r0 27 rfl (v_index_ref' (en:=(encL encItem)) Ty.s25 rfl rfl rfl hx14 (raE hS47)))⟩)))⟩)
  ·refine ra2 9 22 ?_ ?_
   ·exact og 12 ⟨rfl,(raT hS51)⟩
   ·exact oO rfl (cO 12 (ring_Take_c hx13) ⟨rfl,(rq [23,24,25,26] 3 (raT hS48))⟩)
  ·exact ra1 22 (oO rfl (cO 12 (ring_Take_c hx13) ⟨rfl,(rq [23,24,25,26] 2 (r0 27 rfl (v_index_ref' (en:=(encL encItem)) Ty.s25 rfl rfl rfl hx14 (raT hS47))))⟩))
  ·exact ra1 5 (og 13 ⟨rfl,(r0 8 rfl (v_index_sl Ty.s49 (fun _=>rfl) rfl rfl hx9 (raT hS48)))⟩)
  ·exact ra1 7 (og 13 ⟨rfl,(r0 8 rfl (v_index_sl Ty.s49 (fun _=>rfl) rfl rfl hx9 (raT hS48)))⟩)
  ·exact ra1 9 (og 13 ⟨rfl,(r0 27 rfl (v_index_ref' (en:=(encL encItem)) Ty.s25 rfl rfl rfl hx14 (raT hS47)))⟩)
  exact ra1 28 (RO.fC 12 (oO rfl (o_store_aptr' (en:=(encL encItem)) (a:=x15) (a':=x13.2.1) Ty.c26 Ty.i26 rfl (vs:=[sL encItem x13.2.1]) rfl rfl rfl hx15 rfl rfl rfl (RA.done (by decide +kernel) (wu (hK4 (p3,(List.set p4 x14 x13.2.1)) h) [] [0,1,2,3,4,5,8,9,10,11,7,6] 13 rfl)))))
end Go.Proofs.YtoelnjpolhamfaaGreatDoor
namespace Go.Proofs.YtoelnjpolhamfaaGreatDoor
open Go.RowKit Go.Shelf
set_option maxRecDepth 100000
set_option maxHeartbeats 4000000
def iR:Go.Shelf.Ren:=⟨fun n=>match n with | 129=>102 | 171=>92 | 243=>117 | 246=>136 | 283=>159 | 284=>160 | 285=>161 | 286=>162 | 317=>170 | 318=>171 | 319=>172 | 320=>173 | 337=>177 | 338=>178 | _=>0,fun n=>match n with | 0=>0 | 2=>2 | 3=>3 | 4=>4 | 5=>5 | 9=>9 | 20=>20 | 37=>93 | 46=>111 | 51=>155 | 53=>157 | 171=>217 | 173=>219 | 212=>229 | 213=>230 | 232=>237 | 233=>238 | _=>0,fun n=>match n with | 17=>0 | 18=>1 | 19=>2 | _=>0⟩
theorem iL:Lays.n171 Tryz.prog iR where
  mixed:=by kernel_rfl
  f129:=by kernel_rfl
  f171:=by kernel_rfl
  f243:=by kernel_rfl
  f246:=by kernel_rfl
  f283:=by kernel_rfl
  f284:=by kernel_rfl
  f285:=by kernel_rfl
  f286:=by kernel_rfl
  f317:=by kernel_rfl
  f318:=by kernel_rfl
  f319:=by kernel_rfl
  f320:=by kernel_rfl
  f337:=by kernel_rfl
  f338:=by kernel_rfl
  t0:=by kernel_rfl
  a0:=fun w=>by kernel_rfl
  z0:=fun w=>by kernel_rfl
  v0:=fun w=>by kernel_rfl
  t2:=by kernel_rfl
  a2:=fun w=>by kernel_rfl
  z2:=fun w=>by kernel_rfl
  v2:=fun w=>by kernel_rfl
  t3:=by kernel_rfl
  a3:=fun w=>by kernel_rfl
  z3:=fun w=>by kernel_rfl
  v3:=fun w=>by kernel_rfl
  t4:=by kernel_rfl
  a4:=fun w=>by kernel_rfl
  z4:=fun w=>by kernel_rfl
  v4:=fun w=>by kernel_rfl
  t5:=by kernel_rfl
  a5:=fun w=>by kernel_rfl
  z5:=fun w=>by kernel_rfl
  v5:=fun w=>by kernel_rfl
  t9:=by kernel_rfl
  a9:=fun w=>by kernel_rfl
  z9:=fun w=>by kernel_rfl
  v9:=fun w=>by kernel_rfl
  t20:=by kernel_rfl
  a20:=fun w=>by kernel_rfl
  z20:=fun w=>by kernel_rfl
  v20:=fun w=>by kernel_rfl
  t37:=by kernel_rfl
  a37:=fun w=>by kernel_rfl
  z37:=fun w=>by kernel_rfl
  v37:=fun w=>by kernel_rfl
  t46:=by kernel_rfl
  a46:=fun w=>by kernel_rfl
  z46:=fun w=>by kernel_rfl
  v46:=fun w=>by kernel_rfl
  t51:=by kernel_rfl
  a51:=fun w=>by kernel_rfl
  z51:=fun w=>by kernel_rfl
  v51:=fun w=>by kernel_rfl
  t53:=by kernel_rfl
  a53:=fun w=>by kernel_rfl
  z53:=fun w=>by kernel_rfl
  v53:=fun w=>by kernel_rfl
  t171:=by kernel_rfl
  a171:=fun w=>by kernel_rfl
  z171:=fun w=>by kernel_rfl
  v171:=fun w=>by kernel_rfl
  t173:=by kernel_rfl
  a173:=fun w=>by kernel_rfl
  z173:=fun w=>by kernel_rfl
  v173:=fun w=>by kernel_rfl
  t212:=by kernel_rfl
  a212:=fun w=>by kernel_rfl
  z212:=fun w=>by kernel_rfl
  v212:=fun w=>by kernel_rfl
  t213:=by kernel_rfl
  a213:=fun w=>by kernel_rfl
  z213:=fun w=>by kernel_rfl
  t232:=by kernel_rfl
  a232:=fun w=>by kernel_rfl
  z232:=fun w=>by kernel_rfl
  v232:=fun w=>by kernel_rfl
  t233:=by kernel_rfl
  a233:=fun w=>by kernel_rfl
  z233:=fun w=>by kernel_rfl
  v233:=fun w=>by kernel_rfl
  g17:=by kernel_rfl
  g18:=by kernel_rfl
  g19:=by kernel_rfl
theorem itoa_fn (p0:Int) (r:List UInt8) (h:itoaS p0=some r):Fn Tryz.prog 92 [.int .i64 p0] (.str r):=by
  unfold itoaS at h
  split at h
  · rename_i h0
    injection h with h
    subst h
    refine ⟨callable Tryz.func92 rfl (by kernel_rfl),fun w F σ vs hs hr=>?_⟩
    match vs,hr with
    | [v0],hr =>
      have r0:Rel σ w F (.int .i64 p0) v0:=hr.2 0 _ v0 rfl rfl
      cases r0
      obtain ⟨i,rfl⟩:=Int.eq_ofNat_of_zero_le h0.1
      refine (Any.strconv_Itoa_small iL i (by omega) w).mono ?_
      rintro e w' ⟨rfl,rfl⟩
      exact ⟨_,_,[],σ,F,rfl,⟨rfl,rfl⟩,hs,.str _,.refl ..⟩
  · cases h
end Go.Proofs.YtoelnjpolhamfaaGreatDoor
namespace Go.Proofs.YtoelnjpolhamfaaGreatDoor
open Go.RowKit Go.Shelf
set_option linter.unusedVariables false
set_option maxRecDepth 100000
set_option maxHeartbeats 4000000
def rRen:Go.Shelf.Ren:=⟨fun n=>match n with | 6=>33 | 14=>64 | 15=>65 | 20=>93 | 21=>94 | 22=>95 | 23=>96 | 24=>97 | 25=>98 | 26=>99 | 27=>100 | 28=>101 | 29=>102 | 46=>118 | 47=>119 | 48=>120 | 49=>121 | 50=>122 | 57=>137 | 60=>179 | 61=>180 | 62=>181 | 63=>182 | 64=>183 | 65=>184 | 66=>185 | 67=>186 | 68=>187 | 69=>188 | 70=>189 | 71=>190 | 72=>191 | 73=>192 | 74=>193 | 75=>197 | _=>0,fun n=>match n with | 0=>0 | 1=>1 | 2=>2 | 3=>3 | 4=>4 | 5=>5 | 6=>6 | 7=>7 | 8=>8 | 9=>9 | 10=>10 | 11=>11 | 12=>12 | 13=>13 | 14=>14 | 15=>15 | 16=>16 | 17=>17 | 18=>18 | 19=>19 | 20=>20 | 21=>21 | 22=>25 | 23=>71 | 24=>26 | 25=>70 | 27=>49 | 29=>43 | 37=>109 | 38=>110 | 39=>111 | 40=>41 | 42=>112 | 44=>147 | 45=>148 | 46=>149 | 47=>150 | 48=>151 | 49=>152 | 50=>75 | 51=>153 | 52=>154 | 53=>155 | 54=>156 | 55=>157 | 66=>173 | 67=>174 | 68=>175 | 69=>176 | 70=>177 | 71=>178 | 76=>201 | 77=>202 | 78=>203 | 81=>239 | 82=>240 | 83=>241 | 84=>242 | 85=>243 | 86=>244 | 87=>186 | 88=>245 | 89=>246 | 90=>247 | 91=>248 | 92=>249 | 93=>250 | 94=>251 | 95=>252 | 96=>179 | _=>0,fun n=>n⟩
theorem rLay:SlLaysF.n6 Tryz.prog rRen where
  mixed:=by kernel_rfl
  f6:=⟨ "slices.SortFunc[[][]crossroads/api.Item,[]crossroads/api.Item]", by kernel_rfl,by kernel_rfl⟩
  f14:=⟨ "slices.pdqsortCmpFunc[[]crossroads/api.Item]", by kernel_rfl,by kernel_rfl⟩
  f15:=by kernel_rfl
  f20:=⟨ "slices.insertionSortCmpFunc[[]crossroads/api.Item]", by kernel_rfl,by kernel_rfl⟩
  f21:=⟨ "slices.heapSortCmpFunc[[]crossroads/api.Item]", by kernel_rfl,by kernel_rfl⟩
  f22:=⟨ "slices.breakPatternsCmpFunc[[]crossroads/api.Item]", by kernel_rfl,by kernel_rfl⟩
  f23:=⟨ "slices.choosePivotCmpFunc[[]crossroads/api.Item]", by kernel_rfl,by kernel_rfl⟩
  f24:=⟨ "slices.reverseRangeCmpFunc[[]crossroads/api.Item]", by kernel_rfl,by kernel_rfl⟩
  f25:=⟨ "slices.partialInsertionSortCmpFunc[[]crossroads/api.Item]", by kernel_rfl,by kernel_rfl⟩
  f26:=⟨ "slices.partitionEqualCmpFunc[[]crossroads/api.Item]", by kernel_rfl,by kernel_rfl⟩
  f27:=⟨ "slices.partitionCmpFunc[[]crossroads/api.Item]", by kernel_rfl,by kernel_rfl⟩
  f28:=by kernel_rfl
  f29:=by kernel_rfl
  f46:=⟨ "slices.siftDownCmpFunc[[]crossroads/api.Item]", by kernel_rfl,by kernel_rfl⟩
  f47:=by kernel_rfl
  f48:=by kernel_rfl
  f49:=⟨ "slices.medianAdjacentCmpFunc[[]crossroads/api.Item]", by kernel_rfl,by kernel_rfl⟩
  f50:=⟨ "slices.medianCmpFunc[[]crossroads/api.Item]", by kernel_rfl,by kernel_rfl⟩
  f57:=⟨ "slices.order2CmpFunc[[]crossroads/api.Item]", by kernel_rfl,by kernel_rfl⟩
  t0:=by kernel_rfl
  a0:=fun w=>by kernel_rfl
  z0:=fun w=>by kernel_rfl
  v0:=fun w=>by kernel_rfl
  t3:=by kernel_rfl
  a3:=fun w=>by kernel_rfl
  z3:=fun w=>by kernel_rfl
  v3:=fun w=>by kernel_rfl
  t4:=by kernel_rfl
  a4:=fun w=>by kernel_rfl
  z4:=fun w=>by kernel_rfl
  v4:=fun w=>by kernel_rfl
  t5:=by kernel_rfl
  a5:=fun w=>by kernel_rfl
  z5:=fun w=>by kernel_rfl
  v5:=fun w=>by kernel_rfl
  t9:=by kernel_rfl
  a9:=fun w=>by kernel_rfl
  z9:=fun w=>by kernel_rfl
  v9:=fun w=>by kernel_rfl
  t22:=by kernel_rfl
  a22:=fun w=>by kernel_rfl
  z22:=fun w=>by kernel_rfl
  v22:=fun w=>by kernel_rfl
  a24:=fun w=>by kernel_rfl
  z24:=fun w=>by kernel_rfl
  t25:=by kernel_rfl
  a25:=fun w=>by kernel_rfl
  z25:=fun w=>by kernel_rfl
  v25:=fun w=>by kernel_rfl
  t39:=by kernel_rfl
  a39:=fun w=>by kernel_rfl
  z39:=fun w=>by kernel_rfl
  v39:=fun w=>by kernel_rfl
  t45:=by kernel_rfl
  a45:=fun w=>by kernel_rfl
  z45:=fun w=>by kernel_rfl
  v45:=fun w=>by kernel_rfl
  t46:=by kernel_rfl
  a46:=fun w=>by kernel_rfl
  z46:=fun w=>by kernel_rfl
  v46:=fun w=>by kernel_rfl
  t50:=by kernel_rfl
  a50:=fun w=>by kernel_rfl
  z50:=fun w=>by kernel_rfl
  v50:=fun w=>by kernel_rfl
  t53:=by kernel_rfl
  a53:=fun w=>by kernel_rfl
  z53:=fun w=>by kernel_rfl
  v53:=fun w=>by kernel_rfl
  t55:=by kernel_rfl
  a55:=fun w=>by kernel_rfl
  z55:=fun w=>by kernel_rfl
  v55:=fun w=>by kernel_rfl
  t66:=by kernel_rfl
  a66:=fun w=>by kernel_rfl
  z66:=fun w=>by kernel_rfl
  v66:=fun w=>by kernel_rfl
  t70:=by kernel_rfl
  a70:=fun w=>by kernel_rfl
  z70:=fun w=>by kernel_rfl
  v70:=fun w=>by kernel_rfl
  t76:=by kernel_rfl
  a76:=fun w=>by kernel_rfl
  z76:=fun w=>by kernel_rfl
  v76:=fun w=>by kernel_rfl
  t77:=by kernel_rfl
  a77:=fun w=>by kernel_rfl
  z77:=fun w=>by kernel_rfl
  v77:=fun w=>by kernel_rfl
open Go.Sort Go.Lib
theorem mv_grow {aw':List Ob} {σ σ':List Value} {F F':Nat→Prop} {W w':World} (h:Mv [] σ W F aw' σ' w' F'):∃ q os',w'=Sort.grow (W.drewN q) os':=by
  have hk:∀ b,b<W.heap.size→w'.heap[b]?=W.heap[b]?:=fun b hb=>h.keep b hb (fun ⟨k,o,v,ho,_⟩=>by simp at ho)
  have hs:=h.size
  have hd:=h.output.2
  have e1:w'.heap=W.heap++w'.heap.extract W.heap.size w'.heap.size:=by
    apply Array.ext_getElem?
    intro i
    by_cases hi:i<W.heap.size
    · rw [Array.getElem?_append_left hi,hk i hi]
    · rw [Array.getElem?_append_right (by omega),Array.getElem?_extract]
      by_cases h2:i<w'.heap.size
      · rw [if_pos (by omega)];congr 1;omega
      · rw [if_neg (by omega),Array.getElem?_eq_none (by omega)]
  refine ⟨w'.drawn - W.drawn,w'.heap.extract W.heap.size w'.heap.size,?_⟩
  have h1:=h.os
  have h2:=h.tape
  have h3:=h.output.1
  obtain ⟨hp,tp,dr,os,out⟩:=w'
  simp only [Sort.grow,World.drewN] at *
  rw [← e1,h1,h2,h3]
  congr 1
  omega
abbrev RowV (σ:List Value) (w:World) (F:Nat→Prop):={p:List Item × Value // Rel σ w F (sL encItem p.1) p.2∧dep0 p.1=true}
theorem rows_of {σ:List Value} {w:World} {F:Nat→Prop}:∀ (xs:List (List Item)) (flat:List Value),RelL σ w F (xs.map (encL encItem)).flatten flat→xs.all dep0=true→∃ ds:List (RowV σ w F),ds.map (·.1.1)=xs∧ds.map (·.1.2)=flat
  | [],flat,h,_=>⟨[],rfl,(List.eq_nil_of_length_eq_zero h.1).symm⟩
  | x::xs,[],h,_=>absurd h.1 (by simp [encL])
  | x::xs,v::flat,h,h0=>by
    rw [List.all_cons,Bool.and_eq_true] at h0
    obtain ⟨ds,h1,h2⟩:=rows_of xs flat ⟨by have:=h.1;simp [encL] at this ⊢;omega,fun j y u hy hu=>h.2 (j+1) y u (by simpa [encL] using hy) (by simpa using hu)⟩ h0.2
    exact ⟨⟨(x,v),h.2 0 _ v (by simp [encL]) rfl,h0.1⟩::ds,by simp [h1],by simp [h2]⟩
theorem rows_rel {σ:List Value} {w:World} {F:Nat→Prop}:∀ (ds:List (RowV σ w F)),RelL σ w F ((ds.map (·.1.1)).map (encL encItem)).flatten (ds.map (·.1.2))
  | []=>.nil
  | d::ds=>.cons d.2.1 (rows_rel ds)
theorem row_one {σ:List Value} {w:World} {F:Nat→Prop} (d:RowV σ w F):d.1.2.oneCell'=true:=by
  obtain ⟨⟨x,v⟩,h,_⟩:=d
  have h:Rel σ w F (.sl (List.map encItem x)) v:=h
  show v.oneCell'=true
  generalize List.map encItem x=rows at h
  cases h<;>rfl
theorem row_len {σ:List Value} {w:World} {F:Nat→Prop} (d:RowV σ w F):d.1.1.length≤maxLen:=by
  obtain ⟨⟨x,v⟩,h,_⟩:=d
  have h:Rel σ w F (.sl (List.map encItem x)) v:=h
  show x.length≤maxLen
  generalize hr:List.map encItem x=rows at h
  have hl:x.length=rows.length:=by rw [← hr,List.length_map]
  cases h with
  | slNil=>rw [hl];exact Nat.zero_le _
  | sl _ _ _ c _ _ hn hm=>omega
set_option linter.unusedSimpArgs false in
theorem sortr_gen (BY:FuncId) (f:List Item→List Item→Option Int) (hc:∀ {a b:List Item} {r:Int},f a b=some r→Fn Tryz.prog BY [sL encItem a,sL encItem b] (iI r))
    (hf:∀ a b,a.length≤maxLen→b.length≤maxLen→dep0 a=true→dep0 b=true→f a b=some (cfR a b)) {p0 r:List (List Item)} (h:sortR p0=some r) :
    FnX Tryz.prog 33 [.ref 0,.func BY []] [.arr 26 1 (List.map (encL encItem) p0)] (.tup []) [.arr 26 1 (List.map (encL encItem) r)]:=by
  unfold sortR at h
  split at h
  rotate_left
  · cases h
  rename_i hlt
  obtain ⟨hlt,hd0⟩:=hlt
  cases h
  refine ⟨callable Tryz.func33 rfl (by kernel_rfl),fun w F σ vs hs hr=>?_⟩
  match vs,hr with
  | [v0, v1], hr =>
    have r0:Rel σ w F (.ref 0) v0:=hr.2 0 _ v0 rfl rfl
    have r1:Rel σ w F (.func BY []) v1:=hr.2 1 _ v1 rfl rfl
    cases r0 with
    | ref _ A q cp hσ0 =>
    cases r1 with
    | func _ _ lb hl hcc =>
    match lb,hl,hcc with
    | [], hl, hcc =>
      obtain ⟨hq,flat,hown,hfl,hcase⟩:=arr_form hs (id:=0) rfl hσ0
      rw [List.length_map] at hq
      subst hq
      have grown:∀ (W:World) (os:Array Obj) (b:Nat),b<W.heap.size→(Sort.grow W os).heap[b]?=W.heap[b]?:=fun W os b hb=>by
        show (W.heap++os)[b]?=_
        rw [Array.getElem?_append_left hb]
      by_cases h0:p0=[]
      · subst h0
        have hN:=AnyF.slices_SortFunc_none (ρ:=rRen) { rLay with } A cp (.func (.func BY) #[] #[]) w
        change Calls Tryz.prog 33 _ _ _ at hN
        refine hN.mono ?_
        rintro e w' ⟨rfl,rfl⟩
        exact ⟨_,_,_,σ,F,rfl,⟨rfl,rfl⟩,hs,rel_undef,.refl _ _ _ _⟩
      · rcases hcase with hcase | ⟨ga,cur,rfl,hFa,hga,hnc,hcm,hsz,htk⟩
        · exact absurd (List.map_eq_nil_iff.1 hcase) h0
        · obtain ⟨ds,hds1,hds2⟩:=rows_of p0 flat hfl.2.2 hd0
          have hdl:ds.length=p0.length:=by rw [← hds1,List.length_map]
          have hga':ga<w.heap.size:=(Array.getElem?_eq_some_iff.1 hga).1
          have hcurn:p0.length≤cur.size:=by rw [hsz,Nat.mul_one];exact hnc
          have hne:ds≠[]:=fun e=>by subst e;simp at hdl;exact h0 (List.eq_nil_of_length_eq_zero hdl.symm)
          letI:Inhabited (RowV σ w F):=⟨ds.head hne⟩
          have hgetc:∀ j (hj:j<ds.length),cur.toList[j]?=some (ds[j]).1.2:=fun j hj=>by
            have:flat[j]?=some (ds[j]).1.2:=by rw [← hds2,List.getElem?_map,List.getElem?_eq_getElem hj];rfl
            rw [← htk,List.getElem?_take] at this
            split at this
            · exact this
            · cases this
          have hH:Holds (fun x:RowV σ w F=>x.1.2) w ga 0 ds.toArray:=by
            intro j hj
            have hj':j<ds.length:=by simpa using hj
            refine ⟨?_,by simp [World.frozen?,hga]⟩
            have hc1:=hgetc j hj'
            rw [Array.getElem?_toList] at hc1
            rw [Nat.zero_add,cell_of_row w ga j cur 26 (0,0) hga,hc1,getElem!_pos _ j hj]
            simp
          have hpar:=hf [] [] (Nat.zero_le _) (Nat.zero_le _) rfl rfl
          have hcmp:CmpLays1 Tryz.prog BY #[] (fun x:RowV σ w F=>x.1.2) (fun x y=>cfR x.1.1 y.1.1) ga 0 ds.toArray.size w:=by
            intro m os dk hsk x y
            have hW:∀ b,b<w.heap.size→b≠ga→(sortWorld (fun x:RowV σ w F=>x.1.2) w ga 0 m dk os).heap[b]?=w.heap[b]?:=fun b hb hne=>by
              unfold sortWorld
              rw [grown _ os b (by simpa [putRow,mapBlock,Sort.ahead] using hb)]
              have:¬ ga=b:=fun e=>hne e.symm
              simp [putRow,mapBlock,Array.getElem?_modify,Sort.ahead,this]
            have hWs:w.heap.size≤(sortWorld (fun x:RowV σ w F=>x.1.2) w ga 0 m dk os).heap.size:=by
              unfold sortWorld;rw [size_grow];simp [putRow,mapBlock,Sort.ahead]
            have hFn:∀ b,F b→b≠ga:=fun b hb e=>hFa (e▸hb)
            have rel:∀ d:RowV σ w F,Rel [] (sortWorld (fun x:RowV σ w F=>x.1.2) w ga 0 m dk os) F (sL encItem d.1.1) d.1.2:=fun d =>
              Rel.mono (fun _ _ h=>h) (fun _ h=>h) (fun b hb=>hW b (hs.lt b hb) (hFn b hb)) (pure_map encItem_p _ σ w F _ d.2.1 [])
            have hcon:=hc (hf x.1.1 y.1.1 (row_len x) (row_len y) x.2.2 y.2.2)
            have:=hcon.2 (sortWorld (fun x:RowV σ w F=>x.1.2) w ga 0 m dk os) F [] [x.1.2,y.1.2] ⟨rfl,fun k o v ho=>by simp at ho,fun k k' o o' v v' g _ ho=>by simp at ho,fun b hb=>Nat.lt_of_lt_of_le (hs.lt b hb) hWs⟩ (.cons (rel x) (.cons (rel y) .nil))
            refine this.mono ?_
            rintro e w' ⟨v,r,aw',σ',F',rfl,⟨rfl,rfl⟩,_,hrel,hmv⟩
            cases hrel
            exact ⟨rfl,mv_grow hmv⟩
          have hS:=Any.slices_SortFunc rLay (fun x:RowV σ w F=>x.1.2) row_one (fun x y=>cfR x.1.1 y.1.1) (swoR fun x:RowV σ w F=>x.1.1) BY #[] ga 0 cp ds.toArray w (fun args w=>(hc hpar).1 args w) hcmp hH hga' (by simp [hdl];exact hlt)
          change Calls Tryz.prog 33 _ _ _ at hS
          simp only [List.size_toArray,hdl] at hS
          refine hS.mono ?_
          rintro e w' ⟨rfl,D,n,os,hp,hso,rfl⟩
          have hDs:D.size=p0.length:=by rw [hp.1,List.size_toArray,hdl]
          have hperm:D.toList.Perm ds:=by
            have h3:=hp.2.2
            rw [← hdl] at h3
            have e1:D.extract 0 ds.length=D:=by rw [show ds.length=D.size by omega];exact Array.extract_size
            have e2:ds.toArray.extract 0 ds.length=ds.toArray:=by rw [show ds.length=ds.toArray.size by simp];exact Array.extract_size
            rw [e1,e2] at h3
            simpa using h3
          have hsl:sortL p0=D.toList.map (·.1.1):=by
            refine sorted_one ?_ (fun a ha=>?_) (sortL_sorted p0) ?_
            · rw [← hds1];exact (sortL_perm _).trans ((hperm.map _).symm)
            · exact List.all_eq_true.1 hd0 a ((sortL_perm p0).subset ha)
            · rw [List.pairwise_map,List.pairwise_iff_getElem]
              intro i j hi hj hij
              have:=hso i j (Nat.zero_le _) hij (by rw [← hDs];simpa using hj)
              rw [getElem!_pos _ j (by simpa using hj),getElem!_pos _ i (by simpa using hi)] at this
              have h5:¬ cfR (D[j]'(by simpa using hj)).1.1 (D[i]'(by simpa using hi)).1.1<0:=by simpa [ltOf] using this
              have h6:=cfR_neg (D[i]'(by simpa using hi)).1.1 (D[j]'(by simpa using hj)).1.1
              simp only [Array.getElem_toList]
              omega
          rw [hsl]
          have hW1:(putRow (fun x:RowV σ w F=>x.1.2) (Sort.ahead w n) ga 0 D).heap[ga]?=some (.cells (putCells (fun x:RowV σ w F=>x.1.2) 0 D cur) 26 (0,0)):=by
            simp [putRow,mapBlock,Array.getElem?_modify,Sort.ahead,hga,onCells]
          have hW1o:∀ b,b≠ga→(putRow (fun x:RowV σ w F=>x.1.2) (Sort.ahead w n) ga 0 D).heap[b]?=w.heap[b]?:=fun b hb=>by
            have:¬ ga=b:=fun e=>hb e.symm
            simp [putRow,mapBlock,Array.getElem?_modify,Sort.ahead,this]
          have hW1s:(putRow (fun x:RowV σ w F=>x.1.2) (Sort.ahead w n) ga 0 D).heap.size=w.heap.size:=by simp [putRow,mapBlock,Sort.ahead]
          have hORel:ORel σ (putRow (fun x:RowV σ w F=>x.1.2) (Sort.ahead w n) ga 0 D) F (.arr 26 1 (List.map (encL encItem) (D.toList.map (·.1.1)))) (.slice (some ⟨ga,0,none⟩) p0.length cp):=by
            have hDl:(List.map (encL encItem) (D.toList.map (·.1.1))).length=p0.length:=by simp [hDs]
            refine ⟨D.toList.map (·.1.2),⟨?_,.inr ⟨ga,cp,_,by rw [hDl],Nat.zero_le _,hW1,by rw [hDl];exact hnc,hcm,by simp [putCells,hsz],?_⟩⟩,⟨fun row hr=>?_,fun u hu=>?_,?_⟩,fun g2 hg2=>?_,_,_,_,rfl⟩
            · rw [hDl];simp [hDs]
            · rw [hDl]
              apply List.ext_getElem?
              intro k
              rw [List.getElem?_take]
              by_cases hk:k<p0.length*1
              · rw [if_pos hk,Array.getElem?_toList,List.getElem?_map,Array.getElem?_toList]
                simp only [putCells,Array.getElem?_mapIdx]
                rw [Array.getElem?_eq_getElem (show k<cur.size by omega),Option.map_some,if_pos ⟨Nat.zero_le _,by omega⟩,Array.getElem?_eq_getElem (show k<D.size by omega),Nat.sub_zero,getElem!_pos _ k (by omega)]
                rfl
              · rw [if_neg hk,List.getElem?_eq_none (by simp [hDs];omega)]
            · obtain ⟨a,_,rfl⟩:=List.mem_map.1 hr;rfl
            · obtain ⟨a,_,rfl⟩:=List.mem_map.1 hu;exact row_one a
            · exact RelL.mono (fun _ _ h=>h) (fun _ h=>h) (fun b hb=>hW1o b (fun e=>hFa (e▸hb))) (rows_rel D.toList)
            · simp [Value.ownBlock] at hg2;subst hg2;exact hFa
          have s1:=hs.write (b0:=ga) 0 rfl rfl hσ0 rfl hW1o hW1s (.arr 26 1 (List.map (encL encItem) (D.toList.map (·.1.1)))) hORel (fun _ h=>h)
          have m1:Mv [.arr 26 1 (List.map (encL encItem) p0)] σ w F ([Ob.arr 26 1 (List.map (encL encItem) p0)].set 0 (.arr 26 1 (List.map (encL encItem) (D.toList.map (·.1.1))))) σ (putRow (fun x:RowV σ w F=>x.1.2) (Sort.ahead w n) ga 0 D) F :=
            Mv.write (aw:=[.arr 26 1 (List.map (encL encItem) p0)]) (w:=w) (w':=putRow (fun x:RowV σ w F=>x.1.2) (Sort.ahead w n) ga 0 D) (F:=F) (b0:=ga) (o:=.arr 26 1 (List.map (encL encItem) p0)) 0 rfl rfl hσ0 rfl rfl rfl ⟨rfl,Nat.le_add_right _ _⟩ hW1o hW1s (.arr 26 1 (List.map (encL encItem) (D.toList.map (·.1.1)))) (fun _ h=>h)
          have eW:sortWorld (fun x:RowV σ w F=>x.1.2) w ga 0 n D os=Sort.grow (putRow (fun x:RowV σ w F=>x.1.2) (Sort.ahead w n) ga 0 D) os:=rfl
          rw [eW]
          exact ⟨_,_,_,σ,F,rfl,⟨rfl,rfl⟩,s1.grow (fun _ h=>h) (fun _ h=>.inl h) (fun b hb=>by have:=s1.lt b hb;rw [size_grow];omega) (grown _ os),rel_undef,m1.trans (.grow (fun _ h=>h) (fun _ h=>.inl h) rfl rfl drO (by rw [size_grow];omega) (grown _ os))⟩
end Go.Proofs.YtoelnjpolhamfaaGreatDoor
namespace Go.Proofs.YtoelnjpolhamfaaGreatDoor
set_option linter.unusedVariables false
set_option linter.unusedSimpArgs false
def gI (n:Int):Prop := -9223372036854775808≤n∧n≤9223372036854775807
def mI (n:Int):Nat:=1
theorem wrap_ok {n:Int} (h0 : -9223372036854775808≤n) (h1:n≤9223372036854775807):IntKind.i64.wrap n=n:=IntWalk.i64_in n ⟨h0,h1⟩
theorem wrap_1 {k:Nat} (h:k<4611686018427387904):IntKind.i64.wrap ((k:Int)+1)=((k+1:Nat):Int):=by rw [wrap_ok (by omega) (by omega)];rfl
theorem idx_at {α:Type} {xs:List α} {k:Nat} {x:α} (h:xs[k]?=some x):idx xs (k:Int)=some x:=by
  unfold idx;rw [if_pos (by omega)];simpa using h
theorem ixN_at {α:Type} {xs:List α} {k:Nat} (h:k<xs.length):ixN xs (k:Int)=some k:=by
  unfold ixN;rw [if_pos (by omega)];simp
theorem app_ok {α:Type} {xs ys:List α} (h:xs.length+ys.length≤1099511627776):app xs ys=some (xs++ys):=by unfold app;rw [if_pos h]
theorem cat_ok {xs ys:List UInt8} (h:xs.length+ys.length≤4611686018427387904):cat xs ys=some (xs++ys):=by unfold cat;rw [if_pos h]
theorem sub_ok {α:Type} {xs:List α} {i j:Nat} (h:i≤j) (h2:j≤xs.length):sub xs (i:Int) (j:Int)=some ((xs.take j).drop i):=by
  unfold sub;rw [if_pos (by omega)];simp
theorem sub_end {α:Type} {xs:List α} {i:Nat} (h2:i≤xs.length):sub xs (i:Int) (xs.length:Int)=some (xs.drop i):=by
  have:=sub_ok (xs:=xs) (i:=i) (j:=xs.length) h2 (Nat.le_refl _)
  simpa using this
def foldE {α σ ρ:Type} (f:Nat→α→σ→Option (σ ⊕ ρ)) (fin:σ→Option ρ):Nat→List α→σ→Option ρ
  | _,[],st=>fin st
  | k,x::xs,st=>match f k x st with
    | none=>none
    | some (.inl st')=>foldE f fin (k+1) xs st'
    | some (.inr r)=>some r
theorem iter_list {α σ ρ τ:Type} (xs:List α) (hx:xs.length≤1099511627776) (e:Nat→σ→τ) {body:τ→Option (τ ⊕ ρ)} (f:Nat→α→σ→Option (σ ⊕ ρ)) (fin:σ→Option ρ)
    (h1 : ∀ (k:Nat) x st,xs[k]?=some x→k<xs.length→idx xs (k:Int)=some x→decide ((k:Int)<(xs.length:Int))=true→IntKind.i64.wrap ((k:Int)+1)=((k+1:Nat):Int) →
      body (e k st)=match f k x st with
        | none=>none
        | some (.inl st')=>some (.inl (e (k+1) st'))
        | some (.inr r)=>some (.inr r))
    (h2:∀ st,decide ((xs.length:Int)<(xs.length:Int))=false→body (e xs.length st)=(fin st).map .inr) :
    ∀ (n k:Nat) st,k+n=xs.length→iter body (e k st)=foldE f fin k (xs.drop k) st
  | 0,k,st,h=>by
    have hk:k=xs.length:=by omega
    subst hk
    rw [iter_eq,h2 st (by simp),List.drop_length]
    unfold foldE
    cases fin st<;>rfl
  | n + 1,k,st,h=>by
    have hlt:k<xs.length:=by omega
    have hg:xs[k]?=some xs[k]:=List.getElem?_eq_getElem hlt
    rw [iter_eq,h1 k xs[k] st hg hlt (idx_at hg) (by simp;omega) (wrap_1 (by omega)),List.drop_eq_getElem_cons hlt]
    unfold foldE
    cases f k xs[k] st with
    | none=>rfl
    | some v =>
      cases v with
      | inl st'=>exact iter_list xs hx e f fin h1 h2 n (k+1) st' (by omega)
      | inr r=>rfl
theorem iter_list0 {α σ ρ τ:Type} (xs:List α) (hx:xs.length≤1099511627776) (e:Nat→σ→τ) {body:τ→Option (τ ⊕ ρ)} (f:Nat→α→σ→Option (σ ⊕ ρ)) (fin:σ→Option ρ) (st:σ)
    (h1 : ∀ (k:Nat) x st,xs[k]?=some x→k<xs.length→idx xs (k:Int)=some x→decide ((k:Int)<(xs.length:Int))=true→IntKind.i64.wrap ((k:Int)+1)=((k+1:Nat):Int) →
      body (e k st)=match f k x st with
        | none=>none
        | some (.inl st')=>some (.inl (e (k+1) st'))
        | some (.inr r)=>some (.inr r))
    (h2:∀ st,decide ((xs.length:Int)<(xs.length:Int))=false→body (e xs.length st)=(fin st).map .inr):iter body (e 0 st)=foldE f fin 0 xs st:=by
  have:=iter_list xs hx e f fin h1 h2 xs.length 0 st (by omega)
  simpa using this
theorem iter_inv {α β:Type} {body:α→Option (α ⊕ β)} (I:α→Prop) (μ:α→Nat) (R:β→Prop) (h:∀ s,I s→(∃ s',body s=some (.inl s')∧I s'∧μ s' < μ s)∨∃ r,body s=some (.inr r)∧R r):∀ (n:Nat) s,μ s≤n→I s→∃ r,iter body s=some r∧R r
  | n,s,hn,hs=>by
    rcases h s hs with ⟨s',h1,h2,h3⟩ | ⟨r,h1,h2⟩
    · match n,hn with
      | 0,hn=>omega
      | n+1,hn =>
        obtain ⟨r,h4,h5⟩:=iter_inv I μ R h n s' (by omega) h2
        exact ⟨r,by rw [iter_eq,h1];exact h4,h5⟩
    · exact ⟨r,by rw [iter_eq,h1],h2⟩
theorem equal_loop {α:Type} [DecidableEq α] (a b:List α) (ha:a.length≤1099511627776) (hl:a.length=b.length) {body:Int→Option (Int ⊕ Bool)}
    (h1:∀ (k:Nat) x y,decide ((k:Int)<(a.length:Int))=true→idx a (k:Int)=some x→idx b (k:Int)=some y→IntKind.i64.wrap ((k:Int)+1)=((k+1:Nat):Int)→body k=if x=y then some (.inl ((k+1:Nat):Int)) else some (.inr false))
    (h2:decide ((a.length:Int)<(a.length:Int))=false→body a.length=some (.inr true)):iter body 0=some (decide (a=b)):=by
  have key:∀ (n k:Nat),k+n=a.length→iter body k=some (decide (a.drop k=b.drop k)):=by
    intro n
    induction n with
    | zero =>
      intro k hk
      have hk:k=a.length:=by omega
      subst hk
      rw [iter_eq,h2 (by simp),List.drop_length,List.drop_of_length_le (by omega)]
      simp
    | succ n ih =>
      intro k hk
      have hlt:k<a.length:=by omega
      have hlt2:k<b.length:=by omega
      have hd:(a.drop k=b.drop k) ↔ (a[k]=b[k]∧a.drop (k+1)=b.drop (k+1)):=by
        have ea:=List.drop_eq_getElem_cons hlt
        have eb:=List.drop_eq_getElem_cons hlt2
        constructor
        · intro h;rw [ea,eb] at h;exact List.cons.inj h
        · rintro ⟨h1,h2⟩;rw [ea,eb,h1,h2]
      rw [iter_eq,h1 k a[k] b[k] (by simp;omega) (idx_at (List.getElem?_eq_getElem hlt)) (idx_at (List.getElem?_eq_getElem hlt2)) (wrap_1 (by omega))]
      by_cases hxy:a[k]=b[k]
      · rw [if_pos hxy]
        simp only
        rw [ih (k+1) (by omega)]
        simp [hd,hxy]
      · rw [if_neg hxy]
        simp [hd,hxy]
  have:=key a.length 0 (by omega)
  simpa using this
end Go.Proofs.YtoelnjpolhamfaaGreatDoor
namespace Go.Proofs.YtoelnjpolhamfaaGreatDoor
set_option linter.unusedVariables false
set_option linter.unusedSimpArgs false
theorem compare_cf (x y:Item):ways_compare x y=some (if x.Key<y.Key∨x.Key=y.Key∧x.Val<y.Val then -1 else if x.Key=y.Key∧x.Val=y.Val then 0 else 1):=by
  unfold ways_compare
  by_cases h1:x.Key=y.Key<;>by_cases h2:x.Val=y.Val<;>simp [h1,h2]<;>(repeat' split)<;>first | rfl | (exfalso;omega)
theorem cf_loop (a b:List Item) (la:a.length≤9223372036854775807):∀ (m i:Nat),a.length - i=m→i≤a.length→iter (fun s:Int=>slices_CompareFunc_Itemapi_Item_api_Item_api_Item_xdd87_l1 a b s) (i:Int)=some (cfR (a.drop i) (b.drop i)):=by
  intro m
  induction m with
  | zero =>
    intro i hm hi
    have e:i=a.length:=by omega
    subst e
    rw [iter_eq]
    unfold slices_CompareFunc_Itemapi_Item_api_Item_api_Item_xdd87_l1
    rw [if_neg (by simp),List.drop_length]
    by_cases h:a.length<b.length
    · rw [if_pos (by simpa using h),List.drop_eq_getElem_cons h];rfl
    · rw [if_neg (by simpa using h),List.drop_eq_nil_of_le (by omega)];rfl
  | succ m ih =>
    intro i hm hi
    have hlt:i<a.length:=by omega
    rw [iter_eq]
    unfold slices_CompareFunc_Itemapi_Item_api_Item_api_Item_xdd87_l1
    have ea:idx a (i:Int)=some a[i]:=by unfold idx;rw [if_pos (by omega)];simp [hlt]
    rw [if_pos (by simpa using hlt),ea,Option.bind_some,List.drop_eq_getElem_cons hlt]
    by_cases h:i<b.length
    · have eb:idx b (i:Int)=some b[i]:=by unfold idx;rw [if_pos (by omega)];simp [h]
      rw [if_neg (by simp;omega),eb,Option.bind_some,compare_cf,Option.bind_some,List.drop_eq_getElem_cons h]
      unfold cfR
      by_cases h1:a[i].Key<b[i].Key∨a[i].Key=b[i].Key∧a[i].Val<b[i].Val
      · rw [if_pos h1,if_pos (by decide),if_pos h1];rfl
      · rw [if_neg h1,if_neg h1]
        by_cases h2:a[i].Key=b[i].Key∧a[i].Val=b[i].Val
        · rw [if_pos h2,if_pos h2,if_neg (by decide)]
          have:=ih (i+1) (by omega) (by omega)
          rw [wrap_ok (by omega) (by omega)]
          exact this
        · rw [if_neg h2,if_neg h2,if_pos (by decide)];rfl
    · rw [if_pos (by simp;omega),show b.drop i=[] from List.drop_eq_nil_of_le (by omega)];rfl
theorem ways_All_1_eq (a b:List Item) (la:a.length≤9223372036854775807):ways_All_1 a b=some (cfR a b):=by
  unfold ways_All_1 slices_CompareFunc_Itemapi_Item_api_Item_api_Item_xdd87
  have:=cf_loop a b la _ 0 rfl (Nat.zero_le _)
  simp only [Int.natCast_zero,List.drop_zero] at this
  rw [this];rfl
theorem ways_All_1_cf (a b:List Item) (la:a.length≤maxLen) (lb:b.length≤maxLen) (_:dep0 a=true) (_:dep0 b=true):ways_All_1 a b=some (cfR a b):=ways_All_1_eq a b (by simpa [maxLen] using la)
end Go.Proofs.YtoelnjpolhamfaaGreatDoor
namespace Go.Proofs.YtoelnjpolhamfaaGreatDoor
open Go.RowKit
set_option linter.unusedVariables false
set_option linter.unusedSimpArgs false
set_option maxRecDepth 100000
set_option maxHeartbeats 4000000
set_option synthInstance.maxSize 100000
set_option synthInstance.maxHeartbeats 4000000
theorem move_Do_c {p0:Net} {p1:List (List Item)} {p2:State} {p3:Move} {r:State × Int} (h:move_Do p0 p1 p2 p3=some r):Fn Tryz.prog 63 [.agg (encNet p0),sL (encL encItem) p1,.agg (encState p2),.agg (encMove p3)] (.tup [.agg (encState r.1),iI r.2]):=by
  unfold move_Do at h
  refine fT 0 0 Tryz.func63 Tryz.ntmps63 rfl ?_
  refine B h fun x2 hx2 h=>(X 14 0 (sO (cF (move_Check_c hx2) ⟨rfl,(Y 7 4 (T.ci h rfl (fun hb_1 h=>?_) (fun hb_1 h=>?_)))⟩)))
  ·refine X 7 4 ?_
   cases h
   exact tD
  refine X 2 4 ?_
  obtain ⟨zt_7,hz,h⟩:=bind_some h
  revert hz h;revert zt_7;intro c5 hz h
  refine j1 [(1,sL (encL encItem) p1),(4,.ptr 0 0),(6,.ptr 1 0),(7,.ptr 2 0),(8,.ptr 3 0),(62,.bool c5)] [.box (encNet p0),.box (encState p2),.box (encMove p3),.box [.nils,.nils,.nils,.nils,.nils]] ?_ (fun hK=>?_)
  ·refine T.ci h rfl (fun hb_8 h=>?_) (fun hb_8 h=>?_)
   ·refine X 6 4 ?_
    cases h
    exact tD
   refine B h fun x7 hx7 h=>(X 8 4 (sO (cF (move_can_c hx7) ⟨rfl,(Y 2 4 (T.ci h rfl (fun hb_9 h=>?_) (fun hb_9 h=>?_)))⟩)))
   ·refine X 6 4 ?_
    cases h
    exact tD
   refine B h fun x9 hx9 h=>(X 4 4 (sO (cG [] 4 5 (FnX.of_fnO (move_Copy_c hx9)) ⟨rfl,(B h fun x11 hx11 h=>(Y 7 9 (sO (cG [1,4,5,6,7,8] 9 8 (move_do_x5aa6_c hx11) ⟨rfl,(Y 7 11 ?_)⟩))))⟩)))
   cases h
   exact tD
  refine X 1 4 ?_
  rcases bool_cases (decide (p3.Node<0)) with hb_2 | hb_2
  ·replace hz:=ite_T hz hb_2
   refine T.drawn mixed (k:=44) rfl (rq [0] 43 (ra1 1 (og 4 ⟨rfl,(rq [2,3] 40 (r2 4 rfl hb_2 (r2 5 rfl hb_2 (r2 6 rfl hb_2 (r2 7 rfl hb_2 (r2 8 rfl hb_2 ?_))))))⟩)))
   refine r2 9 rfl hb_2 (r0 10 rfl (v_pickT (v:=.bool true) rfl hb_2 rfl (rq [11] 32 (r2 12 rfl rfl (r2 13 rfl rfl (r2 14 rfl rfl (r0 15 rfl (v_pickT (v:=.bool true) rfl rfl rfl (rq [16] 27 (r2 17 rfl rfl (r2 18 rfl rfl ?_)))))))))))
   refine r2 19 rfl rfl (r2 20 rfl rfl (r3 21 rfl (r3 22 rfl (r3 23 rfl (r3 24 rfl (r3 25 rfl (r3 26 rfl (r3 27 rfl (r3 28 rfl ?_)))))))))
   refine r3 29 rfl (r3 30 rfl (r3 31 rfl (r3 32 rfl (r3 33 rfl (r3 34 rfl (r3 35 rfl (r3 36 rfl (r3 37 rfl (r3 38 rfl ?_)))))))))
   exact r3 39 rfl (r3 40 rfl (r3 41 rfl (r2 42 rfl rfl (r0 43 rfl (v_pickT (v:=.bool true) rfl rfl rfl (RA.done (by decide +kernel) (T.sub hK ⟨rfl,rfl,rfl,rfl,rfl,(congrArg AV.bool ((congrArg (fun p=>p) (Option.some.inj hz)).symm)).symm,trivial⟩)))))))
  replace hz:=ite_F hz hb_2
  rcases bool_cases (decide (p3.Node ≥ ((p0.Nodes).length:Int))) with hb_3 | hb_3
  ·replace hz:=ite_T hz hb_3
   refine T.drawn mixed (k:=44) rfl ?_
   apply RA.jn 0 (bm 44 17592186044415);intro hS10
   ·refine rq [0] 43 (ra1 1 (og 4 ⟨rfl,(rq [2,3] 40 (ry 4 hb_2 rfl (ry 6 hb_2 rfl (ra2 5 7 ?_ ?_))))⟩))
    ·refine oy 4 hb_2 rfl (ra1 7 (oy 4 hb_2 rfl (r1 8 rfl hb_2 (v_len_sl Ty.s22 rfl (ry 9 hb_2 rfl (r0 10 rfl (v_pickF (v:=.bool (decide (p3.Node ≥ ((p0.Nodes).length:Int)))) rfl hb_2 rfl (rq [11] 32 (r2 12 rfl hb_3 (r2 13 rfl hb_3 (r2 14 rfl hb_3 ?_)))))))))))
     refine r0 15 rfl (v_pickT (v:=.bool true) rfl hb_3 rfl (rq [16] 27 (r2 17 rfl rfl (r2 18 rfl rfl (r2 19 rfl rfl (r2 20 rfl rfl (r3 21 rfl (r3 22 rfl (r3 23 rfl (r3 24 rfl ?_))))))))))
     refine r3 25 rfl (r3 26 rfl (r3 27 rfl (r3 28 rfl (r3 29 rfl (r3 30 rfl (r3 31 rfl (r3 32 rfl (r3 33 rfl (r3 34 rfl ?_)))))))))
     exact r3 35 rfl (r3 36 rfl (r3 37 rfl (r3 38 rfl (r3 39 rfl (r3 40 rfl (r3 41 rfl (r2 42 rfl rfl (r0 43 rfl (v_pickT (v:=.bool true) rfl rfl rfl (raE hS10))))))))))
    ·refine oy 4 hb_2 rfl (r1 8 rfl hb_2 (v_len_sl Ty.s22 rfl (ra1 5 (oy 4 hb_2 rfl (ry 9 hb_2 rfl (r0 10 rfl (v_pickF (v:=.bool (decide (p3.Node ≥ ((p0.Nodes).length:Int)))) rfl hb_2 rfl (rq [11] 32 (r2 12 rfl hb_3 (r2 13 rfl hb_3 (r2 14 rfl hb_3 ?_)))))))))))
     refine r0 15 rfl (v_pickT (v:=.bool true) rfl hb_3 rfl (rq [16] 27 (r2 17 rfl rfl (r2 18 rfl rfl (r2 19 rfl rfl (r2 20 rfl rfl (r3 21 rfl (r3 22 rfl (r3 23 rfl (r3 24 rfl ?_))))))))))
     refine r3 25 rfl (r3 26 rfl (r3 27 rfl (r3 28 rfl (r3 29 rfl (r3 30 rfl (r3 31 rfl (r3 32 rfl (r3 33 rfl (r3 34 rfl ?_)))))))))
     exact r3 35 rfl (r3 36 rfl (r3 37 rfl (r3 38 rfl (r3 39 rfl (r3 40 rfl (r3 41 rfl (r2 42 rfl rfl (r0 43 rfl (v_pickT (v:=.bool true) rfl rfl rfl (raT hS10))))))))))
   exact RA.done (by decide +kernel) (T.sub hK ⟨rfl,rfl,rfl,rfl,rfl,(congrArg AV.bool ((congrArg (fun p=>p) (Option.some.inj hz)).symm)).symm,trivial⟩)
  replace hz:=ite_F hz hb_3
  rcases bool_cases (decide (p3.Lane<0)) with hb_4 | hb_4
  ·replace hz:=ite_T hz hb_4
   refine T.drawn mixed (k:=44) rfl ?_
   apply RA.jn 31 (bm 44 8191);intro hS11
   ·refine rq [0] 43 (ra1 1 (og 4 ⟨rfl,(rq [2,3] 40 (ry 4 hb_2 rfl (ry 6 hb_2 rfl (ra2 5 7 ?_ ?_))))⟩))
    ·exact oy 4 hb_2 rfl (ra1 7 (oy 4 hb_2 rfl (r1 8 rfl hb_2 (v_len_sl Ty.s22 rfl (ry 9 hb_2 rfl (r0 10 rfl (v_pickF (v:=.bool (decide (p3.Node ≥ ((p0.Nodes).length:Int)))) rfl hb_2 rfl (rq [11] 32 (ry 12 hb_3 rfl (raE hS11))))))))))
    ·exact oy 4 hb_2 rfl (r1 8 rfl hb_2 (v_len_sl Ty.s22 rfl (ra1 5 (oy 4 hb_2 rfl (ry 9 hb_2 rfl (r0 10 rfl (v_pickF (v:=.bool (decide (p3.Node ≥ ((p0.Nodes).length:Int)))) rfl hb_2 rfl (rq [11] 32 (ry 12 hb_3 rfl (raT hS11))))))))))
   refine ra1 13 (oy 4 hb_3 rfl (ry 14 hb_3 rfl (r0 15 rfl (v_pickF (v:=.bool (decide (p3.Lane<0))) rfl hb_3 rfl (rq [16] 27 (r2 17 rfl hb_4 (r2 18 rfl hb_4 (r2 19 rfl hb_4 (r2 20 rfl hb_4 (r3 21 rfl ?_))))))))))
   refine r3 22 rfl (r3 23 rfl (r3 24 rfl (r3 25 rfl (r3 26 rfl (r3 27 rfl (r3 28 rfl (r3 29 rfl (r3 30 rfl (r3 31 rfl ?_)))))))))
   refine r3 32 rfl (r3 33 rfl (r3 34 rfl (r3 35 rfl (r3 36 rfl (r3 37 rfl (r3 38 rfl (r3 39 rfl (r3 40 rfl (r3 41 rfl ?_)))))))))
   exact r2 42 rfl hb_4 (r0 43 rfl (v_pickT (v:=.bool true) rfl hb_4 rfl (RA.done (by decide +kernel) (T.sub hK ⟨rfl,rfl,rfl,rfl,rfl,(congrArg AV.bool ((congrArg (fun p=>p) (Option.some.inj hz)).symm)).symm,trivial⟩))))
  replace hz:=ite_F hz hb_4
  rcases bool_cases (decide (p3.Lane > 0)) with hb_5 | hb_5
  ·replace hz:=ite_T hz hb_5
   refine B hz fun x3 hx3 hz=>?_
   rcases bool_cases (x3.Kind != 6) with hb_6 | hb_6
   ·replace hz:=ite_T hz hb_6
    refine T.drawn mixed (k:=44) rfl ?_
    apply RA.jn 17 (bm 44 134217727);intro hS12
    apply RA.jn 31 (bm 44 8191);intro hS13
    ·refine rq [0] 43 (ra1 1 (og 4 ⟨rfl,(rq [2,3] 40 (ry 4 hb_2 rfl (ry 6 hb_2 rfl (ra2 5 7 ?_ ?_))))⟩))
     ·exact oy 4 hb_2 rfl (ra1 7 (oy 4 hb_2 rfl (r1 8 rfl hb_2 (v_len_sl Ty.s22 rfl (ry 9 hb_2 rfl (r0 10 rfl (v_pickF (v:=.bool (decide (p3.Node ≥ ((p0.Nodes).length:Int)))) rfl hb_2 rfl (rq [11] 32 (ry 12 hb_3 rfl (raE hS13))))))))))
     ·exact oy 4 hb_2 rfl (r1 8 rfl hb_2 (v_len_sl Ty.s22 rfl (ra1 5 (oy 4 hb_2 rfl (ry 9 hb_2 rfl (r0 10 rfl (v_pickF (v:=.bool (decide (p3.Node ≥ ((p0.Nodes).length:Int)))) rfl hb_2 rfl (rq [11] 32 (ry 12 hb_3 rfl (raT hS13))))))))))
    ·refine ra1 13 (oy 4 hb_3 rfl (ry 14 hb_3 rfl (r0 15 rfl (v_pickF (v:=.bool (decide (p3.Lane<0))) rfl hb_3 rfl (rq [16] 27 (ry 17 hb_4 rfl (ra1 18 (oy 4 hb_4 rfl (ry 19 hb_4 rfl (ry 20 hb_4 rfl ?_))))))))))
     refine ry 21 hb_5 rfl (ry 23 hb_5 rfl (ra2 22 24 ?_ ?_))
     ·exact oy 4 hb_5 rfl (ra1 24 (oy 4 hb_5 rfl (r1 25 rfl hb_5 (v_index_sl Ty.s22 (fun _=>rfl) rfl rfl hx3 (ry 26 hb_5 rfl (raE hS12))))))
     ·exact oy 4 hb_5 rfl (ra1 22 (oy 4 hb_5 rfl (r1 25 rfl hb_5 (v_index_sl Ty.s22 (fun _=>rfl) rfl rfl hx3 (ry 26 hb_5 rfl (raT hS12))))))
    refine ra1 27 (oy 4 hb_5 rfl (ry 28 hb_5 rfl (ry 29 hb_5 rfl (r2 30 rfl hb_6 (r2 31 rfl hb_6 (r2 32 rfl hb_6 (r2 33 rfl hb_6 (r2 34 rfl hb_6 (r2 35 rfl hb_6 ?_)))))))))
    exact r2 36 rfl hb_6 (r2 37 rfl hb_6 (r2 38 rfl hb_6 (r2 39 rfl hb_6 (r2 40 rfl hb_6 (r1 41 rfl hb_5 (v_pickT (v:=.bool true) rfl hb_6 rfl (r1 42 rfl hb_4 (v_pickT (v:=.bool true) rfl hb_5 rfl (r0 43 rfl (v_pickF (v:=.bool true) rfl hb_4 rfl (RA.done (by decide +kernel) (T.sub hK ⟨rfl,rfl,rfl,rfl,rfl,(congrArg AV.bool ((congrArg (fun p=>p) (Option.some.inj hz)).symm)).symm,trivial⟩))))))))))))
   replace hz:=ite_F hz hb_6
   refine B hz fun x4 hx4 hz=>(T.drawn mixed (k:=44) rfl ?_)
   apply RA.jn 0 (bm 44 17592186044415);intro hS14
   apply RA.jn 6 (bm 44 274877906943);intro hS15
   apply RA.jn 7 (bm 44 272730423295);intro hS16
   apply RA.jn 9 (bm 44 60129542143);intro hS17
   apply RA.jn 9 (bm 44 34359738367);intro hS18
   apply RA.jn 17 (bm 44 134217727);intro hS19
   apply RA.jn 31 (bm 44 8191);intro hS20
   ·refine rq [0] 43 (ra1 1 (og 4 ⟨rfl,(rq [2,3] 40 (ry 4 hb_2 rfl (ry 6 hb_2 rfl (ra2 5 7 ?_ ?_))))⟩))
    ·exact oy 4 hb_2 rfl (ra1 7 (oy 4 hb_2 rfl (r1 8 rfl hb_2 (v_len_sl Ty.s22 rfl (ry 9 hb_2 rfl (r0 10 rfl (v_pickF (v:=.bool (decide (p3.Node ≥ ((p0.Nodes).length:Int)))) rfl hb_2 rfl (rq [11] 32 (ry 12 hb_3 rfl (raE hS20))))))))))
    ·exact oy 4 hb_2 rfl (r1 8 rfl hb_2 (v_len_sl Ty.s22 rfl (ra1 5 (oy 4 hb_2 rfl (ry 9 hb_2 rfl (r0 10 rfl (v_pickF (v:=.bool (decide (p3.Node ≥ ((p0.Nodes).length:Int)))) rfl hb_2 rfl (rq [11] 32 (ry 12 hb_3 rfl (raT hS20))))))))))
   ·refine ra1 13 (oy 4 hb_3 rfl (ry 14 hb_3 rfl (r0 15 rfl (v_pickF (v:=.bool (decide (p3.Lane<0))) rfl hb_3 rfl (rq [16] 27 (ry 17 hb_4 rfl (ra1 18 (oy 4 hb_4 rfl (ry 19 hb_4 rfl (ry 20 hb_4 rfl ?_))))))))))
    refine ry 21 hb_5 rfl (ry 23 hb_5 rfl (ra2 22 24 ?_ ?_))
    ·exact oy 4 hb_5 rfl (ra1 24 (oy 4 hb_5 rfl (r1 25 rfl hb_5 (v_index_sl Ty.s22 (fun _=>rfl) rfl rfl hx3 (ry 26 hb_5 rfl (raE hS19))))))
    ·exact oy 4 hb_5 rfl (ra1 22 (oy 4 hb_5 rfl (r1 25 rfl hb_5 (v_index_sl Ty.s22 (fun _=>rfl) rfl rfl hx3 (ry 26 hb_5 rfl (raT hS19))))))
   ·refine ra1 27 (oy 4 hb_5 rfl (ry 28 hb_5 rfl (ry 29 hb_5 rfl (ry 30 hb_6 rfl (ry 32 hb_6 rfl (ry 34 hb_6 rfl (ra3 31 33 35 ?_ ?_ ?_)))))))
    ·refine oy 4 hb_6 rfl (ra2 33 35 ?_ ?_)
     ·exact oy 4 hb_6 rfl (raE hS18)
     ·exact oy 4 hb_6 rfl (raE hS17)
    ·refine oy 4 hb_6 rfl (ra2 31 35 ?_ ?_)
     ·exact oy 4 hb_6 rfl (raT hS18)
     ·exact oy 4 hb_6 rfl (r1 36 rfl hb_6 (v_index_sl Ty.s22 (fun _=>rfl) rfl rfl hx4 (ry 37 hb_6 rfl (raE hS16))))
    ·refine oy 4 hb_6 rfl (ra2 31 33 ?_ ?_)
     ·exact oy 4 hb_6 rfl (raT hS17)
     ·exact oy 4 hb_6 rfl (r1 36 rfl hb_6 (v_index_sl Ty.s22 (fun _=>rfl) rfl rfl hx4 (ry 37 hb_6 rfl (raT hS16))))
   ·exact ra1 35 (oy 4 hb_6 rfl (r1 36 rfl hb_6 (v_index_sl Ty.s22 (fun _=>rfl) rfl rfl hx4 (ry 37 hb_6 rfl (raE hS15)))))
   ·exact ra1 33 (oy 4 hb_6 rfl (r1 36 rfl hb_6 (v_index_sl Ty.s22 (fun _=>rfl) rfl rfl hx4 (ry 37 hb_6 rfl (raT hS15)))))
   ·refine ra2 31 38 ?_ ?_
    ·exact oy 4 hb_6 rfl (raT hS15)
    ·exact oy 4 hb_6 rfl (r1 39 rfl hb_6 (v_len_sl Ty.s49 rfl (ra1 31 (oy 4 hb_6 rfl (ry 40 hb_6 rfl (r1 41 rfl hb_5 (v_pickF (v:=.bool (decide (p3.Lane ≥ ((x4.In).length:Int)))) rfl hb_6 rfl (r1 42 rfl hb_4 (v_pickT (v:=.bool (decide (p3.Lane ≥ ((x4.In).length:Int)))) rfl hb_5 rfl (r0 43 rfl (v_pickF (v:=.bool (decide (p3.Lane ≥ ((x4.In).length:Int)))) rfl hb_4 rfl (raE hS14))))))))))))
   ·exact ra1 38 (oy 4 hb_6 rfl (r1 39 rfl hb_6 (v_len_sl Ty.s49 rfl (ry 40 hb_6 rfl (r1 41 rfl hb_5 (v_pickF (v:=.bool (decide (p3.Lane ≥ ((x4.In).length:Int)))) rfl hb_6 rfl (r1 42 rfl hb_4 (v_pickT (v:=.bool (decide (p3.Lane ≥ ((x4.In).length:Int)))) rfl hb_5 rfl (r0 43 rfl (v_pickF (v:=.bool (decide (p3.Lane ≥ ((x4.In).length:Int)))) rfl hb_4 rfl (raT hS14)))))))))))
   exact RA.done (by decide +kernel) (T.sub hK ⟨rfl,rfl,rfl,rfl,rfl,(congrArg AV.bool ((congrArg (fun p=>p) (Option.some.inj hz)).symm)).symm,trivial⟩)
  replace hz:=ite_F hz hb_5
  refine T.drawn mixed (k:=44) rfl ?_
  apply RA.jn 31 (bm 44 8191);intro hS21
  ·refine rq [0] 43 (ra1 1 (og 4 ⟨rfl,(rq [2,3] 40 (ry 4 hb_2 rfl (ry 6 hb_2 rfl (ra2 5 7 ?_ ?_))))⟩))
   ·exact oy 4 hb_2 rfl (ra1 7 (oy 4 hb_2 rfl (r1 8 rfl hb_2 (v_len_sl Ty.s22 rfl (ry 9 hb_2 rfl (r0 10 rfl (v_pickF (v:=.bool (decide (p3.Node ≥ ((p0.Nodes).length:Int)))) rfl hb_2 rfl (rq [11] 32 (ry 12 hb_3 rfl (raE hS21))))))))))
   ·exact oy 4 hb_2 rfl (r1 8 rfl hb_2 (v_len_sl Ty.s22 rfl (ra1 5 (oy 4 hb_2 rfl (ry 9 hb_2 rfl (r0 10 rfl (v_pickF (v:=.bool (decide (p3.Node ≥ ((p0.Nodes).length:Int)))) rfl hb_2 rfl (rq [11] 32 (ry 12 hb_3 rfl (raT hS21))))))))))
  refine ra1 13 (oy 4 hb_3 rfl (ry 14 hb_3 rfl (r0 15 rfl (v_pickF (v:=.bool (decide (p3.Lane<0))) rfl hb_3 rfl (rq [16] 27 (ry 17 hb_4 rfl (ra1 18 (oy 4 hb_4 rfl (ry 19 hb_4 rfl (ry 20 hb_4 rfl ?_))))))))))
  refine r2 21 rfl hb_5 (r2 22 rfl hb_5 (r2 23 rfl hb_5 (r2 24 rfl hb_5 (r2 25 rfl hb_5 (r2 26 rfl hb_5 (r2 27 rfl hb_5 (r2 28 rfl hb_5 (r2 29 rfl hb_5 (r3 30 rfl ?_)))))))))
  refine r3 31 rfl (r3 32 rfl (r3 33 rfl (r3 34 rfl (r3 35 rfl (r3 36 rfl (r3 37 rfl (r3 38 rfl (r3 39 rfl (r3 40 rfl ?_)))))))))
  exact r2 41 rfl hb_5 (r1 42 rfl hb_4 (v_pickF (v:=.bool false) rfl hb_5 rfl (r0 43 rfl (v_pickF (v:=.bool false) rfl hb_4 rfl (RA.done (by decide +kernel) (T.sub hK ⟨rfl,rfl,rfl,rfl,rfl,(congrArg AV.bool ((congrArg (fun p=>p) (Option.some.inj hz)).symm)).symm,trivial⟩))))))
theorem ways_walker_calm_xde9f_c {p0:State} {p1:List Node} {p2:Int} {p3:Int} {p4:List (List Item)} {p5:Int} {p6:List ((List UInt8) × Unit)} {p7:List (List Item)} {r:State × (List Move)} (h:ways_walker_calm_xde9f p0 p1 p2 p3 p4 p5 p6 p7=some r):FnX Tryz.prog 61 [.ptr 0 0,.agg (encState p0)] [.box [sL encNode p1,iI p2,iI p3,sL (encL encItem) p4,iI p5,.mpr 1,.ref 2],.mp (List.map kS (List.map Prod.fst p6)) (List.map kU (List.map Prod.snd p6)),aR 26 1 (encL encItem) p7] (.tup [.agg (encState r.1),.ref 3]) [.box [sL encNode p1,iI p2,iI p3,sL (encL encItem) p4,iI p5,.mpr 1,.ref 2],.mp (List.map kS (List.map Prod.fst p6)) (List.map kU (List.map Prod.snd p6)),aR 26 1 (encL encItem) p7,aR 88 2 encMove r.2]:=by
  unfold ways_walker_calm_xde9f at h
  refine fT 3 8 Tryz.func61 Tryz.ntmps61 rfl (itr (fun ss_19:(List Int) × (List (List Item)) × (List Memory) × (List Choice) × (List Item)=>mkA 46 [(2,.ptr 3 0),(3,.ptr 4 0),(4,.ptr 5 0)]) (fun ss_19=>[.box [sL encNode p1,iI p2,iI p3,sL (encL encItem) p4,iI p5,.mpr 1,.ref 2],.mp (List.map kS (List.map Prod.fst p6)) (List.map kU (List.map Prod.snd p6)),aR 26 1 (encL encItem) p7,.box [.ptr 0 0],.box [sL encI ss_19.1,sL (encL encItem) ss_19.2.1,sL encMemory ss_19.2.2.1,sL encChoice ss_19.2.2.2.1,sL encItem ss_19.2.2.2.2],.box [.nils,.nils,.nils,.nils,.nils]]) h (wk [] [0,1,2,3,4,5] 6 rfl) (fun ss_19 v_20 h hv_20=>?_))
  obtain ⟨s1,s2,s3,s4,s5⟩:=ss_19
  replace h:ways_walker_calm_xde9f_l1 p1 p2 p3 p4 p5 p6 p7 s1 s2 s3 s4 s5=some v_20:=h
  try dsimp only
  unfold ways_walker_calm_xde9f_l1 at h
  refine B h fun x7 hx7 h=>(X 2 6 (T.drawn mixed (k:=15) rfl ?_))
  apply RA.jn 6 (bm 15 511);intro hS21
  apply RA.jn 7 (bm 15 255);intro hS22
  apply RA.jn 7 (bm 15 383);intro hS23
  ·refine ra3 0 4 8 ?_ ?_ ?_
   ·exact og 6 ⟨rfl,(rq [1,2] 12 (rL [4,5,6,7,9,10,11,12,13,14] 4 rfl (rq [5,6] 9 (rL [3,9,10,11,12,13,14] 3 rfl (rL [7,9,10,11,12,13,14] 7 rfl (raE hS22))))))⟩
   ·exact og 6 ⟨rfl,(rq [5,6] 12 (rL [0,1,2,3,9,10,11,12,13,14] 0 rfl (rq [1,2] 9 (rL [3,9,10,11,12,13,14] 3 rfl (rL [7,9,10,11,12,13,14] 7 rfl (raT hS22))))))⟩
   ·refine og 6 ⟨rfl,(ra2 0 4 ?_ ?_)⟩
    ·exact og 6 ⟨rfl,(rq [1,2] 11 (rL [4,5,6,7,9,10,11,12,13,14] 4 rfl (rq [5,6] 8 (rL [3,9,10,11,12,13,14] 3 rfl (raE hS23)))))⟩
    ·exact og 6 ⟨rfl,(rq [5,6] 11 (rL [0,1,2,3,9,10,11,12,13,14] 0 rfl (rq [1,2] 8 (rL [3,9,10,11,12,13,14] 3 rfl (raT hS23)))))⟩
  ·exact ra1 7 (og 6 ⟨rfl,(raE hS21)⟩)
  ·exact ra1 8 (og 6 ⟨rfl,(raT hS21)⟩)
  refine ra1 9 (oO rfl (cO 6 (move_Ready_c hx7) ⟨rfl,(rq [10,11,12,13,14] 0 (RA.done (by decide +kernel) (B h fun x9 hx9 h=>(X 4 7 (sO (cG [6,3,0,1,2] 7 5 (slices_IndexFunc_Move_x9634_c hx9) ⟨rfl,(Y 8 7 (T.ci h rfl (fun hb_24 h=>?_) (fun hb_24 h=>?_)))⟩))))))⟩))
  ·refine X 7 7 ?_
   replace h:=mi h hv_20
   cases h
   exact tO [] [0,1,2,6] 7
  refine B h fun x10 hx10 h=>(B h fun x11 hx11 h=>(B h fun x12 hx12 h=>(X 1 7 (T.drawn mixed (k:=18) rfl ?_))))
  apply RA.jn 5 (bm 18 8191);intro hS26
  apply RA.jn 6 (bm 18 4095);intro hS27
  apply RA.jn 6 (bm 18 7935);intro hS28
  apply RA.jn 6 (bm 18 8063);intro hS29
  apply RA.jn 13 (bm 18 7936);intro hS30
  ·refine rq [9,10] 16 (r0 11 rfl (v_index_ref' (en:=encMove) Ty.s84 rfl rfl rfl hx10 (ra4 0 4 8 12 ?_ ?_ ?_ ?_)))
   ·exact og 7 ⟨rfl,(rq [1,2] 12 (rL [4,5,6,7,13,14,15,16,17] 4 rfl (rq [5,6] 9 (rL [3,13,14,15,16,17] 3 rfl (rL [7,13,14,15,16,17] 7 rfl (rL [8,13,14,15,16,17] 8 rfl (raE hS27)))))))⟩
   ·exact og 7 ⟨rfl,(rq [5,6] 12 (rL [0,1,2,3,13,14,15,16,17] 0 rfl (rq [1,2] 9 (rL [3,13,14,15,16,17] 3 rfl (rL [7,13,14,15,16,17] 7 rfl (rL [8,13,14,15,16,17] 8 rfl (raT hS27)))))))⟩
   ·refine og 7 ⟨rfl,(ra3 0 4 12 ?_ ?_ ?_)⟩
    ·exact og 7 ⟨rfl,(rq [1,2] 11 (rL [4,5,6,7,13,14,15,16,17] 4 rfl (rq [5,6] 8 (rL [3,13,14,15,16,17] 3 rfl (rL [7,13,14,15,16,17] 7 rfl (raT hS27))))))⟩
    ·exact og 7 ⟨rfl,(rq [5,6] 11 (rL [0,1,2,3,13,14,15,16,17] 0 rfl (rq [1,2] 8 (rL [3,13,14,15,16,17] 3 rfl (rL [7,13,14,15,16,17] 7 rfl (raT hS27))))))⟩
    ·exact oO rfl (o_load_aptr' (en:=encMove) (a:=x11) rfl rfl hx11 (loadRowA Ty.k88 Ty.c88 rfl (cs:=(encMove x11)) rfl (raE hS30)))
   ·refine oO rfl (o_load_aptr' (en:=encMove) (a:=x11) rfl rfl hx11 (loadRowA Ty.k88 Ty.c88 rfl (cs:=(encMove x11)) rfl (ra3 0 4 8 ?_ ?_ ?_)))
    ·exact og 7 ⟨rfl,(rq [1,2] 11 (rL [4,5,6,7,13,14,15,16,17] 4 rfl (rq [5,6] 8 (rL [3,13,14,15,16,17] 3 rfl (rL [7,13,14,15,16,17] 7 rfl (raE hS28))))))⟩
    ·exact og 7 ⟨rfl,(rq [5,6] 11 (rL [0,1,2,3,13,14,15,16,17] 0 rfl (rq [1,2] 8 (rL [3,13,14,15,16,17] 3 rfl (rL [7,13,14,15,16,17] 7 rfl (raT hS28))))))⟩
    ·exact og 7 ⟨rfl,(raT hS30)⟩
  ·refine ra2 0 4 ?_ ?_
   ·exact og 7 ⟨rfl,(rq [1,2] 10 (rL [4,5,6,7,13,14,15,16,17] 4 rfl (rq [5,6] 7 (rL [3,13,14,15,16,17] 3 rfl (raE hS29)))))⟩
   ·exact og 7 ⟨rfl,(rq [5,6] 10 (rL [0,1,2,3,13,14,15,16,17] 0 rfl (rq [1,2] 7 (rL [3,13,14,15,16,17] 3 rfl (raT hS29)))))⟩
  ·exact ra1 7 (og 7 ⟨rfl,(raE hS26)⟩)
  ·exact ra1 8 (og 7 ⟨rfl,(raT hS26)⟩)
  ·exact ra1 12 (oO rfl (o_load_aptr' (en:=encMove) (a:=x11) rfl rfl hx11 (loadRowA Ty.k88 Ty.c88 rfl (cs:=(encMove x11)) rfl (raT hS26))))
  exact ra1 13 (oO rfl (cD (move_Do_c hx12) ⟨rfl,(rq [14,15,16] 1 (ra1 17 (og 7 ⟨rfl,(RA.done (by decide +kernel) (lk h (wk [] [0,1,2,3,4,5] 7 rfl)))⟩)))⟩))
theorem trail_Check_c {p0:Net} {p1:List Choice} {r:Int} (h:trail_Check p0 p1=some r):Fn Tryz.prog 116 [.agg (encNet p0),sL encChoice p1] (iI r):=by
  unfold trail_Check at h
  refine fT 0 0 Tryz.func116 Tryz.ntmps116 rfl ?_
  refine B h fun x2 hx2 h=>(X 9 0 (sO (cF (net_Check_c hx2) ⟨rfl,(Y 7 1 (T.ci h rfl (fun hb_1 h=>?_) (fun hb_1 h=>?_)))⟩)))
  ·refine X 5 1 ?_
   cases h
   exact tD
  refine X 5 1 (sQ (v_len_sl Ty.s51 rfl (Y 2 1 (T.ci h rfl (fun hb_2 h=>?_) (fun hb_2 h=>?_)))))
  ·refine X 4 1 ?_
   cases h
   exact tD
  refine X 5 1 (sQ (v_len_sl Ty.s51 rfl (Y 3 1 (itr (fun ss_29:Int=>mkA 60 [(2,.ptr 0 0),(16,sL encChoice p1),(17,iI ((p1).length:Int)),(18,iI ss_29)]) (fun ss_29=>[.box (encNet p0)]) h (wk [] [0] 1 rfl) (fun ss_29 v_30 h hv_30=>?_)))))
  revert hv_30 h;revert ss_29;intro s3 h hv_30
  replace h:trail_Check_l1 p0 p1 s3=some v_30:=h
  try dsimp only
  unfold trail_Check_l1 at h
  refine X 5 1 (T.ci h rfl (fun hb_31 h=>?_) (fun hb_31 h=>?_))
  ·refine B h fun x5 hx5 h=>(X 5 1 (sQ (v_index_sl Ty.s51 (fun _=>rfl) rfl rfl hx5 (Y 5 1 ?_))))
   obtain ⟨zt_34,hz,h⟩:=bind_some h
   revert hz h;revert zt_34;intro c7 hz h
   refine j1 [(2,.ptr 0 0),(7,.ptr 1 0),(16,sL encChoice p1),(17,iI ((p1).length:Int)),(18,iI s3),(42,.bool c7)] [.box (encNet p0),.box (encChoice x5)] ?_ (fun hK=>?_)
   ·refine T.ci h rfl (fun hb_35 h=>?_) (fun hb_35 h=>?_)
    ·refine X 4 2 ?_
     replace h:=mi h hv_30
     cases h
     exact tD
    refine X 1 2 ?_
    obtain ⟨zt_38,hz,h⟩:=bind_some h
    revert hz h;revert zt_38;intro c9 hz h
    refine j1 [(2,.ptr 0 0),(16,sL encChoice p1),(17,iI ((p1).length:Int)),(18,iI s3),(58,.bool c9)] [.box (encNet p0)] ?_ (fun hK=>?_)
    ·refine T.ci h rfl (fun hb_39 h=>?_) (fun hb_39 h=>?_)
     ·refine X 4 1 ?_
      replace h:=mi h hv_30
      cases h
      exact tD
     exact X 5 1 (lk h (wk [] [0] 1 rfl))
    refine X 1 2 ?_
    rcases bool_cases (decide (x5.Lane<0)) with hb_37 | hb_37
    ·replace hz:=ite_T hz hb_37
     refine T.drawn mixed (k:=16) rfl (rq [0] 15 (ra1 1 (og 2 ⟨rfl,(rq [2,3] 12 (r2 4 rfl hb_37 (r2 5 rfl hb_37 (r2 6 rfl hb_37 (r2 7 rfl hb_37 (r2 8 rfl hb_37 ?_))))))⟩)))
     exact r2 9 rfl hb_37 (r2 10 rfl hb_37 (r2 11 rfl hb_37 (r2 12 rfl hb_37 (r2 13 rfl hb_37 (r2 14 rfl hb_37 (r0 15 rfl (v_pickT (v:=.bool true) rfl hb_37 rfl (RA.done (by decide +kernel) (T.weakR hK (Weak.mkN [] [0] (by decide) (none_kept _) rfl ⟨rn_ptr rfl,rn_s rfl,rn_int rfl,rn_int rfl,rn_bool ((congrArg (fun p=>p) (Option.some.inj hz)).symm),trivial⟩ (rw_bs (encNet p0) rfl (rw_nil))))))))))))
    replace hz:=ite_F hz hb_37
    refine B hz fun x8 hx8 hz=>(T.drawn mixed (k:=16) rfl ?_)
    apply RA.jn 0 (bm 16 65535);intro hS41
    apply RA.jn 4 (bm 16 4095);intro hS42
    apply RA.jn 5 (bm 16 4063);intro hS43
    apply RA.jn 7 (bm 16 895);intro hS44
    apply RA.jn 7 (bm 16 511);intro hS45
    ·refine rq [0] 15 (ra1 1 (og 2 ⟨rfl,(rq [2,3] 12 (ry 4 hb_37 rfl (ry 6 hb_37 rfl (ry 8 hb_37 rfl (ra3 5 7 9 ?_ ?_ ?_)))))⟩))
     ·refine oy 2 hb_37 rfl (ra2 7 9 ?_ ?_)
      ·exact oy 2 hb_37 rfl (raE hS45)
      ·exact oy 2 hb_37 rfl (raE hS44)
     ·refine oy 2 hb_37 rfl (ra2 5 9 ?_ ?_)
      ·exact oy 2 hb_37 rfl (raT hS45)
      ·exact oy 2 hb_37 rfl (r1 10 rfl hb_37 (v_index_sl Ty.s22 (fun _=>rfl) rfl rfl hx8 (ry 11 hb_37 rfl (raE hS43))))
     ·refine oy 2 hb_37 rfl (ra2 5 7 ?_ ?_)
      ·exact oy 2 hb_37 rfl (raT hS44)
      ·exact oy 2 hb_37 rfl (r1 10 rfl hb_37 (v_index_sl Ty.s22 (fun _=>rfl) rfl rfl hx8 (ry 11 hb_37 rfl (raT hS43))))
    ·exact ra1 9 (oy 2 hb_37 rfl (r1 10 rfl hb_37 (v_index_sl Ty.s22 (fun _=>rfl) rfl rfl hx8 (ry 11 hb_37 rfl (raE hS42)))))
    ·exact ra1 7 (oy 2 hb_37 rfl (r1 10 rfl hb_37 (v_index_sl Ty.s22 (fun _=>rfl) rfl rfl hx8 (ry 11 hb_37 rfl (raT hS42)))))
    ·refine ra2 5 12 ?_ ?_
     ·exact oy 2 hb_37 rfl (raT hS42)
     ·exact oy 2 hb_37 rfl (r1 13 rfl hb_37 (v_len_sl Ty.s49 rfl (ra1 5 (oy 2 hb_37 rfl (ry 14 hb_37 rfl (r0 15 rfl (v_pickF (v:=.bool (decide (x5.Lane ≥ ((x8.In).length:Int)))) rfl hb_37 rfl (raE hS41))))))))
    ·exact ra1 12 (oy 2 hb_37 rfl (r1 13 rfl hb_37 (v_len_sl Ty.s49 rfl (ry 14 hb_37 rfl (r0 15 rfl (v_pickF (v:=.bool (decide (x5.Lane ≥ ((x8.In).length:Int)))) rfl hb_37 rfl (raT hS41)))))))
    exact RA.done (by decide +kernel) (T.weakR hK (Weak.mkN [] [0] (by decide) (none_kept _) rfl ⟨rn_ptr rfl,rn_s rfl,rn_int rfl,rn_int rfl,rn_bool ((congrArg (fun p=>p) (Option.some.inj hz)).symm),trivial⟩ (rw_bs (encNet p0) rfl (rw_nil))))
   refine X 6 2 (gi 25 hz (fun hb_32 hz=>?_) (fun hb_32 hz=>?_))
   ·refine Yp 18 2 ?_
    cases hz
    exact sx hK
   refine Y 4 2 (yQ rfl (v_len_sl Ty.s22 rfl (Yp 3 2 (gi 33 hz (fun hb_33 hz=>?_) (fun hb_33 hz=>?_)))))
   ·refine Yp 10 2 ?_
    cases hz
    exact sx hK
   refine B hz fun x6 hx6 hz=>(Y 4 2 (yQ rfl (v_index_sl Ty.s22 (fun _=>rfl) rfl rfl hx6 (Yp 5 2 ?_))))
   cases hz
   exact sx hK
  refine X 1 1 ?_
  replace h:=mi h hv_30
  refine X 4 1 ?_
  cases h
  exact tD
theorem trail_Lanes_c {p0:Net} {p1:List Choice} {r:(List (List Int)) × Int} (h:trail_Lanes p0 p1=some r):Fn Tryz.prog 91 [.agg (encNet p0),sL encChoice p1] (.tup [sL (encL encI) r.1,iI r.2]):=by
  unfold trail_Lanes at h
  refine fT 0 0 Tryz.func91 Tryz.ntmps91 rfl ?_
  refine B h fun x2 hx2 h=>(X 11 0 (sO (cF (trail_Check_c hx2) ⟨rfl,(Y 7 1 (T.ci h rfl (fun hb_1 h=>?_) (fun hb_1 h=>?_)))⟩)))
  ·refine X 6 1 ?_
   cases h
   exact tD
  refine B h fun x4 hx4 h=>(X 5 1 (sQ (v_len_sl Ty.s22 rfl (sO (o_mk_hd (en:=encI) (e2:=3) (c:=1) Ty.s143 Ty.z49 rfl rfl hx4 rfl rfl rfl (Y 6 3 (sQ (v_len_sl Ty.s51 rfl (Y 3 3 (itr (fun ss_20:Int × (List (Bool × List Int))=>mkA 41 [(7,.ref 0),(20,sL encChoice p1),(21,iI ((p1).length:Int)),(22,iI ss_20.1)]) (fun ss_20=>[.hd 49 1,.cl 3 1 (cL encI ss_20.2)]) h (wk [] [1,2] 3 rfl) (fun ss_20 v_21 h hv_21=>?_)))))))))))
  obtain ⟨s5,s6⟩:=ss_20
  replace h:trail_Lanes_l1 p1 s5 s6=some v_21:=h
  try dsimp only
  unfold trail_Lanes_l1 at h
  refine X 5 2 (T.ci h rfl (fun hb_22 h=>?_) (fun hb_22 h=>?_))
  ·refine B h fun x8 hx8 h=>(X 5 2 (sQ (v_index_sl Ty.s51 (fun _=>rfl) rfl rfl hx8 (B h fun x9 hx9 h=>(B h fun x10 hx10 h=>(B h fun x11 hx11 h=>(B h fun x12 hx12 h=>(Y 4 2 (T.drawn mixed (k:=14) rfl ?_)))))))))
   apply RA.jn 2 (bm 14 4095);intro hS23
   apply RA.jn 3 (bm 14 2047);intro hS24
   apply RA.jn 4 (bm 14 1919);intro hS25
   apply RA.jn 4 (bm 14 2043);intro hS26
   apply RA.jn 4 (bm 14 1023);intro hS27
   apply RA.jn 5 (bm 14 1855);intro hS28
   apply RA.jn 5 (bm 14 1915);intro hS29
   apply RA.jn 5 (bm 14 895);intro hS30
   ·refine rq [0,1,3,4,8] 9 (rL [5,6,7,11,12,13] 5 rfl (rL [9,10,11,12,13] 9 rfl (ra3 2 6 10 ?_ ?_ ?_)))
    ·refine og 3 ⟨rfl,(ra2 6 10 ?_ ?_)⟩
     ·exact oO rfl (o_ix_hd Ty.s143 rfl rfl rfl rfl cl_l hx9 (raE hS30))
     ·exact oO rfl (o_buildSlice (rows:=List.map encI [x8.Lane]) (vs:=[iI x8.Lane]) Ty.s49 Ty.z3 rfl rfl rfl rfl rfl rfl (raE hS28))
    ·refine oO rfl (o_ix_hd Ty.s143 rfl rfl rfl rfl cl_l hx9 (ra3 2 7 10 ?_ ?_ ?_))
     ·exact og 3 ⟨rfl,(raT hS30)⟩
     ·refine oO rfl (o_ld_hd Ty.k49 rfl rfl rfl hx10 (ra2 2 10 ?_ ?_))
      ·exact og 3 ⟨rfl,(raE hS27)⟩
      ·exact oO rfl (o_buildSlice (rows:=List.map encI [x8.Lane]) (vs:=[iI x8.Lane]) Ty.s49 Ty.z3 rfl rfl rfl rfl rfl rfl (raE hS26))
     ·exact oO rfl (o_buildSlice (rows:=List.map encI [x8.Lane]) (vs:=[iI x8.Lane]) Ty.s49 Ty.z3 rfl rfl rfl rfl rfl rfl (raE hS29))
    ·refine oO rfl (o_buildSlice (rows:=List.map encI [x8.Lane]) (vs:=[iI x8.Lane]) Ty.s49 Ty.z3 rfl rfl rfl rfl rfl rfl (ra2 2 6 ?_ ?_))
     ·exact og 4 ⟨rfl,(raT hS28)⟩
     ·exact oO rfl (o_ix_hd Ty.s143 rfl rfl rfl rfl cl_l hx9 (raT hS29))
   ·refine ra2 7 10 ?_ ?_
    ·exact oO rfl (o_ld_hd Ty.k49 rfl rfl rfl hx10 (raT hS27))
    ·exact oO rfl (o_buildSlice (rows:=List.map encI [x8.Lane]) (vs:=[iI x8.Lane]) Ty.s49 Ty.z3 rfl rfl rfl rfl rfl rfl (raE hS25))
   ·refine ra2 2 7 ?_ ?_
    ·exact og 4 ⟨rfl,(raT hS25)⟩
    ·exact oO rfl (o_ld_hd Ty.k49 rfl rfl rfl hx10 (raT hS26))
   ·exact ra1 6 (oO rfl (o_ix_hd Ty.s143 rfl rfl rfl rfl cl_l hx9 (raT hS25)))
   ·exact ra1 10 (oO rfl (o_buildSlice (rows:=List.map encI [x8.Lane]) (vs:=[iI x8.Lane]) Ty.s49 Ty.z3 rfl rfl rfl rfl rfl rfl (raE hS24)))
   ·refine ra2 2 11 ?_ ?_
    ·exact og 4 ⟨rfl,(raT hS24)⟩
    ·exact RO.outc 33 1 x9 rfl rfl hx11 rfl rfl (oO rfl (o_app_ref (en:=encI) (xs:=x11) (ys:=([x8.Lane]:List Int)) Ty.s49 (fun _=>rfl) rfl rfl rfl hx12 rfl rfl (ra1 2 (og 6 ⟨rfl,(raE hS23)⟩))))
   ·exact ra1 7 (oO rfl (o_ld_hd Ty.k49 rfl rfl rfl hx10 (raT hS24)))
   ·exact ra1 11 (RO.outc 33 1 x9 rfl rfl hx11 rfl rfl (oO rfl (o_app_ref (en:=encI) (xs:=x11) (ys:=([x8.Lane]:List Int)) Ty.s49 (fun _=>rfl) rfl rfl rfl hx12 rfl rfl (raT hS23))))
   exact ra1 12 (oO rfl (o_ix_hd Ty.s143 rfl rfl rfl rfl cl_lh hx9 (ra1 13 (oO rfl (o_st_hd Ty.c49 Ty.i49 (fun _=>rfl) (fun _=>rfl) rfl rfl rfl rfl cl_lh hx10 cl_sh rfl rfl (RA.done (by decide +kernel) (X 4 7 (lk h (wk [] [0,6] 7 rfl)))))))))
  refine X 1 2 ?_
  replace h:=mi h hv_21
  refine X 6 2 (T.thaw 0 1 rfl rfl rfl ?_)
  cases h
  exact tD
theorem itoaW_c {p0:Int} {r:List UInt8} (h:itoaW p0=some r):Fn Tryz.prog 92 [.int .i64 p0] (.str r):=itoa_fn p0 r h
theorem ways_walker_name_xde9f_c {p0:State} {p1:List Node} {p2:Int} {p3:Int} {p4:List (List Item)} {p5:Int} {p6:List ((List UInt8) × Unit)} {p7:List (List Item)} {r:List UInt8} (h:ways_walker_name_xde9f p0 p1 p2 p3 p4 p5 p6 p7=some r):FnX Tryz.prog 62 [.ptr 0 0,.agg (encState p0)] [.box [sL encNode p1,iI p2,iI p3,sL (encL encItem) p4,iI p5,.mpr 1,.ref 2],.mp (List.map kS (List.map Prod.fst p6)) (List.map kU (List.map Prod.snd p6)),aR 26 1 (encL encItem) p7] (.str r) [.box [sL encNode p1,iI p2,iI p3,sL (encL encItem) p4,iI p5,.mpr 1,.ref 2],.mp (List.map kS (List.map Prod.fst p6)) (List.map kU (List.map Prod.snd p6)),aR 26 1 (encL encItem) p7]:=by
  unfold ways_walker_name_xde9f at h
  refine fT 3 0 Tryz.func62 Tryz.ntmps62 rfl ?_
  refine B h fun x2 hx2 h=>(X 6 3 (T.drawn mixed (k:=12) rfl (rq [0,1,2,4] 8 (rL [3,6,7,8,9,10,11] 3 rfl (ra1 5 (og 4 ⟨rfl,(ra1 6 (oO rfl (cD (trail_Lanes_c hx2) ⟨rfl,(rq [7,8,9,10,11] 0 ?_)⟩)))⟩))))))
  refine RA.done (by decide +kernel) (X 8 4 (sQ (v_len_sl Ty.s143 rfl (Y 3 4 (itr (fun ss_15:(List UInt8) × Int=>mkA 44 [(7,.str ss_15.1),(22,sL (encL encI) x2.1),(23,iI ((x2.1).length:Int)),(24,iI ss_15.2)]) (fun ss_15=>[.box [sL encNode p1,iI p2,iI p3,sL (encL encItem) p4,iI p5,.mpr 1,.ref 2],.mp (List.map kS (List.map Prod.fst p6)) (List.map kU (List.map Prod.snd p6)),aR 26 1 (encL encItem) p7]) h (wk [] [0,1,2] 4 rfl) (fun ss_15 v_16 h hv_16=>?_))))))
  obtain ⟨s3,s4⟩:=ss_15
  replace h:ways_walker_name_xde9f_l2 x2 s3 s4=some v_16:=h
  try dsimp only
  unfold ways_walker_name_xde9f_l2 at h
  refine X 5 3 (T.ci h rfl (fun hb_17 h=>?_) (fun hb_17 h=>?_))
  ·refine B h fun x6 hx6 h=>(X 5 3 (sQ (v_index_sl Ty.s143 (fun _=>rfl) rfl rfl hx6 (Y 7 3 (sQ (v_len_sl Ty.s49 rfl (Y 3 3 (itr (fun ss_20:(List UInt8) × Int=>mkA 44 [(7,.str ss_20.1),(22,sL (encL encI) x2.1),(23,iI ((x2.1).length:Int)),(24,iI s4),(28,sL encI x6),(29,iI ((x6).length:Int)),(30,iI ss_20.2)]) (fun ss_20=>[.box [sL encNode p1,iI p2,iI p3,sL (encL encItem) p4,iI p5,.mpr 1,.ref 2],.mp (List.map kS (List.map Prod.fst p6)) (List.map kU (List.map Prod.snd p6)),aR 26 1 (encL encItem) p7]) h (wk [] [0,1,2] 3 rfl) (fun ss_20 v_21 h hv_21=>?_)))))))))
   obtain ⟨s7,s8⟩:=ss_20
   replace h:ways_walker_name_xde9f_l1 s4 x6 s7 s8=some v_21:=h
   try dsimp only
   unfold ways_walker_name_xde9f_l1 at h
   refine X 5 3 (T.ci h rfl (fun hb_22 h=>?_) (fun hb_22 h=>?_))
   ·refine B h fun x10 hx10 h=>(X 5 3 (sQ (v_index_sl Ty.s49 (fun _=>rfl) rfl rfl hx10 (B h fun x11 hx11 h=>(B h fun x12 hx12 h=>(B h fun x13 hx13 h=>(Y 6 3 (sO (cF (itoaW_c hx11) ⟨rfl,(sQ (v_sadd rfl rfl hx12 (sQ (v_sadd rfl rfl hx13 ?_))))⟩)))))))))
    exact Y 6 3 (lk h (wk [] [0,1,2] 3 rfl))
   refine X 1 3 ?_
   replace h:=mi h hv_21
   exact B h fun x14 hx14 h=>(X 2 3 (sQ (v_sadd rfl rfl hx14 (Y 6 3 (lk h (wk [] [0,1,2] 3 rfl))))))
  refine X 1 3 ?_
  replace h:=mi h hv_16
  refine X 5 3 ?_
  cases h
  exact tN [0,1,2]
theorem gate_Plain_c {p0:List Item} {r:(List Item) × Int} (h:gate_Plain p0=some r):FnO Tryz.prog 36 [sL encItem p0] (.tup [.ref 0,iI r.2]) [aR 39 3 encItem r.1]:=by
  unfold gate_Plain at h
  refine fT 0 9 Tryz.func36 Tryz.ntmps36 rfl (sQ (v_len_sl Ty.s26 rfl (Y 2 0 (T.ci h rfl (fun hb_1 h=>?_) (fun hb_1 h=>?_)))))
  ·refine X 5 0 ?_
   cases h
   exact tO [(0,39,3)] [0] 0
  refine B h fun x2 hx2 h=>(X 4 0 (sO (cO 0 (slices_Clone_Item_c hx2) ⟨rfl,(Y 6 1 (sQ (v_len_ref (en:=encItem) Ty.s26 rfl rfl (Y 3 1 (itr (fun ss_4:Int × (List Item)=>mkA 22 [(4,.ref 0),(12,iI ((x2).length:Int)),(13,iI ss_4.1)]) (fun ss_4=>[aR 39 3 encItem ss_4.2]) h (wk [] [0] 1 rfl) (fun ss_4 v_5 h hv_5=>?_))))))⟩)))
  obtain ⟨s3,s4⟩:=ss_4
  replace h:gate_Plain_l1 x2 s3 s4=some v_5:=h
  try dsimp only
  unfold gate_Plain_l1 at h
  refine X 5 1 (T.ci h rfl (fun hb_6 h=>?_) (fun hb_6 h=>?_))
  ·exact B h fun x5 hx5 h=>(B h fun x6 hx6 h=>(X 11 1 (sQ (v_index_ref' (en:=encItem) Ty.s26 rfl rfl rfl hx5 (Y 1 1 (sO (o_store_aptr' (en:=encItem) (a:=x6) (a':=(⟨x6.Key,x6.Val,0⟩:Item)) Ty.c3 Ty.i3 rfl (vs:=[iI 0]) rfl rfl rfl hx6 rfl rfl rfl (Y 5 1 (lk h (wk [] [0] 1 rfl))))))))))
  refine X 1 1 ?_
  replace h:=mi h hv_5
  refine X 6 1 ?_
  cases h
  exact tO [] [0] 1
theorem ways_walker_walk_xde9f_c {p0:State} {p1:List Node} {p2:Int} {p3:Int} {p4:List (List Item)} {p5:Int} {p6:List ((List UInt8) × Unit)} {p7:List (List Item)} {r:Bool × (List Node) × Int × Int × (List (List Item)) × Int × (List ((List UInt8) × Unit)) × (List (List Item))} (h:ways_walker_walk_xde9f p0 p1 p2 p3 p4 p5 p6 p7=some r):FnX Tryz.prog 29 [.ptr 0 0,.agg (encState p0)] [.box [sL encNode p1,iI p2,iI p3,sL (encL encItem) p4,iI p5,.mpr 1,.ref 2],.mp (List.map kS (List.map Prod.fst p6)) (List.map kU (List.map Prod.snd p6)),aR 26 1 (encL encItem) p7] (.bool r.1) [.box [sL encNode r.2.1,iI r.2.2.1,iI r.2.2.2.1,sL (encL encItem) r.2.2.2.2.1,iI r.2.2.2.2.2.1,.mpr 1,.ref 3],.mp (List.map kS (List.map Prod.fst r.2.2.2.2.2.2.1)) (List.map kU (List.map Prod.snd r.2.2.2.2.2.2.1)),.dead,aR 26 1 (encL encItem) r.2.2.2.2.2.2.2]:=by
  unfold ways_walker_walk_xde9f at h
  replace h:=fixR_some h
  obtain ⟨n9,h⟩:=h
  induction n9 generalizing p0 p1 p2 p3 p4 p5 p6 p7 r
  · simp [stepR] at h
  rename_i n9 ih
  replace h:ways_walker_walk_xde9f_F (stepR (fun (rcr:(State × (List Node) × Int × Int × (List (List Item)) × Int × (List ((List UInt8) × Unit)) × (List (List Item)))→Option (Bool × (List Node) × Int × Int × (List (List Item)) × Int × (List ((List UInt8) × Unit)) × (List (List Item)))) (a:State × (List Node) × Int × Int × (List (List Item)) × Int × (List ((List UInt8) × Unit)) × (List (List Item)))=>ways_walker_walk_xde9f_F rcr a.1 a.2.1 a.2.2.1 a.2.2.2.1 a.2.2.2.2.1 a.2.2.2.2.2.1 a.2.2.2.2.2.2.1 a.2.2.2.2.2.2.2) n9) p0 p1 p2 p3 p4 p5 p6 p7=some r:=h
  generalize stepR (fun (rcr:(State × (List Node) × Int × Int × (List (List Item)) × Int × (List ((List UInt8) × Unit)) × (List (List Item)))→Option (Bool × (List Node) × Int × Int × (List (List Item)) × Int × (List ((List UInt8) × Unit)) × (List (List Item)))) (a:State × (List Node) × Int × Int × (List (List Item)) × Int × (List ((List UInt8) × Unit)) × (List (List Item)))=>ways_walker_walk_xde9f_F rcr a.1 a.2.1 a.2.2.1 a.2.2.2.1 a.2.2.2.2.1 a.2.2.2.2.2.1 a.2.2.2.2.2.2.1 a.2.2.2.2.2.2.2) n9=rcr at h ih
  unfold ways_walker_walk_xde9f_F at h
  refine fT 3 0 Tryz.func29 Tryz.ntmps29 rfl ?_
  refine mO 0 6 2 3 (B h fun x2 hx2 h=>(X 9 4 (sO (cG [0,1,3] 5 4 (ways_walker_calm_xde9f_c hx2) ⟨rfl,(B h fun x4 hx4 h=>(Y 10 6 (sO (cG [0,1,3] 6 3 (ways_walker_name_xde9f_c hx4) ⟨rfl,(Y 10 6 (sO (o_lookup_ok (ek:=kS) (ev:=kU) (xs:=p6) (k:=x4) (z0:=()) Tryz.underlying65 (KeyT.str Tryz.underlying9) Ty.w106 (fun _ _ _=>rel_agg0) rfl rfl rfl (Y 11 6 ?_))))⟩))))⟩))))
  refine T.ci h rfl (fun hb_1 h=>?_) (fun hb_1 h=>?_)
  ·refine X 4 7 ?_
   cases h
   exact tN [0,1,2,3]
  refine X 9 7 (sO (o_mapPut (ek:=kS) (ev:=kU) (xs:=p6) (k:=x4) (a:=()) (.inl rfl) Tryz.underlying65 (KeyT.str Tryz.underlying9) rfl rfl rfl rfl rfl (Y 21 7 (T.ci h rfl (fun hb_2 h=>?_) (fun hb_2 h=>?_)))))
  ·refine X 4 7 ?_
   cases h
   exact tN [0,1,2,3]
  refine X 5 7 (sQ (v_len_ref (en:=encMove) Ty.s84 rfl rfl (Y 2 7 (T.ci h rfl (fun hb_3 h=>?_) (fun hb_3 h=>?_)))))
  ·refine B h fun x6 hx6 h=>(X 4 7 (sO (cO 7 (gate_Plain_c hx6) ⟨rfl,(B h fun x8 hx8 h=>(Y 14 8 (RS.fC 7 (sO (o_buildSlice (rows:=List.map (encL encItem) [x6.1]) (vs:=[sL encItem x6.1]) Ty.s25 Ty.z26 rfl rfl rfl rfl rfl rfl (sO (o_app_ref (en:=(encL encItem)) (xs:=p7) (ys:=([x6.1]:List (List Item))) Ty.s25 (fun _=>rfl) rfl rfl rfl hx8 rfl rfl (Y 8 10 ?_))))))))⟩)))
   cases h
   exact tN [0,1,2,9]
  refine X 5 7 (sQ (v_len_ref (en:=encMove) Ty.s84 rfl rfl (Y 3 7 (itr (fun ss_10:Int × (List Node) × Int × Int × (List (List Item)) × Int × (List ((List UInt8) × Unit)) × (List (List Item))=>mkA 96 [(0,.ptr 0 0),(3,.ptr 3 0),(71,.ref 4),(72,iI ((x2.2).length:Int)),(73,iI ss_10.1)]) (fun ss_10=>[.box [sL encNode ss_10.2.1,iI ss_10.2.2.1,iI ss_10.2.2.2.1,sL (encL encItem) ss_10.2.2.2.2.1,iI ss_10.2.2.2.2.2.1,.mpr 1,.ref 5],.mp (List.map kS (List.map Prod.fst ss_10.2.2.2.2.2.2.1)) (List.map kU (List.map Prod.snd ss_10.2.2.2.2.2.2.1)),.dead,.box (encState x2.1),aR 88 2 encMove x2.2,aR 26 1 (encL encItem) ss_10.2.2.2.2.2.2.2]) h (wk [] [0,1,2,4,5,3] 7 rfl) (fun ss_10 v_11 h hv_11=>?_)))))
  obtain ⟨s9,s10,s11,s12,s13,s14,s15,s16⟩:=ss_10
  replace h:ways_walker_walk_xde9f_l1 rcr x2 s9 s10 s11 s12 s13 s14 s15 s16=some v_11:=h
  try dsimp only
  unfold ways_walker_walk_xde9f_l1 at h
  refine X 5 6 (T.ci h rfl (fun hb_12 h=>?_) (fun hb_12 h=>?_))
  ·refine B h fun x19 hx19 h=>(B h fun x20 hx20 h=>(X 5 6 (sQ (v_index_ref' (en:=encMove) Ty.s84 rfl rfl rfl hx19 (sO (o_load_aptr' (en:=encMove) (a:=x20) rfl rfl hx20 (loadRowA Ty.k88 Ty.c88 rfl (cs:=(encMove x20)) rfl (B h fun x22 hx22 h=>(Y 4 6 (T.drawn mixed (k:=17) rfl ?_))))))))))
   apply RA.jn 2 (bm 17 32767);intro hS13
   ·refine rq [0,1,2,4,5,6] 11 (rL [3,10,11,12,13,15,16] 3 rfl (rL [7,10,11,12,13,15,16] 7 rfl (rL [8,10,11,12,13,15,16] 8 rfl (rL [9,10,11,12,13,15,16] 9 rfl (ra2 10 14 ?_ ?_)))))
    ·exact oO rfl (cD (move_Do_c hx22) ⟨rfl,(rq [11,12,13] 3 (ra1 14 (og 7 ⟨rfl,(raE hS13)⟩)))⟩)
    ·exact og 7 ⟨rfl,(ra1 10 (oO rfl (cD (move_Do_c hx22) ⟨rfl,(rq [11,12,13] 2 (raT hS13))⟩)))⟩
   refine ra1 15 (og 8 ⟨rfl,(rq [16] 0 (RA.done (by decide +kernel) (B h fun x24 hx24 h=>(X 4 8 (sO (cG [0,1,5] 8 4 (ih hx24) ⟨rfl,(Y 2 9 (T.ci h rfl (fun hb_14 h=>?_) (fun hb_14 h=>?_)))⟩))))))⟩)
   ·refine X 4 9 ?_
    replace h:=mi h hv_11
    cases h
    exact tN [0,1,2,8]
   exact X 5 9 (lk h (wk [] [0,1,2,3,4,8] 9 rfl))
  refine X 1 6 ?_
  replace h:=mi h hv_11
  refine X 4 6 ?_
  cases h
  exact tN [0,1,2,5]
theorem ways_compare_c {p0:Item} {p1:Item} {r:Int} (h:ways_compare p0 p1=some r):Fn Tryz.prog 32 [.agg (encItem p0),.agg (encItem p1)] (iI r):=by
  unfold ways_compare at h
  refine fT 0 17 Tryz.func32 Tryz.ntmps32 rfl (T.ci h rfl (fun hb_1 h=>?_) (fun hb_1 h=>?_))
  ·refine X 9 2 (T.ci h rfl (fun hb_2 h=>?_) (fun hb_2 h=>?_))
   ·refine X 4 2 ?_
    cases h
    exact tD
   refine X 5 2 ?_
   cases h
   exact tD
  refine X 9 2 (T.ci h rfl (fun hb_3 h=>?_) (fun hb_3 h=>?_))
  ·refine X 9 2 (T.ci h rfl (fun hb_4 h=>?_) (fun hb_4 h=>?_))
   ·refine X 4 2 ?_
    cases h
    exact tD
   refine X 5 2 ?_
   cases h
   exact tD
  refine X 5 2 ?_
  cases h
  exact tD
theorem slices_CompareFunc_Itemapi_Item_api_Item_api_Item_xdd87_c {p0:List Item} {p1:List Item} {r:Int} (h:slices_CompareFunc_Itemapi_Item_api_Item_api_Item_xdd87 p0 p1=some r):Fn Tryz.prog 31 [sL encItem p0,sL encItem p1,.func 32 []] (iI r):=by
  unfold slices_CompareFunc_Itemapi_Item_api_Item_api_Item_xdd87 at h
  refine fT 0 8 Tryz.func31 Tryz.ntmps31 rfl (sQ (v_len_sl Ty.s26 rfl (Y 3 0 (itr (fun ss_7:Int=>mkA 39 [(0,sL encItem p0),(1,sL encItem p1),(2,.func 32 []),(11,sL encItem p0),(12,iI ((p0).length:Int)),(13,iI ss_7)]) (fun ss_7=>[]) h (wk [] [] 0 rfl) (fun ss_7 v_8 h hv_8=>?_)))))
  revert hv_8 h;revert ss_7;intro s1 h hv_8
  replace h:slices_CompareFunc_Itemapi_Item_api_Item_api_Item_xdd87_l1 p0 p1 s1=some v_8:=h
  try dsimp only
  unfold slices_CompareFunc_Itemapi_Item_api_Item_api_Item_xdd87_l1 at h
  refine X 5 0 (T.ci h rfl (fun hb_9 h=>?_) (fun hb_9 h=>?_))
  ·refine B h fun x3 hx3 h=>(X 6 0 (sQ (v_index_sl Ty.s26 (fun _=>rfl) rfl rfl hx3 (Y 10 0 (sQ (v_len_sl Ty.s26 rfl (Y 2 1 (T.ci h rfl (fun hb_10 h=>?_) (fun hb_10 h=>?_)))))))))
   ·refine X 4 1 ?_
    replace h:=mi h hv_8
    cases h
    exact tD
   refine B h fun x5 hx5 h=>(X 5 1 (sQ (v_index_sl Ty.s26 (fun _=>rfl) rfl rfl hx5 (B h fun x7 hx7 h=>(Y 9 1 (sO (cF (ways_compare_c hx7) ⟨rfl,(Y 7 2 (T.ci h rfl (fun hb_12 h=>?_) (fun hb_12 h=>?_)))⟩)))))))
   ·refine X 5 2 ?_
    replace h:=mi h hv_8
    cases h
    exact tD
   exact X 5 2 (lk h (wk [] [] 2 rfl))
  refine X 1 0 ?_
  replace h:=mi h hv_8
  refine X 4 0 (sQ (v_len_sl Ty.s26 rfl (Y 1 0 (sQ (v_len_sl Ty.s26 rfl (Y 2 0 (T.ci h rfl (fun hb_15 h=>?_) (fun hb_15 h=>?_))))))))
  ·refine X 4 0 ?_
   cases h
   exact tD
  refine X 5 0 ?_
  cases h
  exact tD
theorem ways_All_1_c {p0:List Item} {p1:List Item} {r:Int} (h:ways_All_1 p0 p1=some r):Fn Tryz.prog 30 [sL encItem p0,sL encItem p1] (iI r):=by
  unfold ways_All_1 at h
  refine fT 0 0 Tryz.func30 Tryz.ntmps30 rfl ?_
  refine B h fun x2 hx2 h=>(X 8 0 (sO (cF (slices_CompareFunc_Itemapi_Item_api_Item_api_Item_xdd87_c hx2) ⟨rfl,(Y 2 0 ?_)⟩)))
  cases h
  exact tD
theorem slices_SortFunc_R30_c {p0 r:List (List Item)} (h:slices_SortFunc_R30 p0=some r):FnX Tryz.prog 33 [.ref 0,.func 30 []] [aR 26 1 (encL encItem) p0] (.tup []) [aR 26 1 (encL encItem) r]:=sortr_gen 30 ways_All_1 (fun h=>ways_All_1_c h) ways_All_1_cf h
theorem ways_All_2_x492f_c {p0:List Item} {p1:List Item} {r:Bool} (h:ways_All_2_x492f p0 p1=some r):FnX Tryz.prog 35 [sL encItem p0,sL encItem p1,.ptr 0 0] [.box [.func 30 []]] (.bool r) [.box [.func 30 []]]:=by
  unfold ways_All_2_x492f at h
  refine fT 1 0 Tryz.func35 Tryz.ntmps35 rfl ?_
  refine B h fun x2 hx2 h=>(X 9 1 (sO (cF (ways_All_1_c hx2) ⟨rfl,(Y 3 1 ?_)⟩)))
  cases h
  exact tN [0]
theorem slices_CompactFunc_api_Item_api_Item_x822f_c {p0:List (List Item)} {r:List (List Item)} (h:slices_CompactFunc_api_Item_api_Item_x822f p0=some r):FnX Tryz.prog 34 [.ref 0,.func 35 [.ptr 1 0]] [aR 26 1 (encL encItem) p0,.box [.func 30 []]] (.ref 2) [.dead,.box [.func 30 []],aR 26 1 (encL encItem) r]:=by
  unfold slices_CompactFunc_api_Item_api_Item_x822f at h
  refine fT 2 0 Tryz.func34 Tryz.ntmps34 rfl ?_
  refine T.mvS 0 0 rfl rfl rfl rfl (X 8 3 (sQ (v_len_ref (en:=(encL encItem)) Ty.s25 rfl rfl (Y 2 3 (T.ci h rfl (fun hb_1 h=>?_) (fun hb_1 h=>?_))))))
  ·refine X 5 3 ?_
   cases h
   exact tO [] [0,1,2] 3
  refine X 7 3 (itr (fun ss_50:Int=>mkA 66 [(0,.ref 2),(1,.func 35 [.ptr 1 0]),(5,iI ss_50)]) (fun ss_50=>[.dead,.box [.func 30 []],aR 26 1 (encL encItem) p0]) h (wk [] [0,1,2] 3 rfl) (fun ss_50 v_51 h hv_51=>?_))
  revert hv_51 h;revert ss_50;intro s1 h hv_51
  replace h:slices_CompactFunc_api_Item_api_Item_x822f_l2 p0 s1=some v_51:=h
  try dsimp only
  unfold slices_CompactFunc_api_Item_api_Item_x822f_l2 at h
  refine X 5 3 (sQ (v_len_ref (en:=(encL encItem)) Ty.s25 rfl rfl (Y 2 3 (T.ci h rfl (fun hb_52 h=>?_) (fun hb_52 h=>?_)))))
  ·refine B h fun x7 hx7 h=>(B h fun x8 hx8 h=>(B h fun x9 hx9 h=>(B h fun x10 hx10 h=>(B h fun x11 hx11 h=>(X 4 3 (T.drawn mixed (k:=11) rfl ?_))))))
   apply RA.jn 1 (bm 11 1023);intro hS53
   ·refine rq [0,1,2] 8 (r0 3 rfl (v_index_ref' (en:=(encL encItem)) Ty.s25 rfl rfl rfl hx7 (rq [5,6,7] 4 (r0 8 rfl (v_index_ref' (en:=(encL encItem)) Ty.s25 rfl rfl rfl hx9 (ra2 4 9 ?_ ?_))))))
    ·exact oO rfl (o_load_aptr' (en:=(encL encItem)) (a:=x8) rfl rfl hx8 (loadRow1 Ty.k26 (c:=sL encItem x8) rfl (ra1 9 (oO rfl (o_load_aptr' (en:=(encL encItem)) (a:=x10) rfl rfl hx10 (loadRow1 Ty.k26 (c:=sL encItem x10) rfl (raE hS53)))))))
    ·exact oO rfl (o_load_aptr' (en:=(encL encItem)) (a:=x10) rfl rfl hx10 (loadRow1 Ty.k26 (c:=sL encItem x10) rfl (ra1 4 (oO rfl (o_load_aptr' (en:=(encL encItem)) (a:=x8) rfl rfl hx8 (loadRow1 Ty.k26 (c:=sL encItem x8) rfl (raT hS53)))))))
   refine ra1 10 (oO rfl (cG [1] 3 1 (ways_All_2_x492f_c hx11) ⟨rfl,(RA.done (by decide +kernel) (T.ci h rfl (fun hb_54 h=>?_) (fun hb_54 h=>?_)))⟩))
   ·refine B h fun x13 hx13 h=>(X 4 3 (sO (o_slice_vw (en:=(encL encItem)) (xs:=p0) Ty.s25 rfl rfl rfl rfl hx13 (Y 8 3 (itr (fun ss_67:Int × Int × (List (List Item))=>mkA 66 [(0,.ref 2),(1,.func 35 [.ptr 1 0]),(5,iI ss_67.1),(6,.vw 2 1 ((s1).toNat) ((((p0).length:Int)).toNat - (s1).toNat) none),(7,iI ss_67.2.1)]) (fun ss_67=>[.dead,.box [.func 30 []],aR 26 1 (encL encItem) ss_67.2.2]) h (Weak.mkN [] [0,1,2] (by decide) (by decide) rfl ⟨rn_ref rfl,rn_func ⟨rn_ptr rfl,trivial⟩,rn_int rfl,rn_vw rfl rfl rfl,rn_int rfl,trivial⟩ (rw_dead rfl (rw_box (cs:=[.func 30 []]) (ds:=[.func 30 []]) rfl ⟨rn_func trivial,trivial⟩ (rw_ar rfl rfl (rw_nil))))) (fun ss_67 v_68 h hv_68=>?_))))))
    obtain ⟨s14,s15,s16⟩:=ss_67
    replace h:slices_CompactFunc_api_Item_api_Item_x822f_l1 p0 s1 s14 s15 s16=some v_68:=h
    try dsimp only
    unfold slices_CompactFunc_api_Item_api_Item_x822f_l1 at h
    refine X 5 3 (sO (v_len_vw Ty.s25 rfl (Y 2 3 (T.ci h rfl (fun hb_69 h=>?_) (fun hb_69 h=>?_)))))
    ·refine B h fun x22 hx22 h=>(B h fun x23 hx23 h=>(B h fun x24 hx24 h=>(B h fun x25 hx25 h=>(B h fun x26 hx26 h=>(X 4 3 (T.drawn mixed (k:=12) rfl ?_))))))
     apply RA.jn 2 (bm 12 1023);intro hS70
     apply RA.jn 3 (bm 12 1007);intro hS71
     apply RA.jn 3 (bm 12 511);intro hS72
     apply RA.jn 4 (bm 12 495);intro hS73
     ·refine rq [0,1,2,5,6,7] 6 (ra2 3 8 ?_ ?_)
      ·refine oO rfl (o_index_vw Ty.s25 rfl rfl hx22 (ra2 4 8 ?_ ?_))
       ·exact oO rfl (o_load_aptr' (en:=(encL encItem)) (a:=x23) rfl rfl hx23 (loadRow1 Ty.k26 (c:=sL encItem x23) rfl (ra1 8 (oO rfl (o_index_vw Ty.s25 rfl rfl hx24 (raE hS72))))))
       ·exact oO rfl (o_index_vw Ty.s25 rfl rfl hx24 (raE hS73))
      ·refine oO rfl (o_index_vw Ty.s25 rfl rfl hx24 (ra2 3 9 ?_ ?_))
       ·exact oO rfl (o_index_vw Ty.s25 rfl rfl hx22 (raT hS73))
       ·exact oO rfl (o_load_aptr' (en:=(encL encItem)) (a:=x25) rfl rfl hx25 (loadRow1 Ty.k26 (c:=sL encItem x25) rfl (ra1 3 (oO rfl (o_index_vw Ty.s25 rfl rfl hx22 (raE hS71))))))
     ·refine ra2 4 9 ?_ ?_
      ·exact oO rfl (o_load_aptr' (en:=(encL encItem)) (a:=x23) rfl rfl hx23 (loadRow1 Ty.k26 (c:=sL encItem x23) rfl (raT hS72)))
      ·exact oO rfl (o_load_aptr' (en:=(encL encItem)) (a:=x25) rfl rfl hx25 (loadRow1 Ty.k26 (c:=sL encItem x25) rfl (raT hS71)))
     ·exact ra1 9 (oO rfl (o_load_aptr' (en:=(encL encItem)) (a:=x25) rfl rfl hx25 (loadRow1 Ty.k26 (c:=sL encItem x25) rfl (raE hS70))))
     ·exact ra1 4 (oO rfl (o_load_aptr' (en:=(encL encItem)) (a:=x23) rfl rfl hx23 (loadRow1 Ty.k26 (c:=sL encItem x23) rfl (raT hS70))))
     refine ra1 10 (oO rfl (cG [1] 3 1 (ways_All_2_x492f_c hx26) ⟨rfl,(rq [11] 0 (RA.done (by decide +kernel) (T.ci h rfl (fun hb_74 h=>?_) (fun hb_74 h=>?_))))⟩))
     ·refine B h fun x31 hx31 h=>(B h fun x32 hx32 h=>(B h fun x33 hx33 h=>(B h fun x34 hx34 h=>(X 6 3 (sO (o_index_vw Ty.s25 rfl rfl hx31 (sO (o_load_aptr' (en:=(encL encItem)) (a:=x32) rfl rfl hx32 (loadRow1 Ty.k26 (c:=sL encItem x32) rfl (sQ (v_index_ref' (en:=(encL encItem)) Ty.s25 rfl rfl rfl hx33 (sO (o_store_aptr' (en:=(encL encItem)) (a:=x34) (a':=x32) Ty.c26 Ty.i26 rfl (vs:=[sL encItem x32]) rfl rfl rfl hx34 rfl rfl rfl (Y 11 3 ?_))))))))))))))
      exact lk h (Weak.mkN [] [0,1,2] (by decide) (by decide) rfl ⟨rn_ref rfl,rn_func ⟨rn_ptr rfl,trivial⟩,rn_int rfl,rn_vw rfl rfl rfl,rn_int rfl,trivial⟩ (rw_dead rfl (rw_box (cs:=[.func 30 []]) (ds:=[.func 30 []]) rfl ⟨rn_func trivial,trivial⟩ (rw_ar rfl rfl (rw_nil)))))
     exact X 6 3 (lk h (Weak.mkN [] [0,1,2] (by decide) (by decide) rfl ⟨rn_ref rfl,rn_func ⟨rn_ptr rfl,trivial⟩,rn_int rfl,rn_vw rfl rfl rfl,rn_int rfl,trivial⟩ (rw_dead rfl (rw_box (cs:=[.func 30 []]) (ds:=[.func 30 []]) rfl ⟨rn_func trivial,trivial⟩ (rw_ar rfl rfl (rw_nil))))))
    refine X 1 3 ?_
    replace h:=mi h hv_68
    refine B h fun x37 hx37 h=>(B h fun x38 hx38 h=>(X 4 3 (sO (o_slice_vw (en:=(encL encItem)) (xs:=s16) Ty.s25 rfl rfl rfl rfl hx37 (sO (o_clear_vr (en:=(encL encItem)) (xs:=s16) (z0:=[]) Ty.s25 Ty.z26 (fun σ w F vs h=>nils_sl σ w F vs h) rfl (fun _=>rfl) rfl rfl hx38 rfl (B h fun x40 hx40 h=>(Y 5 3 (sO (o_slice_own (en:=(encL encItem)) (xs:=(clr s16 ((s14).toNat) ((((s16).length:Int)).toNat - (s14).toNat) [])) Ty.s25 rfl rfl rfl hx40 rfl rfl (Y 2 4 ?_)))))))))))
    replace h:=mi h hv_51
    cases h
    exact tO [] [0,1,3] 4
   exact X 6 3 (lk h (wk [] [0,1,2] 3 rfl))
  refine X 1 3 ?_
  replace h:=mi h hv_51
  refine X 5 3 ?_
  cases h
  exact tO [] [0,1,2] 3
theorem ways_All_c {p0:Net} {p1:List (List Item)} {r:(List (List Item)) × Int} (h:ways_All p0 p1=some r):FnO Tryz.prog 7 [.agg (encNet p0),sL (encL encItem) p1] (.tup [.ref 0,iI r.2]) [aR 26 1 (encL encItem) r.1]:=by
  unfold ways_All at h
  refine fT 0 0 Tryz.func7 Tryz.ntmps7 rfl ?_
  refine B h fun x2 hx2 h=>(X 10 0 (sO (cG [] 1 5 (FnX.of_fnO (move_Start_c hx2)) ⟨rfl,(Y 13 6 (T.ci h rfl (fun hb_1 h=>?_) (fun hb_1 h=>?_)))⟩)))
  ·refine X 6 7 ?_
   cases h
   exact tO [(0,26,1)] [7] 7
  refine B h fun x4 hx4 h=>(X 4 7 (sO (cD (net_Copy_c hx4) ⟨rfl,(Y 1 7 (sO (o_makeMap rfl rfl (Y 5 8 (nB 8 6 26 1 9 (B h fun x6 hx6 h=>(X 4 10 (RS.fC 1 ?_))))))))⟩)))
  refine RS.fC 2 (RS.fC 3 (RS.fC 4 (RS.fC 5 (sO (cG [8,7,9] 10 4 (ways_walker_walk_xde9f_c hx6) ⟨rfl,(Y 2 11 (T.ci h rfl (fun hb_2 h=>?_) (fun hb_2 h=>?_)))⟩)))))
  ·refine X 5 11 ?_
   cases h
   exact tO [(0,26,1)] [11] 11
  refine B h fun x8 hx8 h=>(X 7 11 (T.drawn mixed (k:=6) rfl (rq [0,1,2] 3 (rL [3,5] 3 rfl (ra1 4 (og 12 ⟨rfl,(ra1 5 (oO rfl (cG [10] 12 1 (slices_SortFunc_R30_c hx8) ⟨rfl,(RA.done (by decide +kernel) ?_)⟩)))⟩))))))
  refine B h fun x10 hx10 h=>(X 7 12 (sO (cG [10,11] 12 3 (slices_CompactFunc_api_Item_api_Item_x822f_c hx10) ⟨rfl,(Y 3 13 ?_)⟩)))
  cases h
  exact tO [] [12] 13
theorem crosslaw_two_c {r:List (List Item)} (h:crosslaw_two=some r):FnO Tryz.prog 40 [] (.ref 0) [aR 26 1 (encL encItem) r]:=by
  unfold crosslaw_two at h
  refine fT 0 0 Tryz.func40 Tryz.ntmps40 rfl ?_
  refine B h fun x3 hx3 h=>(B h fun x4 hx4 h=>(X 6 0 (sO (cF (crosslaw_item_c hx3) ⟨rfl,(sO (o_buildSlice (rows:=List.map encItem [x3]) (vs:=[.agg (encItem x3)]) Ty.s26 Ty.z39 rfl rfl rfl rfl rfl rfl (sO (cF (crosslaw_item_c hx4) ⟨rfl,(sO (o_buildSlice (rows:=List.map encItem [x4]) (vs:=[.agg (encItem x4)]) Ty.s26 Ty.z39 rfl rfl rfl rfl rfl rfl (RS.fC 0 (RS.fC 1 (sO (o_buildSlice (rows:=List.map (encL encItem) [[x3],[x4]]) (vs:=[sL encItem [x3],sL encItem [x4]]) Ty.s25 Ty.z26 rfl rfl rfl rfl rfl rfl ?_))))))⟩))))⟩))))
  refine Y 2 3 ?_
  cases h
  exact tO [] [2] 3
theorem slices_Equal_Item_c {p0:List Item} {p1:List Item} {r:Bool} (h:slices_Equal_Item p0 p1=some r):Fn Tryz.prog 13 [sL encItem p0,sL encItem p1] (.bool r):=by
  unfold slices_Equal_Item at h
  refine fT 0 8 Tryz.func13 Tryz.ntmps13 rfl (sQ (v_len_sl Ty.s26 rfl (Y 1 0 (sQ (v_len_sl Ty.s26 rfl (Y 2 0 (T.ci h rfl (fun hb_1 h=>?_) (fun hb_1 h=>?_))))))))
  ·refine X 4 0 ?_
   cases h
   exact tD
  refine X 5 0 (sQ (v_len_sl Ty.s26 rfl (Y 3 0 (itr (fun ss_6:Int=>mkA 26 [(0,sL encItem p0),(1,sL encItem p1),(12,iI ((p0).length:Int)),(13,iI ss_6)]) (fun ss_6=>[]) h (wk [] [] 0 rfl) (fun ss_6 v_7 h hv_7=>?_)))))
  revert hv_7 h;revert ss_6;intro s1 h hv_7
  replace h:slices_Equal_Item_l1 p0 p1 s1=some v_7:=h
  try dsimp only
  unfold slices_Equal_Item_l1 at h
  refine X 5 0 (T.ci h rfl (fun hb_8 h=>?_) (fun hb_8 h=>?_))
  ·refine B h fun x4 hx4 h=>(B h fun x5 hx5 h=>(X 9 0 (T.drawn mixed (k:=9) rfl (rq [0,1] 7 (r0 2 rfl (v_index_sl Ty.s26 (fun _=>rfl) rfl rfl hx4 (rq [4,5] 4 (r0 6 rfl (v_index_sl Ty.s26 (fun _=>rfl) rfl rfl hx5 (rL [3,8] 3 rfl (ra1 7 ?_)))))))))))
   refine og 0 ⟨rfl,(r0 8 rfl (v_gneq (cs:=[iI x4.Key,iI x4.Val,iI x4.Dep]) (ds:=[iI x5.Key,iI x5.Val,iI x5.Dep]) (r:=x4==x5) Ty.q39 rfl rfl rfl rfl (encItem_eq x4 x5) (RA.done (by decide +kernel) (T.ci h rfl (fun hb_9 h=>?_) (fun hb_9 h=>?_)))))⟩
   ·refine X 4 0 ?_
    replace h:=mi h hv_7
    cases h
    exact tD
   exact X 5 0 (lk h (wk [] [] 0 rfl))
  refine X 1 0 ?_
  replace h:=mi h hv_7
  refine X 4 0 ?_
  cases h
  exact tD
theorem slices_EqualFunc_api_Item_api_Item_api_Item_api_Item_x098b_c {p0:List (List Item)} {p1:List (List Item)} {r:Bool} (h:slices_EqualFunc_api_Item_api_Item_api_Item_api_Item_x098b p0 p1=some r):Fn Tryz.prog 12 [sL (encL encItem) p0,sL (encL encItem) p1,.func 13 []] (.bool r):=by
  unfold slices_EqualFunc_api_Item_api_Item_api_Item_api_Item_x098b at h
  refine fT 0 8 Tryz.func12 Tryz.ntmps12 rfl (sQ (v_len_sl Ty.s25 rfl (Y 1 0 (sQ (v_len_sl Ty.s25 rfl (Y 2 0 (T.ci h rfl (fun hb_1 h=>?_) (fun hb_1 h=>?_))))))))
  ·refine X 4 0 ?_
   cases h
   exact tD
  refine X 5 0 (sQ (v_len_sl Ty.s25 rfl (Y 3 0 (itr (fun ss_6:Int=>mkA 32 [(1,sL (encL encItem) p1),(2,.func 13 []),(15,sL (encL encItem) p0),(16,iI ((p0).length:Int)),(17,iI ss_6)]) (fun ss_6=>[]) h (wk [] [] 0 rfl) (fun ss_6 v_7 h hv_7=>?_)))))
  revert hv_7 h;revert ss_6;intro s1 h hv_7
  replace h:slices_EqualFunc_api_Item_api_Item_api_Item_api_Item_x098b_l1 p0 p1 s1=some v_7:=h
  try dsimp only
  unfold slices_EqualFunc_api_Item_api_Item_api_Item_api_Item_x098b_l1 at h
  refine X 5 0 (T.ci h rfl (fun hb_8 h=>?_) (fun hb_8 h=>?_))
  ·refine B h fun x3 hx3 h=>(X 6 0 (sQ (v_index_sl Ty.s25 (fun _=>rfl) rfl rfl hx3 (B h fun x5 hx5 h=>(Y 8 0 (sQ (v_index_sl Ty.s25 (fun _=>rfl) rfl rfl hx5 (B h fun x7 hx7 h=>(Y 8 0 (sO (cF (slices_Equal_Item_c hx7) ⟨rfl,(Y 2 0 ?_)⟩)))))))))))
   refine T.ci h rfl (fun hb_9 h=>?_) (fun hb_9 h=>?_)
   ·refine X 4 0 ?_
    replace h:=mi h hv_7
    cases h
    exact tD
   exact X 5 0 (lk h (wk [] [] 0 rfl))
  refine X 1 0 ?_
  replace h:=mi h hv_7
  refine X 4 0 ?_
  cases h
  exact tD
theorem crosslaw_wayed_c {r:Bool} (h:crosslaw_wayed=some r):Fn Tryz.prog 10 [] (.bool r):=by
  unfold crosslaw_wayed at h
  refine fT 0 0 Tryz.func10 Tryz.ntmps10 rfl ?_
  refine B h fun x5 hx5 h=>(B h fun x6 hx6 h=>(B h fun x8 hx8 h=>(X 6 0 (sO (cD (crosslaw_meeting_c hx5) ⟨rfl,(sO (cQ 0 (crosslaw_two_c hx6) ⟨rfl,(RS.fC 0 (sO (cQ 1 (ways_All_c hx8) ⟨rfl,(Y 6 2 ?_)⟩)))⟩))⟩)))))
  obtain ⟨zt_2,hz,h⟩:=bind_some h
  revert hz h;revert zt_2;intro c14 hz h
  refine j1 [(0,.bool c14)] [] ?_ (fun hK=>?_)
  ·cases h
   exact tD
  refine X 5 2 (gi 11 hz (fun hb_1 hz=>?_) (fun hb_1 hz=>?_))
  ·refine B hz fun x9 hx9 hz=>(B hz fun x10 hx10 hz=>(B hz fun x11 hx11 hz=>(B hz fun x12 hx12 hz=>(B hz fun x13 hx13 hz=>(Y 1 2 (yO rfl (cF (crosslaw_item_c hx9) ⟨rfl,(yO rfl (cF (crosslaw_item_c hx10) ⟨rfl,(yO rfl (o_buildSlice (rows:=List.map encItem [x9,x10]) (vs:=[.agg (encItem x9),.agg (encItem x10)]) Ty.s26 Ty.z39 rfl rfl rfl rfl rfl rfl (yO rfl (cF (crosslaw_item_c hx11) ⟨rfl,?_⟩))))⟩))⟩)))))))
   refine yO rfl (cF (crosslaw_item_c hx12) ⟨rfl,(yO rfl (o_buildSlice (rows:=List.map encItem [x11,x12]) (vs:=[.agg (encItem x11),.agg (encItem x12)]) Ty.s26 Ty.z39 rfl rfl rfl rfl rfl rfl (RS.fC 2 (RS.fC 3 (yO rfl (o_buildSlice (rows:=List.map (encL encItem) [[x9,x10],[x11,x12]]) (vs:=[sL encItem [x9,x10],sL encItem [x11,x12]]) Ty.s25 Ty.z26 rfl rfl rfl rfl rfl rfl (yO rfl (cF (slices_EqualFunc_api_Item_api_Item_api_Item_api_Item_x098b_c hx13) ⟨rfl,(Yp 3 5 ?_)⟩))))))))⟩)
   cases hz
   exact wu hK [] [] 5 rfl
  refine Yp 12 2 ?_
  cases hz
  exact wu hK [] [] 2 rfl
theorem crosslaw_WaysTwo_c {p0:Int} {p1:Int} {p2:Int} {r:Bool} (h:crosslaw_WaysTwo p0 p1 p2=some r):Fn Tryz.prog 4 [iI p0,iI p1,iI p2] (.bool r):=by
  unfold crosslaw_WaysTwo at h
  refine fT 0 0 Tryz.func4 Tryz.ntmps4 rfl ?_
  refine B h fun x4 hx4 h=>(B h fun x5 hx5 h=>(B h fun x6 hx6 h=>(X 7 0 (sO (cF (crossref_At_c hx4) ⟨rfl,(Y 1 0 (sO (cF (crossref_At_c hx5) ⟨rfl,(Y 1 0 (sO (cF (crossref_At_c hx6) ⟨rfl,(B h fun x8 hx8 h=>?_)⟩)))⟩)))⟩)))))
  refine Y 7 0 (sO (cD (crosslaw_meeting_c hx8) ⟨rfl,(Y 11 0 (sO (o_bd_nn (en:=encItem) Ty.s25 Ty.z26 rfl rfl rfl (Y 9 3 (itr (fun ss_11:Int × (List (Bool × List Item))=>mkA 83 [(0,iI x4),(1,iI x5),(7,.ptr 0 0),(8,.ref 1),(26,iI x4),(27,iI ss_11.1)]) (fun ss_11=>[.box [sL encNode x8.Nodes,iI x8.Rings,iI (IntKind.i64.wrap (1+x6))],.hd 26 2,.cl 39 3 (cL encItem ss_11.2)]) h (wk [] [0,1,2] 3 rfl) (fun ss_11 v_12 h hv_12=>?_))))))⟩))
  obtain ⟨s9,s10⟩:=ss_11
  replace h:crosslaw_WaysTwo_l3 x4 x5 x6 x8 s9 s10=some v_12:=h
  try dsimp only
  unfold crosslaw_WaysTwo_l3 at h
  refine X 5 3 (T.ci h rfl (fun hb_13 h=>?_) (fun hb_13 h=>?_))
  ·refine B h fun x11 hx11 h=>(B h fun x12 hx12 h=>(B h fun x13 hx13 h=>(B h fun x14 hx14 h=>(B h fun x15 hx15 h=>(X 8 3 (T.drawn mixed (k:=10) rfl ?_))))))
   apply RA.jn 3 (bm 10 127);intro hS14
   apply RA.jn 4 (bm 10 119);intro hS15
   apply RA.jn 4 (bm 10 63);intro hS16
   apply RA.jn 5 (bm 10 55);intro hS17
   ·refine rq [0,1,4] 7 (ra2 2 5 ?_ ?_)
    ·refine oO rfl (o_ix_hd Ty.s25 rfl rfl rfl rfl cl_l hx11 (ra2 3 5 ?_ ?_))
     ·exact oO rfl (o_ld_hd Ty.k26 rfl rfl rfl hx12 (ra1 5 (oO rfl (cF (crosslaw_item_c hx13) ⟨rfl,(raE hS16)⟩))))
     ·exact oO rfl (cF (crosslaw_item_c hx13) ⟨rfl,(raE hS17)⟩)
    ·refine oO rfl (cF (crosslaw_item_c hx13) ⟨rfl,(ra2 2 6 ?_ ?_)⟩)
     ·exact oO rfl (o_ix_hd Ty.s25 rfl rfl rfl rfl cl_l hx11 (raT hS17))
     ·exact oO rfl (o_buildSlice (rows:=List.map encItem [x13]) (vs:=[.agg (encItem x13)]) Ty.s26 Ty.z39 rfl rfl rfl rfl rfl rfl (ra1 2 (oO rfl (o_ix_hd Ty.s25 rfl rfl rfl rfl cl_l hx11 (raE hS15)))))
   ·refine ra2 3 6 ?_ ?_
    ·exact oO rfl (o_ld_hd Ty.k26 rfl rfl rfl hx12 (raT hS16))
    ·exact oO rfl (o_buildSlice (rows:=List.map encItem [x13]) (vs:=[.agg (encItem x13)]) Ty.s26 Ty.z39 rfl rfl rfl rfl rfl rfl (raT hS15))
   ·exact ra1 6 (oO rfl (o_buildSlice (rows:=List.map encItem [x13]) (vs:=[.agg (encItem x13)]) Ty.s26 Ty.z39 rfl rfl rfl rfl rfl rfl (raE hS14)))
   ·exact ra1 3 (oO rfl (o_ld_hd Ty.k26 rfl rfl rfl hx12 (raT hS14)))
   exact ra1 7 (RO.outc 33 2 x11 rfl rfl hx14 rfl rfl (oO rfl (o_app_ref (en:=encItem) (xs:=x14) (ys:=([x13]:List Item)) Ty.s26 (fun _=>rfl) rfl rfl rfl hx15 rfl rfl (ra1 8 (oO rfl (o_ix_hd Ty.s25 rfl rfl rfl rfl cl_lh hx11 (ra1 9 (oO rfl (o_st_hd Ty.c26 Ty.i26 (fun _=>rfl) (fun _=>rfl) rfl rfl rfl rfl cl_lh hx12 cl_sh rfl rfl (RA.done (by decide +kernel) (X 4 7 (lk h (wk [] [0,1,6] 7 rfl)))))))))))))
  refine X 1 3 ?_
  replace h:=mi h hv_12
  refine X 7 3 (itr (fun ss_29:Int × (List (Bool × List Item))=>mkA 83 [(0,iI x4),(1,iI x5),(7,.ptr 0 0),(8,.ref 1),(40,iI x5),(41,iI ss_29.1)]) (fun ss_29=>[.box [sL encNode x8.Nodes,iI x8.Rings,iI (IntKind.i64.wrap (1+x6))],.hd 26 2,.cl 39 3 (cL encItem ss_29.2)]) h (wk [] [0,1,2] 3 rfl) (fun ss_29 v_30 h hv_30=>?_))
  obtain ⟨s16,s17⟩:=ss_29
  replace h:crosslaw_WaysTwo_l2 x4 x5 x6 x8 s16 s17=some v_30:=h
  try dsimp only
  unfold crosslaw_WaysTwo_l2 at h
  refine X 5 3 (T.ci h rfl (fun hb_31 h=>?_) (fun hb_31 h=>?_))
  ·refine B h fun x18 hx18 h=>(B h fun x19 hx19 h=>(B h fun x20 hx20 h=>(B h fun x21 hx21 h=>(B h fun x22 hx22 h=>(X 8 3 (T.drawn mixed (k:=10) rfl ?_))))))
   apply RA.jn 3 (bm 10 127);intro hS32
   apply RA.jn 4 (bm 10 119);intro hS33
   apply RA.jn 4 (bm 10 63);intro hS34
   apply RA.jn 5 (bm 10 55);intro hS35
   ·refine rq [0,1,4] 7 (ra2 2 5 ?_ ?_)
    ·refine oO rfl (o_ix_hd Ty.s25 rfl rfl rfl rfl cl_l hx18 (ra2 3 5 ?_ ?_))
     ·exact oO rfl (o_ld_hd Ty.k26 rfl rfl rfl hx19 (ra1 5 (oO rfl (cF (crosslaw_item_c hx20) ⟨rfl,(raE hS34)⟩))))
     ·exact oO rfl (cF (crosslaw_item_c hx20) ⟨rfl,(raE hS35)⟩)
    ·refine oO rfl (cF (crosslaw_item_c hx20) ⟨rfl,(ra2 2 6 ?_ ?_)⟩)
     ·exact oO rfl (o_ix_hd Ty.s25 rfl rfl rfl rfl cl_l hx18 (raT hS35))
     ·exact oO rfl (o_buildSlice (rows:=List.map encItem [x20]) (vs:=[.agg (encItem x20)]) Ty.s26 Ty.z39 rfl rfl rfl rfl rfl rfl (ra1 2 (oO rfl (o_ix_hd Ty.s25 rfl rfl rfl rfl cl_l hx18 (raE hS33)))))
   ·refine ra2 3 6 ?_ ?_
    ·exact oO rfl (o_ld_hd Ty.k26 rfl rfl rfl hx19 (raT hS34))
    ·exact oO rfl (o_buildSlice (rows:=List.map encItem [x20]) (vs:=[.agg (encItem x20)]) Ty.s26 Ty.z39 rfl rfl rfl rfl rfl rfl (raT hS33))
   ·exact ra1 6 (oO rfl (o_buildSlice (rows:=List.map encItem [x20]) (vs:=[.agg (encItem x20)]) Ty.s26 Ty.z39 rfl rfl rfl rfl rfl rfl (raE hS32)))
   ·exact ra1 3 (oO rfl (o_ld_hd Ty.k26 rfl rfl rfl hx19 (raT hS32)))
   exact ra1 7 (RO.outc 47 2 x18 rfl rfl hx21 rfl rfl (oO rfl (o_app_ref (en:=encItem) (xs:=x21) (ys:=([x20]:List Item)) Ty.s26 (fun _=>rfl) rfl rfl rfl hx22 rfl rfl (ra1 8 (oO rfl (o_ix_hd Ty.s25 rfl rfl rfl rfl cl_lh hx18 (ra1 9 (oO rfl (o_st_hd Ty.c26 Ty.i26 (fun _=>rfl) (fun _=>rfl) rfl rfl rfl rfl cl_lh hx19 cl_sh rfl rfl (RA.done (by decide +kernel) (X 4 7 (lk h (wk [] [0,1,6] 7 rfl)))))))))))))
  refine X 1 3 ?_
  replace h:=mi h hv_30
  refine B h fun x24 hx24 h=>(X 4 3 (RS.thaw 1 2 rfl rfl rfl (RS.fC 1 (sO (cQ 3 (ways_All_c hx24) ⟨rfl,(Y 16 4 (itr (fun ss_39:Int × Int=>mkA 83 [(0,iI x4),(1,iI x5),(11,.ref 0),(12,iI x24.2),(13,iI ss_39.1),(14,iI ss_39.2)]) (fun ss_39=>[aR 26 1 (encL encItem) x24.1]) h (wk [] [3] 4 rfl) (fun ss_39 v_40 h hv_40=>?_)))⟩)))))
  obtain ⟨s25,s26⟩:=ss_39
  replace h:crosslaw_WaysTwo_l1 x4 x5 x24 s25 s26=some v_40:=h
  try dsimp only
  unfold crosslaw_WaysTwo_l1 at h
  refine X 7 1 (T.ci h rfl (fun hb_41 h=>?_) (fun hb_41 h=>?_))
  ·exact B h fun x27 hx27 h=>(X 10 1 (sQ (v_quo rfl rfl hx27 (Y 7 1 (lk h (wk [] [0] 1 rfl))))))
  refine X 1 1 ?_
  replace h:=mi h hv_40
  refine B h fun x28 hx28 h=>(j1 [(6,.bool (x28 && ((x24.2==0) && ((x24.1).length:Int)==s25)))] [] ?_ (fun hK=>?_))
  ·cases h
   exact tD
  refine X 2 1 (sO (cF (crosslaw_wayed_c hx28) ⟨rfl,(Y 1 1 (gp 73 (fun hb_43=>?_) (fun hb_43=>?_)))⟩))
  ·refine Yp 4 1 (gp 77 (fun hb_44=>?_) (fun hb_44=>?_))
   ·refine Y 1 1 (yQ rfl (v_len_ref (en:=(encL encItem)) Ty.s25 rfl rfl (Yp 5 1 ?_)))
    rw [hb_43] at hK
    rw [hb_44] at hK
    exact wu hK [] [] 1 rfl
   refine Yp 7 1 ?_
   rw [hb_43] at hK
   rw [hb_44] at hK
   exact wu hK [] [] 1 rfl
  refine Yp 11 1 ?_
  rw [hb_43] at hK
  exact wu hK [] [] 1 rfl
end Go.Proofs.YtoelnjpolhamfaaGreatDoor
namespace Go.Proofs.YtoelnjpolhamfaaGreatDoor
open Go.ChangeShapes Go.WideShapes Go.ChangeAt Go.RowKit
set_option linter.unusedVariables false
set_option linter.unusedSimpArgs false
theorem list_choose {α:Type} {p:Nat→α→Prop}:∀ n:Nat,(∀ i,i<n→∃ x,p i x)→∃ l:List α,l.length=n∧∀ (i:Nat) x,l[i]?=some x→p i x
  | 0,_=>⟨[],rfl,fun i x h=>by simp at h⟩
  | n + 1,h=>by
    obtain ⟨l,hl,hp⟩:=list_choose n (fun i hi=>h i (by omega))
    obtain ⟨y,hy⟩:=h n (by omega)
    refine ⟨l++[y],by simp [hl],fun i x hx=>?_⟩
    rw [List.getElem?_append] at hx
    split at hx
    · exact hp i x hx
    · have:i=n:=by
        have:=(List.getElem?_eq_some_iff.1 hx).1
        simp at this;omega
      subst this
      simp [hl] at hx
      subst hx;exact hy
theorem bulk_one {H:Type} (d:DataW H):1≤Rows.uptoBulk d:=by
  cases d with
  | lit l=>cases l<;>simp [Rows.uptoBulk]
  | _=>simp [Rows.uptoBulk]
theorem bulk_sum {H α:Type} (m:α→Nat):∀ (l:List α) (ds:List (DataW H)),l.length=ds.length→(∀ (i:Nat) x d,l[i]?=some x→ds[i]?=some d→m x≤Rows.uptoBulk d)→(l.map m).sum≤Rows.uptoBulkAll ds
  | [],[],_,_=>by simp
  | [],_::_,h,_=>by simp at h
  | _::_,[],h,_=>by simp at h
  | x::l,d::ds,h,hp=>by
    have h0:=hp 0 x d rfl rfl
    have h1:=bulk_sum m l ds (by simpa using h) (fun i y e hy he=>hp (i+1) y e (by simpa using hy) (by simpa using he))
    simp only [List.map_cons,List.sum_cons,Rows.uptoBulkAll]
    omega
structure Opn (P:Program) (t:TypeId) {α:Type} (en:α→List AV) (good:α→Prop) (m:α→Nat):Prop where
  opn:∀ {H:Type} {enc:TypeId × Value→H} {W:World} {fuel:Nat} {cs:List Value} {x:DataW H × List MemPlace},DataW.trod enc P W 0 (fun _=>true) true fuel t cs=some x →
    ∃ a,RelL [] W (fun b=>b<W.heap.size) (en a) cs∧(∀ u,u∈cs→u.oneCell'=true)∧good a∧m a≤Rows.uptoBulk x.1
theorem Opn.map {P:Program} {t:TypeId} {α β:Type} {en:α→List AV} {good:α→Prop} {m:α→Nat} (h:Opn P t en good m) (f:α→β) {en':β→List AV} {good':β→Prop} {m':β→Nat}
    (he:∀ a,en' (f a)=en a) (hg:∀ a,good a→good' (f a)) (hm:∀ a,m' (f a)≤m a):Opn P t en' good' m' :=
  ⟨fun hx=>by
    obtain ⟨a,h1,h2,h3,h4⟩:=h.opn hx
    exact ⟨f a,by rw [he];exact h1,h2,hg a h3,Nat.le_trans (hm a) h4⟩⟩
theorem relL_one {σ:List Value} {w:World} {F:Nat→Prop} {a:AV} {v:Value} (h:Rel σ w F a v):RelL σ w F [a] [v]:=.cons h .nil
theorem Opn.bool {P:Program} {t:TypeId} (ht:P.underlying t=some .bool):Opn P t (fun b:Bool=>[.bool b]) (fun _=>True) (fun _=>1) :=
  ⟨fun hx=>by
    obtain ⟨b,rfl,rfl⟩:=DataW.trod_bool ht hx
    exact ⟨b,relL_one (.bool b),by simp [Value.oneCell'],trivial,bulk_one _⟩⟩
theorem Opn.int {P:Program} {t:TypeId} {k:IntKind} (ht:P.underlying t=some (.int k)):Opn P t (fun n:Int=>[.int k n]) (fun n=>k.min≤n∧n≤k.max) (fun _=>1) :=
  ⟨fun hx=>by
    obtain ⟨n,rfl,rfl,hw⟩:=DataW.trod_int ht hx
    refine ⟨n,relL_one (.int k n),by simp [Value.oneCell'],?_,bulk_one _⟩
    simpa only [Lit.wf,Bool.and_eq_true,decide_eq_true_eq] using hw⟩
theorem Opn.str {P:Program} {t:TypeId} (ht:P.underlying t=some .string):Opn P t (fun s:List UInt8=>[.str s]) (fun s=>s.length≤maxLen) (fun s=>s.length+1) :=
  ⟨fun hx=>by
    obtain ⟨s,rfl,rfl,hw⟩:=DataW.trod_string ht hx
    refine ⟨s.data.toList,relL_one (by simpa using Rel.str s.data.toList),by simp [Value.oneCell'],?_,by simp [Rows.uptoBulk]⟩
    have e:s.data.toList.length=s.size:=by rw [Array.length_toList];rfl
    omega⟩
theorem Opn.slice {P:Program} {t e:TypeId} {α:Type} {en:α→List AV} {good:α→Prop} {m:α→Nat} {size:Nat} (ht:P.underlying t=some (.slice e)) (hc:P.cellsOf e=size+1) (h:Opn P e en good m) :
    Opn P t (fun l:List α=>[.sl (l.map en)]) (fun l=>∀ a,a∈l→good a) (fun l=>(l.map m).sum+1):=by
  refine ⟨fun {H enc W fuel cs x} hx=>?_⟩
  rcases DataW.trod_slice ht hx with ⟨rfl,rfl⟩ | ⟨a,len,cap,elems,rest,n,_,rfl,rfl,hb,hl,hm,hlen,hel,hsp,hns⟩
  · exact ⟨[],relL_one .slNil,by simp [Value.oneCell'],by simp,by simp [Rows.uptoBulk]⟩
  rw [hc] at hel
  have hone:∀ i,i<len→∃ y:α × List Value × (DataW H × List MemPlace),elems[i]?=some y.2.2∧W.cells? 0 (a.add (i*(size+1))) (size+1)=some y.2.1∧RelL [] W (fun b=>b<W.heap.size) (en y.1) y.2.1∧(∀ u,u∈y.2.1→u.oneCell'=true)∧good y.1∧m y.1≤Rows.uptoBulk y.2.2.1:=by
    intro i hi
    have h1:=hel i hi
    rw [List.getElem?_eq_getElem (by omega:i<elems.length)] at h1
    obtain ⟨cs',hcs,ht'⟩:=Option.bind_eq_some_iff.1 h1
    obtain ⟨y,g1,g2,g3,g4⟩:=h.opn ht'
    exact ⟨(y,cs',elems[i]),List.getElem?_eq_getElem (by omega),hcs,g1,g2,g3,g4⟩
  obtain ⟨ys,hys,hp⟩:=list_choose len hone
  refine ⟨ys.map (·.1),relL_one ?_,by simp [Value.oneCell'],?_,?_⟩
  · have hrl:((ys.map (·.1)).map en).length=len:=by simp [hys]
    have key:Rel [] W (fun b=>b<W.heap.size) (.sl ((ys.map (·.1)).map en)) (.slice (some a) ((ys.map (·.1)).map en).length cap):=by
      refine .sl _ (size+1) a cap (fun i j=>((ys[i]?).bind (fun y=>y.2.1[j]?)).getD .nilIface) (fun hne=>?_) (by omega) hm (fun row hrow=>?_) (fun i j hi hj=>?_) (fun i j hi hj=>?_) (fun i row j x hi hj=>?_)
      · have hpos:0<len:=by
          rcases Nat.eq_zero_or_pos len with h0 | h0
          · exfalso;apply hne;apply List.eq_nil_of_length_eq_zero;omega
          · exact h0
        obtain ⟨y,hy⟩:∃ y,ys[0]?=some y:=⟨ys[0],List.getElem?_eq_getElem (by omega)⟩
        have:=World.cells?_block (hp 0 y hy).2.1 (by omega)
        rwa [block_of_add] at this
      · simp only [List.map_map,List.mem_map] at hrow
        obtain ⟨y,hy,rfl⟩:=hrow
        obtain ⟨i,hi,hi'⟩:=List.getElem_of_mem hy
        have h1:=hp i y (by rw [List.getElem?_eq_getElem hi,hi'])
        have h2:=(World.cells?_some h1.2.1).2.1
        have h3:=h1.2.2.1.1
        simp only [Function.comp];omega
      · rw [hrl] at hi
        obtain ⟨y,hy⟩:∃ y,ys[i]?=some y:=⟨ys[i],List.getElem?_eq_getElem (by omega)⟩
        have h1:=hp i y hy
        have h2:=(World.cells?_some h1.2.1).2.1
        have h3:y.2.1[j]?=some y.2.1[j]:=List.getElem?_eq_getElem (by omega)
        simp only [hy,Option.bind_some,h3,Option.getD_some]
        exact h1.2.2.2.1 _ (List.getElem_mem _)
      · rw [hrl] at hi
        obtain ⟨y,hy⟩:∃ y,ys[i]?=some y:=⟨ys[i],List.getElem?_eq_getElem (by omega)⟩
        have h1:=hp i y hy
        have h2:=World.cells?_some h1.2.1
        have h3:y.2.1[j]?=some y.2.1[j]:=List.getElem?_eq_getElem (by omega)
        simp only [hy,Option.bind_some,h3,Option.getD_some]
        rw [← add_of_add,h2.2.2 j hj,h3]
      · simp only [List.map_map,List.getElem?_map,Option.map_eq_some_iff] at hi
        obtain ⟨y,hy,rfl⟩:=hi
        have h1:=hp i y hy
        obtain ⟨v,hv,hr⟩:=h1.2.2.1.get hj
        simp only [hy,Option.bind_some,hv,Option.getD_some]
        exact hr
    rwa [hrl] at key
  · intro z hz
    simp only [List.mem_map] at hz
    obtain ⟨y,hy,rfl⟩:=hz
    obtain ⟨i,hi,hi'⟩:=List.getElem_of_mem hy
    exact (hp i y (by rw [List.getElem?_eq_getElem hi,hi'])).2.2.2.2.1
  · have:=bulk_sum m (ys.map (·.1)) (elems.map (·.1)) (by simp [hys,hlen]) (fun i z d hz hd=>by
      simp only [List.getElem?_map,Option.map_eq_some_iff] at hz hd
      obtain ⟨y,hy,rfl⟩:=hz
      obtain ⟨el,he,rfl⟩:=hd
      have h1:=hp i y hy
      rw [h1.1] at he
      obtain rfl:=Option.some.inj he
      exact h1.2.2.2.2.2)
    simp only [Rows.uptoBulk]
    omega
structure OpnF (P:Program) (fs:List Field) (off total:Nat) {α:Type} (en:α→List AV) (good:α→Prop) (m:α→Nat):Prop where
  opn:∀ {H:Type} {enc:TypeId × Value→H} {W:World} {fuel:Nat} {cs:List Value} {xs:List (DataW H × List MemPlace)},cs.length=total →
    xs.length=fs.length→(∀ (i:Nat) (f:Field),fs[i]?=some f→DataW.trod enc P W 0 (fun _=>true) true fuel f.type ((cs.drop f.offset).take (P.cellsOf f.type))=xs[i]?) →
    ∃ a,RelL [] W (fun b=>b<W.heap.size) (en a) (cs.drop off)∧(∀ u,u∈cs.drop off→u.oneCell'=true)∧good a∧m a≤Rows.uptoBulkAll (xs.map (·.1))
theorem OpnF.nil {P:Program} {total:Nat}:OpnF P [] total total (fun _:Unit=>[]) (fun _=>True) (fun _=>0) :=
  ⟨fun hl hx hp=>⟨(),by rw [List.drop_of_length_le (by omega)];exact .nil,by rw [List.drop_of_length_le (by omega)];simp,trivial,by simp⟩⟩
theorem OpnF.cons {P:Program} {f:Field} {fs:List Field} {off total:Nat} {α β:Type} {en1:α→List AV} {en2:β→List AV} {g1:α→Prop} {g2:β→Prop} {m1:α→Nat} {m2:β→Nat}
    (ho:f.offset=off) (c:Nat) (hc:P.cellsOf f.type=c) (h1:Opn P f.type en1 g1 m1) (h2:OpnF P fs (off+c) total en2 g2 m2) :
    OpnF P (f::fs) off total (fun p:α × β=>en1 p.1++en2 p.2) (fun p=>g1 p.1∧g2 p.2) (fun p=>m1 p.1+m2 p.2):=by
  refine ⟨fun {H enc W fuel cs xs} hl hx hp=>?_⟩
  match xs,hx with
  | x :: xs,hx =>
    have h0:=hp 0 f rfl
    simp only [List.getElem?_cons_zero] at h0
    subst ho;subst hc
    obtain ⟨a,a1,a2,a3,a4⟩:=h1.opn h0
    obtain ⟨b,b1,b2,b3,b4⟩:=h2.opn (xs:=xs) hl (by simpa using hx) (fun i f' hf=>by simpa using hp (i+1) f' (by simpa using hf))
    have hs:cs.drop f.offset=(cs.drop f.offset).take (P.cellsOf f.type)++cs.drop (f.offset+P.cellsOf f.type):=by
      rw [← List.drop_drop];exact (List.take_append_drop _ _).symm
    refine ⟨(a,b),?_,fun u hu=>?_,⟨a3,b3⟩,?_⟩
    · rw [hs];exact a1.append b1
    · rw [hs,List.mem_append] at hu
      exact hu.elim (a2 u) (b2 u)
    · simp only [List.map_cons,Rows.uptoBulkAll];omega
theorem Opn.struct {P:Program} {t:TypeId} {fs:Array Field} {total:Nat} {α:Type} {en:α→List AV} {good:α→Prop} {m:α→Nat} (ht:P.underlying t=some (.struct fs)) (hc:P.cellsOf t=total)
    (h:OpnF P fs.toList 0 total en good m):Opn P t en good m:=by
  refine ⟨fun {H enc W fuel cs x} hx=>?_⟩
  obtain ⟨xs,n,rfl,rfl,hl,hxl,hp⟩:=DataW.trod_struct ht hx
  obtain ⟨a,h1,h2,h3,h4⟩:=h.opn (enc:=enc) (W:=W) (fuel:=n) (cs:=cs) (xs:=xs) (by omega) (by simp [hxl]) (fun i f hf=>hp i f (by simpa using hf))
  exact ⟨a,by simpa using h1,by simpa using h2,h3,by simp only [Rows.uptoBulk];omega⟩
theorem Opn.arg {P:Program} {t:TypeId} {α:Type} {en:α→AV} {good:α→Prop} {m:α→Nat} (h:Opn P t (fun a=>[en a]) good m)
    (ht:(match P.underlying t with | some (.struct _) | some (.array _ _)=>false | _=>true)=true)
    {H:Type} {enc:TypeId × Value→H} {W:World} {base:Nat} {v:Value} {d:DataW H} {ps:List MemPlace} (hval:Value.okWide P W .any base t v) (hd:DataW.Trod enc P W 0 (fun _=>true) true t v d ps) :
    ∃ a,Rel [] W (fun b=>b<W.heap.size) (en a) v∧good a∧m a≤Rows.uptoBulk d:=by
  obtain ⟨fuel,hf⟩:=hd
  obtain ⟨a,h1,h2,h3,h4⟩:=h.opn hf
  have hv:v.cells=#[v]:=by
    cases v with
    | agg cs =>
      exfalso
      unfold Value.okWide at hval
      split at hval
      · rename_i e;rw [e] at ht;simp at ht
      · rename_i e;rw [e] at ht;simp at ht
      · unfold Cell.okWide at hval
        split at hval<;>simp_all [Cell.ok]
    | _=>rfl
  rw [hv] at h1
  exact ⟨a,h1.2 0 (en a) v rfl rfl,h3,h4⟩
theorem Opn.args {P:Program} {t:TypeId} {α:Type} {en:α→List AV} {good:α→Prop} {m:α→Nat} (h:Opn P t en good m)
    {fs:Array Field} (ht:P.underlying t=some (.struct fs))
    {H:Type} {enc:TypeId × Value→H} {W:World} {base:Nat} {v:Value} {d:DataW H} {ps:List MemPlace} (hval:Value.okWide P W .any base t v) (hd:DataW.Trod enc P W 0 (fun _=>true) true t v d ps) :
    ∃ a,Rel [] W (fun b=>b<W.heap.size) (.agg (en a)) v∧good a∧m a≤Rows.uptoBulk d:=by
  obtain ⟨fuel,hf⟩:=hd
  obtain ⟨a,h1,h2,h3,h4⟩:=h.opn hf
  unfold Value.okWide at hval
  rw [ht] at hval
  obtain ⟨cs,rfl,_,_⟩:=hval
  simp only [Value.cells] at h1 h2
  refine ⟨a,?_,h3,h4⟩
  have:=Rel.agg (σ:=[]) (w:=W) (F:=fun b=>b<W.heap.size) (en a) cs.toList h1.1 h2 h1.2
  simpa using this
theorem stays_all {H:Type} {enc:TypeId × Value→H} {P:Program} (hl:laidOutB P=true) {W W':World} (hb:Below W.heap.size W W') (sp:Nat→Bool) :
    ∀ {ts:List TypeId} {vs:List Value} {ds:List (DataW H)} {ps:List MemPlace},(ts.all fun t=>P.readableRec t && decide (t<P.types.size))=true→DataW.TrodAll enc P W 0 (fun _=>true) true ts vs ds ps →
      (∀ x∈ps,x.block<W.heap.size)→(∀ x∈ps,sp x.block=true)→DataW.TrodAll enc P W' 0 sp true ts vs ds ps
  | [],[],[],_,_,h,_,_=>h
  | [],_::_,_,_,_,h,_,_=>h.elim
  | [],[],_::_,_,_,h,_,_=>h.elim
  | _::_,[],_,_,_,h,_,_=>h.elim
  | _::_,_::_,[],_,_,h,_,_=>h.elim
  | t :: ts,v::vs,d::ds,ps,hr,h,hlt,hsp=>by
    obtain ⟨p,q,h1,h2,rfl⟩:=h
    simp only [List.all_cons,Bool.and_eq_true,decide_eq_true_eq] at hr
    exact ⟨p,q,WideElems.Trod_stays hl hr.1.1 hr.1.2 h1 (fun x hx=>hb.same (hlt x (by simp [hx]))) (fun x hx=>hsp x (by simp [hx])),
      stays_all hl hb sp hr.2 h2 (fun x hx=>hlt x (by simp [hx])) (fun x hx=>hsp x (by simp [hx])),rfl⟩
section
variable {H:Type} {enc:TypeId × Value→H} {P:Program}
theorem post_of_below {f:Func} {s:ChangeSpec} {apart fresh handsOn again:Bool} {W W':World} {args:Array Value} {v:Value} {ds gs:List (DataW H)} {before pa pv:List MemPlace}
    (hW:DataW.Whole enc P f.params.toList s.vars apart W args.toList ds gs before)
    (hres:∀ (b:Nat) (sp:Nat→Bool) (hd:Bool),DataW.TrodAll enc P W' b sp hd f.resultTypes.toList (v.resultList f.resultTypes.size) (s.fn H (ds++gs)).results [])
    (hargs:∀ sp:Nat→Bool,(∀ p∈before,sp p.block=true)→DataW.TrodAll enc P W' 0 sp true f.params.toList args.toList (s.fn H (ds++gs)).args pa)
    (hvars:∀ sp:Nat→Bool,(∀ p∈before,sp p.block=true)→DataW.TrodVars enc P W' sp s.vars (s.fn H (ds++gs)).vars pv)
    (hps:before=pa++pv) (hb:Below W.heap.size W W')
    (hok:∀ (j:Nat) (t:TypeId) (r:Value),f.resultTypes[j]?=some t→(v.resultList f.resultTypes.size)[j]?=some r→Value.okWide P W' .any 0 t r) :
    s.post enc P f apart fresh handsOn again W args v W':=by
  have hlt:∀ p∈before,p.block<W.heap.size:=fun p hp=>hW.lt p hp
  have hold:∀ p∈before,(fun b=>decide (b<W.heap.size)) p.block=true:=fun p hp=>by simpa using hlt p hp
  refine ⟨ds,gs,before,[],pa,pv,hW,hres _ _ _,hargs _ hold,hvars _ hold,World.keptBut_mono (fun p hp=>⟨hp,?_⟩) (hb.frame (·∈before)),fun _=>?_⟩
  · rw [hps,List.mem_append] at hp
    exact Or.inr hp
  · obtain ⟨_,_,_,_,_,hz,hn⟩:=hW
    refine ⟨hok,_,_,([]++pa)++pv,⟨[]++pa,pv,trodAll_append (hargs _ (fun _ _=>rfl)) (hres _ _ _),hvars _ (fun _ _=>rfl),rfl,?_,?_⟩,?_⟩
    · intro b off hp
      have hin:MemPlace.cell b off∈before:=by rw [hps];simpa using hp
      rw [hb.frozen (hlt _ hin)]
      exact hz b off hin
    · intro ha
      have:=hn ha
      rw [hps] at this
      simpa using this
    · intro p hp _
      rw [hps]
      simpa using hp
end
theorem law_post {H:Type} {enc:TypeId × Value→H} {P:Program} {id:FuncId} {f:Func} {s:ChangeSpec} {W:World} {args:Array Value} {ds gs:List (DataW H)} {before:List MemPlace} {av:List AV} {tb:TypeId}
    (hl:laidOutB P=true) (htb:P.underlying tb=some .bool) (hres:f.resultTypes=#[tb]) (hr:(f.params.toList.all fun t=>P.readableRec t && decide (t<P.types.size))=true) (hvars:s.vars=[])
    (hfn:(s.fn H (ds++gs)).results=[.lit (.bool true)]) (hfa:(s.fn H (ds++gs)).args=ds) (hfv:(s.fn H (ds++gs)).vars=[])
    (hW:DataW.Whole enc P f.params.toList s.vars false W args.toList ds gs before)
    (hrel:RelL [] W (fun b=>b<W.heap.size) av args.toList) (hc:ACalls P id av [] fun r aw'=>r=.bool true∧aw'=[]) :
    Calls P id args W fun e W'=>∃ v,e=.returned v∧s.post enc P f false true false false W args v W':=by
  have hs:Sim [] [] W (fun b=>b<W.heap.size):=⟨rfl,fun k o v h=>by simp at h,fun k k' o o' v v' g _ h=>by simp at h,fun b h=>h⟩
  refine (hc.2 W _ [] args.toList hs hrel).mono fun e W' hx=>?_
  obtain ⟨v,r,aw',σ',F',he,⟨hr1,hr2⟩,_,hv,hm⟩:=hx
  subst hr1;subst hr2
  cases hv
  have hb:Below W.heap.size W W':=⟨hm.os,hm.tape,hm.output.1,hm.size,fun k hk=>hm.keep k hk (fun ⟨k',o,v,ho,_⟩=>by simp at ho)⟩
  refine ⟨.bool true,he,?_⟩
  have hW':=hW
  obtain ⟨p,q,hA,hV,rfl,hfz,hnd⟩:=hW'
  rw [hvars] at hV
  obtain ⟨rfl,rfl⟩:=trodVars_none hV
  have hlt:∀ x∈p++[],x.block<W.heap.size:=fun x hx=>hW.lt x hx
  refine post_of_below (pa:=p) (pv:=[]) hW (fun b sp hd=>?_) (fun sp hsp=>?_) (fun sp hsp=>?_) rfl hb (ok_one hres rfl (okWide_bool_mk htb _))
  · rw [hfn,hres]
    exact trodAll_cons_mk (shut_bool htb _) trodAll_mk0
  · rw [hfa]
    exact stays_all hl hb sp hr hA (fun x hx=>hlt x (by simpa using hx)) (fun x hx=>hsp x (by simpa using hx))
  · rw [hfv,hvars]
    exact rfl
end Go.Proofs.YtoelnjpolhamfaaGreatDoor
namespace Go.Proofs.YtoelnjpolhamfaaGreatDoor
open Go.RowKit
set_option linter.unusedVariables false
set_option linter.unusedSimpArgs false
theorem on3:Opn Tryz.prog 3 (fun n:Int=>[.int .i64 n]) gI mI :=
  (Opn.int Tryz.underlying3).map id (fun _=>rfl) (fun a h=>⟨h.1,h.2⟩) (fun _=>Nat.le_refl _)
end Go.Proofs.YtoelnjpolhamfaaGreatDoor
namespace Go.Proofs.YtoelnjpolhamfaaGreatDoor
set_option linter.unusedVariables false
set_option linter.unusedSimpArgs false
structure Wk (K O:Type) where
  seen:List K
  runs:Nat
  out:List O
def loopW {S K O:Type} (g:S→Wk K O→Option (Bool × Wk K O)):List S→Wk K O→Option (Bool × Wk K O)
  | [],w=>some (true,w)
  | s::ss,w=>match g s w with
    | none=>none
    | some (false,w')=>some (false,w')
    | some (true,w')=>loopW g ss w'
section
variable {S K M O:Type} [DecidableEq K] (calm:S→S) (nm:S→K) (rdy:S→List M) (go:S→M→S) (pl:S→O) (cap:Nat)
def walkD:Nat→S→Wk K O→Option (Bool × Wk K O)
  | 0,_,_=>none
  | f+1,s,w =>
    if nm (calm s)∈w.seen then some (true,w)
    else if cap<w.runs+1 then some (false,⟨nm (calm s)::w.seen,w.runs+1,w.out⟩)
    else if rdy (calm s)=[] then some (true,⟨nm (calm s)::w.seen,w.runs+1,w.out++[pl (calm s)]⟩)
    else loopW (walkD f) ((rdy (calm s)).map (go (calm s))) ⟨nm (calm s)::w.seen,w.runs+1,w.out⟩
variable {calm nm rdy go pl cap}
omit [DecidableEq K] in
end
end Go.Proofs.YtoelnjpolhamfaaGreatDoor
namespace Go.Proofs.YtoelnjpolhamfaaGreatDoor
set_option linter.unusedVariables false
set_option linter.unusedSimpArgs false
def noEnds:Ends:=⟨-1, -1⟩
theorem rep_loop (R:Nat) (hR:R≤16):∀ (n k:Nat) (xs:List Ends),R - k≤n→1≤k→k≤R→xs.length=R→xs.take k=List.replicate k noEnds →
    iter (fun ss:Int × List Ends=>slices_Repeat_ends_l1 ss.1 ss.2) ((k:Int),xs)=some (List.replicate R noEnds)
  | n, k, xs,hn,h1,h2,hl,ht=>by
    rw [iter_eq]
    by_cases hk:k=R
    · subst hk
      unfold slices_Repeat_ends_l1
      rw [if_neg (by simp [hl])]
      have:xs=List.replicate k noEnds:=by rw [← ht,List.take_of_length_le (by omega)]
      simp [this]
    · have hkR:k<R:=by omega
      have v1:vwok xs.length (k:Int) (xs.length:Int)=some ():=by unfold vwok;rw [if_pos (by omega)]
      have v2:vwok xs.length 0 (k:Int)=some ():=by unfold vwok;rw [if_pos (by omega)]
      have v3:vwok xs.length ((((k:Int)).toNat:Nat):Int) ((((k:Int).toNat:Nat):Int)+((((xs.length:Int)).toNat - (k:Int).toNat:Nat):Int))=some ():=by unfold vwok;rw [if_pos (by omega)]
      have v4:vwok xs.length ((((0:Int)).toNat:Nat):Int) ((((0:Int).toNat:Nat):Int)+(((k:Int).toNat - (0:Int).toNat:Nat):Int))=some ():=by unfold vwok;rw [if_pos (by simp;omega)]
      have hstep:slices_Repeat_ends_l1 (k:Int) xs=some (.inl (((k+min (R - k) k:Nat):Int),xs.take k++(xs.take k).take (R - k)++xs.drop (k+min (R - k) k))):=by
        unfold slices_Repeat_ends_l1
        rw [if_pos (by simp;omega),v1,Option.bind_some,v2,Option.bind_some,v3,Option.bind_some,v4,Option.bind_some]
        have e1:IntKind.i64.wrap ((k:Int)+((min (((xs.length:Int)).toNat - (k:Int).toNat) ((k:Int).toNat - (0:Int).toNat):Nat):Int))=((k+min (R - k) k:Nat):Int):=by
          rw [wrap_ok (by omega) (by simp only [Int.toNat_natCast,Int.toNat_zero,hl];omega)]
          simp only [Int.toNat_natCast,Int.toNat_zero,hl];omega
        rw [e1]
        simp only [cpy,Int.toNat_natCast,Int.toNat_zero,hl,List.drop_zero,Nat.sub_zero,List.length_take]
        congr 5
        omega
      rw [hstep]
      simp only
      have hm:1≤min (R - k) k:=by omega
      match n,hn with
      | 0,hn=>omega
      | n+1,hn =>
        refine rep_loop R hR n (k+min (R - k) k) _ (by omega) (by omega) (by omega) (by simp;omega) ?_
        rw [ht,List.take_replicate]
        have e:(List.replicate k noEnds++List.replicate (min (R - k) k) noEnds).length=k+min (R - k) k:=by simp
        rw [← e,List.take_left,e]
        simp
theorem mul_lit (R:Nat) (hR:R≤16):math_bits_Mul (IntKind.u64.wrap (([(⟨(-1),(-1)⟩:Ends)]:List Ends).length:Int)) (IntKind.u64.wrap (R:Int))=some (0,(R:Int)):=by
  have:R=0∨R=1∨R=2∨R=3∨R=4∨R=5∨R=6∨R=7∨R=8∨R=9∨R=10∨R=11∨R=12∨R=13∨R=14∨R=15∨R=16:=by omega
  rcases this with rfl | rfl | rfl | rfl | rfl | rfl | rfl | rfl | rfl | rfl | rfl | rfl | rfl | rfl | rfl | rfl | rfl<;>rfl
theorem repeat_eq (R:Nat) (hR:R≤16):slices_Repeat_ends ([(⟨(-1),(-1)⟩:Ends)]:List Ends) (R:Int)=some (List.replicate R noEnds):=by
  unfold slices_Repeat_ends
  rw [if_neg (by simp),mul_lit R hR,Option.bind_some,if_neg (by simp;omega),wrap_ok (show -9223372036854775808≤(R:Int) by omega) (show (R:Int)≤9223372036854775807 by omega)]
  have hmk:mk (R:Int) (⟨0,0⟩:Ends)=some (List.replicate R ⟨0,0⟩):=by unfold mk;rw [if_pos (by omega)];rfl
  rw [hmk,Option.bind_some]
  simp only [List.length_replicate,List.length_singleton]
  by_cases h0:R=0
  · subst h0
    rw [iter_eq]
    unfold slices_Repeat_ends_l1
    simp [cpy]
  · have e:min R 1=1:=by omega
    rw [e]
    have hc:cpy (List.replicate R (⟨0,0⟩:Ends)) 0 R [(⟨(-1),(-1)⟩:Ends)]=noEnds::(List.replicate R (⟨0,0⟩:Ends)).drop 1:=by
      unfold cpy
      have:([(⟨(-1),(-1)⟩:Ends)]:List Ends).take R=[⟨-1, -1⟩]:=List.take_of_length_le (by simp;omega)
      rw [this]
      simp [e,noEnds]
    rw [hc]
    exact rep_loop R hR R 1 _ (by omega) (by omega) (by omega) (by simp;omega) (by simp)
def arityN (k:Int):Option (Int × Int):=if k=1 then some (0,1) else if k=2∨k=3∨k=4 then some (1,1) else if k=5∨k=7 then some (1, -1) else if k=6 then some (-1,1) else if k=8 then some (1,0) else none
def fitsN (n:Nat) (want:Int):Bool:=decide ((n:Int)=want∨want<0∧0<n)
def badA (x:Node):Bool:=decide (x.A<0∨x.Kind=1∧4≤x.A∨x.Kind=2∧3<x.A∨x.Kind≠1∧x.Kind≠2∧x.A≠0)
def nodeErr (x:Node):Int:=match arityN x.Kind with
  | none=>5
  | some (i,o)=>if (fitsN x.In.length i && fitsN x.Out.length o)=false then 4 else if badA x then 3 else 0
def takeN (R i:Int):List Int→List Ends→Int ⊕ List Ends
  | [],l=>.inr l
  | r::rs,l=>if r<0∨R≤r then .inl 3 else match l[r.toNat]? with
    | none=>.inl 99
    | some e=>if 0≤e.dst then .inl 6 else takeN R i rs (l.set r.toNat ⟨e.src,i⟩)
def giveN (R i:Int):List Int→List Ends→Int ⊕ List Ends
  | [],l=>.inr l
  | r::rs,l=>if r<0∨R≤r then .inl 3 else match l[r.toNat]? with
    | none=>.inl 99
    | some e=>if 0≤e.src then .inl 6 else giveN R i rs (l.set r.toNat ⟨i,e.dst⟩)
def oneN (R:Int) (i:Nat) (x:Node) (l:List Ends):Int ⊕ List Ends :=
  if nodeErr x≠0 then .inl (nodeErr x) else match takeN R i x.In l with
    | .inl e=>.inl e
    | .inr l1=>giveN R i x.Out l1
def nodesN (R:Int):Nat→List Node→Nat→List Ends→Int ⊕ (Nat × List Ends)
  | _,[],s,l=>.inr (s,l)
  | i,x::xs,s,l=>match oneN R i x l with
    | .inl e=>.inl e
    | .inr l1=>nodesN R (i+1) xs (if x.Kind=8 then s+1 else s) l1
def lookN (n:Net):Int ⊕ List Ends :=
  if n.Nodes.length<1∨12<n.Nodes.length∨n.Rings<0∨16<n.Rings then .inl 2
  else if n.Room<1∨6<n.Room then .inl 3
  else match nodesN n.Rings 0 n.Nodes 0 (List.replicate n.Rings.toNat noEnds) with
    | .inl e=>.inl e
    | .inr (s,l)=>if l.any (fun e=>decide (e.src<0∨e.dst<0)) then .inl 9 else if s≠1 then .inl 4 else .inr l
theorem takeN_len (R i:Int):∀ (rs:List Int) (l l1:List Ends),takeN R i rs l=.inr l1→l1.length=l.length
  | [],l,l1,h=>by cases h;rfl
  | r :: rs,l,l1,h=>by
    unfold takeN at h
    split at h
    · cases h
    · split at h
      · cases h
      · split at h
        · cases h
        · have:=takeN_len R i rs _ l1 h;simpa using this
theorem giveN_len (R i:Int):∀ (rs:List Int) (l l1:List Ends),giveN R i rs l=.inr l1→l1.length=l.length
  | [],l,l1,h=>by cases h;rfl
  | r :: rs,l,l1,h=>by
    unfold giveN at h
    split at h
    · cases h
    · split at h
      · cases h
      · split at h
        · cases h
        · have:=giveN_len R i rs _ l1 h;simpa using this
theorem oneN_len {R:Int} {i:Nat} {x:Node} {l l1:List Ends} (h:oneN R i x l=.inr l1):l1.length=l.length:=by
  unfold oneN at h
  split at h
  · cases h
  · split at h
    · cases h
    · rename_i l2 h2
      exact (giveN_len R i _ _ _ h).trans (takeN_len R i _ _ _ h2)
theorem arity_eq (k:Int):net_arity k=some (match arityN k with | some (i,o)=>(i,o,true) | none=>(0,0,false)):=by
  unfold net_arity net_arity_k2 net_arity_k1 arityN
  by_cases h1:k=1
  · subst h1;rfl
  by_cases h2:k=2
  · subst h2;rfl
  by_cases h3:k=3
  · subst h3;rfl
  by_cases h4:k=4
  · subst h4;rfl
  by_cases h5:k=5
  · subst h5;rfl
  by_cases h6:k=6
  · subst h6;rfl
  by_cases h7:k=7
  · subst h7;rfl
  by_cases h8:k=8
  · subst h8;rfl
  simp [h1,h2,h3,h4,h5,h6,h7,h8]
theorem fits_eq (n:Nat) (w:Int):net_fits (n:Int) w=some (fitsN n w):=by
  unfold net_fits fitsN
  congr 1
  rw [Bool.eq_iff_iff]
  simp
theorem look_s1 (n:Net) (s:Int) (i:Nat) (x:Node) (hR:n.Rings≤16) (k:Nat) (l:List Ends) (hlt:k<x.Out.length) (hx:x.Out.length≤1099511627776) (hl:(l.length:Int)=n.Rings) :
    net_look_l1 n i x s k l=if x.Out[k]<0∨n.Rings≤x.Out[k] then some (.inr (.inr ([],3))) else match l[x.Out[k].toNat]? with
      | none=>none
      | some e=>if 0≤e.src then some (.inr (.inr ([],6))) else some (.inl (((k+1:Nat):Int),l.set x.Out[k].toNat ⟨i,e.dst⟩)):=by
  unfold net_look_l1
  rw [if_pos (by simp;omega),idx_at (List.getElem?_eq_getElem hlt),Option.bind_some]
  by_cases hr:x.Out[k]<0∨n.Rings≤x.Out[k]
  · rw [if_pos (by simp;omega),if_pos hr];rfl
  · rw [if_neg (by simp;omega),if_neg hr]
    have hrl:x.Out[k].toNat<l.length:=by omega
    have hix:ixN l x.Out[k]=some x.Out[k].toNat:=by unfold ixN;rw [if_pos (by omega)]
    have hg:=List.getElem?_eq_getElem hrl
    simp only [hix,hg,Option.bind_some,wrap_1 (show k<4611686018427387904 by omega)]
    by_cases he:0≤l[x.Out[k].toNat].src
    · rw [if_pos (by simp;omega),if_pos he];rfl
    · rw [if_neg (by simp;omega),if_neg he]
theorem look_s2 (n:Net) (s:Int) (i:Nat) (x:Node) (hR:n.Rings≤16) (k:Nat) (l:List Ends) (hlt:k<x.In.length) (hx:x.In.length≤1099511627776) (hl:(l.length:Int)=n.Rings) :
    net_look_l2 n i x s k l=if x.In[k]<0∨n.Rings≤x.In[k] then some (.inr (.inr ([],3))) else match l[x.In[k].toNat]? with
      | none=>none
      | some e=>if 0≤e.dst then some (.inr (.inr ([],6))) else some (.inl (((k+1:Nat):Int),l.set x.In[k].toNat ⟨e.src,i⟩)):=by
  unfold net_look_l2
  rw [if_pos (by simp;omega),idx_at (List.getElem?_eq_getElem hlt),Option.bind_some]
  by_cases hr:x.In[k]<0∨n.Rings≤x.In[k]
  · rw [if_pos (by simp;omega),if_pos hr];rfl
  · rw [if_neg (by simp;omega),if_neg hr]
    have hrl:x.In[k].toNat<l.length:=by omega
    have hix:ixN l x.In[k]=some x.In[k].toNat:=by unfold ixN;rw [if_pos (by omega)]
    have hg:=List.getElem?_eq_getElem hrl
    simp only [hix,hg,Option.bind_some,wrap_1 (show k<4611686018427387904 by omega)]
    by_cases he:0≤l[x.In[k].toNat].dst
    · rw [if_pos (by simp;omega),if_pos he];rfl
    · rw [if_neg (by simp;omega),if_neg he]
theorem look_l1 (n:Net) (s:Int) (i:Nat) (x:Node) (hx:x.Out.length≤1099511627776) (hi:i≤12) (hR:n.Rings≤16) :
    ∀ (m k:Nat) (l:List Ends),k+m=x.Out.length→(l.length:Int)=n.Rings →
    iter (fun ss:Int × List Ends=>net_look_l1 n i x s ss.1 ss.2) ((k:Int),l)=match giveN n.Rings i (x.Out.drop k) l with
      | .inl e=>some (.inr ([],e))
      | .inr l1=>some (.inl (s,((i+1:Nat):Int),l1))
  | 0,k,l,h,hl=>by
    have hk:k=x.Out.length:=by omega
    subst hk
    have:net_look_l1 n i x s (x.Out.length:Int) l=some (.inr (.inl (s,((i+1:Nat):Int),l))):=by
      unfold net_look_l1
      rw [if_neg (by simp),wrap_1 (by omega)];rfl
    rw [iter_eq,List.drop_length]
    simp only [this,giveN]
  | m + 1,k,l,h,hl=>by
    have hlt:k<x.Out.length:=by omega
    rw [iter_eq,List.drop_eq_getElem_cons hlt]
    simp only [giveN,look_s1 n s i x hR k l hlt hx hl]
    by_cases hr:x.Out[k]<0∨n.Rings≤x.Out[k]
    · simp only [if_pos hr]
    · simp only [if_neg hr]
      have hrl:x.Out[k].toNat<l.length:=by omega
      simp only [List.getElem?_eq_getElem hrl]
      by_cases he:0≤l[x.Out[k].toNat].src
      · simp only [if_pos he]
      · simp only [if_neg he]
        exact look_l1 n s i x hx hi hR m (k+1) _ (by omega) (by simpa using hl)
theorem look_l2 (n:Net) (s:Int) (i:Nat) (x:Node) (hx:x.Out.length≤1099511627776) (hx2:x.In.length≤1099511627776) (hi:i≤12) (hR:n.Rings≤16) :
    ∀ (m k:Nat) (l:List Ends),k+m=x.In.length→(l.length:Int)=n.Rings →
    iter (fun ss:Int × List Ends=>net_look_l2 n i x s ss.1 ss.2) ((k:Int),l)=match (match takeN n.Rings i (x.In.drop k) l with | .inl e=>Sum.inl e | .inr l1=>giveN n.Rings i x.Out l1) with
      | .inl e=>some (.inr ([],e))
      | .inr l1=>some (.inl (s,((i+1:Nat):Int),l1))
  | 0,k,l,h,hl=>by
    have hk:k=x.In.length:=by omega
    subst hk
    have:=look_l1 n s i x hx hi hR x.Out.length 0 l (by omega) hl
    simp only [List.drop_zero,Int.natCast_zero] at this
    have h2:net_look_l2 n i x s (x.In.length:Int) l=Option.map Sum.inr (match giveN n.Rings i x.Out l with | .inl e=>some (.inr ([],e)) | .inr l1=>some (.inl (s,((i+1:Nat):Int),l1))):=by
      unfold net_look_l2
      rw [if_neg (by simp)]
      rw [← this]
    rw [iter_eq,List.drop_length]
    simp only [h2,takeN]
    cases giveN n.Rings i x.Out l<;>rfl
  | m + 1,k,l,h,hl=>by
    have hlt:k<x.In.length:=by omega
    rw [iter_eq,List.drop_eq_getElem_cons hlt]
    simp only [takeN,look_s2 n s i x hR k l hlt hx2 hl]
    by_cases hr:x.In[k]<0∨n.Rings≤x.In[k]
    · simp only [if_pos hr]
    · simp only [if_neg hr]
      have hrl:x.In[k].toNat<l.length:=by omega
      simp only [List.getElem?_eq_getElem hrl]
      by_cases he:0≤l[x.In[k].toNat].dst
      · simp only [if_pos he]
      · simp only [if_neg he]
        exact look_l2 n s i x hx hx2 hi hR m (k+1) _ (by omega) (by simpa using hl)
theorem badA_eq (x:Node):((decide (x.A<0)) || (if (x.Kind==1)=true then ((decide (x.A ≥ 4)) || (if (x.Kind==2)=true then ((decide (x.A > 3)) || ((x.Kind != 1) && ((x.Kind != 2) && x.A != 0))) else ((x.Kind != 1) && ((x.Kind != 2) && x.A != 0)))) else (if (x.Kind==2)=true then ((decide (x.A > 3)) || ((x.Kind != 1) && ((x.Kind != 2) && x.A != 0))) else ((x.Kind != 1) && ((x.Kind != 2) && x.A != 0)))))=badA x:=by
  unfold badA
  by_cases h1:x.Kind=1
  · rw [Bool.eq_iff_iff];simp [h1]
  · by_cases h2:x.Kind=2
    · rw [Bool.eq_iff_iff];simp [h1,h2]
    · rw [Bool.eq_iff_iff];simp [h1,h2]
theorem look_l4 (s:Int) (l:List Ends) (hl:l.length≤16):iter (fun ss:Int=>net_look_l4 s l ss) 0=some (if l.any (fun e=>decide (e.src<0∨e.dst<0)) then ([],9) else if s≠1 then ([],4) else (l,0)):=by
  have:=iter_list0 (σ:=Unit) l (by omega) (fun k _=>(k:Int)) (body:=fun ss=>net_look_l4 s l ss)
    (fun k e _=>if e.src<0∨e.dst<0 then some (.inr ([],9)) else some (.inl ())) (fun _=>if s≠1 then some ([],4) else some (l,0)) ()
    (fun k e _ hk hlt _ h2 h3=>by
      unfold net_look_l4
      rw [h2,ixN_at hlt,h3]
      simp only [if_true,Option.bind_some,hk]
      by_cases h:e.src<0∨e.dst<0
      · rw [if_pos (by simp;omega),if_pos h];rfl
      · rw [if_neg (by simp;omega),if_neg h])
    (fun _ h=>by
      unfold net_look_l4;rw [h]
      by_cases hs:s=1<;>simp [hs])
  refine Eq.trans this ?_
  have key:∀ (ys:List Ends) (k:Nat),foldE (σ:=Unit) (ρ:=List Ends × Int) (fun k e _=>if e.src<0∨e.dst<0 then some (.inr ([],9)) else some (.inl ())) (fun _=>if s≠1 then some ([],4) else some (l,0)) k ys ()=some (if ys.any (fun e=>decide (e.src<0∨e.dst<0)) then ([],9) else if s≠1 then ([],4) else (l,0)):=by
    intro ys
    induction ys with
    | nil=>intro k;simp only [foldE,List.any_nil];by_cases hs:s=1<;>simp [hs]
    | cons y ys ih =>
      intro k
      unfold foldE
      by_cases h:y.src<0∨y.dst<0
      · rw [if_pos h];simp [h]
      · rw [if_neg h];simp only;rw [ih];simp [h]
  exact key l 0
theorem look_l5 (n:Net) (hn:n.Nodes.length≤12) (hR0:0≤n.Rings) (hR:n.Rings≤16) (hio:∀ x∈n.Nodes,x.In.length≤1099511627776∧x.Out.length≤1099511627776) :
    ∀ (m k s:Nat) (l:List Ends),k+m=n.Nodes.length→s≤k→(l.length:Int)=n.Rings →
    iter (fun ss:Int × Int × List Ends=>net_look_l5 n ss.1 ss.2.1 ss.2.2) ((s:Int),(k:Int),l)=some (match nodesN n.Rings k (n.Nodes.drop k) s l with
      | .inl e=>([],e)
      | .inr (s,l)=>if l.any (fun e=>decide (e.src<0∨e.dst<0)) then ([],9) else if s≠1 then ([],4) else (l,0))
  | 0,k,s,l,h,hs,hl=>by
    have hk:k=n.Nodes.length:=by omega
    subst hk
    have h5:net_look_l5 n s (n.Nodes.length:Int) l=some (.inr (if l.any (fun e=>decide (e.src<0∨e.dst<0)) then ([],9) else if (s:Int)≠1 then ([],4) else (l,0))):=by
      unfold net_look_l5
      rw [if_neg (by simp),look_l4 _ _ (by omega)];rfl
    have:((s:Int)≠1) ↔ (s≠1):=by omega
    rw [iter_eq,List.drop_length]
    simp only [h5,nodesN,this]
  | m + 1, k, s,l,h,hs,hl=>by
    have hlt:k<n.Nodes.length:=by omega
    have hmem:n.Nodes[k]∈n.Nodes:=List.getElem_mem hlt
    rw [iter_eq,List.drop_eq_getElem_cons hlt]
    simp only [nodesN]
    have step : net_look_l5 n s k l=match oneN n.Rings k n.Nodes[k] l with
        | .inl e=>some (.inr ([],e))
        | .inr l1=>some (.inl (((if n.Nodes[k].Kind=8 then s+1 else s:Nat):Int),((k+1:Nat):Int),l1)):=by
      unfold net_look_l5
      rw [if_pos (by simp;omega),idx_at (List.getElem?_eq_getElem hlt),Option.bind_some,arity_eq,Option.bind_some]
      generalize n.Nodes[k]=x at hmem
      unfold oneN nodeErr
      cases ha:arityN x.Kind with
      | none=>simp
      | some io =>
        obtain ⟨i0,o0⟩:=io
        simp only [Bool.not_true,Bool.false_eq_true,if_false,fits_eq,Option.bind_some]
        have hfit:(if (!fitsN x.In.length i0)=true then some true else some (!fitsN x.Out.length o0))=some (!(fitsN x.In.length i0 && fitsN x.Out.length o0)):=by
          cases fitsN x.In.length i0<;>simp
        rw [hfit,Option.bind_some]
        by_cases hf:(fitsN x.In.length i0 && fitsN x.Out.length o0)=false
        · rw [if_pos (by simp [hf])]
          simp [hf]
        · have hf':(fitsN x.In.length i0 && fitsN x.Out.length o0)=true:=by simpa using hf
          rw [if_neg (by simp [hf']),badA_eq]
          simp only [hf',Bool.true_eq_false,if_false]
          by_cases hb:badA x=true
          · simp [hb]
          · simp only [hb,if_false,Bool.false_eq_true,ne_eq,not_true_eq_false]
            obtain ⟨h1,h2⟩:=hio x hmem
            have k3:∀ s':Int,net_look_k3 n k l x s'=match (match takeN n.Rings k x.In l with | .inl e=>Sum.inl e | .inr l1=>giveN n.Rings k x.Out l1) with
                | .inl e=>some (.inr ([],e))
                | .inr l1=>some (.inl (s',((k+1:Nat):Int),l1)):=fun s'=>by
              unfold net_look_k3
              have:=look_l2 n s' k x h2 h1 (by omega) hR x.In.length 0 l (by omega) hl
              simpa using this
            by_cases h8:x.Kind=8
            · rw [if_pos (by simp [h8]),k3,wrap_1 (by omega)]
              simp only [h8,if_true]
            · rw [if_neg (by simp [h8]),k3]
              simp only [h8,if_false]
    simp only [step]
    cases ho:oneN n.Rings k n.Nodes[k] l with
    | inl e=>rfl
    | inr l1 =>
      simp only
      exact look_l5 n hn hR0 hR hio m (k+1) _ l1 (by omega) (by split<;>omega) (by rw [oneN_len ho];exact hl)
theorem net_look_eq (n:Net) (hio:∀ x∈n.Nodes,x.In.length≤1099511627776∧x.Out.length≤1099511627776):net_look n=some (match lookN n with | .inl e=>([],e) | .inr l=>(l,0)):=by
  unfold net_look lookN
  by_cases h1:n.Nodes.length<1∨12<n.Nodes.length∨n.Rings<0∨16<n.Rings
  · rw [if_pos (by simp;omega),if_pos h1]
  rw [if_neg (by simp;omega),if_neg h1]
  by_cases h2:n.Room<1∨6<n.Room
  · rw [if_pos (by simp;omega),if_pos h2]
  rw [if_neg (by simp;omega),if_neg h2]
  have hRn:n.Rings=((n.Rings.toNat:Nat):Int):=by omega
  rw [hRn,repeat_eq _ (by omega),Option.bind_some,← hRn]
  have:=look_l5 n (by omega) (by omega) (by omega) hio n.Nodes.length 0 0 (List.replicate n.Rings.toNat noEnds) (by omega) (by omega) (by simp;omega)
  simp only [Int.natCast_zero,List.drop_zero] at this
  rw [this]
  cases nodesN n.Rings 0 n.Nodes 0 (List.replicate n.Rings.toNat noEnds) with
  | inl e=>rfl
  | inr q =>
    obtain ⟨s,l⟩:=q
    simp only
    split
    · rfl
    · split<;>rfl
end Go.Proofs.YtoelnjpolhamfaaGreatDoor
namespace Go.Proofs.YtoelnjpolhamfaaGreatDoor
set_option linter.unusedVariables false
set_option linter.unusedSimpArgs false
theorem takeN_spec (R i:Int) (hi:0≤i):∀ (rs:List Int) (l l1:List Ends),(l.length:Int)=R→takeN R i rs l=.inr l1 →
    (∀ r∈rs,0≤r∧r<R∧∀ e,l[r.toNat]?=some e→e.dst<0)∧rs.Nodup∧∀ j:Nat,l1[j]?=if (j:Int)∈rs then (l[j]?).map (fun e=>⟨e.src,i⟩) else l[j]?
  | [],l,l1,hl,h=>by cases h;exact ⟨fun r hr=>by simp at hr,List.nodup_nil,fun j=>by simp⟩
  | r :: rs,l,l1,hl,h=>by
    unfold takeN at h
    split at h
    · cases h
    · rename_i hr
      split at h
      · cases h
      · rename_i e he
        split at h
        · cases h
        · rename_i hd
          have hlt:r.toNat<l.length:=(List.getElem?_eq_some_iff.1 he).1
          obtain ⟨h1,h2,h3⟩:=takeN_spec R i hi rs _ l1 (by simpa using hl) h
          have hnot:r ∉ rs:=fun hm=>by
            have:=(h1 r hm).2.2 ⟨e.src,i⟩ (by rw [List.getElem?_set,if_pos rfl,if_pos hlt])
            simp at this;omega
          refine ⟨fun q hq=>?_,List.nodup_cons.2 ⟨hnot,h2⟩,fun j=>?_⟩
          · rcases List.mem_cons.1 hq with rfl | hq
            · exact ⟨by omega,by omega,fun e' he'=>by rw [he] at he';cases he';omega⟩
            · obtain ⟨a,b,c⟩:=h1 q hq
              refine ⟨a,b,fun e' he'=>?_⟩
              have hne:q≠r:=fun e=>hnot (e▸hq)
              exact c e' (by rw [List.getElem?_set,if_neg (by omega)];exact he')
          · rw [h3 j,List.getElem?_set]
            by_cases hj:(j:Int)=r
            · have hjr:r.toNat=j:=by omega
              rw [if_neg (by rw [hj];exact hnot),if_pos hjr,if_pos hlt,if_pos (by rw [hj];exact List.mem_cons_self),← hjr,he]
              rfl
            · have hjr:¬ r.toNat=j:=by omega
              rw [if_neg hjr]
              by_cases hm:(j:Int)∈rs
              · rw [if_pos hm,if_pos (List.mem_cons_of_mem _ hm)]
              · rw [if_neg hm,if_neg (by simp [hj,hm])]
theorem giveN_spec (R i:Int) (hi:0≤i):∀ (rs:List Int) (l l1:List Ends),(l.length:Int)=R→giveN R i rs l=.inr l1 →
    (∀ r∈rs,0≤r∧r<R∧∀ e,l[r.toNat]?=some e→e.src<0)∧rs.Nodup∧∀ j:Nat,l1[j]?=if (j:Int)∈rs then (l[j]?).map (fun e=>⟨i,e.dst⟩) else l[j]?
  | [],l,l1,hl,h=>by cases h;exact ⟨fun r hr=>by simp at hr,List.nodup_nil,fun j=>by simp⟩
  | r :: rs,l,l1,hl,h=>by
    unfold giveN at h
    split at h
    · cases h
    · rename_i hr
      split at h
      · cases h
      · rename_i e he
        split at h
        · cases h
        · rename_i hd
          have hlt:r.toNat<l.length:=(List.getElem?_eq_some_iff.1 he).1
          obtain ⟨h1,h2,h3⟩:=giveN_spec R i hi rs _ l1 (by simpa using hl) h
          have hnot:r ∉ rs:=fun hm=>by
            have:=(h1 r hm).2.2 ⟨i,e.dst⟩ (by rw [List.getElem?_set,if_pos rfl,if_pos hlt])
            simp at this;omega
          refine ⟨fun q hq=>?_,List.nodup_cons.2 ⟨hnot,h2⟩,fun j=>?_⟩
          · rcases List.mem_cons.1 hq with rfl | hq
            · exact ⟨by omega,by omega,fun e' he'=>by rw [he] at he';cases he';omega⟩
            · obtain ⟨a,b,c⟩:=h1 q hq
              refine ⟨a,b,fun e' he'=>?_⟩
              have hne:q≠r:=fun e=>hnot (e▸hq)
              exact c e' (by rw [List.getElem?_set,if_neg (by omega)];exact he')
          · rw [h3 j,List.getElem?_set]
            by_cases hj:(j:Int)=r
            · have hjr:r.toNat=j:=by omega
              rw [if_neg (by rw [hj];exact hnot),if_pos hjr,if_pos hlt,if_pos (by rw [hj];exact List.mem_cons_self),← hjr,he]
              rfl
            · have hjr:¬ r.toNat=j:=by omega
              rw [if_neg hjr]
              by_cases hm:(j:Int)∈rs
              · rw [if_pos hm,if_pos (List.mem_cons_of_mem _ hm)]
              · rw [if_neg hm,if_neg (by simp [hj,hm])]
structure Looked (ns:List Node) (R:Int) (k:Nat) (l:List Ends):Prop where
  len:(l.length:Int)=R
  src:∀ (j:Nat) e,l[j]?=some e→(e.src<0∨∃ (i:Nat) (x:Node),i<k∧ns[i]?=some x∧e.src=i∧(j:Int)∈x.Out)
  dst:∀ (j:Nat) e,l[j]?=some e→(e.dst<0∨∃ (i:Nat) (x:Node),i<k∧ns[i]?=some x∧e.dst=i∧(j:Int)∈x.In)
  node:∀ (i:Nat) x,i<k→ns[i]?=some x→nodeErr x=0∧x.In.Nodup∧x.Out.Nodup ∧
    (∀ r∈x.In,0≤r∧r<R∧∃ e,l[r.toNat]?=some e∧e.dst=i)∧(∀ r∈x.Out,0≤r∧r<R∧∃ e,l[r.toNat]?=some e∧e.src=i)
theorem Looked.one {ns:List Node} {R:Int} {k:Nat} {l l1:List Ends} {x:Node} (h:Looked ns R k l) (hx:ns[k]?=some x) (ho:oneN R k x l=.inr l1):Looked ns R (k+1) l1:=by
  unfold oneN at ho
  split at ho
  · cases ho
  · rename_i hne
    split at ho
    · cases ho
    · rename_i l2 h2
      have hl2:(l2.length:Int)=R:=by rw [takeN_len R k _ _ _ h2];exact h.len
      obtain ⟨a1,a2,a3⟩:=takeN_spec R k (by omega) _ _ _ h.len h2
      obtain ⟨b1,b2,b3⟩:=giveN_spec R k (by omega) _ _ _ hl2 ho
      have hent:∀ (j:Nat) e1,l1[j]?=some e1→∃ e,l[j]?=some e∧e1.src=(if (j:Int)∈x.Out then (k:Int) else e.src)∧e1.dst=(if (j:Int)∈x.In then (k:Int) else e.dst):=fun j e1 he1=>by
        rw [b3 j,a3 j] at he1
        cases hj:l[j]? with
        | none=>rw [hj] at he1;split at he1<;>split at he1<;>cases he1
        | some e =>
          rw [hj] at he1
          refine ⟨e,rfl,?_⟩
          split at he1<;>split at he1<;>cases he1<;>simp_all
      have hent2:∀ (j:Nat) e,l[j]?=some e→∃ e1,l1[j]?=some e1∧e1.src=(if (j:Int)∈x.Out then (k:Int) else e.src)∧e1.dst=(if (j:Int)∈x.In then (k:Int) else e.dst):=fun j e he=>by
        have hlt:j<l1.length:=by
          have:=giveN_len R k _ _ _ ho
          have:=takeN_len R k _ _ _ h2
          have:=(List.getElem?_eq_some_iff.1 he).1
          omega
        obtain ⟨e',h1,h3⟩:=hent j _ (List.getElem?_eq_getElem hlt)
        rw [he] at h1;cases h1
        exact ⟨_,List.getElem?_eq_getElem hlt,h3⟩
      refine ⟨by rw [giveN_len R k _ _ _ ho];exact hl2,fun j e1 he1=>?_,fun j e1 he1=>?_,fun i y hi hy=>?_⟩
      · obtain ⟨e,he,hs,_⟩:=hent j e1 he1
        by_cases hm:(j:Int)∈x.Out
        · rw [if_pos hm] at hs
          exact .inr ⟨k,x,by omega,hx,hs,hm⟩
        · rw [if_neg hm] at hs
          rw [hs]
          rcases h.src j e he with h1 | ⟨i,y,h1,h2,h3,h4⟩
          · exact .inl h1
          · exact .inr ⟨i,y,by omega,h2,h3,h4⟩
      · obtain ⟨e,he,_,hs⟩:=hent j e1 he1
        by_cases hm:(j:Int)∈x.In
        · rw [if_pos hm] at hs
          exact .inr ⟨k,x,by omega,hx,hs,hm⟩
        · rw [if_neg hm] at hs
          rw [hs]
          rcases h.dst j e he with h1 | ⟨i,y,h1,h2,h3,h4⟩
          · exact .inl h1
          · exact .inr ⟨i,y,by omega,h2,h3,h4⟩
      · rcases Nat.lt_or_ge i k with hik | hik
        · obtain ⟨c1,c2,c3,c4,c5⟩:=h.node i y hik hy
          refine ⟨c1,c2,c3,fun r hr=>?_,fun r hr=>?_⟩
          · obtain ⟨d1,d2,e,d3,d4⟩:=c4 r hr
            refine ⟨d1,d2,?_⟩
            obtain ⟨e1,f1,_,f2⟩:=hent2 _ e d3
            have hnm:(r.toNat:Int) ∉ x.In:=fun hm=>by
              have:=(a1 _ hm).2.2 e (by rw [Int.toNat_natCast];exact d3)
              omega
            rw [if_neg hnm] at f2
            exact ⟨e1,f1,f2.trans d4⟩
          · obtain ⟨d1,d2,e,d3,d4⟩:=c5 r hr
            refine ⟨d1,d2,?_⟩
            obtain ⟨e1,f1,f2,_⟩:=hent2 _ e d3
            have hnm:(r.toNat:Int) ∉ x.Out:=fun hm=>by
              have hl2e:∃ e2,l2[r.toNat]?=some e2∧e2.src=e.src:=by
                rw [a3]
                split<;>simp [d3]
              obtain ⟨e2,g1,g2⟩:=hl2e
              have:=(b1 _ hm).2.2 e2 (by rw [Int.toNat_natCast];exact g1)
              omega
            rw [if_neg hnm] at f2
            exact ⟨e1,f1,f2.trans d4⟩
        · have hik:i=k:=by omega
          subst hik
          rw [hx] at hy;cases hy
          refine ⟨by simpa using hne,a2,b2,fun r hr=>?_,fun r hr=>?_⟩
          · obtain ⟨d1,d2,_⟩:=a1 r hr
            refine ⟨d1,d2,?_⟩
            have hlt:r.toNat<l.length:=by have:=h.len;omega
            obtain ⟨e1,f1,_,f2⟩:=hent2 _ _ (List.getElem?_eq_getElem hlt)
            rw [if_pos (by rw [Int.toNat_of_nonneg d1];exact hr)] at f2
            exact ⟨e1,f1,f2⟩
          · obtain ⟨d1,d2,_⟩:=b1 r hr
            refine ⟨d1,d2,?_⟩
            have hlt:r.toNat<l.length:=by have:=h.len;omega
            obtain ⟨e1,f1,f2,_⟩:=hent2 _ _ (List.getElem?_eq_getElem hlt)
            rw [if_pos (by rw [Int.toNat_of_nonneg d1];exact hr)] at f2
            exact ⟨e1,f1,f2⟩
theorem Looked.start (ns:List Node) (R:Nat):Looked ns R 0 (List.replicate R noEnds) :=
  ⟨by simp,fun j e he=>by rw [List.getElem?_replicate] at he;split at he<;>cases he;exact .inl (by decide),fun j e he=>by rw [List.getElem?_replicate] at he;split at he<;>cases he;exact .inl (by decide),fun i x hi=>by omega⟩
theorem nodesN_ok (ns:List Node) (R:Int):∀ (xs:List Node) (k s:Nat) (l:List Ends) (s1:Nat) (l1:List Ends),ns.drop k=xs→Looked ns R k l→nodesN R k xs s l=.inr (s1,l1) →
    Looked ns R ns.length l1∧s1=s+(xs.filter (fun x=>decide (x.Kind=8))).length
  | [],k,s,l,s1,l1,hd,h,hn=>by
    cases hn
    have hk:ns.length≤k:=List.drop_eq_nil_iff.1 hd
    refine ⟨⟨h.len,fun j e he=>?_,fun j e he=>?_,fun i x hi hx=>h.node i x (by omega) hx⟩,by simp⟩
    · rcases h.src j e he with h1 | ⟨i,y,h1,h2,h3⟩
      · exact .inl h1
      · exact .inr ⟨i,y,(List.getElem?_eq_some_iff.1 h2).1,h2,h3⟩
    · rcases h.dst j e he with h1 | ⟨i,y,h1,h2,h3⟩
      · exact .inl h1
      · exact .inr ⟨i,y,(List.getElem?_eq_some_iff.1 h2).1,h2,h3⟩
  | x :: xs,k,s,l,s1,l1,hd,h,hn=>by
    have hx:ns[k]?=some x:=by
      have:=congrArg (fun l=>l[0]?) hd
      simpa [List.getElem?_drop] using this
    have hd2:ns.drop (k+1)=xs:=by
      have:=congrArg (List.drop 1) hd
      simpa [List.drop_drop,Nat.add_comm] using this
    unfold nodesN at hn
    split at hn
    · cases hn
    · rename_i l2 h2
      obtain ⟨a,b⟩:=nodesN_ok ns R xs (k+1) _ l2 s1 l1 hd2 (h.one hx h2) hn
      refine ⟨a,?_⟩
      rw [b]
      by_cases h8:x.Kind=8
      · simp [h8];omega
      · simp [h8]
structure NetL (n:Net) (l:List Ends):Prop where
  n1:1≤n.Nodes.length
  n2:n.Nodes.length≤12
  r1:0≤n.Rings
  r2:n.Rings≤16
  m1:1≤n.Room
  m2:n.Room≤6
  len:(l.length:Int)=n.Rings
  src:∀ (j:Nat) e,l[j]?=some e→∃ (i:Nat) (x:Node),n.Nodes[i]?=some x∧e.src=i∧(j:Int)∈x.Out
  dst:∀ (j:Nat) e,l[j]?=some e→∃ (i:Nat) (x:Node),n.Nodes[i]?=some x∧e.dst=i∧(j:Int)∈x.In
  err:∀ (i:Nat) x,n.Nodes[i]?=some x→nodeErr x=0
  ndI:∀ (i:Nat) x,n.Nodes[i]?=some x→x.In.Nodup
  ndO:∀ (i:Nat) x,n.Nodes[i]?=some x→x.Out.Nodup
  inn:∀ (i:Nat) x,n.Nodes[i]?=some x→∀ r∈x.In,0≤r∧r<n.Rings∧∃ e,l[r.toNat]?=some e∧e.dst=i
  out:∀ (i:Nat) x,n.Nodes[i]?=some x→∀ r∈x.Out,0≤r∧r<n.Rings∧∃ e,l[r.toNat]?=some e∧e.src=i
  sink:(n.Nodes.filter (fun x=>decide (x.Kind=8))).length=1
theorem lookN_ok {n:Net} {l:List Ends} (h:lookN n=.inr l):NetL n l:=by
  unfold lookN at h
  split at h
  · cases h
  · rename_i h1
    split at h
    · cases h
    · rename_i h2
      split at h
      · cases h
      · rename_i s l' hn
        split at h
        · cases h
        · rename_i hany
          split at h
          · cases h
          · rename_i hs
            cases h
            have hst:=Looked.start n.Nodes n.Rings.toNat
            rw [Int.toNat_of_nonneg (by omega)] at hst
            obtain ⟨a,b⟩:=nodesN_ok n.Nodes n.Rings n.Nodes 0 0 _ s l (by simp) hst hn
            have hpos:∀ (j:Nat) e,l[j]?=some e→¬ e.src<0∧¬ e.dst<0:=fun j e he=>by
              have hm:=List.mem_of_getElem? he
              simp only [List.any_eq_true,not_exists,not_and] at hany
              have:=hany e hm
              simp at this;omega
            refine ⟨by omega,by omega,by omega,by omega,by omega,by omega,a.len,fun j e he=>?_,fun j e he=>?_,fun i x hx=>(a.node i x (List.getElem?_eq_some_iff.1 hx).1 hx).1,fun i x hx=>(a.node i x (List.getElem?_eq_some_iff.1 hx).1 hx).2.1,fun i x hx=>(a.node i x (List.getElem?_eq_some_iff.1 hx).1 hx).2.2.1,fun i x hx=>(a.node i x (List.getElem?_eq_some_iff.1 hx).1 hx).2.2.2.1,fun i x hx=>(a.node i x (List.getElem?_eq_some_iff.1 hx).1 hx).2.2.2.2,by omega⟩
            · rcases a.src j e he with h3 | ⟨i,y,_,h4⟩
              · exact absurd h3 (hpos j e he).1
              · exact ⟨i,y,h4⟩
            · rcases a.dst j e he with h3 | ⟨i,y,_,h4⟩
              · exact absurd h3 (hpos j e he).2
              · exact ⟨i,y,h4⟩
end Go.Proofs.YtoelnjpolhamfaaGreatDoor
namespace Go.Proofs.YtoelnjpolhamfaaGreatDoor
set_option linter.unusedVariables false
set_option linter.unusedSimpArgs false
def firstN (ok:Nat→Bool):Nat→Nat→Option Nat
  | 0,_=>none
  | m+1,k=>if ok k then some k else firstN ok m (k+1)
theorem firstN_some {ok:Nat→Bool}:∀ {m k i:Nat},firstN ok m k=some i→k≤i∧i<k+m∧ok i=true
  | 0,k,i,h=>by cases h
  | m+1,k,i,h=>by
    unfold firstN at h
    split at h
    · rename_i hk;cases h;exact ⟨by omega,by omega,hk⟩
    · obtain ⟨a,b,c⟩:=firstN_some h;exact ⟨by omega,by omega,c⟩
def fedN (l:List Ends) (out:List Nat) (x:Node):Bool:=x.In.all fun r=>match l[r.toNat]? with | some e=>out.contains e.src.toNat | none=>false
def okN (l:List Ends) (out:List Nat) (ns:List Node) (i:Nat):Bool:=!(out.contains i) && (match ns[i]? with | some x=>fedN l out x | none=>false)
def ordN (l:List Ends) (ns:List Node):Nat→List Nat→Option (List Nat)
  | 0,out=>some out
  | m+1,out=>match firstN (okN l out ns) ns.length 0 with
    | none=>none
    | some i=>ordN l ns m (out++[i])
def netR (n:Net):List Int × Int:=match lookN n with
  | .inl e=>([],e)
  | .inr l=>match ordN l n.Nodes n.Nodes.length [] with
    | none=>([],7)
    | some out=>(out.map (fun i:Nat=>(i:Int)),0)
def doneL (N:Nat) (out:List Nat):List Bool:=(List.range N).map fun i=>out.contains i
theorem doneL_get {N:Nat} {out:List Nat} {i:Nat} (h:i<N):(doneL N out)[i]?=some (out.contains i):=by
  unfold doneL;rw [List.getElem?_map,List.getElem?_range h];rfl
theorem doneL_len {N:Nat} {out:List Nat}:(doneL N out).length=N:=by simp [doneL]
theorem doneL_set {N:Nat} {out:List Nat} {i:Nat} (h:i<N):(doneL N out).set i true=doneL N (out++[i]):=by
  apply List.ext_getElem?
  intro j
  rw [List.getElem?_set,doneL_len]
  by_cases hj:j<N
  · rw [doneL_get hj]
    by_cases hij:i=j
    · subst hij;rw [if_pos rfl,if_pos h,doneL_get h];simp
    · rw [if_neg hij,doneL_get hj]
      have:¬ j=i:=fun e=>hij e.symm
      simp [this]
  · rw [List.getElem?_eq_none (by rw [doneL_len];omega),List.getElem?_eq_none (by rw [doneL_len];omega),if_neg (by omega)]
theorem doneL_nil (N:Nat):List.replicate N false=doneL N []:=by
  apply List.ext_getElem?
  intro j
  rw [List.getElem?_replicate]
  by_cases hj:j<N
  · rw [if_pos hj,doneL_get hj];rfl
  · rw [if_neg hj,List.getElem?_eq_none (by rw [doneL_len];omega)]
theorem order_k1 {n:Net} (out:List Nat) (ho:out.length≤12) (z:Option Nat) (hz:∀ i,z=some i→i<n.Nodes.length):net_Order_k1 (out.map (fun i:Nat=>(i:Int))) (doneL n.Nodes.length out) (match z with | some i=>(i:Int) | none => -1)=match z with
    | some i=>some (.inl ((out++[i]).map (fun i:Nat=>(i:Int)),doneL n.Nodes.length (out++[i])))
    | none=>some (.inr ([],7)):=by
  unfold net_Order_k1
  cases z with
  | none=>rfl
  | some i =>
    have hi:=hz i rfl
    simp only
    rw [if_neg (by rw [decide_eq_true_iff];omega)]
    have e1:ixN (doneL n.Nodes.length out) (i:Int)=some i:=by unfold ixN;rw [if_pos (by rw [doneL_len];omega)];rfl
    simp only [e1,Option.bind_some,doneL_get hi]
    rw [app_ok (by simp;omega),Option.bind_some,doneL_set hi]
    simp
section
variable {n:Net} {l:List Ends} (hn:NetL n l)
include hn
theorem src_lt {j:Nat} {e:Ends} (h:l[j]?=some e):0≤e.src∧e.src.toNat<n.Nodes.length:=by
  obtain ⟨i,x,h1,h2,_⟩:=hn.src j e h
  have:=(List.getElem?_eq_some_iff.1 h1).1
  omega
theorem notfed_eq {i:Nat} {x:Node} (hx:n.Nodes[i]?=some x) (out:List Nat) {r:Int} (hr:r∈x.In) :
    net_Order_1_x523f r (doneL n.Nodes.length out) l=some (!(match l[r.toNat]? with | some e=>out.contains e.src.toNat | none=>false)):=by
  obtain ⟨h1,h2,e,h3,_⟩:=hn.inn i x hx r hr
  have hlt:=(List.getElem?_eq_some_iff.1 h3).1
  obtain ⟨h4,h5⟩:=src_lt hn h3
  have e1:ixN l r=some r.toNat:=by unfold ixN;rw [if_pos (by omega)]
  have e2:ixN (doneL n.Nodes.length out) e.src=some e.src.toNat:=by unfold ixN;rw [if_pos (by rw [doneL_len];omega)]
  unfold net_Order_1_x523f
  simp only [e1,Option.bind_some,h3,e2,doneL_get h5]
theorem notfed_any {i:Nat} {x:Node} (hx:n.Nodes[i]?=some x) (out:List Nat) (hl:x.In.length≤1099511627776):slices_ContainsFunc_int_x5d6b x.In (doneL n.Nodes.length out) l=some (!fedN l out x):=by
  unfold slices_ContainsFunc_int_x5d6b slices_IndexFunc_int_x5d6b
  have:=iter_list0 (σ:=Unit) x.In hl (fun k _=>(k:Int)) (body:=fun ss=>slices_IndexFunc_int_x5d6b_l1 x.In (doneL n.Nodes.length out) l ss)
    (fun k r _=>if (match l[r.toNat]? with | some e=>out.contains e.src.toNat | none=>false)=false then some (.inr (k:Int)) else some (.inl ())) (fun _=>some (-1)) ()
    (fun k r _ hk hlt h1 h2 h3=>by
      unfold slices_IndexFunc_int_x5d6b_l1
      rw [h2,h1,h3]
      simp only [if_true,Option.bind_some]
      rw [notfed_eq hn hx out (List.mem_of_getElem? hk),Option.bind_some]
      generalize (match l[r.toNat]? with | some e=>out.contains e.src.toNat | none=>false)=b
      cases b<;>rfl)
    (fun _ h=>by unfold slices_IndexFunc_int_x5d6b_l1;rw [h];rfl)
  simp only [Int.natCast_zero] at this
  rw [this]
  have key:∀ (ys:List Int) (k:Nat),∃ v:Int,foldE (σ:=Unit) (fun k r _=>if (match l[r.toNat]? with | some e=>out.contains e.src.toNat | none=>false)=false then some (.inr (k:Int)) else some (.inl ())) (fun _=>some (-1:Int)) k ys ()=some v ∧
      decide (v ≥ 0)=!(ys.all fun r=>match l[r.toNat]? with | some e=>out.contains e.src.toNat | none=>false):=by
    intro ys
    induction ys with
    | nil=>intro k;exact ⟨-1,rfl,by simp⟩
    | cons y ys ih =>
      intro k
      unfold foldE
      by_cases h:(match l[y.toNat]? with | some e=>out.contains e.src.toNat | none=>false)=false
      · rw [if_pos h]
        exact ⟨k,rfl,by rw [List.all_cons,h];simp⟩
      · rw [if_neg h]
        simp only
        obtain ⟨v,h1,h2⟩:=ih (k+1)
        refine ⟨v,h1,?_⟩
        rw [h2,List.all_cons]
        have h':(match l[y.toNat]? with | some e=>out.contains e.src.toNat | none=>false)=true:=by simpa using h
        rw [h'];simp
  obtain ⟨v,h1,h2⟩:=key x.In 0
  rw [h1,Option.bind_some,h2]
  rfl
theorem order_l2 (hio:∀ x∈n.Nodes,x.In.length≤1099511627776) (q:Int) (out:List Nat) (ho:out.length≤12):∀ (m k:Nat),k+m=n.Nodes.length →
    iter (fun ss:Int=>net_Order_l2 n (l,q) (out.map (fun i:Nat=>(i:Int))) (doneL n.Nodes.length out) ss) (k:Int)=match firstN (okN l out n.Nodes) m k with
      | some i=>some (.inl ((out++[i]).map (fun i:Nat=>(i:Int)),doneL n.Nodes.length (out++[i])))
      | none=>some (.inr ([],7))
  | 0,k,h=>by
    have hk:k=n.Nodes.length:=by omega
    subst hk
    have:net_Order_l2 n (l,q) (out.map (fun i:Nat=>(i:Int))) (doneL n.Nodes.length out) (n.Nodes.length:Int)=some (.inr (.inr ([],7))):=by
      unfold net_Order_l2
      rw [if_neg (by simp)]
      rfl
    rw [iter_eq,this]
    rfl
  | m + 1,k,h=>by
    have hlt:k<n.Nodes.length:=by omega
    have hn2:=hn.n2
    have hx:n.Nodes[k]?=some n.Nodes[k]:=List.getElem?_eq_getElem hlt
    have e1:ixN (doneL n.Nodes.length out) (k:Int)=some k:=by unfold ixN;rw [if_pos (by rw [doneL_len];omega)];rfl
    have hstep:net_Order_l2 n (l,q) (out.map (fun i:Nat=>(i:Int))) (doneL n.Nodes.length out) (k:Int)=if okN l out n.Nodes k then some (.inr (.inl ((out++[k]).map (fun i:Nat=>(i:Int)),doneL n.Nodes.length (out++[k])))) else some (.inl ((k+1:Nat):Int)):=by
      unfold net_Order_l2
      rw [if_pos (by simp;omega),idx_at hx,Option.bind_some]
      simp only [e1,Option.bind_some,doneL_get hlt]
      have hok:okN l out n.Nodes k=(!(out.contains k) && fedN l out n.Nodes[k]):=by unfold okN;rw [hx]
      have hin:(if (!(out.contains k))=true then (slices_ContainsFunc_int_x5d6b n.Nodes[k].In (doneL n.Nodes.length out) l).bind fun x12=>some (!x12) else some false)=some (okN l out n.Nodes k):=by
        rw [notfed_any hn hx out (hio _ (List.getElem_mem hlt)),hok]
        cases out.contains k<;>simp
      rw [hin,Option.bind_some,wrap_1 (by omega)]
      by_cases hb:okN l out n.Nodes k=true
      · rw [if_pos hb,if_pos hb]
        have:=order_k1 (n:=n) out ho (some k) (fun i e=>by cases e;exact hlt)
        simp only at this
        rw [this];rfl
      · rw [if_neg hb,if_neg hb]
    rw [iter_eq,hstep,firstN]
    by_cases hb:okN l out n.Nodes k=true
    · simp only [if_pos hb]
    · simp only [if_neg hb]
      exact order_l2 hio q out ho m (k+1) (by omega)
theorem order_l3 (hio:∀ x∈n.Nodes,x.In.length≤1099511627776) (q:Int):∀ (m:Nat) (out:List Nat),out.length+m=n.Nodes.length →
    iter (fun ss:List Int × List Bool=>net_Order_l3 n (l,q) ss.1 ss.2) (out.map (fun i:Nat=>(i:Int)),doneL n.Nodes.length out)=some (match ordN l n.Nodes m out with
      | none=>([],7)
      | some out=>(out.map (fun i:Nat=>(i:Int)),0))
  | 0,out,h=>by
    have:net_Order_l3 n (l,q) (out.map (fun i:Nat=>(i:Int))) (doneL n.Nodes.length out)=some (.inr (out.map (fun i:Nat=>(i:Int)),0)):=by
      unfold net_Order_l3
      rw [if_neg (by simp;omega)];rfl
    rw [iter_eq]
    simp only [this,ordN]
  | m + 1,out,h=>by
    have hstep:net_Order_l3 n (l,q) (out.map (fun i:Nat=>(i:Int))) (doneL n.Nodes.length out)=match firstN (okN l out n.Nodes) n.Nodes.length 0 with
      | some i=>some (.inl ((out++[i]).map (fun i:Nat=>(i:Int)),doneL n.Nodes.length (out++[i])))
      | none=>some (.inr ([],7)):=by
      unfold net_Order_l3
      rw [if_pos (by simp;omega)]
      have:=order_l2 hn hio q out (by have:=hn.n2;omega) n.Nodes.length 0 (by omega)
      simpa using this
    rw [iter_eq]
    simp only [hstep,ordN]
    cases firstN (okN l out n.Nodes) n.Nodes.length 0 with
    | none=>rfl
    | some i =>
      simp only
      exact order_l3 hio q m (out++[i]) (by simp;omega)
end
theorem takeN_ne (R i:Int):∀ (rs:List Int) (l:List Ends),takeN R i rs l≠.inl 0
  | [],l,h=>by cases h
  | r :: rs,l,h=>by
    unfold takeN at h
    split at h
    · exact absurd (Sum.inl.inj h) (by decide)
    · split at h
      · exact absurd (Sum.inl.inj h) (by decide)
      · split at h
        · exact absurd (Sum.inl.inj h) (by decide)
        · exact takeN_ne R i rs _ h
theorem giveN_ne (R i:Int):∀ (rs:List Int) (l:List Ends),giveN R i rs l≠.inl 0
  | [],l,h=>by cases h
  | r :: rs,l,h=>by
    unfold giveN at h
    split at h
    · exact absurd (Sum.inl.inj h) (by decide)
    · split at h
      · exact absurd (Sum.inl.inj h) (by decide)
      · split at h
        · exact absurd (Sum.inl.inj h) (by decide)
        · exact giveN_ne R i rs _ h
theorem oneN_ne (R:Int) (i:Nat) (x:Node) (l:List Ends):oneN R i x l≠.inl 0:=fun h=>by
  unfold oneN at h
  split at h
  · rename_i hne;exact hne (Sum.inl.inj h)
  · split at h
    · rename_i h2;cases h;exact takeN_ne _ _ _ _ h2
    · exact giveN_ne _ _ _ _ h
theorem nodesN_ne (R:Int):∀ (xs:List Node) (k s:Nat) (l:List Ends),nodesN R k xs s l≠.inl 0
  | [],k,s,l,h=>by cases h
  | x::xs,k,s,l,h=>by
    unfold nodesN at h
    split at h
    · rename_i h2;cases h;exact oneN_ne _ _ _ _ h2
    · exact nodesN_ne R xs _ _ _ h
theorem lookN_ne (n:Net):lookN n≠.inl 0:=fun h=>by
  unfold lookN at h
  split at h
  · exact absurd (Sum.inl.inj h) (by decide)
  · split at h
    · exact absurd (Sum.inl.inj h) (by decide)
    · split at h
      · rename_i h2;cases h;exact nodesN_ne _ _ _ _ _ h2
      · split at h
        · exact absurd (Sum.inl.inj h) (by decide)
        · split at h
          · exact absurd (Sum.inl.inj h) (by decide)
          · cases h
theorem net_Order_eq (n:Net) (hio:∀ x∈n.Nodes,x.In.length≤1099511627776∧x.Out.length≤1099511627776):net_Order n=some (netR n):=by
  unfold net_Order netR
  rw [net_look_eq n hio,Option.bind_some]
  cases h:lookN n with
  | inl e =>
    simp only
    have he:e≠0:=fun e0=>lookN_ne n (e0▸h)
    rw [if_pos (by simpa using he)]
  | inr l =>
    simp only
    have hn:=lookN_ok h
    rw [if_neg (by simp)]
    have hmk:mk (n.Nodes.length:Int) false=some (doneL n.Nodes.length []):=by
      unfold mk;rw [if_pos (by have:=hn.n2;omega),← doneL_nil];rfl
    rw [hmk,Option.bind_some]
    have:=order_l3 hn (fun x hx=>(hio x hx).1) 0 n.Nodes.length [] (by simp)
    simp only [List.map_nil] at this
    rw [this]
theorem net_Check_eq (n:Net) (hio:∀ x∈n.Nodes,x.In.length≤1099511627776∧x.Out.length≤1099511627776):net_Check n=some (netR n).2:=by
  unfold net_Check;rw [net_Order_eq n hio];rfl
end Go.Proofs.YtoelnjpolhamfaaGreatDoor
namespace Go.Proofs.YtoelnjpolhamfaaGreatDoor
set_option linter.unusedVariables false
set_option linter.unusedSimpArgs false
theorem mget_mset_same {κ ν:Type} [DecidableEq κ] (k:κ) (v:ν):∀ m:List (κ × ν),mget k (mset k v m)=some v
  | []=>by simp [mset,mget]
  | p :: r=>by
    unfold mset
    split
    · simp [mget]
    · rename_i h
      simp only [mget,if_neg h]
      exact mget_mset_same k v r
theorem mget_mset_ne {κ ν:Type} [DecidableEq κ] {k k':κ} (v:ν) (hk:k≠k'):∀ m:List (κ × ν),mget k (mset k' v m)=mget k m
  | []=>by simp [mset,mget,hk]
  | p :: r=>by
    unfold mset
    split
    · rename_i h
      simp only [mget,if_neg hk]
      rw [if_neg (fun e=>hk (e.trans h.symm))]
    · simp only [mget]
      rw [mget_mset_ne v hk r]
theorem mset_len_new {κ ν:Type} [DecidableEq κ] {k:κ} (v:ν):∀ {m:List (κ × ν)},mget k m=none→(mset k v m).length=m.length+1
  | [],_=>rfl
  | p :: r,h=>by
    simp only [mget] at h
    split at h
    · cases h
    · rename_i hk
      simp only [mset,if_neg hk,List.length_cons]
      rw [mset_len_new v h]
structure MRi (v:List Int) (m:List (Int × Int)):Prop where
  len:m.length=v.countP (fun x=>decide (0≤x))
  get:∀ (j:Nat) x,v[j]?=some x→mget (j:Int) m=if x<0 then none else some x
theorem MRi.set {v:List Int} {m:List (Int × Int)} (h:MRi v m) {j:Nat} {x y:Int} (hx:v[j]?=some x) (h0:x<0) (h1:0≤y):MRi (v.set j y) (mset (j:Int) y m):=by
  have hlt:=(List.getElem?_eq_some_iff.1 hx).1
  have hv:v[j]=x:=(List.getElem?_eq_some_iff.1 hx).2
  have hn:mget (j:Int) m=none:=by rw [h.get j x hx,if_pos h0]
  refine ⟨?_,fun k z hz=>?_⟩
  · rw [mset_len_new y hn,h.len,List.countP_set hlt,hv]
    have a:¬ 0≤x:=by omega
    simp [a,h1]
  · rw [List.getElem?_set] at hz
    by_cases hjk:j=k
    · subst hjk
      rw [if_pos rfl,if_pos hlt] at hz
      cases hz
      rw [mget_mset_same,if_neg (by omega)]
    · rw [if_neg hjk] at hz
      rw [mget_mset_ne y (by omega)]
      exact h.get k z hz
theorem MRi.start (R:Nat):MRi (List.replicate R (-1)) []:=by
  refine ⟨?_,fun j x hx=>?_⟩
  · simp [List.countP_replicate]
  · rw [List.getElem?_replicate] at hx
    split at hx<;>cases hx
    rfl
section
variable {n:Net} {l:List Ends} (hn:NetL n l) {fr:List (Int × Int)} (hm:MRi (l.map Ends.src) fr)
include hn hm
end
end Go.Proofs.YtoelnjpolhamfaaGreatDoor
namespace Go.Proofs.YtoelnjpolhamfaaGreatDoor
set_option linter.unusedVariables false
set_option linter.unusedSimpArgs false
theorem netR_ok {n:Net} (h:(netR n).2=0):∃ l out,lookN n=.inr l∧NetL n l∧ordN l n.Nodes n.Nodes.length []=some out∧netR n=(out.map (fun i:Nat=>(i:Int)),0):=by
  unfold netR at h ⊢
  cases hl:lookN n with
  | inl e=>rw [hl] at h;simp only at h;subst h;exact absurd hl (lookN_ne n)
  | inr l =>
    rw [hl] at h
    simp only at h ⊢
    cases ho:ordN l n.Nodes n.Nodes.length [] with
    | none=>rw [ho] at h;simp at h
    | some out=>exact ⟨l,out,rfl,lookN_ok hl,ho,rfl⟩
def itemsErr:List (List Item)→Int
  | []=>0
  | s::r=>if 20<s.length then 2 else if s.any (fun x=>decide (x.Dep≠0)) then 4 else itemsErr r
def seenErr (len:Nat):List Node→List Int→Int
  | [],_=>0
  | x::xs,seen=>if x.Kind≠1 then seenErr len xs seen else if (len:Int)≤x.A then 5 else if x.A∈seen then 6 else seenErr len xs (x.A::seen)
def srcR (n:Net) (l:List (List Item)):Int:=if (netR n).2≠0 then (netR n).2 else if 4<l.length then 2 else if itemsErr l≠0 then itemsErr l else seenErr l.length n.Nodes []
theorem items_loop (l:List (List Item)) (hl:l.length≤4) {body:Int→Option (Int ⊕ Int)} {inner:Nat→List Item→Int→Option (Int ⊕ (Int ⊕ Int))} (fin:Option Int)
    (h1:∀ (k:Nat) s,l[k]?=some s→k<l.length→body (k:Int)=if 20<s.length then some (.inr 2) else iter (inner k s) 0)
    (h2:body (l.length:Int)=fin.map Sum.inr)
    (h3:∀ (k:Nat) s (j:Nat) x,l[k]?=some s→k<l.length→s[j]?=some x→j<20→inner k s (j:Int)=if x.Dep≠0 then some (.inr (.inr 4)) else some (.inl ((j+1:Nat):Int)))
    (h4:∀ (k:Nat) s,l[k]?=some s→k<l.length→inner k s (s.length:Int)=some (.inr (.inl ((k+1:Nat):Int)))) :
    ∀ (m k:Nat),k+m=l.length→iter body (k:Int)=if itemsErr (l.drop k)≠0 then some (itemsErr (l.drop k)) else fin
  | 0,k,h=>by
    have hk:k=l.length:=by omega
    subst hk
    rw [iter_eq,h2,List.drop_length]
    simp only [itemsErr,ne_eq,not_true_eq_false,if_false]
    cases fin<;>rfl
  | m + 1,k,h=>by
    have hlt:k<l.length:=by omega
    have hs:l[k]?=some l[k]:=List.getElem?_eq_getElem hlt
    rw [iter_eq,h1 k _ hs hlt,List.drop_eq_getElem_cons hlt]
    generalize hsq:l[k]=s at *
    simp only [itemsErr]
    by_cases h20:20<s.length
    · simp [h20]
    · simp only [if_neg h20]
      have key:∀ (q j:Nat),j+q=s.length→iter (inner k s) (j:Int)=if (s.drop j).any (fun x=>decide (x.Dep≠0)) then some (.inr 4) else some (.inl ((k+1:Nat):Int)):=by
        intro q
        induction q with
        | zero =>
          intro j hj
          have hj:j=s.length:=by omega
          subst hj
          rw [iter_eq,h4 k s hs hlt,List.drop_length]
          simp
        | succ q ih =>
          intro j hj
          have hjl:j<s.length:=by omega
          rw [iter_eq,h3 k s j s[j] hs hlt (List.getElem?_eq_getElem hjl) (by omega),List.drop_eq_getElem_cons hjl,List.any_cons]
          by_cases hd:s[j].Dep≠0
          · simp [hd]
          · rw [if_neg hd]
            simp only
            rw [ih (j+1) (by omega)]
            simp [hd]
      have:=key s.length 0 (by omega)
      simp only [Int.natCast_zero,List.drop_zero] at this
      rw [this]
      by_cases hany:s.any (fun x=>decide (x.Dep≠0))=true
      · simp only [if_pos hany];simp
      · simp only [if_neg hany]
        exact items_loop l hl fin h1 h2 h3 h4 m (k+1) (by omega)
theorem seenL_get {N:Nat} (hN:N≤4) (seen:List Int) {a:Int} (h0:0≤a) (h1:a<N):((List.range N).map fun i:Nat=>decide ((i:Int)∈seen))[a.toNat]?=some (decide (a∈seen)):=by
  rw [List.getElem?_map,List.getElem?_range (by omega)]
  simp only [Option.map_some,Option.some.injEq]
  rw [Int.toNat_of_nonneg h0]
theorem seen_prog (n:Net) (l:List (List Item)) (hl:l.length≤4) (hn:n.Nodes.length≤12) (hA:∀ x∈n.Nodes,0≤x.A):∀ (m k:Nat) (seen:List Int),k+m=n.Nodes.length →
    iter (fun ss:Int × List Bool=>net_Sources_l2 n l ss.1 ss.2) ((k:Int),(List.range l.length).map fun i:Nat=>decide ((i:Int)∈seen))=some (seenErr l.length (n.Nodes.drop k) seen)
  | 0,k,seen,h=>by
    have hk:k=n.Nodes.length:=by omega
    subst hk
    have:∀ b,net_Sources_l2 n l (n.Nodes.length:Int) b=some (.inr 0):=fun b=>by unfold net_Sources_l2;rw [if_neg (by simp)];rfl
    rw [iter_eq]
    simp only [this,List.drop_length,seenErr]
  | m + 1, k, seen,h=>by
    have hlt:k<n.Nodes.length:=by omega
    have hx:n.Nodes[k]?=some n.Nodes[k]:=List.getElem?_eq_getElem hlt
    have hA':=hA _ (List.getElem_mem hlt)
    rw [List.drop_eq_getElem_cons hlt,iter_eq]
    generalize hxq:n.Nodes[k]=x at *
    simp only [seenErr]
    have hstep:net_Sources_l2 n l (k:Int) ((List.range l.length).map fun i:Nat=>decide ((i:Int)∈seen))=if x.Kind≠1 then some (.inl (((k+1:Nat):Int),(List.range l.length).map fun i:Nat=>decide ((i:Int)∈seen))) else if (l.length:Int)≤x.A then some (.inr 5) else if x.A∈seen then some (.inr 6) else some (.inl (((k+1:Nat):Int),(List.range l.length).map fun i:Nat=>decide ((i:Int)∈x.A::seen))):=by
      unfold net_Sources_l2
      rw [if_pos (by simp;omega),idx_at hx,Option.bind_some,wrap_1 (by omega)]
      by_cases h1:x.Kind≠1
      · rw [if_pos (by simpa using h1),if_pos h1]
      · rw [if_neg (by simpa using h1),if_neg h1]
        by_cases h2:(l.length:Int)≤x.A
        · rw [if_pos (by simpa using h2),if_pos h2];rfl
        · rw [if_neg (by simpa using h2),if_neg h2]
          have hix:ixN ((List.range l.length).map fun i:Nat=>decide ((i:Int)∈seen)) x.A=some x.A.toNat:=by unfold ixN;rw [if_pos (by simp;omega)]
          have hg:=seenL_get hl seen hA' (show x.A<l.length by omega)
          simp only [hix,hg,Option.bind_some]
          by_cases h3:x.A∈seen
          · simp [h3]
          · simp only [h3,decide_false,Bool.false_eq_true,if_false]
            congr 3
            apply List.ext_getElem?
            intro j
            rw [List.getElem?_set,List.getElem?_map,List.getElem?_map]
            by_cases hj:j<l.length
            · rw [List.getElem?_range hj]
              simp only [List.length_map,List.length_range,Option.map_some]
              by_cases hjx:x.A.toNat=j
              · rw [if_pos hjx,if_pos (by omega)]
                have:(j:Int)=x.A:=by omega
                simp [this]
              · rw [if_neg hjx]
                have:¬ (j:Int)=x.A:=by omega
                simp [this]
            · rw [if_neg (by omega),List.getElem?_eq_none (by simp;omega)];rfl
    rw [hstep]
    by_cases h1:x.Kind≠1
    · simp only [if_pos h1]
      exact seen_prog n l hl hn hA m (k+1) seen (by omega)
    · simp only [if_neg h1]
      by_cases h2:(l.length:Int)≤x.A
      · simp only [if_pos h2]
      · simp only [if_neg h2]
        by_cases h3:x.A∈seen
        · simp only [if_pos h3]
        · simp only [if_neg h3]
          exact seen_prog n l hl hn hA m (k+1) (x.A::seen) (by omega)
theorem nodeA {n:Net} {l:List Ends} (h:NetL n l):∀ x∈n.Nodes,0≤x.A:=fun x hx=>by
  obtain ⟨i,hi,rfl⟩:=List.mem_iff_getElem.1 hx
  have:=h.err i _ (List.getElem?_eq_getElem hi)
  unfold nodeErr at this
  split at this
  · exact absurd this (by decide)
  · split at this
    · exact absurd this (by decide)
    · split at this
      · exact absurd this (by decide)
      · rename_i hb
        unfold badA at hb
        simp at hb
        omega
theorem net_Sources_eq (n:Net) (l:List (List Item)) (hio:∀ x∈n.Nodes,x.In.length≤1099511627776∧x.Out.length≤1099511627776):net_Sources n l=some (srcR n l):=by
  unfold net_Sources srcR
  rw [net_Check_eq n hio,Option.bind_some]
  by_cases h:(netR n).2=0
  · obtain ⟨le,out,_,hl,_,_⟩:=netR_ok h
    rw [if_neg (show ¬ ((netR n).2 != 0)=true by simp [h]),if_neg (show ¬ (netR n).2≠0 by simp [h])]
    by_cases h4:4<l.length
    · rw [if_pos (by simp;omega),if_pos h4]
    · rw [if_neg (by simp;omega),if_neg h4]
      have hmk:mk (l.length:Int) false=some ((List.range l.length).map fun i:Nat=>decide ((i:Int)∈([]:List Int))):=by
        unfold mk;rw [if_pos (by omega)]
        congr 1
        simp [List.map_const']
      have hseen:=seen_prog n l (by omega) hl.n2 (nodeA hl) n.Nodes.length 0 [] (by omega)
      simp only [Int.natCast_zero,List.drop_zero] at hseen
      have:=items_loop l (by omega) (body:=fun ss=>net_Sources_l3 n l ss) (inner:=fun k s ss=>net_Sources_l1 k s ss) (some (seenErr l.length n.Nodes []))
        (fun k s hs hlt=>by
          unfold net_Sources_l3
          rw [if_pos (by simp;omega),idx_at hs,Option.bind_some]
          by_cases h20:20<s.length
          · rw [if_pos (by simp;omega),if_pos h20];rfl
          · rw [if_neg (by simp;omega),if_neg h20])
        (by
          unfold net_Sources_l3
          rw [if_neg (by simp),hmk,Option.bind_some,hseen])
        (fun k s j x hs hlt hx hj=>by
          have hjl:=(List.getElem?_eq_some_iff.1 hx).1
          unfold net_Sources_l1
          rw [if_pos (by simp;omega),idx_at hx,Option.bind_some,wrap_1 (by omega)]
          by_cases hd:x.Dep≠0
          · rw [if_pos (by simpa using hd),if_pos hd];rfl
          · rw [if_neg (by simpa using hd),if_neg hd])
        (fun k s hs hlt=>by
          unfold net_Sources_l1
          rw [if_neg (by simp),wrap_1 (by omega)];rfl) l.length 0 (by omega)
      simp only [Int.natCast_zero,List.drop_zero] at this
      rw [this]
      by_cases hi:itemsErr l≠0
      · rw [if_pos hi,if_pos hi]
      · rw [if_neg hi,if_neg hi]
  · rw [if_pos (by simpa using h),if_pos h]
def meetN:Net:=⟨[⟨1,0,[],[0]⟩,⟨1,1,[],[1]⟩,⟨6,0,[0,1],[2]⟩,⟨8,0,[2],[]⟩],3,1⟩
def twoN:List (List Item):=[[⟨1,1,0⟩],[⟨2,2,0⟩]]
theorem meet_io:∀ x∈meetN.Nodes,x.In.length≤1099511627776∧x.Out.length≤1099511627776:=by decide
theorem ordN_len (l:List Ends) (ns:List Node):∀ (m:Nat) (out o:List Nat),ordN l ns m out=some o→o.length=out.length+m
  | 0,out,o,h=>by cases h;rfl
  | m + 1,out,o,h=>by
    unfold ordN at h
    split at h
    · cases h
    · have:=ordN_len l ns m _ o h
      simp at this;omega
end Go.Proofs.YtoelnjpolhamfaaGreatDoor
namespace Go.Proofs.YtoelnjpolhamfaaGreatDoor
set_option linter.unusedVariables false
set_option linter.unusedSimpArgs false
theorem ordN_spec {l:List Ends} {ns:List Node}:∀ {m:Nat} {out o:List Nat},ordN l ns m out=some o→out.Nodup→(∀ x∈out,x<ns.length) →
    o.Nodup∧(∀ x∈o,x<ns.length)∧out <+: o∧∀ (p i:Nat),out.length≤p→o[p]?=some i→okN l (o.take p) ns i=true
  | 0,out,o,h,h1,h2=>by
    cases h
    exact ⟨h1,h2,List.prefix_refl _,fun p i hp hi=>by rw [List.getElem?_eq_none hp] at hi;cases hi⟩
  | m + 1,out,o,h,h1,h2=>by
    unfold ordN at h
    split at h
    · cases h
    · rename_i i hi
      obtain ⟨_,hlt,hok⟩:=firstN_some hi
      have hni:i ∉ out:=by
        unfold okN at hok
        rw [Bool.and_eq_true] at hok
        simpa using hok.1
      obtain ⟨a,b,c,d⟩:=ordN_spec h (List.nodup_append.2 ⟨h1,by simp,by intro x hx y hy;simp at hy;subst hy;rintro rfl;exact hni hx⟩) (fun x hx=>by
        rcases List.mem_append.1 hx with hx | hx
        · exact h2 x hx
        · simp at hx;omega)
      refine ⟨a,b,(List.prefix_append out [i]).trans c,fun p j hp hj=>?_⟩
      by_cases hpe:p=out.length
      · subst hpe
        obtain ⟨t,ht⟩:=c
        rw [← ht] at hj ⊢
        simp only [List.append_assoc,List.singleton_append,List.getElem?_append_right (Nat.le_refl _),Nat.sub_self] at hj
        simp at hj
        subst hj
        rw [List.append_assoc,List.take_left]
        exact hok
      · exact d p j (by simp;omega) hj
theorem nodup_lt_len:∀ (N:Nat) (l:List Nat),l.Nodup→(∀ x∈l,x<N)→l.length≤N
  | 0,l,_,h=>by
    cases l with
    | nil=>exact Nat.le_refl _
    | cons x l=>exact absurd (h x List.mem_cons_self) (by omega)
  | N + 1,l,hd,h=>by
    have:=nodup_lt_len N (l.erase N) (hd.erase N) (fun x hx=>by
      have h1:=(List.Nodup.mem_erase_iff hd).1 hx
      have:=h x h1.2
      omega)
    by_cases hm:N∈l
    · rw [List.length_erase_of_mem hm] at this;omega
    · rw [List.erase_of_not_mem hm] at this;omega
theorem full_mem {N:Nat} {l:List Nat} (hd:l.Nodup) (h:∀ x∈l,x<N) (hl:l.length=N) {i:Nat} (hi:i<N):i∈l:=by
  refine Classical.byContradiction fun hn=>?_
  have:=nodup_lt_len N (i::l) (List.nodup_cons.2 ⟨hn,hd⟩) (fun x hx=>by
    rcases List.mem_cons.1 hx with rfl | hx
    · exact hi
    · exact h x hx)
  simp at this;omega
structure OrdL (n:Net) (l:List Ends) (o:List Nat):Prop where
  nd:o.Nodup
  lt:∀ x∈o,x<n.Nodes.length
  len:o.length=n.Nodes.length
  fed:∀ (p i:Nat) (x:Node) (r:Int) (e:Ends),o[p]?=some i→n.Nodes[i]?=some x→r∈x.In→l[r.toNat]?=some e→e.src.toNat∈o.take p
theorem ordL_of {n:Net} {l:List Ends} {o:List Nat} (h:ordN l n.Nodes n.Nodes.length []=some o):OrdL n l o:=by
  obtain ⟨a,b,_,d⟩:=ordN_spec h List.nodup_nil (fun x hx=>by simp at hx)
  have hl:=ordN_len _ _ _ _ _ h
  refine ⟨a,b,by simpa using hl,fun p i x r e hp hx hr he=>?_⟩
  have:=d p i (Nat.zero_le _) hp
  unfold okN at this
  rw [Bool.and_eq_true,hx] at this
  have h2:=this.2
  simp only [fedN,List.all_eq_true] at h2
  have h3:=h2 r hr
  rw [he] at h3
  simpa using h3
end Go.Proofs.YtoelnjpolhamfaaGreatDoor
namespace Go.Proofs.YtoelnjpolhamfaaGreatDoor
set_option linter.unusedVariables false
set_option linter.unusedSimpArgs false
theorem bnd {α β:Type} {o:Option α} {k:α→Option β} {x:α} {r:Option β} (h:o=some x) (h2:k x=r):Option.bind o k=r:=by rw [h];exact h2
theorem vwok_ok {n:Nat} {i j:Int} (h:0≤i∧i≤j∧j≤n):vwok n i j=some ():=by unfold vwok;rw [if_pos h]
theorem cpy_app {α:Type} (a c d ys:List α) (n:Nat) (h:c.length=ys.length) (hn:ys.length≤n):cpy (a++(c++d)) a.length n ys=a++(ys++d):=by
  unfold cpy
  rw [List.take_left,List.take_of_length_le hn,Nat.min_eq_right hn,← h,← List.drop_drop,List.drop_left,List.drop_left,List.append_assoc]
theorem ins_eq (a b:List Keyed) (y:Keyed) (h:a.length+b.length≤1000000):slices_Insert_Keyed_xe708 (a.length:Int) (a++b) [y]=some (a++y::b):=by
  unfold slices_Insert_Keyed_xe708
  refine allC_of (fun C hC=>?_)
  unfold slices_Insert_Keyed_xe708_C
  have hl:(a++b).length=a.length+b.length:=List.length_append
  have h1:([y]:List Keyed).length=1:=rfl
  have w1:IntKind.i64.wrap ((((a++b).length:Nat):Int)+(([y]:List Keyed).length:Int))=((a.length+b.length+1:Nat):Int):=by rw [wrap_ok (by omega) (by omega)];omega
  have w2:IntKind.i64.wrap ((a.length:Int)+(([y]:List Keyed).length:Int))=((a.length+1:Nat):Int):=by rw [wrap_ok (by omega) (by omega)];omega
  have w3:IntKind.i64.wrap (((a.length+b.length+1:Nat):Int) - (a.length:Int))=((b.length+1:Nat):Int):=by rw [wrap_ok (by omega) (by omega)];omega
  simp only [w1,w2,w3,Int.toNat_natCast]
  refine bnd (vwok_ok (by omega)) ?_
  rw [if_neg (by simp)]
  by_cases hb:b=[]
  · subst hb
    rw [if_pos (by simp)]
    refine bnd (app_ok (by simp;omega)) ?_
    simp
  · have hbl:0<b.length:=List.length_pos_iff.2 hb
    rw [if_neg (by simp;omega)]
    by_cases hg:a.length+b.length+1 > C
    · rw [if_pos (by simp;omega)]
      refine bnd (vwok_ok (by omega)) ?_
      have hz:growz (a++b) a.length C ((b.length+1:Nat):Int) (⟨0,0⟩:Keyed)=some (a++([(⟨0,0⟩:Keyed)]++List.replicate b.length (⟨0,0⟩:Keyed))):=by
        unfold growz
        rw [if_pos (by rw [hl];omega),List.take_left,Int.toNat_natCast,List.replicate_succ];rfl
      refine bnd hz ?_
      have hzl:(a++([(⟨0,0⟩:Keyed)]++List.replicate b.length (⟨0,0⟩:Keyed))).length=a.length+(b.length+1):=by simp<;>omega
      have e1:a.length+(b.length+1) - a.length=b.length+1:=by omega
      have c1:=cpy_app a [(⟨0,0⟩:Keyed)] (List.replicate b.length (⟨0,0⟩:Keyed)) [y] (b.length+1) rfl (by simp)
      have hal:(a++([y]++List.replicate b.length (⟨0,0⟩:Keyed))).length=a.length+(b.length+1):=by simp<;>omega
      have e2:a.length+(b.length+1) - (a.length+1)=b.length:=by omega
      simp only [hzl,e1,c1,hal,e2,hl,Nat.zero_add,Nat.add_sub_cancel_left,Int.toNat_natCast]
      refine bnd (vwok_ok (by omega)) (bnd (vwok_ok (by omega)) (bnd (vwok_ok (by omega)) (bnd (vwok_ok (by omega)) (bnd (vwok_ok (by omega)) (bnd (vwok_ok (by omega)) ?_)))))
      rw [List.drop_left,List.take_length]
      have c2:=cpy_app (a++[y]) (List.replicate b.length (⟨0,0⟩:Keyed)) [] b b.length (by simp) (Nat.le_refl _)
      simp only [List.append_nil,List.length_append,List.length_singleton,List.append_assoc] at c2
      rw [c2]
      simp
    · rw [if_neg (by simp;omega)]
      have hx:roomx (a++b).length C ((a.length+b.length+1:Nat):Int)=some 1:=by
        unfold roomx
        rw [if_pos (by rw [hl];omega),hl,Int.toNat_natCast]
        congr 1;omega
      refine bnd hx ?_
      have e2:a.length+b.length+1 - (a.length+1)=b.length:=by omega
      have e3:a.length+b.length+1 - a.length=b.length+1:=by omega
      simp only [hl,Int.toNat_natCast,e2,e3]
      refine bnd (vwok_ok (by omega)) ?_
      refine bnd (show ovok [y] b.length=some () by unfold ovok;rw [if_pos (by simp;omega)]) ?_
      refine bnd (vwok_ok (by omega)) (bnd (vwok_ok (by omega)) ?_)
      have hu:cpyU (a++b) 1 (a.length+1) b.length a.length (b.length+1)=some (a++(b.take 1++b)):=by
        unfold cpyU
        rw [if_pos (by rw [hl];omega),List.drop_left,List.take_append]
        simp [List.take_of_length_le]
      refine bnd hu ?_
      have htl:(b.take 1).length=1:=by simp;omega
      have hul:(a++(b.take 1++b)).length=a.length+(b.length+1):=by rw [List.length_append,List.length_append,htl];omega
      have e1:a.length+(b.length+1) - a.length=b.length+1:=by omega
      have c1:=cpy_app a (b.take 1) b [y] (b.length+1) (by rw [htl];rfl) (by simp)
      simp only [hul,e1,c1,Int.toNat_natCast]
      refine bnd (vwok_ok (by omega)) (bnd (vwok_ok (by omega)) ?_)
      rfl
theorem cmp_eq (x:Keyed) (k:Int):stage_Step_1 x k=some (if x.Key<k then -1 else if x.Key > k then 1 else 0):=by
  unfold stage_Step_1
  by_cases h1:x.Key<k
  · simp [h1]
  · by_cases h2:x.Key > k<;>simp [h1,h2]
end Go.Proofs.YtoelnjpolhamfaaGreatDoor
namespace Go.Proofs.YtoelnjpolhamfaaGreatDoor
set_option linter.unusedVariables false
set_option linter.unusedSimpArgs false
def good (l:List Keyed) (i:Nat):Prop:=∀ x,l[i]?=some x→1≤x.N∧∀ j y,i=j+1→l[j]?=some y→y.Key<x.Key
theorem check_loop (m : Memory) (hl:m.Keys.length≤6):∀ (n k:Nat),k+n=m.Keys.length→∃ c,iter (fun ss:Int=>stage_Check_l1 m ss) (k:Int)=some c∧(c=0 ↔ (∀ i,k≤i→i<m.Keys.length→good m.Keys i)∧0≤m.Dep)
  | 0,k,h=>by
    have hk:k=m.Keys.length:=by omega
    subst hk
    by_cases hd:m.Dep<0
    · refine ⟨3,?_,by constructor<;>intro h<;>omega⟩
      rw [iter_eq]
      unfold stage_Check_l1
      simp [hd]
    · refine ⟨0,?_,?_⟩
      · rw [iter_eq]
        unfold stage_Check_l1
        simp [hd]
      · exact ⟨fun _=>⟨fun i h1 h2=>by omega,by omega⟩,fun _=>rfl⟩
  | n + 1, k, h => by
    have hk:k<m.Keys.length:=by omega
    have hx:m.Keys[k]?=some m.Keys[k]:=List.getElem?_eq_getElem hk
    generalize hxv:m.Keys[k]=x at hx
    have hkw:decide ((k:Int)<(m.Keys.length:Int))=true:=by simp;omega
    have hw:IntKind.i64.wrap ((k:Int)+1)=((k+1:Nat):Int):=wrap_1 (by omega)
    by_cases hg:good m.Keys k
    · obtain ⟨hg1,hg2⟩:=hg x hx
      obtain ⟨c,h1,h2⟩:=check_loop m hl n (k+1) (by omega)
      refine ⟨c,?_,?_⟩
      · rw [iter_eq]
        have e:stage_Check_l1 m (k:Int)=some (.inl ((k+1:Nat):Int)):=by
          unfold stage_Check_l1
          rw [if_pos hkw,idx_at hx,Option.bind_some,if_neg (show ¬ decide (x.N<1)=true by simp;omega)]
          cases k with
          | zero=>simp [show IntKind.i64.wrap 1=1 from rfl]
          | succ j =>
            have hy:m.Keys[j]?=some m.Keys[j]:=List.getElem?_eq_getElem (by omega)
            have:=hg2 j _ rfl hy
            rw [if_pos (by simp),wrap_ok (by omega) (by omega),show ((j+1:Nat):Int) - 1=(j:Int) by omega,idx_at hy,Option.bind_some,Option.bind_some,if_neg (by simp;omega),hw]
        simp only [e]
        exact h1
      · rw [h2]
        constructor
        · rintro ⟨h3,h4⟩
          exact ⟨fun i hi hi2=>by
            by_cases e:i=k
            · subst e;exact hg
            · exact h3 i (by omega) hi2,h4⟩
        · rintro ⟨h3,h4⟩
          exact ⟨fun i hi hi2=>h3 i (by omega) hi2,h4⟩
    · refine ⟨4, ?_, by constructor
                        · intro h;omega
                        · rintro ⟨h3,_⟩;exact absurd (h3 k (Nat.le_refl _) hk) hg⟩
      rw [iter_eq]
      have e:stage_Check_l1 m (k:Int)=some (.inr 4):=by
        unfold stage_Check_l1
        rw [if_pos hkw,idx_at hx,Option.bind_some]
        by_cases hn:x.N<1
        · rw [if_pos (show decide (x.N<1)=true by simpa using hn)];rfl
        · rw [if_neg (show ¬ decide (x.N<1)=true by simpa using hn)]
          cases k with
          | zero=>exact absurd (fun y hy=>by rw [hx] at hy;cases hy;exact ⟨by omega,fun j z hj=>by omega⟩) hg
          | succ j =>
            have hy:m.Keys[j]?=some m.Keys[j]:=List.getElem?_eq_getElem (by omega)
            rw [if_pos (by simp),wrap_ok (by omega) (by omega),show ((j+1:Nat):Int) - 1=(j:Int) by omega,idx_at hy,Option.bind_some,Option.bind_some]
            have:x.Key≤(m.Keys[j]).Key:=by
              apply Int.not_lt.1
              intro hlt
              exact hg (fun z hz=>by
                rw [hx] at hz;cases hz
                exact ⟨by omega,fun i y hi hy2=>by
                  have:i=j:=by omega
                  subst this
                  rw [hy] at hy2;cases hy2;exact hlt⟩)
            rw [if_pos (by simpa using this)];rfl
      simp only [e]
structure okM (m:Memory):Prop where
  len:m.Keys.length≤6
  n:∀ x,x∈m.Keys→1≤x.N
  lt:∀ (i j:Nat) x y,i<j→m.Keys[i]?=some x→m.Keys[j]?=some y→x.Key<y.Key
  dep:0≤m.Dep
theorem good_lt {l:List Keyed} (h:∀ i,i<l.length→good l i):∀ (n i j:Nat) x y,j=i+1+n→l[i]?=some x→l[j]?=some y→x.Key<y.Key
  | 0,i,j,x,y,e,hx,hy=>(h j (List.getElem?_eq_some_iff.1 hy).1 y hy).2 i x (by omega) hx
  | n+1,i,j,x,y,e,hx,hy=>by
    have hj:=(List.getElem?_eq_some_iff.1 hy).1
    have hz:l[i+1+n]?=some l[i+1+n]:=List.getElem?_eq_getElem (by omega)
    have h1:=good_lt h n i (i+1+n) x _ rfl hx hz
    have h2:=(h j hj y hy).2 (i+1+n) _ (by omega) hz
    omega
theorem Check_iff (m:Memory):∃ c,stage_Check m=some c∧(c=0 ↔ okM m):=by
  unfold stage_Check
  by_cases hl:m.Keys.length≤6
  · rw [if_neg (by simp;omega)]
    obtain ⟨c,h1,h2⟩:=check_loop m hl m.Keys.length 0 (by omega)
    refine ⟨c,h1,h2.trans ⟨fun ⟨h3,h4⟩=>⟨hl,fun x hx=>?_,fun i j x y hij hx hy=>?_,h4⟩,fun h=>⟨fun i _ hi x hx=>⟨h.n x (List.mem_of_getElem? hx),fun j y e hy=>h.lt j i y x (by omega) hy hx⟩,h.dep⟩⟩⟩
    · obtain ⟨i,hi⟩:=List.getElem?_of_mem hx
      exact (h3 i (Nat.zero_le _) (List.getElem?_eq_some_iff.1 hi).1 x hi).1
    · exact good_lt (fun i hi=>h3 i (Nat.zero_le _) hi) (j - i - 1) i j x y (by omega) hx hy
  · rw [if_pos (by simp;omega)]
    exact ⟨2,rfl,fun h=>by omega,fun h=>absurd h.len hl⟩
theorem search_at (l:List Keyed) (key:Int) (hl:l.length≤6) (hs:∀ (i j:Nat) x y,i<j→l[i]?=some x→l[j]?=some y→x.Key<y.Key) :
    ∃ (i:Nat) (b:Bool),slices_BinarySearchFunc_Keyed_x37fe l key=some ((i:Int),b)∧i≤l.length∧(∀ t x,t<i→l[t]?=some x→x.Key<key)∧(∀ t x,i≤t→l[t]?=some x→key≤x.Key)∧(b=true ↔ ∃ x,l[i]?=some x∧x.Key=key):=by
  unfold slices_BinarySearchFunc_Keyed_x37fe
  obtain ⟨r,h1,i,h2,h3,h4,h5,h6⟩:=iter_inv (body:=fun ss:Int × Int=>slices_BinarySearchFunc_Keyed_x37fe_l1 l key ss.1 ss.2)
    (fun s=>(0≤s.1∧s.1≤s.2∧s.2≤(l.length:Int))∧(∀ (t:Nat) (x:Keyed),(t:Int)<s.1→l[t]?=some x→x.Key<key)∧(∀ (t:Nat) (x:Keyed),s.2≤(t:Int)→l[t]?=some x→key≤x.Key)) (fun s=>(s.2 - s.1).toNat)
    (fun r=>∃ i:Nat,r.1=(i:Int)∧i≤l.length∧(∀ t x,t<i→l[t]?=some x→x.Key<key)∧(∀ t x,i≤t→l[t]?=some x→key≤x.Key)∧(r.2=true ↔ ∃ x,l[i]?=some x∧x.Key=key)) (fun s hs0=>by
      obtain ⟨s1,s2⟩:=s
      simp only at hs0 ⊢
      obtain ⟨hb,ha,hc⟩:=hs0
      unfold slices_BinarySearchFunc_Keyed_x37fe_l1
      by_cases hlt:s1<s2
      · rw [if_pos (by simpa using hlt)]
        have e1:shr .u64 (IntKind.u64.wrap (IntKind.i64.wrap (s1+s2))) 1=some ((s1+s2) / 2):=by
          rw [wrap_ok (by omega) (by omega),IntWalk.u64_in _ ⟨by omega,by omega⟩]
          unfold shr
          rw [if_pos (by decide)]
          congr 1
          show (s1+s2).fdiv 2=_
          rw [Int.fdiv_eq_ediv_of_nonneg _ (by decide)]
        rw [e1,Option.bind_some]
        obtain ⟨h,hh⟩:∃ h:Nat,(s1+s2) / 2=(h:Int):=Int.eq_ofNat_of_zero_le (by omega)
        have hhl:h<l.length:=by omega
        have hx:l[h]?=some l[h]:=List.getElem?_eq_getElem hhl
        generalize hxv:l[h]=x at hx
        have e2:IntKind.i64.wrap (h:Int)=(h:Int):=wrap_ok (by omega) (by omega)
        have e4:IntKind.i64.wrap ((h:Int)+1)=(h:Int)+1:=wrap_ok (by omega) (by omega)
        rw [hh,e2,idx_at hx,Option.bind_some,cmp_eq,Option.bind_some,e4]
        refine .inl ?_
        by_cases hk:x.Key<key
        · rw [if_pos hk]
          refine ⟨((h:Int)+1,s2),rfl,⟨⟨by show 0≤(h:Int)+1;omega,by show (h:Int)+1≤s2;omega,hb.2.2⟩,fun t y ht hy=>?_,hc⟩,by show (s2 - ((h:Int)+1)).toNat<(s2 - s1).toNat;omega⟩
          have ht:(t:Int)<(h:Int)+1:=ht
          by_cases e:t=h
          · subst e;rw [hx] at hy;cases hy;exact hk
          · have:=hs t h y x (by omega) hy hx;omega
        · have e5:(if decide ((if x.Key<key then (-1:Int) else if x.Key > key then 1 else 0)<0)=true then (some (.inl ((h:Int)+1,s2)):Option ((Int × Int) ⊕ (Int × Bool))) else some (.inl (s1,(h:Int))))=some (.inl (s1,(h:Int))):=by
            rw [if_neg hk]
            split<;>rfl
          refine ⟨(s1,(h:Int)),e5,⟨⟨hb.1,by show s1≤(h:Int);omega,by show (h:Int)≤_;omega⟩,ha,fun t y ht hy=>?_⟩,by show ((h:Int) - s1).toNat<(s2 - s1).toNat;omega⟩
          have ht:(h:Int)≤(t:Int):=ht
          by_cases e:t=h
          · subst e;rw [hx] at hy;cases hy;omega
          · have:=hs h t x y (by omega) hx hy;omega
      · rw [if_neg (by simpa using hlt)]
        refine .inr ?_
        obtain ⟨k,rfl⟩:=Int.eq_ofNat_of_zero_le hb.1
        have hk2:s2=(k:Int):=by omega
        subst hk2
        by_cases hk:k<l.length
        · have hx:l[k]?=some l[k]:=List.getElem?_eq_getElem hk
          generalize hxv:l[k]=x at hx
          rw [if_pos (by simp;omega),idx_at hx,Option.bind_some,cmp_eq]
          refine ⟨_,rfl,k,rfl,by omega,fun t y ht hy=>ha t y (by omega) hy,fun t y ht hy=>hc t y (by omega) hy,?_⟩
          have:=hc k x (by omega) hx
          simp only [hx,Option.some.injEq,exists_eq_left']
          by_cases e:x.Key=key
          · simp [e]
          · have h1:¬ x.Key<key:=by omega
            have h2:x.Key > key:=by omega
            simp [h1,h2,e]
        · rw [if_neg (by simp;omega)]
          refine ⟨_,rfl,k,rfl,by omega,fun t y ht hy=>ha t y (by omega) hy,fun t y ht hy=>hc t y (by omega) hy,?_⟩
          rw [List.getElem?_eq_none (by omega)]
          simp) _ (0,(l.length:Int)) (Nat.le_refl _) ⟨by simp,fun t x ht=>by
            have ht:(t:Int)<0:=ht
            omega,fun t x ht hx=>by
            have ht:(l.length:Int)≤(t:Int):=ht
            have:=(List.getElem?_eq_some_iff.1 hx).1
            omega⟩
  obtain ⟨r1,r2⟩:=r
  simp only at h2
  subst h2
  exact ⟨i,r2,h1,h3,h4,h5,h6⟩
end Go.Proofs.YtoelnjpolhamfaaGreatDoor
namespace Go.Proofs.YtoelnjpolhamfaaGreatDoor
set_option linter.unusedVariables false
set_option linter.unusedSimpArgs false
inductive StepR (k f:Int) (m:Memory) (x:Item):Memory × Item × Int→Prop
  | err (e:Int) (h:e≠0):StepR k f m x (⟨0,[],0⟩,⟨0,0,0⟩,e)
  | same (s d:Int) (y:Item) (hd:0≤d):StepR k f m x (⟨s,m.Keys,d⟩,y,0)
  | inc (i:Nat) (v:Keyed) (d:Int) (y:Item) (hi:m.Keys[i]?=some v) (hd:0≤d):StepR k f m x (⟨m.Sum,m.Keys.set i ⟨v.Key,IntKind.i64.wrap (v.N+1)⟩,d⟩,y,0)
  | ins (i:Nat) (d:Int) (y:Item) (hd:0≤d) (hl:m.Keys.length<6) (hi:i≤m.Keys.length) (h1:∀ t z,t<i→m.Keys[t]?=some z→z.Key<x.Key) (h2:∀ t z,i≤t→m.Keys[t]?=some z→x.Key<z.Key):StepR k f m x (⟨m.Sum,m.Keys.take i++⟨x.Key,1⟩::m.Keys.drop i,d⟩,y,0)
end Go.Proofs.YtoelnjpolhamfaaGreatDoor
namespace Go.Proofs.YtoelnjpolhamfaaGreatDoor
set_option linter.unusedVariables false
set_option linter.unusedSimpArgs false
theorem lt_of_pw {l:List Keyed} (h:l.Pairwise (fun a b=>a.Key<b.Key)):∀ (i j:Nat) x y,i<j→l[i]?=some x→l[j]?=some y→x.Key<y.Key:=fun i j x y hij hx hy=>by
  obtain ⟨hi,rfl⟩:=List.getElem?_eq_some_iff.1 hx
  obtain ⟨hj,rfl⟩:=List.getElem?_eq_some_iff.1 hy
  exact List.pairwise_iff_getElem.1 h i j hi hj hij
theorem ins_pw {l:List Keyed} {i:Nat} {key:Int} (hlt:∀ (i j:Nat) x y,i<j→l[i]?=some x→l[j]?=some y→x.Key<y.Key) (h1:∀ t z,t<i→l[t]?=some z→z.Key<key) (h2:∀ t z,i≤t→l[t]?=some z→key<z.Key) :
    (l.take i++(⟨key,1⟩:Keyed)::l.drop i).Pairwise (fun a b=>a.Key<b.Key):=by
  rw [List.pairwise_append,List.pairwise_cons]
  have hpw:l.Pairwise (fun a b=>a.Key<b.Key):=by
    rw [List.pairwise_iff_getElem]
    exact fun a b ha hb hab=>hlt a b _ _ hab (List.getElem?_eq_getElem ha) (List.getElem?_eq_getElem hb)
  refine ⟨hpw.sublist (List.take_sublist _ _),⟨fun z hz=>?_,hpw.sublist (List.drop_sublist _ _)⟩,fun a ha b hb=>?_⟩
  · obtain ⟨t,ht⟩:=List.getElem?_of_mem hz
    rw [List.getElem?_drop] at ht
    exact h2 (i+t) z (by omega) ht
  · obtain ⟨t,ht⟩:=List.getElem?_of_mem ha
    rw [List.getElem?_take] at ht
    split at ht
    · rename_i hti
      have h7:=h1 t a hti ht
      rcases List.mem_cons.1 hb with rfl | hb
      · exact h7
      · obtain ⟨t2,ht2⟩:=List.getElem?_of_mem hb
        rw [List.getElem?_drop] at ht2
        have h8:=h2 (i+t2) b (by omega) ht2
        omega
    · cases ht
theorem stepR_ok {k f:Int} {m:Memory} {x:Item} {R:Memory × Item × Int} (h:StepR k f m x R) (ok:okM m) (B:Int) (h0:0≤B) (hB:∀ y,y∈m.Keys→y.N≤B) (hB2:B<4611686018427387904) (hR:R.2.2=0):okM R.1∧∀ y,y∈R.1.Keys→y.N≤B+1:=by
  cases h with
  | err e he=>exact absurd hR he
  | same s d y hd=>exact ⟨⟨ok.len,ok.n,ok.lt,hd⟩,fun y hy=>by have:=hB y hy;omega⟩
  | inc i v d y hi hd =>
    have hv:=List.mem_of_getElem? hi
    have hv1:=ok.n v hv
    have hv2:=hB v hv
    have hw:IntKind.i64.wrap (v.N+1)=v.N+1:=wrap_ok (by omega) (by omega)
    have hget:∀ (a:Nat) (z:Keyed),(m.Keys.set i ⟨v.Key,IntKind.i64.wrap (v.N+1)⟩)[a]?=some z→∃ z',m.Keys[a]?=some z'∧z'.Key=z.Key:=fun a z hz=>by
      rw [List.getElem?_set] at hz
      split at hz
      · rename_i e
        subst e
        split at hz
        · cases hz;exact ⟨v,hi,rfl⟩
        · cases hz
      · exact ⟨z,hz,rfl⟩
    refine ⟨⟨by simpa using ok.len,fun z hz=>?_,fun a b z1 z2 hab hz1 hz2=>?_,hd⟩,fun z hz=>?_⟩
    · rcases List.mem_or_eq_of_mem_set hz with h1 | h1
      · exact ok.n z h1
      · subst h1;rw [hw];show 1≤v.N+1;omega
    · obtain ⟨w1,e1,e2⟩:=hget a z1 hz1
      obtain ⟨w2,e3,e4⟩:=hget b z2 hz2
      have:=ok.lt a b w1 w2 hab e1 e3
      omega
    · rcases List.mem_or_eq_of_mem_set hz with h1 | h1
      · have:=hB z h1;omega
      · subst h1;rw [hw];show v.N+1≤B+1;omega
  | ins i d y hd hl hi h1 h2 =>
    have hm:∀ z,z∈m.Keys.take i++(⟨x.Key,1⟩:Keyed)::m.Keys.drop i→z∈m.Keys∨z.N=1:=fun z hz=>by
      rcases List.mem_append.1 hz with h3 | h3
      · exact .inl (List.mem_of_mem_take h3)
      · rcases List.mem_cons.1 h3 with h3 | h3
        · exact .inr (by rw [h3])
        · exact .inl (List.mem_of_mem_drop h3)
    refine ⟨⟨by simp;omega,fun z hz=>?_,lt_of_pw (ins_pw ok.lt h1 h2),hd⟩,fun z hz=>?_⟩
    · rcases hm z hz with h3 | h3
      · exact ok.n z h3
      · omega
    · rcases hm z hz with h3 | h3
      · have:=hB z h3;omega
      · omega
end Go.Proofs.YtoelnjpolhamfaaGreatDoor
namespace Go.Proofs.YtoelnjpolhamfaaGreatDoor
set_option linter.unusedVariables false
set_option linter.unusedSimpArgs false
def maxD (a b:Int):Int:=if b > a then b else a
def mapP (f:Int) (x:Item):Int:=if f=0 then IntKind.i64.wrap (x.Val+1) else if f=1 then IntKind.i64.wrap (2*x.Val) else if f=2 then IntKind.i64.wrap (0 - x.Val) else IntKind.i64.wrap (x.Val+x.Key)
def lowN (key:Int):List Keyed→Nat
  | []=>0
  | y::ys=>if y.Key<key then lowN key ys+1 else 0
def newK (key:Int) (l:List Keyed):List Keyed × Int:=if l.length=6 then (l,0) else (l.take (lowN key l)++⟨key,1⟩::l.drop (lowN key l),1)
def cntP (key:Int) (l:List Keyed):List Keyed × Int :=
  match l[lowN key l]? with
  | some y=>if y.Key=key then (l.set (lowN key l) ⟨y.Key,IntKind.i64.wrap (y.N+1)⟩,IntKind.i64.wrap (y.N+1)) else newK key l
  | none=>newK key l
def stepP (k f:Int) (m:Memory) (x:Item):Memory × Item :=
  if k=2 then (m,⟨x.Key,mapP f x,x.Dep⟩)
  else if k=3 then (⟨IntKind.i64.wrap (m.Sum+x.Val),m.Keys,maxD m.Dep x.Dep⟩,⟨x.Key,IntKind.i64.wrap (m.Sum+x.Val),maxD m.Dep x.Dep⟩)
  else if k=4 then (⟨m.Sum,(cntP x.Key m.Keys).1,maxD m.Dep x.Dep⟩,⟨x.Key,(cntP x.Key m.Keys).2,maxD m.Dep x.Dep⟩)
  else (m,x)
def kindOk (k f:Int):Prop:=1≤k∧k≤8∧(k=2→0≤f∧f≤3)
theorem lowN_is {key:Int}:∀ {l:List Keyed} {i:Nat},i≤l.length→(∀ t x,t<i→l[t]?=some x→x.Key<key)→(∀ t x,i≤t→l[t]?=some x→key≤x.Key)→lowN key l=i
  | [],i,hi,_,_=>by simp at hi;subst hi;rfl
  | y::ys,0,hi,h1,h2=>by
    have:=h2 0 y (Nat.le_refl _) rfl
    unfold lowN;rw [if_neg (by omega)]
  | y::ys,i+1,hi,h1,h2=>by
    have:=h1 0 y (by omega) rfl
    unfold lowN
    rw [if_pos this,lowN_is (i:=i) (by simpa using hi) (fun t x ht hx=>h1 (t+1) x (by omega) (by simpa using hx)) (fun t x ht hx=>h2 (t+1) x (by omega) (by simpa using hx))]
theorem step_PR (k f:Int) (m:Memory) (x:Item) (ok:okM m) (hx:0≤x.Dep) (hk:kindOk k f):stage_Step k f m x=some ((stepP k f m x).1,(stepP k f m x).2,0)∧StepR k f m x ((stepP k f m x).1,(stepP k f m x).2,0):=by
  obtain ⟨c,hc,hc2⟩:=Check_iff m
  have hc0:=hc2.2 ok
  subst hc0
  have hap:app [] m.Keys=some m.Keys:=by rw [app_ok (by have:=ok.len;simp;omega)];rfl
  have hcl:slices_Clone_Keyed m.Keys=some m.Keys:=hap
  have hco:stage_Copy m=some m:=by unfold stage_Copy;rw [hcl];rfl
  have hnd:¬ decide (x.Dep<0)=true:=by simpa using hx
  have hdp:0≤maxD m.Dep x.Dep:=by have:=ok.dep;unfold maxD;split<;>omega
  unfold stage_Step
  rw [hc,Option.bind_some,if_neg (by simp),if_neg hnd,hco,Option.bind_some]
  by_cases k2:k=2
  · subst k2
    rw [if_pos (show ((2:Int)==2)=true from rfl)]
    have hf:=hk.2.2 rfl
    rw [if_neg (by simp;omega)]
    have:f=0∨f=1∨f=2∨f=3:=by omega
    rcases this with rfl | rfl | rfl | rfl<;>exact ⟨rfl,.same _ _ _ ok.dep⟩
  · have n2 : ¬ (k==2)=true:=by simpa using k2
    rw [if_neg n2]
    by_cases k3:k=3
    · subst k3
      rw [if_pos (show ((3:Int)==3)=true from rfl)]
      exact ⟨rfl,.same _ _ _ hdp⟩
    · have n3 : ¬ (k==3)=true:=by simpa using k3
      rw [if_neg n3]
      by_cases k4:k=4
      · subst k4
        rw [if_pos (show ((4:Int)==4)=true from rfl)]
        obtain ⟨i,b,hs,hi,h1,h2,h3⟩:=search_at m.Keys x.Key ok.len ok.lt
        have hlow:=lowN_is hi h1 h2
        have hP:stepP 4 f m x=(⟨m.Sum,(cntP x.Key m.Keys).1,maxD m.Dep x.Dep⟩,⟨x.Key,(cntP x.Key m.Keys).2,maxD m.Dep x.Dep⟩):=rfl
        rw [hs,Option.bind_some,hP]
        cases b with
        | true =>
          obtain ⟨v,hv,hvk⟩:=h3.1 rfl
          have hil:=(List.getElem?_eq_some_iff.1 hv).1
          have hcp:cntP x.Key m.Keys=(m.Keys.set i ⟨v.Key,IntKind.i64.wrap (v.N+1)⟩,IntKind.i64.wrap (v.N+1)):=by
            unfold cntP
            rw [hlow,hv]
            simp only
            rw [if_pos hvk]
          rw [if_neg (by simp),if_neg (by simp),hcp]
          have hset:i<(m.Keys.set i (⟨v.Key,IntKind.i64.wrap (v.N+1)⟩:Keyed)).length:=by simpa using hil
          have hsg:(m.Keys.set i (⟨v.Key,IntKind.i64.wrap (v.N+1)⟩:Keyed))[i]?=some ⟨v.Key,IntKind.i64.wrap (v.N+1)⟩:=by simp [hil]
          refine ⟨?_,.inc i v _ _ hv hdp⟩
          unfold stage_Step_k1
          simp only [ixN_at hil,Option.bind_some,hv,ixN_at hset,hsg]
          rfl
        | false =>
          have hcn:cntP x.Key m.Keys=newK x.Key m.Keys:=by
            unfold cntP
            rw [hlow]
            cases hv:m.Keys[i]? with
            | none=>rfl
            | some v =>
              simp only
              rw [if_neg (fun e=>absurd (h3.2 ⟨v,hv,e⟩) (by decide))]
          rw [hcn]
          by_cases h6:m.Keys.length=6
          · rw [if_pos (by simp;omega)]
            unfold newK
            rw [if_pos h6];exact ⟨rfl,.same _ _ _ hdp⟩
          · have hl6:m.Keys.length<6:=by have:=ok.len;omega
            rw [if_neg (by simp;omega),if_pos (by simp)]
            have hin:=ins_eq (m.Keys.take i) (m.Keys.drop i) (⟨x.Key,0⟩:Keyed) (by simp;omega)
            have hti:(m.Keys.take i).length=i:=by simp;omega
            rw [List.take_append_drop,hti] at hin
            have hset:∀ a b:Keyed,(m.Keys.take i++a::m.Keys.drop i).set i b=m.Keys.take i++b::m.Keys.drop i:=fun a b=>by
              rw [List.set_append_right _ _ (by omega),hti,Nat.sub_self];rfl
            have hget:∀ a:Keyed,(m.Keys.take i++a::m.Keys.drop i)[i]?=some a:=fun a=>by
              rw [List.getElem?_append_right (by omega),hti,Nat.sub_self];rfl
            have hlen:∀ a:Keyed,i<(m.Keys.take i++a::m.Keys.drop i).length:=fun a=>by simp;omega
            have hw:IntKind.i64.wrap ((0:Int)+1)=1:=rfl
            have hnf:∀ t z,i≤t→m.Keys[t]?=some z→x.Key<z.Key:=fun t z ht hz=>by
              have h4:=h2 t z ht hz
              rcases Int.lt_or_eq_of_le h4 with h5 | h5
              · exact h5
              · exfalso
                by_cases e:t=i
                · subst e;exact absurd (h3.2 ⟨z,hz,h5.symm⟩) (by decide)
                · have hil:i<m.Keys.length:=by have:=(List.getElem?_eq_some_iff.1 hz).1;omega
                  have hy:m.Keys[i]?=some m.Keys[i]:=List.getElem?_eq_getElem hil
                  have h6:=h2 i _ (Nat.le_refl _) hy
                  have h7:=ok.lt i t _ z (by omega) hy hz
                  omega
            have hnk:newK x.Key m.Keys=(m.Keys.take i++⟨x.Key,1⟩::m.Keys.drop i,1):=by unfold newK;rw [if_neg h6,hlow]
            rw [hnk]
            refine ⟨?_,.ins i _ _ hdp hl6 hi h1 hnf⟩
            simp only
            rw [hin,Option.bind_some]
            unfold stage_Step_k1
            simp only [ixN_at (hlen _),Option.bind_some,hget,hset,hw]
            rfl
      · have n4:¬ (k==4)=true:=by simpa using k4
        rw [if_neg n4]
        have hP:stepP k f m x=(m,x):=by unfold stepP;rw [if_neg k2,if_neg k3,if_neg k4]
        rw [hP]
        have hk':k=1∨k=5∨k=6∨k=7∨k=8:=by have:=hk.1;have:=hk.2.1;omega
        rcases hk' with rfl | rfl | rfl | rfl | rfl<;>exact ⟨rfl,.same m.Sum m.Dep x ok.dep⟩
theorem step_P (k f:Int) (m:Memory) (x:Item) (ok:okM m) (hx:0≤x.Dep) (hk:kindOk k f):stage_Step k f m x=some ((stepP k f m x).1,(stepP k f m x).2,0):=(step_PR k f m x ok hx hk).1
theorem stepP_R (k f:Int) (m:Memory) (x:Item) (ok:okM m) (hx:0≤x.Dep) (hk:kindOk k f):StepR k f m x ((stepP k f m x).1,(stepP k f m x).2,0):=(step_PR k f m x ok hx hk).2
theorem stepP_ok {k f:Int} {m:Memory} {x:Item} (ok:okM m) (hx:0≤x.Dep) (hk:kindOk k f) (B:Int) (h0:0≤B) (hB:∀ y,y∈m.Keys→y.N≤B) (hB2:B<4611686018427387904) :
    okM (stepP k f m x).1∧∀ y,y∈(stepP k f m x).1.Keys→y.N≤B+1:=stepR_ok (stepP_R k f m x ok hx hk) ok B h0 hB hB2 rfl
def deep (k:Int):Bool:=k==3 || k==4
theorem stepP_dep (k f:Int) (m:Memory) (x:Item):(stepP k f m x).2.Dep=(if deep k then maxD m.Dep x.Dep else x.Dep)∧(stepP k f m x).1.Dep=if deep k then maxD m.Dep x.Dep else m.Dep:=by
  unfold stepP deep
  by_cases h2:k=2
  · subst h2;exact ⟨rfl,rfl⟩
  · by_cases h3:k=3
    · subst h3;exact ⟨rfl,rfl⟩
    · by_cases h4:k=4
      · subst h4;exact ⟨rfl,rfl⟩
      · rw [if_neg h2,if_neg h3,if_neg h4]
        have:(k==3 || k==4)=false:=by simp [h3,h4]
        rw [this];exact ⟨rfl,rfl⟩
end Go.Proofs.YtoelnjpolhamfaaGreatDoor
