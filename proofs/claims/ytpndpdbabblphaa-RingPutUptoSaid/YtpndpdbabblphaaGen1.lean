/-
  The code computes these functions. Printed by a program of ours (wip/gen.py).
-/
import Derived.Test.YtpndpdbabblphaaFr
import Derived.Test.YtpndpdbabblphaaEnc
import Derived.Test.YtpndpdbabblphaaSh
namespace Go.Proofs.Ytpndpdbabblphaa
open Go.RowKit
set_option linter.unusedVariables false
set_option linter.unusedSimpArgs false
set_option maxRecDepth 100000
theorem slices_Clone_Item_c (p0 r : List Item) (h : slices_Clone_Item p0 = some r) : FnO Try.prog 26 [.sl (List.map encItem p0)] (.ref 0) [.arr 41 3 (List.map encItem r)] := by
  have hr : p0 = r := by
    unfold slices_Clone_Item app at h
    split at h
    · simpa using h
    · cases h
  refine fn_of_T (N := 0) rfl Try.func26 rfl (by kernel_rfl) Try.ntmps26 rfl ?_
  show T _ _ _ _ (mkA 8 [(0, .sl (List.map encItem p0))]) []
  refine T.seq ?_
  refine T.region ?_
  refine RS.op rfl (OP.q rfl (v_assign (v := .nils) rfl ?_))
  refine RS.nil ?_
  refine T.seq ?_
  refine T.seq ?_
  refine T.region ?_
  refine RS.op rfl (OP.q rfl (v_move (v := .sl (List.map encItem p0)) rfl ?_))
  refine RS.op rfl (OP.q rfl (v_nileq Ty.s39 rfl rfl (fun z hz => ?_)))
  refine RS.nil ?_
  refine T.cond (b := z) rfl (fun hb => ?_) (fun hb => ?_)
  · refine T.seq ?_
    refine T.region ?_
    refine RS.op rfl (OP.q rfl (v_assign (v := .nils) rfl ?_))
    refine RS.nil ?_
    refine T.ret ?_
    refine res_tmpA (v := .nils) rfl ?_
    refine res_done ?_
    have h0 : p0 = [] := List.map_eq_nil_iff.1 (hz hb)
    exact ret_own (.ref 0) [(0, 41, 3)] [0] (by decide) (none_kept _) rfl (rn_ref rfl) (rw_arr (en := encItem) (ys := []) rfl encItem_p (by rw [← hr, h0]) (rw_nil)) ⟨rfl, rfl⟩
  · refine T.skip ?_
    refine T.seq ?_
    refine T.region ?_
    refine RS.op rfl (o_buildSlice (rows := List.map encItem []) (vs := []) Ty.s39 Ty.z41 rfl rfl rfl rfl rfl (aw' := [.arr 41 3 (List.map encItem [])]) rfl ?_)
    refine RS.op rfl (OP.q rfl (v_move (v := .sl (List.map encItem p0)) rfl ?_))
    refine RS.op rfl (o_app_ref (en := encItem) (xs := ([] : List Item)) (ys := p0) (r := r) Ty.s39 (fun _ => rfl) rfl rfl rfl h rfl (aw' := [.dead, .arr 41 3 (List.map encItem r)]) rfl ?_)
    refine RS.op rfl (OP.q rfl (v_assign (v := .ref 1) rfl ?_))
    refine RS.nil ?_
    refine T.ret ?_
    refine res_tmpA (v := .ref 1) rfl ?_
    refine res_done ?_
    exact ret_own (.ref 0) [] [1] (by decide) (none_kept _) rfl (rn_ref rfl) (rw_arr rfl encItem_p rfl (rw_nil)) ⟨rfl, rfl⟩
theorem ring_Put_c (p0 : List Item) (p1 : Int) (p2 : Item) (r : (List Item) × Int) (h : ring_Put p0 p1 p2 = some r) : FnO Try.prog 27 [.sl (List.map encItem p0), .int .i64 p1, .agg [.int .i64 p2.Key, .int .i64 p2.Val, .int .i64 p2.Dep]] (.tup [.ref 0, .int .i64 r.2]) [.arr 41 3 (List.map encItem r.1)] := by
  unfold ring_Put at h
  refine fn_of_T (N := 0) rfl Try.func27 rfl (by kernel_rfl) Try.ntmps27 rfl ?_
  show T _ _ _ _ (mkA 27 [(0, .sl (List.map encItem p0)), (1, .int .i64 p1), (2, .agg [.int .i64 p2.Key, .int .i64 p2.Val, .int .i64 p2.Dep])]) []
  refine T.seq ?_
  refine T.region ?_
  refine RS.op rfl (o_box (cs := [.int .i64 p2.Key, .int .i64 p2.Val, .int .i64 p2.Dep]) rfl rfl (aw' := [.box [.int .i64 p2.Key, .int .i64 p2.Val, .int .i64 p2.Dep]]) rfl ?_)
  refine RS.op rfl (OP.q rfl (v_assign (v := .nils) rfl ?_))
  refine RS.op rfl (OP.q rfl (v_assign (v := .int .i64 0) rfl ?_))
  refine RS.nil ?_
  refine T.seq ?_
  refine T.join (Z := Unit) (fun _ => mkA 27 [(0, .sl (List.map encItem p0)), (1, .int .i64 p1), (5, .ptr 0 0), (13, .bool ((decide (p1 < 1)) || decide (p1 > 6)))]) (fun _ => [.box [.int .i64 p2.Key, .int .i64 p2.Val, .int .i64 p2.Dep]]) (fun _ => True) (fun _ _ => ?_) (fun hK => ?_)
  · show T _ _ _ _ (mkA 27 [(0, .sl (List.map encItem p0)), (1, .int .i64 p1), (5, .ptr 0 0), (13, .bool ((decide (p1 < 1)) || decide (p1 > 6)))]) [.box [.int .i64 p2.Key, .int .i64 p2.Val, .int .i64 p2.Dep]]
    refine T.cond (b := ((decide (p1 < 1)) || decide (p1 > 6))) rfl (fun hb_2 => ?_) (fun hb_2 => ?_)
    · replace h := ite_T h hb_2
      refine T.seq ?_
      refine T.region ?_
      refine RS.op rfl (OP.q rfl (v_assign (v := .nils) rfl ?_))
      refine RS.op rfl (OP.q rfl (v_assign (v := .int .i64 3) rfl ?_))
      refine RS.nil ?_
      refine T.ret' (R := ?R3) ?hq3 ?_
      case hq3 => repeat (first | exact RetIs.base | refine RetIs.thn ?_ | refine RetIs.blk ?_ | refine RetIs.lq ?_)
      refine res_tmpA (v := .nils) rfl ?_
      refine res_tmpA (v := .int .i64 3) rfl ?_
      refine res_done ?_
      exact ret_own (.tup [.ref 0, .int .i64 r.2]) [(0, 41, 3)] [1] (by decide) (none_kept _) rfl (rn_tup ⟨rn_ref rfl, rn_int (congrArg (fun r : (List Item) × Int => r.2) (Option.some.inj h)).symm, trivial⟩) (rw_arr (en := encItem) (ys := []) rfl encItem_p (congrArg (fun r : (List Item) × Int => r.1) (Option.some.inj h)).symm (rw_nil)) ⟨rfl, rfl⟩
    · replace h := ite_F h hb_2
      refine T.skip ?_
      refine T.seq ?_
      refine T.seq ?_
      refine T.region ?_
      refine RS.op rfl (OP.q rfl (v_move (v := .sl (List.map encItem p0)) rfl ?_))
      refine RS.op rfl (OP.q rfl (v_len_sl Ty.s39 rfl ?_))
      refine RS.op rfl (OP.q rfl (v_move (v := .int .i64 p1) rfl ?_))
      refine RS.op rfl (OP.q rfl (v_gtr rfl rfl ?_))
      refine RS.nil ?_
      refine T.cond (b := decide (((p0).length : Int) > p1)) rfl (fun hb_4 => ?_) (fun hb_4 => ?_)
      · replace h := ite_T h hb_4
        refine T.seq ?_
        refine T.region ?_
        refine RS.op rfl (OP.q rfl (v_assign (v := .nils) rfl ?_))
        refine RS.op rfl (OP.q rfl (v_assign (v := .int .i64 2) rfl ?_))
        refine RS.nil ?_
        refine T.ret' (R := ?R5) ?hq5 ?_
        case hq5 => repeat (first | exact RetIs.base | refine RetIs.thn ?_ | refine RetIs.blk ?_ | refine RetIs.lq ?_)
        refine res_tmpA (v := .nils) rfl ?_
        refine res_tmpA (v := .int .i64 2) rfl ?_
        refine res_done ?_
        exact ret_own (.tup [.ref 0, .int .i64 r.2]) [(0, 41, 3)] [1] (by decide) (none_kept _) rfl (rn_tup ⟨rn_ref rfl, rn_int (congrArg (fun r : (List Item) × Int => r.2) (Option.some.inj h)).symm, trivial⟩) (rw_arr (en := encItem) (ys := []) rfl encItem_p (congrArg (fun r : (List Item) × Int => r.1) (Option.some.inj h)).symm (rw_nil)) ⟨rfl, rfl⟩
      · replace h := ite_F h hb_4
        refine T.skip ?_
        refine T.seq ?_
        refine T.seq ?_
        refine T.region ?_
        refine RS.op rfl (OP.q rfl (v_move (v := .sl (List.map encItem p0)) rfl ?_))
        refine RS.op rfl (OP.q rfl (v_len_sl Ty.s39 rfl ?_))
        refine RS.op rfl (OP.q rfl (v_move (v := .int .i64 p1) rfl ?_))
        refine RS.op rfl (OP.q rfl (v_eql rfl rfl ?_))
        refine RS.nil ?_
        refine T.cond (b := ((p0).length : Int) == p1) rfl (fun hb_6 => ?_) (fun hb_6 => ?_)
        · replace h := ite_T h hb_6
          refine T.seq ?_
          refine T.region ?_
          refine RS.op rfl (OP.q rfl (v_assign (v := .nils) rfl ?_))
          refine RS.op rfl (OP.q rfl (v_assign (v := .int .i64 8) rfl ?_))
          refine RS.nil ?_
          refine T.ret' (R := ?R7) ?hq7 ?_
          case hq7 => repeat (first | exact RetIs.base | refine RetIs.thn ?_ | refine RetIs.blk ?_ | refine RetIs.lq ?_)
          refine res_tmpA (v := .nils) rfl ?_
          refine res_tmpA (v := .int .i64 8) rfl ?_
          refine res_done ?_
          exact ret_own (.tup [.ref 0, .int .i64 r.2]) [(0, 41, 3)] [1] (by decide) (none_kept _) rfl (rn_tup ⟨rn_ref rfl, rn_int (congrArg (fun r : (List Item) × Int => r.2) (Option.some.inj h)).symm, trivial⟩) (rw_arr (en := encItem) (ys := []) rfl encItem_p (congrArg (fun r : (List Item) × Int => r.1) (Option.some.inj h)).symm (rw_nil)) ⟨rfl, rfl⟩
        · replace h := ite_F h hb_6
          refine T.skip ?_
          refine T.seq ?_
          obtain ⟨x4, hx4, h⟩ := bind_some h
          obtain ⟨x5, hx5, h⟩ := bind_some h
          refine T.drawn mixed (k := 7) rfl ?_
          refine RA.join 3 #[true, true, true, true, false, false, false] (mkA 27 [(0, .sl (List.map encItem p0)), (1, .int .i64 p1), (5, .ptr 0 0), (13, .bool ((decide (p1 < 1)) || decide (p1 > 6))), (14, .sl (List.map encItem p0)), (15, .int .i64 ((p0).length : Int)), (16, .int .i64 p1), (17, .bool (decide (((p0).length : Int) > p1))), (18, .sl (List.map encItem p0)), (19, .int .i64 ((p0).length : Int)), (20, .int .i64 p1), (21, .bool (((p0).length : Int) == p1)), (22, .sl (List.map encItem p0)), (23, .ref 2), (24, .agg [.int .i64 p2.Key, .int .i64 p2.Val, .int .i64 p2.Dep]), (25, .ref 1)]) [.box [.int .i64 p2.Key, .int .i64 p2.Val, .int .i64 p2.Dep], .arr 41 3 (List.map encItem [p2]), .arr 41 3 (List.map encItem x4)] ?_ (fun hS8 => ?_)
          · refine RA.a1 (i1 := 4) (l1 := #[true, true, true, true, true, false, false]) (by decide +kernel) (by decide +kernel) ?_
            refine RO.op rfl rfl (o_app_ref (en := encItem) (xs := x4) (ys := ([p2] : List Item)) Ty.s39 (fun _ => rfl) rfl rfl rfl hx5 rfl (aw' := [.box [.int .i64 p2.Key, .int .i64 p2.Val, .int .i64 p2.Dep], .dead, .dead, .arr 41 3 (List.map encItem x5)]) rfl ?_)
            refine RA.t0 (i := 5) (li' := #[true, true, true, true, true, true, false]) rfl (by decide +kernel) (by decide +kernel) (by decide +kernel) (by decide +kernel) rfl rfl (v_assign (v := .ref 3) rfl ?_)
            refine RA.t0 (i := 6) (li' := #[true, true, true, true, true, true, true]) rfl (by decide +kernel) (by decide +kernel) (by decide +kernel) (by decide +kernel) rfl rfl (v_assign (v := .int .i64 0) rfl ?_)
            refine RA.done (by decide +kernel) ?_
            refine T.ret' (R := ?R10) ?hq10 ?_
            case hq10 => repeat (first | exact RetIs.base | refine RetIs.thn ?_ | refine RetIs.blk ?_ | refine RetIs.lq ?_)
            refine res_tmpA (v := .ref 3) rfl ?_
            refine res_tmpA (v := .int .i64 0) rfl ?_
            refine res_done ?_
            exact ret_own (.tup [.ref 0, .int .i64 r.2]) [] [3] (by decide) (none_kept _) rfl (rn_tup ⟨rn_ref rfl, rn_int (congrArg (fun r : (List Item) × Int => r.2) (Option.some.inj h)).symm, trivial⟩) (rw_arr rfl encItem_p (congrArg (fun r : (List Item) × Int => r.1) (Option.some.inj h)).symm (rw_nil)) ⟨rfl, rfl⟩
          · refine RA.join 4 #[true, true, true, false, false, false, false] (mkA 27 [(0, .sl (List.map encItem p0)), (1, .int .i64 p1), (5, .ptr 0 0), (13, .bool ((decide (p1 < 1)) || decide (p1 > 6))), (14, .sl (List.map encItem p0)), (15, .int .i64 ((p0).length : Int)), (16, .int .i64 p1), (17, .bool (decide (((p0).length : Int) > p1))), (18, .sl (List.map encItem p0)), (19, .int .i64 ((p0).length : Int)), (20, .int .i64 p1), (21, .bool (((p0).length : Int) == p1)), (22, .sl (List.map encItem p0)), (23, .ref 1), (24, .agg [.int .i64 p2.Key, .int .i64 p2.Val, .int .i64 p2.Dep])]) [.box [.int .i64 p2.Key, .int .i64 p2.Val, .int .i64 p2.Dep], .arr 41 3 (List.map encItem x4)] ?_ (fun hS9 => ?_)
            · refine RA.a1 (i1 := 3) (l1 := #[true, true, true, true, false, false, false]) (by decide +kernel) (by decide +kernel) ?_
              refine RO.op rfl rfl (o_buildSlice (rows := List.map encItem [p2]) (vs := [.agg [.int .i64 p2.Key, .int .i64 p2.Val, .int .i64 p2.Dep]]) Ty.s39 Ty.z41 rfl rfl rfl rfl rfl (aw' := [.box [.int .i64 p2.Key, .int .i64 p2.Val, .int .i64 p2.Dep], .arr 41 3 (List.map encItem x4), .arr 41 3 (List.map encItem [p2])]) rfl ?_)
              exact RA.weakR hS8 (Weak.mkN [] [0, 2, 1] (by decide) (none_kept _) rfl ⟨rn_sl encItem_p rfl, rn_int rfl, rn_ptr rfl, rn_bool rfl, rn_sl encItem_p rfl, rn_int rfl, rn_int rfl, rn_bool rfl, rn_sl encItem_p rfl, rn_int rfl, rn_int rfl, rn_bool rfl, rn_sl encItem_p rfl, rn_ref rfl, rn_agg ⟨rn_int rfl, rn_int rfl, rn_int rfl, trivial⟩, rn_ref rfl, trivial⟩ (rw_box (cs := [.int .i64 p2.Key, .int .i64 p2.Val, .int .i64 p2.Dep]) (ds := [.int .i64 p2.Key, .int .i64 p2.Val, .int .i64 p2.Dep]) rfl ⟨rn_int rfl, rn_int rfl, rn_int rfl, trivial⟩ (rw_arr rfl encItem_p rfl (rw_arr rfl encItem_p rfl (rw_nil)))))
            · refine RA.t0 (i := 0) (li' := #[true, false, false, false, false, false, false]) rfl (by decide +kernel) (by decide +kernel) (by decide +kernel) (by decide +kernel) rfl rfl (v_move (v := .sl (List.map encItem p0)) rfl ?_)
              refine RA.a2 (i1 := 1) (l1 := #[true, true, false, false, false, false, false]) (i2 := 2) (l2 := #[true, false, true, false, false, false, false]) (by decide +kernel) (by decide +kernel) (by decide +kernel) ?_ ?_
              · refine RO.op rfl rfl (o_call (as0 := [.sl (List.map encItem p0)]) (as1 := [.sl (List.map encItem p0)]) (caps := []) (aw1 := [.box [.int .i64 p2.Key, .int .i64 p2.Val, .int .i64 p2.Dep]]) rfl rfl rfl (k_own' (v := .ref 0) (obs := [.arr 41 3 (List.map encItem x4)]) (v' := .ref 1) (aw' := [.box [.int .i64 p2.Key, .int .i64 p2.Val, .int .i64 p2.Dep], .arr 41 3 (List.map encItem x4)]) (slices_Clone_Item_c p0 x4 hx4) (⟨pure_map encItem_p _, trivial⟩) rfl (obs_cons (flatOb_map fun _ => rfl) obs_nil) rfl rfl ?_))
                refine RA.a1 (i1 := 2) (l1 := #[true, true, true, false, false, false, false]) (by decide +kernel) (by decide +kernel) ?_
                refine RO.op rfl rfl (o_load_ptr rfl rfl (loadRowA Ty.k41 Ty.c41 rfl (cs := [.int .i64 p2.Key, .int .i64 p2.Val, .int .i64 p2.Dep]) rfl ?_))
                exact RA.weakR hS9 (Weak.mkN [] [0, 1] (by decide) (none_kept _) rfl ⟨rn_sl encItem_p rfl, rn_int rfl, rn_ptr rfl, rn_bool rfl, rn_sl encItem_p rfl, rn_int rfl, rn_int rfl, rn_bool rfl, rn_sl encItem_p rfl, rn_int rfl, rn_int rfl, rn_bool rfl, rn_sl encItem_p rfl, rn_ref rfl, rn_agg ⟨rn_int rfl, rn_int rfl, rn_int rfl, trivial⟩, trivial⟩ (rw_box (cs := [.int .i64 p2.Key, .int .i64 p2.Val, .int .i64 p2.Dep]) (ds := [.int .i64 p2.Key, .int .i64 p2.Val, .int .i64 p2.Dep]) rfl ⟨rn_int rfl, rn_int rfl, rn_int rfl, trivial⟩ (rw_arr rfl encItem_p rfl (rw_nil))))
              · refine RO.op rfl rfl (o_load_ptr rfl rfl (loadRowA Ty.k41 Ty.c41 rfl (cs := [.int .i64 p2.Key, .int .i64 p2.Val, .int .i64 p2.Dep]) rfl ?_))
                refine RA.a2 (i1 := 1) (l1 := #[true, true, true, false, false, false, false]) (i2 := 3) (l2 := #[true, false, true, true, false, false, false]) (by decide +kernel) (by decide +kernel) (by decide +kernel) ?_ ?_
                · refine RO.op rfl rfl (o_call (as0 := [.sl (List.map encItem p0)]) (as1 := [.sl (List.map encItem p0)]) (caps := []) (aw1 := [.box [.int .i64 p2.Key, .int .i64 p2.Val, .int .i64 p2.Dep]]) rfl rfl rfl (k_own' (v := .ref 0) (obs := [.arr 41 3 (List.map encItem x4)]) (v' := .ref 1) (aw' := [.box [.int .i64 p2.Key, .int .i64 p2.Val, .int .i64 p2.Dep], .arr 41 3 (List.map encItem x4)]) (slices_Clone_Item_c p0 x4 hx4) (⟨pure_map encItem_p _, trivial⟩) rfl (obs_cons (flatOb_map fun _ => rfl) obs_nil) rfl rfl ?_))
                  exact RA.weakR hS9 (Weak.mkN [] [0, 1] (by decide) (none_kept _) rfl ⟨rn_sl encItem_p rfl, rn_int rfl, rn_ptr rfl, rn_bool rfl, rn_sl encItem_p rfl, rn_int rfl, rn_int rfl, rn_bool rfl, rn_sl encItem_p rfl, rn_int rfl, rn_int rfl, rn_bool rfl, rn_sl encItem_p rfl, rn_ref rfl, rn_agg ⟨rn_int rfl, rn_int rfl, rn_int rfl, trivial⟩, trivial⟩ (rw_box (cs := [.int .i64 p2.Key, .int .i64 p2.Val, .int .i64 p2.Dep]) (ds := [.int .i64 p2.Key, .int .i64 p2.Val, .int .i64 p2.Dep]) rfl ⟨rn_int rfl, rn_int rfl, rn_int rfl, trivial⟩ (rw_arr rfl encItem_p rfl (rw_nil))))
                · refine RO.op rfl rfl (o_buildSlice (rows := List.map encItem [p2]) (vs := [.agg [.int .i64 p2.Key, .int .i64 p2.Val, .int .i64 p2.Dep]]) Ty.s39 Ty.z41 rfl rfl rfl rfl rfl (aw' := [.box [.int .i64 p2.Key, .int .i64 p2.Val, .int .i64 p2.Dep], .arr 41 3 (List.map encItem [p2])]) rfl ?_)
                  refine RA.a1 (i1 := 1) (l1 := #[true, true, true, true, false, false, false]) (by decide +kernel) (by decide +kernel) ?_
                  refine RO.op rfl rfl (o_call (as0 := [.sl (List.map encItem p0)]) (as1 := [.sl (List.map encItem p0)]) (caps := []) (aw1 := [.box [.int .i64 p2.Key, .int .i64 p2.Val, .int .i64 p2.Dep], .arr 41 3 (List.map encItem [p2])]) rfl rfl rfl (k_own' (v := .ref 0) (obs := [.arr 41 3 (List.map encItem x4)]) (v' := .ref 2) (aw' := [.box [.int .i64 p2.Key, .int .i64 p2.Val, .int .i64 p2.Dep], .arr 41 3 (List.map encItem [p2]), .arr 41 3 (List.map encItem x4)]) (slices_Clone_Item_c p0 x4 hx4) (⟨pure_map encItem_p _, trivial⟩) rfl (obs_cons (flatOb_map fun _ => rfl) obs_nil) rfl rfl ?_))
                  exact RA.weakR hS8 (Weak.mkN [] [0, 1, 2] (by decide) (none_kept _) rfl ⟨rn_sl encItem_p rfl, rn_int rfl, rn_ptr rfl, rn_bool rfl, rn_sl encItem_p rfl, rn_int rfl, rn_int rfl, rn_bool rfl, rn_sl encItem_p rfl, rn_int rfl, rn_int rfl, rn_bool rfl, rn_sl encItem_p rfl, rn_ref rfl, rn_agg ⟨rn_int rfl, rn_int rfl, rn_int rfl, trivial⟩, rn_ref rfl, trivial⟩ (rw_box (cs := [.int .i64 p2.Key, .int .i64 p2.Val, .int .i64 p2.Dep]) (ds := [.int .i64 p2.Key, .int .i64 p2.Val, .int .i64 p2.Dep]) rfl ⟨rn_int rfl, rn_int rfl, rn_int rfl, trivial⟩ (rw_arr rfl encItem_p rfl (rw_arr rfl encItem_p rfl (rw_nil)))))
  · rcases bool_cases (decide (p1 < 1)) with hb_1 | hb_1
    · refine T.region ?_
      refine RS.op rfl (OP.q rfl (v_move (v := .int .i64 p1) rfl ?_))
      refine RS.op rfl (OP.q rfl (v_lss rfl rfl ?_))
      refine RS.op rfl (OP.q rfl (v_move (v := .bool (decide (p1 < 1))) rfl ?_))
      refine RS.no rfl rfl rfl hb_1 ?_
      refine RS.no rfl rfl rfl hb_1 ?_
      refine RS.op rfl (OP.q rfl (v_pickT (v := .bool true) rfl hb_1 rfl ?_))
      refine RS.nil ?_
      exact T.weakR (hK () trivial) (Weak.mkN [] [0] (by decide) (none_kept _) rfl ⟨rn_sl encItem_p rfl, rn_int rfl, rn_ptr rfl, rn_bool (by simp only [hb_1, Bool.true_or, Bool.or_true, Bool.false_or, Bool.or_false, Bool.true_and, Bool.and_true, Bool.false_and, Bool.and_false, Bool.not_true, Bool.not_false, if_true, if_false, Bool.false_eq_true, reduceIte]), trivial⟩ (rw_box (cs := [.int .i64 p2.Key, .int .i64 p2.Val, .int .i64 p2.Dep]) (ds := [.int .i64 p2.Key, .int .i64 p2.Val, .int .i64 p2.Dep]) rfl ⟨rn_int rfl, rn_int rfl, rn_int rfl, trivial⟩ (rw_nil)))
    · refine T.region ?_
      refine RS.op rfl (OP.q rfl (v_move (v := .int .i64 p1) rfl ?_))
      refine RS.op rfl (OP.q rfl (v_lss rfl rfl ?_))
      refine RS.op rfl (OP.q rfl (v_move (v := .bool (decide (p1 < 1))) rfl ?_))
      refine RS.yes rfl rfl rfl hb_1 (OP.q rfl (v_move (v := .int .i64 p1) rfl ?_))
      refine RS.yes rfl rfl rfl hb_1 (OP.q rfl (v_gtr rfl rfl ?_))
      refine RS.op rfl (OP.q rfl (v_pickF (v := .bool (decide (p1 > 6))) rfl hb_1 rfl ?_))
      refine RS.nil ?_
      exact T.weakR (hK () trivial) (Weak.mkN [] [0] (by decide) (none_kept _) rfl ⟨rn_sl encItem_p rfl, rn_int rfl, rn_ptr rfl, rn_bool (by simp only [hb_1, Bool.true_or, Bool.or_true, Bool.false_or, Bool.or_false, Bool.true_and, Bool.and_true, Bool.false_and, Bool.and_false, Bool.not_true, Bool.not_false, if_true, if_false, Bool.false_eq_true, reduceIte]), trivial⟩ (rw_box (cs := [.int .i64 p2.Key, .int .i64 p2.Val, .int .i64 p2.Dep]) (ds := [.int .i64 p2.Key, .int .i64 p2.Val, .int .i64 p2.Dep]) rfl ⟨rn_int rfl, rn_int rfl, rn_int rfl, trivial⟩ (rw_nil)))
theorem ring_Take_c (p0 : List Item) (r : Item × (List Item) × Int) (h : ring_Take p0 = some r) : FnO Try.prog 28 [.sl (List.map encItem p0)] (.tup [.agg [.int .i64 r.1.Key, .int .i64 r.1.Val, .int .i64 r.1.Dep], .ref 0, .int .i64 r.2.2]) [.arr 41 3 (List.map encItem r.2.1)] := by
  unfold ring_Take at h
  refine fn_of_T (N := 0) rfl Try.func28 rfl (by kernel_rfl) Try.ntmps28 rfl ?_
  show T _ _ _ _ (mkA 19 [(0, .sl (List.map encItem p0))]) []
  refine T.seq ?_
  refine T.region ?_
  refine RS.op rfl (o_alloc Ty.z41 rfl (aw' := [.box [.int .i64 0, .int .i64 0, .int .i64 0]]) rfl ?_)
  refine RS.op rfl (OP.q rfl (v_assign (v := .nils) rfl ?_))
  refine RS.op rfl (OP.q rfl (v_assign (v := .int .i64 0) rfl ?_))
  refine RS.nil ?_
  refine T.seq ?_
  refine T.seq ?_
  refine T.region ?_
  refine RS.op rfl (OP.q rfl (v_move (v := .sl (List.map encItem p0)) rfl ?_))
  refine RS.op rfl (OP.q rfl (v_len_sl Ty.s39 rfl ?_))
  refine RS.op rfl (OP.q rfl (v_gtr rfl rfl ?_))
  refine RS.nil ?_
  refine T.cond (b := decide (((p0).length : Int) > 6)) rfl (fun hb_1 => ?_) (fun hb_1 => ?_)
  · replace h := ite_T h hb_1
    refine T.seq ?_
    refine T.region ?_
    refine RS.op rfl (OP.q rfl (v_build (cs := [.int .i64 0, .int .i64 0, .int .i64 0]) Ty.z41 Ty.p41 rfl ?_))
    refine RS.op rfl (o_store_ptr Ty.c41 Ty.i41 rfl (vs := [.int .i64 0, .int .i64 0, .int .i64 0]) rfl rfl rfl rfl (cs' := [.int .i64 0, .int .i64 0, .int .i64 0]) rfl (aw' := [.box [.int .i64 0, .int .i64 0, .int .i64 0]]) rfl ?_)
    refine RS.op rfl (OP.q rfl (v_assign (v := .nils) rfl ?_))
    refine RS.op rfl (OP.q rfl (v_assign (v := .int .i64 2) rfl ?_))
    refine RS.nil ?_
    refine T.ret' (R := ?R2) ?hq2 ?_
    case hq2 => repeat (first | exact RetIs.base | refine RetIs.thn ?_ | refine RetIs.blk ?_ | refine RetIs.lq ?_)
    refine res_cellA (id := 0) (off := 0) (cs := [.int .i64 0, .int .i64 0, .int .i64 0]) (v := .agg [.int .i64 0, .int .i64 0, .int .i64 0]) ?_ ?_ ?_ ?_
    · rfl
    · rfl
    · exact fun K h => (loadRowA (row := [.int .i64 0, .int .i64 0, .int .i64 0]) (off := 0) Ty.k41 Ty.c41 rfl (cs := [.int .i64 0, .int .i64 0, .int .i64 0]) rfl h)
    refine res_tmpA (v := .nils) rfl ?_
    refine res_tmpA (v := .int .i64 2) rfl ?_
    refine res_done ?_
    exact ret_own (.tup [.agg [.int .i64 r.1.Key, .int .i64 r.1.Val, .int .i64 r.1.Dep], .ref 0, .int .i64 r.2.2]) [(1, 41, 3)] [1] (by decide) (none_kept _) rfl (rn_tup ⟨rn_agg ⟨rn_int (congrArg (fun r : Item × (List Item) × Int => r.1.Key) (Option.some.inj h)).symm, rn_int (congrArg (fun r : Item × (List Item) × Int => r.1.Val) (Option.some.inj h)).symm, rn_int (congrArg (fun r : Item × (List Item) × Int => r.1.Dep) (Option.some.inj h)).symm, trivial⟩, rn_ref rfl, rn_int (congrArg (fun r : Item × (List Item) × Int => r.2.2) (Option.some.inj h)).symm, trivial⟩) (rw_arr (en := encItem) (ys := []) rfl encItem_p (congrArg (fun r : Item × (List Item) × Int => r.2.1) (Option.some.inj h)).symm (rw_nil)) ⟨rfl, rfl⟩
  · replace h := ite_F h hb_1
    refine T.skip ?_
    refine T.seq ?_
    refine T.seq ?_
    refine T.region ?_
    refine RS.op rfl (OP.q rfl (v_move (v := .sl (List.map encItem p0)) rfl ?_))
    refine RS.op rfl (OP.q rfl (v_len_sl Ty.s39 rfl ?_))
    refine RS.op rfl (OP.q rfl (v_eql rfl rfl ?_))
    refine RS.nil ?_
    refine T.cond (b := ((p0).length : Int) == 0) rfl (fun hb_3 => ?_) (fun hb_3 => ?_)
    · replace h := ite_T h hb_3
      refine T.seq ?_
      refine T.region ?_
      refine RS.op rfl (OP.q rfl (v_build (cs := [.int .i64 0, .int .i64 0, .int .i64 0]) Ty.z41 Ty.p41 rfl ?_))
      refine RS.op rfl (o_store_ptr Ty.c41 Ty.i41 rfl (vs := [.int .i64 0, .int .i64 0, .int .i64 0]) rfl rfl rfl rfl (cs' := [.int .i64 0, .int .i64 0, .int .i64 0]) rfl (aw' := [.box [.int .i64 0, .int .i64 0, .int .i64 0]]) rfl ?_)
      refine RS.op rfl (OP.q rfl (v_assign (v := .nils) rfl ?_))
      refine RS.op rfl (OP.q rfl (v_assign (v := .int .i64 9) rfl ?_))
      refine RS.nil ?_
      refine T.ret' (R := ?R4) ?hq4 ?_
      case hq4 => repeat (first | exact RetIs.base | refine RetIs.thn ?_ | refine RetIs.blk ?_ | refine RetIs.lq ?_)
      refine res_cellA (id := 0) (off := 0) (cs := [.int .i64 0, .int .i64 0, .int .i64 0]) (v := .agg [.int .i64 0, .int .i64 0, .int .i64 0]) ?_ ?_ ?_ ?_
      · rfl
      · rfl
      · exact fun K h => (loadRowA (row := [.int .i64 0, .int .i64 0, .int .i64 0]) (off := 0) Ty.k41 Ty.c41 rfl (cs := [.int .i64 0, .int .i64 0, .int .i64 0]) rfl h)
      refine res_tmpA (v := .nils) rfl ?_
      refine res_tmpA (v := .int .i64 9) rfl ?_
      refine res_done ?_
      exact ret_own (.tup [.agg [.int .i64 r.1.Key, .int .i64 r.1.Val, .int .i64 r.1.Dep], .ref 0, .int .i64 r.2.2]) [(1, 41, 3)] [1] (by decide) (none_kept _) rfl (rn_tup ⟨rn_agg ⟨rn_int (congrArg (fun r : Item × (List Item) × Int => r.1.Key) (Option.some.inj h)).symm, rn_int (congrArg (fun r : Item × (List Item) × Int => r.1.Val) (Option.some.inj h)).symm, rn_int (congrArg (fun r : Item × (List Item) × Int => r.1.Dep) (Option.some.inj h)).symm, trivial⟩, rn_ref rfl, rn_int (congrArg (fun r : Item × (List Item) × Int => r.2.2) (Option.some.inj h)).symm, trivial⟩) (rw_arr (en := encItem) (ys := []) rfl encItem_p (congrArg (fun r : Item × (List Item) × Int => r.2.1) (Option.some.inj h)).symm (rw_nil)) ⟨rfl, rfl⟩
    · replace h := ite_F h hb_3
      refine T.skip ?_
      refine T.seq ?_
      obtain ⟨x4, hx4, h⟩ := bind_some h
      obtain ⟨x5, hx5, h⟩ := bind_some h
      obtain ⟨x6, hx6, h⟩ := bind_some h
      refine T.drawn mixed (k := 9) rfl ?_
      refine RA.join 3 #[true, true, true, true, true, true, false, false, false] (mkA 19 [(0, .sl (List.map encItem p0)), (2, .ptr 0 0), (3, .nils), (4, .int .i64 0), (5, .sl (List.map encItem p0)), (6, .int .i64 ((p0).length : Int)), (7, .bool (decide (((p0).length : Int) > 6))), (9, .sl (List.map encItem p0)), (10, .int .i64 ((p0).length : Int)), (11, .bool (((p0).length : Int) == 0)), (13, .sl (List.map encItem p0)), (14, .elt (encItem x4) 0), (15, .agg [.int .i64 x4.Key, .int .i64 x4.Val, .int .i64 x4.Dep]), (16, .sl (List.map encItem p0)), (17, .sl (List.map encItem x5)), (18, .ref 1)]) [.box [.int .i64 0, .int .i64 0, .int .i64 0], .arr 41 3 (List.map encItem x6)] ?_ (fun hS5 => ?_)
      · refine RA.a1 (i1 := 6) (l1 := #[true, true, true, true, true, true, true, false, false]) (by decide +kernel) (by decide +kernel) ?_
        refine RO.op rfl rfl (o_store_ptr Ty.c41 Ty.i41 rfl (vs := [.int .i64 x4.Key, .int .i64 x4.Val, .int .i64 x4.Dep]) rfl rfl rfl rfl (cs' := [.int .i64 x4.Key, .int .i64 x4.Val, .int .i64 x4.Dep]) rfl (aw' := [.box [.int .i64 x4.Key, .int .i64 x4.Val, .int .i64 x4.Dep], .arr 41 3 (List.map encItem x6)]) rfl ?_)
        refine RA.t0 (i := 7) (li' := #[true, true, true, true, true, true, true, true, false]) rfl (by decide +kernel) (by decide +kernel) (by decide +kernel) (by decide +kernel) rfl rfl (v_assign (v := .ref 1) rfl ?_)
        refine RA.t0 (i := 8) (li' := #[true, true, true, true, true, true, true, true, true]) rfl (by decide +kernel) (by decide +kernel) (by decide +kernel) (by decide +kernel) rfl rfl (v_assign (v := .int .i64 0) rfl ?_)
        refine RA.done (by decide +kernel) ?_
        refine T.ret' (R := ?R6) ?hq6 ?_
        case hq6 => repeat (first | exact RetIs.base | refine RetIs.thn ?_ | refine RetIs.blk ?_ | refine RetIs.lq ?_)
        refine res_cellA (id := 0) (off := 0) (cs := [.int .i64 x4.Key, .int .i64 x4.Val, .int .i64 x4.Dep]) (v := .agg [.int .i64 x4.Key, .int .i64 x4.Val, .int .i64 x4.Dep]) ?_ ?_ ?_ ?_
        · rfl
        · rfl
        · exact fun K h => (loadRowA (row := [.int .i64 x4.Key, .int .i64 x4.Val, .int .i64 x4.Dep]) (off := 0) Ty.k41 Ty.c41 rfl (cs := [.int .i64 x4.Key, .int .i64 x4.Val, .int .i64 x4.Dep]) rfl h)
        refine res_tmpA (v := .ref 1) rfl ?_
        refine res_tmpA (v := .int .i64 0) rfl ?_
        refine res_done ?_
        exact ret_own (.tup [.agg [.int .i64 r.1.Key, .int .i64 r.1.Val, .int .i64 r.1.Dep], .ref 0, .int .i64 r.2.2]) [] [1] (by decide) (none_kept _) rfl (rn_tup ⟨rn_agg ⟨rn_int (congrArg (fun r : Item × (List Item) × Int => r.1.Key) (Option.some.inj h)).symm, rn_int (congrArg (fun r : Item × (List Item) × Int => r.1.Val) (Option.some.inj h)).symm, rn_int (congrArg (fun r : Item × (List Item) × Int => r.1.Dep) (Option.some.inj h)).symm, trivial⟩, rn_ref rfl, rn_int (congrArg (fun r : Item × (List Item) × Int => r.2.2) (Option.some.inj h)).symm, trivial⟩) (rw_arr rfl encItem_p (congrArg (fun r : Item × (List Item) × Int => r.2.1) (Option.some.inj h)).symm (rw_nil)) ⟨rfl, rfl⟩
      · refine RA.t0 (i := 0) (li' := #[true, false, false, false, false, false, false, false, false]) rfl (by decide +kernel) (by decide +kernel) (by decide +kernel) (by decide +kernel) rfl rfl (v_move (v := .sl (List.map encItem p0)) rfl ?_)
        refine RA.t0 (i := 1) (li' := #[true, true, false, false, false, false, false, false, false]) rfl (by decide +kernel) (by decide +kernel) (by decide +kernel) (by decide +kernel) rfl rfl (v_index_sl Ty.s39 (fun _ => rfl) rfl rfl hx4 ?_)
        refine RA.t0 (i := 3) (li' := #[true, true, false, true, false, false, false, false, false]) rfl (by decide +kernel) (by decide +kernel) (by decide +kernel) (by decide +kernel) rfl rfl (v_move (v := .sl (List.map encItem p0)) rfl ?_)
        refine RA.t0 (i := 4) (li' := #[true, true, false, true, true, false, false, false, false]) rfl (by decide +kernel) (by decide +kernel) (by decide +kernel) (by decide +kernel) rfl rfl (v_slice_sl Ty.s39 (fun _ => rfl) rfl rfl rfl hx5 ?_)
        refine RA.a2 (i1 := 2) (l1 := #[true, true, true, true, true, false, false, false, false]) (i2 := 5) (l2 := #[true, true, false, true, true, true, false, false, false]) (by decide +kernel) (by decide +kernel) (by decide +kernel) ?_ ?_
        · refine RO.op rfl rfl (o_load_elt rfl (loadRowA Ty.k41 Ty.c41 rfl (cs := [.int .i64 x4.Key, .int .i64 x4.Val, .int .i64 x4.Dep]) rfl ?_))
          refine RA.a1 (i1 := 5) (l1 := #[true, true, true, true, true, true, false, false, false]) (by decide +kernel) (by decide +kernel) ?_
          refine RO.op rfl rfl (o_call (as0 := [.sl (List.map encItem x5)]) (as1 := [.sl (List.map encItem x5)]) (caps := []) (aw1 := [.box [.int .i64 0, .int .i64 0, .int .i64 0]]) rfl rfl rfl (k_own' (v := .ref 0) (obs := [.arr 41 3 (List.map encItem x6)]) (v' := .ref 1) (aw' := [.box [.int .i64 0, .int .i64 0, .int .i64 0], .arr 41 3 (List.map encItem x6)]) (slices_Clone_Item_c x5 x6 hx6) (⟨pure_map encItem_p _, trivial⟩) rfl (obs_cons (flatOb_map fun _ => rfl) obs_nil) rfl rfl ?_))
          exact RA.weakR hS5 (Weak.mkN [] [0, 1] (by decide) (none_kept _) rfl ⟨rn_sl encItem_p rfl, rn_ptr rfl, rn_same pure_nils, rn_int rfl, rn_sl encItem_p rfl, rn_int rfl, rn_bool rfl, rn_sl encItem_p rfl, rn_int rfl, rn_bool rfl, rn_sl encItem_p rfl, rn_elt (encItem_p _) (congrArg encItem rfl), rn_agg ⟨rn_int rfl, rn_int rfl, rn_int rfl, trivial⟩, rn_sl encItem_p rfl, rn_sl encItem_p rfl, rn_ref rfl, trivial⟩ (rw_box (cs := [.int .i64 0, .int .i64 0, .int .i64 0]) (ds := [.int .i64 0, .int .i64 0, .int .i64 0]) rfl ⟨rn_int rfl, rn_int rfl, rn_int rfl, trivial⟩ (rw_arr rfl encItem_p rfl (rw_nil))))
        · refine RO.op rfl rfl (o_call (as0 := [.sl (List.map encItem x5)]) (as1 := [.sl (List.map encItem x5)]) (caps := []) (aw1 := [.box [.int .i64 0, .int .i64 0, .int .i64 0]]) rfl rfl rfl (k_own' (v := .ref 0) (obs := [.arr 41 3 (List.map encItem x6)]) (v' := .ref 1) (aw' := [.box [.int .i64 0, .int .i64 0, .int .i64 0], .arr 41 3 (List.map encItem x6)]) (slices_Clone_Item_c x5 x6 hx6) (⟨pure_map encItem_p _, trivial⟩) rfl (obs_cons (flatOb_map fun _ => rfl) obs_nil) rfl rfl ?_))
          refine RA.a1 (i1 := 2) (l1 := #[true, true, true, true, true, true, false, false, false]) (by decide +kernel) (by decide +kernel) ?_
          refine RO.op rfl rfl (o_load_elt rfl (loadRowA Ty.k41 Ty.c41 rfl (cs := [.int .i64 x4.Key, .int .i64 x4.Val, .int .i64 x4.Dep]) rfl ?_))
          exact RA.weakR hS5 (Weak.mkN [] [0, 1] (by decide) (none_kept _) rfl ⟨rn_sl encItem_p rfl, rn_ptr rfl, rn_same pure_nils, rn_int rfl, rn_sl encItem_p rfl, rn_int rfl, rn_bool rfl, rn_sl encItem_p rfl, rn_int rfl, rn_bool rfl, rn_sl encItem_p rfl, rn_elt (encItem_p _) (congrArg encItem rfl), rn_agg ⟨rn_int rfl, rn_int rfl, rn_int rfl, trivial⟩, rn_sl encItem_p rfl, rn_sl encItem_p rfl, rn_ref rfl, trivial⟩ (rw_box (cs := [.int .i64 0, .int .i64 0, .int .i64 0]) (ds := [.int .i64 0, .int .i64 0, .int .i64 0]) rfl ⟨rn_int rfl, rn_int rfl, rn_int rfl, trivial⟩ (rw_arr rfl encItem_p rfl (rw_nil))))
theorem crosslaw_item_c (p0 : Int) (p1 : Int) (r : Item) (h : crosslaw_item p0 p1 = some r) : Fn Try.prog 59 [.int .i64 p0, .int .i64 p1] (.agg [.int .i64 r.Key, .int .i64 r.Val, .int .i64 r.Dep]) := by
  unfold crosslaw_item at h
  refine fn_of_T (N := 0) rfl Try.func59 rfl (by kernel_rfl) Try.ntmps59 rfl ?_
  show T _ _ _ _ (mkA 8 [(0, .int .i64 p0), (1, .int .i64 p1)]) []
  refine T.seq ?_
  refine T.region ?_
  refine RS.op rfl (o_alloc Ty.z41 rfl (aw' := [.box [.int .i64 0, .int .i64 0, .int .i64 0]]) rfl ?_)
  refine RS.nil ?_
  refine T.seq ?_
  refine T.region ?_
  refine RS.op rfl (OP.q rfl (v_move (v := .int .i64 p0) rfl ?_))
  refine RS.op rfl (OP.q rfl (v_move (v := .int .i64 p1) rfl ?_))
  refine RS.op rfl (OP.q rfl (v_build (cs := [.int .i64 p0, .int .i64 p1, .int .i64 0]) Ty.z41 Ty.p41 rfl ?_))
  refine RS.op rfl (o_store_ptr Ty.c41 Ty.i41 rfl (vs := [.int .i64 p0, .int .i64 p1, .int .i64 0]) rfl rfl rfl rfl (cs' := [.int .i64 p0, .int .i64 p1, .int .i64 0]) rfl (aw' := [.box [.int .i64 p0, .int .i64 p1, .int .i64 0]]) rfl ?_)
  refine RS.nil ?_
  refine T.ret' (R := ?R1) ?hq1 ?_
  case hq1 => repeat (first | exact RetIs.base | refine RetIs.thn ?_ | refine RetIs.blk ?_ | refine RetIs.lq ?_)
  refine res_cellA (id := 0) (off := 0) (cs := [.int .i64 p0, .int .i64 p1, .int .i64 0]) (v := .agg [.int .i64 p0, .int .i64 p1, .int .i64 0]) ?_ ?_ ?_ ?_
  · rfl
  · rfl
  · exact fun K h => (loadRowA (row := [.int .i64 p0, .int .i64 p1, .int .i64 0]) (off := 0) Ty.k41 Ty.c41 rfl (cs := [.int .i64 p0, .int .i64 p1, .int .i64 0]) rfl h)
  refine res_done ?_
  exact ret_data (v := .agg [.int .i64 p0, .int .i64 p1, .int .i64 0]) rfl (pure_agg _ (pures_mem (⟨pure_int _ _, pure_int _ _, pure_int _ _, trivial⟩))) ⟨congrArg (fun r : Item => (.agg [.int .i64 r.Key, .int .i64 r.Val, .int .i64 r.Dep] : AV)) (Option.some.inj h), rfl⟩
theorem ring_Pass_1_x1893_c (r : Int × (List Item) × (List Item)) (h : ring_Pass_1_x1893 = some r) : FnX Try.prog 60 [.ptr 0 0, .ptr 1 0] [.box [.nils], .box [.nils]] (.int .i64 r.1) [.box [.ref 2], .box [.ref 3], .arr 41 3 (List.map encItem r.2.1), .arr 41 3 (List.map encItem r.2.2)] := by
  unfold ring_Pass_1_x1893 at h
  refine fn_of_T (N := 2) rfl Try.func60 rfl (by kernel_rfl) Try.ntmps60 rfl ?_
  show T _ _ _ _ (mkA 20 [(0, .ptr 0 0), (1, .ptr 1 0)]) [.box [.nils], .box [.nils]]
  refine T.nilB 1 0 41 3 (cs := [.nils]) rfl rfl (cs' := [.ref 2]) rfl (aw' := [.box [.nils], .box [.ref 2], .arr 41 3 (List.map encItem [])]) rfl ?_
  refine T.nilB 0 0 41 3 (cs := [.nils]) rfl rfl (cs' := [.ref 3]) rfl (aw' := [.box [.ref 3], .box [.ref 2], .arr 41 3 (List.map encItem []), .arr 41 3 (List.map encItem [])]) rfl ?_
  refine T.seq ?_
  refine T.region ?_
  refine RS.op rfl (OP.q rfl (v_assign (v := .int .i64 0) rfl ?_))
  refine RS.nil ?_
  refine T.seq ?_
  obtain ⟨x2, hx2, h⟩ := bind_some h
  refine T.region ?_
  refine RS.op rfl (o_load_ptr rfl rfl (loadRow1 Ty.k39 (c := .ref 3) rfl ?_))
  refine RS.op rfl (o_call (as0 := [.ref 3]) (as1 := [.sl (List.map encItem ([] : List Item))]) (caps := []) (aw1 := [.box [.ref 3], .box [.ref 2], .arr 41 3 (List.map encItem []), .dead]) rfl rfl rfl (k_own' (v := .tup [.agg [.int .i64 x2.1.Key, .int .i64 x2.1.Val, .int .i64 x2.1.Dep], .ref 0, .int .i64 x2.2.2]) (obs := [.arr 41 3 (List.map encItem x2.2.1)]) (v' := .tup [.agg [.int .i64 x2.1.Key, .int .i64 x2.1.Val, .int .i64 x2.1.Dep], .ref 4, .int .i64 x2.2.2]) (aw' := [.box [.ref 3], .box [.ref 2], .arr 41 3 (List.map encItem []), .arr 41 3 (List.map encItem []), .arr 41 3 (List.map encItem x2.2.1)]) (ring_Take_c ([] : List Item) x2 hx2) (⟨pure_map encItem_p _, trivial⟩) rfl (obs_cons (flatOb_map fun _ => rfl) obs_nil) rfl rfl ?_))
  refine RS.op rfl (OP.q rfl (v_move (v := .tup [.agg [.int .i64 x2.1.Key, .int .i64 x2.1.Val, .int .i64 x2.1.Dep], .ref 4, .int .i64 x2.2.2]) rfl ?_))
  refine RS.op rfl (OP.q rfl (v_extract (v := .agg [.int .i64 x2.1.Key, .int .i64 x2.1.Val, .int .i64 x2.1.Dep]) rfl rfl ?_))
  refine RS.op rfl (OP.q rfl (v_extract (v := .ref 4) rfl rfl ?_))
  refine RS.op rfl (OP.q rfl (v_extract (v := .int .i64 x2.2.2) rfl rfl ?_))
  refine RS.op rfl (o_alloc Ty.z41 rfl (aw' := [.box [.ref 3], .box [.ref 2], .arr 41 3 (List.map encItem []), .arr 41 3 (List.map encItem []), .arr 41 3 (List.map encItem x2.2.1), .box [.int .i64 0, .int .i64 0, .int .i64 0]]) rfl ?_)
  refine RS.op rfl (o_store_ptr Ty.c41 Ty.i41 rfl (vs := [.int .i64 x2.1.Key, .int .i64 x2.1.Val, .int .i64 x2.1.Dep]) rfl rfl rfl rfl (cs' := [.int .i64 x2.1.Key, .int .i64 x2.1.Val, .int .i64 x2.1.Dep]) rfl (aw' := [.box [.ref 3], .box [.ref 2], .arr 41 3 (List.map encItem []), .arr 41 3 (List.map encItem []), .arr 41 3 (List.map encItem x2.2.1), .box [.int .i64 x2.1.Key, .int .i64 x2.1.Val, .int .i64 x2.1.Dep]]) rfl ?_)
  refine RS.op rfl (OP.q rfl (v_assign (v := .ref 4) rfl ?_))
  refine RS.op rfl (OP.q rfl (v_assign (v := .int .i64 x2.2.2) rfl ?_))
  refine RS.nil ?_
  refine T.seq ?_
  refine T.seq ?_
  refine T.region ?_
  refine RS.op rfl (OP.q rfl (v_move (v := .int .i64 x2.2.2) rfl ?_))
  refine RS.op rfl (OP.q rfl (v_eql rfl rfl ?_))
  refine RS.nil ?_
  refine T.cond (b := x2.2.2 == 0) rfl (fun hb_1 => ?_) (fun hb_1 => ?_)
  · replace h := ite_T h hb_1
    obtain ⟨x3, hx3, h⟩ := bind_some h
    refine T.region ?_
    refine RS.op rfl (o_load_ptr rfl rfl (loadRow1 Ty.k39 (c := .ref 2) rfl ?_))
    refine RS.op rfl (o_load_ptr rfl rfl (loadRowA Ty.k41 Ty.c41 rfl (cs := [.int .i64 x2.1.Key, .int .i64 x2.1.Val, .int .i64 x2.1.Dep]) rfl ?_))
    refine RS.op rfl (o_buildSlice (rows := List.map encItem [x2.1]) (vs := [.agg [.int .i64 x2.1.Key, .int .i64 x2.1.Val, .int .i64 x2.1.Dep]]) Ty.s39 Ty.z41 rfl rfl rfl rfl rfl (aw' := [.box [.ref 3], .box [.ref 2], .arr 41 3 (List.map encItem []), .arr 41 3 (List.map encItem []), .arr 41 3 (List.map encItem x2.2.1), .box [.int .i64 x2.1.Key, .int .i64 x2.1.Val, .int .i64 x2.1.Dep], .arr 41 3 (List.map encItem [x2.1])]) rfl ?_)
    refine RS.op rfl (o_app_ref (en := encItem) (xs := ([] : List Item)) (ys := ([x2.1] : List Item)) Ty.s39 (fun _ => rfl) rfl rfl rfl hx3 rfl (aw' := [.box [.ref 3], .box [.ref 2], .dead, .arr 41 3 (List.map encItem []), .arr 41 3 (List.map encItem x2.2.1), .box [.int .i64 x2.1.Key, .int .i64 x2.1.Val, .int .i64 x2.1.Dep], .dead, .arr 41 3 (List.map encItem x3)]) rfl ?_)
    refine RS.op rfl (OP.q rfl (v_move (v := .ref 4) rfl ?_))
    refine RS.op rfl (o_store_ptr Ty.c39 Ty.i39 rfl (vs := [.ref 7]) rfl rfl rfl rfl (cs' := [.ref 7]) rfl (aw' := [.box [.ref 3], .box [.ref 7], .dead, .arr 41 3 (List.map encItem []), .arr 41 3 (List.map encItem x2.2.1), .box [.int .i64 x2.1.Key, .int .i64 x2.1.Val, .int .i64 x2.1.Dep], .dead, .arr 41 3 (List.map encItem x3)]) rfl ?_)
    refine RS.op rfl (o_store_ptr Ty.c39 Ty.i39 rfl (vs := [.ref 4]) rfl rfl rfl rfl (cs' := [.ref 4]) rfl (aw' := [.box [.ref 4], .box [.ref 7], .dead, .arr 41 3 (List.map encItem []), .arr 41 3 (List.map encItem x2.2.1), .box [.int .i64 x2.1.Key, .int .i64 x2.1.Val, .int .i64 x2.1.Dep], .dead, .arr 41 3 (List.map encItem x3)]) rfl ?_)
    refine RS.nil ?_
    refine T.seq ?_
    refine T.region ?_
    refine RS.op rfl (OP.q rfl (v_move (v := .int .i64 x2.2.2) rfl ?_))
    refine RS.op rfl (OP.q rfl (v_assign (v := .int .i64 x2.2.2) rfl ?_))
    refine RS.nil ?_
    refine T.ret' (R := ?R2) ?hq2 ?_
    case hq2 => repeat (first | exact RetIs.base | refine RetIs.thn ?_ | refine RetIs.blk ?_ | refine RetIs.lq ?_)
    refine res_tmpA (v := .int .i64 x2.2.2) rfl ?_
    refine res_done ?_
    exact ret_norm (v := .int .i64 x2.2.2) (aw1 := [.box [.ref 4], .box [.ref 7], .dead, .arr 41 3 (List.map encItem []), .arr 41 3 (List.map encItem x2.2.1), .box [.int .i64 x2.1.Key, .int .i64 x2.1.Val, .int .i64 x2.1.Dep], .dead, .arr 41 3 (List.map encItem x3)]) (.int .i64 r.1) [0, 1, 4, 7] rfl (by decide) (by decide) (rn_int (congrArg (fun r : Int × (List Item) × (List Item) => r.1) (Option.some.inj h)).symm) (rw_box (cs := [.ref 2]) (ds := [.ref 4]) rfl ⟨rn_ref rfl, trivial⟩ (rw_box (cs := [.ref 3]) (ds := [.ref 7]) rfl ⟨rn_ref rfl, trivial⟩ (rw_arr rfl encItem_p (congrArg (fun r : Int × (List Item) × (List Item) => r.2.1) (Option.some.inj h)).symm (rw_arr rfl encItem_p (congrArg (fun r : Int × (List Item) × (List Item) => r.2.2) (Option.some.inj h)).symm (rw_nil))))) ⟨rfl, rfl⟩
  · replace h := ite_F h hb_1
    refine T.skip ?_
    refine T.seq ?_
    refine T.region ?_
    refine RS.op rfl (OP.q rfl (v_move (v := .int .i64 x2.2.2) rfl ?_))
    refine RS.op rfl (OP.q rfl (v_assign (v := .int .i64 x2.2.2) rfl ?_))
    refine RS.nil ?_
    refine T.ret' (R := ?R3) ?hq3 ?_
    case hq3 => repeat (first | exact RetIs.base | refine RetIs.thn ?_ | refine RetIs.blk ?_ | refine RetIs.lq ?_)
    refine res_tmpA (v := .int .i64 x2.2.2) rfl ?_
    refine res_done ?_
    exact ret_norm (v := .int .i64 x2.2.2) (aw1 := [.box [.ref 3], .box [.ref 2], .arr 41 3 (List.map encItem []), .arr 41 3 (List.map encItem []), .arr 41 3 (List.map encItem x2.2.1), .box [.int .i64 x2.1.Key, .int .i64 x2.1.Val, .int .i64 x2.1.Dep]]) (.int .i64 r.1) [0, 1, 3, 2] rfl (by decide) (by decide) (rn_int (congrArg (fun r : Int × (List Item) × (List Item) => r.1) (Option.some.inj h)).symm) (rw_box (cs := [.ref 2]) (ds := [.ref 3]) rfl ⟨rn_ref rfl, trivial⟩ (rw_box (cs := [.ref 3]) (ds := [.ref 2]) rfl ⟨rn_ref rfl, trivial⟩ (rw_arr rfl encItem_p (congrArg (fun r : Int × (List Item) × (List Item) => r.2.1) (Option.some.inj h)).symm (rw_arr rfl encItem_p (congrArg (fun r : Int × (List Item) × (List Item) => r.2.2) (Option.some.inj h)).symm (rw_nil))))) ⟨rfl, rfl⟩
theorem ring_Pass_2_x529f_c (p0 : Int) (p1 : List Item) (p2 : Int) (r : Int × Int × (List Item)) (h : ring_Pass_2_x529f p0 p1 p2 = some r) : FnX Try.prog 61 [.ptr 0 0, .ptr 1 0, .ptr 2 0, .ptr 3 0] [.box [.int .i64 p0], .box [.sl (List.map encItem p1)], .box [.nils], .box [.int .i64 p2]] (.int .i64 r.1) [.box [.int .i64 r.2.1], .box [.sl (List.map encItem p1)], .box [.ref 4], .box [.int .i64 p2], .arr 41 3 (List.map encItem r.2.2)] := by
  unfold ring_Pass_2_x529f at h
  refine fn_of_T (N := 4) rfl Try.func61 rfl (by kernel_rfl) Try.ntmps61 rfl ?_
  show T _ _ _ _ (mkA 27 [(0, .ptr 0 0), (1, .ptr 1 0), (2, .ptr 2 0), (3, .ptr 3 0)]) [.box [.int .i64 p0], .box [.sl (List.map encItem p1)], .box [.nils], .box [.int .i64 p2]]
  refine T.nilB 2 0 41 3 (cs := [.nils]) rfl rfl (cs' := [.ref 4]) rfl (aw' := [.box [.int .i64 p0], .box [.sl (List.map encItem p1)], .box [.ref 4], .box [.int .i64 p2], .arr 41 3 (List.map encItem [])]) rfl ?_
  refine T.seq ?_
  refine T.region ?_
  refine RS.op rfl (OP.q rfl (v_assign (v := .int .i64 0) rfl ?_))
  refine RS.nil ?_
  refine T.seq ?_
  refine T.seq ?_
  refine T.region ?_
  refine RS.op rfl (o_load_ptr rfl rfl (loadRow1 Ty.k3 (c := .int .i64 p0) rfl ?_))
  refine RS.op rfl (o_load_ptr rfl rfl (loadRow1 Ty.k39 (c := .sl (List.map encItem p1)) rfl ?_))
  refine RS.op rfl (OP.q rfl (v_len_sl Ty.s39 rfl ?_))
  refine RS.op rfl (OP.q rfl (v_eql rfl rfl ?_))
  refine RS.nil ?_
  refine T.cond (b := p0 == ((p1).length : Int)) rfl (fun hb_1 => ?_) (fun hb_1 => ?_)
  · replace h := ite_T h hb_1
    refine T.seq ?_
    refine T.region ?_
    refine RS.op rfl (OP.q rfl (v_assign (v := .int .i64 9) rfl ?_))
    refine RS.nil ?_
    refine T.ret' (R := ?R2) ?hq2 ?_
    case hq2 => repeat (first | exact RetIs.base | refine RetIs.thn ?_ | refine RetIs.blk ?_ | refine RetIs.lq ?_)
    refine res_tmpA (v := .int .i64 9) rfl ?_
    refine res_done ?_
    exact ret_norm (v := .int .i64 9) (aw1 := [.box [.int .i64 p0], .box [.sl (List.map encItem p1)], .box [.ref 4], .box [.int .i64 p2], .arr 41 3 (List.map encItem [])]) (.int .i64 r.1) [0, 1, 2, 3, 4] rfl (by decide) (by decide) (rn_int (congrArg (fun r : Int × Int × (List Item) => r.1) (Option.some.inj h)).symm) (rw_box (cs := [.int .i64 r.2.1]) (ds := [.int .i64 p0]) rfl ⟨rn_int (congrArg (fun r : Int × Int × (List Item) => r.2.1) (Option.some.inj h)).symm, trivial⟩ (rw_box (cs := [.sl (List.map encItem p1)]) (ds := [.sl (List.map encItem p1)]) rfl ⟨rn_sl encItem_p rfl, trivial⟩ (rw_box (cs := [.ref 4]) (ds := [.ref 4]) rfl ⟨rn_ref rfl, trivial⟩ (rw_box (cs := [.int .i64 p2]) (ds := [.int .i64 p2]) rfl ⟨rn_int rfl, trivial⟩ (rw_arr rfl encItem_p (congrArg (fun r : Int × Int × (List Item) => r.2.2) (Option.some.inj h)).symm (rw_nil)))))) ⟨rfl, rfl⟩
  · replace h := ite_F h hb_1
    refine T.skip ?_
    refine T.seq ?_
    obtain ⟨x3, hx3, h⟩ := bind_some h
    obtain ⟨x4, hx4, h⟩ := bind_some h
    refine T.drawn mixed (k := 12) rfl ?_
    refine RA.join 6 #[true, true, true, true, true, true, false, false, false, false, false, false] (mkA 27 [(0, .ptr 0 0), (1, .ptr 1 0), (2, .ptr 2 0), (3, .ptr 3 0), (4, .int .i64 0), (7, .int .i64 p0), (8, .sl (List.map encItem p1)), (9, .int .i64 ((p1).length : Int)), (10, .bool (p0 == ((p1).length : Int))), (12, .ref 4), (13, .int .i64 p2), (14, .sl (List.map encItem p1)), (15, .int .i64 p0), (16, .elt (encItem x3) 0), (17, .agg [.int .i64 x3.Key, .int .i64 x3.Val, .int .i64 x3.Dep])]) [.box [.int .i64 p0], .box [.sl (List.map encItem p1)], .box [.ref 4], .box [.int .i64 p2], .arr 41 3 (List.map encItem [])] ?_ (fun hS3 => ?_)
    · refine RA.a1 (i1 := 6) (l1 := #[true, true, true, true, true, true, true, false, false, false, false, false]) (by decide +kernel) (by decide +kernel) ?_
      refine RO.op rfl rfl (o_call (as0 := [.ref 4, .int .i64 p2, .agg [.int .i64 x3.Key, .int .i64 x3.Val, .int .i64 x3.Dep]]) (as1 := [.sl (List.map encItem ([] : List Item)), .int .i64 p2, .agg [.int .i64 x3.Key, .int .i64 x3.Val, .int .i64 x3.Dep]]) (caps := []) (aw1 := [.box [.int .i64 p0], .box [.sl (List.map encItem p1)], .box [.ref 4], .box [.int .i64 p2], .dead]) rfl rfl rfl (k_own' (v := .tup [.ref 0, .int .i64 x4.2]) (obs := [.arr 41 3 (List.map encItem x4.1)]) (v' := .tup [.ref 5, .int .i64 x4.2]) (aw' := [.box [.int .i64 p0], .box [.sl (List.map encItem p1)], .box [.ref 4], .box [.int .i64 p2], .arr 41 3 (List.map encItem []), .arr 41 3 (List.map encItem x4.1)]) (ring_Put_c ([] : List Item) p2 x3 x4 hx4) (⟨pure_map encItem_p _, pure_int _ _, pure_agg _ (pures_mem (⟨pure_int _ _, pure_int _ _, pure_int _ _, trivial⟩)), trivial⟩) rfl (obs_cons (flatOb_map fun _ => rfl) obs_nil) rfl rfl ?_))
      refine RA.t0 (i := 7) (li' := #[true, true, true, true, true, true, true, true, false, false, false, false]) rfl (by decide +kernel) (by decide +kernel) (by decide +kernel) (by decide +kernel) rfl rfl (v_move (v := .tup [.ref 5, .int .i64 x4.2]) rfl ?_)
      refine RA.t0 (i := 8) (li' := #[true, true, true, true, true, true, true, true, true, false, false, false]) rfl (by decide +kernel) (by decide +kernel) (by decide +kernel) (by decide +kernel) rfl rfl (v_extract (v := .ref 5) rfl rfl ?_)
      refine RA.t0 (i := 9) (li' := #[true, true, true, true, true, true, true, true, true, true, false, false]) rfl (by decide +kernel) (by decide +kernel) (by decide +kernel) (by decide +kernel) rfl rfl (v_extract (v := .int .i64 x4.2) rfl rfl ?_)
      refine RA.t0 (i := 10) (li' := #[true, true, true, true, true, true, true, true, true, true, true, false]) rfl (by decide +kernel) (by decide +kernel) (by decide +kernel) (by decide +kernel) rfl rfl (v_assign (v := .ref 5) rfl ?_)
      refine RA.t0 (i := 11) (li' := #[true, true, true, true, true, true, true, true, true, true, true, true]) rfl (by decide +kernel) (by decide +kernel) (by decide +kernel) (by decide +kernel) rfl rfl (v_assign (v := .int .i64 x4.2) rfl ?_)
      refine RA.done (by decide +kernel) ?_
      refine T.seq ?_
      refine T.seq ?_
      refine T.region ?_
      refine RS.op rfl (OP.q rfl (v_move (v := .int .i64 x4.2) rfl ?_))
      refine RS.op rfl (OP.q rfl (v_eql rfl rfl ?_))
      refine RS.nil ?_
      refine T.cond (b := x4.2 == 0) rfl (fun hb_17 => ?_) (fun hb_17 => ?_)
      · replace h := ite_T h hb_17
        refine T.region ?_
        refine RS.op rfl (o_load_ptr rfl rfl (loadRow1 Ty.k3 (c := .int .i64 p0) rfl ?_))
        refine RS.op rfl (OP.q rfl (v_add rfl rfl ?_))
        refine RS.op rfl (OP.q rfl (v_move (v := .ref 5) rfl ?_))
        refine RS.op rfl (o_store_ptr Ty.c3 Ty.i3 rfl (vs := [.int .i64 (IntKind.i64.wrap (p0 + 1))]) rfl rfl rfl rfl (cs' := [.int .i64 (IntKind.i64.wrap (p0 + 1))]) rfl (aw' := [.box [.int .i64 (IntKind.i64.wrap (p0 + 1))], .box [.sl (List.map encItem p1)], .box [.ref 4], .box [.int .i64 p2], .arr 41 3 (List.map encItem []), .arr 41 3 (List.map encItem x4.1)]) rfl ?_)
        refine RS.op rfl (o_store_ptr Ty.c39 Ty.i39 rfl (vs := [.ref 5]) rfl rfl rfl rfl (cs' := [.ref 5]) rfl (aw' := [.box [.int .i64 (IntKind.i64.wrap (p0 + 1))], .box [.sl (List.map encItem p1)], .box [.ref 5], .box [.int .i64 p2], .arr 41 3 (List.map encItem []), .arr 41 3 (List.map encItem x4.1)]) rfl ?_)
        refine RS.nil ?_
        refine T.seq ?_
        refine T.region ?_
        refine RS.op rfl (OP.q rfl (v_move (v := .int .i64 x4.2) rfl ?_))
        refine RS.op rfl (OP.q rfl (v_assign (v := .int .i64 x4.2) rfl ?_))
        refine RS.nil ?_
        refine T.ret' (R := ?R18) ?hq18 ?_
        case hq18 => repeat (first | exact RetIs.base | refine RetIs.thn ?_ | refine RetIs.blk ?_ | refine RetIs.lq ?_)
        refine res_tmpA (v := .int .i64 x4.2) rfl ?_
        refine res_done ?_
        exact ret_norm (v := .int .i64 x4.2) (aw1 := [.box [.int .i64 (IntKind.i64.wrap (p0 + 1))], .box [.sl (List.map encItem p1)], .box [.ref 5], .box [.int .i64 p2], .arr 41 3 (List.map encItem []), .arr 41 3 (List.map encItem x4.1)]) (.int .i64 r.1) [0, 1, 2, 3, 5] rfl (by decide) (by decide) (rn_int (congrArg (fun r : Int × Int × (List Item) => r.1) (Option.some.inj h)).symm) (rw_box (cs := [.int .i64 r.2.1]) (ds := [.int .i64 (IntKind.i64.wrap (p0 + 1))]) rfl ⟨rn_int (congrArg (fun r : Int × Int × (List Item) => r.2.1) (Option.some.inj h)).symm, trivial⟩ (rw_box (cs := [.sl (List.map encItem p1)]) (ds := [.sl (List.map encItem p1)]) rfl ⟨rn_sl encItem_p rfl, trivial⟩ (rw_box (cs := [.ref 4]) (ds := [.ref 5]) rfl ⟨rn_ref rfl, trivial⟩ (rw_box (cs := [.int .i64 p2]) (ds := [.int .i64 p2]) rfl ⟨rn_int rfl, trivial⟩ (rw_arr rfl encItem_p (congrArg (fun r : Int × Int × (List Item) => r.2.2) (Option.some.inj h)).symm (rw_nil)))))) ⟨rfl, rfl⟩
      · replace h := ite_F h hb_17
        refine T.skip ?_
        refine T.seq ?_
        refine T.region ?_
        refine RS.op rfl (OP.q rfl (v_move (v := .int .i64 x4.2) rfl ?_))
        refine RS.op rfl (OP.q rfl (v_assign (v := .int .i64 x4.2) rfl ?_))
        refine RS.nil ?_
        refine T.ret' (R := ?R19) ?hq19 ?_
        case hq19 => repeat (first | exact RetIs.base | refine RetIs.thn ?_ | refine RetIs.blk ?_ | refine RetIs.lq ?_)
        refine res_tmpA (v := .int .i64 x4.2) rfl ?_
        refine res_done ?_
        exact ret_norm (v := .int .i64 x4.2) (aw1 := [.box [.int .i64 p0], .box [.sl (List.map encItem p1)], .box [.ref 4], .box [.int .i64 p2], .arr 41 3 (List.map encItem []), .arr 41 3 (List.map encItem x4.1)]) (.int .i64 r.1) [0, 1, 2, 3, 4] rfl (by decide) (by decide) (rn_int (congrArg (fun r : Int × Int × (List Item) => r.1) (Option.some.inj h)).symm) (rw_box (cs := [.int .i64 r.2.1]) (ds := [.int .i64 p0]) rfl ⟨rn_int (congrArg (fun r : Int × Int × (List Item) => r.2.1) (Option.some.inj h)).symm, trivial⟩ (rw_box (cs := [.sl (List.map encItem p1)]) (ds := [.sl (List.map encItem p1)]) rfl ⟨rn_sl encItem_p rfl, trivial⟩ (rw_box (cs := [.ref 4]) (ds := [.ref 4]) rfl ⟨rn_ref rfl, trivial⟩ (rw_box (cs := [.int .i64 p2]) (ds := [.int .i64 p2]) rfl ⟨rn_int rfl, trivial⟩ (rw_arr rfl encItem_p (congrArg (fun r : Int × Int × (List Item) => r.2.2) (Option.some.inj h)).symm (rw_nil)))))) ⟨rfl, rfl⟩
    · refine RA.join 7 #[true, false, true, true, true, true, false, false, false, false, false, false] (mkA 27 [(0, .ptr 0 0), (1, .ptr 1 0), (2, .ptr 2 0), (3, .ptr 3 0), (4, .int .i64 0), (7, .int .i64 p0), (8, .sl (List.map encItem p1)), (9, .int .i64 ((p1).length : Int)), (10, .bool (p0 == ((p1).length : Int))), (12, .ref 4), (14, .sl (List.map encItem p1)), (15, .int .i64 p0), (16, .elt (encItem x3) 0), (17, .agg [.int .i64 x3.Key, .int .i64 x3.Val, .int .i64 x3.Dep])]) [.box [.int .i64 p0], .box [.sl (List.map encItem p1)], .box [.ref 4], .box [.int .i64 p2], .arr 41 3 (List.map encItem [])] ?_ (fun hS4 => ?_)
      · refine RA.a1 (i1 := 1) (l1 := #[true, true, true, true, true, true, false, false, false, false, false, false]) (by decide +kernel) (by decide +kernel) ?_
        refine RO.op rfl rfl (o_load_ptr rfl rfl (loadRow1 Ty.k3 (c := .int .i64 p2) rfl ?_))
        exact RA.weakR hS3 (Weak.mkN [] [0, 1, 2, 3, 4] (by decide) (by decide) rfl ⟨rn_ptr rfl, rn_ptr rfl, rn_ptr rfl, rn_ptr rfl, rn_int rfl, rn_int rfl, rn_sl encItem_p rfl, rn_int rfl, rn_bool rfl, rn_ref rfl, rn_int rfl, rn_sl encItem_p rfl, rn_int rfl, rn_elt (encItem_p _) (congrArg encItem rfl), rn_agg ⟨rn_int rfl, rn_int rfl, rn_int rfl, trivial⟩, trivial⟩ (rw_box (cs := [.int .i64 p0]) (ds := [.int .i64 p0]) rfl ⟨rn_int rfl, trivial⟩ (rw_box (cs := [.sl (List.map encItem p1)]) (ds := [.sl (List.map encItem p1)]) rfl ⟨rn_sl encItem_p rfl, trivial⟩ (rw_box (cs := [.ref 4]) (ds := [.ref 4]) rfl ⟨rn_ref rfl, trivial⟩ (rw_box (cs := [.int .i64 p2]) (ds := [.int .i64 p2]) rfl ⟨rn_int rfl, trivial⟩ (rw_arr rfl encItem_p rfl (rw_nil)))))))
      · refine RA.join 7 #[false, true, true, true, true, true, false, false, false, false, false, false] (mkA 27 [(0, .ptr 0 0), (1, .ptr 1 0), (2, .ptr 2 0), (3, .ptr 3 0), (4, .int .i64 0), (7, .int .i64 p0), (8, .sl (List.map encItem p1)), (9, .int .i64 ((p1).length : Int)), (10, .bool (p0 == ((p1).length : Int))), (13, .int .i64 p2), (14, .sl (List.map encItem p1)), (15, .int .i64 p0), (16, .elt (encItem x3) 0), (17, .agg [.int .i64 x3.Key, .int .i64 x3.Val, .int .i64 x3.Dep])]) [.box [.int .i64 p0], .box [.sl (List.map encItem p1)], .box [.ref 4], .box [.int .i64 p2], .arr 41 3 (List.map encItem [])] ?_ (fun hS5 => ?_)
        · refine RA.a1 (i1 := 0) (l1 := #[true, true, true, true, true, true, false, false, false, false, false, false]) (by decide +kernel) (by decide +kernel) ?_
          refine RO.op rfl rfl (o_load_ptr rfl rfl (loadRow1 Ty.k39 (c := .ref 4) rfl ?_))
          exact RA.weakR hS3 (Weak.mkN [] [0, 1, 2, 3, 4] (by decide) (by decide) rfl ⟨rn_ptr rfl, rn_ptr rfl, rn_ptr rfl, rn_ptr rfl, rn_int rfl, rn_int rfl, rn_sl encItem_p rfl, rn_int rfl, rn_bool rfl, rn_ref rfl, rn_int rfl, rn_sl encItem_p rfl, rn_int rfl, rn_elt (encItem_p _) (congrArg encItem rfl), rn_agg ⟨rn_int rfl, rn_int rfl, rn_int rfl, trivial⟩, trivial⟩ (rw_box (cs := [.int .i64 p0]) (ds := [.int .i64 p0]) rfl ⟨rn_int rfl, trivial⟩ (rw_box (cs := [.sl (List.map encItem p1)]) (ds := [.sl (List.map encItem p1)]) rfl ⟨rn_sl encItem_p rfl, trivial⟩ (rw_box (cs := [.ref 4]) (ds := [.ref 4]) rfl ⟨rn_ref rfl, trivial⟩ (rw_box (cs := [.int .i64 p2]) (ds := [.int .i64 p2]) rfl ⟨rn_int rfl, trivial⟩ (rw_arr rfl encItem_p rfl (rw_nil)))))))
        · refine RA.join 7 #[true, true, true, true, true, false, false, false, false, false, false, false] (mkA 27 [(0, .ptr 0 0), (1, .ptr 1 0), (2, .ptr 2 0), (3, .ptr 3 0), (4, .int .i64 0), (7, .int .i64 p0), (8, .sl (List.map encItem p1)), (9, .int .i64 ((p1).length : Int)), (10, .bool (p0 == ((p1).length : Int))), (12, .ref 4), (13, .int .i64 p2), (14, .sl (List.map encItem p1)), (15, .int .i64 p0), (16, .elt (encItem x3) 0)]) [.box [.int .i64 p0], .box [.sl (List.map encItem p1)], .box [.ref 4], .box [.int .i64 p2], .arr 41 3 (List.map encItem [])] ?_ (fun hS6 => ?_)
          · refine RA.a1 (i1 := 5) (l1 := #[true, true, true, true, true, true, false, false, false, false, false, false]) (by decide +kernel) (by decide +kernel) ?_
            refine RO.op rfl rfl (o_load_elt rfl (loadRowA Ty.k41 Ty.c41 rfl (cs := [.int .i64 x3.Key, .int .i64 x3.Val, .int .i64 x3.Dep]) rfl ?_))
            exact RA.weakR hS3 (Weak.mkN [] [0, 1, 2, 3, 4] (by decide) (by decide) rfl ⟨rn_ptr rfl, rn_ptr rfl, rn_ptr rfl, rn_ptr rfl, rn_int rfl, rn_int rfl, rn_sl encItem_p rfl, rn_int rfl, rn_bool rfl, rn_ref rfl, rn_int rfl, rn_sl encItem_p rfl, rn_int rfl, rn_elt (encItem_p _) (congrArg encItem rfl), rn_agg ⟨rn_int rfl, rn_int rfl, rn_int rfl, trivial⟩, trivial⟩ (rw_box (cs := [.int .i64 p0]) (ds := [.int .i64 p0]) rfl ⟨rn_int rfl, trivial⟩ (rw_box (cs := [.sl (List.map encItem p1)]) (ds := [.sl (List.map encItem p1)]) rfl ⟨rn_sl encItem_p rfl, trivial⟩ (rw_box (cs := [.ref 4]) (ds := [.ref 4]) rfl ⟨rn_ref rfl, trivial⟩ (rw_box (cs := [.int .i64 p2]) (ds := [.int .i64 p2]) rfl ⟨rn_int rfl, trivial⟩ (rw_arr rfl encItem_p rfl (rw_nil)))))))
          · refine RA.join 8 #[true, false, true, true, true, false, false, false, false, false, false, false] (mkA 27 [(0, .ptr 0 0), (1, .ptr 1 0), (2, .ptr 2 0), (3, .ptr 3 0), (4, .int .i64 0), (7, .int .i64 p0), (8, .sl (List.map encItem p1)), (9, .int .i64 ((p1).length : Int)), (10, .bool (p0 == ((p1).length : Int))), (12, .ref 4), (14, .sl (List.map encItem p1)), (15, .int .i64 p0), (16, .elt (encItem x3) 0)]) [.box [.int .i64 p0], .box [.sl (List.map encItem p1)], .box [.ref 4], .box [.int .i64 p2], .arr 41 3 (List.map encItem [])] ?_ (fun hS7 => ?_)
            · refine RA.a2 (i1 := 1) (l1 := #[true, true, true, true, true, false, false, false, false, false, false, false]) (i2 := 5) (l2 := #[true, false, true, true, true, true, false, false, false, false, false, false]) (by decide +kernel) (by decide +kernel) (by decide +kernel) ?_ ?_
              · refine RO.op rfl rfl (o_load_ptr rfl rfl (loadRow1 Ty.k3 (c := .int .i64 p2) rfl ?_))
                exact RA.weakR hS6 (Weak.mkN [] [0, 1, 2, 3, 4] (by decide) (by decide) rfl ⟨rn_ptr rfl, rn_ptr rfl, rn_ptr rfl, rn_ptr rfl, rn_int rfl, rn_int rfl, rn_sl encItem_p rfl, rn_int rfl, rn_bool rfl, rn_ref rfl, rn_int rfl, rn_sl encItem_p rfl, rn_int rfl, rn_elt (encItem_p _) (congrArg encItem rfl), trivial⟩ (rw_box (cs := [.int .i64 p0]) (ds := [.int .i64 p0]) rfl ⟨rn_int rfl, trivial⟩ (rw_box (cs := [.sl (List.map encItem p1)]) (ds := [.sl (List.map encItem p1)]) rfl ⟨rn_sl encItem_p rfl, trivial⟩ (rw_box (cs := [.ref 4]) (ds := [.ref 4]) rfl ⟨rn_ref rfl, trivial⟩ (rw_box (cs := [.int .i64 p2]) (ds := [.int .i64 p2]) rfl ⟨rn_int rfl, trivial⟩ (rw_arr rfl encItem_p rfl (rw_nil)))))))
              · refine RO.op rfl rfl (o_load_elt rfl (loadRowA Ty.k41 Ty.c41 rfl (cs := [.int .i64 x3.Key, .int .i64 x3.Val, .int .i64 x3.Dep]) rfl ?_))
                exact RA.weakR hS4 (Weak.mkN [] [0, 1, 2, 3, 4] (by decide) (by decide) rfl ⟨rn_ptr rfl, rn_ptr rfl, rn_ptr rfl, rn_ptr rfl, rn_int rfl, rn_int rfl, rn_sl encItem_p rfl, rn_int rfl, rn_bool rfl, rn_ref rfl, rn_sl encItem_p rfl, rn_int rfl, rn_elt (encItem_p _) (congrArg encItem rfl), rn_agg ⟨rn_int rfl, rn_int rfl, rn_int rfl, trivial⟩, trivial⟩ (rw_box (cs := [.int .i64 p0]) (ds := [.int .i64 p0]) rfl ⟨rn_int rfl, trivial⟩ (rw_box (cs := [.sl (List.map encItem p1)]) (ds := [.sl (List.map encItem p1)]) rfl ⟨rn_sl encItem_p rfl, trivial⟩ (rw_box (cs := [.ref 4]) (ds := [.ref 4]) rfl ⟨rn_ref rfl, trivial⟩ (rw_box (cs := [.int .i64 p2]) (ds := [.int .i64 p2]) rfl ⟨rn_int rfl, trivial⟩ (rw_arr rfl encItem_p rfl (rw_nil)))))))
            · refine RA.join 8 #[false, true, true, true, true, false, false, false, false, false, false, false] (mkA 27 [(0, .ptr 0 0), (1, .ptr 1 0), (2, .ptr 2 0), (3, .ptr 3 0), (4, .int .i64 0), (7, .int .i64 p0), (8, .sl (List.map encItem p1)), (9, .int .i64 ((p1).length : Int)), (10, .bool (p0 == ((p1).length : Int))), (13, .int .i64 p2), (14, .sl (List.map encItem p1)), (15, .int .i64 p0), (16, .elt (encItem x3) 0)]) [.box [.int .i64 p0], .box [.sl (List.map encItem p1)], .box [.ref 4], .box [.int .i64 p2], .arr 41 3 (List.map encItem [])] ?_ (fun hS8 => ?_)
              · refine RA.a2 (i1 := 0) (l1 := #[true, true, true, true, true, false, false, false, false, false, false, false]) (i2 := 5) (l2 := #[false, true, true, true, true, true, false, false, false, false, false, false]) (by decide +kernel) (by decide +kernel) (by decide +kernel) ?_ ?_
                · refine RO.op rfl rfl (o_load_ptr rfl rfl (loadRow1 Ty.k39 (c := .ref 4) rfl ?_))
                  exact RA.weakR hS6 (Weak.mkN [] [0, 1, 2, 3, 4] (by decide) (by decide) rfl ⟨rn_ptr rfl, rn_ptr rfl, rn_ptr rfl, rn_ptr rfl, rn_int rfl, rn_int rfl, rn_sl encItem_p rfl, rn_int rfl, rn_bool rfl, rn_ref rfl, rn_int rfl, rn_sl encItem_p rfl, rn_int rfl, rn_elt (encItem_p _) (congrArg encItem rfl), trivial⟩ (rw_box (cs := [.int .i64 p0]) (ds := [.int .i64 p0]) rfl ⟨rn_int rfl, trivial⟩ (rw_box (cs := [.sl (List.map encItem p1)]) (ds := [.sl (List.map encItem p1)]) rfl ⟨rn_sl encItem_p rfl, trivial⟩ (rw_box (cs := [.ref 4]) (ds := [.ref 4]) rfl ⟨rn_ref rfl, trivial⟩ (rw_box (cs := [.int .i64 p2]) (ds := [.int .i64 p2]) rfl ⟨rn_int rfl, trivial⟩ (rw_arr rfl encItem_p rfl (rw_nil)))))))
                · refine RO.op rfl rfl (o_load_elt rfl (loadRowA Ty.k41 Ty.c41 rfl (cs := [.int .i64 x3.Key, .int .i64 x3.Val, .int .i64 x3.Dep]) rfl ?_))
                  exact RA.weakR hS5 (Weak.mkN [] [0, 1, 2, 3, 4] (by decide) (by decide) rfl ⟨rn_ptr rfl, rn_ptr rfl, rn_ptr rfl, rn_ptr rfl, rn_int rfl, rn_int rfl, rn_sl encItem_p rfl, rn_int rfl, rn_bool rfl, rn_int rfl, rn_sl encItem_p rfl, rn_int rfl, rn_elt (encItem_p _) (congrArg encItem rfl), rn_agg ⟨rn_int rfl, rn_int rfl, rn_int rfl, trivial⟩, trivial⟩ (rw_box (cs := [.int .i64 p0]) (ds := [.int .i64 p0]) rfl ⟨rn_int rfl, trivial⟩ (rw_box (cs := [.sl (List.map encItem p1)]) (ds := [.sl (List.map encItem p1)]) rfl ⟨rn_sl encItem_p rfl, trivial⟩ (rw_box (cs := [.ref 4]) (ds := [.ref 4]) rfl ⟨rn_ref rfl, trivial⟩ (rw_box (cs := [.int .i64 p2]) (ds := [.int .i64 p2]) rfl ⟨rn_int rfl, trivial⟩ (rw_arr rfl encItem_p rfl (rw_nil)))))))
              · refine RA.join 9 #[false, false, true, true, true, false, false, false, false, false, false, false] (mkA 27 [(0, .ptr 0 0), (1, .ptr 1 0), (2, .ptr 2 0), (3, .ptr 3 0), (4, .int .i64 0), (7, .int .i64 p0), (8, .sl (List.map encItem p1)), (9, .int .i64 ((p1).length : Int)), (10, .bool (p0 == ((p1).length : Int))), (14, .sl (List.map encItem p1)), (15, .int .i64 p0), (16, .elt (encItem x3) 0)]) [.box [.int .i64 p0], .box [.sl (List.map encItem p1)], .box [.ref 4], .box [.int .i64 p2], .arr 41 3 (List.map encItem [])] ?_ (fun hS9 => ?_)
                · refine RA.a3 (i1 := 0) (l1 := #[true, false, true, true, true, false, false, false, false, false, false, false]) (i2 := 1) (l2 := #[false, true, true, true, true, false, false, false, false, false, false, false]) (i3 := 5) (l3 := #[false, false, true, true, true, true, false, false, false, false, false, false]) (by decide +kernel) (by decide +kernel) (by decide +kernel) (by decide +kernel) ?_ ?_ ?_
                  · refine RO.op rfl rfl (o_load_ptr rfl rfl (loadRow1 Ty.k39 (c := .ref 4) rfl ?_))
                    exact RA.weakR hS7 (Weak.mkN [] [0, 1, 2, 3, 4] (by decide) (by decide) rfl ⟨rn_ptr rfl, rn_ptr rfl, rn_ptr rfl, rn_ptr rfl, rn_int rfl, rn_int rfl, rn_sl encItem_p rfl, rn_int rfl, rn_bool rfl, rn_ref rfl, rn_sl encItem_p rfl, rn_int rfl, rn_elt (encItem_p _) (congrArg encItem rfl), trivial⟩ (rw_box (cs := [.int .i64 p0]) (ds := [.int .i64 p0]) rfl ⟨rn_int rfl, trivial⟩ (rw_box (cs := [.sl (List.map encItem p1)]) (ds := [.sl (List.map encItem p1)]) rfl ⟨rn_sl encItem_p rfl, trivial⟩ (rw_box (cs := [.ref 4]) (ds := [.ref 4]) rfl ⟨rn_ref rfl, trivial⟩ (rw_box (cs := [.int .i64 p2]) (ds := [.int .i64 p2]) rfl ⟨rn_int rfl, trivial⟩ (rw_arr rfl encItem_p rfl (rw_nil)))))))
                  · refine RO.op rfl rfl (o_load_ptr rfl rfl (loadRow1 Ty.k3 (c := .int .i64 p2) rfl ?_))
                    exact RA.weakR hS8 (Weak.mkN [] [0, 1, 2, 3, 4] (by decide) (by decide) rfl ⟨rn_ptr rfl, rn_ptr rfl, rn_ptr rfl, rn_ptr rfl, rn_int rfl, rn_int rfl, rn_sl encItem_p rfl, rn_int rfl, rn_bool rfl, rn_int rfl, rn_sl encItem_p rfl, rn_int rfl, rn_elt (encItem_p _) (congrArg encItem rfl), trivial⟩ (rw_box (cs := [.int .i64 p0]) (ds := [.int .i64 p0]) rfl ⟨rn_int rfl, trivial⟩ (rw_box (cs := [.sl (List.map encItem p1)]) (ds := [.sl (List.map encItem p1)]) rfl ⟨rn_sl encItem_p rfl, trivial⟩ (rw_box (cs := [.ref 4]) (ds := [.ref 4]) rfl ⟨rn_ref rfl, trivial⟩ (rw_box (cs := [.int .i64 p2]) (ds := [.int .i64 p2]) rfl ⟨rn_int rfl, trivial⟩ (rw_arr rfl encItem_p rfl (rw_nil)))))))
                  · refine RO.op rfl rfl (o_load_elt rfl (loadRowA Ty.k41 Ty.c41 rfl (cs := [.int .i64 x3.Key, .int .i64 x3.Val, .int .i64 x3.Dep]) rfl ?_))
                    refine RA.a2 (i1 := 0) (l1 := #[true, false, true, true, true, true, false, false, false, false, false, false]) (i2 := 1) (l2 := #[false, true, true, true, true, true, false, false, false, false, false, false]) (by decide +kernel) (by decide +kernel) (by decide +kernel) ?_ ?_
                    · refine RO.op rfl rfl (o_load_ptr rfl rfl (loadRow1 Ty.k39 (c := .ref 4) rfl ?_))
                      exact RA.weakR hS4 (Weak.mkN [] [0, 1, 2, 3, 4] (by decide) (by decide) rfl ⟨rn_ptr rfl, rn_ptr rfl, rn_ptr rfl, rn_ptr rfl, rn_int rfl, rn_int rfl, rn_sl encItem_p rfl, rn_int rfl, rn_bool rfl, rn_ref rfl, rn_sl encItem_p rfl, rn_int rfl, rn_elt (encItem_p _) (congrArg encItem rfl), rn_agg ⟨rn_int rfl, rn_int rfl, rn_int rfl, trivial⟩, trivial⟩ (rw_box (cs := [.int .i64 p0]) (ds := [.int .i64 p0]) rfl ⟨rn_int rfl, trivial⟩ (rw_box (cs := [.sl (List.map encItem p1)]) (ds := [.sl (List.map encItem p1)]) rfl ⟨rn_sl encItem_p rfl, trivial⟩ (rw_box (cs := [.ref 4]) (ds := [.ref 4]) rfl ⟨rn_ref rfl, trivial⟩ (rw_box (cs := [.int .i64 p2]) (ds := [.int .i64 p2]) rfl ⟨rn_int rfl, trivial⟩ (rw_arr rfl encItem_p rfl (rw_nil)))))))
                    · refine RO.op rfl rfl (o_load_ptr rfl rfl (loadRow1 Ty.k3 (c := .int .i64 p2) rfl ?_))
                      exact RA.weakR hS5 (Weak.mkN [] [0, 1, 2, 3, 4] (by decide) (by decide) rfl ⟨rn_ptr rfl, rn_ptr rfl, rn_ptr rfl, rn_ptr rfl, rn_int rfl, rn_int rfl, rn_sl encItem_p rfl, rn_int rfl, rn_bool rfl, rn_int rfl, rn_sl encItem_p rfl, rn_int rfl, rn_elt (encItem_p _) (congrArg encItem rfl), rn_agg ⟨rn_int rfl, rn_int rfl, rn_int rfl, trivial⟩, trivial⟩ (rw_box (cs := [.int .i64 p0]) (ds := [.int .i64 p0]) rfl ⟨rn_int rfl, trivial⟩ (rw_box (cs := [.sl (List.map encItem p1)]) (ds := [.sl (List.map encItem p1)]) rfl ⟨rn_sl encItem_p rfl, trivial⟩ (rw_box (cs := [.ref 4]) (ds := [.ref 4]) rfl ⟨rn_ref rfl, trivial⟩ (rw_box (cs := [.int .i64 p2]) (ds := [.int .i64 p2]) rfl ⟨rn_int rfl, trivial⟩ (rw_arr rfl encItem_p rfl (rw_nil)))))))
                · refine RA.join 9 #[true, true, false, true, false, false, false, false, false, false, false, false] (mkA 27 [(0, .ptr 0 0), (1, .ptr 1 0), (2, .ptr 2 0), (3, .ptr 3 0), (4, .int .i64 0), (7, .int .i64 p0), (8, .sl (List.map encItem p1)), (9, .int .i64 ((p1).length : Int)), (10, .bool (p0 == ((p1).length : Int))), (12, .ref 4), (13, .int .i64 p2), (15, .int .i64 p0)]) [.box [.int .i64 p0], .box [.sl (List.map encItem p1)], .box [.ref 4], .box [.int .i64 p2], .arr 41 3 (List.map encItem [])] ?_ (fun hS10 => ?_)
                  · refine RA.a1 (i1 := 2) (l1 := #[true, true, true, true, false, false, false, false, false, false, false, false]) (by decide +kernel) (by decide +kernel) ?_
                    refine RO.op rfl rfl (o_load_ptr rfl rfl (loadRow1 Ty.k39 (c := .sl (List.map encItem p1)) rfl ?_))
                    refine RA.t0 (i := 4) (li' := #[true, true, true, true, true, false, false, false, false, false, false, false]) rfl (by decide +kernel) (by decide +kernel) (by decide +kernel) (by decide +kernel) rfl rfl (v_index_sl Ty.s39 (fun _ => rfl) rfl rfl hx3 ?_)
                    exact RA.weakR hS6 (Weak.mkN [] [0, 1, 2, 3, 4] (by decide) (by decide) rfl ⟨rn_ptr rfl, rn_ptr rfl, rn_ptr rfl, rn_ptr rfl, rn_int rfl, rn_int rfl, rn_sl encItem_p rfl, rn_int rfl, rn_bool rfl, rn_ref rfl, rn_int rfl, rn_sl encItem_p rfl, rn_int rfl, rn_elt (encItem_p _) (congrArg encItem rfl), trivial⟩ (rw_box (cs := [.int .i64 p0]) (ds := [.int .i64 p0]) rfl ⟨rn_int rfl, trivial⟩ (rw_box (cs := [.sl (List.map encItem p1)]) (ds := [.sl (List.map encItem p1)]) rfl ⟨rn_sl encItem_p rfl, trivial⟩ (rw_box (cs := [.ref 4]) (ds := [.ref 4]) rfl ⟨rn_ref rfl, trivial⟩ (rw_box (cs := [.int .i64 p2]) (ds := [.int .i64 p2]) rfl ⟨rn_int rfl, trivial⟩ (rw_arr rfl encItem_p rfl (rw_nil)))))))
                  · refine RA.join 9 #[true, true, true, false, false, false, false, false, false, false, false, false] (mkA 27 [(0, .ptr 0 0), (1, .ptr 1 0), (2, .ptr 2 0), (3, .ptr 3 0), (4, .int .i64 0), (7, .int .i64 p0), (8, .sl (List.map encItem p1)), (9, .int .i64 ((p1).length : Int)), (10, .bool (p0 == ((p1).length : Int))), (12, .ref 4), (13, .int .i64 p2), (14, .sl (List.map encItem p1))]) [.box [.int .i64 p0], .box [.sl (List.map encItem p1)], .box [.ref 4], .box [.int .i64 p2], .arr 41 3 (List.map encItem [])] ?_ (fun hS11 => ?_)
                    · refine RA.a1 (i1 := 3) (l1 := #[true, true, true, true, false, false, false, false, false, false, false, false]) (by decide +kernel) (by decide +kernel) ?_
                      refine RO.op rfl rfl (o_load_ptr rfl rfl (loadRow1 Ty.k3 (c := .int .i64 p0) rfl ?_))
                      refine RA.t0 (i := 4) (li' := #[true, true, true, true, true, false, false, false, false, false, false, false]) rfl (by decide +kernel) (by decide +kernel) (by decide +kernel) (by decide +kernel) rfl rfl (v_index_sl Ty.s39 (fun _ => rfl) rfl rfl hx3 ?_)
                      exact RA.weakR hS6 (Weak.mkN [] [0, 1, 2, 3, 4] (by decide) (by decide) rfl ⟨rn_ptr rfl, rn_ptr rfl, rn_ptr rfl, rn_ptr rfl, rn_int rfl, rn_int rfl, rn_sl encItem_p rfl, rn_int rfl, rn_bool rfl, rn_ref rfl, rn_int rfl, rn_sl encItem_p rfl, rn_int rfl, rn_elt (encItem_p _) (congrArg encItem rfl), trivial⟩ (rw_box (cs := [.int .i64 p0]) (ds := [.int .i64 p0]) rfl ⟨rn_int rfl, trivial⟩ (rw_box (cs := [.sl (List.map encItem p1)]) (ds := [.sl (List.map encItem p1)]) rfl ⟨rn_sl encItem_p rfl, trivial⟩ (rw_box (cs := [.ref 4]) (ds := [.ref 4]) rfl ⟨rn_ref rfl, trivial⟩ (rw_box (cs := [.int .i64 p2]) (ds := [.int .i64 p2]) rfl ⟨rn_int rfl, trivial⟩ (rw_arr rfl encItem_p rfl (rw_nil)))))))
                    · refine RA.join 10 #[true, false, false, true, false, false, false, false, false, false, false, false] (mkA 27 [(0, .ptr 0 0), (1, .ptr 1 0), (2, .ptr 2 0), (3, .ptr 3 0), (4, .int .i64 0), (7, .int .i64 p0), (8, .sl (List.map encItem p1)), (9, .int .i64 ((p1).length : Int)), (10, .bool (p0 == ((p1).length : Int))), (12, .ref 4), (15, .int .i64 p0)]) [.box [.int .i64 p0], .box [.sl (List.map encItem p1)], .box [.ref 4], .box [.int .i64 p2], .arr 41 3 (List.map encItem [])] ?_ (fun hS12 => ?_)
                      · refine RA.a2 (i1 := 1) (l1 := #[true, true, false, true, false, false, false, false, false, false, false, false]) (i2 := 2) (l2 := #[true, false, true, true, false, false, false, false, false, false, false, false]) (by decide +kernel) (by decide +kernel) (by decide +kernel) ?_ ?_
                        · refine RO.op rfl rfl (o_load_ptr rfl rfl (loadRow1 Ty.k3 (c := .int .i64 p2) rfl ?_))
                          exact RA.weakR hS10 (Weak.mkN [] [0, 1, 2, 3, 4] (by decide) (by decide) rfl ⟨rn_ptr rfl, rn_ptr rfl, rn_ptr rfl, rn_ptr rfl, rn_int rfl, rn_int rfl, rn_sl encItem_p rfl, rn_int rfl, rn_bool rfl, rn_ref rfl, rn_int rfl, rn_int rfl, trivial⟩ (rw_box (cs := [.int .i64 p0]) (ds := [.int .i64 p0]) rfl ⟨rn_int rfl, trivial⟩ (rw_box (cs := [.sl (List.map encItem p1)]) (ds := [.sl (List.map encItem p1)]) rfl ⟨rn_sl encItem_p rfl, trivial⟩ (rw_box (cs := [.ref 4]) (ds := [.ref 4]) rfl ⟨rn_ref rfl, trivial⟩ (rw_box (cs := [.int .i64 p2]) (ds := [.int .i64 p2]) rfl ⟨rn_int rfl, trivial⟩ (rw_arr rfl encItem_p rfl (rw_nil)))))))
                        · refine RO.op rfl rfl (o_load_ptr rfl rfl (loadRow1 Ty.k39 (c := .sl (List.map encItem p1)) rfl ?_))
                          refine RA.t0 (i := 4) (li' := #[true, false, true, true, true, false, false, false, false, false, false, false]) rfl (by decide +kernel) (by decide +kernel) (by decide +kernel) (by decide +kernel) rfl rfl (v_index_sl Ty.s39 (fun _ => rfl) rfl rfl hx3 ?_)
                          exact RA.weakR hS7 (Weak.mkN [] [0, 1, 2, 3, 4] (by decide) (by decide) rfl ⟨rn_ptr rfl, rn_ptr rfl, rn_ptr rfl, rn_ptr rfl, rn_int rfl, rn_int rfl, rn_sl encItem_p rfl, rn_int rfl, rn_bool rfl, rn_ref rfl, rn_sl encItem_p rfl, rn_int rfl, rn_elt (encItem_p _) (congrArg encItem rfl), trivial⟩ (rw_box (cs := [.int .i64 p0]) (ds := [.int .i64 p0]) rfl ⟨rn_int rfl, trivial⟩ (rw_box (cs := [.sl (List.map encItem p1)]) (ds := [.sl (List.map encItem p1)]) rfl ⟨rn_sl encItem_p rfl, trivial⟩ (rw_box (cs := [.ref 4]) (ds := [.ref 4]) rfl ⟨rn_ref rfl, trivial⟩ (rw_box (cs := [.int .i64 p2]) (ds := [.int .i64 p2]) rfl ⟨rn_int rfl, trivial⟩ (rw_arr rfl encItem_p rfl (rw_nil)))))))
                      · refine RA.join 10 #[false, true, false, true, false, false, false, false, false, false, false, false] (mkA 27 [(0, .ptr 0 0), (1, .ptr 1 0), (2, .ptr 2 0), (3, .ptr 3 0), (4, .int .i64 0), (7, .int .i64 p0), (8, .sl (List.map encItem p1)), (9, .int .i64 ((p1).length : Int)), (10, .bool (p0 == ((p1).length : Int))), (13, .int .i64 p2), (15, .int .i64 p0)]) [.box [.int .i64 p0], .box [.sl (List.map encItem p1)], .box [.ref 4], .box [.int .i64 p2], .arr 41 3 (List.map encItem [])] ?_ (fun hS13 => ?_)
                        · refine RA.a2 (i1 := 0) (l1 := #[true, true, false, true, false, false, false, false, false, false, false, false]) (i2 := 2) (l2 := #[false, true, true, true, false, false, false, false, false, false, false, false]) (by decide +kernel) (by decide +kernel) (by decide +kernel) ?_ ?_
                          · refine RO.op rfl rfl (o_load_ptr rfl rfl (loadRow1 Ty.k39 (c := .ref 4) rfl ?_))
                            exact RA.weakR hS10 (Weak.mkN [] [0, 1, 2, 3, 4] (by decide) (by decide) rfl ⟨rn_ptr rfl, rn_ptr rfl, rn_ptr rfl, rn_ptr rfl, rn_int rfl, rn_int rfl, rn_sl encItem_p rfl, rn_int rfl, rn_bool rfl, rn_ref rfl, rn_int rfl, rn_int rfl, trivial⟩ (rw_box (cs := [.int .i64 p0]) (ds := [.int .i64 p0]) rfl ⟨rn_int rfl, trivial⟩ (rw_box (cs := [.sl (List.map encItem p1)]) (ds := [.sl (List.map encItem p1)]) rfl ⟨rn_sl encItem_p rfl, trivial⟩ (rw_box (cs := [.ref 4]) (ds := [.ref 4]) rfl ⟨rn_ref rfl, trivial⟩ (rw_box (cs := [.int .i64 p2]) (ds := [.int .i64 p2]) rfl ⟨rn_int rfl, trivial⟩ (rw_arr rfl encItem_p rfl (rw_nil)))))))
                          · refine RO.op rfl rfl (o_load_ptr rfl rfl (loadRow1 Ty.k39 (c := .sl (List.map encItem p1)) rfl ?_))
                            refine RA.t0 (i := 4) (li' := #[false, true, true, true, true, false, false, false, false, false, false, false]) rfl (by decide +kernel) (by decide +kernel) (by decide +kernel) (by decide +kernel) rfl rfl (v_index_sl Ty.s39 (fun _ => rfl) rfl rfl hx3 ?_)
                            exact RA.weakR hS8 (Weak.mkN [] [0, 1, 2, 3, 4] (by decide) (by decide) rfl ⟨rn_ptr rfl, rn_ptr rfl, rn_ptr rfl, rn_ptr rfl, rn_int rfl, rn_int rfl, rn_sl encItem_p rfl, rn_int rfl, rn_bool rfl, rn_int rfl, rn_sl encItem_p rfl, rn_int rfl, rn_elt (encItem_p _) (congrArg encItem rfl), trivial⟩ (rw_box (cs := [.int .i64 p0]) (ds := [.int .i64 p0]) rfl ⟨rn_int rfl, trivial⟩ (rw_box (cs := [.sl (List.map encItem p1)]) (ds := [.sl (List.map encItem p1)]) rfl ⟨rn_sl encItem_p rfl, trivial⟩ (rw_box (cs := [.ref 4]) (ds := [.ref 4]) rfl ⟨rn_ref rfl, trivial⟩ (rw_box (cs := [.int .i64 p2]) (ds := [.int .i64 p2]) rfl ⟨rn_int rfl, trivial⟩ (rw_arr rfl encItem_p rfl (rw_nil)))))))
                        · refine RA.join 10 #[true, false, true, false, false, false, false, false, false, false, false, false] (mkA 27 [(0, .ptr 0 0), (1, .ptr 1 0), (2, .ptr 2 0), (3, .ptr 3 0), (4, .int .i64 0), (7, .int .i64 p0), (8, .sl (List.map encItem p1)), (9, .int .i64 ((p1).length : Int)), (10, .bool (p0 == ((p1).length : Int))), (12, .ref 4), (14, .sl (List.map encItem p1))]) [.box [.int .i64 p0], .box [.sl (List.map encItem p1)], .box [.ref 4], .box [.int .i64 p2], .arr 41 3 (List.map encItem [])] ?_ (fun hS14 => ?_)
                          · refine RA.a2 (i1 := 1) (l1 := #[true, true, true, false, false, false, false, false, false, false, false, false]) (i2 := 3) (l2 := #[true, false, true, true, false, false, false, false, false, false, false, false]) (by decide +kernel) (by decide +kernel) (by decide +kernel) ?_ ?_
                            · refine RO.op rfl rfl (o_load_ptr rfl rfl (loadRow1 Ty.k3 (c := .int .i64 p2) rfl ?_))
                              exact RA.weakR hS11 (Weak.mkN [] [0, 1, 2, 3, 4] (by decide) (by decide) rfl ⟨rn_ptr rfl, rn_ptr rfl, rn_ptr rfl, rn_ptr rfl, rn_int rfl, rn_int rfl, rn_sl encItem_p rfl, rn_int rfl, rn_bool rfl, rn_ref rfl, rn_int rfl, rn_sl encItem_p rfl, trivial⟩ (rw_box (cs := [.int .i64 p0]) (ds := [.int .i64 p0]) rfl ⟨rn_int rfl, trivial⟩ (rw_box (cs := [.sl (List.map encItem p1)]) (ds := [.sl (List.map encItem p1)]) rfl ⟨rn_sl encItem_p rfl, trivial⟩ (rw_box (cs := [.ref 4]) (ds := [.ref 4]) rfl ⟨rn_ref rfl, trivial⟩ (rw_box (cs := [.int .i64 p2]) (ds := [.int .i64 p2]) rfl ⟨rn_int rfl, trivial⟩ (rw_arr rfl encItem_p rfl (rw_nil)))))))
                            · refine RO.op rfl rfl (o_load_ptr rfl rfl (loadRow1 Ty.k3 (c := .int .i64 p0) rfl ?_))
                              refine RA.t0 (i := 4) (li' := #[true, false, true, true, true, false, false, false, false, false, false, false]) rfl (by decide +kernel) (by decide +kernel) (by decide +kernel) (by decide +kernel) rfl rfl (v_index_sl Ty.s39 (fun _ => rfl) rfl rfl hx3 ?_)
                              exact RA.weakR hS7 (Weak.mkN [] [0, 1, 2, 3, 4] (by decide) (by decide) rfl ⟨rn_ptr rfl, rn_ptr rfl, rn_ptr rfl, rn_ptr rfl, rn_int rfl, rn_int rfl, rn_sl encItem_p rfl, rn_int rfl, rn_bool rfl, rn_ref rfl, rn_sl encItem_p rfl, rn_int rfl, rn_elt (encItem_p _) (congrArg encItem rfl), trivial⟩ (rw_box (cs := [.int .i64 p0]) (ds := [.int .i64 p0]) rfl ⟨rn_int rfl, trivial⟩ (rw_box (cs := [.sl (List.map encItem p1)]) (ds := [.sl (List.map encItem p1)]) rfl ⟨rn_sl encItem_p rfl, trivial⟩ (rw_box (cs := [.ref 4]) (ds := [.ref 4]) rfl ⟨rn_ref rfl, trivial⟩ (rw_box (cs := [.int .i64 p2]) (ds := [.int .i64 p2]) rfl ⟨rn_int rfl, trivial⟩ (rw_arr rfl encItem_p rfl (rw_nil)))))))
                          · refine RA.join 10 #[false, true, true, false, false, false, false, false, false, false, false, false] (mkA 27 [(0, .ptr 0 0), (1, .ptr 1 0), (2, .ptr 2 0), (3, .ptr 3 0), (4, .int .i64 0), (7, .int .i64 p0), (8, .sl (List.map encItem p1)), (9, .int .i64 ((p1).length : Int)), (10, .bool (p0 == ((p1).length : Int))), (13, .int .i64 p2), (14, .sl (List.map encItem p1))]) [.box [.int .i64 p0], .box [.sl (List.map encItem p1)], .box [.ref 4], .box [.int .i64 p2], .arr 41 3 (List.map encItem [])] ?_ (fun hS15 => ?_)
                            · refine RA.a2 (i1 := 0) (l1 := #[true, true, true, false, false, false, false, false, false, false, false, false]) (i2 := 3) (l2 := #[false, true, true, true, false, false, false, false, false, false, false, false]) (by decide +kernel) (by decide +kernel) (by decide +kernel) ?_ ?_
                              · refine RO.op rfl rfl (o_load_ptr rfl rfl (loadRow1 Ty.k39 (c := .ref 4) rfl ?_))
                                exact RA.weakR hS11 (Weak.mkN [] [0, 1, 2, 3, 4] (by decide) (by decide) rfl ⟨rn_ptr rfl, rn_ptr rfl, rn_ptr rfl, rn_ptr rfl, rn_int rfl, rn_int rfl, rn_sl encItem_p rfl, rn_int rfl, rn_bool rfl, rn_ref rfl, rn_int rfl, rn_sl encItem_p rfl, trivial⟩ (rw_box (cs := [.int .i64 p0]) (ds := [.int .i64 p0]) rfl ⟨rn_int rfl, trivial⟩ (rw_box (cs := [.sl (List.map encItem p1)]) (ds := [.sl (List.map encItem p1)]) rfl ⟨rn_sl encItem_p rfl, trivial⟩ (rw_box (cs := [.ref 4]) (ds := [.ref 4]) rfl ⟨rn_ref rfl, trivial⟩ (rw_box (cs := [.int .i64 p2]) (ds := [.int .i64 p2]) rfl ⟨rn_int rfl, trivial⟩ (rw_arr rfl encItem_p rfl (rw_nil)))))))
                              · refine RO.op rfl rfl (o_load_ptr rfl rfl (loadRow1 Ty.k3 (c := .int .i64 p0) rfl ?_))
                                refine RA.t0 (i := 4) (li' := #[false, true, true, true, true, false, false, false, false, false, false, false]) rfl (by decide +kernel) (by decide +kernel) (by decide +kernel) (by decide +kernel) rfl rfl (v_index_sl Ty.s39 (fun _ => rfl) rfl rfl hx3 ?_)
                                exact RA.weakR hS8 (Weak.mkN [] [0, 1, 2, 3, 4] (by decide) (by decide) rfl ⟨rn_ptr rfl, rn_ptr rfl, rn_ptr rfl, rn_ptr rfl, rn_int rfl, rn_int rfl, rn_sl encItem_p rfl, rn_int rfl, rn_bool rfl, rn_int rfl, rn_sl encItem_p rfl, rn_int rfl, rn_elt (encItem_p _) (congrArg encItem rfl), trivial⟩ (rw_box (cs := [.int .i64 p0]) (ds := [.int .i64 p0]) rfl ⟨rn_int rfl, trivial⟩ (rw_box (cs := [.sl (List.map encItem p1)]) (ds := [.sl (List.map encItem p1)]) rfl ⟨rn_sl encItem_p rfl, trivial⟩ (rw_box (cs := [.ref 4]) (ds := [.ref 4]) rfl ⟨rn_ref rfl, trivial⟩ (rw_box (cs := [.int .i64 p2]) (ds := [.int .i64 p2]) rfl ⟨rn_int rfl, trivial⟩ (rw_arr rfl encItem_p rfl (rw_nil)))))))
                            · refine RA.join 10 #[true, true, false, false, false, false, false, false, false, false, false, false] (mkA 27 [(0, .ptr 0 0), (1, .ptr 1 0), (2, .ptr 2 0), (3, .ptr 3 0), (4, .int .i64 0), (7, .int .i64 p0), (8, .sl (List.map encItem p1)), (9, .int .i64 ((p1).length : Int)), (10, .bool (p0 == ((p1).length : Int))), (12, .ref 4), (13, .int .i64 p2)]) [.box [.int .i64 p0], .box [.sl (List.map encItem p1)], .box [.ref 4], .box [.int .i64 p2], .arr 41 3 (List.map encItem [])] ?_ (fun hS16 => ?_)
                              · refine RA.a2 (i1 := 2) (l1 := #[true, true, true, false, false, false, false, false, false, false, false, false]) (i2 := 3) (l2 := #[true, true, false, true, false, false, false, false, false, false, false, false]) (by decide +kernel) (by decide +kernel) (by decide +kernel) ?_ ?_
                                · refine RO.op rfl rfl (o_load_ptr rfl rfl (loadRow1 Ty.k39 (c := .sl (List.map encItem p1)) rfl ?_))
                                  exact RA.weakR hS11 (Weak.mkN [] [0, 1, 2, 3, 4] (by decide) (by decide) rfl ⟨rn_ptr rfl, rn_ptr rfl, rn_ptr rfl, rn_ptr rfl, rn_int rfl, rn_int rfl, rn_sl encItem_p rfl, rn_int rfl, rn_bool rfl, rn_ref rfl, rn_int rfl, rn_sl encItem_p rfl, trivial⟩ (rw_box (cs := [.int .i64 p0]) (ds := [.int .i64 p0]) rfl ⟨rn_int rfl, trivial⟩ (rw_box (cs := [.sl (List.map encItem p1)]) (ds := [.sl (List.map encItem p1)]) rfl ⟨rn_sl encItem_p rfl, trivial⟩ (rw_box (cs := [.ref 4]) (ds := [.ref 4]) rfl ⟨rn_ref rfl, trivial⟩ (rw_box (cs := [.int .i64 p2]) (ds := [.int .i64 p2]) rfl ⟨rn_int rfl, trivial⟩ (rw_arr rfl encItem_p rfl (rw_nil)))))))
                                · refine RO.op rfl rfl (o_load_ptr rfl rfl (loadRow1 Ty.k3 (c := .int .i64 p0) rfl ?_))
                                  exact RA.weakR hS10 (Weak.mkN [] [0, 1, 2, 3, 4] (by decide) (by decide) rfl ⟨rn_ptr rfl, rn_ptr rfl, rn_ptr rfl, rn_ptr rfl, rn_int rfl, rn_int rfl, rn_sl encItem_p rfl, rn_int rfl, rn_bool rfl, rn_ref rfl, rn_int rfl, rn_int rfl, trivial⟩ (rw_box (cs := [.int .i64 p0]) (ds := [.int .i64 p0]) rfl ⟨rn_int rfl, trivial⟩ (rw_box (cs := [.sl (List.map encItem p1)]) (ds := [.sl (List.map encItem p1)]) rfl ⟨rn_sl encItem_p rfl, trivial⟩ (rw_box (cs := [.ref 4]) (ds := [.ref 4]) rfl ⟨rn_ref rfl, trivial⟩ (rw_box (cs := [.int .i64 p2]) (ds := [.int .i64 p2]) rfl ⟨rn_int rfl, trivial⟩ (rw_arr rfl encItem_p rfl (rw_nil)))))))
                              · refine RA.a4 (i1 := 0) (l1 := #[true, false, false, false, false, false, false, false, false, false, false, false]) (i2 := 1) (l2 := #[false, true, false, false, false, false, false, false, false, false, false, false]) (i3 := 2) (l3 := #[false, false, true, false, false, false, false, false, false, false, false, false]) (i4 := 3) (l4 := #[false, false, false, true, false, false, false, false, false, false, false, false]) (by decide +kernel) (by decide +kernel) (by decide +kernel) (by decide +kernel) (by decide +kernel) ?_ ?_ ?_ ?_
                                · refine RO.op rfl rfl (o_load_ptr rfl rfl (loadRow1 Ty.k39 (c := .ref 4) rfl ?_))
                                  refine RA.a3 (i1 := 1) (l1 := #[true, true, false, false, false, false, false, false, false, false, false, false]) (i2 := 2) (l2 := #[true, false, true, false, false, false, false, false, false, false, false, false]) (i3 := 3) (l3 := #[true, false, false, true, false, false, false, false, false, false, false, false]) (by decide +kernel) (by decide +kernel) (by decide +kernel) (by decide +kernel) ?_ ?_ ?_
                                  · refine RO.op rfl rfl (o_load_ptr rfl rfl (loadRow1 Ty.k3 (c := .int .i64 p2) rfl ?_))
                                    exact RA.weakR hS16 (Weak.mkN [] [0, 1, 2, 3, 4] (by decide) (by decide) rfl ⟨rn_ptr rfl, rn_ptr rfl, rn_ptr rfl, rn_ptr rfl, rn_int rfl, rn_int rfl, rn_sl encItem_p rfl, rn_int rfl, rn_bool rfl, rn_ref rfl, rn_int rfl, trivial⟩ (rw_box (cs := [.int .i64 p0]) (ds := [.int .i64 p0]) rfl ⟨rn_int rfl, trivial⟩ (rw_box (cs := [.sl (List.map encItem p1)]) (ds := [.sl (List.map encItem p1)]) rfl ⟨rn_sl encItem_p rfl, trivial⟩ (rw_box (cs := [.ref 4]) (ds := [.ref 4]) rfl ⟨rn_ref rfl, trivial⟩ (rw_box (cs := [.int .i64 p2]) (ds := [.int .i64 p2]) rfl ⟨rn_int rfl, trivial⟩ (rw_arr rfl encItem_p rfl (rw_nil)))))))
                                  · refine RO.op rfl rfl (o_load_ptr rfl rfl (loadRow1 Ty.k39 (c := .sl (List.map encItem p1)) rfl ?_))
                                    exact RA.weakR hS14 (Weak.mkN [] [0, 1, 2, 3, 4] (by decide) (by decide) rfl ⟨rn_ptr rfl, rn_ptr rfl, rn_ptr rfl, rn_ptr rfl, rn_int rfl, rn_int rfl, rn_sl encItem_p rfl, rn_int rfl, rn_bool rfl, rn_ref rfl, rn_sl encItem_p rfl, trivial⟩ (rw_box (cs := [.int .i64 p0]) (ds := [.int .i64 p0]) rfl ⟨rn_int rfl, trivial⟩ (rw_box (cs := [.sl (List.map encItem p1)]) (ds := [.sl (List.map encItem p1)]) rfl ⟨rn_sl encItem_p rfl, trivial⟩ (rw_box (cs := [.ref 4]) (ds := [.ref 4]) rfl ⟨rn_ref rfl, trivial⟩ (rw_box (cs := [.int .i64 p2]) (ds := [.int .i64 p2]) rfl ⟨rn_int rfl, trivial⟩ (rw_arr rfl encItem_p rfl (rw_nil)))))))
                                  · refine RO.op rfl rfl (o_load_ptr rfl rfl (loadRow1 Ty.k3 (c := .int .i64 p0) rfl ?_))
                                    exact RA.weakR hS12 (Weak.mkN [] [0, 1, 2, 3, 4] (by decide) (by decide) rfl ⟨rn_ptr rfl, rn_ptr rfl, rn_ptr rfl, rn_ptr rfl, rn_int rfl, rn_int rfl, rn_sl encItem_p rfl, rn_int rfl, rn_bool rfl, rn_ref rfl, rn_int rfl, trivial⟩ (rw_box (cs := [.int .i64 p0]) (ds := [.int .i64 p0]) rfl ⟨rn_int rfl, trivial⟩ (rw_box (cs := [.sl (List.map encItem p1)]) (ds := [.sl (List.map encItem p1)]) rfl ⟨rn_sl encItem_p rfl, trivial⟩ (rw_box (cs := [.ref 4]) (ds := [.ref 4]) rfl ⟨rn_ref rfl, trivial⟩ (rw_box (cs := [.int .i64 p2]) (ds := [.int .i64 p2]) rfl ⟨rn_int rfl, trivial⟩ (rw_arr rfl encItem_p rfl (rw_nil)))))))
                                · refine RO.op rfl rfl (o_load_ptr rfl rfl (loadRow1 Ty.k3 (c := .int .i64 p2) rfl ?_))
                                  refine RA.a3 (i1 := 0) (l1 := #[true, true, false, false, false, false, false, false, false, false, false, false]) (i2 := 2) (l2 := #[false, true, true, false, false, false, false, false, false, false, false, false]) (i3 := 3) (l3 := #[false, true, false, true, false, false, false, false, false, false, false, false]) (by decide +kernel) (by decide +kernel) (by decide +kernel) (by decide +kernel) ?_ ?_ ?_
                                  · refine RO.op rfl rfl (o_load_ptr rfl rfl (loadRow1 Ty.k39 (c := .ref 4) rfl ?_))
                                    exact RA.weakR hS16 (Weak.mkN [] [0, 1, 2, 3, 4] (by decide) (by decide) rfl ⟨rn_ptr rfl, rn_ptr rfl, rn_ptr rfl, rn_ptr rfl, rn_int rfl, rn_int rfl, rn_sl encItem_p rfl, rn_int rfl, rn_bool rfl, rn_ref rfl, rn_int rfl, trivial⟩ (rw_box (cs := [.int .i64 p0]) (ds := [.int .i64 p0]) rfl ⟨rn_int rfl, trivial⟩ (rw_box (cs := [.sl (List.map encItem p1)]) (ds := [.sl (List.map encItem p1)]) rfl ⟨rn_sl encItem_p rfl, trivial⟩ (rw_box (cs := [.ref 4]) (ds := [.ref 4]) rfl ⟨rn_ref rfl, trivial⟩ (rw_box (cs := [.int .i64 p2]) (ds := [.int .i64 p2]) rfl ⟨rn_int rfl, trivial⟩ (rw_arr rfl encItem_p rfl (rw_nil)))))))
                                  · refine RO.op rfl rfl (o_load_ptr rfl rfl (loadRow1 Ty.k39 (c := .sl (List.map encItem p1)) rfl ?_))
                                    exact RA.weakR hS15 (Weak.mkN [] [0, 1, 2, 3, 4] (by decide) (by decide) rfl ⟨rn_ptr rfl, rn_ptr rfl, rn_ptr rfl, rn_ptr rfl, rn_int rfl, rn_int rfl, rn_sl encItem_p rfl, rn_int rfl, rn_bool rfl, rn_int rfl, rn_sl encItem_p rfl, trivial⟩ (rw_box (cs := [.int .i64 p0]) (ds := [.int .i64 p0]) rfl ⟨rn_int rfl, trivial⟩ (rw_box (cs := [.sl (List.map encItem p1)]) (ds := [.sl (List.map encItem p1)]) rfl ⟨rn_sl encItem_p rfl, trivial⟩ (rw_box (cs := [.ref 4]) (ds := [.ref 4]) rfl ⟨rn_ref rfl, trivial⟩ (rw_box (cs := [.int .i64 p2]) (ds := [.int .i64 p2]) rfl ⟨rn_int rfl, trivial⟩ (rw_arr rfl encItem_p rfl (rw_nil)))))))
                                  · refine RO.op rfl rfl (o_load_ptr rfl rfl (loadRow1 Ty.k3 (c := .int .i64 p0) rfl ?_))
                                    exact RA.weakR hS13 (Weak.mkN [] [0, 1, 2, 3, 4] (by decide) (by decide) rfl ⟨rn_ptr rfl, rn_ptr rfl, rn_ptr rfl, rn_ptr rfl, rn_int rfl, rn_int rfl, rn_sl encItem_p rfl, rn_int rfl, rn_bool rfl, rn_int rfl, rn_int rfl, trivial⟩ (rw_box (cs := [.int .i64 p0]) (ds := [.int .i64 p0]) rfl ⟨rn_int rfl, trivial⟩ (rw_box (cs := [.sl (List.map encItem p1)]) (ds := [.sl (List.map encItem p1)]) rfl ⟨rn_sl encItem_p rfl, trivial⟩ (rw_box (cs := [.ref 4]) (ds := [.ref 4]) rfl ⟨rn_ref rfl, trivial⟩ (rw_box (cs := [.int .i64 p2]) (ds := [.int .i64 p2]) rfl ⟨rn_int rfl, trivial⟩ (rw_arr rfl encItem_p rfl (rw_nil)))))))
                                · refine RO.op rfl rfl (o_load_ptr rfl rfl (loadRow1 Ty.k39 (c := .sl (List.map encItem p1)) rfl ?_))
                                  refine RA.a3 (i1 := 0) (l1 := #[true, false, true, false, false, false, false, false, false, false, false, false]) (i2 := 1) (l2 := #[false, true, true, false, false, false, false, false, false, false, false, false]) (i3 := 3) (l3 := #[false, false, true, true, false, false, false, false, false, false, false, false]) (by decide +kernel) (by decide +kernel) (by decide +kernel) (by decide +kernel) ?_ ?_ ?_
                                  · refine RO.op rfl rfl (o_load_ptr rfl rfl (loadRow1 Ty.k39 (c := .ref 4) rfl ?_))
                                    exact RA.weakR hS14 (Weak.mkN [] [0, 1, 2, 3, 4] (by decide) (by decide) rfl ⟨rn_ptr rfl, rn_ptr rfl, rn_ptr rfl, rn_ptr rfl, rn_int rfl, rn_int rfl, rn_sl encItem_p rfl, rn_int rfl, rn_bool rfl, rn_ref rfl, rn_sl encItem_p rfl, trivial⟩ (rw_box (cs := [.int .i64 p0]) (ds := [.int .i64 p0]) rfl ⟨rn_int rfl, trivial⟩ (rw_box (cs := [.sl (List.map encItem p1)]) (ds := [.sl (List.map encItem p1)]) rfl ⟨rn_sl encItem_p rfl, trivial⟩ (rw_box (cs := [.ref 4]) (ds := [.ref 4]) rfl ⟨rn_ref rfl, trivial⟩ (rw_box (cs := [.int .i64 p2]) (ds := [.int .i64 p2]) rfl ⟨rn_int rfl, trivial⟩ (rw_arr rfl encItem_p rfl (rw_nil)))))))
                                  · refine RO.op rfl rfl (o_load_ptr rfl rfl (loadRow1 Ty.k3 (c := .int .i64 p2) rfl ?_))
                                    exact RA.weakR hS15 (Weak.mkN [] [0, 1, 2, 3, 4] (by decide) (by decide) rfl ⟨rn_ptr rfl, rn_ptr rfl, rn_ptr rfl, rn_ptr rfl, rn_int rfl, rn_int rfl, rn_sl encItem_p rfl, rn_int rfl, rn_bool rfl, rn_int rfl, rn_sl encItem_p rfl, trivial⟩ (rw_box (cs := [.int .i64 p0]) (ds := [.int .i64 p0]) rfl ⟨rn_int rfl, trivial⟩ (rw_box (cs := [.sl (List.map encItem p1)]) (ds := [.sl (List.map encItem p1)]) rfl ⟨rn_sl encItem_p rfl, trivial⟩ (rw_box (cs := [.ref 4]) (ds := [.ref 4]) rfl ⟨rn_ref rfl, trivial⟩ (rw_box (cs := [.int .i64 p2]) (ds := [.int .i64 p2]) rfl ⟨rn_int rfl, trivial⟩ (rw_arr rfl encItem_p rfl (rw_nil)))))))
                                  · refine RO.op rfl rfl (o_load_ptr rfl rfl (loadRow1 Ty.k3 (c := .int .i64 p0) rfl ?_))
                                    refine RA.t0 (i := 4) (li' := #[false, false, true, true, true, false, false, false, false, false, false, false]) rfl (by decide +kernel) (by decide +kernel) (by decide +kernel) (by decide +kernel) rfl rfl (v_index_sl Ty.s39 (fun _ => rfl) rfl rfl hx3 ?_)
                                    exact RA.weakR hS9 (Weak.mkN [] [0, 1, 2, 3, 4] (by decide) (by decide) rfl ⟨rn_ptr rfl, rn_ptr rfl, rn_ptr rfl, rn_ptr rfl, rn_int rfl, rn_int rfl, rn_sl encItem_p rfl, rn_int rfl, rn_bool rfl, rn_sl encItem_p rfl, rn_int rfl, rn_elt (encItem_p _) (congrArg encItem rfl), trivial⟩ (rw_box (cs := [.int .i64 p0]) (ds := [.int .i64 p0]) rfl ⟨rn_int rfl, trivial⟩ (rw_box (cs := [.sl (List.map encItem p1)]) (ds := [.sl (List.map encItem p1)]) rfl ⟨rn_sl encItem_p rfl, trivial⟩ (rw_box (cs := [.ref 4]) (ds := [.ref 4]) rfl ⟨rn_ref rfl, trivial⟩ (rw_box (cs := [.int .i64 p2]) (ds := [.int .i64 p2]) rfl ⟨rn_int rfl, trivial⟩ (rw_arr rfl encItem_p rfl (rw_nil)))))))
                                · refine RO.op rfl rfl (o_load_ptr rfl rfl (loadRow1 Ty.k3 (c := .int .i64 p0) rfl ?_))
                                  refine RA.a3 (i1 := 0) (l1 := #[true, false, false, true, false, false, false, false, false, false, false, false]) (i2 := 1) (l2 := #[false, true, false, true, false, false, false, false, false, false, false, false]) (i3 := 2) (l3 := #[false, false, true, true, false, false, false, false, false, false, false, false]) (by decide +kernel) (by decide +kernel) (by decide +kernel) (by decide +kernel) ?_ ?_ ?_
                                  · refine RO.op rfl rfl (o_load_ptr rfl rfl (loadRow1 Ty.k39 (c := .ref 4) rfl ?_))
                                    exact RA.weakR hS12 (Weak.mkN [] [0, 1, 2, 3, 4] (by decide) (by decide) rfl ⟨rn_ptr rfl, rn_ptr rfl, rn_ptr rfl, rn_ptr rfl, rn_int rfl, rn_int rfl, rn_sl encItem_p rfl, rn_int rfl, rn_bool rfl, rn_ref rfl, rn_int rfl, trivial⟩ (rw_box (cs := [.int .i64 p0]) (ds := [.int .i64 p0]) rfl ⟨rn_int rfl, trivial⟩ (rw_box (cs := [.sl (List.map encItem p1)]) (ds := [.sl (List.map encItem p1)]) rfl ⟨rn_sl encItem_p rfl, trivial⟩ (rw_box (cs := [.ref 4]) (ds := [.ref 4]) rfl ⟨rn_ref rfl, trivial⟩ (rw_box (cs := [.int .i64 p2]) (ds := [.int .i64 p2]) rfl ⟨rn_int rfl, trivial⟩ (rw_arr rfl encItem_p rfl (rw_nil)))))))
                                  · refine RO.op rfl rfl (o_load_ptr rfl rfl (loadRow1 Ty.k3 (c := .int .i64 p2) rfl ?_))
                                    exact RA.weakR hS13 (Weak.mkN [] [0, 1, 2, 3, 4] (by decide) (by decide) rfl ⟨rn_ptr rfl, rn_ptr rfl, rn_ptr rfl, rn_ptr rfl, rn_int rfl, rn_int rfl, rn_sl encItem_p rfl, rn_int rfl, rn_bool rfl, rn_int rfl, rn_int rfl, trivial⟩ (rw_box (cs := [.int .i64 p0]) (ds := [.int .i64 p0]) rfl ⟨rn_int rfl, trivial⟩ (rw_box (cs := [.sl (List.map encItem p1)]) (ds := [.sl (List.map encItem p1)]) rfl ⟨rn_sl encItem_p rfl, trivial⟩ (rw_box (cs := [.ref 4]) (ds := [.ref 4]) rfl ⟨rn_ref rfl, trivial⟩ (rw_box (cs := [.int .i64 p2]) (ds := [.int .i64 p2]) rfl ⟨rn_int rfl, trivial⟩ (rw_arr rfl encItem_p rfl (rw_nil)))))))
                                  · refine RO.op rfl rfl (o_load_ptr rfl rfl (loadRow1 Ty.k39 (c := .sl (List.map encItem p1)) rfl ?_))
                                    refine RA.t0 (i := 4) (li' := #[false, false, true, true, true, false, false, false, false, false, false, false]) rfl (by decide +kernel) (by decide +kernel) (by decide +kernel) (by decide +kernel) rfl rfl (v_index_sl Ty.s39 (fun _ => rfl) rfl rfl hx3 ?_)
                                    exact RA.weakR hS9 (Weak.mkN [] [0, 1, 2, 3, 4] (by decide) (by decide) rfl ⟨rn_ptr rfl, rn_ptr rfl, rn_ptr rfl, rn_ptr rfl, rn_int rfl, rn_int rfl, rn_sl encItem_p rfl, rn_int rfl, rn_bool rfl, rn_sl encItem_p rfl, rn_int rfl, rn_elt (encItem_p _) (congrArg encItem rfl), trivial⟩ (rw_box (cs := [.int .i64 p0]) (ds := [.int .i64 p0]) rfl ⟨rn_int rfl, trivial⟩ (rw_box (cs := [.sl (List.map encItem p1)]) (ds := [.sl (List.map encItem p1)]) rfl ⟨rn_sl encItem_p rfl, trivial⟩ (rw_box (cs := [.ref 4]) (ds := [.ref 4]) rfl ⟨rn_ref rfl, trivial⟩ (rw_box (cs := [.int .i64 p2]) (ds := [.int .i64 p2]) rfl ⟨rn_int rfl, trivial⟩ (rw_arr rfl encItem_p rfl (rw_nil)))))))
theorem ring_Pass_1_xf26a_c (p0 : List Item) (r : Int × (List Item) × (List Item)) (h : ring_Pass_1_xf26a p0 = some r) : FnX Try.prog 60 [.ptr 0 0, .ptr 1 0] [.box [.nils], .box [.ref 2], .arr 41 3 (List.map encItem p0)] (.int .i64 r.1) [.box [.ref 3], .box [.ref 4], .dead, .arr 41 3 (List.map encItem r.2.1), .arr 41 3 (List.map encItem r.2.2)] := by
  unfold ring_Pass_1_xf26a at h
  refine fn_of_T (N := 3) rfl Try.func60 rfl (by kernel_rfl) Try.ntmps60 rfl ?_
  show T _ _ _ _ (mkA 20 [(0, .ptr 0 0), (1, .ptr 1 0)]) [.box [.nils], .box [.ref 2], .arr 41 3 (List.map encItem p0)]
  refine T.mvB 1 0 2 (cs := [.ref 2]) rfl rfl rfl rfl (cs' := [.ref 3]) rfl (aw' := [.box [.nils], .box [.ref 3], .dead, .arr 41 3 (List.map encItem p0)]) rfl ?_
  refine T.nilB 0 0 41 3 (cs := [.nils]) rfl rfl (cs' := [.ref 4]) rfl (aw' := [.box [.ref 4], .box [.ref 3], .dead, .arr 41 3 (List.map encItem p0), .arr 41 3 (List.map encItem [])]) rfl ?_
  refine T.seq ?_
  refine T.region ?_
  refine RS.op rfl (OP.q rfl (v_assign (v := .int .i64 0) rfl ?_))
  refine RS.nil ?_
  refine T.seq ?_
  obtain ⟨x2, hx2, h⟩ := bind_some h
  refine T.region ?_
  refine RS.op rfl (o_load_ptr rfl rfl (loadRow1 Ty.k39 (c := .ref 4) rfl ?_))
  refine RS.op rfl (o_call (as0 := [.ref 4]) (as1 := [.sl (List.map encItem ([] : List Item))]) (caps := []) (aw1 := [.box [.ref 4], .box [.ref 3], .dead, .arr 41 3 (List.map encItem p0), .dead]) rfl rfl rfl (k_own' (v := .tup [.agg [.int .i64 x2.1.Key, .int .i64 x2.1.Val, .int .i64 x2.1.Dep], .ref 0, .int .i64 x2.2.2]) (obs := [.arr 41 3 (List.map encItem x2.2.1)]) (v' := .tup [.agg [.int .i64 x2.1.Key, .int .i64 x2.1.Val, .int .i64 x2.1.Dep], .ref 5, .int .i64 x2.2.2]) (aw' := [.box [.ref 4], .box [.ref 3], .dead, .arr 41 3 (List.map encItem p0), .arr 41 3 (List.map encItem []), .arr 41 3 (List.map encItem x2.2.1)]) (ring_Take_c ([] : List Item) x2 hx2) (⟨pure_map encItem_p _, trivial⟩) rfl (obs_cons (flatOb_map fun _ => rfl) obs_nil) rfl rfl ?_))
  refine RS.op rfl (OP.q rfl (v_move (v := .tup [.agg [.int .i64 x2.1.Key, .int .i64 x2.1.Val, .int .i64 x2.1.Dep], .ref 5, .int .i64 x2.2.2]) rfl ?_))
  refine RS.op rfl (OP.q rfl (v_extract (v := .agg [.int .i64 x2.1.Key, .int .i64 x2.1.Val, .int .i64 x2.1.Dep]) rfl rfl ?_))
  refine RS.op rfl (OP.q rfl (v_extract (v := .ref 5) rfl rfl ?_))
  refine RS.op rfl (OP.q rfl (v_extract (v := .int .i64 x2.2.2) rfl rfl ?_))
  refine RS.op rfl (o_alloc Ty.z41 rfl (aw' := [.box [.ref 4], .box [.ref 3], .dead, .arr 41 3 (List.map encItem p0), .arr 41 3 (List.map encItem []), .arr 41 3 (List.map encItem x2.2.1), .box [.int .i64 0, .int .i64 0, .int .i64 0]]) rfl ?_)
  refine RS.op rfl (o_store_ptr Ty.c41 Ty.i41 rfl (vs := [.int .i64 x2.1.Key, .int .i64 x2.1.Val, .int .i64 x2.1.Dep]) rfl rfl rfl rfl (cs' := [.int .i64 x2.1.Key, .int .i64 x2.1.Val, .int .i64 x2.1.Dep]) rfl (aw' := [.box [.ref 4], .box [.ref 3], .dead, .arr 41 3 (List.map encItem p0), .arr 41 3 (List.map encItem []), .arr 41 3 (List.map encItem x2.2.1), .box [.int .i64 x2.1.Key, .int .i64 x2.1.Val, .int .i64 x2.1.Dep]]) rfl ?_)
  refine RS.op rfl (OP.q rfl (v_assign (v := .ref 5) rfl ?_))
  refine RS.op rfl (OP.q rfl (v_assign (v := .int .i64 x2.2.2) rfl ?_))
  refine RS.nil ?_
  refine T.seq ?_
  refine T.seq ?_
  refine T.region ?_
  refine RS.op rfl (OP.q rfl (v_move (v := .int .i64 x2.2.2) rfl ?_))
  refine RS.op rfl (OP.q rfl (v_eql rfl rfl ?_))
  refine RS.nil ?_
  refine T.cond (b := x2.2.2 == 0) rfl (fun hb_1 => ?_) (fun hb_1 => ?_)
  · replace h := ite_T h hb_1
    obtain ⟨x3, hx3, h⟩ := bind_some h
    refine T.region ?_
    refine RS.op rfl (o_load_ptr rfl rfl (loadRow1 Ty.k39 (c := .ref 3) rfl ?_))
    refine RS.op rfl (o_load_ptr rfl rfl (loadRowA Ty.k41 Ty.c41 rfl (cs := [.int .i64 x2.1.Key, .int .i64 x2.1.Val, .int .i64 x2.1.Dep]) rfl ?_))
    refine RS.op rfl (o_buildSlice (rows := List.map encItem [x2.1]) (vs := [.agg [.int .i64 x2.1.Key, .int .i64 x2.1.Val, .int .i64 x2.1.Dep]]) Ty.s39 Ty.z41 rfl rfl rfl rfl rfl (aw' := [.box [.ref 4], .box [.ref 3], .dead, .arr 41 3 (List.map encItem p0), .arr 41 3 (List.map encItem []), .arr 41 3 (List.map encItem x2.2.1), .box [.int .i64 x2.1.Key, .int .i64 x2.1.Val, .int .i64 x2.1.Dep], .arr 41 3 (List.map encItem [x2.1])]) rfl ?_)
    refine RS.op rfl (o_app_ref (en := encItem) (xs := p0) (ys := ([x2.1] : List Item)) Ty.s39 (fun _ => rfl) rfl rfl rfl hx3 rfl (aw' := [.box [.ref 4], .box [.ref 3], .dead, .dead, .arr 41 3 (List.map encItem []), .arr 41 3 (List.map encItem x2.2.1), .box [.int .i64 x2.1.Key, .int .i64 x2.1.Val, .int .i64 x2.1.Dep], .dead, .arr 41 3 (List.map encItem x3)]) rfl ?_)
    refine RS.op rfl (OP.q rfl (v_move (v := .ref 5) rfl ?_))
    refine RS.op rfl (o_store_ptr Ty.c39 Ty.i39 rfl (vs := [.ref 8]) rfl rfl rfl rfl (cs' := [.ref 8]) rfl (aw' := [.box [.ref 4], .box [.ref 8], .dead, .dead, .arr 41 3 (List.map encItem []), .arr 41 3 (List.map encItem x2.2.1), .box [.int .i64 x2.1.Key, .int .i64 x2.1.Val, .int .i64 x2.1.Dep], .dead, .arr 41 3 (List.map encItem x3)]) rfl ?_)
    refine RS.op rfl (o_store_ptr Ty.c39 Ty.i39 rfl (vs := [.ref 5]) rfl rfl rfl rfl (cs' := [.ref 5]) rfl (aw' := [.box [.ref 5], .box [.ref 8], .dead, .dead, .arr 41 3 (List.map encItem []), .arr 41 3 (List.map encItem x2.2.1), .box [.int .i64 x2.1.Key, .int .i64 x2.1.Val, .int .i64 x2.1.Dep], .dead, .arr 41 3 (List.map encItem x3)]) rfl ?_)
    refine RS.nil ?_
    refine T.seq ?_
    refine T.region ?_
    refine RS.op rfl (OP.q rfl (v_move (v := .int .i64 x2.2.2) rfl ?_))
    refine RS.op rfl (OP.q rfl (v_assign (v := .int .i64 x2.2.2) rfl ?_))
    refine RS.nil ?_
    refine T.ret' (R := ?R2) ?hq2 ?_
    case hq2 => repeat (first | exact RetIs.base | refine RetIs.thn ?_ | refine RetIs.blk ?_ | refine RetIs.lq ?_)
    refine res_tmpA (v := .int .i64 x2.2.2) rfl ?_
    refine res_done ?_
    exact ret_norm (v := .int .i64 x2.2.2) (aw1 := [.box [.ref 5], .box [.ref 8], .dead, .dead, .arr 41 3 (List.map encItem []), .arr 41 3 (List.map encItem x2.2.1), .box [.int .i64 x2.1.Key, .int .i64 x2.1.Val, .int .i64 x2.1.Dep], .dead, .arr 41 3 (List.map encItem x3)]) (.int .i64 r.1) [0, 1, 2, 5, 8] rfl (by decide) (by decide) (rn_int (congrArg (fun r : Int × (List Item) × (List Item) => r.1) (Option.some.inj h)).symm) (rw_box (cs := [.ref 3]) (ds := [.ref 5]) rfl ⟨rn_ref rfl, trivial⟩ (rw_box (cs := [.ref 4]) (ds := [.ref 8]) rfl ⟨rn_ref rfl, trivial⟩ (rw_dead rfl (rw_arr rfl encItem_p (congrArg (fun r : Int × (List Item) × (List Item) => r.2.1) (Option.some.inj h)).symm (rw_arr rfl encItem_p (congrArg (fun r : Int × (List Item) × (List Item) => r.2.2) (Option.some.inj h)).symm (rw_nil)))))) ⟨rfl, rfl⟩
  · replace h := ite_F h hb_1
    refine T.skip ?_
    refine T.seq ?_
    refine T.region ?_
    refine RS.op rfl (OP.q rfl (v_move (v := .int .i64 x2.2.2) rfl ?_))
    refine RS.op rfl (OP.q rfl (v_assign (v := .int .i64 x2.2.2) rfl ?_))
    refine RS.nil ?_
    refine T.ret' (R := ?R3) ?hq3 ?_
    case hq3 => repeat (first | exact RetIs.base | refine RetIs.thn ?_ | refine RetIs.blk ?_ | refine RetIs.lq ?_)
    refine res_tmpA (v := .int .i64 x2.2.2) rfl ?_
    refine res_done ?_
    exact ret_norm (v := .int .i64 x2.2.2) (aw1 := [.box [.ref 4], .box [.ref 3], .dead, .arr 41 3 (List.map encItem p0), .arr 41 3 (List.map encItem []), .arr 41 3 (List.map encItem x2.2.1), .box [.int .i64 x2.1.Key, .int .i64 x2.1.Val, .int .i64 x2.1.Dep]]) (.int .i64 r.1) [0, 1, 2, 4, 3] rfl (by decide) (by decide) (rn_int (congrArg (fun r : Int × (List Item) × (List Item) => r.1) (Option.some.inj h)).symm) (rw_box (cs := [.ref 3]) (ds := [.ref 4]) rfl ⟨rn_ref rfl, trivial⟩ (rw_box (cs := [.ref 4]) (ds := [.ref 3]) rfl ⟨rn_ref rfl, trivial⟩ (rw_dead rfl (rw_arr rfl encItem_p (congrArg (fun r : Int × (List Item) × (List Item) => r.2.1) (Option.some.inj h)).symm (rw_arr rfl encItem_p (congrArg (fun r : Int × (List Item) × (List Item) => r.2.2) (Option.some.inj h)).symm (rw_nil)))))) ⟨rfl, rfl⟩
theorem ring_Pass_1_xbb06_c (p0 : List Item) (p1 : List Item) (r : Int × (List Item) × (List Item)) (h : ring_Pass_1_xbb06 p0 p1 = some r) : FnX Try.prog 60 [.ptr 0 0, .ptr 1 0] [.box [.ref 2], .box [.ref 3], .arr 41 3 (List.map encItem p0), .arr 41 3 (List.map encItem p1)] (.int .i64 r.1) [.box [.ref 4], .box [.ref 5], .dead, .dead, .arr 41 3 (List.map encItem r.2.1), .arr 41 3 (List.map encItem r.2.2)] := by
  unfold ring_Pass_1_xbb06 at h
  refine fn_of_T (N := 4) rfl Try.func60 rfl (by kernel_rfl) Try.ntmps60 rfl ?_
  show T _ _ _ _ (mkA 20 [(0, .ptr 0 0), (1, .ptr 1 0)]) [.box [.ref 2], .box [.ref 3], .arr 41 3 (List.map encItem p0), .arr 41 3 (List.map encItem p1)]
  refine T.mvB 1 0 3 (cs := [.ref 3]) rfl rfl rfl rfl (cs' := [.ref 4]) rfl (aw' := [.box [.ref 2], .box [.ref 4], .arr 41 3 (List.map encItem p0), .dead, .arr 41 3 (List.map encItem p1)]) rfl ?_
  refine T.mvB 0 0 2 (cs := [.ref 2]) rfl rfl rfl rfl (cs' := [.ref 5]) rfl (aw' := [.box [.ref 5], .box [.ref 4], .dead, .dead, .arr 41 3 (List.map encItem p1), .arr 41 3 (List.map encItem p0)]) rfl ?_
  refine T.seq ?_
  refine T.region ?_
  refine RS.op rfl (OP.q rfl (v_assign (v := .int .i64 0) rfl ?_))
  refine RS.nil ?_
  refine T.seq ?_
  obtain ⟨x2, hx2, h⟩ := bind_some h
  refine T.region ?_
  refine RS.op rfl (o_load_ptr rfl rfl (loadRow1 Ty.k39 (c := .ref 5) rfl ?_))
  refine RS.op rfl (o_call (as0 := [.ref 5]) (as1 := [.sl (List.map encItem p0)]) (caps := []) (aw1 := [.box [.ref 5], .box [.ref 4], .dead, .dead, .arr 41 3 (List.map encItem p1), .dead]) rfl rfl rfl (k_own' (v := .tup [.agg [.int .i64 x2.1.Key, .int .i64 x2.1.Val, .int .i64 x2.1.Dep], .ref 0, .int .i64 x2.2.2]) (obs := [.arr 41 3 (List.map encItem x2.2.1)]) (v' := .tup [.agg [.int .i64 x2.1.Key, .int .i64 x2.1.Val, .int .i64 x2.1.Dep], .ref 6, .int .i64 x2.2.2]) (aw' := [.box [.ref 5], .box [.ref 4], .dead, .dead, .arr 41 3 (List.map encItem p1), .arr 41 3 (List.map encItem p0), .arr 41 3 (List.map encItem x2.2.1)]) (ring_Take_c p0 x2 hx2) (⟨pure_map encItem_p _, trivial⟩) rfl (obs_cons (flatOb_map fun _ => rfl) obs_nil) rfl rfl ?_))
  refine RS.op rfl (OP.q rfl (v_move (v := .tup [.agg [.int .i64 x2.1.Key, .int .i64 x2.1.Val, .int .i64 x2.1.Dep], .ref 6, .int .i64 x2.2.2]) rfl ?_))
  refine RS.op rfl (OP.q rfl (v_extract (v := .agg [.int .i64 x2.1.Key, .int .i64 x2.1.Val, .int .i64 x2.1.Dep]) rfl rfl ?_))
  refine RS.op rfl (OP.q rfl (v_extract (v := .ref 6) rfl rfl ?_))
  refine RS.op rfl (OP.q rfl (v_extract (v := .int .i64 x2.2.2) rfl rfl ?_))
  refine RS.op rfl (o_alloc Ty.z41 rfl (aw' := [.box [.ref 5], .box [.ref 4], .dead, .dead, .arr 41 3 (List.map encItem p1), .arr 41 3 (List.map encItem p0), .arr 41 3 (List.map encItem x2.2.1), .box [.int .i64 0, .int .i64 0, .int .i64 0]]) rfl ?_)
  refine RS.op rfl (o_store_ptr Ty.c41 Ty.i41 rfl (vs := [.int .i64 x2.1.Key, .int .i64 x2.1.Val, .int .i64 x2.1.Dep]) rfl rfl rfl rfl (cs' := [.int .i64 x2.1.Key, .int .i64 x2.1.Val, .int .i64 x2.1.Dep]) rfl (aw' := [.box [.ref 5], .box [.ref 4], .dead, .dead, .arr 41 3 (List.map encItem p1), .arr 41 3 (List.map encItem p0), .arr 41 3 (List.map encItem x2.2.1), .box [.int .i64 x2.1.Key, .int .i64 x2.1.Val, .int .i64 x2.1.Dep]]) rfl ?_)
  refine RS.op rfl (OP.q rfl (v_assign (v := .ref 6) rfl ?_))
  refine RS.op rfl (OP.q rfl (v_assign (v := .int .i64 x2.2.2) rfl ?_))
  refine RS.nil ?_
  refine T.seq ?_
  refine T.seq ?_
  refine T.region ?_
  refine RS.op rfl (OP.q rfl (v_move (v := .int .i64 x2.2.2) rfl ?_))
  refine RS.op rfl (OP.q rfl (v_eql rfl rfl ?_))
  refine RS.nil ?_
  refine T.cond (b := x2.2.2 == 0) rfl (fun hb_1 => ?_) (fun hb_1 => ?_)
  · replace h := ite_T h hb_1
    obtain ⟨x3, hx3, h⟩ := bind_some h
    refine T.region ?_
    refine RS.op rfl (o_load_ptr rfl rfl (loadRow1 Ty.k39 (c := .ref 4) rfl ?_))
    refine RS.op rfl (o_load_ptr rfl rfl (loadRowA Ty.k41 Ty.c41 rfl (cs := [.int .i64 x2.1.Key, .int .i64 x2.1.Val, .int .i64 x2.1.Dep]) rfl ?_))
    refine RS.op rfl (o_buildSlice (rows := List.map encItem [x2.1]) (vs := [.agg [.int .i64 x2.1.Key, .int .i64 x2.1.Val, .int .i64 x2.1.Dep]]) Ty.s39 Ty.z41 rfl rfl rfl rfl rfl (aw' := [.box [.ref 5], .box [.ref 4], .dead, .dead, .arr 41 3 (List.map encItem p1), .arr 41 3 (List.map encItem p0), .arr 41 3 (List.map encItem x2.2.1), .box [.int .i64 x2.1.Key, .int .i64 x2.1.Val, .int .i64 x2.1.Dep], .arr 41 3 (List.map encItem [x2.1])]) rfl ?_)
    refine RS.op rfl (o_app_ref (en := encItem) (xs := p1) (ys := ([x2.1] : List Item)) Ty.s39 (fun _ => rfl) rfl rfl rfl hx3 rfl (aw' := [.box [.ref 5], .box [.ref 4], .dead, .dead, .dead, .arr 41 3 (List.map encItem p0), .arr 41 3 (List.map encItem x2.2.1), .box [.int .i64 x2.1.Key, .int .i64 x2.1.Val, .int .i64 x2.1.Dep], .dead, .arr 41 3 (List.map encItem x3)]) rfl ?_)
    refine RS.op rfl (OP.q rfl (v_move (v := .ref 6) rfl ?_))
    refine RS.op rfl (o_store_ptr Ty.c39 Ty.i39 rfl (vs := [.ref 9]) rfl rfl rfl rfl (cs' := [.ref 9]) rfl (aw' := [.box [.ref 5], .box [.ref 9], .dead, .dead, .dead, .arr 41 3 (List.map encItem p0), .arr 41 3 (List.map encItem x2.2.1), .box [.int .i64 x2.1.Key, .int .i64 x2.1.Val, .int .i64 x2.1.Dep], .dead, .arr 41 3 (List.map encItem x3)]) rfl ?_)
    refine RS.op rfl (o_store_ptr Ty.c39 Ty.i39 rfl (vs := [.ref 6]) rfl rfl rfl rfl (cs' := [.ref 6]) rfl (aw' := [.box [.ref 6], .box [.ref 9], .dead, .dead, .dead, .arr 41 3 (List.map encItem p0), .arr 41 3 (List.map encItem x2.2.1), .box [.int .i64 x2.1.Key, .int .i64 x2.1.Val, .int .i64 x2.1.Dep], .dead, .arr 41 3 (List.map encItem x3)]) rfl ?_)
    refine RS.nil ?_
    refine T.seq ?_
    refine T.region ?_
    refine RS.op rfl (OP.q rfl (v_move (v := .int .i64 x2.2.2) rfl ?_))
    refine RS.op rfl (OP.q rfl (v_assign (v := .int .i64 x2.2.2) rfl ?_))
    refine RS.nil ?_
    refine T.ret' (R := ?R2) ?hq2 ?_
    case hq2 => repeat (first | exact RetIs.base | refine RetIs.thn ?_ | refine RetIs.blk ?_ | refine RetIs.lq ?_)
    refine res_tmpA (v := .int .i64 x2.2.2) rfl ?_
    refine res_done ?_
    exact ret_norm (v := .int .i64 x2.2.2) (aw1 := [.box [.ref 6], .box [.ref 9], .dead, .dead, .dead, .arr 41 3 (List.map encItem p0), .arr 41 3 (List.map encItem x2.2.1), .box [.int .i64 x2.1.Key, .int .i64 x2.1.Val, .int .i64 x2.1.Dep], .dead, .arr 41 3 (List.map encItem x3)]) (.int .i64 r.1) [0, 1, 2, 3, 6, 9] rfl (by decide) (by decide) (rn_int (congrArg (fun r : Int × (List Item) × (List Item) => r.1) (Option.some.inj h)).symm) (rw_box (cs := [.ref 4]) (ds := [.ref 6]) rfl ⟨rn_ref rfl, trivial⟩ (rw_box (cs := [.ref 5]) (ds := [.ref 9]) rfl ⟨rn_ref rfl, trivial⟩ (rw_dead rfl (rw_dead rfl (rw_arr rfl encItem_p (congrArg (fun r : Int × (List Item) × (List Item) => r.2.1) (Option.some.inj h)).symm (rw_arr rfl encItem_p (congrArg (fun r : Int × (List Item) × (List Item) => r.2.2) (Option.some.inj h)).symm (rw_nil))))))) ⟨rfl, rfl⟩
  · replace h := ite_F h hb_1
    refine T.skip ?_
    refine T.seq ?_
    refine T.region ?_
    refine RS.op rfl (OP.q rfl (v_move (v := .int .i64 x2.2.2) rfl ?_))
    refine RS.op rfl (OP.q rfl (v_assign (v := .int .i64 x2.2.2) rfl ?_))
    refine RS.nil ?_
    refine T.ret' (R := ?R3) ?hq3 ?_
    case hq3 => repeat (first | exact RetIs.base | refine RetIs.thn ?_ | refine RetIs.blk ?_ | refine RetIs.lq ?_)
    refine res_tmpA (v := .int .i64 x2.2.2) rfl ?_
    refine res_done ?_
    exact ret_norm (v := .int .i64 x2.2.2) (aw1 := [.box [.ref 5], .box [.ref 4], .dead, .dead, .arr 41 3 (List.map encItem p1), .arr 41 3 (List.map encItem p0), .arr 41 3 (List.map encItem x2.2.1), .box [.int .i64 x2.1.Key, .int .i64 x2.1.Val, .int .i64 x2.1.Dep]]) (.int .i64 r.1) [0, 1, 2, 3, 5, 4] rfl (by decide) (by decide) (rn_int (congrArg (fun r : Int × (List Item) × (List Item) => r.1) (Option.some.inj h)).symm) (rw_box (cs := [.ref 4]) (ds := [.ref 5]) rfl ⟨rn_ref rfl, trivial⟩ (rw_box (cs := [.ref 5]) (ds := [.ref 4]) rfl ⟨rn_ref rfl, trivial⟩ (rw_dead rfl (rw_dead rfl (rw_arr rfl encItem_p (congrArg (fun r : Int × (List Item) × (List Item) => r.2.1) (Option.some.inj h)).symm (rw_arr rfl encItem_p (congrArg (fun r : Int × (List Item) × (List Item) => r.2.2) (Option.some.inj h)).symm (rw_nil))))))) ⟨rfl, rfl⟩
theorem ring_Pass_2_x50ef_c (p0 : Int) (p1 : List Item) (p2 : Int) (p3 : List Item) (r : Int × Int × (List Item)) (h : ring_Pass_2_x50ef p0 p1 p2 p3 = some r) : FnX Try.prog 61 [.ptr 0 0, .ptr 1 0, .ptr 2 0, .ptr 3 0] [.box [.int .i64 p0], .box [.sl (List.map encItem p1)], .box [.ref 4], .box [.int .i64 p2], .arr 41 3 (List.map encItem p3)] (.int .i64 r.1) [.box [.int .i64 r.2.1], .box [.sl (List.map encItem p1)], .box [.ref 5], .box [.int .i64 p2], .dead, .arr 41 3 (List.map encItem r.2.2)] := by
  unfold ring_Pass_2_x50ef at h
  refine fn_of_T (N := 5) rfl Try.func61 rfl (by kernel_rfl) Try.ntmps61 rfl ?_
  show T _ _ _ _ (mkA 27 [(0, .ptr 0 0), (1, .ptr 1 0), (2, .ptr 2 0), (3, .ptr 3 0)]) [.box [.int .i64 p0], .box [.sl (List.map encItem p1)], .box [.ref 4], .box [.int .i64 p2], .arr 41 3 (List.map encItem p3)]
  refine T.mvB 2 0 4 (cs := [.ref 4]) rfl rfl rfl rfl (cs' := [.ref 5]) rfl (aw' := [.box [.int .i64 p0], .box [.sl (List.map encItem p1)], .box [.ref 5], .box [.int .i64 p2], .dead, .arr 41 3 (List.map encItem p3)]) rfl ?_
  refine T.seq ?_
  refine T.region ?_
  refine RS.op rfl (OP.q rfl (v_assign (v := .int .i64 0) rfl ?_))
  refine RS.nil ?_
  refine T.seq ?_
  refine T.seq ?_
  refine T.region ?_
  refine RS.op rfl (o_load_ptr rfl rfl (loadRow1 Ty.k3 (c := .int .i64 p0) rfl ?_))
  refine RS.op rfl (o_load_ptr rfl rfl (loadRow1 Ty.k39 (c := .sl (List.map encItem p1)) rfl ?_))
  refine RS.op rfl (OP.q rfl (v_len_sl Ty.s39 rfl ?_))
  refine RS.op rfl (OP.q rfl (v_eql rfl rfl ?_))
  refine RS.nil ?_
  refine T.cond (b := p0 == ((p1).length : Int)) rfl (fun hb_1 => ?_) (fun hb_1 => ?_)
  · replace h := ite_T h hb_1
    refine T.seq ?_
    refine T.region ?_
    refine RS.op rfl (OP.q rfl (v_assign (v := .int .i64 9) rfl ?_))
    refine RS.nil ?_
    refine T.ret' (R := ?R2) ?hq2 ?_
    case hq2 => repeat (first | exact RetIs.base | refine RetIs.thn ?_ | refine RetIs.blk ?_ | refine RetIs.lq ?_)
    refine res_tmpA (v := .int .i64 9) rfl ?_
    refine res_done ?_
    exact ret_norm (v := .int .i64 9) (aw1 := [.box [.int .i64 p0], .box [.sl (List.map encItem p1)], .box [.ref 5], .box [.int .i64 p2], .dead, .arr 41 3 (List.map encItem p3)]) (.int .i64 r.1) [0, 1, 2, 3, 4, 5] rfl (by decide) (by decide) (rn_int (congrArg (fun r : Int × Int × (List Item) => r.1) (Option.some.inj h)).symm) (rw_box (cs := [.int .i64 r.2.1]) (ds := [.int .i64 p0]) rfl ⟨rn_int (congrArg (fun r : Int × Int × (List Item) => r.2.1) (Option.some.inj h)).symm, trivial⟩ (rw_box (cs := [.sl (List.map encItem p1)]) (ds := [.sl (List.map encItem p1)]) rfl ⟨rn_sl encItem_p rfl, trivial⟩ (rw_box (cs := [.ref 5]) (ds := [.ref 5]) rfl ⟨rn_ref rfl, trivial⟩ (rw_box (cs := [.int .i64 p2]) (ds := [.int .i64 p2]) rfl ⟨rn_int rfl, trivial⟩ (rw_dead rfl (rw_arr rfl encItem_p (congrArg (fun r : Int × Int × (List Item) => r.2.2) (Option.some.inj h)).symm (rw_nil))))))) ⟨rfl, rfl⟩
  · replace h := ite_F h hb_1
    refine T.skip ?_
    refine T.seq ?_
    obtain ⟨x3, hx3, h⟩ := bind_some h
    obtain ⟨x4, hx4, h⟩ := bind_some h
    refine T.drawn mixed (k := 12) rfl ?_
    refine RA.join 6 #[true, true, true, true, true, true, false, false, false, false, false, false] (mkA 27 [(0, .ptr 0 0), (1, .ptr 1 0), (2, .ptr 2 0), (3, .ptr 3 0), (4, .int .i64 0), (7, .int .i64 p0), (8, .sl (List.map encItem p1)), (9, .int .i64 ((p1).length : Int)), (10, .bool (p0 == ((p1).length : Int))), (12, .ref 5), (13, .int .i64 p2), (14, .sl (List.map encItem p1)), (15, .int .i64 p0), (16, .elt (encItem x3) 0), (17, .agg [.int .i64 x3.Key, .int .i64 x3.Val, .int .i64 x3.Dep])]) [.box [.int .i64 p0], .box [.sl (List.map encItem p1)], .box [.ref 5], .box [.int .i64 p2], .dead, .arr 41 3 (List.map encItem p3)] ?_ (fun hS3 => ?_)
    · refine RA.a1 (i1 := 6) (l1 := #[true, true, true, true, true, true, true, false, false, false, false, false]) (by decide +kernel) (by decide +kernel) ?_
      refine RO.op rfl rfl (o_call (as0 := [.ref 5, .int .i64 p2, .agg [.int .i64 x3.Key, .int .i64 x3.Val, .int .i64 x3.Dep]]) (as1 := [.sl (List.map encItem p3), .int .i64 p2, .agg [.int .i64 x3.Key, .int .i64 x3.Val, .int .i64 x3.Dep]]) (caps := []) (aw1 := [.box [.int .i64 p0], .box [.sl (List.map encItem p1)], .box [.ref 5], .box [.int .i64 p2], .dead, .dead]) rfl rfl rfl (k_own' (v := .tup [.ref 0, .int .i64 x4.2]) (obs := [.arr 41 3 (List.map encItem x4.1)]) (v' := .tup [.ref 6, .int .i64 x4.2]) (aw' := [.box [.int .i64 p0], .box [.sl (List.map encItem p1)], .box [.ref 5], .box [.int .i64 p2], .dead, .arr 41 3 (List.map encItem p3), .arr 41 3 (List.map encItem x4.1)]) (ring_Put_c p3 p2 x3 x4 hx4) (⟨pure_map encItem_p _, pure_int _ _, pure_agg _ (pures_mem (⟨pure_int _ _, pure_int _ _, pure_int _ _, trivial⟩)), trivial⟩) rfl (obs_cons (flatOb_map fun _ => rfl) obs_nil) rfl rfl ?_))
      refine RA.t0 (i := 7) (li' := #[true, true, true, true, true, true, true, true, false, false, false, false]) rfl (by decide +kernel) (by decide +kernel) (by decide +kernel) (by decide +kernel) rfl rfl (v_move (v := .tup [.ref 6, .int .i64 x4.2]) rfl ?_)
      refine RA.t0 (i := 8) (li' := #[true, true, true, true, true, true, true, true, true, false, false, false]) rfl (by decide +kernel) (by decide +kernel) (by decide +kernel) (by decide +kernel) rfl rfl (v_extract (v := .ref 6) rfl rfl ?_)
      refine RA.t0 (i := 9) (li' := #[true, true, true, true, true, true, true, true, true, true, false, false]) rfl (by decide +kernel) (by decide +kernel) (by decide +kernel) (by decide +kernel) rfl rfl (v_extract (v := .int .i64 x4.2) rfl rfl ?_)
      refine RA.t0 (i := 10) (li' := #[true, true, true, true, true, true, true, true, true, true, true, false]) rfl (by decide +kernel) (by decide +kernel) (by decide +kernel) (by decide +kernel) rfl rfl (v_assign (v := .ref 6) rfl ?_)
      refine RA.t0 (i := 11) (li' := #[true, true, true, true, true, true, true, true, true, true, true, true]) rfl (by decide +kernel) (by decide +kernel) (by decide +kernel) (by decide +kernel) rfl rfl (v_assign (v := .int .i64 x4.2) rfl ?_)
      refine RA.done (by decide +kernel) ?_
      refine T.seq ?_
      refine T.seq ?_
      refine T.region ?_
      refine RS.op rfl (OP.q rfl (v_move (v := .int .i64 x4.2) rfl ?_))
      refine RS.op rfl (OP.q rfl (v_eql rfl rfl ?_))
      refine RS.nil ?_
      refine T.cond (b := x4.2 == 0) rfl (fun hb_17 => ?_) (fun hb_17 => ?_)
      · replace h := ite_T h hb_17
        refine T.region ?_
        refine RS.op rfl (o_load_ptr rfl rfl (loadRow1 Ty.k3 (c := .int .i64 p0) rfl ?_))
        refine RS.op rfl (OP.q rfl (v_add rfl rfl ?_))
        refine RS.op rfl (OP.q rfl (v_move (v := .ref 6) rfl ?_))
        refine RS.op rfl (o_store_ptr Ty.c3 Ty.i3 rfl (vs := [.int .i64 (IntKind.i64.wrap (p0 + 1))]) rfl rfl rfl rfl (cs' := [.int .i64 (IntKind.i64.wrap (p0 + 1))]) rfl (aw' := [.box [.int .i64 (IntKind.i64.wrap (p0 + 1))], .box [.sl (List.map encItem p1)], .box [.ref 5], .box [.int .i64 p2], .dead, .arr 41 3 (List.map encItem p3), .arr 41 3 (List.map encItem x4.1)]) rfl ?_)
        refine RS.op rfl (o_store_ptr Ty.c39 Ty.i39 rfl (vs := [.ref 6]) rfl rfl rfl rfl (cs' := [.ref 6]) rfl (aw' := [.box [.int .i64 (IntKind.i64.wrap (p0 + 1))], .box [.sl (List.map encItem p1)], .box [.ref 6], .box [.int .i64 p2], .dead, .arr 41 3 (List.map encItem p3), .arr 41 3 (List.map encItem x4.1)]) rfl ?_)
        refine RS.nil ?_
        refine T.seq ?_
        refine T.region ?_
        refine RS.op rfl (OP.q rfl (v_move (v := .int .i64 x4.2) rfl ?_))
        refine RS.op rfl (OP.q rfl (v_assign (v := .int .i64 x4.2) rfl ?_))
        refine RS.nil ?_
        refine T.ret' (R := ?R18) ?hq18 ?_
        case hq18 => repeat (first | exact RetIs.base | refine RetIs.thn ?_ | refine RetIs.blk ?_ | refine RetIs.lq ?_)
        refine res_tmpA (v := .int .i64 x4.2) rfl ?_
        refine res_done ?_
        exact ret_norm (v := .int .i64 x4.2) (aw1 := [.box [.int .i64 (IntKind.i64.wrap (p0 + 1))], .box [.sl (List.map encItem p1)], .box [.ref 6], .box [.int .i64 p2], .dead, .arr 41 3 (List.map encItem p3), .arr 41 3 (List.map encItem x4.1)]) (.int .i64 r.1) [0, 1, 2, 3, 4, 6] rfl (by decide) (by decide) (rn_int (congrArg (fun r : Int × Int × (List Item) => r.1) (Option.some.inj h)).symm) (rw_box (cs := [.int .i64 r.2.1]) (ds := [.int .i64 (IntKind.i64.wrap (p0 + 1))]) rfl ⟨rn_int (congrArg (fun r : Int × Int × (List Item) => r.2.1) (Option.some.inj h)).symm, trivial⟩ (rw_box (cs := [.sl (List.map encItem p1)]) (ds := [.sl (List.map encItem p1)]) rfl ⟨rn_sl encItem_p rfl, trivial⟩ (rw_box (cs := [.ref 5]) (ds := [.ref 6]) rfl ⟨rn_ref rfl, trivial⟩ (rw_box (cs := [.int .i64 p2]) (ds := [.int .i64 p2]) rfl ⟨rn_int rfl, trivial⟩ (rw_dead rfl (rw_arr rfl encItem_p (congrArg (fun r : Int × Int × (List Item) => r.2.2) (Option.some.inj h)).symm (rw_nil))))))) ⟨rfl, rfl⟩
      · replace h := ite_F h hb_17
        refine T.skip ?_
        refine T.seq ?_
        refine T.region ?_
        refine RS.op rfl (OP.q rfl (v_move (v := .int .i64 x4.2) rfl ?_))
        refine RS.op rfl (OP.q rfl (v_assign (v := .int .i64 x4.2) rfl ?_))
        refine RS.nil ?_
        refine T.ret' (R := ?R19) ?hq19 ?_
        case hq19 => repeat (first | exact RetIs.base | refine RetIs.thn ?_ | refine RetIs.blk ?_ | refine RetIs.lq ?_)
        refine res_tmpA (v := .int .i64 x4.2) rfl ?_
        refine res_done ?_
        exact ret_norm (v := .int .i64 x4.2) (aw1 := [.box [.int .i64 p0], .box [.sl (List.map encItem p1)], .box [.ref 5], .box [.int .i64 p2], .dead, .arr 41 3 (List.map encItem p3), .arr 41 3 (List.map encItem x4.1)]) (.int .i64 r.1) [0, 1, 2, 3, 4, 5] rfl (by decide) (by decide) (rn_int (congrArg (fun r : Int × Int × (List Item) => r.1) (Option.some.inj h)).symm) (rw_box (cs := [.int .i64 r.2.1]) (ds := [.int .i64 p0]) rfl ⟨rn_int (congrArg (fun r : Int × Int × (List Item) => r.2.1) (Option.some.inj h)).symm, trivial⟩ (rw_box (cs := [.sl (List.map encItem p1)]) (ds := [.sl (List.map encItem p1)]) rfl ⟨rn_sl encItem_p rfl, trivial⟩ (rw_box (cs := [.ref 5]) (ds := [.ref 5]) rfl ⟨rn_ref rfl, trivial⟩ (rw_box (cs := [.int .i64 p2]) (ds := [.int .i64 p2]) rfl ⟨rn_int rfl, trivial⟩ (rw_dead rfl (rw_arr rfl encItem_p (congrArg (fun r : Int × Int × (List Item) => r.2.2) (Option.some.inj h)).symm (rw_nil))))))) ⟨rfl, rfl⟩
    · refine RA.join 7 #[true, false, true, true, true, true, false, false, false, false, false, false] (mkA 27 [(0, .ptr 0 0), (1, .ptr 1 0), (2, .ptr 2 0), (3, .ptr 3 0), (4, .int .i64 0), (7, .int .i64 p0), (8, .sl (List.map encItem p1)), (9, .int .i64 ((p1).length : Int)), (10, .bool (p0 == ((p1).length : Int))), (12, .ref 5), (14, .sl (List.map encItem p1)), (15, .int .i64 p0), (16, .elt (encItem x3) 0), (17, .agg [.int .i64 x3.Key, .int .i64 x3.Val, .int .i64 x3.Dep])]) [.box [.int .i64 p0], .box [.sl (List.map encItem p1)], .box [.ref 5], .box [.int .i64 p2], .dead, .arr 41 3 (List.map encItem p3)] ?_ (fun hS4 => ?_)
      · refine RA.a1 (i1 := 1) (l1 := #[true, true, true, true, true, true, false, false, false, false, false, false]) (by decide +kernel) (by decide +kernel) ?_
        refine RO.op rfl rfl (o_load_ptr rfl rfl (loadRow1 Ty.k3 (c := .int .i64 p2) rfl ?_))
        exact RA.weakR hS3 (Weak.mkN [] [0, 1, 2, 3, 4, 5] (by decide) (by decide) rfl ⟨rn_ptr rfl, rn_ptr rfl, rn_ptr rfl, rn_ptr rfl, rn_int rfl, rn_int rfl, rn_sl encItem_p rfl, rn_int rfl, rn_bool rfl, rn_ref rfl, rn_int rfl, rn_sl encItem_p rfl, rn_int rfl, rn_elt (encItem_p _) (congrArg encItem rfl), rn_agg ⟨rn_int rfl, rn_int rfl, rn_int rfl, trivial⟩, trivial⟩ (rw_box (cs := [.int .i64 p0]) (ds := [.int .i64 p0]) rfl ⟨rn_int rfl, trivial⟩ (rw_box (cs := [.sl (List.map encItem p1)]) (ds := [.sl (List.map encItem p1)]) rfl ⟨rn_sl encItem_p rfl, trivial⟩ (rw_box (cs := [.ref 5]) (ds := [.ref 5]) rfl ⟨rn_ref rfl, trivial⟩ (rw_box (cs := [.int .i64 p2]) (ds := [.int .i64 p2]) rfl ⟨rn_int rfl, trivial⟩ (rw_dead rfl (rw_arr rfl encItem_p rfl (rw_nil))))))))
      · refine RA.join 7 #[false, true, true, true, true, true, false, false, false, false, false, false] (mkA 27 [(0, .ptr 0 0), (1, .ptr 1 0), (2, .ptr 2 0), (3, .ptr 3 0), (4, .int .i64 0), (7, .int .i64 p0), (8, .sl (List.map encItem p1)), (9, .int .i64 ((p1).length : Int)), (10, .bool (p0 == ((p1).length : Int))), (13, .int .i64 p2), (14, .sl (List.map encItem p1)), (15, .int .i64 p0), (16, .elt (encItem x3) 0), (17, .agg [.int .i64 x3.Key, .int .i64 x3.Val, .int .i64 x3.Dep])]) [.box [.int .i64 p0], .box [.sl (List.map encItem p1)], .box [.ref 5], .box [.int .i64 p2], .dead, .arr 41 3 (List.map encItem p3)] ?_ (fun hS5 => ?_)
        · refine RA.a1 (i1 := 0) (l1 := #[true, true, true, true, true, true, false, false, false, false, false, false]) (by decide +kernel) (by decide +kernel) ?_
          refine RO.op rfl rfl (o_load_ptr rfl rfl (loadRow1 Ty.k39 (c := .ref 5) rfl ?_))
          exact RA.weakR hS3 (Weak.mkN [] [0, 1, 2, 3, 4, 5] (by decide) (by decide) rfl ⟨rn_ptr rfl, rn_ptr rfl, rn_ptr rfl, rn_ptr rfl, rn_int rfl, rn_int rfl, rn_sl encItem_p rfl, rn_int rfl, rn_bool rfl, rn_ref rfl, rn_int rfl, rn_sl encItem_p rfl, rn_int rfl, rn_elt (encItem_p _) (congrArg encItem rfl), rn_agg ⟨rn_int rfl, rn_int rfl, rn_int rfl, trivial⟩, trivial⟩ (rw_box (cs := [.int .i64 p0]) (ds := [.int .i64 p0]) rfl ⟨rn_int rfl, trivial⟩ (rw_box (cs := [.sl (List.map encItem p1)]) (ds := [.sl (List.map encItem p1)]) rfl ⟨rn_sl encItem_p rfl, trivial⟩ (rw_box (cs := [.ref 5]) (ds := [.ref 5]) rfl ⟨rn_ref rfl, trivial⟩ (rw_box (cs := [.int .i64 p2]) (ds := [.int .i64 p2]) rfl ⟨rn_int rfl, trivial⟩ (rw_dead rfl (rw_arr rfl encItem_p rfl (rw_nil))))))))
        · refine RA.join 7 #[true, true, true, true, true, false, false, false, false, false, false, false] (mkA 27 [(0, .ptr 0 0), (1, .ptr 1 0), (2, .ptr 2 0), (3, .ptr 3 0), (4, .int .i64 0), (7, .int .i64 p0), (8, .sl (List.map encItem p1)), (9, .int .i64 ((p1).length : Int)), (10, .bool (p0 == ((p1).length : Int))), (12, .ref 5), (13, .int .i64 p2), (14, .sl (List.map encItem p1)), (15, .int .i64 p0), (16, .elt (encItem x3) 0)]) [.box [.int .i64 p0], .box [.sl (List.map encItem p1)], .box [.ref 5], .box [.int .i64 p2], .dead, .arr 41 3 (List.map encItem p3)] ?_ (fun hS6 => ?_)
          · refine RA.a1 (i1 := 5) (l1 := #[true, true, true, true, true, true, false, false, false, false, false, false]) (by decide +kernel) (by decide +kernel) ?_
            refine RO.op rfl rfl (o_load_elt rfl (loadRowA Ty.k41 Ty.c41 rfl (cs := [.int .i64 x3.Key, .int .i64 x3.Val, .int .i64 x3.Dep]) rfl ?_))
            exact RA.weakR hS3 (Weak.mkN [] [0, 1, 2, 3, 4, 5] (by decide) (by decide) rfl ⟨rn_ptr rfl, rn_ptr rfl, rn_ptr rfl, rn_ptr rfl, rn_int rfl, rn_int rfl, rn_sl encItem_p rfl, rn_int rfl, rn_bool rfl, rn_ref rfl, rn_int rfl, rn_sl encItem_p rfl, rn_int rfl, rn_elt (encItem_p _) (congrArg encItem rfl), rn_agg ⟨rn_int rfl, rn_int rfl, rn_int rfl, trivial⟩, trivial⟩ (rw_box (cs := [.int .i64 p0]) (ds := [.int .i64 p0]) rfl ⟨rn_int rfl, trivial⟩ (rw_box (cs := [.sl (List.map encItem p1)]) (ds := [.sl (List.map encItem p1)]) rfl ⟨rn_sl encItem_p rfl, trivial⟩ (rw_box (cs := [.ref 5]) (ds := [.ref 5]) rfl ⟨rn_ref rfl, trivial⟩ (rw_box (cs := [.int .i64 p2]) (ds := [.int .i64 p2]) rfl ⟨rn_int rfl, trivial⟩ (rw_dead rfl (rw_arr rfl encItem_p rfl (rw_nil))))))))
          · refine RA.join 8 #[true, false, true, true, true, false, false, false, false, false, false, false] (mkA 27 [(0, .ptr 0 0), (1, .ptr 1 0), (2, .ptr 2 0), (3, .ptr 3 0), (4, .int .i64 0), (7, .int .i64 p0), (8, .sl (List.map encItem p1)), (9, .int .i64 ((p1).length : Int)), (10, .bool (p0 == ((p1).length : Int))), (12, .ref 5), (14, .sl (List.map encItem p1)), (15, .int .i64 p0), (16, .elt (encItem x3) 0)]) [.box [.int .i64 p0], .box [.sl (List.map encItem p1)], .box [.ref 5], .box [.int .i64 p2], .dead, .arr 41 3 (List.map encItem p3)] ?_ (fun hS7 => ?_)
            · refine RA.a2 (i1 := 1) (l1 := #[true, true, true, true, true, false, false, false, false, false, false, false]) (i2 := 5) (l2 := #[true, false, true, true, true, true, false, false, false, false, false, false]) (by decide +kernel) (by decide +kernel) (by decide +kernel) ?_ ?_
              · refine RO.op rfl rfl (o_load_ptr rfl rfl (loadRow1 Ty.k3 (c := .int .i64 p2) rfl ?_))
                exact RA.weakR hS6 (Weak.mkN [] [0, 1, 2, 3, 4, 5] (by decide) (by decide) rfl ⟨rn_ptr rfl, rn_ptr rfl, rn_ptr rfl, rn_ptr rfl, rn_int rfl, rn_int rfl, rn_sl encItem_p rfl, rn_int rfl, rn_bool rfl, rn_ref rfl, rn_int rfl, rn_sl encItem_p rfl, rn_int rfl, rn_elt (encItem_p _) (congrArg encItem rfl), trivial⟩ (rw_box (cs := [.int .i64 p0]) (ds := [.int .i64 p0]) rfl ⟨rn_int rfl, trivial⟩ (rw_box (cs := [.sl (List.map encItem p1)]) (ds := [.sl (List.map encItem p1)]) rfl ⟨rn_sl encItem_p rfl, trivial⟩ (rw_box (cs := [.ref 5]) (ds := [.ref 5]) rfl ⟨rn_ref rfl, trivial⟩ (rw_box (cs := [.int .i64 p2]) (ds := [.int .i64 p2]) rfl ⟨rn_int rfl, trivial⟩ (rw_dead rfl (rw_arr rfl encItem_p rfl (rw_nil))))))))
              · refine RO.op rfl rfl (o_load_elt rfl (loadRowA Ty.k41 Ty.c41 rfl (cs := [.int .i64 x3.Key, .int .i64 x3.Val, .int .i64 x3.Dep]) rfl ?_))
                exact RA.weakR hS4 (Weak.mkN [] [0, 1, 2, 3, 4, 5] (by decide) (by decide) rfl ⟨rn_ptr rfl, rn_ptr rfl, rn_ptr rfl, rn_ptr rfl, rn_int rfl, rn_int rfl, rn_sl encItem_p rfl, rn_int rfl, rn_bool rfl, rn_ref rfl, rn_sl encItem_p rfl, rn_int rfl, rn_elt (encItem_p _) (congrArg encItem rfl), rn_agg ⟨rn_int rfl, rn_int rfl, rn_int rfl, trivial⟩, trivial⟩ (rw_box (cs := [.int .i64 p0]) (ds := [.int .i64 p0]) rfl ⟨rn_int rfl, trivial⟩ (rw_box (cs := [.sl (List.map encItem p1)]) (ds := [.sl (List.map encItem p1)]) rfl ⟨rn_sl encItem_p rfl, trivial⟩ (rw_box (cs := [.ref 5]) (ds := [.ref 5]) rfl ⟨rn_ref rfl, trivial⟩ (rw_box (cs := [.int .i64 p2]) (ds := [.int .i64 p2]) rfl ⟨rn_int rfl, trivial⟩ (rw_dead rfl (rw_arr rfl encItem_p rfl (rw_nil))))))))
            · refine RA.join 8 #[false, true, true, true, true, false, false, false, false, false, false, false] (mkA 27 [(0, .ptr 0 0), (1, .ptr 1 0), (2, .ptr 2 0), (3, .ptr 3 0), (4, .int .i64 0), (7, .int .i64 p0), (8, .sl (List.map encItem p1)), (9, .int .i64 ((p1).length : Int)), (10, .bool (p0 == ((p1).length : Int))), (13, .int .i64 p2), (14, .sl (List.map encItem p1)), (15, .int .i64 p0), (16, .elt (encItem x3) 0)]) [.box [.int .i64 p0], .box [.sl (List.map encItem p1)], .box [.ref 5], .box [.int .i64 p2], .dead, .arr 41 3 (List.map encItem p3)] ?_ (fun hS8 => ?_)
              · refine RA.a2 (i1 := 0) (l1 := #[true, true, true, true, true, false, false, false, false, false, false, false]) (i2 := 5) (l2 := #[false, true, true, true, true, true, false, false, false, false, false, false]) (by decide +kernel) (by decide +kernel) (by decide +kernel) ?_ ?_
                · refine RO.op rfl rfl (o_load_ptr rfl rfl (loadRow1 Ty.k39 (c := .ref 5) rfl ?_))
                  exact RA.weakR hS6 (Weak.mkN [] [0, 1, 2, 3, 4, 5] (by decide) (by decide) rfl ⟨rn_ptr rfl, rn_ptr rfl, rn_ptr rfl, rn_ptr rfl, rn_int rfl, rn_int rfl, rn_sl encItem_p rfl, rn_int rfl, rn_bool rfl, rn_ref rfl, rn_int rfl, rn_sl encItem_p rfl, rn_int rfl, rn_elt (encItem_p _) (congrArg encItem rfl), trivial⟩ (rw_box (cs := [.int .i64 p0]) (ds := [.int .i64 p0]) rfl ⟨rn_int rfl, trivial⟩ (rw_box (cs := [.sl (List.map encItem p1)]) (ds := [.sl (List.map encItem p1)]) rfl ⟨rn_sl encItem_p rfl, trivial⟩ (rw_box (cs := [.ref 5]) (ds := [.ref 5]) rfl ⟨rn_ref rfl, trivial⟩ (rw_box (cs := [.int .i64 p2]) (ds := [.int .i64 p2]) rfl ⟨rn_int rfl, trivial⟩ (rw_dead rfl (rw_arr rfl encItem_p rfl (rw_nil))))))))
                · refine RO.op rfl rfl (o_load_elt rfl (loadRowA Ty.k41 Ty.c41 rfl (cs := [.int .i64 x3.Key, .int .i64 x3.Val, .int .i64 x3.Dep]) rfl ?_))
                  exact RA.weakR hS5 (Weak.mkN [] [0, 1, 2, 3, 4, 5] (by decide) (by decide) rfl ⟨rn_ptr rfl, rn_ptr rfl, rn_ptr rfl, rn_ptr rfl, rn_int rfl, rn_int rfl, rn_sl encItem_p rfl, rn_int rfl, rn_bool rfl, rn_int rfl, rn_sl encItem_p rfl, rn_int rfl, rn_elt (encItem_p _) (congrArg encItem rfl), rn_agg ⟨rn_int rfl, rn_int rfl, rn_int rfl, trivial⟩, trivial⟩ (rw_box (cs := [.int .i64 p0]) (ds := [.int .i64 p0]) rfl ⟨rn_int rfl, trivial⟩ (rw_box (cs := [.sl (List.map encItem p1)]) (ds := [.sl (List.map encItem p1)]) rfl ⟨rn_sl encItem_p rfl, trivial⟩ (rw_box (cs := [.ref 5]) (ds := [.ref 5]) rfl ⟨rn_ref rfl, trivial⟩ (rw_box (cs := [.int .i64 p2]) (ds := [.int .i64 p2]) rfl ⟨rn_int rfl, trivial⟩ (rw_dead rfl (rw_arr rfl encItem_p rfl (rw_nil))))))))
              · refine RA.join 9 #[false, false, true, true, true, false, false, false, false, false, false, false] (mkA 27 [(0, .ptr 0 0), (1, .ptr 1 0), (2, .ptr 2 0), (3, .ptr 3 0), (4, .int .i64 0), (7, .int .i64 p0), (8, .sl (List.map encItem p1)), (9, .int .i64 ((p1).length : Int)), (10, .bool (p0 == ((p1).length : Int))), (14, .sl (List.map encItem p1)), (15, .int .i64 p0), (16, .elt (encItem x3) 0)]) [.box [.int .i64 p0], .box [.sl (List.map encItem p1)], .box [.ref 5], .box [.int .i64 p2], .dead, .arr 41 3 (List.map encItem p3)] ?_ (fun hS9 => ?_)
                · refine RA.a3 (i1 := 0) (l1 := #[true, false, true, true, true, false, false, false, false, false, false, false]) (i2 := 1) (l2 := #[false, true, true, true, true, false, false, false, false, false, false, false]) (i3 := 5) (l3 := #[false, false, true, true, true, true, false, false, false, false, false, false]) (by decide +kernel) (by decide +kernel) (by decide +kernel) (by decide +kernel) ?_ ?_ ?_
                  · refine RO.op rfl rfl (o_load_ptr rfl rfl (loadRow1 Ty.k39 (c := .ref 5) rfl ?_))
                    exact RA.weakR hS7 (Weak.mkN [] [0, 1, 2, 3, 4, 5] (by decide) (by decide) rfl ⟨rn_ptr rfl, rn_ptr rfl, rn_ptr rfl, rn_ptr rfl, rn_int rfl, rn_int rfl, rn_sl encItem_p rfl, rn_int rfl, rn_bool rfl, rn_ref rfl, rn_sl encItem_p rfl, rn_int rfl, rn_elt (encItem_p _) (congrArg encItem rfl), trivial⟩ (rw_box (cs := [.int .i64 p0]) (ds := [.int .i64 p0]) rfl ⟨rn_int rfl, trivial⟩ (rw_box (cs := [.sl (List.map encItem p1)]) (ds := [.sl (List.map encItem p1)]) rfl ⟨rn_sl encItem_p rfl, trivial⟩ (rw_box (cs := [.ref 5]) (ds := [.ref 5]) rfl ⟨rn_ref rfl, trivial⟩ (rw_box (cs := [.int .i64 p2]) (ds := [.int .i64 p2]) rfl ⟨rn_int rfl, trivial⟩ (rw_dead rfl (rw_arr rfl encItem_p rfl (rw_nil))))))))
                  · refine RO.op rfl rfl (o_load_ptr rfl rfl (loadRow1 Ty.k3 (c := .int .i64 p2) rfl ?_))
                    exact RA.weakR hS8 (Weak.mkN [] [0, 1, 2, 3, 4, 5] (by decide) (by decide) rfl ⟨rn_ptr rfl, rn_ptr rfl, rn_ptr rfl, rn_ptr rfl, rn_int rfl, rn_int rfl, rn_sl encItem_p rfl, rn_int rfl, rn_bool rfl, rn_int rfl, rn_sl encItem_p rfl, rn_int rfl, rn_elt (encItem_p _) (congrArg encItem rfl), trivial⟩ (rw_box (cs := [.int .i64 p0]) (ds := [.int .i64 p0]) rfl ⟨rn_int rfl, trivial⟩ (rw_box (cs := [.sl (List.map encItem p1)]) (ds := [.sl (List.map encItem p1)]) rfl ⟨rn_sl encItem_p rfl, trivial⟩ (rw_box (cs := [.ref 5]) (ds := [.ref 5]) rfl ⟨rn_ref rfl, trivial⟩ (rw_box (cs := [.int .i64 p2]) (ds := [.int .i64 p2]) rfl ⟨rn_int rfl, trivial⟩ (rw_dead rfl (rw_arr rfl encItem_p rfl (rw_nil))))))))
                  · refine RO.op rfl rfl (o_load_elt rfl (loadRowA Ty.k41 Ty.c41 rfl (cs := [.int .i64 x3.Key, .int .i64 x3.Val, .int .i64 x3.Dep]) rfl ?_))
                    refine RA.a2 (i1 := 0) (l1 := #[true, false, true, true, true, true, false, false, false, false, false, false]) (i2 := 1) (l2 := #[false, true, true, true, true, true, false, false, false, false, false, false]) (by decide +kernel) (by decide +kernel) (by decide +kernel) ?_ ?_
                    · refine RO.op rfl rfl (o_load_ptr rfl rfl (loadRow1 Ty.k39 (c := .ref 5) rfl ?_))
                      exact RA.weakR hS4 (Weak.mkN [] [0, 1, 2, 3, 4, 5] (by decide) (by decide) rfl ⟨rn_ptr rfl, rn_ptr rfl, rn_ptr rfl, rn_ptr rfl, rn_int rfl, rn_int rfl, rn_sl encItem_p rfl, rn_int rfl, rn_bool rfl, rn_ref rfl, rn_sl encItem_p rfl, rn_int rfl, rn_elt (encItem_p _) (congrArg encItem rfl), rn_agg ⟨rn_int rfl, rn_int rfl, rn_int rfl, trivial⟩, trivial⟩ (rw_box (cs := [.int .i64 p0]) (ds := [.int .i64 p0]) rfl ⟨rn_int rfl, trivial⟩ (rw_box (cs := [.sl (List.map encItem p1)]) (ds := [.sl (List.map encItem p1)]) rfl ⟨rn_sl encItem_p rfl, trivial⟩ (rw_box (cs := [.ref 5]) (ds := [.ref 5]) rfl ⟨rn_ref rfl, trivial⟩ (rw_box (cs := [.int .i64 p2]) (ds := [.int .i64 p2]) rfl ⟨rn_int rfl, trivial⟩ (rw_dead rfl (rw_arr rfl encItem_p rfl (rw_nil))))))))
                    · refine RO.op rfl rfl (o_load_ptr rfl rfl (loadRow1 Ty.k3 (c := .int .i64 p2) rfl ?_))
                      exact RA.weakR hS5 (Weak.mkN [] [0, 1, 2, 3, 4, 5] (by decide) (by decide) rfl ⟨rn_ptr rfl, rn_ptr rfl, rn_ptr rfl, rn_ptr rfl, rn_int rfl, rn_int rfl, rn_sl encItem_p rfl, rn_int rfl, rn_bool rfl, rn_int rfl, rn_sl encItem_p rfl, rn_int rfl, rn_elt (encItem_p _) (congrArg encItem rfl), rn_agg ⟨rn_int rfl, rn_int rfl, rn_int rfl, trivial⟩, trivial⟩ (rw_box (cs := [.int .i64 p0]) (ds := [.int .i64 p0]) rfl ⟨rn_int rfl, trivial⟩ (rw_box (cs := [.sl (List.map encItem p1)]) (ds := [.sl (List.map encItem p1)]) rfl ⟨rn_sl encItem_p rfl, trivial⟩ (rw_box (cs := [.ref 5]) (ds := [.ref 5]) rfl ⟨rn_ref rfl, trivial⟩ (rw_box (cs := [.int .i64 p2]) (ds := [.int .i64 p2]) rfl ⟨rn_int rfl, trivial⟩ (rw_dead rfl (rw_arr rfl encItem_p rfl (rw_nil))))))))
                · refine RA.join 9 #[true, true, false, true, false, false, false, false, false, false, false, false] (mkA 27 [(0, .ptr 0 0), (1, .ptr 1 0), (2, .ptr 2 0), (3, .ptr 3 0), (4, .int .i64 0), (7, .int .i64 p0), (8, .sl (List.map encItem p1)), (9, .int .i64 ((p1).length : Int)), (10, .bool (p0 == ((p1).length : Int))), (12, .ref 5), (13, .int .i64 p2), (15, .int .i64 p0)]) [.box [.int .i64 p0], .box [.sl (List.map encItem p1)], .box [.ref 5], .box [.int .i64 p2], .dead, .arr 41 3 (List.map encItem p3)] ?_ (fun hS10 => ?_)
                  · refine RA.a1 (i1 := 2) (l1 := #[true, true, true, true, false, false, false, false, false, false, false, false]) (by decide +kernel) (by decide +kernel) ?_
                    refine RO.op rfl rfl (o_load_ptr rfl rfl (loadRow1 Ty.k39 (c := .sl (List.map encItem p1)) rfl ?_))
                    refine RA.t0 (i := 4) (li' := #[true, true, true, true, true, false, false, false, false, false, false, false]) rfl (by decide +kernel) (by decide +kernel) (by decide +kernel) (by decide +kernel) rfl rfl (v_index_sl Ty.s39 (fun _ => rfl) rfl rfl hx3 ?_)
                    exact RA.weakR hS6 (Weak.mkN [] [0, 1, 2, 3, 4, 5] (by decide) (by decide) rfl ⟨rn_ptr rfl, rn_ptr rfl, rn_ptr rfl, rn_ptr rfl, rn_int rfl, rn_int rfl, rn_sl encItem_p rfl, rn_int rfl, rn_bool rfl, rn_ref rfl, rn_int rfl, rn_sl encItem_p rfl, rn_int rfl, rn_elt (encItem_p _) (congrArg encItem rfl), trivial⟩ (rw_box (cs := [.int .i64 p0]) (ds := [.int .i64 p0]) rfl ⟨rn_int rfl, trivial⟩ (rw_box (cs := [.sl (List.map encItem p1)]) (ds := [.sl (List.map encItem p1)]) rfl ⟨rn_sl encItem_p rfl, trivial⟩ (rw_box (cs := [.ref 5]) (ds := [.ref 5]) rfl ⟨rn_ref rfl, trivial⟩ (rw_box (cs := [.int .i64 p2]) (ds := [.int .i64 p2]) rfl ⟨rn_int rfl, trivial⟩ (rw_dead rfl (rw_arr rfl encItem_p rfl (rw_nil))))))))
                  · refine RA.join 9 #[true, true, true, false, false, false, false, false, false, false, false, false] (mkA 27 [(0, .ptr 0 0), (1, .ptr 1 0), (2, .ptr 2 0), (3, .ptr 3 0), (4, .int .i64 0), (7, .int .i64 p0), (8, .sl (List.map encItem p1)), (9, .int .i64 ((p1).length : Int)), (10, .bool (p0 == ((p1).length : Int))), (12, .ref 5), (13, .int .i64 p2), (14, .sl (List.map encItem p1))]) [.box [.int .i64 p0], .box [.sl (List.map encItem p1)], .box [.ref 5], .box [.int .i64 p2], .dead, .arr 41 3 (List.map encItem p3)] ?_ (fun hS11 => ?_)
                    · refine RA.a1 (i1 := 3) (l1 := #[true, true, true, true, false, false, false, false, false, false, false, false]) (by decide +kernel) (by decide +kernel) ?_
                      refine RO.op rfl rfl (o_load_ptr rfl rfl (loadRow1 Ty.k3 (c := .int .i64 p0) rfl ?_))
                      refine RA.t0 (i := 4) (li' := #[true, true, true, true, true, false, false, false, false, false, false, false]) rfl (by decide +kernel) (by decide +kernel) (by decide +kernel) (by decide +kernel) rfl rfl (v_index_sl Ty.s39 (fun _ => rfl) rfl rfl hx3 ?_)
                      exact RA.weakR hS6 (Weak.mkN [] [0, 1, 2, 3, 4, 5] (by decide) (by decide) rfl ⟨rn_ptr rfl, rn_ptr rfl, rn_ptr rfl, rn_ptr rfl, rn_int rfl, rn_int rfl, rn_sl encItem_p rfl, rn_int rfl, rn_bool rfl, rn_ref rfl, rn_int rfl, rn_sl encItem_p rfl, rn_int rfl, rn_elt (encItem_p _) (congrArg encItem rfl), trivial⟩ (rw_box (cs := [.int .i64 p0]) (ds := [.int .i64 p0]) rfl ⟨rn_int rfl, trivial⟩ (rw_box (cs := [.sl (List.map encItem p1)]) (ds := [.sl (List.map encItem p1)]) rfl ⟨rn_sl encItem_p rfl, trivial⟩ (rw_box (cs := [.ref 5]) (ds := [.ref 5]) rfl ⟨rn_ref rfl, trivial⟩ (rw_box (cs := [.int .i64 p2]) (ds := [.int .i64 p2]) rfl ⟨rn_int rfl, trivial⟩ (rw_dead rfl (rw_arr rfl encItem_p rfl (rw_nil))))))))
                    · refine RA.join 10 #[true, false, false, true, false, false, false, false, false, false, false, false] (mkA 27 [(0, .ptr 0 0), (1, .ptr 1 0), (2, .ptr 2 0), (3, .ptr 3 0), (4, .int .i64 0), (7, .int .i64 p0), (8, .sl (List.map encItem p1)), (9, .int .i64 ((p1).length : Int)), (10, .bool (p0 == ((p1).length : Int))), (12, .ref 5), (15, .int .i64 p0)]) [.box [.int .i64 p0], .box [.sl (List.map encItem p1)], .box [.ref 5], .box [.int .i64 p2], .dead, .arr 41 3 (List.map encItem p3)] ?_ (fun hS12 => ?_)
                      · refine RA.a2 (i1 := 1) (l1 := #[true, true, false, true, false, false, false, false, false, false, false, false]) (i2 := 2) (l2 := #[true, false, true, true, false, false, false, false, false, false, false, false]) (by decide +kernel) (by decide +kernel) (by decide +kernel) ?_ ?_
                        · refine RO.op rfl rfl (o_load_ptr rfl rfl (loadRow1 Ty.k3 (c := .int .i64 p2) rfl ?_))
                          exact RA.weakR hS10 (Weak.mkN [] [0, 1, 2, 3, 4, 5] (by decide) (by decide) rfl ⟨rn_ptr rfl, rn_ptr rfl, rn_ptr rfl, rn_ptr rfl, rn_int rfl, rn_int rfl, rn_sl encItem_p rfl, rn_int rfl, rn_bool rfl, rn_ref rfl, rn_int rfl, rn_int rfl, trivial⟩ (rw_box (cs := [.int .i64 p0]) (ds := [.int .i64 p0]) rfl ⟨rn_int rfl, trivial⟩ (rw_box (cs := [.sl (List.map encItem p1)]) (ds := [.sl (List.map encItem p1)]) rfl ⟨rn_sl encItem_p rfl, trivial⟩ (rw_box (cs := [.ref 5]) (ds := [.ref 5]) rfl ⟨rn_ref rfl, trivial⟩ (rw_box (cs := [.int .i64 p2]) (ds := [.int .i64 p2]) rfl ⟨rn_int rfl, trivial⟩ (rw_dead rfl (rw_arr rfl encItem_p rfl (rw_nil))))))))
                        · refine RO.op rfl rfl (o_load_ptr rfl rfl (loadRow1 Ty.k39 (c := .sl (List.map encItem p1)) rfl ?_))
                          refine RA.t0 (i := 4) (li' := #[true, false, true, true, true, false, false, false, false, false, false, false]) rfl (by decide +kernel) (by decide +kernel) (by decide +kernel) (by decide +kernel) rfl rfl (v_index_sl Ty.s39 (fun _ => rfl) rfl rfl hx3 ?_)
                          exact RA.weakR hS7 (Weak.mkN [] [0, 1, 2, 3, 4, 5] (by decide) (by decide) rfl ⟨rn_ptr rfl, rn_ptr rfl, rn_ptr rfl, rn_ptr rfl, rn_int rfl, rn_int rfl, rn_sl encItem_p rfl, rn_int rfl, rn_bool rfl, rn_ref rfl, rn_sl encItem_p rfl, rn_int rfl, rn_elt (encItem_p _) (congrArg encItem rfl), trivial⟩ (rw_box (cs := [.int .i64 p0]) (ds := [.int .i64 p0]) rfl ⟨rn_int rfl, trivial⟩ (rw_box (cs := [.sl (List.map encItem p1)]) (ds := [.sl (List.map encItem p1)]) rfl ⟨rn_sl encItem_p rfl, trivial⟩ (rw_box (cs := [.ref 5]) (ds := [.ref 5]) rfl ⟨rn_ref rfl, trivial⟩ (rw_box (cs := [.int .i64 p2]) (ds := [.int .i64 p2]) rfl ⟨rn_int rfl, trivial⟩ (rw_dead rfl (rw_arr rfl encItem_p rfl (rw_nil))))))))
                      · refine RA.join 10 #[false, true, false, true, false, false, false, false, false, false, false, false] (mkA 27 [(0, .ptr 0 0), (1, .ptr 1 0), (2, .ptr 2 0), (3, .ptr 3 0), (4, .int .i64 0), (7, .int .i64 p0), (8, .sl (List.map encItem p1)), (9, .int .i64 ((p1).length : Int)), (10, .bool (p0 == ((p1).length : Int))), (13, .int .i64 p2), (15, .int .i64 p0)]) [.box [.int .i64 p0], .box [.sl (List.map encItem p1)], .box [.ref 5], .box [.int .i64 p2], .dead, .arr 41 3 (List.map encItem p3)] ?_ (fun hS13 => ?_)
                        · refine RA.a2 (i1 := 0) (l1 := #[true, true, false, true, false, false, false, false, false, false, false, false]) (i2 := 2) (l2 := #[false, true, true, true, false, false, false, false, false, false, false, false]) (by decide +kernel) (by decide +kernel) (by decide +kernel) ?_ ?_
                          · refine RO.op rfl rfl (o_load_ptr rfl rfl (loadRow1 Ty.k39 (c := .ref 5) rfl ?_))
                            exact RA.weakR hS10 (Weak.mkN [] [0, 1, 2, 3, 4, 5] (by decide) (by decide) rfl ⟨rn_ptr rfl, rn_ptr rfl, rn_ptr rfl, rn_ptr rfl, rn_int rfl, rn_int rfl, rn_sl encItem_p rfl, rn_int rfl, rn_bool rfl, rn_ref rfl, rn_int rfl, rn_int rfl, trivial⟩ (rw_box (cs := [.int .i64 p0]) (ds := [.int .i64 p0]) rfl ⟨rn_int rfl, trivial⟩ (rw_box (cs := [.sl (List.map encItem p1)]) (ds := [.sl (List.map encItem p1)]) rfl ⟨rn_sl encItem_p rfl, trivial⟩ (rw_box (cs := [.ref 5]) (ds := [.ref 5]) rfl ⟨rn_ref rfl, trivial⟩ (rw_box (cs := [.int .i64 p2]) (ds := [.int .i64 p2]) rfl ⟨rn_int rfl, trivial⟩ (rw_dead rfl (rw_arr rfl encItem_p rfl (rw_nil))))))))
                          · refine RO.op rfl rfl (o_load_ptr rfl rfl (loadRow1 Ty.k39 (c := .sl (List.map encItem p1)) rfl ?_))
                            refine RA.t0 (i := 4) (li' := #[false, true, true, true, true, false, false, false, false, false, false, false]) rfl (by decide +kernel) (by decide +kernel) (by decide +kernel) (by decide +kernel) rfl rfl (v_index_sl Ty.s39 (fun _ => rfl) rfl rfl hx3 ?_)
                            exact RA.weakR hS8 (Weak.mkN [] [0, 1, 2, 3, 4, 5] (by decide) (by decide) rfl ⟨rn_ptr rfl, rn_ptr rfl, rn_ptr rfl, rn_ptr rfl, rn_int rfl, rn_int rfl, rn_sl encItem_p rfl, rn_int rfl, rn_bool rfl, rn_int rfl, rn_sl encItem_p rfl, rn_int rfl, rn_elt (encItem_p _) (congrArg encItem rfl), trivial⟩ (rw_box (cs := [.int .i64 p0]) (ds := [.int .i64 p0]) rfl ⟨rn_int rfl, trivial⟩ (rw_box (cs := [.sl (List.map encItem p1)]) (ds := [.sl (List.map encItem p1)]) rfl ⟨rn_sl encItem_p rfl, trivial⟩ (rw_box (cs := [.ref 5]) (ds := [.ref 5]) rfl ⟨rn_ref rfl, trivial⟩ (rw_box (cs := [.int .i64 p2]) (ds := [.int .i64 p2]) rfl ⟨rn_int rfl, trivial⟩ (rw_dead rfl (rw_arr rfl encItem_p rfl (rw_nil))))))))
                        · refine RA.join 10 #[true, false, true, false, false, false, false, false, false, false, false, false] (mkA 27 [(0, .ptr 0 0), (1, .ptr 1 0), (2, .ptr 2 0), (3, .ptr 3 0), (4, .int .i64 0), (7, .int .i64 p0), (8, .sl (List.map encItem p1)), (9, .int .i64 ((p1).length : Int)), (10, .bool (p0 == ((p1).length : Int))), (12, .ref 5), (14, .sl (List.map encItem p1))]) [.box [.int .i64 p0], .box [.sl (List.map encItem p1)], .box [.ref 5], .box [.int .i64 p2], .dead, .arr 41 3 (List.map encItem p3)] ?_ (fun hS14 => ?_)
                          · refine RA.a2 (i1 := 1) (l1 := #[true, true, true, false, false, false, false, false, false, false, false, false]) (i2 := 3) (l2 := #[true, false, true, true, false, false, false, false, false, false, false, false]) (by decide +kernel) (by decide +kernel) (by decide +kernel) ?_ ?_
                            · refine RO.op rfl rfl (o_load_ptr rfl rfl (loadRow1 Ty.k3 (c := .int .i64 p2) rfl ?_))
                              exact RA.weakR hS11 (Weak.mkN [] [0, 1, 2, 3, 4, 5] (by decide) (by decide) rfl ⟨rn_ptr rfl, rn_ptr rfl, rn_ptr rfl, rn_ptr rfl, rn_int rfl, rn_int rfl, rn_sl encItem_p rfl, rn_int rfl, rn_bool rfl, rn_ref rfl, rn_int rfl, rn_sl encItem_p rfl, trivial⟩ (rw_box (cs := [.int .i64 p0]) (ds := [.int .i64 p0]) rfl ⟨rn_int rfl, trivial⟩ (rw_box (cs := [.sl (List.map encItem p1)]) (ds := [.sl (List.map encItem p1)]) rfl ⟨rn_sl encItem_p rfl, trivial⟩ (rw_box (cs := [.ref 5]) (ds := [.ref 5]) rfl ⟨rn_ref rfl, trivial⟩ (rw_box (cs := [.int .i64 p2]) (ds := [.int .i64 p2]) rfl ⟨rn_int rfl, trivial⟩ (rw_dead rfl (rw_arr rfl encItem_p rfl (rw_nil))))))))
                            · refine RO.op rfl rfl (o_load_ptr rfl rfl (loadRow1 Ty.k3 (c := .int .i64 p0) rfl ?_))
                              refine RA.t0 (i := 4) (li' := #[true, false, true, true, true, false, false, false, false, false, false, false]) rfl (by decide +kernel) (by decide +kernel) (by decide +kernel) (by decide +kernel) rfl rfl (v_index_sl Ty.s39 (fun _ => rfl) rfl rfl hx3 ?_)
                              exact RA.weakR hS7 (Weak.mkN [] [0, 1, 2, 3, 4, 5] (by decide) (by decide) rfl ⟨rn_ptr rfl, rn_ptr rfl, rn_ptr rfl, rn_ptr rfl, rn_int rfl, rn_int rfl, rn_sl encItem_p rfl, rn_int rfl, rn_bool rfl, rn_ref rfl, rn_sl encItem_p rfl, rn_int rfl, rn_elt (encItem_p _) (congrArg encItem rfl), trivial⟩ (rw_box (cs := [.int .i64 p0]) (ds := [.int .i64 p0]) rfl ⟨rn_int rfl, trivial⟩ (rw_box (cs := [.sl (List.map encItem p1)]) (ds := [.sl (List.map encItem p1)]) rfl ⟨rn_sl encItem_p rfl, trivial⟩ (rw_box (cs := [.ref 5]) (ds := [.ref 5]) rfl ⟨rn_ref rfl, trivial⟩ (rw_box (cs := [.int .i64 p2]) (ds := [.int .i64 p2]) rfl ⟨rn_int rfl, trivial⟩ (rw_dead rfl (rw_arr rfl encItem_p rfl (rw_nil))))))))
                          · refine RA.join 10 #[false, true, true, false, false, false, false, false, false, false, false, false] (mkA 27 [(0, .ptr 0 0), (1, .ptr 1 0), (2, .ptr 2 0), (3, .ptr 3 0), (4, .int .i64 0), (7, .int .i64 p0), (8, .sl (List.map encItem p1)), (9, .int .i64 ((p1).length : Int)), (10, .bool (p0 == ((p1).length : Int))), (13, .int .i64 p2), (14, .sl (List.map encItem p1))]) [.box [.int .i64 p0], .box [.sl (List.map encItem p1)], .box [.ref 5], .box [.int .i64 p2], .dead, .arr 41 3 (List.map encItem p3)] ?_ (fun hS15 => ?_)
                            · refine RA.a2 (i1 := 0) (l1 := #[true, true, true, false, false, false, false, false, false, false, false, false]) (i2 := 3) (l2 := #[false, true, true, true, false, false, false, false, false, false, false, false]) (by decide +kernel) (by decide +kernel) (by decide +kernel) ?_ ?_
                              · refine RO.op rfl rfl (o_load_ptr rfl rfl (loadRow1 Ty.k39 (c := .ref 5) rfl ?_))
                                exact RA.weakR hS11 (Weak.mkN [] [0, 1, 2, 3, 4, 5] (by decide) (by decide) rfl ⟨rn_ptr rfl, rn_ptr rfl, rn_ptr rfl, rn_ptr rfl, rn_int rfl, rn_int rfl, rn_sl encItem_p rfl, rn_int rfl, rn_bool rfl, rn_ref rfl, rn_int rfl, rn_sl encItem_p rfl, trivial⟩ (rw_box (cs := [.int .i64 p0]) (ds := [.int .i64 p0]) rfl ⟨rn_int rfl, trivial⟩ (rw_box (cs := [.sl (List.map encItem p1)]) (ds := [.sl (List.map encItem p1)]) rfl ⟨rn_sl encItem_p rfl, trivial⟩ (rw_box (cs := [.ref 5]) (ds := [.ref 5]) rfl ⟨rn_ref rfl, trivial⟩ (rw_box (cs := [.int .i64 p2]) (ds := [.int .i64 p2]) rfl ⟨rn_int rfl, trivial⟩ (rw_dead rfl (rw_arr rfl encItem_p rfl (rw_nil))))))))
                              · refine RO.op rfl rfl (o_load_ptr rfl rfl (loadRow1 Ty.k3 (c := .int .i64 p0) rfl ?_))
                                refine RA.t0 (i := 4) (li' := #[false, true, true, true, true, false, false, false, false, false, false, false]) rfl (by decide +kernel) (by decide +kernel) (by decide +kernel) (by decide +kernel) rfl rfl (v_index_sl Ty.s39 (fun _ => rfl) rfl rfl hx3 ?_)
                                exact RA.weakR hS8 (Weak.mkN [] [0, 1, 2, 3, 4, 5] (by decide) (by decide) rfl ⟨rn_ptr rfl, rn_ptr rfl, rn_ptr rfl, rn_ptr rfl, rn_int rfl, rn_int rfl, rn_sl encItem_p rfl, rn_int rfl, rn_bool rfl, rn_int rfl, rn_sl encItem_p rfl, rn_int rfl, rn_elt (encItem_p _) (congrArg encItem rfl), trivial⟩ (rw_box (cs := [.int .i64 p0]) (ds := [.int .i64 p0]) rfl ⟨rn_int rfl, trivial⟩ (rw_box (cs := [.sl (List.map encItem p1)]) (ds := [.sl (List.map encItem p1)]) rfl ⟨rn_sl encItem_p rfl, trivial⟩ (rw_box (cs := [.ref 5]) (ds := [.ref 5]) rfl ⟨rn_ref rfl, trivial⟩ (rw_box (cs := [.int .i64 p2]) (ds := [.int .i64 p2]) rfl ⟨rn_int rfl, trivial⟩ (rw_dead rfl (rw_arr rfl encItem_p rfl (rw_nil))))))))
                            · refine RA.join 10 #[true, true, false, false, false, false, false, false, false, false, false, false] (mkA 27 [(0, .ptr 0 0), (1, .ptr 1 0), (2, .ptr 2 0), (3, .ptr 3 0), (4, .int .i64 0), (7, .int .i64 p0), (8, .sl (List.map encItem p1)), (9, .int .i64 ((p1).length : Int)), (10, .bool (p0 == ((p1).length : Int))), (12, .ref 5), (13, .int .i64 p2)]) [.box [.int .i64 p0], .box [.sl (List.map encItem p1)], .box [.ref 5], .box [.int .i64 p2], .dead, .arr 41 3 (List.map encItem p3)] ?_ (fun hS16 => ?_)
                              · refine RA.a2 (i1 := 2) (l1 := #[true, true, true, false, false, false, false, false, false, false, false, false]) (i2 := 3) (l2 := #[true, true, false, true, false, false, false, false, false, false, false, false]) (by decide +kernel) (by decide +kernel) (by decide +kernel) ?_ ?_
                                · refine RO.op rfl rfl (o_load_ptr rfl rfl (loadRow1 Ty.k39 (c := .sl (List.map encItem p1)) rfl ?_))
                                  exact RA.weakR hS11 (Weak.mkN [] [0, 1, 2, 3, 4, 5] (by decide) (by decide) rfl ⟨rn_ptr rfl, rn_ptr rfl, rn_ptr rfl, rn_ptr rfl, rn_int rfl, rn_int rfl, rn_sl encItem_p rfl, rn_int rfl, rn_bool rfl, rn_ref rfl, rn_int rfl, rn_sl encItem_p rfl, trivial⟩ (rw_box (cs := [.int .i64 p0]) (ds := [.int .i64 p0]) rfl ⟨rn_int rfl, trivial⟩ (rw_box (cs := [.sl (List.map encItem p1)]) (ds := [.sl (List.map encItem p1)]) rfl ⟨rn_sl encItem_p rfl, trivial⟩ (rw_box (cs := [.ref 5]) (ds := [.ref 5]) rfl ⟨rn_ref rfl, trivial⟩ (rw_box (cs := [.int .i64 p2]) (ds := [.int .i64 p2]) rfl ⟨rn_int rfl, trivial⟩ (rw_dead rfl (rw_arr rfl encItem_p rfl (rw_nil))))))))
                                · refine RO.op rfl rfl (o_load_ptr rfl rfl (loadRow1 Ty.k3 (c := .int .i64 p0) rfl ?_))
                                  exact RA.weakR hS10 (Weak.mkN [] [0, 1, 2, 3, 4, 5] (by decide) (by decide) rfl ⟨rn_ptr rfl, rn_ptr rfl, rn_ptr rfl, rn_ptr rfl, rn_int rfl, rn_int rfl, rn_sl encItem_p rfl, rn_int rfl, rn_bool rfl, rn_ref rfl, rn_int rfl, rn_int rfl, trivial⟩ (rw_box (cs := [.int .i64 p0]) (ds := [.int .i64 p0]) rfl ⟨rn_int rfl, trivial⟩ (rw_box (cs := [.sl (List.map encItem p1)]) (ds := [.sl (List.map encItem p1)]) rfl ⟨rn_sl encItem_p rfl, trivial⟩ (rw_box (cs := [.ref 5]) (ds := [.ref 5]) rfl ⟨rn_ref rfl, trivial⟩ (rw_box (cs := [.int .i64 p2]) (ds := [.int .i64 p2]) rfl ⟨rn_int rfl, trivial⟩ (rw_dead rfl (rw_arr rfl encItem_p rfl (rw_nil))))))))
                              · refine RA.a4 (i1 := 0) (l1 := #[true, false, false, false, false, false, false, false, false, false, false, false]) (i2 := 1) (l2 := #[false, true, false, false, false, false, false, false, false, false, false, false]) (i3 := 2) (l3 := #[false, false, true, false, false, false, false, false, false, false, false, false]) (i4 := 3) (l4 := #[false, false, false, true, false, false, false, false, false, false, false, false]) (by decide +kernel) (by decide +kernel) (by decide +kernel) (by decide +kernel) (by decide +kernel) ?_ ?_ ?_ ?_
                                · refine RO.op rfl rfl (o_load_ptr rfl rfl (loadRow1 Ty.k39 (c := .ref 5) rfl ?_))
                                  refine RA.a3 (i1 := 1) (l1 := #[true, true, false, false, false, false, false, false, false, false, false, false]) (i2 := 2) (l2 := #[true, false, true, false, false, false, false, false, false, false, false, false]) (i3 := 3) (l3 := #[true, false, false, true, false, false, false, false, false, false, false, false]) (by decide +kernel) (by decide +kernel) (by decide +kernel) (by decide +kernel) ?_ ?_ ?_
                                  · refine RO.op rfl rfl (o_load_ptr rfl rfl (loadRow1 Ty.k3 (c := .int .i64 p2) rfl ?_))
                                    exact RA.weakR hS16 (Weak.mkN [] [0, 1, 2, 3, 4, 5] (by decide) (by decide) rfl ⟨rn_ptr rfl, rn_ptr rfl, rn_ptr rfl, rn_ptr rfl, rn_int rfl, rn_int rfl, rn_sl encItem_p rfl, rn_int rfl, rn_bool rfl, rn_ref rfl, rn_int rfl, trivial⟩ (rw_box (cs := [.int .i64 p0]) (ds := [.int .i64 p0]) rfl ⟨rn_int rfl, trivial⟩ (rw_box (cs := [.sl (List.map encItem p1)]) (ds := [.sl (List.map encItem p1)]) rfl ⟨rn_sl encItem_p rfl, trivial⟩ (rw_box (cs := [.ref 5]) (ds := [.ref 5]) rfl ⟨rn_ref rfl, trivial⟩ (rw_box (cs := [.int .i64 p2]) (ds := [.int .i64 p2]) rfl ⟨rn_int rfl, trivial⟩ (rw_dead rfl (rw_arr rfl encItem_p rfl (rw_nil))))))))
                                  · refine RO.op rfl rfl (o_load_ptr rfl rfl (loadRow1 Ty.k39 (c := .sl (List.map encItem p1)) rfl ?_))
                                    exact RA.weakR hS14 (Weak.mkN [] [0, 1, 2, 3, 4, 5] (by decide) (by decide) rfl ⟨rn_ptr rfl, rn_ptr rfl, rn_ptr rfl, rn_ptr rfl, rn_int rfl, rn_int rfl, rn_sl encItem_p rfl, rn_int rfl, rn_bool rfl, rn_ref rfl, rn_sl encItem_p rfl, trivial⟩ (rw_box (cs := [.int .i64 p0]) (ds := [.int .i64 p0]) rfl ⟨rn_int rfl, trivial⟩ (rw_box (cs := [.sl (List.map encItem p1)]) (ds := [.sl (List.map encItem p1)]) rfl ⟨rn_sl encItem_p rfl, trivial⟩ (rw_box (cs := [.ref 5]) (ds := [.ref 5]) rfl ⟨rn_ref rfl, trivial⟩ (rw_box (cs := [.int .i64 p2]) (ds := [.int .i64 p2]) rfl ⟨rn_int rfl, trivial⟩ (rw_dead rfl (rw_arr rfl encItem_p rfl (rw_nil))))))))
                                  · refine RO.op rfl rfl (o_load_ptr rfl rfl (loadRow1 Ty.k3 (c := .int .i64 p0) rfl ?_))
                                    exact RA.weakR hS12 (Weak.mkN [] [0, 1, 2, 3, 4, 5] (by decide) (by decide) rfl ⟨rn_ptr rfl, rn_ptr rfl, rn_ptr rfl, rn_ptr rfl, rn_int rfl, rn_int rfl, rn_sl encItem_p rfl, rn_int rfl, rn_bool rfl, rn_ref rfl, rn_int rfl, trivial⟩ (rw_box (cs := [.int .i64 p0]) (ds := [.int .i64 p0]) rfl ⟨rn_int rfl, trivial⟩ (rw_box (cs := [.sl (List.map encItem p1)]) (ds := [.sl (List.map encItem p1)]) rfl ⟨rn_sl encItem_p rfl, trivial⟩ (rw_box (cs := [.ref 5]) (ds := [.ref 5]) rfl ⟨rn_ref rfl, trivial⟩ (rw_box (cs := [.int .i64 p2]) (ds := [.int .i64 p2]) rfl ⟨rn_int rfl, trivial⟩ (rw_dead rfl (rw_arr rfl encItem_p rfl (rw_nil))))))))
                                · refine RO.op rfl rfl (o_load_ptr rfl rfl (loadRow1 Ty.k3 (c := .int .i64 p2) rfl ?_))
                                  refine RA.a3 (i1 := 0) (l1 := #[true, true, false, false, false, false, false, false, false, false, false, false]) (i2 := 2) (l2 := #[false, true, true, false, false, false, false, false, false, false, false, false]) (i3 := 3) (l3 := #[false, true, false, true, false, false, false, false, false, false, false, false]) (by decide +kernel) (by decide +kernel) (by decide +kernel) (by decide +kernel) ?_ ?_ ?_
                                  · refine RO.op rfl rfl (o_load_ptr rfl rfl (loadRow1 Ty.k39 (c := .ref 5) rfl ?_))
                                    exact RA.weakR hS16 (Weak.mkN [] [0, 1, 2, 3, 4, 5] (by decide) (by decide) rfl ⟨rn_ptr rfl, rn_ptr rfl, rn_ptr rfl, rn_ptr rfl, rn_int rfl, rn_int rfl, rn_sl encItem_p rfl, rn_int rfl, rn_bool rfl, rn_ref rfl, rn_int rfl, trivial⟩ (rw_box (cs := [.int .i64 p0]) (ds := [.int .i64 p0]) rfl ⟨rn_int rfl, trivial⟩ (rw_box (cs := [.sl (List.map encItem p1)]) (ds := [.sl (List.map encItem p1)]) rfl ⟨rn_sl encItem_p rfl, trivial⟩ (rw_box (cs := [.ref 5]) (ds := [.ref 5]) rfl ⟨rn_ref rfl, trivial⟩ (rw_box (cs := [.int .i64 p2]) (ds := [.int .i64 p2]) rfl ⟨rn_int rfl, trivial⟩ (rw_dead rfl (rw_arr rfl encItem_p rfl (rw_nil))))))))
                                  · refine RO.op rfl rfl (o_load_ptr rfl rfl (loadRow1 Ty.k39 (c := .sl (List.map encItem p1)) rfl ?_))
                                    exact RA.weakR hS15 (Weak.mkN [] [0, 1, 2, 3, 4, 5] (by decide) (by decide) rfl ⟨rn_ptr rfl, rn_ptr rfl, rn_ptr rfl, rn_ptr rfl, rn_int rfl, rn_int rfl, rn_sl encItem_p rfl, rn_int rfl, rn_bool rfl, rn_int rfl, rn_sl encItem_p rfl, trivial⟩ (rw_box (cs := [.int .i64 p0]) (ds := [.int .i64 p0]) rfl ⟨rn_int rfl, trivial⟩ (rw_box (cs := [.sl (List.map encItem p1)]) (ds := [.sl (List.map encItem p1)]) rfl ⟨rn_sl encItem_p rfl, trivial⟩ (rw_box (cs := [.ref 5]) (ds := [.ref 5]) rfl ⟨rn_ref rfl, trivial⟩ (rw_box (cs := [.int .i64 p2]) (ds := [.int .i64 p2]) rfl ⟨rn_int rfl, trivial⟩ (rw_dead rfl (rw_arr rfl encItem_p rfl (rw_nil))))))))
                                  · refine RO.op rfl rfl (o_load_ptr rfl rfl (loadRow1 Ty.k3 (c := .int .i64 p0) rfl ?_))
                                    exact RA.weakR hS13 (Weak.mkN [] [0, 1, 2, 3, 4, 5] (by decide) (by decide) rfl ⟨rn_ptr rfl, rn_ptr rfl, rn_ptr rfl, rn_ptr rfl, rn_int rfl, rn_int rfl, rn_sl encItem_p rfl, rn_int rfl, rn_bool rfl, rn_int rfl, rn_int rfl, trivial⟩ (rw_box (cs := [.int .i64 p0]) (ds := [.int .i64 p0]) rfl ⟨rn_int rfl, trivial⟩ (rw_box (cs := [.sl (List.map encItem p1)]) (ds := [.sl (List.map encItem p1)]) rfl ⟨rn_sl encItem_p rfl, trivial⟩ (rw_box (cs := [.ref 5]) (ds := [.ref 5]) rfl ⟨rn_ref rfl, trivial⟩ (rw_box (cs := [.int .i64 p2]) (ds := [.int .i64 p2]) rfl ⟨rn_int rfl, trivial⟩ (rw_dead rfl (rw_arr rfl encItem_p rfl (rw_nil))))))))
                                · refine RO.op rfl rfl (o_load_ptr rfl rfl (loadRow1 Ty.k39 (c := .sl (List.map encItem p1)) rfl ?_))
                                  refine RA.a3 (i1 := 0) (l1 := #[true, false, true, false, false, false, false, false, false, false, false, false]) (i2 := 1) (l2 := #[false, true, true, false, false, false, false, false, false, false, false, false]) (i3 := 3) (l3 := #[false, false, true, true, false, false, false, false, false, false, false, false]) (by decide +kernel) (by decide +kernel) (by decide +kernel) (by decide +kernel) ?_ ?_ ?_
                                  · refine RO.op rfl rfl (o_load_ptr rfl rfl (loadRow1 Ty.k39 (c := .ref 5) rfl ?_))
                                    exact RA.weakR hS14 (Weak.mkN [] [0, 1, 2, 3, 4, 5] (by decide) (by decide) rfl ⟨rn_ptr rfl, rn_ptr rfl, rn_ptr rfl, rn_ptr rfl, rn_int rfl, rn_int rfl, rn_sl encItem_p rfl, rn_int rfl, rn_bool rfl, rn_ref rfl, rn_sl encItem_p rfl, trivial⟩ (rw_box (cs := [.int .i64 p0]) (ds := [.int .i64 p0]) rfl ⟨rn_int rfl, trivial⟩ (rw_box (cs := [.sl (List.map encItem p1)]) (ds := [.sl (List.map encItem p1)]) rfl ⟨rn_sl encItem_p rfl, trivial⟩ (rw_box (cs := [.ref 5]) (ds := [.ref 5]) rfl ⟨rn_ref rfl, trivial⟩ (rw_box (cs := [.int .i64 p2]) (ds := [.int .i64 p2]) rfl ⟨rn_int rfl, trivial⟩ (rw_dead rfl (rw_arr rfl encItem_p rfl (rw_nil))))))))
                                  · refine RO.op rfl rfl (o_load_ptr rfl rfl (loadRow1 Ty.k3 (c := .int .i64 p2) rfl ?_))
                                    exact RA.weakR hS15 (Weak.mkN [] [0, 1, 2, 3, 4, 5] (by decide) (by decide) rfl ⟨rn_ptr rfl, rn_ptr rfl, rn_ptr rfl, rn_ptr rfl, rn_int rfl, rn_int rfl, rn_sl encItem_p rfl, rn_int rfl, rn_bool rfl, rn_int rfl, rn_sl encItem_p rfl, trivial⟩ (rw_box (cs := [.int .i64 p0]) (ds := [.int .i64 p0]) rfl ⟨rn_int rfl, trivial⟩ (rw_box (cs := [.sl (List.map encItem p1)]) (ds := [.sl (List.map encItem p1)]) rfl ⟨rn_sl encItem_p rfl, trivial⟩ (rw_box (cs := [.ref 5]) (ds := [.ref 5]) rfl ⟨rn_ref rfl, trivial⟩ (rw_box (cs := [.int .i64 p2]) (ds := [.int .i64 p2]) rfl ⟨rn_int rfl, trivial⟩ (rw_dead rfl (rw_arr rfl encItem_p rfl (rw_nil))))))))
                                  · refine RO.op rfl rfl (o_load_ptr rfl rfl (loadRow1 Ty.k3 (c := .int .i64 p0) rfl ?_))
                                    refine RA.t0 (i := 4) (li' := #[false, false, true, true, true, false, false, false, false, false, false, false]) rfl (by decide +kernel) (by decide +kernel) (by decide +kernel) (by decide +kernel) rfl rfl (v_index_sl Ty.s39 (fun _ => rfl) rfl rfl hx3 ?_)
                                    exact RA.weakR hS9 (Weak.mkN [] [0, 1, 2, 3, 4, 5] (by decide) (by decide) rfl ⟨rn_ptr rfl, rn_ptr rfl, rn_ptr rfl, rn_ptr rfl, rn_int rfl, rn_int rfl, rn_sl encItem_p rfl, rn_int rfl, rn_bool rfl, rn_sl encItem_p rfl, rn_int rfl, rn_elt (encItem_p _) (congrArg encItem rfl), trivial⟩ (rw_box (cs := [.int .i64 p0]) (ds := [.int .i64 p0]) rfl ⟨rn_int rfl, trivial⟩ (rw_box (cs := [.sl (List.map encItem p1)]) (ds := [.sl (List.map encItem p1)]) rfl ⟨rn_sl encItem_p rfl, trivial⟩ (rw_box (cs := [.ref 5]) (ds := [.ref 5]) rfl ⟨rn_ref rfl, trivial⟩ (rw_box (cs := [.int .i64 p2]) (ds := [.int .i64 p2]) rfl ⟨rn_int rfl, trivial⟩ (rw_dead rfl (rw_arr rfl encItem_p rfl (rw_nil))))))))
                                · refine RO.op rfl rfl (o_load_ptr rfl rfl (loadRow1 Ty.k3 (c := .int .i64 p0) rfl ?_))
                                  refine RA.a3 (i1 := 0) (l1 := #[true, false, false, true, false, false, false, false, false, false, false, false]) (i2 := 1) (l2 := #[false, true, false, true, false, false, false, false, false, false, false, false]) (i3 := 2) (l3 := #[false, false, true, true, false, false, false, false, false, false, false, false]) (by decide +kernel) (by decide +kernel) (by decide +kernel) (by decide +kernel) ?_ ?_ ?_
                                  · refine RO.op rfl rfl (o_load_ptr rfl rfl (loadRow1 Ty.k39 (c := .ref 5) rfl ?_))
                                    exact RA.weakR hS12 (Weak.mkN [] [0, 1, 2, 3, 4, 5] (by decide) (by decide) rfl ⟨rn_ptr rfl, rn_ptr rfl, rn_ptr rfl, rn_ptr rfl, rn_int rfl, rn_int rfl, rn_sl encItem_p rfl, rn_int rfl, rn_bool rfl, rn_ref rfl, rn_int rfl, trivial⟩ (rw_box (cs := [.int .i64 p0]) (ds := [.int .i64 p0]) rfl ⟨rn_int rfl, trivial⟩ (rw_box (cs := [.sl (List.map encItem p1)]) (ds := [.sl (List.map encItem p1)]) rfl ⟨rn_sl encItem_p rfl, trivial⟩ (rw_box (cs := [.ref 5]) (ds := [.ref 5]) rfl ⟨rn_ref rfl, trivial⟩ (rw_box (cs := [.int .i64 p2]) (ds := [.int .i64 p2]) rfl ⟨rn_int rfl, trivial⟩ (rw_dead rfl (rw_arr rfl encItem_p rfl (rw_nil))))))))
                                  · refine RO.op rfl rfl (o_load_ptr rfl rfl (loadRow1 Ty.k3 (c := .int .i64 p2) rfl ?_))
                                    exact RA.weakR hS13 (Weak.mkN [] [0, 1, 2, 3, 4, 5] (by decide) (by decide) rfl ⟨rn_ptr rfl, rn_ptr rfl, rn_ptr rfl, rn_ptr rfl, rn_int rfl, rn_int rfl, rn_sl encItem_p rfl, rn_int rfl, rn_bool rfl, rn_int rfl, rn_int rfl, trivial⟩ (rw_box (cs := [.int .i64 p0]) (ds := [.int .i64 p0]) rfl ⟨rn_int rfl, trivial⟩ (rw_box (cs := [.sl (List.map encItem p1)]) (ds := [.sl (List.map encItem p1)]) rfl ⟨rn_sl encItem_p rfl, trivial⟩ (rw_box (cs := [.ref 5]) (ds := [.ref 5]) rfl ⟨rn_ref rfl, trivial⟩ (rw_box (cs := [.int .i64 p2]) (ds := [.int .i64 p2]) rfl ⟨rn_int rfl, trivial⟩ (rw_dead rfl (rw_arr rfl encItem_p rfl (rw_nil))))))))
                                  · refine RO.op rfl rfl (o_load_ptr rfl rfl (loadRow1 Ty.k39 (c := .sl (List.map encItem p1)) rfl ?_))
                                    refine RA.t0 (i := 4) (li' := #[false, false, true, true, true, false, false, false, false, false, false, false]) rfl (by decide +kernel) (by decide +kernel) (by decide +kernel) (by decide +kernel) rfl rfl (v_index_sl Ty.s39 (fun _ => rfl) rfl rfl hx3 ?_)
                                    exact RA.weakR hS9 (Weak.mkN [] [0, 1, 2, 3, 4, 5] (by decide) (by decide) rfl ⟨rn_ptr rfl, rn_ptr rfl, rn_ptr rfl, rn_ptr rfl, rn_int rfl, rn_int rfl, rn_sl encItem_p rfl, rn_int rfl, rn_bool rfl, rn_sl encItem_p rfl, rn_int rfl, rn_elt (encItem_p _) (congrArg encItem rfl), trivial⟩ (rw_box (cs := [.int .i64 p0]) (ds := [.int .i64 p0]) rfl ⟨rn_int rfl, trivial⟩ (rw_box (cs := [.sl (List.map encItem p1)]) (ds := [.sl (List.map encItem p1)]) rfl ⟨rn_sl encItem_p rfl, trivial⟩ (rw_box (cs := [.ref 5]) (ds := [.ref 5]) rfl ⟨rn_ref rfl, trivial⟩ (rw_box (cs := [.int .i64 p2]) (ds := [.int .i64 p2]) rfl ⟨rn_int rfl, trivial⟩ (rw_dead rfl (rw_arr rfl encItem_p rfl (rw_nil))))))))
theorem ring_Pass_c (p0 : List Item) (p1 : Int) (p2 : List Int) (r : (List Item) × (List Item) × Int) (h : ring_Pass p0 p1 p2 = some r) : FnO Try.prog 31 [.sl (List.map encItem p0), .int .i64 p1, .sl (List.map encI p2)] (.tup [.ref 0, .ref 1, .int .i64 r.2.2]) [.arr 41 3 (List.map encItem r.1), .arr 41 3 (List.map encItem r.2.1)] := by
  unfold ring_Pass at h
  refine fn_of_T (N := 0) rfl Try.func31 rfl (by kernel_rfl) Try.ntmps31 rfl ?_
  show T _ _ _ _ (mkA 53 [(0, .sl (List.map encItem p0)), (1, .int .i64 p1), (2, .sl (List.map encI p2))]) []
  refine T.seq ?_
  refine T.region ?_
  refine RS.op rfl (o_box (cs := [.sl (List.map encItem p0)]) rfl rfl (aw' := [.box [.sl (List.map encItem p0)]]) rfl ?_)
  refine RS.op rfl (o_box (cs := [.int .i64 p1]) rfl rfl (aw' := [.box [.sl (List.map encItem p0)], .box [.int .i64 p1]]) rfl ?_)
  refine RS.op rfl (o_alloc Ty.z39 rfl (aw' := [.box [.sl (List.map encItem p0)], .box [.int .i64 p1], .box [.nils]]) rfl ?_)
  refine RS.op rfl (o_alloc Ty.z39 rfl (aw' := [.box [.sl (List.map encItem p0)], .box [.int .i64 p1], .box [.nils], .box [.nils]]) rfl ?_)
  refine RS.op rfl (OP.q rfl (v_assign (v := .int .i64 0) rfl ?_))
  refine RS.nil ?_
  refine T.seq ?_
  refine T.join (Z := Unit) (fun _ => mkA 53 [(2, .sl (List.map encI p2)), (3, .ptr 0 0), (4, .ptr 1 0), (6, .ptr 2 0), (7, .ptr 3 0), (19, .bool ((decide (p1 < 1)) || decide (p1 > 6)))]) (fun _ => [.box [.sl (List.map encItem p0)], .box [.int .i64 p1], .box [.nils], .box [.nils]]) (fun _ => True) (fun _ _ => ?_) (fun hK => ?_)
  · show T _ _ _ _ (mkA 53 [(2, .sl (List.map encI p2)), (3, .ptr 0 0), (4, .ptr 1 0), (6, .ptr 2 0), (7, .ptr 3 0), (19, .bool ((decide (p1 < 1)) || decide (p1 > 6)))]) [.box [.sl (List.map encItem p0)], .box [.int .i64 p1], .box [.nils], .box [.nils]]
    refine T.cond (b := ((decide (p1 < 1)) || decide (p1 > 6))) rfl (fun hb_2 => ?_) (fun hb_2 => ?_)
    · replace h := ite_T h hb_2
      refine T.seq ?_
      refine T.region ?_
      refine RS.op rfl (o_store_ptr Ty.c39 Ty.i39 rfl (vs := [.nils]) rfl rfl rfl rfl (cs' := [.nils]) rfl (aw' := [.box [.sl (List.map encItem p0)], .box [.int .i64 p1], .box [.nils], .box [.nils]]) rfl ?_)
      refine RS.op rfl (o_store_ptr Ty.c39 Ty.i39 rfl (vs := [.nils]) rfl rfl rfl rfl (cs' := [.nils]) rfl (aw' := [.box [.sl (List.map encItem p0)], .box [.int .i64 p1], .box [.nils], .box [.nils]]) rfl ?_)
      refine RS.op rfl (OP.q rfl (v_assign (v := .int .i64 3) rfl ?_))
      refine RS.nil ?_
      refine T.ret' (R := ?R3) ?hq3 ?_
      case hq3 => repeat (first | exact RetIs.base | refine RetIs.thn ?_ | refine RetIs.blk ?_ | refine RetIs.lq ?_)
      refine res_cellA (id := 2) (off := 0) (cs := [.nils]) (v := .nils) ?_ ?_ ?_ ?_
      · rfl
      · rfl
      · exact fun K h => (loadRow1 (row := [.nils]) (off := 0) Ty.k39 (c := .nils) rfl h)
      refine res_cellA (id := 3) (off := 0) (cs := [.nils]) (v := .nils) ?_ ?_ ?_ ?_
      · rfl
      · rfl
      · exact fun K h => (loadRow1 (row := [.nils]) (off := 0) Ty.k39 (c := .nils) rfl h)
      refine res_tmpA (v := .int .i64 3) rfl ?_
      refine res_done ?_
      exact ret_own (.tup [.ref 0, .ref 1, .int .i64 r.2.2]) [(0, 41, 3), (1, 41, 3)] [4, 5] (by decide) (none_kept _) rfl (rn_tup ⟨rn_ref rfl, rn_ref rfl, rn_int (congrArg (fun r : (List Item) × (List Item) × Int => r.2.2) (Option.some.inj h)).symm, trivial⟩) (rw_arr (en := encItem) (ys := []) rfl encItem_p (congrArg (fun r : (List Item) × (List Item) × Int => r.1) (Option.some.inj h)).symm (rw_arr (en := encItem) (ys := []) rfl encItem_p (congrArg (fun r : (List Item) × (List Item) × Int => r.2.1) (Option.some.inj h)).symm (rw_nil))) ⟨rfl, rfl⟩
    · replace h := ite_F h hb_2
      refine T.skip ?_
      refine T.seq ?_
      refine T.join (Z := Unit) (fun _ => mkA 53 [(2, .sl (List.map encI p2)), (3, .ptr 0 0), (4, .ptr 1 0), (6, .ptr 2 0), (7, .ptr 3 0), (27, .bool ((decide (((p0).length : Int) > 20)) || decide (((p2).length : Int) > 2000)))]) (fun _ => [.box [.sl (List.map encItem p0)], .box [.int .i64 p1], .box [.nils], .box [.nils]]) (fun _ => True) (fun _ _ => ?_) (fun hK => ?_)
      · show T _ _ _ _ (mkA 53 [(2, .sl (List.map encI p2)), (3, .ptr 0 0), (4, .ptr 1 0), (6, .ptr 2 0), (7, .ptr 3 0), (27, .bool ((decide (((p0).length : Int) > 20)) || decide (((p2).length : Int) > 2000)))]) [.box [.sl (List.map encItem p0)], .box [.int .i64 p1], .box [.nils], .box [.nils]]
        refine T.cond (b := ((decide (((p0).length : Int) > 20)) || decide (((p2).length : Int) > 2000))) rfl (fun hb_5 => ?_) (fun hb_5 => ?_)
        · replace h := ite_T h hb_5
          refine T.seq ?_
          refine T.region ?_
          refine RS.op rfl (o_store_ptr Ty.c39 Ty.i39 rfl (vs := [.nils]) rfl rfl rfl rfl (cs' := [.nils]) rfl (aw' := [.box [.sl (List.map encItem p0)], .box [.int .i64 p1], .box [.nils], .box [.nils]]) rfl ?_)
          refine RS.op rfl (o_store_ptr Ty.c39 Ty.i39 rfl (vs := [.nils]) rfl rfl rfl rfl (cs' := [.nils]) rfl (aw' := [.box [.sl (List.map encItem p0)], .box [.int .i64 p1], .box [.nils], .box [.nils]]) rfl ?_)
          refine RS.op rfl (OP.q rfl (v_assign (v := .int .i64 2) rfl ?_))
          refine RS.nil ?_
          refine T.ret' (R := ?R6) ?hq6 ?_
          case hq6 => repeat (first | exact RetIs.base | refine RetIs.thn ?_ | refine RetIs.blk ?_ | refine RetIs.lq ?_)
          refine res_cellA (id := 2) (off := 0) (cs := [.nils]) (v := .nils) ?_ ?_ ?_ ?_
          · rfl
          · rfl
          · exact fun K h => (loadRow1 (row := [.nils]) (off := 0) Ty.k39 (c := .nils) rfl h)
          refine res_cellA (id := 3) (off := 0) (cs := [.nils]) (v := .nils) ?_ ?_ ?_ ?_
          · rfl
          · rfl
          · exact fun K h => (loadRow1 (row := [.nils]) (off := 0) Ty.k39 (c := .nils) rfl h)
          refine res_tmpA (v := .int .i64 2) rfl ?_
          refine res_done ?_
          exact ret_own (.tup [.ref 0, .ref 1, .int .i64 r.2.2]) [(0, 41, 3), (1, 41, 3)] [4, 5] (by decide) (none_kept _) rfl (rn_tup ⟨rn_ref rfl, rn_ref rfl, rn_int (congrArg (fun r : (List Item) × (List Item) × Int => r.2.2) (Option.some.inj h)).symm, trivial⟩) (rw_arr (en := encItem) (ys := []) rfl encItem_p (congrArg (fun r : (List Item) × (List Item) × Int => r.1) (Option.some.inj h)).symm (rw_arr (en := encItem) (ys := []) rfl encItem_p (congrArg (fun r : (List Item) × (List Item) × Int => r.2.1) (Option.some.inj h)).symm (rw_nil))) ⟨rfl, rfl⟩
        · replace h := ite_F h hb_5
          refine T.skip ?_
          refine T.seq ?_
          refine T.region ?_
          refine RS.op rfl (o_alloc Ty.z3 rfl (aw' := [.box [.sl (List.map encItem p0)], .box [.int .i64 p1], .box [.nils], .box [.nils], .box [.int .i64 0]]) rfl ?_)
          refine RS.op rfl (o_store_ptr Ty.c3 Ty.i3 rfl (vs := [.int .i64 0]) rfl rfl rfl rfl (cs' := [.int .i64 0]) rfl (aw' := [.box [.sl (List.map encItem p0)], .box [.int .i64 p1], .box [.nils], .box [.nils], .box [.int .i64 0]]) rfl ?_)
          refine RS.nil ?_
          refine T.seq ?_
          refine T.region ?_
          refine RS.op rfl (OP.q rfl (v_makeFunc (cs := [.ptr 3 0, .ptr 2 0]) rfl ?_))
          refine RS.op rfl (OP.q rfl (v_makeFunc (cs := [.ptr 4 0, .ptr 0 0, .ptr 3 0, .ptr 1 0]) rfl ?_))
          refine RS.op rfl (OP.q rfl (v_build (cs := [.func 60 [.ptr 3 0, .ptr 2 0], .func 61 [.ptr 4 0, .ptr 0 0, .ptr 3 0, .ptr 1 0]]) Ty.z97 Ty.p97 rfl ?_))
          refine RS.op rfl (o_alloc Ty.z97 rfl (aw' := [.box [.sl (List.map encItem p0)], .box [.int .i64 p1], .box [.nils], .box [.nils], .box [.int .i64 0], .box [.nilf, .nilf]]) rfl ?_)
          refine RS.op rfl (o_store_ptr Ty.c97 Ty.i97 rfl (vs := [.func 60 [.ptr 3 0, .ptr 2 0], .func 61 [.ptr 4 0, .ptr 0 0, .ptr 3 0, .ptr 1 0]]) rfl rfl rfl rfl (cs' := [.func 60 [.ptr 3 0, .ptr 2 0], .func 61 [.ptr 4 0, .ptr 0 0, .ptr 3 0, .ptr 1 0]]) rfl (aw' := [.box [.sl (List.map encItem p0)], .box [.int .i64 p1], .box [.nils], .box [.nils], .box [.int .i64 0], .box [.func 60 [.ptr 3 0, .ptr 2 0], .func 61 [.ptr 4 0, .ptr 0 0, .ptr 3 0, .ptr 1 0]]]) rfl ?_)
          refine RS.nil ?_
          refine T.seq ?_
          refine T.seq ?_
          refine T.region ?_
          refine RS.op rfl (OP.q rfl (v_move (v := .sl (List.map encI p2)) rfl ?_))
          refine RS.op rfl (OP.q rfl (v_len_sl Ty.s24 rfl ?_))
          refine RS.op rfl (OP.q rfl (v_move (v := .int .i64 0) rfl ?_))
          refine RS.nil ?_
          refine T.block ?_
          refine T.nilB 2 0 41 3 (cs := [.nils]) rfl rfl (cs' := [.ref 6]) rfl (aw' := [.box [.sl (List.map encItem p0)], .box [.int .i64 p1], .box [.ref 6], .box [.nils], .box [.int .i64 0], .box [.func 60 [.ptr 3 0, .ptr 2 0], .func 61 [.ptr 4 0, .ptr 0 0, .ptr 3 0, .ptr 1 0]], .arr 41 3 (List.map encItem [])]) rfl ?_
          refine T.nilB 3 0 41 3 (cs := [.nils]) rfl rfl (cs' := [.ref 7]) rfl (aw' := [.box [.sl (List.map encItem p0)], .box [.int .i64 p1], .box [.ref 6], .box [.ref 7], .box [.int .i64 0], .box [.func 60 [.ptr 3 0, .ptr 2 0], .func 61 [.ptr 4 0, .ptr 0 0, .ptr 3 0, .ptr 1 0]], .arr 41 3 (List.map encItem []), .arr 41 3 (List.map encItem [])]) rfl ?_
          refine T.iter (fun ss_39 : Int × (List Item) × (List Item) × Int => mkA 53 [(6, .ptr 0 0), (7, .ptr 1 0), (10, .ptr 2 0), (31, .sl (List.map encI p2)), (32, .int .i64 ((p2).length : Int)), (33, .int .i64 ss_39.1)]) (fun ss_39 => [.box [.ref 3], .box [.ref 4], .box [.func 60 [.ptr 1 0, .ptr 0 0], .func 61 [.ptr 5 0, .ptr 6 0, .ptr 1 0, .ptr 7 0]], .arr 41 3 (List.map encItem ss_39.2.1), .arr 41 3 (List.map encItem ss_39.2.2.1), .box [.int .i64 ss_39.2.2.2], .box [.sl (List.map encItem p0)], .box [.int .i64 p1]]) h (Weak.mkN [] [2, 3, 5, 6, 7, 4, 0, 1] (by decide) (none_kept _) rfl ⟨rn_ptr rfl, rn_ptr rfl, rn_ptr rfl, rn_sl encI_p rfl, rn_int rfl, rn_int rfl, trivial⟩ (rw_box (cs := [.ref 3]) (ds := [.ref 6]) rfl ⟨rn_ref rfl, trivial⟩ (rw_box (cs := [.ref 4]) (ds := [.ref 7]) rfl ⟨rn_ref rfl, trivial⟩ (rw_box (cs := [.func 60 [.ptr 1 0, .ptr 0 0], .func 61 [.ptr 5 0, .ptr 6 0, .ptr 1 0, .ptr 7 0]]) (ds := [.func 60 [.ptr 3 0, .ptr 2 0], .func 61 [.ptr 4 0, .ptr 0 0, .ptr 3 0, .ptr 1 0]]) rfl ⟨rn_func ⟨rn_ptr rfl, rn_ptr rfl, trivial⟩, rn_func ⟨rn_ptr rfl, rn_ptr rfl, rn_ptr rfl, rn_ptr rfl, trivial⟩, trivial⟩ (rw_arr rfl encItem_p rfl (rw_arr rfl encItem_p rfl (rw_box (cs := [.int .i64 0]) (ds := [.int .i64 0]) rfl ⟨rn_int rfl, trivial⟩ (rw_box (cs := [.sl (List.map encItem p0)]) (ds := [.sl (List.map encItem p0)]) rfl ⟨rn_sl encItem_p rfl, trivial⟩ (rw_box (cs := [.int .i64 p1]) (ds := [.int .i64 p1]) rfl ⟨rn_int rfl, trivial⟩ (rw_nil)))))))))) (fun ss_39 v_40 h hv_40 => ?_)
          obtain ⟨s3, s4, s5, s6⟩ := ss_39
          replace h : ring_Pass_l1 p0 p1 p2 s3 s4 s5 s6 = some v_40 := h
          show T _ _ _ _ (mkA 53 [(6, .ptr 0 0), (7, .ptr 1 0), (10, .ptr 2 0), (31, .sl (List.map encI p2)), (32, .int .i64 ((p2).length : Int)), (33, .int .i64 s3)]) [.box [.ref 3], .box [.ref 4], .box [.func 60 [.ptr 1 0, .ptr 0 0], .func 61 [.ptr 5 0, .ptr 6 0, .ptr 1 0, .ptr 7 0]], .arr 41 3 (List.map encItem s4), .arr 41 3 (List.map encItem s5), .box [.int .i64 s6], .box [.sl (List.map encItem p0)], .box [.int .i64 p1]]
          unfold ring_Pass_l1 at h
          refine T.seq ?_
          refine T.region ?_
          refine RS.op rfl (OP.q rfl (v_lss rfl rfl ?_))
          refine RS.nil ?_
          refine T.seq ?_
          refine T.cond (b := decide (s3 < ((p2).length : Int))) rfl (fun hb_41 => ?_) (fun hb_41 => ?_)
          · replace h := ite_T h hb_41
            refine T.skip ?_
            refine T.seq ?_
            refine T.block ?_
            refine T.seq ?_
            obtain ⟨x8, hx8, h⟩ := bind_some h
            refine T.region ?_
            refine RS.op rfl (OP.q rfl (v_index_sl Ty.s24 (fun _ => rfl) rfl rfl hx8 ?_))
            refine RS.op rfl (o_load_elt rfl (loadRow1 Ty.k3 (c := .int .i64 x8) rfl ?_))
            refine RS.op rfl (OP.q rfl (v_assign (v := .int .i64 x8) rfl ?_))
            refine RS.nil ?_
            refine T.seq ?_
            refine T.join (Z := Unit) (fun _ => mkA 53 [(6, .ptr 0 0), (7, .ptr 1 0), (10, .ptr 2 0), (12, .int .i64 x8), (31, .sl (List.map encI p2)), (32, .int .i64 ((p2).length : Int)), (33, .int .i64 s3), (42, .bool ((decide (x8 < 0)) || decide (x8 ≥ 2)))]) (fun _ => [.box [.ref 3], .box [.ref 4], .box [.func 60 [.ptr 1 0, .ptr 0 0], .func 61 [.ptr 5 0, .ptr 6 0, .ptr 1 0, .ptr 7 0]], .arr 41 3 (List.map encItem s4), .arr 41 3 (List.map encItem s5), .box [.int .i64 s6], .box [.sl (List.map encItem p0)], .box [.int .i64 p1]]) (fun _ => True) (fun _ _ => ?_) (fun hK => ?_)
            · show T _ _ _ _ (mkA 53 [(6, .ptr 0 0), (7, .ptr 1 0), (10, .ptr 2 0), (12, .int .i64 x8), (31, .sl (List.map encI p2)), (32, .int .i64 ((p2).length : Int)), (33, .int .i64 s3), (42, .bool ((decide (x8 < 0)) || decide (x8 ≥ 2)))]) [.box [.ref 3], .box [.ref 4], .box [.func 60 [.ptr 1 0, .ptr 0 0], .func 61 [.ptr 5 0, .ptr 6 0, .ptr 1 0, .ptr 7 0]], .arr 41 3 (List.map encItem s4), .arr 41 3 (List.map encItem s5), .box [.int .i64 s6], .box [.sl (List.map encItem p0)], .box [.int .i64 p1]]
              refine T.cond (b := ((decide (x8 < 0)) || decide (x8 ≥ 2))) rfl (fun hb_43 => ?_) (fun hb_43 => ?_)
              · replace h := ite_T h hb_43
                refine T.seq ?_
                refine T.region ?_
                refine RS.op rfl (o_store_ptr Ty.c39 Ty.i39 rfl (vs := [.nils]) rfl rfl rfl rfl (cs' := [.nils]) rfl (aw' := [.box [.nils], .box [.ref 4], .box [.func 60 [.ptr 1 0, .ptr 0 0], .func 61 [.ptr 5 0, .ptr 6 0, .ptr 1 0, .ptr 7 0]], .arr 41 3 (List.map encItem s4), .arr 41 3 (List.map encItem s5), .box [.int .i64 s6], .box [.sl (List.map encItem p0)], .box [.int .i64 p1]]) rfl ?_)
                refine RS.op rfl (o_store_ptr Ty.c39 Ty.i39 rfl (vs := [.nils]) rfl rfl rfl rfl (cs' := [.nils]) rfl (aw' := [.box [.nils], .box [.nils], .box [.func 60 [.ptr 1 0, .ptr 0 0], .func 61 [.ptr 5 0, .ptr 6 0, .ptr 1 0, .ptr 7 0]], .arr 41 3 (List.map encItem s4), .arr 41 3 (List.map encItem s5), .box [.int .i64 s6], .box [.sl (List.map encItem p0)], .box [.int .i64 p1]]) rfl ?_)
                refine RS.op rfl (OP.q rfl (v_assign (v := .int .i64 3) rfl ?_))
                refine RS.nil ?_
                refine T.ret' (R := ?R44) ?hq44 ?_
                case hq44 => repeat (first | exact RetIs.base | refine RetIs.thn ?_ | refine RetIs.blk ?_ | refine RetIs.lq ?_)
                obtain ⟨w_45, h, hw_45⟩ := map_inr h
                replace h := h.trans (congrArg some (hv_40 _ hw_45))
                refine res_cellA (id := 0) (off := 0) (cs := [.nils]) (v := .nils) ?_ ?_ ?_ ?_
                · rfl
                · rfl
                · exact fun K h => (loadRow1 (row := [.nils]) (off := 0) Ty.k39 (c := .nils) rfl h)
                refine res_cellA (id := 1) (off := 0) (cs := [.nils]) (v := .nils) ?_ ?_ ?_ ?_
                · rfl
                · rfl
                · exact fun K h => (loadRow1 (row := [.nils]) (off := 0) Ty.k39 (c := .nils) rfl h)
                refine res_tmpA (v := .int .i64 3) rfl ?_
                refine res_done ?_
                exact ret_own (.tup [.ref 0, .ref 1, .int .i64 r.2.2]) [(0, 41, 3), (1, 41, 3)] [8, 9] (by decide) (none_kept _) rfl (rn_tup ⟨rn_ref rfl, rn_ref rfl, rn_int (congrArg (fun r : (List Item) × (List Item) × Int => r.2.2) (Option.some.inj h)).symm, trivial⟩) (rw_arr (en := encItem) (ys := []) rfl encItem_p (congrArg (fun r : (List Item) × (List Item) × Int => r.1) (Option.some.inj h)).symm (rw_arr (en := encItem) (ys := []) rfl encItem_p (congrArg (fun r : (List Item) × (List Item) × Int => r.2.1) (Option.some.inj h)).symm (rw_nil))) ⟨rfl, rfl⟩
              · replace h := ite_F h hb_43
                refine T.skip ?_
                obtain ⟨zt_47, hz, h⟩ := bind_some h
                obtain ⟨c13, c14, c15, c16⟩ := zt_47
                refine T.join (Z := Unit) (fun _ => mkA 53 [(6, .ptr 0 0), (7, .ptr 1 0), (10, .ptr 2 0), (13, .int .i64 c13), (31, .sl (List.map encI p2)), (32, .int .i64 ((p2).length : Int)), (33, .int .i64 s3)]) (fun _ => [.box [.ref 3], .box [.ref 4], .box [.func 60 [.ptr 1 0, .ptr 0 0], .func 61 [.ptr 5 0, .ptr 6 0, .ptr 1 0, .ptr 7 0]], .arr 41 3 (List.map encItem c14), .arr 41 3 (List.map encItem c15), .box [.int .i64 c16], .box [.sl (List.map encItem p0)], .box [.int .i64 p1]]) (fun _ => True) (fun _ _ => ?_) (fun hK => ?_)
                · show T _ _ _ _ (mkA 53 [(6, .ptr 0 0), (7, .ptr 1 0), (10, .ptr 2 0), (13, .int .i64 c13), (31, .sl (List.map encI p2)), (32, .int .i64 ((p2).length : Int)), (33, .int .i64 s3)]) [.box [.ref 3], .box [.ref 4], .box [.func 60 [.ptr 1 0, .ptr 0 0], .func 61 [.ptr 5 0, .ptr 6 0, .ptr 1 0, .ptr 7 0]], .arr 41 3 (List.map encItem c14), .arr 41 3 (List.map encItem c15), .box [.int .i64 c16], .box [.sl (List.map encItem p0)], .box [.int .i64 p1]]
                  refine T.seq ?_
                  refine T.region ?_
                  refine RS.op rfl (OP.q rfl (v_move (v := .int .i64 c13) rfl ?_))
                  refine RS.op rfl (OP.q rfl (v_neq rfl rfl ?_))
                  refine RS.nil ?_
                  refine T.cond (b := c13 != 0) rfl (fun hb_48 => ?_) (fun hb_48 => ?_)
                  · replace h := ite_T h hb_48
                    refine T.seq ?_
                    refine T.region ?_
                    refine RS.op rfl (OP.q rfl (v_move (v := .int .i64 c13) rfl ?_))
                    refine RS.op rfl (o_store_ptr Ty.c39 Ty.i39 rfl (vs := [.nils]) rfl rfl rfl rfl (cs' := [.nils]) rfl (aw' := [.box [.nils], .box [.ref 4], .box [.func 60 [.ptr 1 0, .ptr 0 0], .func 61 [.ptr 5 0, .ptr 6 0, .ptr 1 0, .ptr 7 0]], .arr 41 3 (List.map encItem c14), .arr 41 3 (List.map encItem c15), .box [.int .i64 c16], .box [.sl (List.map encItem p0)], .box [.int .i64 p1]]) rfl ?_)
                    refine RS.op rfl (o_store_ptr Ty.c39 Ty.i39 rfl (vs := [.nils]) rfl rfl rfl rfl (cs' := [.nils]) rfl (aw' := [.box [.nils], .box [.nils], .box [.func 60 [.ptr 1 0, .ptr 0 0], .func 61 [.ptr 5 0, .ptr 6 0, .ptr 1 0, .ptr 7 0]], .arr 41 3 (List.map encItem c14), .arr 41 3 (List.map encItem c15), .box [.int .i64 c16], .box [.sl (List.map encItem p0)], .box [.int .i64 p1]]) rfl ?_)
                    refine RS.op rfl (OP.q rfl (v_assign (v := .int .i64 c13) rfl ?_))
                    refine RS.nil ?_
                    refine T.ret' (R := ?R49) ?hq49 ?_
                    case hq49 => repeat (first | exact RetIs.base | refine RetIs.thn ?_ | refine RetIs.blk ?_ | refine RetIs.lq ?_)
                    obtain ⟨w_50, h, hw_50⟩ := map_inr h
                    replace h := h.trans (congrArg some (hv_40 _ hw_50))
                    refine res_cellA (id := 0) (off := 0) (cs := [.nils]) (v := .nils) ?_ ?_ ?_ ?_
                    · rfl
                    · rfl
                    · exact fun K h => (loadRow1 (row := [.nils]) (off := 0) Ty.k39 (c := .nils) rfl h)
                    refine res_cellA (id := 1) (off := 0) (cs := [.nils]) (v := .nils) ?_ ?_ ?_ ?_
                    · rfl
                    · rfl
                    · exact fun K h => (loadRow1 (row := [.nils]) (off := 0) Ty.k39 (c := .nils) rfl h)
                    refine res_tmpA (v := .int .i64 c13) rfl ?_
                    refine res_done ?_
                    exact ret_own (.tup [.ref 0, .ref 1, .int .i64 r.2.2]) [(0, 41, 3), (1, 41, 3)] [8, 9] (by decide) (none_kept _) rfl (rn_tup ⟨rn_ref rfl, rn_ref rfl, rn_int (congrArg (fun r : (List Item) × (List Item) × Int => r.2.2) (Option.some.inj h)).symm, trivial⟩) (rw_arr (en := encItem) (ys := []) rfl encItem_p (congrArg (fun r : (List Item) × (List Item) × Int => r.1) (Option.some.inj h)).symm (rw_arr (en := encItem) (ys := []) rfl encItem_p (congrArg (fun r : (List Item) × (List Item) × Int => r.2.1) (Option.some.inj h)).symm (rw_nil))) ⟨rfl, rfl⟩
                  · replace h := ite_F h hb_48
                    refine T.skip ?_
                    refine T.region ?_
                    refine RS.op rfl (OP.q rfl (v_add rfl rfl ?_))
                    refine RS.op rfl (OP.q rfl (v_move (v := .int .i64 (IntKind.i64.wrap (s3 + 1))) rfl ?_))
                    refine RS.nil ?_
                    exact ⟨(IntKind.i64.wrap (s3 + 1), c14, c15, c16), (Option.some.inj h).symm, Weak.mkN [] [0, 1, 2, 3, 4, 5, 6, 7] (by decide) (none_kept _) rfl ⟨rn_ptr rfl, rn_ptr rfl, rn_ptr rfl, rn_sl encI_p rfl, rn_int rfl, rn_int rfl, trivial⟩ (rw_box (cs := [.ref 3]) (ds := [.ref 3]) rfl ⟨rn_ref rfl, trivial⟩ (rw_box (cs := [.ref 4]) (ds := [.ref 4]) rfl ⟨rn_ref rfl, trivial⟩ (rw_box (cs := [.func 60 [.ptr 1 0, .ptr 0 0], .func 61 [.ptr 5 0, .ptr 6 0, .ptr 1 0, .ptr 7 0]]) (ds := [.func 60 [.ptr 1 0, .ptr 0 0], .func 61 [.ptr 5 0, .ptr 6 0, .ptr 1 0, .ptr 7 0]]) rfl ⟨rn_func ⟨rn_ptr rfl, rn_ptr rfl, trivial⟩, rn_func ⟨rn_ptr rfl, rn_ptr rfl, rn_ptr rfl, rn_ptr rfl, trivial⟩, trivial⟩ (rw_arr rfl encItem_p rfl (rw_arr rfl encItem_p rfl (rw_box (cs := [.int .i64 c16]) (ds := [.int .i64 c16]) rfl ⟨rn_int rfl, trivial⟩ (rw_box (cs := [.sl (List.map encItem p0)]) (ds := [.sl (List.map encItem p0)]) rfl ⟨rn_sl encItem_p rfl, trivial⟩ (rw_box (cs := [.int .i64 p1]) (ds := [.int .i64 p1]) rfl ⟨rn_int rfl, trivial⟩ (rw_nil)))))))))⟩
                · rcases bool_cases (x8 == 0) with hb_46 | hb_46
                  · replace hz := ite_T hz hb_46
                    obtain ⟨x10, hx10, hz⟩ := bind_some hz
                    refine T.region ?_
                    refine RS.op rfl (OP.q rfl (v_move (v := .int .i64 x8) rfl ?_))
                    refine RS.op rfl (OP.q rfl (v_index_arr (q := 0) Try.underlying97 Ty.c96 Ty.i96 rfl rfl (by simpa using hb_46) rfl rfl (off' := 0) rfl ?_))
                    refine RS.op rfl (o_load_ptr rfl rfl (loadRow1 Ty.k96 (c := .func 60 [.ptr 1 0, .ptr 0 0]) rfl ?_))
                    refine RS.op rfl (o_callF (ac := [.ptr 1 0, .ptr 0 0]) (as0 := [.ptr 0 0, .ptr 1 0]) (aw0 := [.box [.ref 2], .box [.ref 3], .arr 41 3 (List.map encItem s5), .arr 41 3 (List.map encItem s4)]) (aw1 := [.box [.ref 4], .box [.ref 5], .dead, .dead, .arr 41 3 (List.map encItem x10.2.1), .arr 41 3 (List.map encItem x10.2.2)]) (aw2 := [.box [.ref 9], .box [.ref 8], .box [.func 60 [.ptr 1 0, .ptr 0 0], .func 61 [.ptr 5 0, .ptr 6 0, .ptr 1 0, .ptr 7 0]], .dead, .dead, .box [.int .i64 s6], .box [.sl (List.map encItem p0)], .box [.int .i64 p1], .arr 41 3 (List.map encItem x10.2.1), .arr 41 3 (List.map encItem x10.2.2)]) (v := .int .i64 x10.1) (v' := .int .i64 x10.1) (n0 := 8) (n1 := 6) [1, 0, 4, 3] rfl rfl rfl rfl (by decide) (rw_box (cs := [.ref 2]) (ds := [.ref 4]) rfl ⟨rn_ref rfl, trivial⟩ (rw_box (cs := [.ref 3]) (ds := [.ref 3]) rfl ⟨rn_ref rfl, trivial⟩ (rw_arr rfl encItem_p rfl (rw_arr rfl encItem_p rfl (rw_nil))))) ⟨rn_ptr rfl, rn_ptr rfl, trivial⟩ (ring_Pass_1_xbb06_c s5 s4 x10 hx10) rfl (rm_pure (pure_int _ _)) ⟨.inl ⟨1, _, by decide, rfl, rom_box (cs := [.ref 9]) (ds := [.ref 5]) ⟨rm_ref (by decide), trivial⟩⟩, .inl ⟨0, _, by decide, rfl, rom_box (cs := [.ref 8]) (ds := [.ref 4]) ⟨rm_ref (by decide), trivial⟩⟩, .inr ⟨rfl, rfl⟩, .inl ⟨3, _, by decide, rfl, trivial⟩, .inl ⟨2, _, by decide, rfl, trivial⟩, .inr ⟨rfl, rfl⟩, .inr ⟨rfl, rfl⟩, .inr ⟨rfl, rfl⟩, .inl ⟨4, _, by decide, rfl, rom_arr encItem_p⟩, .inl ⟨5, _, by decide, rfl, rom_arr encItem_p⟩, trivial⟩ ?_)
                    refine RS.op rfl (OP.q rfl (v_assign (v := .int .i64 x10.1) rfl ?_))
                    refine RS.nil ?_
                    exact T.weakR (hK () trivial) (Weak.mkN [] [0, 1, 2, 9, 8, 5, 6, 7] (by decide) (none_kept _) rfl ⟨rn_ptr rfl, rn_ptr rfl, rn_ptr rfl, rn_int ((congrArg (fun p => p.1) (Option.some.inj hz)).symm), rn_sl encI_p rfl, rn_int rfl, rn_int rfl, trivial⟩ (rw_box (cs := [.ref 3]) (ds := [.ref 9]) rfl ⟨rn_ref rfl, trivial⟩ (rw_box (cs := [.ref 4]) (ds := [.ref 8]) rfl ⟨rn_ref rfl, trivial⟩ (rw_box (cs := [.func 60 [.ptr 1 0, .ptr 0 0], .func 61 [.ptr 5 0, .ptr 6 0, .ptr 1 0, .ptr 7 0]]) (ds := [.func 60 [.ptr 1 0, .ptr 0 0], .func 61 [.ptr 5 0, .ptr 6 0, .ptr 1 0, .ptr 7 0]]) rfl ⟨rn_func ⟨rn_ptr rfl, rn_ptr rfl, trivial⟩, rn_func ⟨rn_ptr rfl, rn_ptr rfl, rn_ptr rfl, rn_ptr rfl, trivial⟩, trivial⟩ (rw_arr rfl encItem_p ((congrArg (fun p => p.2.1) (Option.some.inj hz)).symm) (rw_arr rfl encItem_p ((congrArg (fun p => p.2.2.1) (Option.some.inj hz)).symm) (rw_box (cs := [.int .i64 c16]) (ds := [.int .i64 s6]) rfl ⟨rn_int ((congrArg (fun p => p.2.2.2) (Option.some.inj hz)).symm), trivial⟩ (rw_box (cs := [.sl (List.map encItem p0)]) (ds := [.sl (List.map encItem p0)]) rfl ⟨rn_sl encItem_p rfl, trivial⟩ (rw_box (cs := [.int .i64 p1]) (ds := [.int .i64 p1]) rfl ⟨rn_int rfl, trivial⟩ (rw_nil))))))))))
                  · replace hz := ite_F hz hb_46
                    obtain ⟨x11, hx11, hz⟩ := bind_some hz
                    obtain ⟨x12, hx12, hz⟩ := bind_some hz
                    refine T.region ?_
                    refine RS.op rfl (OP.q rfl (v_move (v := .int .i64 x8) rfl ?_))
                    refine RS.op rfl (OP.q rfl (v_index_arr (q := 1) Try.underlying97 Ty.c96 Ty.i96 rfl rfl (isAt_some hx11) rfl rfl (off' := 1) rfl ?_))
                    refine RS.op rfl (o_load_ptr rfl rfl (loadRow1 Ty.k96 (c := .func 61 [.ptr 5 0, .ptr 6 0, .ptr 1 0, .ptr 7 0]) rfl ?_))
                    refine RS.op rfl (o_callF (ac := [.ptr 5 0, .ptr 6 0, .ptr 1 0, .ptr 7 0]) (as0 := [.ptr 0 0, .ptr 1 0, .ptr 2 0, .ptr 3 0]) (aw0 := [.box [.int .i64 s6], .box [.sl (List.map encItem p0)], .box [.ref 4], .box [.int .i64 p1], .arr 41 3 (List.map encItem s5)]) (aw1 := [.box [.int .i64 x12.2.1], .box [.sl (List.map encItem p0)], .box [.ref 5], .box [.int .i64 p1], .dead, .arr 41 3 (List.map encItem x12.2.2)]) (aw2 := [.box [.ref 3], .box [.ref 8], .box [.func 60 [.ptr 1 0, .ptr 0 0], .func 61 [.ptr 5 0, .ptr 6 0, .ptr 1 0, .ptr 7 0]], .arr 41 3 (List.map encItem s4), .dead, .box [.int .i64 x12.2.1], .box [.sl (List.map encItem p0)], .box [.int .i64 p1], .arr 41 3 (List.map encItem x12.2.2)]) (v := .int .i64 x12.1) (v' := .int .i64 x12.1) (n0 := 8) (n1 := 6) [5, 6, 1, 7, 4] rfl rfl rfl rfl (by decide) (rw_box (cs := [.int .i64 s6]) (ds := [.int .i64 s6]) rfl ⟨rn_int rfl, trivial⟩ (rw_box (cs := [.sl (List.map encItem p0)]) (ds := [.sl (List.map encItem p0)]) rfl ⟨rn_sl encItem_p rfl, trivial⟩ (rw_box (cs := [.ref 4]) (ds := [.ref 4]) rfl ⟨rn_ref rfl, trivial⟩ (rw_box (cs := [.int .i64 p1]) (ds := [.int .i64 p1]) rfl ⟨rn_int rfl, trivial⟩ (rw_arr rfl encItem_p rfl (rw_nil)))))) ⟨rn_ptr rfl, rn_ptr rfl, rn_ptr rfl, rn_ptr rfl, trivial⟩ (ring_Pass_2_x50ef_c s6 p0 p1 s5 x12 hx12) rfl (rm_pure (pure_int _ _)) ⟨.inr ⟨rfl, rfl⟩, .inl ⟨2, _, by decide, rfl, rom_box (cs := [.ref 8]) (ds := [.ref 5]) ⟨rm_ref (by decide), trivial⟩⟩, .inr ⟨rfl, rfl⟩, .inr ⟨rfl, rfl⟩, .inl ⟨4, _, by decide, rfl, trivial⟩, .inl ⟨0, _, by decide, rfl, rom_box (cs := [.int .i64 x12.2.1]) (ds := [.int .i64 x12.2.1]) ⟨rm_pure (pure_int _ _), trivial⟩⟩, .inl ⟨1, _, by decide, rfl, rom_box (cs := [.sl (List.map encItem p0)]) (ds := [.sl (List.map encItem p0)]) ⟨rm_pure (pure_map encItem_p _), trivial⟩⟩, .inl ⟨3, _, by decide, rfl, rom_box (cs := [.int .i64 p1]) (ds := [.int .i64 p1]) ⟨rm_pure (pure_int _ _), trivial⟩⟩, .inl ⟨5, _, by decide, rfl, rom_arr encItem_p⟩, trivial⟩ ?_)
                    refine RS.op rfl (OP.q rfl (v_assign (v := .int .i64 x12.1) rfl ?_))
                    refine RS.nil ?_
                    exact T.weakR (hK () trivial) (Weak.mkN [] [0, 1, 2, 3, 8, 5, 6, 7] (by decide) (none_kept _) rfl ⟨rn_ptr rfl, rn_ptr rfl, rn_ptr rfl, rn_int ((congrArg (fun p => p.1) (Option.some.inj hz)).symm), rn_sl encI_p rfl, rn_int rfl, rn_int rfl, trivial⟩ (rw_box (cs := [.ref 3]) (ds := [.ref 3]) rfl ⟨rn_ref rfl, trivial⟩ (rw_box (cs := [.ref 4]) (ds := [.ref 8]) rfl ⟨rn_ref rfl, trivial⟩ (rw_box (cs := [.func 60 [.ptr 1 0, .ptr 0 0], .func 61 [.ptr 5 0, .ptr 6 0, .ptr 1 0, .ptr 7 0]]) (ds := [.func 60 [.ptr 1 0, .ptr 0 0], .func 61 [.ptr 5 0, .ptr 6 0, .ptr 1 0, .ptr 7 0]]) rfl ⟨rn_func ⟨rn_ptr rfl, rn_ptr rfl, trivial⟩, rn_func ⟨rn_ptr rfl, rn_ptr rfl, rn_ptr rfl, rn_ptr rfl, trivial⟩, trivial⟩ (rw_arr rfl encItem_p ((congrArg (fun p => p.2.1) (Option.some.inj hz)).symm) (rw_arr rfl encItem_p ((congrArg (fun p => p.2.2.1) (Option.some.inj hz)).symm) (rw_box (cs := [.int .i64 c16]) (ds := [.int .i64 x12.2.1]) rfl ⟨rn_int ((congrArg (fun p => p.2.2.2) (Option.some.inj hz)).symm), trivial⟩ (rw_box (cs := [.sl (List.map encItem p0)]) (ds := [.sl (List.map encItem p0)]) rfl ⟨rn_sl encItem_p rfl, trivial⟩ (rw_box (cs := [.int .i64 p1]) (ds := [.int .i64 p1]) rfl ⟨rn_int rfl, trivial⟩ (rw_nil))))))))))
            · rcases bool_cases (decide (x8 < 0)) with hb_42 | hb_42
              · refine T.region ?_
                refine RS.op rfl (OP.q rfl (v_move (v := .int .i64 x8) rfl ?_))
                refine RS.op rfl (OP.q rfl (v_lss rfl rfl ?_))
                refine RS.op rfl (OP.q rfl (v_move (v := .bool (decide (x8 < 0))) rfl ?_))
                refine RS.no rfl rfl rfl hb_42 ?_
                refine RS.no rfl rfl rfl hb_42 ?_
                refine RS.op rfl (OP.q rfl (v_pickT (v := .bool true) rfl hb_42 rfl ?_))
                refine RS.nil ?_
                exact T.weakR (hK () trivial) (Weak.mkN [] [0, 1, 2, 3, 4, 5, 6, 7] (by decide) (none_kept _) rfl ⟨rn_ptr rfl, rn_ptr rfl, rn_ptr rfl, rn_int rfl, rn_sl encI_p rfl, rn_int rfl, rn_int rfl, rn_bool (by simp only [hb_42, Bool.true_or, Bool.or_true, Bool.false_or, Bool.or_false, Bool.true_and, Bool.and_true, Bool.false_and, Bool.and_false, Bool.not_true, Bool.not_false, if_true, if_false, Bool.false_eq_true, reduceIte]), trivial⟩ (rw_box (cs := [.ref 3]) (ds := [.ref 3]) rfl ⟨rn_ref rfl, trivial⟩ (rw_box (cs := [.ref 4]) (ds := [.ref 4]) rfl ⟨rn_ref rfl, trivial⟩ (rw_box (cs := [.func 60 [.ptr 1 0, .ptr 0 0], .func 61 [.ptr 5 0, .ptr 6 0, .ptr 1 0, .ptr 7 0]]) (ds := [.func 60 [.ptr 1 0, .ptr 0 0], .func 61 [.ptr 5 0, .ptr 6 0, .ptr 1 0, .ptr 7 0]]) rfl ⟨rn_func ⟨rn_ptr rfl, rn_ptr rfl, trivial⟩, rn_func ⟨rn_ptr rfl, rn_ptr rfl, rn_ptr rfl, rn_ptr rfl, trivial⟩, trivial⟩ (rw_arr rfl encItem_p rfl (rw_arr rfl encItem_p rfl (rw_box (cs := [.int .i64 s6]) (ds := [.int .i64 s6]) rfl ⟨rn_int rfl, trivial⟩ (rw_box (cs := [.sl (List.map encItem p0)]) (ds := [.sl (List.map encItem p0)]) rfl ⟨rn_sl encItem_p rfl, trivial⟩ (rw_box (cs := [.int .i64 p1]) (ds := [.int .i64 p1]) rfl ⟨rn_int rfl, trivial⟩ (rw_nil))))))))))
              · refine T.region ?_
                refine RS.op rfl (OP.q rfl (v_move (v := .int .i64 x8) rfl ?_))
                refine RS.op rfl (OP.q rfl (v_lss rfl rfl ?_))
                refine RS.op rfl (OP.q rfl (v_move (v := .bool (decide (x8 < 0))) rfl ?_))
                refine RS.yes rfl rfl rfl hb_42 (OP.q rfl (v_move (v := .int .i64 x8) rfl ?_))
                refine RS.yes rfl rfl rfl hb_42 (OP.q rfl (v_geq rfl rfl ?_))
                refine RS.op rfl (OP.q rfl (v_pickF (v := .bool (decide (x8 ≥ 2))) rfl hb_42 rfl ?_))
                refine RS.nil ?_
                exact T.weakR (hK () trivial) (Weak.mkN [] [0, 1, 2, 3, 4, 5, 6, 7] (by decide) (none_kept _) rfl ⟨rn_ptr rfl, rn_ptr rfl, rn_ptr rfl, rn_int rfl, rn_sl encI_p rfl, rn_int rfl, rn_int rfl, rn_bool (by simp only [hb_42, Bool.true_or, Bool.or_true, Bool.false_or, Bool.or_false, Bool.true_and, Bool.and_true, Bool.false_and, Bool.and_false, Bool.not_true, Bool.not_false, if_true, if_false, Bool.false_eq_true, reduceIte]), trivial⟩ (rw_box (cs := [.ref 3]) (ds := [.ref 3]) rfl ⟨rn_ref rfl, trivial⟩ (rw_box (cs := [.ref 4]) (ds := [.ref 4]) rfl ⟨rn_ref rfl, trivial⟩ (rw_box (cs := [.func 60 [.ptr 1 0, .ptr 0 0], .func 61 [.ptr 5 0, .ptr 6 0, .ptr 1 0, .ptr 7 0]]) (ds := [.func 60 [.ptr 1 0, .ptr 0 0], .func 61 [.ptr 5 0, .ptr 6 0, .ptr 1 0, .ptr 7 0]]) rfl ⟨rn_func ⟨rn_ptr rfl, rn_ptr rfl, trivial⟩, rn_func ⟨rn_ptr rfl, rn_ptr rfl, rn_ptr rfl, rn_ptr rfl, trivial⟩, trivial⟩ (rw_arr rfl encItem_p rfl (rw_arr rfl encItem_p rfl (rw_box (cs := [.int .i64 s6]) (ds := [.int .i64 s6]) rfl ⟨rn_int rfl, trivial⟩ (rw_box (cs := [.sl (List.map encItem p0)]) (ds := [.sl (List.map encItem p0)]) rfl ⟨rn_sl encItem_p rfl, trivial⟩ (rw_box (cs := [.int .i64 p1]) (ds := [.int .i64 p1]) rfl ⟨rn_int rfl, trivial⟩ (rw_nil))))))))))
          · replace h := ite_F h hb_41
            refine T.exit ?_
            obtain ⟨w_51, h, hw_51⟩ := map_inr h
            replace h := h.trans (congrArg some (hv_40 _ hw_51))
            refine T.seq ?_
            refine T.drawn mixed (k := 5) rfl ?_
            refine RA.join 2 #[true, true, true, false, false] (mkA 53 [(6, .ptr 0 0), (7, .ptr 1 0), (10, .ptr 2 0), (31, .sl (List.map encI p2)), (32, .int .i64 ((p2).length : Int)), (33, .int .i64 s3), (34, .bool (decide (s3 < ((p2).length : Int)))), (51, .ref 3), (52, .ref 4)]) [.box [.ref 3], .box [.ref 4], .box [.func 60 [.ptr 1 0, .ptr 0 0], .func 61 [.ptr 5 0, .ptr 6 0, .ptr 1 0, .ptr 7 0]], .arr 41 3 (List.map encItem s4), .arr 41 3 (List.map encItem s5), .box [.int .i64 s6], .box [.sl (List.map encItem p0)], .box [.int .i64 p1]] ?_ (fun hS52 => ?_)
            · refine RA.a1 (i1 := 3) (l1 := #[true, true, true, true, false]) (by decide +kernel) (by decide +kernel) ?_
              refine RO.op rfl rfl (o_store_ptr Ty.c39 Ty.i39 rfl (vs := [.ref 4]) rfl rfl rfl rfl (cs' := [.ref 4]) rfl (aw' := [.box [.ref 3], .box [.ref 4], .box [.func 60 [.ptr 1 0, .ptr 0 0], .func 61 [.ptr 5 0, .ptr 6 0, .ptr 1 0, .ptr 7 0]], .arr 41 3 (List.map encItem s4), .arr 41 3 (List.map encItem s5), .box [.int .i64 s6], .box [.sl (List.map encItem p0)], .box [.int .i64 p1]]) rfl ?_)
              refine RA.t0 (i := 4) (li' := #[true, true, true, true, true]) rfl (by decide +kernel) (by decide +kernel) (by decide +kernel) (by decide +kernel) rfl rfl (v_assign (v := .int .i64 0) rfl ?_)
              refine RA.done (by decide +kernel) ?_
              refine T.ret' (R := ?R54) ?hq54 ?_
              case hq54 => repeat (first | exact RetIs.base | refine RetIs.thn ?_ | refine RetIs.blk ?_ | refine RetIs.lq ?_)
              refine res_cellA (id := 0) (off := 0) (cs := [.ref 3]) (v := .ref 3) ?_ ?_ ?_ ?_
              · rfl
              · rfl
              · exact fun K h => (loadRow1 (row := [.ref 3]) (off := 0) Ty.k39 (c := .ref 3) rfl h)
              refine res_cellA (id := 1) (off := 0) (cs := [.ref 4]) (v := .ref 4) ?_ ?_ ?_ ?_
              · rfl
              · rfl
              · exact fun K h => (loadRow1 (row := [.ref 4]) (off := 0) Ty.k39 (c := .ref 4) rfl h)
              refine res_tmpA (v := .int .i64 0) rfl ?_
              refine res_done ?_
              exact ret_own (.tup [.ref 0, .ref 1, .int .i64 r.2.2]) [] [3, 4] (by decide) (none_kept _) rfl (rn_tup ⟨rn_ref rfl, rn_ref rfl, rn_int (congrArg (fun r : (List Item) × (List Item) × Int => r.2.2) (Option.some.inj h)).symm, trivial⟩) (rw_arr rfl encItem_p (congrArg (fun r : (List Item) × (List Item) × Int => r.1) (Option.some.inj h)).symm (rw_arr rfl encItem_p (congrArg (fun r : (List Item) × (List Item) × Int => r.2.1) (Option.some.inj h)).symm (rw_nil))) ⟨rfl, rfl⟩
            · refine RA.join 3 #[true, true, false, false, false] (mkA 53 [(6, .ptr 0 0), (7, .ptr 1 0), (10, .ptr 2 0), (31, .sl (List.map encI p2)), (32, .int .i64 ((p2).length : Int)), (33, .int .i64 s3), (34, .bool (decide (s3 < ((p2).length : Int)))), (51, .ref 3), (52, .ref 4)]) [.box [.ref 3], .box [.ref 4], .box [.func 60 [.ptr 1 0, .ptr 0 0], .func 61 [.ptr 5 0, .ptr 6 0, .ptr 1 0, .ptr 7 0]], .arr 41 3 (List.map encItem s4), .arr 41 3 (List.map encItem s5), .box [.int .i64 s6], .box [.sl (List.map encItem p0)], .box [.int .i64 p1]] ?_ (fun hS53 => ?_)
              · refine RA.a1 (i1 := 2) (l1 := #[true, true, true, false, false]) (by decide +kernel) (by decide +kernel) ?_
                refine RO.op rfl rfl (o_store_ptr Ty.c39 Ty.i39 rfl (vs := [.ref 3]) rfl rfl rfl rfl (cs' := [.ref 3]) rfl (aw' := [.box [.ref 3], .box [.ref 4], .box [.func 60 [.ptr 1 0, .ptr 0 0], .func 61 [.ptr 5 0, .ptr 6 0, .ptr 1 0, .ptr 7 0]], .arr 41 3 (List.map encItem s4), .arr 41 3 (List.map encItem s5), .box [.int .i64 s6], .box [.sl (List.map encItem p0)], .box [.int .i64 p1]]) rfl ?_)
                exact RA.weakR hS52 (Weak.mkN [] [0, 1, 2, 3, 4, 5, 6, 7] (by decide) (none_kept _) rfl ⟨rn_ptr rfl, rn_ptr rfl, rn_ptr rfl, rn_sl encI_p rfl, rn_int rfl, rn_int rfl, rn_bool rfl, rn_ref rfl, rn_ref rfl, trivial⟩ (rw_box (cs := [.ref 3]) (ds := [.ref 3]) rfl ⟨rn_ref rfl, trivial⟩ (rw_box (cs := [.ref 4]) (ds := [.ref 4]) rfl ⟨rn_ref rfl, trivial⟩ (rw_box (cs := [.func 60 [.ptr 1 0, .ptr 0 0], .func 61 [.ptr 5 0, .ptr 6 0, .ptr 1 0, .ptr 7 0]]) (ds := [.func 60 [.ptr 1 0, .ptr 0 0], .func 61 [.ptr 5 0, .ptr 6 0, .ptr 1 0, .ptr 7 0]]) rfl ⟨rn_func ⟨rn_ptr rfl, rn_ptr rfl, trivial⟩, rn_func ⟨rn_ptr rfl, rn_ptr rfl, rn_ptr rfl, rn_ptr rfl, trivial⟩, trivial⟩ (rw_arr rfl encItem_p rfl (rw_arr rfl encItem_p rfl (rw_box (cs := [.int .i64 s6]) (ds := [.int .i64 s6]) rfl ⟨rn_int rfl, trivial⟩ (rw_box (cs := [.sl (List.map encItem p0)]) (ds := [.sl (List.map encItem p0)]) rfl ⟨rn_sl encItem_p rfl, trivial⟩ (rw_box (cs := [.int .i64 p1]) (ds := [.int .i64 p1]) rfl ⟨rn_int rfl, trivial⟩ (rw_nil))))))))))
              · refine RA.a2 (i1 := 0) (l1 := #[true, false, false, false, false]) (i2 := 1) (l2 := #[false, true, false, false, false]) (by decide +kernel) (by decide +kernel) (by decide +kernel) ?_ ?_
                · refine RO.op rfl rfl (o_load_ptr rfl rfl (loadRow1 Ty.k39 (c := .ref 3) rfl ?_))
                  refine RA.a2 (i1 := 1) (l1 := #[true, true, false, false, false]) (i2 := 2) (l2 := #[true, false, true, false, false]) (by decide +kernel) (by decide +kernel) (by decide +kernel) ?_ ?_
                  · refine RO.op rfl rfl (o_load_ptr rfl rfl (loadRow1 Ty.k39 (c := .ref 4) rfl ?_))
                    exact RA.weakR hS53 (Weak.mkN [] [0, 1, 2, 3, 4, 5, 6, 7] (by decide) (none_kept _) rfl ⟨rn_ptr rfl, rn_ptr rfl, rn_ptr rfl, rn_sl encI_p rfl, rn_int rfl, rn_int rfl, rn_bool rfl, rn_ref rfl, rn_ref rfl, trivial⟩ (rw_box (cs := [.ref 3]) (ds := [.ref 3]) rfl ⟨rn_ref rfl, trivial⟩ (rw_box (cs := [.ref 4]) (ds := [.ref 4]) rfl ⟨rn_ref rfl, trivial⟩ (rw_box (cs := [.func 60 [.ptr 1 0, .ptr 0 0], .func 61 [.ptr 5 0, .ptr 6 0, .ptr 1 0, .ptr 7 0]]) (ds := [.func 60 [.ptr 1 0, .ptr 0 0], .func 61 [.ptr 5 0, .ptr 6 0, .ptr 1 0, .ptr 7 0]]) rfl ⟨rn_func ⟨rn_ptr rfl, rn_ptr rfl, trivial⟩, rn_func ⟨rn_ptr rfl, rn_ptr rfl, rn_ptr rfl, rn_ptr rfl, trivial⟩, trivial⟩ (rw_arr rfl encItem_p rfl (rw_arr rfl encItem_p rfl (rw_box (cs := [.int .i64 s6]) (ds := [.int .i64 s6]) rfl ⟨rn_int rfl, trivial⟩ (rw_box (cs := [.sl (List.map encItem p0)]) (ds := [.sl (List.map encItem p0)]) rfl ⟨rn_sl encItem_p rfl, trivial⟩ (rw_box (cs := [.int .i64 p1]) (ds := [.int .i64 p1]) rfl ⟨rn_int rfl, trivial⟩ (rw_nil))))))))))
                  · refine RO.op rfl rfl (o_store_ptr Ty.c39 Ty.i39 rfl (vs := [.ref 3]) rfl rfl rfl rfl (cs' := [.ref 3]) rfl (aw' := [.box [.ref 3], .box [.ref 4], .box [.func 60 [.ptr 1 0, .ptr 0 0], .func 61 [.ptr 5 0, .ptr 6 0, .ptr 1 0, .ptr 7 0]], .arr 41 3 (List.map encItem s4), .arr 41 3 (List.map encItem s5), .box [.int .i64 s6], .box [.sl (List.map encItem p0)], .box [.int .i64 p1]]) rfl ?_)
                    refine RA.a1 (i1 := 1) (l1 := #[true, true, true, false, false]) (by decide +kernel) (by decide +kernel) ?_
                    refine RO.op rfl rfl (o_load_ptr rfl rfl (loadRow1 Ty.k39 (c := .ref 4) rfl ?_))
                    exact RA.weakR hS52 (Weak.mkN [] [0, 1, 2, 3, 4, 5, 6, 7] (by decide) (none_kept _) rfl ⟨rn_ptr rfl, rn_ptr rfl, rn_ptr rfl, rn_sl encI_p rfl, rn_int rfl, rn_int rfl, rn_bool rfl, rn_ref rfl, rn_ref rfl, trivial⟩ (rw_box (cs := [.ref 3]) (ds := [.ref 3]) rfl ⟨rn_ref rfl, trivial⟩ (rw_box (cs := [.ref 4]) (ds := [.ref 4]) rfl ⟨rn_ref rfl, trivial⟩ (rw_box (cs := [.func 60 [.ptr 1 0, .ptr 0 0], .func 61 [.ptr 5 0, .ptr 6 0, .ptr 1 0, .ptr 7 0]]) (ds := [.func 60 [.ptr 1 0, .ptr 0 0], .func 61 [.ptr 5 0, .ptr 6 0, .ptr 1 0, .ptr 7 0]]) rfl ⟨rn_func ⟨rn_ptr rfl, rn_ptr rfl, trivial⟩, rn_func ⟨rn_ptr rfl, rn_ptr rfl, rn_ptr rfl, rn_ptr rfl, trivial⟩, trivial⟩ (rw_arr rfl encItem_p rfl (rw_arr rfl encItem_p rfl (rw_box (cs := [.int .i64 s6]) (ds := [.int .i64 s6]) rfl ⟨rn_int rfl, trivial⟩ (rw_box (cs := [.sl (List.map encItem p0)]) (ds := [.sl (List.map encItem p0)]) rfl ⟨rn_sl encItem_p rfl, trivial⟩ (rw_box (cs := [.int .i64 p1]) (ds := [.int .i64 p1]) rfl ⟨rn_int rfl, trivial⟩ (rw_nil))))))))))
                · refine RO.op rfl rfl (o_load_ptr rfl rfl (loadRow1 Ty.k39 (c := .ref 4) rfl ?_))
                  refine RA.a1 (i1 := 0) (l1 := #[true, true, false, false, false]) (by decide +kernel) (by decide +kernel) ?_
                  refine RO.op rfl rfl (o_load_ptr rfl rfl (loadRow1 Ty.k39 (c := .ref 3) rfl ?_))
                  exact RA.weakR hS53 (Weak.mkN [] [0, 1, 2, 3, 4, 5, 6, 7] (by decide) (none_kept _) rfl ⟨rn_ptr rfl, rn_ptr rfl, rn_ptr rfl, rn_sl encI_p rfl, rn_int rfl, rn_int rfl, rn_bool rfl, rn_ref rfl, rn_ref rfl, trivial⟩ (rw_box (cs := [.ref 3]) (ds := [.ref 3]) rfl ⟨rn_ref rfl, trivial⟩ (rw_box (cs := [.ref 4]) (ds := [.ref 4]) rfl ⟨rn_ref rfl, trivial⟩ (rw_box (cs := [.func 60 [.ptr 1 0, .ptr 0 0], .func 61 [.ptr 5 0, .ptr 6 0, .ptr 1 0, .ptr 7 0]]) (ds := [.func 60 [.ptr 1 0, .ptr 0 0], .func 61 [.ptr 5 0, .ptr 6 0, .ptr 1 0, .ptr 7 0]]) rfl ⟨rn_func ⟨rn_ptr rfl, rn_ptr rfl, trivial⟩, rn_func ⟨rn_ptr rfl, rn_ptr rfl, rn_ptr rfl, rn_ptr rfl, trivial⟩, trivial⟩ (rw_arr rfl encItem_p rfl (rw_arr rfl encItem_p rfl (rw_box (cs := [.int .i64 s6]) (ds := [.int .i64 s6]) rfl ⟨rn_int rfl, trivial⟩ (rw_box (cs := [.sl (List.map encItem p0)]) (ds := [.sl (List.map encItem p0)]) rfl ⟨rn_sl encItem_p rfl, trivial⟩ (rw_box (cs := [.int .i64 p1]) (ds := [.int .i64 p1]) rfl ⟨rn_int rfl, trivial⟩ (rw_nil))))))))))
      · rcases bool_cases (decide (((p0).length : Int) > 20)) with hb_4 | hb_4
        · refine T.region ?_
          refine RS.op rfl (o_load_ptr rfl rfl (loadRow1 Ty.k39 (c := .sl (List.map encItem p0)) rfl ?_))
          refine RS.op rfl (OP.q rfl (v_len_sl Ty.s39 rfl ?_))
          refine RS.op rfl (OP.q rfl (v_gtr rfl rfl ?_))
          refine RS.op rfl (OP.q rfl (v_move (v := .bool (decide (((p0).length : Int) > 20))) rfl ?_))
          refine RS.no rfl rfl rfl hb_4 ?_
          refine RS.no rfl rfl rfl hb_4 ?_
          refine RS.no rfl rfl rfl hb_4 ?_
          refine RS.op rfl (OP.q rfl (v_pickT (v := .bool true) rfl hb_4 rfl ?_))
          refine RS.nil ?_
          exact T.weakR (hK () trivial) (Weak.mkN [] [0, 1, 2, 3] (by decide) (none_kept _) rfl ⟨rn_sl encI_p rfl, rn_ptr rfl, rn_ptr rfl, rn_ptr rfl, rn_ptr rfl, rn_bool (by simp only [hb_4, Bool.true_or, Bool.or_true, Bool.false_or, Bool.or_false, Bool.true_and, Bool.and_true, Bool.false_and, Bool.and_false, Bool.not_true, Bool.not_false, if_true, if_false, Bool.false_eq_true, reduceIte]), trivial⟩ (rw_box (cs := [.sl (List.map encItem p0)]) (ds := [.sl (List.map encItem p0)]) rfl ⟨rn_sl encItem_p rfl, trivial⟩ (rw_box (cs := [.int .i64 p1]) (ds := [.int .i64 p1]) rfl ⟨rn_int rfl, trivial⟩ (rw_box (cs := [.nils]) (ds := [.nils]) rfl ⟨rn_same pure_nils, trivial⟩ (rw_box (cs := [.nils]) (ds := [.nils]) rfl ⟨rn_same pure_nils, trivial⟩ (rw_nil))))))
        · refine T.region ?_
          refine RS.op rfl (o_load_ptr rfl rfl (loadRow1 Ty.k39 (c := .sl (List.map encItem p0)) rfl ?_))
          refine RS.op rfl (OP.q rfl (v_len_sl Ty.s39 rfl ?_))
          refine RS.op rfl (OP.q rfl (v_gtr rfl rfl ?_))
          refine RS.op rfl (OP.q rfl (v_move (v := .bool (decide (((p0).length : Int) > 20))) rfl ?_))
          refine RS.yes rfl rfl rfl hb_4 (OP.q rfl (v_move (v := .sl (List.map encI p2)) rfl ?_))
          refine RS.yes rfl rfl rfl hb_4 (OP.q rfl (v_len_sl Ty.s24 rfl ?_))
          refine RS.yes rfl rfl rfl hb_4 (OP.q rfl (v_gtr rfl rfl ?_))
          refine RS.op rfl (OP.q rfl (v_pickF (v := .bool (decide (((p2).length : Int) > 2000))) rfl hb_4 rfl ?_))
          refine RS.nil ?_
          exact T.weakR (hK () trivial) (Weak.mkN [] [0, 1, 2, 3] (by decide) (none_kept _) rfl ⟨rn_sl encI_p rfl, rn_ptr rfl, rn_ptr rfl, rn_ptr rfl, rn_ptr rfl, rn_bool (by simp only [hb_4, Bool.true_or, Bool.or_true, Bool.false_or, Bool.or_false, Bool.true_and, Bool.and_true, Bool.false_and, Bool.and_false, Bool.not_true, Bool.not_false, if_true, if_false, Bool.false_eq_true, reduceIte]), trivial⟩ (rw_box (cs := [.sl (List.map encItem p0)]) (ds := [.sl (List.map encItem p0)]) rfl ⟨rn_sl encItem_p rfl, trivial⟩ (rw_box (cs := [.int .i64 p1]) (ds := [.int .i64 p1]) rfl ⟨rn_int rfl, trivial⟩ (rw_box (cs := [.nils]) (ds := [.nils]) rfl ⟨rn_same pure_nils, trivial⟩ (rw_box (cs := [.nils]) (ds := [.nils]) rfl ⟨rn_same pure_nils, trivial⟩ (rw_nil))))))
  · rcases bool_cases (decide (p1 < 1)) with hb_1 | hb_1
    · refine T.region ?_
      refine RS.op rfl (o_load_ptr rfl rfl (loadRow1 Ty.k3 (c := .int .i64 p1) rfl ?_))
      refine RS.op rfl (OP.q rfl (v_lss rfl rfl ?_))
      refine RS.op rfl (OP.q rfl (v_move (v := .bool (decide (p1 < 1))) rfl ?_))
      refine RS.no rfl rfl rfl hb_1 ?_
      refine RS.no rfl rfl rfl hb_1 ?_
      refine RS.op rfl (OP.q rfl (v_pickT (v := .bool true) rfl hb_1 rfl ?_))
      refine RS.nil ?_
      exact T.weakR (hK () trivial) (Weak.mkN [] [0, 1, 2, 3] (by decide) (none_kept _) rfl ⟨rn_sl encI_p rfl, rn_ptr rfl, rn_ptr rfl, rn_ptr rfl, rn_ptr rfl, rn_bool (by simp only [hb_1, Bool.true_or, Bool.or_true, Bool.false_or, Bool.or_false, Bool.true_and, Bool.and_true, Bool.false_and, Bool.and_false, Bool.not_true, Bool.not_false, if_true, if_false, Bool.false_eq_true, reduceIte]), trivial⟩ (rw_box (cs := [.sl (List.map encItem p0)]) (ds := [.sl (List.map encItem p0)]) rfl ⟨rn_sl encItem_p rfl, trivial⟩ (rw_box (cs := [.int .i64 p1]) (ds := [.int .i64 p1]) rfl ⟨rn_int rfl, trivial⟩ (rw_box (cs := [.nils]) (ds := [.nils]) rfl ⟨rn_same pure_nils, trivial⟩ (rw_box (cs := [.nils]) (ds := [.nils]) rfl ⟨rn_same pure_nils, trivial⟩ (rw_nil))))))
    · refine T.region ?_
      refine RS.op rfl (o_load_ptr rfl rfl (loadRow1 Ty.k3 (c := .int .i64 p1) rfl ?_))
      refine RS.op rfl (OP.q rfl (v_lss rfl rfl ?_))
      refine RS.op rfl (OP.q rfl (v_move (v := .bool (decide (p1 < 1))) rfl ?_))
      refine RS.yes rfl rfl rfl hb_1 (o_load_ptr rfl rfl (loadRow1 Ty.k3 (c := .int .i64 p1) rfl ?_))
      refine RS.yes rfl rfl rfl hb_1 (OP.q rfl (v_gtr rfl rfl ?_))
      refine RS.op rfl (OP.q rfl (v_pickF (v := .bool (decide (p1 > 6))) rfl hb_1 rfl ?_))
      refine RS.nil ?_
      exact T.weakR (hK () trivial) (Weak.mkN [] [0, 1, 2, 3] (by decide) (none_kept _) rfl ⟨rn_sl encI_p rfl, rn_ptr rfl, rn_ptr rfl, rn_ptr rfl, rn_ptr rfl, rn_bool (by simp only [hb_1, Bool.true_or, Bool.or_true, Bool.false_or, Bool.or_false, Bool.true_and, Bool.and_true, Bool.false_and, Bool.and_false, Bool.not_true, Bool.not_false, if_true, if_false, Bool.false_eq_true, reduceIte]), trivial⟩ (rw_box (cs := [.sl (List.map encItem p0)]) (ds := [.sl (List.map encItem p0)]) rfl ⟨rn_sl encItem_p rfl, trivial⟩ (rw_box (cs := [.int .i64 p1]) (ds := [.int .i64 p1]) rfl ⟨rn_int rfl, trivial⟩ (rw_box (cs := [.nils]) (ds := [.nils]) rfl ⟨rn_same pure_nils, trivial⟩ (rw_box (cs := [.nils]) (ds := [.nils]) rfl ⟨rn_same pure_nils, trivial⟩ (rw_nil))))))
theorem slices_Equal_Item_c (p0 : List Item) (p1 : List Item) (r : Bool) (h : slices_Equal_Item p0 p1 = some r) : Fn Try.prog 30 [.sl (List.map encItem p0), .sl (List.map encItem p1)] (.bool r) := by
  unfold slices_Equal_Item at h
  refine fn_of_T (N := 0) rfl Try.func30 rfl (by kernel_rfl) Try.ntmps30 rfl ?_
  show T _ _ _ _ (mkA 26 [(0, .sl (List.map encItem p0)), (1, .sl (List.map encItem p1))]) []
  refine T.seq ?_
  refine T.region ?_
  refine RS.op rfl (OP.q rfl (v_assign (v := .bool false) rfl ?_))
  refine RS.nil ?_
  refine T.seq ?_
  refine T.seq ?_
  refine T.region ?_
  refine RS.op rfl (OP.q rfl (v_move (v := .sl (List.map encItem p0)) rfl ?_))
  refine RS.op rfl (OP.q rfl (v_len_sl Ty.s39 rfl ?_))
  refine RS.op rfl (OP.q rfl (v_move (v := .sl (List.map encItem p1)) rfl ?_))
  refine RS.op rfl (OP.q rfl (v_len_sl Ty.s39 rfl ?_))
  refine RS.op rfl (OP.q rfl (v_neq rfl rfl ?_))
  refine RS.nil ?_
  refine T.cond (b := ((p0).length : Int) != ((p1).length : Int)) rfl (fun hb_1 => ?_) (fun hb_1 => ?_)
  · replace h := ite_T h hb_1
    refine T.seq ?_
    refine T.region ?_
    refine RS.op rfl (OP.q rfl (v_assign (v := .bool false) rfl ?_))
    refine RS.nil ?_
    refine T.ret' (R := ?R2) ?hq2 ?_
    case hq2 => repeat (first | exact RetIs.base | refine RetIs.thn ?_ | refine RetIs.blk ?_ | refine RetIs.lq ?_)
    refine res_tmpA (v := .bool false) rfl ?_
    refine res_done ?_
    exact ret_data (v := .bool false) rfl (pure_bool _) ⟨congrArg (fun r : Bool => (.bool r : AV)) (Option.some.inj h), rfl⟩
  · replace h := ite_F h hb_1
    refine T.skip ?_
    refine T.seq ?_
    refine T.seq ?_
    refine T.region ?_
    refine RS.op rfl (OP.q rfl (v_move (v := .sl (List.map encItem p0)) rfl ?_))
    refine RS.op rfl (OP.q rfl (v_len_sl Ty.s39 rfl ?_))
    refine RS.op rfl (OP.q rfl (v_move (v := .int .i64 0) rfl ?_))
    refine RS.nil ?_
    refine T.block ?_
    refine T.iter (fun ss_11 : Int => mkA 26 [(0, .sl (List.map encItem p0)), (1, .sl (List.map encItem p1)), (12, .int .i64 ((p0).length : Int)), (13, .int .i64 ss_11)]) (fun ss_11 => []) h (Weak.mkN [] [] (by decide) (none_kept _) rfl ⟨rn_sl encItem_p rfl, rn_sl encItem_p rfl, rn_int rfl, rn_int rfl, trivial⟩ (rw_nil)) (fun ss_11 v_12 h hv_12 => ?_)
    revert hv_12 h; revert ss_11; intro s1 h hv_12
    replace h : slices_Equal_Item_l1 p0 p1 s1 = some v_12 := h
    show T _ _ _ _ (mkA 26 [(0, .sl (List.map encItem p0)), (1, .sl (List.map encItem p1)), (12, .int .i64 ((p0).length : Int)), (13, .int .i64 s1)]) []
    unfold slices_Equal_Item_l1 at h
    refine T.seq ?_
    refine T.region ?_
    refine RS.op rfl (OP.q rfl (v_lss rfl rfl ?_))
    refine RS.nil ?_
    refine T.seq ?_
    refine T.cond (b := decide (s1 < ((p0).length : Int))) rfl (fun hb_13 => ?_) (fun hb_13 => ?_)
    · replace h := ite_T h hb_13
      refine T.skip ?_
      refine T.seq ?_
      refine T.block ?_
      refine T.seq ?_
      refine T.region ?_
      refine RS.op rfl (OP.q rfl (v_move (v := .int .i64 s1) rfl ?_))
      refine RS.op rfl (OP.q rfl (v_assign (v := .int .i64 s1) rfl ?_))
      refine RS.nil ?_
      refine T.seq ?_
      obtain ⟨x4, hx4, h⟩ := bind_some h
      obtain ⟨x5, hx5, h⟩ := bind_some h
      refine T.drawn mixed (k := 9) rfl ?_
      refine RA.join 0 #[true, true, true, true, true, true, true, true, true] (mkA 26 [(0, .sl (List.map encItem p0)), (1, .sl (List.map encItem p1)), (5, .int .i64 s1), (12, .int .i64 ((p0).length : Int)), (13, .int .i64 s1), (14, .bool (decide (s1 < ((p0).length : Int)))), (15, .int .i64 s1), (16, .sl (List.map encItem p0)), (17, .int .i64 s1), (18, .elt (encItem x4) 0), (19, .agg [.int .i64 x4.Key, .int .i64 x4.Val, .int .i64 x4.Dep]), (20, .sl (List.map encItem p1)), (21, .int .i64 s1), (22, .elt (encItem x5) 0), (23, .agg [.int .i64 x5.Key, .int .i64 x5.Val, .int .i64 x5.Dep]), (24, .bool (!(x4 == x5)))]) [] ?_ (fun hS14 => ?_)
      · refine RA.done (by decide +kernel) ?_
        refine T.cond (b := !(x4 == x5)) rfl (fun hb_15 => ?_) (fun hb_15 => ?_)
        · replace h := ite_T h hb_15
          refine T.seq ?_
          refine T.region ?_
          refine RS.op rfl (OP.q rfl (v_assign (v := .bool false) rfl ?_))
          refine RS.nil ?_
          refine T.ret' (R := ?R16) ?hq16 ?_
          case hq16 => repeat (first | exact RetIs.base | refine RetIs.thn ?_ | refine RetIs.blk ?_ | refine RetIs.lq ?_)
          obtain ⟨w_17, h, hw_17⟩ := map_inr h
          replace h := h.trans (congrArg some (hv_12 _ hw_17))
          refine res_tmpA (v := .bool false) rfl ?_
          refine res_done ?_
          exact ret_data (v := .bool false) rfl (pure_bool _) ⟨congrArg (fun r : Bool => (.bool r : AV)) (Option.some.inj h), rfl⟩
        · replace h := ite_F h hb_15
          refine T.skip ?_
          refine T.region ?_
          refine RS.op rfl (OP.q rfl (v_add rfl rfl ?_))
          refine RS.op rfl (OP.q rfl (v_move (v := .int .i64 (IntKind.i64.wrap (s1 + 1))) rfl ?_))
          refine RS.nil ?_
          exact ⟨IntKind.i64.wrap (s1 + 1), (Option.some.inj h).symm, Weak.mkN [] [] (by decide) (none_kept _) rfl ⟨rn_sl encItem_p rfl, rn_sl encItem_p rfl, rn_int rfl, rn_int rfl, trivial⟩ (rw_nil)⟩
      · refine RA.t0 (i := 0) (li' := #[true, false, false, false, false, false, false, false, false]) rfl (by decide +kernel) (by decide +kernel) (by decide +kernel) (by decide +kernel) rfl rfl (v_move (v := .sl (List.map encItem p0)) rfl ?_)
        refine RA.t0 (i := 1) (li' := #[true, true, false, false, false, false, false, false, false]) rfl (by decide +kernel) (by decide +kernel) (by decide +kernel) (by decide +kernel) rfl rfl (v_move (v := .int .i64 s1) rfl ?_)
        refine RA.t0 (i := 2) (li' := #[true, true, true, false, false, false, false, false, false]) rfl (by decide +kernel) (by decide +kernel) (by decide +kernel) (by decide +kernel) rfl rfl (v_index_sl Ty.s39 (fun _ => rfl) rfl rfl hx4 ?_)
        refine RA.t0 (i := 4) (li' := #[true, true, true, false, true, false, false, false, false]) rfl (by decide +kernel) (by decide +kernel) (by decide +kernel) (by decide +kernel) rfl rfl (v_move (v := .sl (List.map encItem p1)) rfl ?_)
        refine RA.t0 (i := 5) (li' := #[true, true, true, false, true, true, false, false, false]) rfl (by decide +kernel) (by decide +kernel) (by decide +kernel) (by decide +kernel) rfl rfl (v_move (v := .int .i64 s1) rfl ?_)
        refine RA.t0 (i := 6) (li' := #[true, true, true, false, true, true, true, false, false]) rfl (by decide +kernel) (by decide +kernel) (by decide +kernel) (by decide +kernel) rfl rfl (v_index_sl Ty.s39 (fun _ => rfl) rfl rfl hx5 ?_)
        refine RA.a2 (i1 := 3) (l1 := #[true, true, true, true, true, true, true, false, false]) (i2 := 7) (l2 := #[true, true, true, false, true, true, true, true, false]) (by decide +kernel) (by decide +kernel) (by decide +kernel) ?_ ?_
        · refine RO.op rfl rfl (o_load_elt rfl (loadRowA Ty.k41 Ty.c41 rfl (cs := [.int .i64 x4.Key, .int .i64 x4.Val, .int .i64 x4.Dep]) rfl ?_))
          refine RA.a1 (i1 := 7) (l1 := #[true, true, true, true, true, true, true, true, false]) (by decide +kernel) (by decide +kernel) ?_
          refine RO.op rfl rfl (o_load_elt rfl (loadRowA Ty.k41 Ty.c41 rfl (cs := [.int .i64 x5.Key, .int .i64 x5.Val, .int .i64 x5.Dep]) rfl ?_))
          refine RA.t0 (i := 8) (li' := #[true, true, true, true, true, true, true, true, true]) rfl (by decide +kernel) (by decide +kernel) (by decide +kernel) (by decide +kernel) rfl rfl (v_gneq (cs := [.int .i64 x4.Key, .int .i64 x4.Val, .int .i64 x4.Dep]) (ds := [.int .i64 x5.Key, .int .i64 x5.Val, .int .i64 x5.Dep]) (r := x4 == x5) Ty.q41 rfl rfl rfl rfl (encItem_eq x4 x5) ?_)
          exact RA.weakR hS14 (Weak.mkN [] [] (by decide) (none_kept _) rfl ⟨rn_sl encItem_p rfl, rn_sl encItem_p rfl, rn_int rfl, rn_int rfl, rn_int rfl, rn_bool rfl, rn_int rfl, rn_sl encItem_p rfl, rn_int rfl, rn_elt (encItem_p _) (congrArg encItem rfl), rn_agg ⟨rn_int rfl, rn_int rfl, rn_int rfl, trivial⟩, rn_sl encItem_p rfl, rn_int rfl, rn_elt (encItem_p _) (congrArg encItem rfl), rn_agg ⟨rn_int rfl, rn_int rfl, rn_int rfl, trivial⟩, rn_bool rfl, trivial⟩ (rw_nil))
        · refine RO.op rfl rfl (o_load_elt rfl (loadRowA Ty.k41 Ty.c41 rfl (cs := [.int .i64 x5.Key, .int .i64 x5.Val, .int .i64 x5.Dep]) rfl ?_))
          refine RA.a1 (i1 := 3) (l1 := #[true, true, true, true, true, true, true, true, false]) (by decide +kernel) (by decide +kernel) ?_
          refine RO.op rfl rfl (o_load_elt rfl (loadRowA Ty.k41 Ty.c41 rfl (cs := [.int .i64 x4.Key, .int .i64 x4.Val, .int .i64 x4.Dep]) rfl ?_))
          refine RA.t0 (i := 8) (li' := #[true, true, true, true, true, true, true, true, true]) rfl (by decide +kernel) (by decide +kernel) (by decide +kernel) (by decide +kernel) rfl rfl (v_gneq (cs := [.int .i64 x4.Key, .int .i64 x4.Val, .int .i64 x4.Dep]) (ds := [.int .i64 x5.Key, .int .i64 x5.Val, .int .i64 x5.Dep]) (r := x4 == x5) Ty.q41 rfl rfl rfl rfl (encItem_eq x4 x5) ?_)
          exact RA.weakR hS14 (Weak.mkN [] [] (by decide) (none_kept _) rfl ⟨rn_sl encItem_p rfl, rn_sl encItem_p rfl, rn_int rfl, rn_int rfl, rn_int rfl, rn_bool rfl, rn_int rfl, rn_sl encItem_p rfl, rn_int rfl, rn_elt (encItem_p _) (congrArg encItem rfl), rn_agg ⟨rn_int rfl, rn_int rfl, rn_int rfl, trivial⟩, rn_sl encItem_p rfl, rn_int rfl, rn_elt (encItem_p _) (congrArg encItem rfl), rn_agg ⟨rn_int rfl, rn_int rfl, rn_int rfl, trivial⟩, rn_bool rfl, trivial⟩ (rw_nil))
    · replace h := ite_F h hb_13
      refine T.exit ?_
      obtain ⟨w_18, h, hw_18⟩ := map_inr h
      replace h := h.trans (congrArg some (hv_12 _ hw_18))
      refine T.seq ?_
      refine T.region ?_
      refine RS.op rfl (OP.q rfl (v_assign (v := .bool true) rfl ?_))
      refine RS.nil ?_
      refine T.ret' (R := ?R19) ?hq19 ?_
      case hq19 => repeat (first | exact RetIs.base | refine RetIs.thn ?_ | refine RetIs.blk ?_ | refine RetIs.lq ?_)
      refine res_tmpA (v := .bool true) rfl ?_
      refine res_done ?_
      exact ret_data (v := .bool true) rfl (pure_bool _) ⟨congrArg (fun r : Bool => (.bool r : AV)) (Option.some.inj h), rfl⟩
end Go.Proofs.Ytpndpdbabblphaa
