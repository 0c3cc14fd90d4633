/-
  The code computes these functions. Printed by a program of ours (wip/gen.py).
-/
import Derived.Test.YtpndpdbabblphaaFr
import Derived.Test.YtpndpdbabblphaaEnc
import Derived.Test.YtpndpdbabblphaaSh
namespace Go.Proofs.Ytpndpdbabblphaa
open Go.RowKit
set_option linter.unusedVariables false
set_option linter.unusedSimpArgs false
set_option maxRecDepth 100000
theorem slices_Clone_Item_c (p0 r : List Item) (h : slices_Clone_Item p0 = some r) : FnO Try.prog 26 [.sl (List.map encItem p0)] (.ref 0) [.arr 41 3 (List.map encItem r)] := by
  have hr : p0 = r := by
    unfold slices_Clone_Item app at h
    split at h
    · simpa using h
    · cases h
  refine fn_of_T (N := 0) rfl Try.func26 rfl (by kernel_rfl) Try.ntmps26 rfl ?_
  show T _ _ _ _ (mkA 8 [(0, .sl (List.map encItem p0))]) []
  refine T.seq ?_
  refine T.region ?_
  refine RS.op rfl (OP.q rfl (v_assign (v := .nils) rfl ?_))
  refine RS.nil ?_
  refine T.seq ?_
  refine T.seq ?_
  refine T.region ?_
  refine RS.op rfl (OP.q rfl (v_move (v := .sl (List.map encItem p0)) rfl ?_))
  refine RS.op rfl (OP.q rfl (v_nileq Ty.s39 rfl rfl (fun z hz => ?_)))
  refine RS.nil ?_
  refine T.cond (b := z) rfl (fun hb => ?_) (fun hb => ?_)
  · refine T.seq ?_
    refine T.region ?_
    refine RS.op rfl (OP.q rfl (v_assign (v := .nils) rfl ?_))
    refine RS.nil ?_
    refine T.ret ?_
    refine res_tmpA (v := .nils) rfl ?_
    refine res_done ?_
    have h0 : p0 = [] := List.map_eq_nil_iff.1 (hz hb)
    exact ret_own (.ref 0) [(0, 41, 3)] [0] (by decide) (none_kept _) rfl (rn_ref rfl) (rw_arr (en := encItem) (ys := []) rfl encItem_p (by rw [← hr, h0]) (rw_nil)) ⟨rfl, rfl⟩
  · refine T.skip ?_
    refine T.seq ?_
    refine T.region ?_
    refine RS.op rfl (o_buildSlice (rows := List.map encItem []) (vs := []) Ty.s39 Ty.z41 rfl rfl rfl rfl rfl (aw' := [.arr 41 3 (List.map encItem [])]) rfl ?_)
    refine RS.op rfl (OP.q rfl (v_move (v := .sl (List.map encItem p0)) rfl ?_))
    refine RS.op rfl (o_app_ref (en := encItem) (xs := ([] : List Item)) (ys := p0) (r := r) Ty.s39 (fun _ => rfl) rfl rfl rfl h rfl (aw' := [.dead, .arr 41 3 (List.map encItem r)]) rfl ?_)
    refine RS.op rfl (OP.q rfl (v_assign (v := .ref 1) rfl ?_))
    refine RS.nil ?_
    refine T.ret ?_
    refine res_tmpA (v := .ref 1) rfl ?_
    refine res_done ?_
    exact ret_own (.ref 0) [] [1] (by decide) (none_kept _) rfl (rn_ref rfl) (rw_arr rfl encItem_p rfl (rw_nil)) ⟨rfl, rfl⟩
theorem slices_Equal_Item_c (p0 : List Item) (p1 : List Item) (r : Bool) (h : slices_Equal_Item p0 p1 = some r) : Fn Try.prog 30 [.sl (List.map encItem p0), .sl (List.map encItem p1)] (.bool r) := by
  unfold slices_Equal_Item at h
  refine fn_of_T (N := 0) rfl Try.func30 rfl (by kernel_rfl) Try.ntmps30 rfl ?_
  show T _ _ _ _ (mkA 26 [(0, .sl (List.map encItem p0)), (1, .sl (List.map encItem p1))]) []
  refine T.seq ?_
  refine T.region ?_
  refine RS.op rfl (OP.q rfl (v_assign (v := .bool false) rfl ?_))
  refine RS.nil ?_
  refine T.seq ?_
  refine T.seq ?_
  refine T.region ?_
  refine RS.op rfl (OP.q rfl (v_move (v := .sl (List.map encItem p0)) rfl ?_))
  refine RS.op rfl (OP.q rfl (v_len_sl Ty.s39 rfl ?_))
  refine RS.op rfl (OP.q rfl (v_move (v := .sl (List.map encItem p1)) rfl ?_))
  refine RS.op rfl (OP.q rfl (v_len_sl Ty.s39 rfl ?_))
  refine RS.op rfl (OP.q rfl (v_neq rfl rfl ?_))
  refine RS.nil ?_
  refine T.cond (b := ((p0).length : Int) != ((p1).length : Int)) rfl (fun hb_1 => ?_) (fun hb_1 => ?_)
  · replace h := ite_T h hb_1
    refine T.seq ?_
    refine T.region ?_
    refine RS.op rfl (OP.q rfl (v_assign (v := .bool false) rfl ?_))
    refine RS.nil ?_
    refine T.ret' (R := ?R2) ?hq2 ?_
    case hq2 => repeat (first | exact RetIs.base | refine RetIs.thn ?_ | refine RetIs.blk ?_ | refine RetIs.lq ?_)
    refine res_tmpA (v := .bool false) rfl ?_
    refine res_done ?_
    exact ret_data (v := .bool false) rfl (pure_bool _) ⟨congrArg (fun r : Bool => (.bool r : AV)) (Option.some.inj h), rfl⟩
  · replace h := ite_F h hb_1
    refine T.skip ?_
    refine T.seq ?_
    refine T.seq ?_
    refine T.region ?_
    refine RS.op rfl (OP.q rfl (v_move (v := .sl (List.map encItem p0)) rfl ?_))
    refine RS.op rfl (OP.q rfl (v_len_sl Ty.s39 rfl ?_))
    refine RS.op rfl (OP.q rfl (v_move (v := .int .i64 0) rfl ?_))
    refine RS.nil ?_
    refine T.block ?_
    refine T.iter (fun ss_11 : Int => mkA 26 [(0, .sl (List.map encItem p0)), (1, .sl (List.map encItem p1)), (12, .int .i64 ((p0).length : Int)), (13, .int .i64 ss_11)]) (fun ss_11 => []) h (Weak.mkN [] [] (by decide) (none_kept _) rfl ⟨rn_sl encItem_p rfl, rn_sl encItem_p rfl, rn_int rfl, rn_int rfl, trivial⟩ (rw_nil)) (fun ss_11 v_12 h hv_12 => ?_)
    revert hv_12 h; revert ss_11; intro s1 h hv_12
    replace h : slices_Equal_Item_l1 p0 p1 s1 = some v_12 := h
    show T _ _ _ _ (mkA 26 [(0, .sl (List.map encItem p0)), (1, .sl (List.map encItem p1)), (12, .int .i64 ((p0).length : Int)), (13, .int .i64 s1)]) []
    unfold slices_Equal_Item_l1 at h
    refine T.seq ?_
    refine T.region ?_
    refine RS.op rfl (OP.q rfl (v_lss rfl rfl ?_))
    refine RS.nil ?_
    refine T.seq ?_
    refine T.cond (b := decide (s1 < ((p0).length : Int))) rfl (fun hb_13 => ?_) (fun hb_13 => ?_)
    · replace h := ite_T h hb_13
      refine T.skip ?_
      refine T.seq ?_
      refine T.block ?_
      refine T.seq ?_
      refine T.region ?_
      refine RS.op rfl (OP.q rfl (v_move (v := .int .i64 s1) rfl ?_))
      refine RS.op rfl (OP.q rfl (v_assign (v := .int .i64 s1) rfl ?_))
      refine RS.nil ?_
      refine T.seq ?_
      obtain ⟨x4, hx4, h⟩ := bind_some h
      obtain ⟨x5, hx5, h⟩ := bind_some h
      refine T.drawn mixed (k := 9) rfl ?_
      refine RA.join 0 #[true, true, true, true, true, true, true, true, true] (mkA 26 [(0, .sl (List.map encItem p0)), (1, .sl (List.map encItem p1)), (5, .int .i64 s1), (12, .int .i64 ((p0).length : Int)), (13, .int .i64 s1), (14, .bool (decide (s1 < ((p0).length : Int)))), (15, .int .i64 s1), (16, .sl (List.map encItem p0)), (17, .int .i64 s1), (18, .elt (encItem x4) 0), (19, .agg [.int .i64 x4.Key, .int .i64 x4.Val, .int .i64 x4.Dep]), (20, .sl (List.map encItem p1)), (21, .int .i64 s1), (22, .elt (encItem x5) 0), (23, .agg [.int .i64 x5.Key, .int .i64 x5.Val, .int .i64 x5.Dep]), (24, .bool (!(x4 == x5)))]) [] ?_ (fun hS14 => ?_)
      · refine RA.done (by decide +kernel) ?_
        refine T.cond (b := !(x4 == x5)) rfl (fun hb_15 => ?_) (fun hb_15 => ?_)
        · replace h := ite_T h hb_15
          refine T.seq ?_
          refine T.region ?_
          refine RS.op rfl (OP.q rfl (v_assign (v := .bool false) rfl ?_))
          refine RS.nil ?_
          refine T.ret' (R := ?R16) ?hq16 ?_
          case hq16 => repeat (first | exact RetIs.base | refine RetIs.thn ?_ | refine RetIs.blk ?_ | refine RetIs.lq ?_)
          obtain ⟨w_17, h, hw_17⟩ := map_inr h
          replace h := h.trans (congrArg some (hv_12 _ hw_17))
          refine res_tmpA (v := .bool false) rfl ?_
          refine res_done ?_
          exact ret_data (v := .bool false) rfl (pure_bool _) ⟨congrArg (fun r : Bool => (.bool r : AV)) (Option.some.inj h), rfl⟩
        · replace h := ite_F h hb_15
          refine T.skip ?_
          refine T.region ?_
          refine RS.op rfl (OP.q rfl (v_add rfl rfl ?_))
          refine RS.op rfl (OP.q rfl (v_move (v := .int .i64 (IntKind.i64.wrap (s1 + 1))) rfl ?_))
          refine RS.nil ?_
          exact ⟨IntKind.i64.wrap (s1 + 1), (Option.some.inj h).symm, Weak.mkN [] [] (by decide) (none_kept _) rfl ⟨rn_sl encItem_p rfl, rn_sl encItem_p rfl, rn_int rfl, rn_int rfl, trivial⟩ (rw_nil)⟩
      · refine RA.t0 (i := 0) (li' := #[true, false, false, false, false, false, false, false, false]) rfl (by decide +kernel) (by decide +kernel) (by decide +kernel) (by decide +kernel) rfl rfl (v_move (v := .sl (List.map encItem p0)) rfl ?_)
        refine RA.t0 (i := 1) (li' := #[true, true, false, false, false, false, false, false, false]) rfl (by decide +kernel) (by decide +kernel) (by decide +kernel) (by decide +kernel) rfl rfl (v_move (v := .int .i64 s1) rfl ?_)
        refine RA.t0 (i := 2) (li' := #[true, true, true, false, false, false, false, false, false]) rfl (by decide +kernel) (by decide +kernel) (by decide +kernel) (by decide +kernel) rfl rfl (v_index_sl Ty.s39 (fun _ => rfl) rfl rfl hx4 ?_)
        refine RA.t0 (i := 4) (li' := #[true, true, true, false, true, false, false, false, false]) rfl (by decide +kernel) (by decide +kernel) (by decide +kernel) (by decide +kernel) rfl rfl (v_move (v := .sl (List.map encItem p1)) rfl ?_)
        refine RA.t0 (i := 5) (li' := #[true, true, true, false, true, true, false, false, false]) rfl (by decide +kernel) (by decide +kernel) (by decide +kernel) (by decide +kernel) rfl rfl (v_move (v := .int .i64 s1) rfl ?_)
        refine RA.t0 (i := 6) (li' := #[true, true, true, false, true, true, true, false, false]) rfl (by decide +kernel) (by decide +kernel) (by decide +kernel) (by decide +kernel) rfl rfl (v_index_sl Ty.s39 (fun _ => rfl) rfl rfl hx5 ?_)
        refine RA.a2 (i1 := 3) (l1 := #[true, true, true, true, true, true, true, false, false]) (i2 := 7) (l2 := #[true, true, true, false, true, true, true, true, false]) (by decide +kernel) (by decide +kernel) (by decide +kernel) ?_ ?_
        · refine RO.op rfl rfl (o_load_elt rfl (loadRowA Ty.k41 Ty.c41 rfl (cs := [.int .i64 x4.Key, .int .i64 x4.Val, .int .i64 x4.Dep]) rfl ?_))
          refine RA.a1 (i1 := 7) (l1 := #[true, true, true, true, true, true, true, true, false]) (by decide +kernel) (by decide +kernel) ?_
          refine RO.op rfl rfl (o_load_elt rfl (loadRowA Ty.k41 Ty.c41 rfl (cs := [.int .i64 x5.Key, .int .i64 x5.Val, .int .i64 x5.Dep]) rfl ?_))
          refine RA.t0 (i := 8) (li' := #[true, true, true, true, true, true, true, true, true]) rfl (by decide +kernel) (by decide +kernel) (by decide +kernel) (by decide +kernel) rfl rfl (v_gneq (cs := [.int .i64 x4.Key, .int .i64 x4.Val, .int .i64 x4.Dep]) (ds := [.int .i64 x5.Key, .int .i64 x5.Val, .int .i64 x5.Dep]) (r := x4 == x5) Ty.q41 rfl rfl rfl rfl (encItem_eq _ _) ?_)
          exact RA.weakR hS14 (Weak.mkN [] [] (by decide) (none_kept _) rfl ⟨rn_sl encItem_p rfl, rn_sl encItem_p rfl, rn_int rfl, rn_int rfl, rn_int rfl, rn_bool rfl, rn_int rfl, rn_sl encItem_p rfl, rn_int rfl, rn_elt (encItem_p _) (congrArg encItem rfl), rn_agg ⟨rn_int rfl, rn_int rfl, rn_int rfl, trivial⟩, rn_sl encItem_p rfl, rn_int rfl, rn_elt (encItem_p _) (congrArg encItem rfl), rn_agg ⟨rn_int rfl, rn_int rfl, rn_int rfl, trivial⟩, rn_bool rfl, trivial⟩ (rw_nil))
        · refine RO.op rfl rfl (o_load_elt rfl (loadRowA Ty.k41 Ty.c41 rfl (cs := [.int .i64 x5.Key, .int .i64 x5.Val, .int .i64 x5.Dep]) rfl ?_))
          refine RA.a1 (i1 := 3) (l1 := #[true, true, true, true, true, true, true, true, false]) (by decide +kernel) (by decide +kernel) ?_
          refine RO.op rfl rfl (o_load_elt rfl (loadRowA Ty.k41 Ty.c41 rfl (cs := [.int .i64 x4.Key, .int .i64 x4.Val, .int .i64 x4.Dep]) rfl ?_))
          refine RA.t0 (i := 8) (li' := #[true, true, true, true, true, true, true, true, true]) rfl (by decide +kernel) (by decide +kernel) (by decide +kernel) (by decide +kernel) rfl rfl (v_gneq (cs := [.int .i64 x4.Key, .int .i64 x4.Val, .int .i64 x4.Dep]) (ds := [.int .i64 x5.Key, .int .i64 x5.Val, .int .i64 x5.Dep]) (r := x4 == x5) Ty.q41 rfl rfl rfl rfl (encItem_eq _ _) ?_)
          exact RA.weakR hS14 (Weak.mkN [] [] (by decide) (none_kept _) rfl ⟨rn_sl encItem_p rfl, rn_sl encItem_p rfl, rn_int rfl, rn_int rfl, rn_int rfl, rn_bool rfl, rn_int rfl, rn_sl encItem_p rfl, rn_int rfl, rn_elt (encItem_p _) (congrArg encItem rfl), rn_agg ⟨rn_int rfl, rn_int rfl, rn_int rfl, trivial⟩, rn_sl encItem_p rfl, rn_int rfl, rn_elt (encItem_p _) (congrArg encItem rfl), rn_agg ⟨rn_int rfl, rn_int rfl, rn_int rfl, trivial⟩, rn_bool rfl, trivial⟩ (rw_nil))
    · replace h := ite_F h hb_13
      refine T.exit ?_
      obtain ⟨w_18, h, hw_18⟩ := map_inr h
      replace h := h.trans (congrArg some (hv_12 _ hw_18))
      refine T.seq ?_
      refine T.region ?_
      refine RS.op rfl (OP.q rfl (v_assign (v := .bool true) rfl ?_))
      refine RS.nil ?_
      refine T.ret' (R := ?R19) ?hq19 ?_
      case hq19 => repeat (first | exact RetIs.base | refine RetIs.thn ?_ | refine RetIs.blk ?_ | refine RetIs.lq ?_)
      refine res_tmpA (v := .bool true) rfl ?_
      refine res_done ?_
      exact ret_data (v := .bool true) rfl (pure_bool _) ⟨congrArg (fun r : Bool => (.bool r : AV)) (Option.some.inj h), rfl⟩
theorem gate_Free_1_x38ec_c (p0 : Item) (p1 : Int) (r : Bool) (h : gate_Free_1_x38ec p0 p1 = some r) : FnX Try.prog 63 [.agg [.int .i64 p0.Key, .int .i64 p0.Val, .int .i64 p0.Dep], .ptr 0 0] [.box [.int .i64 p1]] (.bool r) [.box [.int .i64 p1]] := by
  unfold gate_Free_1_x38ec at h
  refine fn_of_T (N := 1) rfl Try.func63 rfl (by kernel_rfl) Try.ntmps63 rfl ?_
  show T _ _ _ _ (mkA 8 [(0, .agg [.int .i64 p0.Key, .int .i64 p0.Val, .int .i64 p0.Dep]), (1, .ptr 0 0)]) [.box [.int .i64 p1]]
  refine T.seq ?_
  refine T.region ?_
  refine RS.op rfl (o_box (cs := [.int .i64 p0.Key, .int .i64 p0.Val, .int .i64 p0.Dep]) rfl rfl (aw' := [.box [.int .i64 p1], .box [.int .i64 p0.Key, .int .i64 p0.Val, .int .i64 p0.Dep]]) rfl ?_)
  refine RS.op rfl (OP.q rfl (v_assign (v := .bool false) rfl ?_))
  refine RS.nil ?_
  refine T.seq ?_
  refine T.region ?_
  refine RS.op rfl (OP.q rfl (v_fieldAddr_ptr Ty.f41_2 rfl (off' := 2) rfl ?_))
  refine RS.op rfl (o_load_ptr rfl rfl (loadRow1 Ty.k3 (c := .int .i64 p0.Dep) rfl ?_))
  refine RS.op rfl (o_load_ptr rfl rfl (loadRow1 Ty.k3 (c := .int .i64 p1) rfl ?_))
  refine RS.op rfl (OP.q rfl (v_gtr rfl rfl ?_))
  refine RS.op rfl (OP.q rfl (v_assign (v := .bool (decide (p0.Dep > p1))) rfl ?_))
  refine RS.nil ?_
  refine T.ret' (R := ?R1) ?hq1 ?_
  case hq1 => repeat (first | exact RetIs.base | refine RetIs.thn ?_ | refine RetIs.blk ?_ | refine RetIs.lq ?_)
  refine res_tmpA (v := .bool (decide (p0.Dep > p1))) rfl ?_
  refine res_done ?_
  exact ret_norm (v := .bool (decide (p0.Dep > p1))) (aw1 := [.box [.int .i64 p1], .box [.int .i64 p0.Key, .int .i64 p0.Val, .int .i64 p0.Dep]]) (.bool r) [0] rfl (by decide) (by decide) (rn_bool (congrArg (fun r : Bool => r) (Option.some.inj h)).symm) (rw_box (cs := [.int .i64 p1]) (ds := [.int .i64 p1]) rfl ⟨rn_int rfl, trivial⟩ (rw_nil)) ⟨rfl, rfl⟩
theorem slices_IndexFunc_Item_xe0d8_c (p0 : List Item) (p1 : Int) (r : Int) (h : slices_IndexFunc_Item_xe0d8 p0 p1 = some r) : FnX Try.prog 62 [.sl (List.map encItem p0), .func 63 [.ptr 0 0]] [.box [.int .i64 p1]] (.int .i64 r) [.box [.int .i64 p1]] := by
  unfold slices_IndexFunc_Item_xe0d8 at h
  refine fn_of_T (N := 1) rfl Try.func62 rfl (by kernel_rfl) Try.ntmps62 rfl ?_
  show T _ _ _ _ (mkA 19 [(0, .sl (List.map encItem p0)), (1, .func 63 [.ptr 0 0])]) [.box [.int .i64 p1]]
  refine T.seq ?_
  refine T.region ?_
  refine RS.op rfl (OP.q rfl (v_assign (v := .int .i64 0) rfl ?_))
  refine RS.nil ?_
  refine T.seq ?_
  refine T.seq ?_
  refine T.region ?_
  refine RS.op rfl (OP.q rfl (v_move (v := .sl (List.map encItem p0)) rfl ?_))
  refine RS.op rfl (OP.q rfl (v_len_sl Ty.s39 rfl ?_))
  refine RS.op rfl (OP.q rfl (v_move (v := .int .i64 0) rfl ?_))
  refine RS.nil ?_
  refine T.block ?_
  refine T.iter (fun ss_7 : Int => mkA 19 [(0, .sl (List.map encItem p0)), (1, .func 63 [.ptr 0 0]), (7, .int .i64 ((p0).length : Int)), (8, .int .i64 ss_7)]) (fun ss_7 => [.box [.int .i64 p1]]) h (Weak.mkN [] [0] (by decide) (by decide) rfl ⟨rn_sl encItem_p rfl, rn_func ⟨rn_ptr rfl, trivial⟩, rn_int rfl, rn_int rfl, trivial⟩ (rw_box (cs := [.int .i64 p1]) (ds := [.int .i64 p1]) rfl ⟨rn_int rfl, trivial⟩ (rw_nil))) (fun ss_7 v_8 h hv_8 => ?_)
  revert hv_8 h; revert ss_7; intro s1 h hv_8
  replace h : slices_IndexFunc_Item_xe0d8_l1 p0 p1 s1 = some v_8 := h
  show T _ _ _ _ (mkA 19 [(0, .sl (List.map encItem p0)), (1, .func 63 [.ptr 0 0]), (7, .int .i64 ((p0).length : Int)), (8, .int .i64 s1)]) [.box [.int .i64 p1]]
  unfold slices_IndexFunc_Item_xe0d8_l1 at h
  refine T.seq ?_
  refine T.region ?_
  refine RS.op rfl (OP.q rfl (v_lss rfl rfl ?_))
  refine RS.nil ?_
  refine T.seq ?_
  refine T.cond (b := decide (s1 < ((p0).length : Int))) rfl (fun hb_9 => ?_) (fun hb_9 => ?_)
  · replace h := ite_T h hb_9
    refine T.skip ?_
    refine T.seq ?_
    refine T.block ?_
    refine T.seq ?_
    refine T.region ?_
    refine RS.op rfl (OP.q rfl (v_move (v := .int .i64 s1) rfl ?_))
    refine RS.op rfl (OP.q rfl (v_assign (v := .int .i64 s1) rfl ?_))
    refine RS.nil ?_
    refine T.seq ?_
    obtain ⟨x4, hx4, h⟩ := bind_some h
    obtain ⟨x5, hx5, h⟩ := bind_some h
    refine T.region ?_
    refine RS.op rfl (OP.q rfl (v_move (v := .func 63 [.ptr 0 0]) rfl ?_))
    refine RS.op rfl (OP.q rfl (v_move (v := .sl (List.map encItem p0)) rfl ?_))
    refine RS.op rfl (OP.q rfl (v_move (v := .int .i64 s1) rfl ?_))
    refine RS.op rfl (OP.q rfl (v_index_sl Ty.s39 (fun _ => rfl) rfl rfl hx4 ?_))
    refine RS.op rfl (o_load_elt rfl (loadRowA Ty.k41 Ty.c41 rfl (cs := [.int .i64 x4.Key, .int .i64 x4.Val, .int .i64 x4.Dep]) rfl ?_))
    refine RS.op rfl (o_callF (ac := [.agg [.int .i64 x4.Key, .int .i64 x4.Val, .int .i64 x4.Dep], .ptr 0 0]) (as0 := [.agg [.int .i64 x4.Key, .int .i64 x4.Val, .int .i64 x4.Dep], .ptr 0 0]) (aw0 := [.box [.int .i64 p1]]) (aw1 := [.box [.int .i64 p1]]) (aw2 := [.box [.int .i64 p1]]) (v := .bool x5) (v' := .bool x5) (n0 := 1) (n1 := 1) [0] rfl rfl rfl rfl (by decide) (rw_box (cs := [.int .i64 p1]) (ds := [.int .i64 p1]) rfl ⟨rn_int rfl, trivial⟩ (rw_nil)) ⟨rn_agg ⟨rn_int rfl, rn_int rfl, rn_int rfl, trivial⟩, rn_ptr rfl, trivial⟩ (gate_Free_1_x38ec_c x4 p1 x5 hx5) rfl (rm_pure (pure_bool _)) ⟨.inl ⟨0, _, by decide, rfl, rom_box (cs := [.int .i64 p1]) (ds := [.int .i64 p1]) ⟨rm_pure (pure_int _ _), trivial⟩⟩, trivial⟩ ?_)
    refine RS.nil ?_
    refine T.cond (b := x5) rfl (fun hb_10 => ?_) (fun hb_10 => ?_)
    · replace h := ite_T h hb_10
      refine T.seq ?_
      refine T.region ?_
      refine RS.op rfl (OP.q rfl (v_move (v := .int .i64 s1) rfl ?_))
      refine RS.op rfl (OP.q rfl (v_assign (v := .int .i64 s1) rfl ?_))
      refine RS.nil ?_
      refine T.ret' (R := ?R11) ?hq11 ?_
      case hq11 => repeat (first | exact RetIs.base | refine RetIs.thn ?_ | refine RetIs.blk ?_ | refine RetIs.lq ?_)
      obtain ⟨w_12, h, hw_12⟩ := map_inr h
      replace h := h.trans (congrArg some (hv_8 _ hw_12))
      refine res_tmpA (v := .int .i64 s1) rfl ?_
      refine res_done ?_
      exact ret_norm (v := .int .i64 s1) (aw1 := [.box [.int .i64 p1]]) (.int .i64 r) [0] rfl (by decide) (by decide) (rn_int (congrArg (fun r : Int => r) (Option.some.inj h)).symm) (rw_box (cs := [.int .i64 p1]) (ds := [.int .i64 p1]) rfl ⟨rn_int rfl, trivial⟩ (rw_nil)) ⟨rfl, rfl⟩
    · replace h := ite_F h hb_10
      refine T.skip ?_
      refine T.region ?_
      refine RS.op rfl (OP.q rfl (v_add rfl rfl ?_))
      refine RS.op rfl (OP.q rfl (v_move (v := .int .i64 (IntKind.i64.wrap (s1 + 1))) rfl ?_))
      refine RS.nil ?_
      exact ⟨IntKind.i64.wrap (s1 + 1), (Option.some.inj h).symm, Weak.mkN [] [0] (by decide) (by decide) rfl ⟨rn_sl encItem_p rfl, rn_func ⟨rn_ptr rfl, trivial⟩, rn_int rfl, rn_int rfl, trivial⟩ (rw_box (cs := [.int .i64 p1]) (ds := [.int .i64 p1]) rfl ⟨rn_int rfl, trivial⟩ (rw_nil))⟩
  · replace h := ite_F h hb_9
    refine T.exit ?_
    obtain ⟨w_13, h, hw_13⟩ := map_inr h
    replace h := h.trans (congrArg some (hv_8 _ hw_13))
    refine T.seq ?_
    refine T.region ?_
    refine RS.op rfl (OP.q rfl (v_assign (v := .int .i64 (-1)) rfl ?_))
    refine RS.nil ?_
    refine T.ret' (R := ?R14) ?hq14 ?_
    case hq14 => repeat (first | exact RetIs.base | refine RetIs.thn ?_ | refine RetIs.blk ?_ | refine RetIs.lq ?_)
    refine res_tmpA (v := .int .i64 (-1)) rfl ?_
    refine res_done ?_
    exact ret_norm (v := .int .i64 (-1)) (aw1 := [.box [.int .i64 p1]]) (.int .i64 r) [0] rfl (by decide) (by decide) (rn_int (congrArg (fun r : Int => r) (Option.some.inj h)).symm) (rw_box (cs := [.int .i64 p1]) (ds := [.int .i64 p1]) rfl ⟨rn_int rfl, trivial⟩ (rw_nil)) ⟨rfl, rfl⟩
theorem gate_Free_c (p0 : List Item) (p1 : Int) (r : Int × Int) (h : gate_Free p0 p1 = some r) : Fn Try.prog 32 [.sl (List.map encItem p0), .int .i64 p1] (.tup [.int .i64 r.1, .int .i64 r.2]) := by
  unfold gate_Free at h
  refine fn_of_T (N := 0) rfl Try.func32 rfl (by kernel_rfl) Try.ntmps32 rfl ?_
  show T _ _ _ _ (mkA 24 [(0, .sl (List.map encItem p0)), (1, .int .i64 p1)]) []
  refine T.seq ?_
  refine T.region ?_
  refine RS.op rfl (o_box (cs := [.int .i64 p1]) rfl rfl (aw' := [.box [.int .i64 p1]]) rfl ?_)
  refine RS.op rfl (OP.q rfl (v_assign (v := .int .i64 0) rfl ?_))
  refine RS.op rfl (OP.q rfl (v_assign (v := .int .i64 0) rfl ?_))
  refine RS.nil ?_
  refine T.seq ?_
  refine T.seq ?_
  refine T.region ?_
  refine RS.op rfl (OP.q rfl (v_move (v := .sl (List.map encItem p0)) rfl ?_))
  refine RS.op rfl (OP.q rfl (v_len_sl Ty.s39 rfl ?_))
  refine RS.op rfl (OP.q rfl (v_gtr rfl rfl ?_))
  refine RS.nil ?_
  refine T.cond (b := decide (((p0).length : Int) > 2000)) rfl (fun hb_1 => ?_) (fun hb_1 => ?_)
  · replace h := ite_T h hb_1
    refine T.seq ?_
    refine T.region ?_
    refine RS.op rfl (OP.q rfl (v_assign (v := .int .i64 0) rfl ?_))
    refine RS.op rfl (OP.q rfl (v_assign (v := .int .i64 2) rfl ?_))
    refine RS.nil ?_
    refine T.ret' (R := ?R2) ?hq2 ?_
    case hq2 => repeat (first | exact RetIs.base | refine RetIs.thn ?_ | refine RetIs.blk ?_ | refine RetIs.lq ?_)
    refine res_tmpA (v := .int .i64 0) rfl ?_
    refine res_tmpA (v := .int .i64 2) rfl ?_
    refine res_done ?_
    exact ret_data (v := .tup [.int .i64 0, .int .i64 2]) rfl (pure_tup _ (pures_mem (⟨pure_int _ _, pure_int _ _, trivial⟩))) ⟨congrArg (fun r : Int × Int => (.tup [.int .i64 r.1, .int .i64 r.2] : AV)) (Option.some.inj h), rfl⟩
  · replace h := ite_F h hb_1
    refine T.skip ?_
    refine T.seq ?_
    refine T.join (Z := Unit) (fun _ => mkA 24 [(0, .sl (List.map encItem p0)), (3, .ptr 0 0), (15, .bool ((decide (p1 < 0)) || decide (p1 > 500)))]) (fun _ => [.box [.int .i64 p1]]) (fun _ => True) (fun _ _ => ?_) (fun hK => ?_)
    · show T _ _ _ _ (mkA 24 [(0, .sl (List.map encItem p0)), (3, .ptr 0 0), (15, .bool ((decide (p1 < 0)) || decide (p1 > 500)))]) [.box [.int .i64 p1]]
      refine T.cond (b := ((decide (p1 < 0)) || decide (p1 > 500))) rfl (fun hb_4 => ?_) (fun hb_4 => ?_)
      · replace h := ite_T h hb_4
        refine T.seq ?_
        refine T.region ?_
        refine RS.op rfl (OP.q rfl (v_assign (v := .int .i64 0) rfl ?_))
        refine RS.op rfl (OP.q rfl (v_assign (v := .int .i64 3) rfl ?_))
        refine RS.nil ?_
        refine T.ret' (R := ?R5) ?hq5 ?_
        case hq5 => repeat (first | exact RetIs.base | refine RetIs.thn ?_ | refine RetIs.blk ?_ | refine RetIs.lq ?_)
        refine res_tmpA (v := .int .i64 0) rfl ?_
        refine res_tmpA (v := .int .i64 3) rfl ?_
        refine res_done ?_
        exact ret_data (v := .tup [.int .i64 0, .int .i64 3]) rfl (pure_tup _ (pures_mem (⟨pure_int _ _, pure_int _ _, trivial⟩))) ⟨congrArg (fun r : Int × Int => (.tup [.int .i64 r.1, .int .i64 r.2] : AV)) (Option.some.inj h), rfl⟩
      · replace h := ite_F h hb_4
        refine T.skip ?_
        refine T.seq ?_
        obtain ⟨x3, hx3, h⟩ := bind_some h
        refine T.region ?_
        refine RS.op rfl (OP.q rfl (v_move (v := .sl (List.map encItem p0)) rfl ?_))
        refine RS.op rfl (OP.q rfl (v_makeFunc (cs := [.ptr 0 0]) rfl ?_))
        refine RS.op rfl (o_callF (ac := [.sl (List.map encItem p0), .func 63 [.ptr 0 0]]) (as0 := [.sl (List.map encItem p0), .func 63 [.ptr 0 0]]) (aw0 := [.box [.int .i64 p1]]) (aw1 := [.box [.int .i64 p1]]) (aw2 := [.box [.int .i64 p1]]) (v := .int .i64 x3) (v' := .int .i64 x3) (n0 := 1) (n1 := 1) [0] rfl rfl rfl rfl (by decide) (rw_box (cs := [.int .i64 p1]) (ds := [.int .i64 p1]) rfl ⟨rn_int rfl, trivial⟩ (rw_nil)) ⟨rn_sl encItem_p rfl, rn_func ⟨rn_ptr rfl, trivial⟩, trivial⟩ (slices_IndexFunc_Item_xe0d8_c p0 p1 x3 hx3) rfl (rm_pure (pure_int _ _)) ⟨.inl ⟨0, _, by decide, rfl, rom_box (cs := [.int .i64 p1]) (ds := [.int .i64 p1]) ⟨rm_pure (pure_int _ _), trivial⟩⟩, trivial⟩ ?_)
        refine RS.op rfl (OP.q rfl (v_assign (v := .int .i64 x3) rfl ?_))
        refine RS.nil ?_
        refine T.seq ?_
        refine T.seq ?_
        refine T.region ?_
        refine RS.op rfl (OP.q rfl (v_move (v := .int .i64 x3) rfl ?_))
        refine RS.op rfl (OP.q rfl (v_lss rfl rfl ?_))
        refine RS.nil ?_
        refine T.cond (b := decide (x3 < 0)) rfl (fun hb_6 => ?_) (fun hb_6 => ?_)
        · replace h := ite_T h hb_6
          refine T.seq ?_
          refine T.region ?_
          refine RS.op rfl (OP.q rfl (v_move (v := .sl (List.map encItem p0)) rfl ?_))
          refine RS.op rfl (OP.q rfl (v_len_sl Ty.s39 rfl ?_))
          refine RS.op rfl (OP.q rfl (v_assign (v := .int .i64 ((p0).length : Int)) rfl ?_))
          refine RS.op rfl (OP.q rfl (v_assign (v := .int .i64 0) rfl ?_))
          refine RS.nil ?_
          refine T.ret' (R := ?R7) ?hq7 ?_
          case hq7 => repeat (first | exact RetIs.base | refine RetIs.thn ?_ | refine RetIs.blk ?_ | refine RetIs.lq ?_)
          refine res_tmpA (v := .int .i64 ((p0).length : Int)) rfl ?_
          refine res_tmpA (v := .int .i64 0) rfl ?_
          refine res_done ?_
          exact ret_data (v := .tup [.int .i64 ((p0).length : Int), .int .i64 0]) rfl (pure_tup _ (pures_mem (⟨pure_int _ _, pure_int _ _, trivial⟩))) ⟨congrArg (fun r : Int × Int => (.tup [.int .i64 r.1, .int .i64 r.2] : AV)) (Option.some.inj h), rfl⟩
        · replace h := ite_F h hb_6
          refine T.skip ?_
          refine T.seq ?_
          refine T.region ?_
          refine RS.op rfl (OP.q rfl (v_move (v := .int .i64 x3) rfl ?_))
          refine RS.op rfl (OP.q rfl (v_assign (v := .int .i64 x3) rfl ?_))
          refine RS.op rfl (OP.q rfl (v_assign (v := .int .i64 0) rfl ?_))
          refine RS.nil ?_
          refine T.ret' (R := ?R8) ?hq8 ?_
          case hq8 => repeat (first | exact RetIs.base | refine RetIs.thn ?_ | refine RetIs.blk ?_ | refine RetIs.lq ?_)
          refine res_tmpA (v := .int .i64 x3) rfl ?_
          refine res_tmpA (v := .int .i64 0) rfl ?_
          refine res_done ?_
          exact ret_data (v := .tup [.int .i64 x3, .int .i64 0]) rfl (pure_tup _ (pures_mem (⟨pure_int _ _, pure_int _ _, trivial⟩))) ⟨congrArg (fun r : Int × Int => (.tup [.int .i64 r.1, .int .i64 r.2] : AV)) (Option.some.inj h), rfl⟩
    · rcases bool_cases (decide (p1 < 0)) with hb_3 | hb_3
      · refine T.region ?_
        refine RS.op rfl (o_load_ptr rfl rfl (loadRow1 Ty.k3 (c := .int .i64 p1) rfl ?_))
        refine RS.op rfl (OP.q rfl (v_lss rfl rfl ?_))
        refine RS.op rfl (OP.q rfl (v_move (v := .bool (decide (p1 < 0))) rfl ?_))
        refine RS.no rfl rfl rfl hb_3 ?_
        refine RS.no rfl rfl rfl hb_3 ?_
        refine RS.op rfl (OP.q rfl (v_pickT (v := .bool true) rfl hb_3 rfl ?_))
        refine RS.nil ?_
        exact T.weakR (hK () trivial) (Weak.mkN [] [0] (by decide) (none_kept _) rfl ⟨rn_sl encItem_p rfl, rn_ptr rfl, rn_bool (by simp only [hb_3, Bool.true_or, Bool.or_true, Bool.false_or, Bool.or_false, Bool.true_and, Bool.and_true, Bool.false_and, Bool.and_false, Bool.not_true, Bool.not_false, if_true, if_false, Bool.false_eq_true, reduceIte]), trivial⟩ (rw_box (cs := [.int .i64 p1]) (ds := [.int .i64 p1]) rfl ⟨rn_int rfl, trivial⟩ (rw_nil)))
      · refine T.region ?_
        refine RS.op rfl (o_load_ptr rfl rfl (loadRow1 Ty.k3 (c := .int .i64 p1) rfl ?_))
        refine RS.op rfl (OP.q rfl (v_lss rfl rfl ?_))
        refine RS.op rfl (OP.q rfl (v_move (v := .bool (decide (p1 < 0))) rfl ?_))
        refine RS.yes rfl rfl rfl hb_3 (o_load_ptr rfl rfl (loadRow1 Ty.k3 (c := .int .i64 p1) rfl ?_))
        refine RS.yes rfl rfl rfl hb_3 (OP.q rfl (v_gtr rfl rfl ?_))
        refine RS.op rfl (OP.q rfl (v_pickF (v := .bool (decide (p1 > 500))) rfl hb_3 rfl ?_))
        refine RS.nil ?_
        exact T.weakR (hK () trivial) (Weak.mkN [] [0] (by decide) (none_kept _) rfl ⟨rn_sl encItem_p rfl, rn_ptr rfl, rn_bool (by simp only [hb_3, Bool.true_or, Bool.or_true, Bool.false_or, Bool.or_false, Bool.true_and, Bool.and_true, Bool.false_and, Bool.and_false, Bool.not_true, Bool.not_false, if_true, if_false, Bool.false_eq_true, reduceIte]), trivial⟩ (rw_box (cs := [.int .i64 p1]) (ds := [.int .i64 p1]) rfl ⟨rn_int rfl, trivial⟩ (rw_nil)))
theorem gate_Plain_c (p0 : List Item) (r : (List Item) × Int) (h : gate_Plain p0 = some r) : FnO Try.prog 33 [.sl (List.map encItem p0)] (.tup [.ref 0, .int .i64 r.2]) [.arr 41 3 (List.map encItem r.1)] := by
  unfold gate_Plain at h
  refine fn_of_T (N := 0) rfl Try.func33 rfl (by kernel_rfl) Try.ntmps33 rfl ?_
  show T _ _ _ _ (mkA 22 [(0, .sl (List.map encItem p0))]) []
  refine T.seq ?_
  refine T.region ?_
  refine RS.op rfl (OP.q rfl (v_assign (v := .nils) rfl ?_))
  refine RS.op rfl (OP.q rfl (v_assign (v := .int .i64 0) rfl ?_))
  refine RS.nil ?_
  refine T.seq ?_
  refine T.seq ?_
  refine T.region ?_
  refine RS.op rfl (OP.q rfl (v_move (v := .sl (List.map encItem p0)) rfl ?_))
  refine RS.op rfl (OP.q rfl (v_len_sl Ty.s39 rfl ?_))
  refine RS.op rfl (OP.q rfl (v_gtr rfl rfl ?_))
  refine RS.nil ?_
  refine T.cond (b := decide (((p0).length : Int) > 2000)) rfl (fun hb_1 => ?_) (fun hb_1 => ?_)
  · replace h := ite_T h hb_1
    refine T.seq ?_
    refine T.region ?_
    refine RS.op rfl (OP.q rfl (v_assign (v := .nils) rfl ?_))
    refine RS.op rfl (OP.q rfl (v_assign (v := .int .i64 2) rfl ?_))
    refine RS.nil ?_
    refine T.ret' (R := ?R2) ?hq2 ?_
    case hq2 => repeat (first | exact RetIs.base | refine RetIs.thn ?_ | refine RetIs.blk ?_ | refine RetIs.lq ?_)
    refine res_tmpA (v := .nils) rfl ?_
    refine res_tmpA (v := .int .i64 2) rfl ?_
    refine res_done ?_
    exact ret_own (.tup [.ref 0, .int .i64 r.2]) [(0, 41, 3)] [0] (by decide) (none_kept _) rfl (rn_tup ⟨rn_ref rfl, rn_int (congrArg (fun r : (List Item) × Int => r.2) (Option.some.inj h)).symm, trivial⟩) (rw_arr (en := encItem) (ys := []) rfl encItem_p (congrArg (fun r : (List Item) × Int => r.1) (Option.some.inj h)).symm (rw_nil)) ⟨rfl, rfl⟩
  · replace h := ite_F h hb_1
    refine T.skip ?_
    refine T.seq ?_
    obtain ⟨x2, hx2, h⟩ := bind_some h
    refine T.region ?_
    refine RS.op rfl (OP.q rfl (v_move (v := .sl (List.map encItem p0)) rfl ?_))
    refine RS.op rfl (o_call (as0 := [.sl (List.map encItem p0)]) (as1 := [.sl (List.map encItem p0)]) (caps := []) (aw1 := []) rfl rfl rfl (k_own' (v := .ref 0) (obs := [.arr 41 3 (List.map encItem x2)]) (v' := .ref 0) (aw' := [.arr 41 3 (List.map encItem x2)]) (slices_Clone_Item_c p0 x2 hx2) (⟨pure_map encItem_p _, trivial⟩) rfl (obs_cons (flatOb_map fun _ => rfl) obs_nil) rfl rfl ?_))
    refine RS.op rfl (OP.q rfl (v_assign (v := .ref 0) rfl ?_))
    refine RS.nil ?_
    refine T.seq ?_
    refine T.seq ?_
    refine T.region ?_
    refine RS.op rfl (OP.q rfl (v_move (v := .ref 0) rfl ?_))
    refine RS.op rfl (OP.q rfl (v_len_ref (en := encItem) Ty.s39 rfl rfl ?_))
    refine RS.op rfl (OP.q rfl (v_move (v := .int .i64 0) rfl ?_))
    refine RS.nil ?_
    refine T.block ?_
    refine T.iter (fun ss_5 : Int × (List Item) => mkA 22 [(4, .ref 0), (12, .int .i64 ((x2).length : Int)), (13, .int .i64 ss_5.1)]) (fun ss_5 => [.arr 41 3 (List.map encItem ss_5.2)]) h (Weak.mkN [] [0] (by decide) (none_kept _) rfl ⟨rn_ref rfl, rn_int rfl, rn_int rfl, trivial⟩ (rw_arr rfl encItem_p rfl (rw_nil))) (fun ss_5 v_6 h hv_6 => ?_)
    obtain ⟨s3, s4⟩ := ss_5
    replace h : gate_Plain_l1 x2 s3 s4 = some v_6 := h
    show T _ _ _ _ (mkA 22 [(4, .ref 0), (12, .int .i64 ((x2).length : Int)), (13, .int .i64 s3)]) [.arr 41 3 (List.map encItem s4)]
    unfold gate_Plain_l1 at h
    refine T.seq ?_
    refine T.region ?_
    refine RS.op rfl (OP.q rfl (v_lss rfl rfl ?_))
    refine RS.nil ?_
    refine T.seq ?_
    refine T.cond (b := decide (s3 < ((x2).length : Int))) rfl (fun hb_7 => ?_) (fun hb_7 => ?_)
    · replace h := ite_T h hb_7
      refine T.skip ?_
      refine T.seq ?_
      refine T.block ?_
      refine T.seq ?_
      refine T.region ?_
      refine RS.op rfl (OP.q rfl (v_move (v := .int .i64 s3) rfl ?_))
      refine RS.op rfl (OP.q rfl (v_assign (v := .int .i64 s3) rfl ?_))
      refine RS.nil ?_
      obtain ⟨x5, hx5, h⟩ := bind_some h
      obtain ⟨x6, hx6, h⟩ := bind_some h
      refine T.region ?_
      refine RS.op rfl (OP.q rfl (v_move (v := .ref 0) rfl ?_))
      refine RS.op rfl (OP.q rfl (v_move (v := .int .i64 s3) rfl ?_))
      refine RS.op rfl (OP.q rfl (v_index_ref' (en := encItem) Ty.s39 rfl rfl rfl hx5 ?_))
      refine RS.op rfl (OP.q rfl (v_fieldAddr_aptr Ty.f41_2 rfl (off' := 2) rfl ?_))
      refine RS.op rfl (o_store_aptr' (en := encItem) (a := x6) (a' := (⟨x6.Key, x6.Val, 0⟩ : Item)) Ty.c3 Ty.i3 rfl (vs := [.int .i64 0]) rfl rfl rfl hx6 rfl rfl (aw' := [.arr 41 3 (List.map encItem (List.set s4 x5 (⟨x6.Key, x6.Val, 0⟩ : Item)))]) rfl ?_)
      refine RS.nil ?_
      refine T.region ?_
      refine RS.op rfl (OP.q rfl (v_add rfl rfl ?_))
      refine RS.op rfl (OP.q rfl (v_move (v := .int .i64 (IntKind.i64.wrap (s3 + 1))) rfl ?_))
      refine RS.nil ?_
      exact ⟨(IntKind.i64.wrap (s3 + 1), (List.set s4 x5 (⟨x6.Key, x6.Val, 0⟩ : Item))), (Option.some.inj h).symm, Weak.mkN [] [0] (by decide) (none_kept _) rfl ⟨rn_ref rfl, rn_int rfl, rn_int rfl, trivial⟩ (rw_arr rfl encItem_p rfl (rw_nil))⟩
    · replace h := ite_F h hb_7
      refine T.exit ?_
      obtain ⟨w_8, h, hw_8⟩ := map_inr h
      replace h := h.trans (congrArg some (hv_6 _ hw_8))
      refine T.seq ?_
      refine T.region ?_
      refine RS.op rfl (OP.q rfl (v_move (v := .ref 0) rfl ?_))
      refine RS.op rfl (OP.q rfl (v_assign (v := .ref 0) rfl ?_))
      refine RS.op rfl (OP.q rfl (v_assign (v := .int .i64 0) rfl ?_))
      refine RS.nil ?_
      refine T.ret' (R := ?R9) ?hq9 ?_
      case hq9 => repeat (first | exact RetIs.base | refine RetIs.thn ?_ | refine RetIs.blk ?_ | refine RetIs.lq ?_)
      refine res_tmpA (v := .ref 0) rfl ?_
      refine res_tmpA (v := .int .i64 0) rfl ?_
      refine res_done ?_
      exact ret_own (.tup [.ref 0, .int .i64 r.2]) [] [0] (by decide) (none_kept _) rfl (rn_tup ⟨rn_ref rfl, rn_int (congrArg (fun r : (List Item) × Int => r.2) (Option.some.inj h)).symm, trivial⟩) (rw_arr rfl encItem_p (congrArg (fun r : (List Item) × Int => r.1) (Option.some.inj h)).symm (rw_nil)) ⟨rfl, rfl⟩
theorem gate_Begins_1_c (p0 : Item) (p1 : Item) (r : Bool) (h : gate_Begins_1 p0 p1 = some r) : Fn Try.prog 65 [.agg [.int .i64 p0.Key, .int .i64 p0.Val, .int .i64 p0.Dep], .agg [.int .i64 p1.Key, .int .i64 p1.Val, .int .i64 p1.Dep]] (.bool r) := by
  unfold gate_Begins_1 at h
  refine fn_of_T (N := 0) rfl Try.func65 rfl (by kernel_rfl) Try.ntmps65 rfl ?_
  show T _ _ _ _ (mkA 17 [(0, .agg [.int .i64 p0.Key, .int .i64 p0.Val, .int .i64 p0.Dep]), (1, .agg [.int .i64 p1.Key, .int .i64 p1.Val, .int .i64 p1.Dep])]) []
  refine T.seq ?_
  refine T.region ?_
  refine RS.op rfl (o_box (cs := [.int .i64 p0.Key, .int .i64 p0.Val, .int .i64 p0.Dep]) rfl rfl (aw' := [.box [.int .i64 p0.Key, .int .i64 p0.Val, .int .i64 p0.Dep]]) rfl ?_)
  refine RS.op rfl (o_box (cs := [.int .i64 p1.Key, .int .i64 p1.Val, .int .i64 p1.Dep]) rfl rfl (aw' := [.box [.int .i64 p0.Key, .int .i64 p0.Val, .int .i64 p0.Dep], .box [.int .i64 p1.Key, .int .i64 p1.Val, .int .i64 p1.Dep]]) rfl ?_)
  refine RS.op rfl (OP.q rfl (v_assign (v := .bool false) rfl ?_))
  refine RS.nil ?_
  refine T.join (Z := Unit) (fun _ => mkA 17 [(4, .bool ((p0.Key == p1.Key) && p0.Val == p1.Val))]) (fun _ => []) (fun _ => True) (fun _ _ => ?_) (fun hK => ?_)
  · show T _ _ _ _ (mkA 17 [(4, .bool ((p0.Key == p1.Key) && p0.Val == p1.Val))]) []
    refine T.ret' (R := ?R2) ?hq2 ?_
    case hq2 => repeat (first | exact RetIs.base | refine RetIs.thn ?_ | refine RetIs.blk ?_ | refine RetIs.lq ?_)
    refine res_tmpA (v := .bool ((p0.Key == p1.Key) && p0.Val == p1.Val)) rfl ?_
    refine res_done ?_
    exact ret_data (v := .bool ((p0.Key == p1.Key) && p0.Val == p1.Val)) rfl (pure_bool _) ⟨congrArg (fun r : Bool => (.bool r : AV)) (Option.some.inj h), rfl⟩
  · rcases bool_cases (p0.Key == p1.Key) with hb_1 | hb_1
    · refine T.region ?_
      refine RS.op rfl (OP.q rfl (v_fieldAddr_ptr Ty.f41_0 rfl (off' := 0) rfl ?_))
      refine RS.op rfl (o_load_ptr rfl rfl (loadRow1 Ty.k3 (c := .int .i64 p0.Key) rfl ?_))
      refine RS.op rfl (OP.q rfl (v_fieldAddr_ptr Ty.f41_0 rfl (off' := 0) rfl ?_))
      refine RS.op rfl (o_load_ptr rfl rfl (loadRow1 Ty.k3 (c := .int .i64 p1.Key) rfl ?_))
      refine RS.op rfl (OP.q rfl (v_eql rfl rfl ?_))
      refine RS.op rfl (OP.q rfl (v_move (v := .bool (p0.Key == p1.Key)) rfl ?_))
      refine RS.yes rfl rfl rfl hb_1 (OP.q rfl (v_fieldAddr_ptr Ty.f41_1 rfl (off' := 1) rfl ?_))
      refine RS.yes rfl rfl rfl hb_1 (o_load_ptr rfl rfl (loadRow1 Ty.k3 (c := .int .i64 p0.Val) rfl ?_))
      refine RS.yes rfl rfl rfl hb_1 (OP.q rfl (v_fieldAddr_ptr Ty.f41_1 rfl (off' := 1) rfl ?_))
      refine RS.yes rfl rfl rfl hb_1 (o_load_ptr rfl rfl (loadRow1 Ty.k3 (c := .int .i64 p1.Val) rfl ?_))
      refine RS.yes rfl rfl rfl hb_1 (OP.q rfl (v_eql rfl rfl ?_))
      refine RS.op rfl (OP.q rfl (v_pickT (v := .bool (p0.Val == p1.Val)) rfl hb_1 rfl ?_))
      refine RS.op rfl (OP.q rfl (v_assign (v := .bool (p0.Val == p1.Val)) rfl ?_))
      refine RS.nil ?_
      exact T.weakR (hK () trivial) (Weak.mkN [] [] (by decide) (none_kept _) rfl ⟨rn_bool (by simp only [hb_1, Bool.true_or, Bool.or_true, Bool.false_or, Bool.or_false, Bool.true_and, Bool.and_true, Bool.false_and, Bool.and_false, Bool.not_true, Bool.not_false, if_true, if_false, Bool.false_eq_true, reduceIte]), trivial⟩ (rw_nil))
    · refine T.region ?_
      refine RS.op rfl (OP.q rfl (v_fieldAddr_ptr Ty.f41_0 rfl (off' := 0) rfl ?_))
      refine RS.op rfl (o_load_ptr rfl rfl (loadRow1 Ty.k3 (c := .int .i64 p0.Key) rfl ?_))
      refine RS.op rfl (OP.q rfl (v_fieldAddr_ptr Ty.f41_0 rfl (off' := 0) rfl ?_))
      refine RS.op rfl (o_load_ptr rfl rfl (loadRow1 Ty.k3 (c := .int .i64 p1.Key) rfl ?_))
      refine RS.op rfl (OP.q rfl (v_eql rfl rfl ?_))
      refine RS.op rfl (OP.q rfl (v_move (v := .bool (p0.Key == p1.Key)) rfl ?_))
      refine RS.no rfl rfl rfl hb_1 ?_
      refine RS.no rfl rfl rfl hb_1 ?_
      refine RS.no rfl rfl rfl hb_1 ?_
      refine RS.no rfl rfl rfl hb_1 ?_
      refine RS.no rfl rfl rfl hb_1 ?_
      refine RS.op rfl (OP.q rfl (v_pickF (v := .bool false) rfl hb_1 rfl ?_))
      refine RS.op rfl (OP.q rfl (v_assign (v := .bool false) rfl ?_))
      refine RS.nil ?_
      exact T.weakR (hK () trivial) (Weak.mkN [] [] (by decide) (none_kept _) rfl ⟨rn_bool (by simp only [hb_1, Bool.true_or, Bool.or_true, Bool.false_or, Bool.or_false, Bool.true_and, Bool.and_true, Bool.false_and, Bool.and_false, Bool.not_true, Bool.not_false, if_true, if_false, Bool.false_eq_true, reduceIte]), trivial⟩ (rw_nil))
theorem slices_EqualFunc_Itemapi_Item_api_Item_api_Item_x74e1_c (p0 : List Item) (p1 : List Item) (r : Bool) (h : slices_EqualFunc_Itemapi_Item_api_Item_api_Item_x74e1 p0 p1 = some r) : Fn Try.prog 64 [.sl (List.map encItem p0), .sl (List.map encItem p1), .func 65 []] (.bool r) := by
  unfold slices_EqualFunc_Itemapi_Item_api_Item_api_Item_x74e1 at h
  refine fn_of_T (N := 0) rfl Try.func64 rfl (by kernel_rfl) Try.ntmps64 rfl ?_
  show T _ _ _ _ (mkA 32 [(0, .sl (List.map encItem p0)), (1, .sl (List.map encItem p1)), (2, .func 65 [])]) []
  refine T.seq ?_
  refine T.region ?_
  refine RS.op rfl (OP.q rfl (v_assign (v := .bool false) rfl ?_))
  refine RS.nil ?_
  refine T.seq ?_
  refine T.seq ?_
  refine T.region ?_
  refine RS.op rfl (OP.q rfl (v_move (v := .sl (List.map encItem p0)) rfl ?_))
  refine RS.op rfl (OP.q rfl (v_len_sl Ty.s39 rfl ?_))
  refine RS.op rfl (OP.q rfl (v_move (v := .sl (List.map encItem p1)) rfl ?_))
  refine RS.op rfl (OP.q rfl (v_len_sl Ty.s39 rfl ?_))
  refine RS.op rfl (OP.q rfl (v_neq rfl rfl ?_))
  refine RS.nil ?_
  refine T.cond (b := ((p0).length : Int) != ((p1).length : Int)) rfl (fun hb_1 => ?_) (fun hb_1 => ?_)
  · replace h := ite_T h hb_1
    refine T.seq ?_
    refine T.region ?_
    refine RS.op rfl (OP.q rfl (v_assign (v := .bool false) rfl ?_))
    refine RS.nil ?_
    refine T.ret' (R := ?R2) ?hq2 ?_
    case hq2 => repeat (first | exact RetIs.base | refine RetIs.thn ?_ | refine RetIs.blk ?_ | refine RetIs.lq ?_)
    refine res_tmpA (v := .bool false) rfl ?_
    refine res_done ?_
    exact ret_data (v := .bool false) rfl (pure_bool _) ⟨congrArg (fun r : Bool => (.bool r : AV)) (Option.some.inj h), rfl⟩
  · replace h := ite_F h hb_1
    refine T.skip ?_
    refine T.seq ?_
    refine T.seq ?_
    refine T.region ?_
    refine RS.op rfl (OP.q rfl (v_move (v := .sl (List.map encItem p0)) rfl ?_))
    refine RS.op rfl (OP.q rfl (v_len_sl Ty.s39 rfl ?_))
    refine RS.op rfl (OP.q rfl (v_move (v := .int .i64 0) rfl ?_))
    refine RS.nil ?_
    refine T.block ?_
    refine T.iter (fun ss_9 : Int => mkA 32 [(1, .sl (List.map encItem p1)), (2, .func 65 []), (15, .sl (List.map encItem p0)), (16, .int .i64 ((p0).length : Int)), (17, .int .i64 ss_9)]) (fun ss_9 => []) h (Weak.mkN [] [] (by decide) (none_kept _) rfl ⟨rn_sl encItem_p rfl, rn_func trivial, rn_sl encItem_p rfl, rn_int rfl, rn_int rfl, trivial⟩ (rw_nil)) (fun ss_9 v_10 h hv_10 => ?_)
    revert hv_10 h; revert ss_9; intro s1 h hv_10
    replace h : slices_EqualFunc_Itemapi_Item_api_Item_api_Item_x74e1_l1 p0 p1 s1 = some v_10 := h
    show T _ _ _ _ (mkA 32 [(1, .sl (List.map encItem p1)), (2, .func 65 []), (15, .sl (List.map encItem p0)), (16, .int .i64 ((p0).length : Int)), (17, .int .i64 s1)]) []
    unfold slices_EqualFunc_Itemapi_Item_api_Item_api_Item_x74e1_l1 at h
    refine T.seq ?_
    refine T.region ?_
    refine RS.op rfl (OP.q rfl (v_lss rfl rfl ?_))
    refine RS.nil ?_
    refine T.seq ?_
    refine T.cond (b := decide (s1 < ((p0).length : Int))) rfl (fun hb_11 => ?_) (fun hb_11 => ?_)
    · replace h := ite_T h hb_11
      refine T.skip ?_
      refine T.seq ?_
      refine T.block ?_
      refine T.seq ?_
      obtain ⟨x3, hx3, h⟩ := bind_some h
      refine T.region ?_
      refine RS.op rfl (OP.q rfl (v_move (v := .int .i64 s1) rfl ?_))
      refine RS.op rfl (OP.q rfl (v_index_sl Ty.s39 (fun _ => rfl) rfl rfl hx3 ?_))
      refine RS.op rfl (o_load_elt rfl (loadRowA Ty.k41 Ty.c41 rfl (cs := [.int .i64 x3.Key, .int .i64 x3.Val, .int .i64 x3.Dep]) rfl ?_))
      refine RS.op rfl (o_alloc Ty.z41 rfl (aw' := [.box [.int .i64 0, .int .i64 0, .int .i64 0]]) rfl ?_)
      refine RS.op rfl (OP.q rfl (v_assign (v := .int .i64 s1) rfl ?_))
      refine RS.op rfl (o_store_ptr Ty.c41 Ty.i41 rfl (vs := [.int .i64 x3.Key, .int .i64 x3.Val, .int .i64 x3.Dep]) rfl rfl rfl rfl (cs' := [.int .i64 x3.Key, .int .i64 x3.Val, .int .i64 x3.Dep]) rfl (aw' := [.box [.int .i64 x3.Key, .int .i64 x3.Val, .int .i64 x3.Dep]]) rfl ?_)
      refine RS.nil ?_
      refine T.seq ?_
      obtain ⟨x5, hx5, h⟩ := bind_some h
      refine T.region ?_
      refine RS.op rfl (OP.q rfl (v_move (v := .sl (List.map encItem p1)) rfl ?_))
      refine RS.op rfl (OP.q rfl (v_move (v := .int .i64 s1) rfl ?_))
      refine RS.op rfl (OP.q rfl (v_index_sl Ty.s39 (fun _ => rfl) rfl rfl hx5 ?_))
      refine RS.op rfl (o_load_elt rfl (loadRowA Ty.k41 Ty.c41 rfl (cs := [.int .i64 x5.Key, .int .i64 x5.Val, .int .i64 x5.Dep]) rfl ?_))
      refine RS.op rfl (o_alloc Ty.z41 rfl (aw' := [.box [.int .i64 x3.Key, .int .i64 x3.Val, .int .i64 x3.Dep], .box [.int .i64 0, .int .i64 0, .int .i64 0]]) rfl ?_)
      refine RS.op rfl (o_store_ptr Ty.c41 Ty.i41 rfl (vs := [.int .i64 x5.Key, .int .i64 x5.Val, .int .i64 x5.Dep]) rfl rfl rfl rfl (cs' := [.int .i64 x5.Key, .int .i64 x5.Val, .int .i64 x5.Dep]) rfl (aw' := [.box [.int .i64 x3.Key, .int .i64 x3.Val, .int .i64 x3.Dep], .box [.int .i64 x5.Key, .int .i64 x5.Val, .int .i64 x5.Dep]]) rfl ?_)
      refine RS.nil ?_
      refine T.seq ?_
      obtain ⟨x7, hx7, h⟩ := bind_some h
      refine T.region ?_
      refine RS.op rfl (OP.q rfl (v_move (v := .func 65 []) rfl ?_))
      refine RS.op rfl (o_load_ptr rfl rfl (loadRowA Ty.k41 Ty.c41 rfl (cs := [.int .i64 x3.Key, .int .i64 x3.Val, .int .i64 x3.Dep]) rfl ?_))
      refine RS.op rfl (o_load_ptr rfl rfl (loadRowA Ty.k41 Ty.c41 rfl (cs := [.int .i64 x5.Key, .int .i64 x5.Val, .int .i64 x5.Dep]) rfl ?_))
      refine RS.op rfl (o_call (as0 := [.agg [.int .i64 x3.Key, .int .i64 x3.Val, .int .i64 x3.Dep], .agg [.int .i64 x5.Key, .int .i64 x5.Val, .int .i64 x5.Dep]]) (as1 := [.agg [.int .i64 x3.Key, .int .i64 x3.Val, .int .i64 x3.Dep], .agg [.int .i64 x5.Key, .int .i64 x5.Val, .int .i64 x5.Dep]]) (caps := []) (aw1 := [.box [.int .i64 x3.Key, .int .i64 x3.Val, .int .i64 x3.Dep], .box [.int .i64 x5.Key, .int .i64 x5.Val, .int .i64 x5.Dep]]) rfl rfl rfl (k_flat (v := .bool x7) (gate_Begins_1_c x3 x5 x7 hx7) (⟨pure_agg _ (pures_mem (⟨pure_int _ _, pure_int _ _, pure_int _ _, trivial⟩)), pure_agg _ (pures_mem (⟨pure_int _ _, pure_int _ _, pure_int _ _, trivial⟩)), trivial⟩) rfl ?_))
      refine RS.op rfl (OP.q rfl (v_not rfl ?_))
      refine RS.nil ?_
      refine T.cond (b := !x7) rfl (fun hb_12 => ?_) (fun hb_12 => ?_)
      · replace h := ite_T h hb_12
        refine T.seq ?_
        refine T.region ?_
        refine RS.op rfl (OP.q rfl (v_assign (v := .bool false) rfl ?_))
        refine RS.nil ?_
        refine T.ret' (R := ?R13) ?hq13 ?_
        case hq13 => repeat (first | exact RetIs.base | refine RetIs.thn ?_ | refine RetIs.blk ?_ | refine RetIs.lq ?_)
        obtain ⟨w_14, h, hw_14⟩ := map_inr h
        replace h := h.trans (congrArg some (hv_10 _ hw_14))
        refine res_tmpA (v := .bool false) rfl ?_
        refine res_done ?_
        exact ret_data (v := .bool false) rfl (pure_bool _) ⟨congrArg (fun r : Bool => (.bool r : AV)) (Option.some.inj h), rfl⟩
      · replace h := ite_F h hb_12
        refine T.skip ?_
        refine T.region ?_
        refine RS.op rfl (OP.q rfl (v_add rfl rfl ?_))
        refine RS.op rfl (OP.q rfl (v_move (v := .int .i64 (IntKind.i64.wrap (s1 + 1))) rfl ?_))
        refine RS.nil ?_
        exact ⟨IntKind.i64.wrap (s1 + 1), (Option.some.inj h).symm, Weak.mkN [] [] (by decide) (none_kept _) rfl ⟨rn_sl encItem_p rfl, rn_func trivial, rn_sl encItem_p rfl, rn_int rfl, rn_int rfl, trivial⟩ (rw_nil)⟩
    · replace h := ite_F h hb_11
      refine T.exit ?_
      obtain ⟨w_15, h, hw_15⟩ := map_inr h
      replace h := h.trans (congrArg some (hv_10 _ hw_15))
      refine T.seq ?_
      refine T.region ?_
      refine RS.op rfl (OP.q rfl (v_assign (v := .bool true) rfl ?_))
      refine RS.nil ?_
      refine T.ret' (R := ?R16) ?hq16 ?_
      case hq16 => repeat (first | exact RetIs.base | refine RetIs.thn ?_ | refine RetIs.blk ?_ | refine RetIs.lq ?_)
      refine res_tmpA (v := .bool true) rfl ?_
      refine res_done ?_
      exact ret_data (v := .bool true) rfl (pure_bool _) ⟨congrArg (fun r : Bool => (.bool r : AV)) (Option.some.inj h), rfl⟩
theorem gate_Begins_c (p0 : List Item) (p1 : List Item) (r : Bool) (h : gate_Begins p0 p1 = some r) : Fn Try.prog 35 [.sl (List.map encItem p0), .sl (List.map encItem p1)] (.bool r) := by
  unfold gate_Begins at h
  refine fn_of_T (N := 0) rfl Try.func35 rfl (by kernel_rfl) Try.ntmps35 rfl ?_
  show T _ _ _ _ (mkA 18 [(0, .sl (List.map encItem p0)), (1, .sl (List.map encItem p1))]) []
  refine T.seq ?_
  refine T.region ?_
  refine RS.op rfl (OP.q rfl (v_assign (v := .bool false) rfl ?_))
  refine RS.nil ?_
  obtain ⟨zt_2, hz, h⟩ := bind_some h
  revert hz h; revert zt_2; intro c3 hz h
  refine T.join (Z := Unit) (fun _ => mkA 18 [(4, .bool c3)]) (fun _ => []) (fun _ => True) (fun _ _ => ?_) (fun hK => ?_)
  · show T _ _ _ _ (mkA 18 [(4, .bool c3)]) []
    refine T.ret' (R := ?R3) ?hq3 ?_
    case hq3 => repeat (first | exact RetIs.base | refine RetIs.thn ?_ | refine RetIs.blk ?_ | refine RetIs.lq ?_)
    refine res_tmpA (v := .bool c3) rfl ?_
    refine res_done ?_
    exact ret_data (v := .bool c3) rfl (pure_bool _) ⟨congrArg (fun r : Bool => (.bool r : AV)) (Option.some.inj h), rfl⟩
  · rcases bool_cases (decide (((p0).length : Int) ≤ ((p1).length : Int))) with hb_1 | hb_1
    · replace hz := ite_T hz hb_1
      obtain ⟨x1, hx1, hz⟩ := bind_some hz
      obtain ⟨x2, hx2, hz⟩ := bind_some hz
      refine T.region ?_
      refine RS.op rfl (OP.q rfl (v_move (v := .sl (List.map encItem p0)) rfl ?_))
      refine RS.op rfl (OP.q rfl (v_len_sl Ty.s39 rfl ?_))
      refine RS.op rfl (OP.q rfl (v_move (v := .sl (List.map encItem p1)) rfl ?_))
      refine RS.op rfl (OP.q rfl (v_len_sl Ty.s39 rfl ?_))
      refine RS.op rfl (OP.q rfl (v_leq rfl rfl ?_))
      refine RS.op rfl (OP.q rfl (v_move (v := .bool (decide (((p0).length : Int) ≤ ((p1).length : Int)))) rfl ?_))
      refine RS.yes rfl rfl rfl hb_1 (OP.q rfl (v_move (v := .sl (List.map encItem p0)) rfl ?_))
      refine RS.yes rfl rfl rfl hb_1 (OP.q rfl (v_move (v := .sl (List.map encItem p1)) rfl ?_))
      refine RS.yes rfl rfl rfl hb_1 (OP.q rfl (v_move (v := .sl (List.map encItem p0)) rfl ?_))
      refine RS.yes rfl rfl rfl hb_1 (OP.q rfl (v_len_sl Ty.s39 rfl ?_))
      refine RS.yes rfl rfl rfl hb_1 (o_slice_sl Ty.s39 (fun _ => rfl) rfl rfl rfl hx1 ?_)
      refine RS.yes rfl rfl rfl hb_1 (o_call (as0 := [.sl (List.map encItem p0), .sl (List.map encItem x1), .func 65 []]) (as1 := [.sl (List.map encItem p0), .sl (List.map encItem x1), .func 65 []]) (caps := []) (aw1 := []) rfl rfl rfl (k_flat (v := .bool x2) (slices_EqualFunc_Itemapi_Item_api_Item_api_Item_x74e1_c p0 x1 x2 hx2) (⟨pure_map encItem_p _, pure_map encItem_p _, pure_func _ _ (pures_mem (trivial)), trivial⟩) rfl ?_))
      refine RS.op rfl (OP.q rfl (v_pickT (v := .bool x2) rfl hb_1 rfl ?_))
      refine RS.op rfl (OP.q rfl (v_assign (v := .bool x2) rfl ?_))
      refine RS.nil ?_
      exact T.weakR (hK () trivial) (Weak.mkN [] [] (by decide) (none_kept _) rfl ⟨rn_bool ((congrArg (fun p => p) (Option.some.inj hz)).symm), trivial⟩ (rw_nil))
    · replace hz := ite_F hz hb_1
      refine T.region ?_
      refine RS.op rfl (OP.q rfl (v_move (v := .sl (List.map encItem p0)) rfl ?_))
      refine RS.op rfl (OP.q rfl (v_len_sl Ty.s39 rfl ?_))
      refine RS.op rfl (OP.q rfl (v_move (v := .sl (List.map encItem p1)) rfl ?_))
      refine RS.op rfl (OP.q rfl (v_len_sl Ty.s39 rfl ?_))
      refine RS.op rfl (OP.q rfl (v_leq rfl rfl ?_))
      refine RS.op rfl (OP.q rfl (v_move (v := .bool (decide (((p0).length : Int) ≤ ((p1).length : Int)))) rfl ?_))
      refine RS.no rfl rfl rfl hb_1 ?_
      refine RS.no rfl rfl rfl hb_1 ?_
      refine RS.no rfl rfl rfl hb_1 ?_
      refine RS.no rfl rfl rfl hb_1 ?_
      refine RS.no rfl rfl rfl hb_1 ?_
      refine RS.no rfl rfl rfl hb_1 ?_
      refine RS.op rfl (OP.q rfl (v_pickF (v := .bool false) rfl hb_1 rfl ?_))
      refine RS.op rfl (OP.q rfl (v_assign (v := .bool false) rfl ?_))
      refine RS.nil ?_
      exact T.weakR (hK () trivial) (Weak.mkN [] [] (by decide) (none_kept _) rfl ⟨rn_bool ((congrArg (fun p => p) (Option.some.inj hz)).symm), trivial⟩ (rw_nil))
theorem gate_Behind_c (p0 : List Item) (p1 : List Item) (p2 : Int) (r : (List Item) × Int) (h : gate_Behind p0 p1 p2 = some r) : FnO Try.prog 36 [.sl (List.map encItem p0), .sl (List.map encItem p1), .int .i64 p2] (.tup [.ref 0, .int .i64 r.2]) [.arr 41 3 (List.map encItem r.1)] := by
  unfold gate_Behind at h
  refine fn_of_T (N := 0) rfl Try.func36 rfl (by kernel_rfl) Try.ntmps36 rfl ?_
  show T _ _ _ _ (mkA 44 [(0, .sl (List.map encItem p0)), (1, .sl (List.map encItem p1)), (2, .int .i64 p2)]) []
  refine T.seq ?_
  refine T.region ?_
  refine RS.op rfl (OP.q rfl (v_assign (v := .nils) rfl ?_))
  refine RS.op rfl (OP.q rfl (v_assign (v := .int .i64 0) rfl ?_))
  refine RS.nil ?_
  refine T.seq ?_
  refine T.seq ?_
  refine T.region ?_
  refine RS.op rfl (OP.q rfl (v_move (v := .sl (List.map encItem p0)) rfl ?_))
  refine RS.op rfl (OP.q rfl (v_len_sl Ty.s39 rfl ?_))
  refine RS.op rfl (OP.q rfl (v_gtr rfl rfl ?_))
  refine RS.nil ?_
  refine T.cond (b := decide (((p0).length : Int) > 2000)) rfl (fun hb_1 => ?_) (fun hb_1 => ?_)
  · replace h := ite_T h hb_1
    refine T.seq ?_
    refine T.region ?_
    refine RS.op rfl (OP.q rfl (v_assign (v := .nils) rfl ?_))
    refine RS.op rfl (OP.q rfl (v_assign (v := .int .i64 2) rfl ?_))
    refine RS.nil ?_
    refine T.ret' (R := ?R2) ?hq2 ?_
    case hq2 => repeat (first | exact RetIs.base | refine RetIs.thn ?_ | refine RetIs.blk ?_ | refine RetIs.lq ?_)
    refine res_tmpA (v := .nils) rfl ?_
    refine res_tmpA (v := .int .i64 2) rfl ?_
    refine res_done ?_
    exact ret_own (.tup [.ref 0, .int .i64 r.2]) [(0, 41, 3)] [0] (by decide) (none_kept _) rfl (rn_tup ⟨rn_ref rfl, rn_int (congrArg (fun r : (List Item) × Int => r.2) (Option.some.inj h)).symm, trivial⟩) (rw_arr (en := encItem) (ys := []) rfl encItem_p (congrArg (fun r : (List Item) × Int => r.1) (Option.some.inj h)).symm (rw_nil)) ⟨rfl, rfl⟩
  · replace h := ite_F h hb_1
    refine T.skip ?_
    refine T.seq ?_
    obtain ⟨x2, hx2, h⟩ := bind_some h
    refine T.region ?_
    refine RS.op rfl (OP.q rfl (v_move (v := .sl (List.map encItem p1)) rfl ?_))
    refine RS.op rfl (OP.q rfl (v_move (v := .int .i64 p2) rfl ?_))
    refine RS.op rfl (o_call (as0 := [.sl (List.map encItem p1), .int .i64 p2]) (as1 := [.sl (List.map encItem p1), .int .i64 p2]) (caps := []) (aw1 := []) rfl rfl rfl (k_flat (v := .tup [.int .i64 x2.1, .int .i64 x2.2]) (gate_Free_c p1 p2 x2 hx2) (⟨pure_map encItem_p _, pure_int _ _, trivial⟩) rfl ?_))
    refine RS.op rfl (OP.q rfl (v_move (v := .tup [.int .i64 x2.1, .int .i64 x2.2]) rfl ?_))
    refine RS.op rfl (OP.q rfl (v_extract (v := .int .i64 x2.1) rfl rfl ?_))
    refine RS.op rfl (OP.q rfl (v_extract (v := .int .i64 x2.2) rfl rfl ?_))
    refine RS.op rfl (OP.q rfl (v_assign (v := .int .i64 x2.1) rfl ?_))
    refine RS.op rfl (OP.q rfl (v_assign (v := .int .i64 x2.2) rfl ?_))
    refine RS.nil ?_
    refine T.seq ?_
    refine T.seq ?_
    refine T.region ?_
    refine RS.op rfl (OP.q rfl (v_move (v := .int .i64 x2.2) rfl ?_))
    refine RS.op rfl (OP.q rfl (v_neq rfl rfl ?_))
    refine RS.nil ?_
    refine T.cond (b := x2.2 != 0) rfl (fun hb_3 => ?_) (fun hb_3 => ?_)
    · replace h := ite_T h hb_3
      refine T.seq ?_
      refine T.region ?_
      refine RS.op rfl (OP.q rfl (v_move (v := .int .i64 x2.2) rfl ?_))
      refine RS.op rfl (OP.q rfl (v_assign (v := .nils) rfl ?_))
      refine RS.op rfl (OP.q rfl (v_assign (v := .int .i64 x2.2) rfl ?_))
      refine RS.nil ?_
      refine T.ret' (R := ?R4) ?hq4 ?_
      case hq4 => repeat (first | exact RetIs.base | refine RetIs.thn ?_ | refine RetIs.blk ?_ | refine RetIs.lq ?_)
      refine res_tmpA (v := .nils) rfl ?_
      refine res_tmpA (v := .int .i64 x2.2) rfl ?_
      refine res_done ?_
      exact ret_own (.tup [.ref 0, .int .i64 r.2]) [(0, 41, 3)] [0] (by decide) (none_kept _) rfl (rn_tup ⟨rn_ref rfl, rn_int (congrArg (fun r : (List Item) × Int => r.2) (Option.some.inj h)).symm, trivial⟩) (rw_arr (en := encItem) (ys := []) rfl encItem_p (congrArg (fun r : (List Item) × Int => r.1) (Option.some.inj h)).symm (rw_nil)) ⟨rfl, rfl⟩
    · replace h := ite_F h hb_3
      refine T.skip ?_
      refine T.seq ?_
      obtain ⟨x3, hx3, h⟩ := bind_some h
      obtain ⟨zt_6, hz, h⟩ := bind_some h
      revert hz h; revert zt_6; intro c5 hz h
      refine T.join (Z := Unit) (fun _ => mkA 44 [(0, .sl (List.map encItem p0)), (1, .sl (List.map encItem p1)), (8, .int .i64 x2.1), (31, .bool c5)]) (fun _ => []) (fun _ => True) (fun _ _ => ?_) (fun hK => ?_)
      · show T _ _ _ _ (mkA 44 [(0, .sl (List.map encItem p0)), (1, .sl (List.map encItem p1)), (8, .int .i64 x2.1), (31, .bool c5)]) []
        refine T.cond (b := c5) rfl (fun hb_7 => ?_) (fun hb_7 => ?_)
        · replace h := ite_T h hb_7
          refine T.seq ?_
          refine T.region ?_
          refine RS.op rfl (OP.q rfl (v_assign (v := .nils) rfl ?_))
          refine RS.op rfl (OP.q rfl (v_assign (v := .int .i64 4) rfl ?_))
          refine RS.nil ?_
          refine T.ret' (R := ?R8) ?hq8 ?_
          case hq8 => repeat (first | exact RetIs.base | refine RetIs.thn ?_ | refine RetIs.blk ?_ | refine RetIs.lq ?_)
          refine res_tmpA (v := .nils) rfl ?_
          refine res_tmpA (v := .int .i64 4) rfl ?_
          refine res_done ?_
          exact ret_own (.tup [.ref 0, .int .i64 r.2]) [(0, 41, 3)] [0] (by decide) (none_kept _) rfl (rn_tup ⟨rn_ref rfl, rn_int (congrArg (fun r : (List Item) × Int => r.2) (Option.some.inj h)).symm, trivial⟩) (rw_arr (en := encItem) (ys := []) rfl encItem_p (congrArg (fun r : (List Item) × Int => r.1) (Option.some.inj h)).symm (rw_nil)) ⟨rfl, rfl⟩
        · replace h := ite_F h hb_7
          refine T.skip ?_
          refine T.seq ?_
          refine T.seq ?_
          refine T.region ?_
          refine RS.op rfl (OP.q rfl (v_move (v := .int .i64 x2.1) rfl ?_))
          refine RS.op rfl (OP.q rfl (v_move (v := .sl (List.map encItem p0)) rfl ?_))
          refine RS.op rfl (OP.q rfl (v_len_sl Ty.s39 rfl ?_))
          refine RS.op rfl (OP.q rfl (v_leq rfl rfl ?_))
          refine RS.nil ?_
          refine T.cond (b := decide (x2.1 ≤ ((p0).length : Int))) rfl (fun hb_9 => ?_) (fun hb_9 => ?_)
          · replace h := ite_T h hb_9
            refine T.seq ?_
            refine T.region ?_
            refine RS.op rfl (OP.q rfl (v_assign (v := .nils) rfl ?_))
            refine RS.op rfl (OP.q rfl (v_assign (v := .int .i64 0) rfl ?_))
            refine RS.nil ?_
            refine T.ret' (R := ?R10) ?hq10 ?_
            case hq10 => repeat (first | exact RetIs.base | refine RetIs.thn ?_ | refine RetIs.blk ?_ | refine RetIs.lq ?_)
            refine res_tmpA (v := .nils) rfl ?_
            refine res_tmpA (v := .int .i64 0) rfl ?_
            refine res_done ?_
            exact ret_own (.tup [.ref 0, .int .i64 r.2]) [(0, 41, 3)] [0] (by decide) (none_kept _) rfl (rn_tup ⟨rn_ref rfl, rn_int (congrArg (fun r : (List Item) × Int => r.2) (Option.some.inj h)).symm, trivial⟩) (rw_arr (en := encItem) (ys := []) rfl encItem_p (congrArg (fun r : (List Item) × Int => r.1) (Option.some.inj h)).symm (rw_nil)) ⟨rfl, rfl⟩
          · replace h := ite_F h hb_9
            refine T.skip ?_
            refine T.seq ?_
            obtain ⟨x8, hx8, h⟩ := bind_some h
            obtain ⟨x9, hx9, h⟩ := bind_some h
            refine T.region ?_
            refine RS.op rfl (OP.q rfl (v_move (v := .sl (List.map encItem p1)) rfl ?_))
            refine RS.op rfl (OP.q rfl (v_move (v := .sl (List.map encItem p0)) rfl ?_))
            refine RS.op rfl (OP.q rfl (v_len_sl Ty.s39 rfl ?_))
            refine RS.op rfl (OP.q rfl (v_move (v := .int .i64 x2.1) rfl ?_))
            refine RS.op rfl (o_slice_sl Ty.s39 (fun _ => rfl) rfl rfl rfl hx8 ?_)
            refine RS.op rfl (o_call (as0 := [.sl (List.map encItem x8)]) (as1 := [.sl (List.map encItem x8)]) (caps := []) (aw1 := []) rfl rfl rfl (k_own' (v := .tup [.ref 0, .int .i64 x9.2]) (obs := [.arr 41 3 (List.map encItem x9.1)]) (v' := .tup [.ref 0, .int .i64 x9.2]) (aw' := [.arr 41 3 (List.map encItem x9.1)]) (gate_Plain_c x8 x9 hx9) (⟨pure_map encItem_p _, trivial⟩) rfl (obs_cons (flatOb_map fun _ => rfl) obs_nil) rfl rfl ?_))
            refine RS.op rfl (OP.q rfl (v_extract (v := .ref 0) rfl rfl ?_))
            refine RS.op rfl (OP.q rfl (v_extract (v := .int .i64 x9.2) rfl rfl ?_))
            refine RS.op rfl (OP.q rfl (v_assign (v := .ref 0) rfl ?_))
            refine RS.op rfl (OP.q rfl (v_assign (v := .int .i64 x9.2) rfl ?_))
            refine RS.nil ?_
            refine T.ret' (R := ?R11) ?hq11 ?_
            case hq11 => repeat (first | exact RetIs.base | refine RetIs.thn ?_ | refine RetIs.blk ?_ | refine RetIs.lq ?_)
            refine res_tmpA (v := .ref 0) rfl ?_
            refine res_tmpA (v := .int .i64 x9.2) rfl ?_
            refine res_done ?_
            exact ret_own (.tup [.ref 0, .int .i64 r.2]) [] [0] (by decide) (none_kept _) rfl (rn_tup ⟨rn_ref rfl, rn_int (congrArg (fun r : (List Item) × Int => r.2) (Option.some.inj h)).symm, trivial⟩) (rw_arr rfl encItem_p (congrArg (fun r : (List Item) × Int => r.1) (Option.some.inj h)).symm (rw_nil)) ⟨rfl, rfl⟩
      · rcases bool_cases (!x3) with hb_5 | hb_5
        · replace hz := ite_T hz hb_5
          obtain ⟨x4, hx4, hz⟩ := bind_some hz
          refine T.region ?_
          refine RS.op rfl (OP.q rfl (v_move (v := .sl (List.map encItem p0)) rfl ?_))
          refine RS.op rfl (OP.q rfl (v_move (v := .sl (List.map encItem p1)) rfl ?_))
          refine RS.op rfl (o_call (as0 := [.sl (List.map encItem p0), .sl (List.map encItem p1)]) (as1 := [.sl (List.map encItem p0), .sl (List.map encItem p1)]) (caps := []) (aw1 := []) rfl rfl rfl (k_flat (v := .bool x3) (gate_Begins_c p0 p1 x3 hx3) (⟨pure_map encItem_p _, pure_map encItem_p _, trivial⟩) rfl ?_))
          refine RS.op rfl (OP.q rfl (v_not rfl ?_))
          refine RS.op rfl (OP.q rfl (v_move (v := .bool (!x3)) rfl ?_))
          refine RS.yes rfl rfl rfl hb_5 (OP.q rfl (v_move (v := .sl (List.map encItem p1)) rfl ?_))
          refine RS.yes rfl rfl rfl hb_5 (OP.q rfl (v_move (v := .sl (List.map encItem p0)) rfl ?_))
          refine RS.yes rfl rfl rfl hb_5 (o_call (as0 := [.sl (List.map encItem p1), .sl (List.map encItem p0)]) (as1 := [.sl (List.map encItem p1), .sl (List.map encItem p0)]) (caps := []) (aw1 := []) rfl rfl rfl (k_flat (v := .bool x4) (gate_Begins_c p1 p0 x4 hx4) (⟨pure_map encItem_p _, pure_map encItem_p _, trivial⟩) rfl ?_))
          refine RS.yes rfl rfl rfl hb_5 (OP.q rfl (v_not rfl ?_))
          refine RS.op rfl (OP.q rfl (v_pickT (v := .bool (!x4)) rfl hb_5 rfl ?_))
          refine RS.nil ?_
          exact T.weakR (hK () trivial) (Weak.mkN [] [] (by decide) (none_kept _) rfl ⟨rn_sl encItem_p rfl, rn_sl encItem_p rfl, rn_int rfl, rn_bool ((congrArg (fun p => p) (Option.some.inj hz)).symm), trivial⟩ (rw_nil))
        · replace hz := ite_F hz hb_5
          refine T.region ?_
          refine RS.op rfl (OP.q rfl (v_move (v := .sl (List.map encItem p0)) rfl ?_))
          refine RS.op rfl (OP.q rfl (v_move (v := .sl (List.map encItem p1)) rfl ?_))
          refine RS.op rfl (o_call (as0 := [.sl (List.map encItem p0), .sl (List.map encItem p1)]) (as1 := [.sl (List.map encItem p0), .sl (List.map encItem p1)]) (caps := []) (aw1 := []) rfl rfl rfl (k_flat (v := .bool x3) (gate_Begins_c p0 p1 x3 hx3) (⟨pure_map encItem_p _, pure_map encItem_p _, trivial⟩) rfl ?_))
          refine RS.op rfl (OP.q rfl (v_not rfl ?_))
          refine RS.op rfl (OP.q rfl (v_move (v := .bool (!x3)) rfl ?_))
          refine RS.no rfl rfl rfl hb_5 ?_
          refine RS.no rfl rfl rfl hb_5 ?_
          refine RS.no rfl rfl rfl hb_5 ?_
          refine RS.no rfl rfl rfl hb_5 ?_
          refine RS.op rfl (OP.q rfl (v_pickF (v := .bool false) rfl hb_5 rfl ?_))
          refine RS.nil ?_
          exact T.weakR (hK () trivial) (Weak.mkN [] [] (by decide) (none_kept _) rfl ⟨rn_sl encItem_p rfl, rn_sl encItem_p rfl, rn_int rfl, rn_bool ((congrArg (fun p => p) (Option.some.inj hz)).symm), trivial⟩ (rw_nil))
theorem crosslaw_gated_c (r : Bool) (h : crosslaw_gated = some r) : Fn Try.prog 34 [] (.bool r) := by
  unfold crosslaw_gated at h
  refine fn_of_T (N := 0) rfl Try.func34 rfl (by kernel_rfl) Try.ntmps34 rfl ?_
  show T _ _ _ _ (mkA 18 []) []
  refine T.seq ?_
  refine T.region ?_
  refine RS.op rfl (OP.q rfl (v_assign (v := .bool false) rfl ?_))
  refine RS.nil ?_
  refine T.seq ?_
  obtain ⟨x2, hx2, h⟩ := bind_some h
  refine T.region ?_
  refine RS.op rfl (OP.q rfl (v_build (cs := [.int .i64 1, .int .i64 0, .int .i64 1]) Ty.z41 Ty.p41 rfl ?_))
  refine RS.op rfl (OP.q rfl (v_build (cs := [.int .i64 2, .int .i64 0, .int .i64 3]) Ty.z41 Ty.p41 rfl ?_))
  refine RS.op rfl (o_buildSlice (rows := List.map encItem [(⟨1, 0, 1⟩ : Item), (⟨2, 0, 3⟩ : Item)]) (vs := [.agg [.int .i64 1, .int .i64 0, .int .i64 1], .agg [.int .i64 2, .int .i64 0, .int .i64 3]]) Ty.s39 Ty.z41 rfl rfl rfl rfl rfl (aw' := [.arr 41 3 (List.map encItem [(⟨1, 0, 1⟩ : Item), (⟨2, 0, 3⟩ : Item)])]) rfl ?_)
  refine RS.op rfl (o_call (as0 := [.nils, .ref 0, .int .i64 2]) (as1 := [.sl (List.map encItem ([] : List Item)), .sl (List.map encItem ([(⟨1, 0, 1⟩ : Item), (⟨2, 0, 3⟩ : Item)] : List Item)), .int .i64 (2 : Int)]) (caps := []) (aw1 := [.dead]) rfl rfl rfl (k_own' (v := .tup [.ref 0, .int .i64 x2.2]) (obs := [.arr 41 3 (List.map encItem x2.1)]) (v' := .tup [.ref 1, .int .i64 x2.2]) (aw' := [.arr 41 3 (List.map encItem [(⟨1, 0, 1⟩ : Item), (⟨2, 0, 3⟩ : Item)]), .arr 41 3 (List.map encItem x2.1)]) (gate_Behind_c ([] : List Item) ([(⟨1, 0, 1⟩ : Item), (⟨2, 0, 3⟩ : Item)] : List Item) (2 : Int) x2 hx2) (⟨pure_map encItem_p _, pure_map encItem_p _, pure_int _ _, trivial⟩) rfl (obs_cons (flatOb_map fun _ => rfl) obs_nil) rfl rfl ?_))
  refine RS.op rfl (OP.q rfl (v_move (v := .tup [.ref 1, .int .i64 x2.2]) rfl ?_))
  refine RS.op rfl (OP.q rfl (v_extract (v := .ref 1) rfl rfl ?_))
  refine RS.op rfl (OP.q rfl (v_extract (v := .int .i64 x2.2) rfl rfl ?_))
  refine RS.op rfl (OP.q rfl (v_assign (v := .ref 1) rfl ?_))
  refine RS.op rfl (OP.q rfl (v_assign (v := .int .i64 x2.2) rfl ?_))
  refine RS.nil ?_
  obtain ⟨zt_2, hz, h⟩ := bind_some h
  revert hz h; revert zt_2; intro c4 hz h
  refine T.join (Z := Unit) (fun _ => mkA 18 [(0, .bool c4)]) (fun _ => []) (fun _ => True) (fun _ _ => ?_) (fun hK => ?_)
  · show T _ _ _ _ (mkA 18 [(0, .bool c4)]) []
    refine T.ret' (R := ?R3) ?hq3 ?_
    case hq3 => repeat (first | exact RetIs.base | refine RetIs.thn ?_ | refine RetIs.blk ?_ | refine RetIs.lq ?_)
    refine res_tmpA (v := .bool c4) rfl ?_
    refine res_done ?_
    exact ret_data (v := .bool c4) rfl (pure_bool _) ⟨congrArg (fun r : Bool => (.bool r : AV)) (Option.some.inj h), rfl⟩
  · rcases bool_cases (x2.2 == 0) with hb_1 | hb_1
    · replace hz := ite_T hz hb_1
      obtain ⟨x3, hx3, hz⟩ := bind_some hz
      refine T.region ?_
      refine RS.op rfl (OP.q rfl (v_move (v := .int .i64 x2.2) rfl ?_))
      refine RS.op rfl (OP.q rfl (v_eql rfl rfl ?_))
      refine RS.op rfl (OP.q rfl (v_move (v := .bool (x2.2 == 0)) rfl ?_))
      refine RS.yes rfl rfl rfl hb_1 (OP.q rfl (v_move (v := .ref 1) rfl ?_))
      refine RS.yes rfl rfl rfl hb_1 (OP.q rfl (v_build (cs := [.int .i64 1, .int .i64 0, .int .i64 0]) Ty.z41 Ty.p41 rfl ?_))
      refine RS.yes rfl rfl rfl hb_1 (o_buildSlice (rows := List.map encItem [(⟨1, 0, 0⟩ : Item)]) (vs := [.agg [.int .i64 1, .int .i64 0, .int .i64 0]]) Ty.s39 Ty.z41 rfl rfl rfl rfl rfl (aw' := [.arr 41 3 (List.map encItem [(⟨1, 0, 1⟩ : Item), (⟨2, 0, 3⟩ : Item)]), .arr 41 3 (List.map encItem x2.1), .arr 41 3 (List.map encItem [(⟨1, 0, 0⟩ : Item)])]) rfl ?_)
      refine RS.yes rfl rfl rfl hb_1 (o_call (as0 := [.ref 1, .ref 2]) (as1 := [.sl (List.map encItem x2.1), .sl (List.map encItem ([(⟨1, 0, 0⟩ : Item)] : List Item))]) (caps := []) (aw1 := [.arr 41 3 (List.map encItem [(⟨1, 0, 1⟩ : Item), (⟨2, 0, 3⟩ : Item)]), .dead, .dead]) rfl rfl rfl (k_flat (v := .bool x3) (slices_Equal_Item_c x2.1 ([(⟨1, 0, 0⟩ : Item)] : List Item) x3 hx3) (⟨pure_map encItem_p _, pure_map encItem_p _, trivial⟩) rfl ?_))
      refine RS.op rfl (OP.q rfl (v_pickT (v := .bool x3) rfl hb_1 rfl ?_))
      refine RS.op rfl (OP.q rfl (v_assign (v := .bool x3) rfl ?_))
      refine RS.nil ?_
      exact T.weakR (hK () trivial) (Weak.mkN [] [] (by decide) (none_kept _) rfl ⟨rn_bool ((congrArg (fun p => p) (Option.some.inj hz)).symm), trivial⟩ (rw_nil))
    · replace hz := ite_F hz hb_1
      refine T.region ?_
      refine RS.op rfl (OP.q rfl (v_move (v := .int .i64 x2.2) rfl ?_))
      refine RS.op rfl (OP.q rfl (v_eql rfl rfl ?_))
      refine RS.op rfl (OP.q rfl (v_move (v := .bool (x2.2 == 0)) rfl ?_))
      refine RS.no rfl rfl rfl hb_1 ?_
      refine RS.no rfl rfl rfl hb_1 ?_
      refine RS.no rfl rfl rfl hb_1 ?_
      refine RS.no rfl rfl rfl hb_1 ?_
      refine RS.op rfl (OP.q rfl (v_pickF (v := .bool false) rfl hb_1 rfl ?_))
      refine RS.op rfl (OP.q rfl (v_assign (v := .bool false) rfl ?_))
      refine RS.nil ?_
      exact T.weakR (hK () trivial) (Weak.mkN [] [] (by decide) (none_kept _) rfl ⟨rn_bool ((congrArg (fun p => p) (Option.some.inj hz)).symm), trivial⟩ (rw_nil))
theorem crosslaw_alike_1_c (p0 : Item) (p1 : Item) (r : Bool) (h : crosslaw_alike_1 p0 p1 = some r) : Fn Try.prog 66 [.agg [.int .i64 p0.Key, .int .i64 p0.Val, .int .i64 p0.Dep], .agg [.int .i64 p1.Key, .int .i64 p1.Val, .int .i64 p1.Dep]] (.bool r) := by
  unfold crosslaw_alike_1 at h
  refine fn_of_T (N := 0) rfl Try.func66 rfl (by kernel_rfl) Try.ntmps66 rfl ?_
  show T _ _ _ _ (mkA 17 [(0, .agg [.int .i64 p0.Key, .int .i64 p0.Val, .int .i64 p0.Dep]), (1, .agg [.int .i64 p1.Key, .int .i64 p1.Val, .int .i64 p1.Dep])]) []
  refine T.seq ?_
  refine T.region ?_
  refine RS.op rfl (o_box (cs := [.int .i64 p0.Key, .int .i64 p0.Val, .int .i64 p0.Dep]) rfl rfl (aw' := [.box [.int .i64 p0.Key, .int .i64 p0.Val, .int .i64 p0.Dep]]) rfl ?_)
  refine RS.op rfl (o_box (cs := [.int .i64 p1.Key, .int .i64 p1.Val, .int .i64 p1.Dep]) rfl rfl (aw' := [.box [.int .i64 p0.Key, .int .i64 p0.Val, .int .i64 p0.Dep], .box [.int .i64 p1.Key, .int .i64 p1.Val, .int .i64 p1.Dep]]) rfl ?_)
  refine RS.op rfl (OP.q rfl (v_assign (v := .bool false) rfl ?_))
  refine RS.nil ?_
  refine T.join (Z := Unit) (fun _ => mkA 17 [(4, .bool ((p0.Key == p1.Key) && p0.Val == p1.Val))]) (fun _ => []) (fun _ => True) (fun _ _ => ?_) (fun hK => ?_)
  · show T _ _ _ _ (mkA 17 [(4, .bool ((p0.Key == p1.Key) && p0.Val == p1.Val))]) []
    refine T.ret' (R := ?R2) ?hq2 ?_
    case hq2 => repeat (first | exact RetIs.base | refine RetIs.thn ?_ | refine RetIs.blk ?_ | refine RetIs.lq ?_)
    refine res_tmpA (v := .bool ((p0.Key == p1.Key) && p0.Val == p1.Val)) rfl ?_
    refine res_done ?_
    exact ret_data (v := .bool ((p0.Key == p1.Key) && p0.Val == p1.Val)) rfl (pure_bool _) ⟨congrArg (fun r : Bool => (.bool r : AV)) (Option.some.inj h), rfl⟩
  · rcases bool_cases (p0.Key == p1.Key) with hb_1 | hb_1
    · refine T.region ?_
      refine RS.op rfl (OP.q rfl (v_fieldAddr_ptr Ty.f41_0 rfl (off' := 0) rfl ?_))
      refine RS.op rfl (o_load_ptr rfl rfl (loadRow1 Ty.k3 (c := .int .i64 p0.Key) rfl ?_))
      refine RS.op rfl (OP.q rfl (v_fieldAddr_ptr Ty.f41_0 rfl (off' := 0) rfl ?_))
      refine RS.op rfl (o_load_ptr rfl rfl (loadRow1 Ty.k3 (c := .int .i64 p1.Key) rfl ?_))
      refine RS.op rfl (OP.q rfl (v_eql rfl rfl ?_))
      refine RS.op rfl (OP.q rfl (v_move (v := .bool (p0.Key == p1.Key)) rfl ?_))
      refine RS.yes rfl rfl rfl hb_1 (OP.q rfl (v_fieldAddr_ptr Ty.f41_1 rfl (off' := 1) rfl ?_))
      refine RS.yes rfl rfl rfl hb_1 (o_load_ptr rfl rfl (loadRow1 Ty.k3 (c := .int .i64 p0.Val) rfl ?_))
      refine RS.yes rfl rfl rfl hb_1 (OP.q rfl (v_fieldAddr_ptr Ty.f41_1 rfl (off' := 1) rfl ?_))
      refine RS.yes rfl rfl rfl hb_1 (o_load_ptr rfl rfl (loadRow1 Ty.k3 (c := .int .i64 p1.Val) rfl ?_))
      refine RS.yes rfl rfl rfl hb_1 (OP.q rfl (v_eql rfl rfl ?_))
      refine RS.op rfl (OP.q rfl (v_pickT (v := .bool (p0.Val == p1.Val)) rfl hb_1 rfl ?_))
      refine RS.op rfl (OP.q rfl (v_assign (v := .bool (p0.Val == p1.Val)) rfl ?_))
      refine RS.nil ?_
      exact T.weakR (hK () trivial) (Weak.mkN [] [] (by decide) (none_kept _) rfl ⟨rn_bool (by simp only [hb_1, Bool.true_or, Bool.or_true, Bool.false_or, Bool.or_false, Bool.true_and, Bool.and_true, Bool.false_and, Bool.and_false, Bool.not_true, Bool.not_false, if_true, if_false, Bool.false_eq_true, reduceIte]), trivial⟩ (rw_nil))
    · refine T.region ?_
      refine RS.op rfl (OP.q rfl (v_fieldAddr_ptr Ty.f41_0 rfl (off' := 0) rfl ?_))
      refine RS.op rfl (o_load_ptr rfl rfl (loadRow1 Ty.k3 (c := .int .i64 p0.Key) rfl ?_))
      refine RS.op rfl (OP.q rfl (v_fieldAddr_ptr Ty.f41_0 rfl (off' := 0) rfl ?_))
      refine RS.op rfl (o_load_ptr rfl rfl (loadRow1 Ty.k3 (c := .int .i64 p1.Key) rfl ?_))
      refine RS.op rfl (OP.q rfl (v_eql rfl rfl ?_))
      refine RS.op rfl (OP.q rfl (v_move (v := .bool (p0.Key == p1.Key)) rfl ?_))
      refine RS.no rfl rfl rfl hb_1 ?_
      refine RS.no rfl rfl rfl hb_1 ?_
      refine RS.no rfl rfl rfl hb_1 ?_
      refine RS.no rfl rfl rfl hb_1 ?_
      refine RS.no rfl rfl rfl hb_1 ?_
      refine RS.op rfl (OP.q rfl (v_pickF (v := .bool false) rfl hb_1 rfl ?_))
      refine RS.op rfl (OP.q rfl (v_assign (v := .bool false) rfl ?_))
      refine RS.nil ?_
      exact T.weakR (hK () trivial) (Weak.mkN [] [] (by decide) (none_kept _) rfl ⟨rn_bool (by simp only [hb_1, Bool.true_or, Bool.or_true, Bool.false_or, Bool.or_false, Bool.true_and, Bool.and_true, Bool.false_and, Bool.and_false, Bool.not_true, Bool.not_false, if_true, if_false, Bool.false_eq_true, reduceIte]), trivial⟩ (rw_nil))
theorem slices_EqualFunc_Itemapi_Item_api_Item_api_Item_xafd2_c (p0 : List Item) (p1 : List Item) (r : Bool) (h : slices_EqualFunc_Itemapi_Item_api_Item_api_Item_xafd2 p0 p1 = some r) : Fn Try.prog 64 [.sl (List.map encItem p0), .sl (List.map encItem p1), .func 66 []] (.bool r) := by
  unfold slices_EqualFunc_Itemapi_Item_api_Item_api_Item_xafd2 at h
  refine fn_of_T (N := 0) rfl Try.func64 rfl (by kernel_rfl) Try.ntmps64 rfl ?_
  show T _ _ _ _ (mkA 32 [(0, .sl (List.map encItem p0)), (1, .sl (List.map encItem p1)), (2, .func 66 [])]) []
  refine T.seq ?_
  refine T.region ?_
  refine RS.op rfl (OP.q rfl (v_assign (v := .bool false) rfl ?_))
  refine RS.nil ?_
  refine T.seq ?_
  refine T.seq ?_
  refine T.region ?_
  refine RS.op rfl (OP.q rfl (v_move (v := .sl (List.map encItem p0)) rfl ?_))
  refine RS.op rfl (OP.q rfl (v_len_sl Ty.s39 rfl ?_))
  refine RS.op rfl (OP.q rfl (v_move (v := .sl (List.map encItem p1)) rfl ?_))
  refine RS.op rfl (OP.q rfl (v_len_sl Ty.s39 rfl ?_))
  refine RS.op rfl (OP.q rfl (v_neq rfl rfl ?_))
  refine RS.nil ?_
  refine T.cond (b := ((p0).length : Int) != ((p1).length : Int)) rfl (fun hb_1 => ?_) (fun hb_1 => ?_)
  · replace h := ite_T h hb_1
    refine T.seq ?_
    refine T.region ?_
    refine RS.op rfl (OP.q rfl (v_assign (v := .bool false) rfl ?_))
    refine RS.nil ?_
    refine T.ret' (R := ?R2) ?hq2 ?_
    case hq2 => repeat (first | exact RetIs.base | refine RetIs.thn ?_ | refine RetIs.blk ?_ | refine RetIs.lq ?_)
    refine res_tmpA (v := .bool false) rfl ?_
    refine res_done ?_
    exact ret_data (v := .bool false) rfl (pure_bool _) ⟨congrArg (fun r : Bool => (.bool r : AV)) (Option.some.inj h), rfl⟩
  · replace h := ite_F h hb_1
    refine T.skip ?_
    refine T.seq ?_
    refine T.seq ?_
    refine T.region ?_
    refine RS.op rfl (OP.q rfl (v_move (v := .sl (List.map encItem p0)) rfl ?_))
    refine RS.op rfl (OP.q rfl (v_len_sl Ty.s39 rfl ?_))
    refine RS.op rfl (OP.q rfl (v_move (v := .int .i64 0) rfl ?_))
    refine RS.nil ?_
    refine T.block ?_
    refine T.iter (fun ss_9 : Int => mkA 32 [(1, .sl (List.map encItem p1)), (2, .func 66 []), (15, .sl (List.map encItem p0)), (16, .int .i64 ((p0).length : Int)), (17, .int .i64 ss_9)]) (fun ss_9 => []) h (Weak.mkN [] [] (by decide) (none_kept _) rfl ⟨rn_sl encItem_p rfl, rn_func trivial, rn_sl encItem_p rfl, rn_int rfl, rn_int rfl, trivial⟩ (rw_nil)) (fun ss_9 v_10 h hv_10 => ?_)
    revert hv_10 h; revert ss_9; intro s1 h hv_10
    replace h : slices_EqualFunc_Itemapi_Item_api_Item_api_Item_xafd2_l1 p0 p1 s1 = some v_10 := h
    show T _ _ _ _ (mkA 32 [(1, .sl (List.map encItem p1)), (2, .func 66 []), (15, .sl (List.map encItem p0)), (16, .int .i64 ((p0).length : Int)), (17, .int .i64 s1)]) []
    unfold slices_EqualFunc_Itemapi_Item_api_Item_api_Item_xafd2_l1 at h
    refine T.seq ?_
    refine T.region ?_
    refine RS.op rfl (OP.q rfl (v_lss rfl rfl ?_))
    refine RS.nil ?_
    refine T.seq ?_
    refine T.cond (b := decide (s1 < ((p0).length : Int))) rfl (fun hb_11 => ?_) (fun hb_11 => ?_)
    · replace h := ite_T h hb_11
      refine T.skip ?_
      refine T.seq ?_
      refine T.block ?_
      refine T.seq ?_
      obtain ⟨x3, hx3, h⟩ := bind_some h
      refine T.region ?_
      refine RS.op rfl (OP.q rfl (v_move (v := .int .i64 s1) rfl ?_))
      refine RS.op rfl (OP.q rfl (v_index_sl Ty.s39 (fun _ => rfl) rfl rfl hx3 ?_))
      refine RS.op rfl (o_load_elt rfl (loadRowA Ty.k41 Ty.c41 rfl (cs := [.int .i64 x3.Key, .int .i64 x3.Val, .int .i64 x3.Dep]) rfl ?_))
      refine RS.op rfl (o_alloc Ty.z41 rfl (aw' := [.box [.int .i64 0, .int .i64 0, .int .i64 0]]) rfl ?_)
      refine RS.op rfl (OP.q rfl (v_assign (v := .int .i64 s1) rfl ?_))
      refine RS.op rfl (o_store_ptr Ty.c41 Ty.i41 rfl (vs := [.int .i64 x3.Key, .int .i64 x3.Val, .int .i64 x3.Dep]) rfl rfl rfl rfl (cs' := [.int .i64 x3.Key, .int .i64 x3.Val, .int .i64 x3.Dep]) rfl (aw' := [.box [.int .i64 x3.Key, .int .i64 x3.Val, .int .i64 x3.Dep]]) rfl ?_)
      refine RS.nil ?_
      refine T.seq ?_
      obtain ⟨x5, hx5, h⟩ := bind_some h
      refine T.region ?_
      refine RS.op rfl (OP.q rfl (v_move (v := .sl (List.map encItem p1)) rfl ?_))
      refine RS.op rfl (OP.q rfl (v_move (v := .int .i64 s1) rfl ?_))
      refine RS.op rfl (OP.q rfl (v_index_sl Ty.s39 (fun _ => rfl) rfl rfl hx5 ?_))
      refine RS.op rfl (o_load_elt rfl (loadRowA Ty.k41 Ty.c41 rfl (cs := [.int .i64 x5.Key, .int .i64 x5.Val, .int .i64 x5.Dep]) rfl ?_))
      refine RS.op rfl (o_alloc Ty.z41 rfl (aw' := [.box [.int .i64 x3.Key, .int .i64 x3.Val, .int .i64 x3.Dep], .box [.int .i64 0, .int .i64 0, .int .i64 0]]) rfl ?_)
      refine RS.op rfl (o_store_ptr Ty.c41 Ty.i41 rfl (vs := [.int .i64 x5.Key, .int .i64 x5.Val, .int .i64 x5.Dep]) rfl rfl rfl rfl (cs' := [.int .i64 x5.Key, .int .i64 x5.Val, .int .i64 x5.Dep]) rfl (aw' := [.box [.int .i64 x3.Key, .int .i64 x3.Val, .int .i64 x3.Dep], .box [.int .i64 x5.Key, .int .i64 x5.Val, .int .i64 x5.Dep]]) rfl ?_)
      refine RS.nil ?_
      refine T.seq ?_
      obtain ⟨x7, hx7, h⟩ := bind_some h
      refine T.region ?_
      refine RS.op rfl (OP.q rfl (v_move (v := .func 66 []) rfl ?_))
      refine RS.op rfl (o_load_ptr rfl rfl (loadRowA Ty.k41 Ty.c41 rfl (cs := [.int .i64 x3.Key, .int .i64 x3.Val, .int .i64 x3.Dep]) rfl ?_))
      refine RS.op rfl (o_load_ptr rfl rfl (loadRowA Ty.k41 Ty.c41 rfl (cs := [.int .i64 x5.Key, .int .i64 x5.Val, .int .i64 x5.Dep]) rfl ?_))
      refine RS.op rfl (o_call (as0 := [.agg [.int .i64 x3.Key, .int .i64 x3.Val, .int .i64 x3.Dep], .agg [.int .i64 x5.Key, .int .i64 x5.Val, .int .i64 x5.Dep]]) (as1 := [.agg [.int .i64 x3.Key, .int .i64 x3.Val, .int .i64 x3.Dep], .agg [.int .i64 x5.Key, .int .i64 x5.Val, .int .i64 x5.Dep]]) (caps := []) (aw1 := [.box [.int .i64 x3.Key, .int .i64 x3.Val, .int .i64 x3.Dep], .box [.int .i64 x5.Key, .int .i64 x5.Val, .int .i64 x5.Dep]]) rfl rfl rfl (k_flat (v := .bool x7) (crosslaw_alike_1_c x3 x5 x7 hx7) (⟨pure_agg _ (pures_mem (⟨pure_int _ _, pure_int _ _, pure_int _ _, trivial⟩)), pure_agg _ (pures_mem (⟨pure_int _ _, pure_int _ _, pure_int _ _, trivial⟩)), trivial⟩) rfl ?_))
      refine RS.op rfl (OP.q rfl (v_not rfl ?_))
      refine RS.nil ?_
      refine T.cond (b := !x7) rfl (fun hb_12 => ?_) (fun hb_12 => ?_)
      · replace h := ite_T h hb_12
        refine T.seq ?_
        refine T.region ?_
        refine RS.op rfl (OP.q rfl (v_assign (v := .bool false) rfl ?_))
        refine RS.nil ?_
        refine T.ret' (R := ?R13) ?hq13 ?_
        case hq13 => repeat (first | exact RetIs.base | refine RetIs.thn ?_ | refine RetIs.blk ?_ | refine RetIs.lq ?_)
        obtain ⟨w_14, h, hw_14⟩ := map_inr h
        replace h := h.trans (congrArg some (hv_10 _ hw_14))
        refine res_tmpA (v := .bool false) rfl ?_
        refine res_done ?_
        exact ret_data (v := .bool false) rfl (pure_bool _) ⟨congrArg (fun r : Bool => (.bool r : AV)) (Option.some.inj h), rfl⟩
      · replace h := ite_F h hb_12
        refine T.skip ?_
        refine T.region ?_
        refine RS.op rfl (OP.q rfl (v_add rfl rfl ?_))
        refine RS.op rfl (OP.q rfl (v_move (v := .int .i64 (IntKind.i64.wrap (s1 + 1))) rfl ?_))
        refine RS.nil ?_
        exact ⟨IntKind.i64.wrap (s1 + 1), (Option.some.inj h).symm, Weak.mkN [] [] (by decide) (none_kept _) rfl ⟨rn_sl encItem_p rfl, rn_func trivial, rn_sl encItem_p rfl, rn_int rfl, rn_int rfl, trivial⟩ (rw_nil)⟩
    · replace h := ite_F h hb_11
      refine T.exit ?_
      obtain ⟨w_15, h, hw_15⟩ := map_inr h
      replace h := h.trans (congrArg some (hv_10 _ hw_15))
      refine T.seq ?_
      refine T.region ?_
      refine RS.op rfl (OP.q rfl (v_assign (v := .bool true) rfl ?_))
      refine RS.nil ?_
      refine T.ret' (R := ?R16) ?hq16 ?_
      case hq16 => repeat (first | exact RetIs.base | refine RetIs.thn ?_ | refine RetIs.blk ?_ | refine RetIs.lq ?_)
      refine res_tmpA (v := .bool true) rfl ?_
      refine res_done ?_
      exact ret_data (v := .bool true) rfl (pure_bool _) ⟨congrArg (fun r : Bool => (.bool r : AV)) (Option.some.inj h), rfl⟩
theorem crosslaw_alike_c (p0 : List Item) (p1 : List Item) (r : Bool) (h : crosslaw_alike p0 p1 = some r) : Fn Try.prog 37 [.sl (List.map encItem p0), .sl (List.map encItem p1)] (.bool r) := by
  unfold crosslaw_alike at h
  refine fn_of_T (N := 0) rfl Try.func37 rfl (by kernel_rfl) Try.ntmps37 rfl ?_
  show T _ _ _ _ (mkA 8 [(0, .sl (List.map encItem p0)), (1, .sl (List.map encItem p1))]) []
  refine T.seq ?_
  refine T.region ?_
  refine RS.op rfl (OP.q rfl (v_assign (v := .bool false) rfl ?_))
  refine RS.nil ?_
  refine T.seq ?_
  obtain ⟨x2, hx2, h⟩ := bind_some h
  refine T.region ?_
  refine RS.op rfl (OP.q rfl (v_move (v := .sl (List.map encItem p0)) rfl ?_))
  refine RS.op rfl (OP.q rfl (v_move (v := .sl (List.map encItem p1)) rfl ?_))
  refine RS.op rfl (o_call (as0 := [.sl (List.map encItem p0), .sl (List.map encItem p1), .func 66 []]) (as1 := [.sl (List.map encItem p0), .sl (List.map encItem p1), .func 66 []]) (caps := []) (aw1 := []) rfl rfl rfl (k_flat (v := .bool x2) (slices_EqualFunc_Itemapi_Item_api_Item_api_Item_xafd2_c p0 p1 x2 hx2) (⟨pure_map encItem_p _, pure_map encItem_p _, pure_func _ _ (pures_mem (trivial)), trivial⟩) rfl ?_))
  refine RS.op rfl (OP.q rfl (v_assign (v := .bool x2) rfl ?_))
  refine RS.nil ?_
  refine T.ret' (R := ?R1) ?hq1 ?_
  case hq1 => repeat (first | exact RetIs.base | refine RetIs.thn ?_ | refine RetIs.blk ?_ | refine RetIs.lq ?_)
  refine res_tmpA (v := .bool x2) rfl ?_
  refine res_done ?_
  exact ret_data (v := .bool x2) rfl (pure_bool _) ⟨congrArg (fun r : Bool => (.bool r : AV)) (Option.some.inj h), rfl⟩
theorem crosslaw_GateBehind_c (p0 : List Item) (p1 : List Item) (p2 : Int) (r : Bool) (h : crosslaw_GateBehind p0 p1 p2 = some r) : Fn Try.prog 10 [.sl (List.map encItem p0), .sl (List.map encItem p1), .int .i64 p2] (.bool r) := by
  unfold crosslaw_GateBehind at h
  refine fn_of_T (N := 0) rfl Try.func10 rfl (by kernel_rfl) Try.ntmps10 rfl ?_
  show T _ _ _ _ (mkA 101 [(0, .sl (List.map encItem p0)), (1, .sl (List.map encItem p1)), (2, .int .i64 p2)]) []
  refine T.seq ?_
  refine T.region ?_
  refine RS.op rfl (OP.q rfl (v_assign (v := .bool false) rfl ?_))
  refine RS.nil ?_
  refine T.seq ?_
  obtain ⟨x2, hx2, h⟩ := bind_some h
  refine T.region ?_
  refine RS.op rfl (OP.q rfl (v_move (v := .sl (List.map encItem p0)) rfl ?_))
  refine RS.op rfl (OP.q rfl (v_move (v := .sl (List.map encItem p1)) rfl ?_))
  refine RS.op rfl (OP.q rfl (v_move (v := .int .i64 p2) rfl ?_))
  refine RS.op rfl (o_call (as0 := [.sl (List.map encItem p0), .sl (List.map encItem p1), .int .i64 p2]) (as1 := [.sl (List.map encItem p0), .sl (List.map encItem p1), .int .i64 p2]) (caps := []) (aw1 := []) rfl rfl rfl (k_own' (v := .tup [.ref 0, .int .i64 x2.2]) (obs := [.arr 41 3 (List.map encItem x2.1)]) (v' := .tup [.ref 0, .int .i64 x2.2]) (aw' := [.arr 41 3 (List.map encItem x2.1)]) (gate_Behind_c p0 p1 p2 x2 hx2) (⟨pure_map encItem_p _, pure_map encItem_p _, pure_int _ _, trivial⟩) rfl (obs_cons (flatOb_map fun _ => rfl) obs_nil) rfl rfl ?_))
  refine RS.op rfl (OP.q rfl (v_move (v := .tup [.ref 0, .int .i64 x2.2]) rfl ?_))
  refine RS.op rfl (OP.q rfl (v_extract (v := .ref 0) rfl rfl ?_))
  refine RS.op rfl (OP.q rfl (v_extract (v := .int .i64 x2.2) rfl rfl ?_))
  refine RS.op rfl (OP.q rfl (v_assign (v := .ref 0) rfl ?_))
  refine RS.op rfl (OP.q rfl (v_assign (v := .int .i64 x2.2) rfl ?_))
  refine RS.nil ?_
  refine T.seq ?_
  refine T.region ?_
  refine RS.op rfl (OP.q rfl (v_assign (v := .int .i64 0) rfl ?_))
  refine RS.nil ?_
  refine T.join (Z := Int) (fun zz_6 => mkA 101 [(0, .sl (List.map encItem p0)), (1, .sl (List.map encItem p1)), (2, .int .i64 p2), (7, .ref 0), (8, .int .i64 x2.2), (9, .int .i64 zz_6)]) (fun zz_6 => [.arr 41 3 (List.map encItem x2.1)]) (fun zz_6 => crosslaw_GateBehind_k3 p0 p1 p2 x2 zz_6 = some r) (fun zz_6 h => ?_) (fun hK3 => ?_)
  · revert h; revert zz_6; intro z11 h
    replace h : crosslaw_GateBehind_k3 p0 p1 p2 x2 z11 = some r := h
    show T _ _ _ _ (mkA 101 [(0, .sl (List.map encItem p0)), (1, .sl (List.map encItem p1)), (2, .int .i64 p2), (7, .ref 0), (8, .int .i64 x2.2), (9, .int .i64 z11)]) [.arr 41 3 (List.map encItem x2.1)]
    unfold crosslaw_GateBehind_k3 at h
    refine T.seq ?_
    obtain ⟨x12, hx12, h⟩ := bind_some h
    refine T.join (Z := Unit) (fun _ => mkA 101 [(0, .sl (List.map encItem p0)), (1, .sl (List.map encItem p1)), (2, .int .i64 p2), (7, .ref 0), (8, .int .i64 x2.2), (9, .int .i64 z11), (58, .bool ((!x12) || z11 != 0))]) (fun _ => [.arr 41 3 (List.map encItem x2.1)]) (fun _ => True) (fun _ _ => ?_) (fun hK => ?_)
    · show T _ _ _ _ (mkA 101 [(0, .sl (List.map encItem p0)), (1, .sl (List.map encItem p1)), (2, .int .i64 p2), (7, .ref 0), (8, .int .i64 x2.2), (9, .int .i64 z11), (58, .bool ((!x12) || z11 != 0))]) [.arr 41 3 (List.map encItem x2.1)]
      refine T.cond (b := ((!x12) || z11 != 0)) rfl (fun hb_8 => ?_) (fun hb_8 => ?_)
      · replace h := ite_T h hb_8
        obtain ⟨x14, hx14, h⟩ := bind_some h
        refine T.join (Z := Unit) (fun _ => mkA 101 [(6, .bool (x14 && ((x2.2 == z11) && ((x2.1).length : Int) == 0)))]) (fun _ => []) (fun _ => True) (fun _ _ => ?_) (fun hK => ?_)
        · show T _ _ _ _ (mkA 101 [(6, .bool (x14 && ((x2.2 == z11) && ((x2.1).length : Int) == 0)))]) []
          refine T.ret' (R := ?R11) ?hq11 ?_
          case hq11 => repeat (first | exact RetIs.base | refine RetIs.thn ?_ | refine RetIs.blk ?_ | refine RetIs.lq ?_)
          refine res_tmpA (v := .bool (x14 && ((x2.2 == z11) && ((x2.1).length : Int) == 0))) rfl ?_
          refine res_done ?_
          exact ret_data (v := .bool (x14 && ((x2.2 == z11) && ((x2.1).length : Int) == 0))) rfl (pure_bool _) ⟨congrArg (fun r : Bool => (.bool r : AV)) (Option.some.inj h), rfl⟩
        · rcases bool_cases x14 with hb_9 | hb_9
          · rcases bool_cases (x2.2 == z11) with hb_10 | hb_10
            · refine T.region ?_
              refine RS.op rfl (o_call (as0 := []) (as1 := []) (caps := []) (aw1 := [.arr 41 3 (List.map encItem x2.1)]) rfl rfl rfl (k_flat (v := .bool x14) (crosslaw_gated_c x14 hx14) (trivial) rfl ?_))
              refine RS.op rfl (OP.q rfl (v_move (v := .bool x14) rfl ?_))
              refine RS.yes rfl rfl rfl hb_9 (OP.q rfl (v_move (v := .int .i64 x2.2) rfl ?_))
              refine RS.yes rfl rfl rfl hb_9 (OP.q rfl (v_move (v := .int .i64 z11) rfl ?_))
              refine RS.yes rfl rfl rfl hb_9 (OP.q rfl (v_eql rfl rfl ?_))
              refine RS.op rfl (OP.q rfl (v_pickT (v := .bool (x2.2 == z11)) rfl hb_9 rfl ?_))
              refine RS.op rfl (OP.q rfl (v_move (v := .bool (x2.2 == z11)) rfl ?_))
              refine RS.yes rfl rfl rfl hb_10 (OP.q rfl (v_move (v := .ref 0) rfl ?_))
              refine RS.yes rfl rfl rfl hb_10 (OP.q rfl (v_len_ref (en := encItem) Ty.s39 rfl rfl ?_))
              refine RS.yes rfl rfl rfl hb_10 (OP.q rfl (v_eql rfl rfl ?_))
              refine RS.op rfl (OP.q rfl (v_pickT (v := .bool (((x2.1).length : Int) == 0)) rfl hb_10 rfl ?_))
              refine RS.op rfl (OP.q rfl (v_assign (v := .bool (((x2.1).length : Int) == 0)) rfl ?_))
              refine RS.nil ?_
              exact T.weakR (hK () trivial) (Weak.mkN [] [] (by decide) (none_kept _) rfl ⟨rn_bool (by simp only [hb_9, hb_10, Bool.true_or, Bool.or_true, Bool.false_or, Bool.or_false, Bool.true_and, Bool.and_true, Bool.false_and, Bool.and_false, Bool.not_true, Bool.not_false, if_true, if_false, Bool.false_eq_true, reduceIte]), trivial⟩ (rw_nil))
            · refine T.region ?_
              refine RS.op rfl (o_call (as0 := []) (as1 := []) (caps := []) (aw1 := [.arr 41 3 (List.map encItem x2.1)]) rfl rfl rfl (k_flat (v := .bool x14) (crosslaw_gated_c x14 hx14) (trivial) rfl ?_))
              refine RS.op rfl (OP.q rfl (v_move (v := .bool x14) rfl ?_))
              refine RS.yes rfl rfl rfl hb_9 (OP.q rfl (v_move (v := .int .i64 x2.2) rfl ?_))
              refine RS.yes rfl rfl rfl hb_9 (OP.q rfl (v_move (v := .int .i64 z11) rfl ?_))
              refine RS.yes rfl rfl rfl hb_9 (OP.q rfl (v_eql rfl rfl ?_))
              refine RS.op rfl (OP.q rfl (v_pickT (v := .bool (x2.2 == z11)) rfl hb_9 rfl ?_))
              refine RS.op rfl (OP.q rfl (v_move (v := .bool (x2.2 == z11)) rfl ?_))
              refine RS.no rfl rfl rfl hb_10 ?_
              refine RS.no rfl rfl rfl hb_10 ?_
              refine RS.no rfl rfl rfl hb_10 ?_
              refine RS.op rfl (OP.q rfl (v_pickF (v := .bool false) rfl hb_10 rfl ?_))
              refine RS.op rfl (OP.q rfl (v_assign (v := .bool false) rfl ?_))
              refine RS.nil ?_
              exact T.weakR (hK () trivial) (Weak.mkN [] [] (by decide) (none_kept _) rfl ⟨rn_bool (by simp only [hb_9, hb_10, Bool.true_or, Bool.or_true, Bool.false_or, Bool.or_false, Bool.true_and, Bool.and_true, Bool.false_and, Bool.and_false, Bool.not_true, Bool.not_false, if_true, if_false, Bool.false_eq_true, reduceIte]), trivial⟩ (rw_nil))
          · refine T.region ?_
            refine RS.op rfl (o_call (as0 := []) (as1 := []) (caps := []) (aw1 := [.arr 41 3 (List.map encItem x2.1)]) rfl rfl rfl (k_flat (v := .bool x14) (crosslaw_gated_c x14 hx14) (trivial) rfl ?_))
            refine RS.op rfl (OP.q rfl (v_move (v := .bool x14) rfl ?_))
            refine RS.no rfl rfl rfl hb_9 ?_
            refine RS.no rfl rfl rfl hb_9 ?_
            refine RS.no rfl rfl rfl hb_9 ?_
            refine RS.op rfl (OP.q rfl (v_pickF (v := .bool false) rfl hb_9 rfl ?_))
            refine RS.op rfl (OP.q rfl (v_move (v := .bool false) rfl ?_))
            refine RS.no rfl rfl rfl rfl ?_
            refine RS.no rfl rfl rfl rfl ?_
            refine RS.no rfl rfl rfl rfl ?_
            refine RS.op rfl (OP.q rfl (v_pickF (v := .bool false) rfl rfl rfl ?_))
            refine RS.op rfl (OP.q rfl (v_assign (v := .bool false) rfl ?_))
            refine RS.nil ?_
            exact T.weakR (hK () trivial) (Weak.mkN [] [] (by decide) (none_kept _) rfl ⟨rn_bool (by simp only [hb_9, Bool.true_or, Bool.or_true, Bool.false_or, Bool.or_false, Bool.true_and, Bool.and_true, Bool.false_and, Bool.and_false, Bool.not_true, Bool.not_false, if_true, if_false, Bool.false_eq_true, reduceIte]), trivial⟩ (rw_nil))
      · replace h := ite_F h hb_8
        refine T.skip ?_
        refine T.seq ?_
        refine T.region ?_
        refine RS.op rfl (OP.q rfl (v_assign (v := .nils) rfl ?_))
        refine RS.nil ?_
        refine T.join (Z := List Item) (fun zz_25 => mkA 101 [(7, .ref 0), (8, .int .i64 x2.2), (10, .ref 1)]) (fun zz_25 => [.arr 41 3 (List.map encItem x2.1), .arr 41 3 (List.map encItem zz_25)]) (fun zz_25 => crosslaw_GateBehind_k1 x2 zz_25 = some r) (fun zz_25 h => ?_) (fun hK1 => ?_)
        · revert h; revert zz_25; intro s17 h
          replace h : crosslaw_GateBehind_k1 x2 s17 = some r := h
          show T _ _ _ _ (mkA 101 [(7, .ref 0), (8, .int .i64 x2.2), (10, .ref 1)]) [.arr 41 3 (List.map encItem x2.1), .arr 41 3 (List.map encItem s17)]
          unfold crosslaw_GateBehind_k1 at h
          obtain ⟨zt_27, hz, h⟩ := bind_some h
          revert hz h; revert zt_27; intro c22 hz h
          refine T.join (Z := Unit) (fun _ => mkA 101 [(6, .bool c22)]) (fun _ => []) (fun _ => True) (fun _ _ => ?_) (fun hK => ?_)
          · show T _ _ _ _ (mkA 101 [(6, .bool c22)]) []
            refine T.ret' (R := ?R28) ?hq28 ?_
            case hq28 => repeat (first | exact RetIs.base | refine RetIs.thn ?_ | refine RetIs.blk ?_ | refine RetIs.lq ?_)
            refine res_tmpA (v := .bool c22) rfl ?_
            refine res_done ?_
            exact ret_data (v := .bool c22) rfl (pure_bool _) ⟨congrArg (fun r : Bool => (.bool r : AV)) (Option.some.inj h), rfl⟩
          · rcases bool_cases (x2.2 == 0) with hb_26 | hb_26
            · replace hz := ite_T hz hb_26
              obtain ⟨x21, hx21, hz⟩ := bind_some hz
              refine T.region ?_
              refine RS.op rfl (OP.q rfl (v_move (v := .int .i64 x2.2) rfl ?_))
              refine RS.op rfl (OP.q rfl (v_eql rfl rfl ?_))
              refine RS.op rfl (OP.q rfl (v_move (v := .bool (x2.2 == 0)) rfl ?_))
              refine RS.yes rfl rfl rfl hb_26 (OP.q rfl (v_move (v := .ref 0) rfl ?_))
              refine RS.yes rfl rfl rfl hb_26 (OP.q rfl (v_move (v := .ref 1) rfl ?_))
              refine RS.yes rfl rfl rfl hb_26 (o_call (as0 := [.ref 0, .ref 1]) (as1 := [.sl (List.map encItem x2.1), .sl (List.map encItem s17)]) (caps := []) (aw1 := [.dead, .dead]) rfl rfl rfl (k_flat (v := .bool x21) (slices_Equal_Item_c x2.1 s17 x21 hx21) (⟨pure_map encItem_p _, pure_map encItem_p _, trivial⟩) rfl ?_))
              refine RS.op rfl (OP.q rfl (v_pickT (v := .bool x21) rfl hb_26 rfl ?_))
              refine RS.op rfl (OP.q rfl (v_assign (v := .bool x21) rfl ?_))
              refine RS.nil ?_
              exact T.weakR (hK () trivial) (Weak.mkN [] [] (by decide) (none_kept _) rfl ⟨rn_bool ((congrArg (fun p => p) (Option.some.inj hz)).symm), trivial⟩ (rw_nil))
            · replace hz := ite_F hz hb_26
              refine T.region ?_
              refine RS.op rfl (OP.q rfl (v_move (v := .int .i64 x2.2) rfl ?_))
              refine RS.op rfl (OP.q rfl (v_eql rfl rfl ?_))
              refine RS.op rfl (OP.q rfl (v_move (v := .bool (x2.2 == 0)) rfl ?_))
              refine RS.no rfl rfl rfl hb_26 ?_
              refine RS.no rfl rfl rfl hb_26 ?_
              refine RS.no rfl rfl rfl hb_26 ?_
              refine RS.op rfl (OP.q rfl (v_pickF (v := .bool false) rfl hb_26 rfl ?_))
              refine RS.op rfl (OP.q rfl (v_assign (v := .bool false) rfl ?_))
              refine RS.nil ?_
              exact T.weakR (hK () trivial) (Weak.mkN [] [] (by decide) (none_kept _) rfl ⟨rn_bool ((congrArg (fun p => p) (Option.some.inj hz)).symm), trivial⟩ (rw_nil))
        · refine T.seq ?_
          refine T.region ?_
          refine RS.op rfl (OP.q rfl (v_move (v := .sl (List.map encItem p1)) rfl ?_))
          refine RS.op rfl (OP.q rfl (v_len_sl Ty.s39 rfl ?_))
          refine RS.op rfl (OP.q rfl (v_move (v := .int .i64 0) rfl ?_))
          refine RS.nil ?_
          refine T.block ?_
          refine T.iter (fun ss_35 : Int × (List Item) => mkA 101 [(0, .sl (List.map encItem p0)), (2, .int .i64 p2), (7, .ref 0), (8, .int .i64 x2.2), (10, .ref 1), (70, .sl (List.map encItem p1)), (71, .int .i64 ((p1).length : Int)), (72, .int .i64 ss_35.1)]) (fun ss_35 => [.arr 41 3 (List.map encItem x2.1), .arr 41 3 (List.map encItem ss_35.2)]) h (Weak.mkN [(10, 41, 3)] [0, 1] (by decide) (none_kept _) rfl ⟨rn_sl encItem_p rfl, rn_int rfl, rn_ref rfl, rn_int rfl, rn_ref rfl, rn_sl encItem_p rfl, rn_int rfl, rn_int rfl, trivial⟩ (rw_arr rfl encItem_p rfl (rw_arr (en := encItem) (ys := []) rfl encItem_p rfl (rw_nil)))) (fun ss_35 v_36 h hv_36 => ?_)
          obtain ⟨s16, s17⟩ := ss_35
          replace h : crosslaw_GateBehind_l2 p0 p1 p2 x2 s16 s17 = some v_36 := h
          show T _ _ _ _ (mkA 101 [(0, .sl (List.map encItem p0)), (2, .int .i64 p2), (7, .ref 0), (8, .int .i64 x2.2), (10, .ref 1), (70, .sl (List.map encItem p1)), (71, .int .i64 ((p1).length : Int)), (72, .int .i64 s16)]) [.arr 41 3 (List.map encItem x2.1), .arr 41 3 (List.map encItem s17)]
          unfold crosslaw_GateBehind_l2 at h
          refine T.seq ?_
          refine T.region ?_
          refine RS.op rfl (OP.q rfl (v_lss rfl rfl ?_))
          refine RS.nil ?_
          refine T.seq ?_
          refine T.cond (b := decide (s16 < ((p1).length : Int))) rfl (fun hb_37 => ?_) (fun hb_37 => ?_)
          · replace h := ite_T h hb_37
            refine T.skip ?_
            refine T.seq ?_
            refine T.block ?_
            refine T.seq ?_
            obtain ⟨x19, hx19, h⟩ := bind_some h
            refine T.region ?_
            refine RS.op rfl (OP.q rfl (v_move (v := .int .i64 s16) rfl ?_))
            refine RS.op rfl (OP.q rfl (v_index_sl Ty.s39 (fun _ => rfl) rfl rfl hx19 ?_))
            refine RS.op rfl (o_load_elt rfl (loadRowA Ty.k41 Ty.c41 rfl (cs := [.int .i64 x19.Key, .int .i64 x19.Val, .int .i64 x19.Dep]) rfl ?_))
            refine RS.op rfl (o_alloc Ty.z41 rfl (aw' := [.arr 41 3 (List.map encItem x2.1), .arr 41 3 (List.map encItem s17), .box [.int .i64 0, .int .i64 0, .int .i64 0]]) rfl ?_)
            refine RS.op rfl (OP.q rfl (v_assign (v := .int .i64 s16) rfl ?_))
            refine RS.op rfl (o_store_ptr Ty.c41 Ty.i41 rfl (vs := [.int .i64 x19.Key, .int .i64 x19.Val, .int .i64 x19.Dep]) rfl rfl rfl rfl (cs' := [.int .i64 x19.Key, .int .i64 x19.Val, .int .i64 x19.Dep]) rfl (aw' := [.arr 41 3 (List.map encItem x2.1), .arr 41 3 (List.map encItem s17), .box [.int .i64 x19.Key, .int .i64 x19.Val, .int .i64 x19.Dep]]) rfl ?_)
            refine RS.nil ?_
            refine T.seq ?_
            refine T.seq ?_
            refine T.region ?_
            refine RS.op rfl (OP.q rfl (v_fieldAddr_ptr Ty.f41_2 rfl (off' := 2) rfl ?_))
            refine RS.op rfl (o_load_ptr rfl rfl (loadRow1 Ty.k3 (c := .int .i64 x19.Dep) rfl ?_))
            refine RS.op rfl (OP.q rfl (v_move (v := .int .i64 p2) rfl ?_))
            refine RS.op rfl (OP.q rfl (v_gtr rfl rfl ?_))
            refine RS.nil ?_
            refine T.cond (b := decide (x19.Dep > p2)) rfl (fun hb_38 => ?_) (fun hb_38 => ?_)
            · replace h := ite_T h hb_38
              refine T.exit ?_
              obtain ⟨w_39, h, hw_39⟩ := map_inr h
              replace h := h.trans (congrArg some (hv_36 _ hw_39))
              exact T.weakR (hK1 s17 h) (Weak.mkN [] [0, 1] (by decide) (none_kept _) rfl ⟨rn_ref rfl, rn_int rfl, rn_ref rfl, trivial⟩ (rw_arr rfl encItem_p rfl (rw_arr rfl encItem_p rfl (rw_nil))))
            · replace h := ite_F h hb_38
              refine T.skip ?_
              refine T.seq ?_
              refine T.region ?_
              refine RS.op rfl (OP.q rfl (v_move (v := .int .i64 s16) rfl ?_))
              refine RS.op rfl (OP.q rfl (v_move (v := .sl (List.map encItem p0)) rfl ?_))
              refine RS.op rfl (OP.q rfl (v_len_sl Ty.s39 rfl ?_))
              refine RS.op rfl (OP.q rfl (v_geq rfl rfl ?_))
              refine RS.nil ?_
              refine T.cond (b := decide (s16 ≥ ((p0).length : Int))) rfl (fun hb_40 => ?_) (fun hb_40 => ?_)
              · replace h := ite_T h hb_40
                obtain ⟨x20, hx20, h⟩ := bind_some h
                refine T.region ?_
                refine RS.op rfl (OP.q rfl (v_move (v := .ref 1) rfl ?_))
                refine RS.op rfl (OP.q rfl (v_fieldAddr_ptr Ty.f41_0 rfl (off' := 0) rfl ?_))
                refine RS.op rfl (o_load_ptr rfl rfl (loadRow1 Ty.k3 (c := .int .i64 x19.Key) rfl ?_))
                refine RS.op rfl (OP.q rfl (v_fieldAddr_ptr Ty.f41_1 rfl (off' := 1) rfl ?_))
                refine RS.op rfl (o_load_ptr rfl rfl (loadRow1 Ty.k3 (c := .int .i64 x19.Val) rfl ?_))
                refine RS.op rfl (OP.q rfl (v_build (cs := [.int .i64 x19.Key, .int .i64 x19.Val, .int .i64 0]) Ty.z41 Ty.p41 rfl ?_))
                refine RS.op rfl (o_buildSlice (rows := List.map encItem [(⟨x19.Key, x19.Val, 0⟩ : Item)]) (vs := [.agg [.int .i64 x19.Key, .int .i64 x19.Val, .int .i64 0]]) Ty.s39 Ty.z41 rfl rfl rfl rfl rfl (aw' := [.arr 41 3 (List.map encItem x2.1), .arr 41 3 (List.map encItem s17), .box [.int .i64 x19.Key, .int .i64 x19.Val, .int .i64 x19.Dep], .arr 41 3 (List.map encItem [(⟨x19.Key, x19.Val, 0⟩ : Item)])]) rfl ?_)
                refine RS.op rfl (o_app_ref (en := encItem) (xs := s17) (ys := ([(⟨x19.Key, x19.Val, 0⟩ : Item)] : List Item)) Ty.s39 (fun _ => rfl) rfl rfl rfl hx20 rfl (aw' := [.arr 41 3 (List.map encItem x2.1), .dead, .box [.int .i64 x19.Key, .int .i64 x19.Val, .int .i64 x19.Dep], .dead, .arr 41 3 (List.map encItem x20)]) rfl ?_)
                refine RS.op rfl (OP.q rfl (v_assign (v := .ref 4) rfl ?_))
                refine RS.nil ?_
                refine T.region ?_
                refine RS.op rfl (OP.q rfl (v_add rfl rfl ?_))
                refine RS.op rfl (OP.q rfl (v_move (v := .int .i64 (IntKind.i64.wrap (s16 + 1))) rfl ?_))
                refine RS.nil ?_
                exact ⟨(IntKind.i64.wrap (s16 + 1), x20), (Option.some.inj h).symm, Weak.mkN [] [0, 4] (by decide) (none_kept _) rfl ⟨rn_sl encItem_p rfl, rn_int rfl, rn_ref rfl, rn_int rfl, rn_ref rfl, rn_sl encItem_p rfl, rn_int rfl, rn_int rfl, trivial⟩ (rw_arr rfl encItem_p rfl (rw_arr rfl encItem_p rfl (rw_nil)))⟩
              · replace h := ite_F h hb_40
                refine T.skip ?_
                refine T.region ?_
                refine RS.op rfl (OP.q rfl (v_add rfl rfl ?_))
                refine RS.op rfl (OP.q rfl (v_move (v := .int .i64 (IntKind.i64.wrap (s16 + 1))) rfl ?_))
                refine RS.nil ?_
                exact ⟨(IntKind.i64.wrap (s16 + 1), s17), (Option.some.inj h).symm, Weak.mkN [] [0, 1] (by decide) (none_kept _) rfl ⟨rn_sl encItem_p rfl, rn_int rfl, rn_ref rfl, rn_int rfl, rn_ref rfl, rn_sl encItem_p rfl, rn_int rfl, rn_int rfl, trivial⟩ (rw_arr rfl encItem_p rfl (rw_arr rfl encItem_p rfl (rw_nil)))⟩
          · replace h := ite_F h hb_37
            refine T.exit ?_
            obtain ⟨w_41, h, hw_41⟩ := map_inr h
            replace h := h.trans (congrArg some (hv_36 _ hw_41))
            exact T.weakR (hK1 s17 h) (Weak.mkN [] [0, 1] (by decide) (none_kept _) rfl ⟨rn_ref rfl, rn_int rfl, rn_ref rfl, trivial⟩ (rw_arr rfl encItem_p rfl (rw_arr rfl encItem_p rfl (rw_nil))))
    · rcases bool_cases (!x12) with hb_7 | hb_7
      · refine T.region ?_
        refine RS.op rfl (o_call (as0 := []) (as1 := []) (caps := []) (aw1 := [.arr 41 3 (List.map encItem x2.1)]) rfl rfl rfl (k_flat (v := .bool x12) (crosslaw_gated_c x12 hx12) (trivial) rfl ?_))
        refine RS.op rfl (OP.q rfl (v_not rfl ?_))
        refine RS.op rfl (OP.q rfl (v_move (v := .bool (!x12)) rfl ?_))
        refine RS.no rfl rfl rfl hb_7 ?_
        refine RS.no rfl rfl rfl hb_7 ?_
        refine RS.op rfl (OP.q rfl (v_pickT (v := .bool true) rfl hb_7 rfl ?_))
        refine RS.nil ?_
        exact T.weakR (hK () trivial) (Weak.mkN [] [0] (by decide) (none_kept _) rfl ⟨rn_sl encItem_p rfl, rn_sl encItem_p rfl, rn_int rfl, rn_ref rfl, rn_int rfl, rn_int rfl, rn_bool (by simp only [hb_7, Bool.true_or, Bool.or_true, Bool.false_or, Bool.or_false, Bool.true_and, Bool.and_true, Bool.false_and, Bool.and_false, Bool.not_true, Bool.not_false, if_true, if_false, Bool.false_eq_true, reduceIte]), trivial⟩ (rw_arr rfl encItem_p rfl (rw_nil)))
      · refine T.region ?_
        refine RS.op rfl (o_call (as0 := []) (as1 := []) (caps := []) (aw1 := [.arr 41 3 (List.map encItem x2.1)]) rfl rfl rfl (k_flat (v := .bool x12) (crosslaw_gated_c x12 hx12) (trivial) rfl ?_))
        refine RS.op rfl (OP.q rfl (v_not rfl ?_))
        refine RS.op rfl (OP.q rfl (v_move (v := .bool (!x12)) rfl ?_))
        refine RS.yes rfl rfl rfl hb_7 (OP.q rfl (v_move (v := .int .i64 z11) rfl ?_))
        refine RS.yes rfl rfl rfl hb_7 (OP.q rfl (v_neq rfl rfl ?_))
        refine RS.op rfl (OP.q rfl (v_pickF (v := .bool (z11 != 0)) rfl hb_7 rfl ?_))
        refine RS.nil ?_
        exact T.weakR (hK () trivial) (Weak.mkN [] [0] (by decide) (none_kept _) rfl ⟨rn_sl encItem_p rfl, rn_sl encItem_p rfl, rn_int rfl, rn_ref rfl, rn_int rfl, rn_int rfl, rn_bool (by simp only [hb_7, Bool.true_or, Bool.or_true, Bool.false_or, Bool.or_false, Bool.true_and, Bool.and_true, Bool.false_and, Bool.and_false, Bool.not_true, Bool.not_false, if_true, if_false, Bool.false_eq_true, reduceIte]), trivial⟩ (rw_arr rfl encItem_p rfl (rw_nil)))
  · refine T.block ?_
    refine T.join (Z := Unit) (fun _ => mkA 101 [(0, .sl (List.map encItem p0)), (1, .sl (List.map encItem p1)), (2, .int .i64 p2), (7, .ref 0), (8, .int .i64 x2.2), (9, .int .i64 0), (20, .bool ((decide (((p0).length : Int) > 2000)) || decide (((p1).length : Int) > 2000)))]) (fun _ => [.arr 41 3 (List.map encItem x2.1)]) (fun _ => True) (fun _ _ => ?_) (fun hK => ?_)
    · show T _ _ _ _ (mkA 101 [(0, .sl (List.map encItem p0)), (1, .sl (List.map encItem p1)), (2, .int .i64 p2), (7, .ref 0), (8, .int .i64 x2.2), (9, .int .i64 0), (20, .bool ((decide (((p0).length : Int) > 2000)) || decide (((p1).length : Int) > 2000)))]) [.arr 41 3 (List.map encItem x2.1)]
      refine T.cond (b := ((decide (((p0).length : Int) > 2000)) || decide (((p1).length : Int) > 2000))) rfl (fun hb_43 => ?_) (fun hb_43 => ?_)
      · replace h := ite_T h hb_43
        refine T.region ?_
        refine RS.op rfl (OP.q rfl (v_assign (v := .int .i64 2) rfl ?_))
        refine RS.nil ?_
        exact T.weakR (hK3 2 h) (Weak.mkN [] [0] (by decide) (none_kept _) rfl ⟨rn_sl encItem_p rfl, rn_sl encItem_p rfl, rn_int rfl, rn_ref rfl, rn_int rfl, rn_int rfl, trivial⟩ (rw_arr rfl encItem_p rfl (rw_nil)))
      · replace h := ite_F h hb_43
        refine T.join (Z := Unit) (fun _ => mkA 101 [(0, .sl (List.map encItem p0)), (1, .sl (List.map encItem p1)), (2, .int .i64 p2), (7, .ref 0), (8, .int .i64 x2.2), (9, .int .i64 0), (29, .bool ((decide (p2 < 0)) || decide (p2 > 500)))]) (fun _ => [.arr 41 3 (List.map encItem x2.1)]) (fun _ => True) (fun _ _ => ?_) (fun hK => ?_)
        · show T _ _ _ _ (mkA 101 [(0, .sl (List.map encItem p0)), (1, .sl (List.map encItem p1)), (2, .int .i64 p2), (7, .ref 0), (8, .int .i64 x2.2), (9, .int .i64 0), (29, .bool ((decide (p2 < 0)) || decide (p2 > 500)))]) [.arr 41 3 (List.map encItem x2.1)]
          refine T.cond (b := ((decide (p2 < 0)) || decide (p2 > 500))) rfl (fun hb_45 => ?_) (fun hb_45 => ?_)
          · replace h := ite_T h hb_45
            refine T.region ?_
            refine RS.op rfl (OP.q rfl (v_assign (v := .int .i64 3) rfl ?_))
            refine RS.nil ?_
            exact T.weakR (hK3 3 h) (Weak.mkN [] [0] (by decide) (none_kept _) rfl ⟨rn_sl encItem_p rfl, rn_sl encItem_p rfl, rn_int rfl, rn_ref rfl, rn_int rfl, rn_int rfl, trivial⟩ (rw_arr rfl encItem_p rfl (rw_nil)))
          · replace h := ite_F h hb_45
            refine T.seq ?_
            obtain ⟨x8, hx8, h⟩ := bind_some h
            obtain ⟨x9, hx9, h⟩ := bind_some h
            obtain ⟨x10, hx10, h⟩ := bind_some h
            refine T.drawn mixed (k := 17) rfl ?_
            refine RA.t0 (i := 0) (li' := #[true, false, false, false, false, false, false, false, false, false, false, false, false, false, false, false, false]) rfl (by decide +kernel) (by decide +kernel) (by decide +kernel) (by decide +kernel) rfl rfl (v_move (v := .sl (List.map encItem p0)) rfl ?_)
            refine RA.t0 (i := 1) (li' := #[true, true, false, false, false, false, false, false, false, false, false, false, false, false, false, false, false]) rfl (by decide +kernel) (by decide +kernel) (by decide +kernel) (by decide +kernel) rfl rfl (v_move (v := .sl (List.map encItem p0)) rfl ?_)
            refine RA.t0 (i := 2) (li' := #[true, true, true, false, false, false, false, false, false, false, false, false, false, false, false, false, false]) rfl (by decide +kernel) (by decide +kernel) (by decide +kernel) (by decide +kernel) rfl rfl (v_len_sl Ty.s39 rfl ?_)
            refine RA.t0 (i := 3) (li' := #[true, true, true, true, false, false, false, false, false, false, false, false, false, false, false, false, false]) rfl (by decide +kernel) (by decide +kernel) (by decide +kernel) (by decide +kernel) rfl rfl (v_move (v := .sl (List.map encItem p1)) rfl ?_)
            refine RA.t0 (i := 4) (li' := #[true, true, true, true, true, false, false, false, false, false, false, false, false, false, false, false, false]) rfl (by decide +kernel) (by decide +kernel) (by decide +kernel) (by decide +kernel) rfl rfl (v_len_sl Ty.s39 rfl ?_)
            refine RA.t0 (i := 5) (li' := #[true, true, true, true, true, true, false, false, false, false, false, false, false, false, false, false, false]) rfl (by decide +kernel) (by decide +kernel) (by decide +kernel) (by decide +kernel) rfl rfl (v_min rfl rfl ?_)
            refine RA.t0 (i := 6) (li' := #[true, true, true, true, true, true, true, false, false, false, false, false, false, false, false, false, false]) rfl (by decide +kernel) (by decide +kernel) (by decide +kernel) (by decide +kernel) rfl rfl (v_slice_sl Ty.s39 (fun _ => rfl) rfl rfl rfl hx8 ?_)
            refine RA.t0 (i := 7) (li' := #[true, true, true, true, true, true, true, true, false, false, false, false, false, false, false, false, false]) rfl (by decide +kernel) (by decide +kernel) (by decide +kernel) (by decide +kernel) rfl rfl (v_move (v := .sl (List.map encItem p1)) rfl ?_)
            refine RA.t0 (i := 8) (li' := #[true, true, true, true, true, true, true, true, true, false, false, false, false, false, false, false, false]) rfl (by decide +kernel) (by decide +kernel) (by decide +kernel) (by decide +kernel) rfl rfl (v_move (v := .sl (List.map encItem p0)) rfl ?_)
            refine RA.t0 (i := 9) (li' := #[true, true, true, true, true, true, true, true, true, true, false, false, false, false, false, false, false]) rfl (by decide +kernel) (by decide +kernel) (by decide +kernel) (by decide +kernel) rfl rfl (v_len_sl Ty.s39 rfl ?_)
            refine RA.t0 (i := 10) (li' := #[true, true, true, true, true, true, true, true, true, true, true, false, false, false, false, false, false]) rfl (by decide +kernel) (by decide +kernel) (by decide +kernel) (by decide +kernel) rfl rfl (v_move (v := .sl (List.map encItem p1)) rfl ?_)
            refine RA.t0 (i := 11) (li' := #[true, true, true, true, true, true, true, true, true, true, true, true, false, false, false, false, false]) rfl (by decide +kernel) (by decide +kernel) (by decide +kernel) (by decide +kernel) rfl rfl (v_len_sl Ty.s39 rfl ?_)
            refine RA.t0 (i := 12) (li' := #[true, true, true, true, true, true, true, true, true, true, true, true, true, false, false, false, false]) rfl (by decide +kernel) (by decide +kernel) (by decide +kernel) (by decide +kernel) rfl rfl (v_min rfl rfl ?_)
            refine RA.t0 (i := 13) (li' := #[true, true, true, true, true, true, true, true, true, true, true, true, true, true, false, false, false]) rfl (by decide +kernel) (by decide +kernel) (by decide +kernel) (by decide +kernel) rfl rfl (v_slice_sl Ty.s39 (fun _ => rfl) rfl rfl rfl hx9 ?_)
            refine RA.a1 (i1 := 14) (l1 := #[true, true, true, true, true, true, true, true, true, true, true, true, true, true, true, false, false]) (by decide +kernel) (by decide +kernel) ?_
            refine RO.op rfl rfl (o_call (as0 := [.sl (List.map encItem x8), .sl (List.map encItem x9)]) (as1 := [.sl (List.map encItem x8), .sl (List.map encItem x9)]) (caps := []) (aw1 := [.arr 41 3 (List.map encItem x2.1)]) rfl rfl rfl (k_flat (v := .bool x10) (crosslaw_alike_c x8 x9 x10 hx10) (⟨pure_map encItem_p _, pure_map encItem_p _, trivial⟩) rfl ?_))
            refine RA.t0 (i := 15) (li' := #[true, true, true, true, true, true, true, true, true, true, true, true, true, true, true, true, false]) rfl (by decide +kernel) (by decide +kernel) (by decide +kernel) (by decide +kernel) rfl rfl (v_not rfl ?_)
            refine RA.t0 (i := 16) (li' := #[true, true, true, true, true, true, true, true, true, true, true, true, true, true, true, true, true]) rfl (by decide +kernel) (by decide +kernel) (by decide +kernel) (by decide +kernel) rfl rfl (v_assign (v := .bool (!x10)) rfl ?_)
            refine RA.done (by decide +kernel) ?_
            refine T.cond (b := !x10) rfl (fun hb_46 => ?_) (fun hb_46 => ?_)
            · replace h := ite_T h hb_46
              refine T.region ?_
              refine RS.op rfl (OP.q rfl (v_assign (v := .int .i64 4) rfl ?_))
              refine RS.nil ?_
              exact T.weakR (hK3 4 h) (Weak.mkN [] [0] (by decide) (none_kept _) rfl ⟨rn_sl encItem_p rfl, rn_sl encItem_p rfl, rn_int rfl, rn_ref rfl, rn_int rfl, rn_int rfl, trivial⟩ (rw_arr rfl encItem_p rfl (rw_nil)))
            · replace h := ite_F h hb_46
              refine T.skip ?_
              exact T.weakR (hK3 0 h) (Weak.mkN [] [0] (by decide) (none_kept _) rfl ⟨rn_sl encItem_p rfl, rn_sl encItem_p rfl, rn_int rfl, rn_ref rfl, rn_int rfl, rn_int rfl, trivial⟩ (rw_arr rfl encItem_p rfl (rw_nil)))
        · rcases bool_cases (decide (p2 < 0)) with hb_44 | hb_44
          · refine T.region ?_
            refine RS.op rfl (OP.q rfl (v_move (v := .int .i64 p2) rfl ?_))
            refine RS.op rfl (OP.q rfl (v_lss rfl rfl ?_))
            refine RS.op rfl (OP.q rfl (v_move (v := .bool (decide (p2 < 0))) rfl ?_))
            refine RS.no rfl rfl rfl hb_44 ?_
            refine RS.no rfl rfl rfl hb_44 ?_
            refine RS.op rfl (OP.q rfl (v_pickT (v := .bool true) rfl hb_44 rfl ?_))
            refine RS.op rfl (OP.q rfl (v_assign (v := .bool true) rfl ?_))
            refine RS.nil ?_
            exact T.weakR (hK () trivial) (Weak.mkN [] [0] (by decide) (none_kept _) rfl ⟨rn_sl encItem_p rfl, rn_sl encItem_p rfl, rn_int rfl, rn_ref rfl, rn_int rfl, rn_int rfl, rn_bool (by simp only [hb_44, Bool.true_or, Bool.or_true, Bool.false_or, Bool.or_false, Bool.true_and, Bool.and_true, Bool.false_and, Bool.and_false, Bool.not_true, Bool.not_false, if_true, if_false, Bool.false_eq_true, reduceIte]), trivial⟩ (rw_arr rfl encItem_p rfl (rw_nil)))
          · refine T.region ?_
            refine RS.op rfl (OP.q rfl (v_move (v := .int .i64 p2) rfl ?_))
            refine RS.op rfl (OP.q rfl (v_lss rfl rfl ?_))
            refine RS.op rfl (OP.q rfl (v_move (v := .bool (decide (p2 < 0))) rfl ?_))
            refine RS.yes rfl rfl rfl hb_44 (OP.q rfl (v_move (v := .int .i64 p2) rfl ?_))
            refine RS.yes rfl rfl rfl hb_44 (OP.q rfl (v_gtr rfl rfl ?_))
            refine RS.op rfl (OP.q rfl (v_pickF (v := .bool (decide (p2 > 500))) rfl hb_44 rfl ?_))
            refine RS.op rfl (OP.q rfl (v_assign (v := .bool (decide (p2 > 500))) rfl ?_))
            refine RS.nil ?_
            exact T.weakR (hK () trivial) (Weak.mkN [] [0] (by decide) (none_kept _) rfl ⟨rn_sl encItem_p rfl, rn_sl encItem_p rfl, rn_int rfl, rn_ref rfl, rn_int rfl, rn_int rfl, rn_bool (by simp only [hb_44, Bool.true_or, Bool.or_true, Bool.false_or, Bool.or_false, Bool.true_and, Bool.and_true, Bool.false_and, Bool.and_false, Bool.not_true, Bool.not_false, if_true, if_false, Bool.false_eq_true, reduceIte]), trivial⟩ (rw_arr rfl encItem_p rfl (rw_nil)))
    · rcases bool_cases (decide (((p0).length : Int) > 2000)) with hb_42 | hb_42
      · refine T.region ?_
        refine RS.op rfl (OP.q rfl (v_move (v := .sl (List.map encItem p0)) rfl ?_))
        refine RS.op rfl (OP.q rfl (v_len_sl Ty.s39 rfl ?_))
        refine RS.op rfl (OP.q rfl (v_gtr rfl rfl ?_))
        refine RS.op rfl (OP.q rfl (v_move (v := .bool (decide (((p0).length : Int) > 2000))) rfl ?_))
        refine RS.no rfl rfl rfl hb_42 ?_
        refine RS.no rfl rfl rfl hb_42 ?_
        refine RS.no rfl rfl rfl hb_42 ?_
        refine RS.op rfl (OP.q rfl (v_pickT (v := .bool true) rfl hb_42 rfl ?_))
        refine RS.op rfl (OP.q rfl (v_assign (v := .bool true) rfl ?_))
        refine RS.nil ?_
        exact T.weakR (hK () trivial) (Weak.mkN [] [0] (by decide) (none_kept _) rfl ⟨rn_sl encItem_p rfl, rn_sl encItem_p rfl, rn_int rfl, rn_ref rfl, rn_int rfl, rn_int rfl, rn_bool (by simp only [hb_42, Bool.true_or, Bool.or_true, Bool.false_or, Bool.or_false, Bool.true_and, Bool.and_true, Bool.false_and, Bool.and_false, Bool.not_true, Bool.not_false, if_true, if_false, Bool.false_eq_true, reduceIte]), trivial⟩ (rw_arr rfl encItem_p rfl (rw_nil)))
      · refine T.region ?_
        refine RS.op rfl (OP.q rfl (v_move (v := .sl (List.map encItem p0)) rfl ?_))
        refine RS.op rfl (OP.q rfl (v_len_sl Ty.s39 rfl ?_))
        refine RS.op rfl (OP.q rfl (v_gtr rfl rfl ?_))
        refine RS.op rfl (OP.q rfl (v_move (v := .bool (decide (((p0).length : Int) > 2000))) rfl ?_))
        refine RS.yes rfl rfl rfl hb_42 (OP.q rfl (v_move (v := .sl (List.map encItem p1)) rfl ?_))
        refine RS.yes rfl rfl rfl hb_42 (OP.q rfl (v_len_sl Ty.s39 rfl ?_))
        refine RS.yes rfl rfl rfl hb_42 (OP.q rfl (v_gtr rfl rfl ?_))
        refine RS.op rfl (OP.q rfl (v_pickF (v := .bool (decide (((p1).length : Int) > 2000))) rfl hb_42 rfl ?_))
        refine RS.op rfl (OP.q rfl (v_assign (v := .bool (decide (((p1).length : Int) > 2000))) rfl ?_))
        refine RS.nil ?_
        exact T.weakR (hK () trivial) (Weak.mkN [] [0] (by decide) (none_kept _) rfl ⟨rn_sl encItem_p rfl, rn_sl encItem_p rfl, rn_int rfl, rn_ref rfl, rn_int rfl, rn_int rfl, rn_bool (by simp only [hb_42, Bool.true_or, Bool.or_true, Bool.false_or, Bool.or_false, Bool.true_and, Bool.and_true, Bool.false_and, Bool.and_false, Bool.not_true, Bool.not_false, if_true, if_false, Bool.false_eq_true, reduceIte]), trivial⟩ (rw_arr rfl encItem_p rfl (rw_nil)))
end Go.Proofs.Ytpndpdbabblphaa
