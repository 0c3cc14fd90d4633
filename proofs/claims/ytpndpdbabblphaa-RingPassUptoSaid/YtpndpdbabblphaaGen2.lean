/-
  The code computes these functions. Printed by a program of ours (wip/gen.py).
-/
import Derived.Test.YtpndpdbabblphaaGen1
namespace Go.Proofs.Ytpndpdbabblphaa
open Go.RowKit
set_option linter.unusedVariables false
set_option linter.unusedSimpArgs false
set_option maxRecDepth 100000
theorem crosslaw_ringed_c (r : Bool) (h : crosslaw_ringed = some r) : Fn Try.prog 29 [] (.bool r) := by
  unfold crosslaw_ringed at h
  refine fn_of_T (N := 0) rfl Try.func29 rfl (by kernel_rfl) Try.ntmps29 rfl ?_
  show T _ _ _ _ (mkA 27 []) []
  refine T.seq ?_
  refine T.region ?_
  refine RS.op rfl (OP.q rfl (v_assign (v := .bool false) rfl ?_))
  refine RS.nil ?_
  refine T.seq ?_
  obtain ⟨x4, hx4, h⟩ := bind_some h
  obtain ⟨x5, hx5, h⟩ := bind_some h
  obtain ⟨x6, hx6, h⟩ := bind_some h
  refine T.region ?_
  refine RS.op rfl (o_call (as0 := [.int .i64 1, .int .i64 2]) (as1 := [.int .i64 (1 : Int), .int .i64 (2 : Int)]) (caps := []) (aw1 := []) rfl rfl rfl (k_flat (v := .agg [.int .i64 x4.Key, .int .i64 x4.Val, .int .i64 x4.Dep]) (crosslaw_item_c (1 : Int) (2 : Int) x4 hx4) (⟨pure_int _ _, pure_int _ _, trivial⟩) rfl ?_))
  refine RS.op rfl (o_call (as0 := [.int .i64 3, .int .i64 4]) (as1 := [.int .i64 (3 : Int), .int .i64 (4 : Int)]) (caps := []) (aw1 := []) rfl rfl rfl (k_flat (v := .agg [.int .i64 x5.Key, .int .i64 x5.Val, .int .i64 x5.Dep]) (crosslaw_item_c (3 : Int) (4 : Int) x5 hx5) (⟨pure_int _ _, pure_int _ _, trivial⟩) rfl ?_))
  refine RS.op rfl (o_buildSlice (rows := List.map encItem [x4, x5]) (vs := [.agg [.int .i64 x4.Key, .int .i64 x4.Val, .int .i64 x4.Dep], .agg [.int .i64 x5.Key, .int .i64 x5.Val, .int .i64 x5.Dep]]) Ty.s39 Ty.z41 rfl rfl rfl rfl rfl (aw' := [.arr 41 3 (List.map encItem [x4, x5])]) rfl ?_)
  refine RS.op rfl (o_buildSlice (rows := List.map encI [1, 1, 0]) (vs := [.int .i64 1, .int .i64 1, .int .i64 0]) Ty.s24 Ty.z3 rfl rfl rfl rfl rfl (aw' := [.arr 41 3 (List.map encItem [x4, x5]), .arr 3 1 (List.map encI [1, 1, 0])]) rfl ?_)
  refine RS.op rfl (o_call (as0 := [.ref 0, .int .i64 2, .ref 1]) (as1 := [.sl (List.map encItem ([x4, x5] : List Item)), .int .i64 (2 : Int), .sl (List.map encI ([1, 1, 0] : List Int))]) (caps := []) (aw1 := [.dead, .dead]) rfl rfl rfl (k_own' (v := .tup [.ref 0, .ref 1, .int .i64 x6.2.2]) (obs := [.arr 41 3 (List.map encItem x6.1), .arr 41 3 (List.map encItem x6.2.1)]) (v' := .tup [.ref 2, .ref 3, .int .i64 x6.2.2]) (aw' := [.arr 41 3 (List.map encItem [x4, x5]), .arr 3 1 (List.map encI [1, 1, 0]), .arr 41 3 (List.map encItem x6.1), .arr 41 3 (List.map encItem x6.2.1)]) (ring_Pass_c ([x4, x5] : List Item) (2 : Int) ([1, 1, 0] : List Int) x6 hx6) (⟨pure_map encItem_p _, pure_int _ _, pure_map encI_p _, trivial⟩) rfl (obs_cons (flatOb_map fun _ => rfl) (obs_cons (flatOb_map fun _ => rfl) obs_nil)) rfl rfl ?_))
  refine RS.op rfl (OP.q rfl (v_move (v := .tup [.ref 2, .ref 3, .int .i64 x6.2.2]) rfl ?_))
  refine RS.op rfl (OP.q rfl (v_extract (v := .ref 2) rfl rfl ?_))
  refine RS.op rfl (OP.q rfl (v_extract (v := .ref 3) rfl rfl ?_))
  refine RS.op rfl (OP.q rfl (v_extract (v := .int .i64 x6.2.2) rfl rfl ?_))
  refine RS.op rfl (OP.q rfl (v_assign (v := .ref 2) rfl ?_))
  refine RS.op rfl (OP.q rfl (v_assign (v := .ref 3) rfl ?_))
  refine RS.op rfl (OP.q rfl (v_assign (v := .int .i64 x6.2.2) rfl ?_))
  refine RS.nil ?_
  obtain ⟨zt_3, hz, h⟩ := bind_some h
  revert hz h; revert zt_3; intro c11 hz h
  refine T.join (Z := Unit) (fun _ => mkA 27 [(0, .bool c11)]) (fun _ => []) (fun _ => True) (fun _ _ => ?_) (fun hK => ?_)
  · show T _ _ _ _ (mkA 27 [(0, .bool c11)]) []
    refine T.ret' (R := ?R4) ?hq4 ?_
    case hq4 => repeat (first | exact RetIs.base | refine RetIs.thn ?_ | refine RetIs.blk ?_ | refine RetIs.lq ?_)
    refine res_tmpA (v := .bool c11) rfl ?_
    refine res_done ?_
    exact ret_data (v := .bool c11) rfl (pure_bool _) ⟨congrArg (fun r : Bool => (.bool r : AV)) (Option.some.inj h), rfl⟩
  · rcases bool_cases (x6.2.2 == 0) with hb_1 | hb_1
    · replace hz := ite_T hz hb_1
      obtain ⟨x7, hx7, hz⟩ := bind_some hz
      obtain ⟨x8, hx8, hz⟩ := bind_some hz
      rcases bool_cases x8 with hb_2 | hb_2
      · replace hz := ite_T hz hb_2
        obtain ⟨x9, hx9, hz⟩ := bind_some hz
        obtain ⟨x10, hx10, hz⟩ := bind_some hz
        refine T.region ?_
        refine RS.op rfl (OP.q rfl (v_move (v := .int .i64 x6.2.2) rfl ?_))
        refine RS.op rfl (OP.q rfl (v_eql rfl rfl ?_))
        refine RS.op rfl (OP.q rfl (v_move (v := .bool (x6.2.2 == 0)) rfl ?_))
        refine RS.yes rfl rfl rfl hb_1 (OP.q rfl (v_move (v := .ref 2) rfl ?_))
        refine RS.yes rfl rfl rfl hb_1 (o_call (as0 := [.int .i64 1, .int .i64 2]) (as1 := [.int .i64 (1 : Int), .int .i64 (2 : Int)]) (caps := []) (aw1 := [.arr 41 3 (List.map encItem [x4, x5]), .arr 3 1 (List.map encI [1, 1, 0]), .arr 41 3 (List.map encItem x6.1), .arr 41 3 (List.map encItem x6.2.1)]) rfl rfl rfl (k_flat (v := .agg [.int .i64 x7.Key, .int .i64 x7.Val, .int .i64 x7.Dep]) (crosslaw_item_c (1 : Int) (2 : Int) x7 hx7) (⟨pure_int _ _, pure_int _ _, trivial⟩) rfl ?_))
        refine RS.yes rfl rfl rfl hb_1 (o_buildSlice (rows := List.map encItem [x7]) (vs := [.agg [.int .i64 x7.Key, .int .i64 x7.Val, .int .i64 x7.Dep]]) Ty.s39 Ty.z41 rfl rfl rfl rfl rfl (aw' := [.arr 41 3 (List.map encItem [x4, x5]), .arr 3 1 (List.map encI [1, 1, 0]), .arr 41 3 (List.map encItem x6.1), .arr 41 3 (List.map encItem x6.2.1), .arr 41 3 (List.map encItem [x7])]) rfl ?_)
        refine RS.yes rfl rfl rfl hb_1 (o_call (as0 := [.ref 2, .ref 4]) (as1 := [.sl (List.map encItem x6.1), .sl (List.map encItem ([x7] : List Item))]) (caps := []) (aw1 := [.arr 41 3 (List.map encItem [x4, x5]), .arr 3 1 (List.map encI [1, 1, 0]), .dead, .arr 41 3 (List.map encItem x6.2.1), .dead]) rfl rfl rfl (k_flat (v := .bool x8) (slices_Equal_Item_c x6.1 ([x7] : List Item) x8 hx8) (⟨pure_map encItem_p _, pure_map encItem_p _, trivial⟩) rfl ?_))
        refine RS.op rfl (OP.q rfl (v_pickT (v := .bool x8) rfl hb_1 rfl ?_))
        refine RS.op rfl (OP.q rfl (v_move (v := .bool x8) rfl ?_))
        refine RS.yes rfl rfl rfl hb_2 (OP.q rfl (v_move (v := .ref 3) rfl ?_))
        refine RS.yes rfl rfl rfl hb_2 (o_call (as0 := [.int .i64 3, .int .i64 4]) (as1 := [.int .i64 (3 : Int), .int .i64 (4 : Int)]) (caps := []) (aw1 := [.arr 41 3 (List.map encItem [x4, x5]), .arr 3 1 (List.map encI [1, 1, 0]), .arr 41 3 (List.map encItem x6.1), .arr 41 3 (List.map encItem x6.2.1), .arr 41 3 (List.map encItem [x7])]) rfl rfl rfl (k_flat (v := .agg [.int .i64 x9.Key, .int .i64 x9.Val, .int .i64 x9.Dep]) (crosslaw_item_c (3 : Int) (4 : Int) x9 hx9) (⟨pure_int _ _, pure_int _ _, trivial⟩) rfl ?_))
        refine RS.yes rfl rfl rfl hb_2 (o_buildSlice (rows := List.map encItem [x9]) (vs := [.agg [.int .i64 x9.Key, .int .i64 x9.Val, .int .i64 x9.Dep]]) Ty.s39 Ty.z41 rfl rfl rfl rfl rfl (aw' := [.arr 41 3 (List.map encItem [x4, x5]), .arr 3 1 (List.map encI [1, 1, 0]), .arr 41 3 (List.map encItem x6.1), .arr 41 3 (List.map encItem x6.2.1), .arr 41 3 (List.map encItem [x7]), .arr 41 3 (List.map encItem [x9])]) rfl ?_)
        refine RS.yes rfl rfl rfl hb_2 (o_call (as0 := [.ref 3, .ref 5]) (as1 := [.sl (List.map encItem x6.2.1), .sl (List.map encItem ([x9] : List Item))]) (caps := []) (aw1 := [.arr 41 3 (List.map encItem [x4, x5]), .arr 3 1 (List.map encI [1, 1, 0]), .arr 41 3 (List.map encItem x6.1), .dead, .arr 41 3 (List.map encItem [x7]), .dead]) rfl rfl rfl (k_flat (v := .bool x10) (slices_Equal_Item_c x6.2.1 ([x9] : List Item) x10 hx10) (⟨pure_map encItem_p _, pure_map encItem_p _, trivial⟩) rfl ?_))
        refine RS.op rfl (OP.q rfl (v_pickT (v := .bool x10) rfl hb_2 rfl ?_))
        refine RS.op rfl (OP.q rfl (v_assign (v := .bool x10) rfl ?_))
        refine RS.nil ?_
        exact T.weakR (hK () trivial) (Weak.mkN [] [] (by decide) (none_kept _) rfl ⟨rn_bool ((congrArg (fun p => p) (Option.some.inj hz)).symm), trivial⟩ (rw_nil))
      · replace hz := ite_F hz hb_2
        refine T.region ?_
        refine RS.op rfl (OP.q rfl (v_move (v := .int .i64 x6.2.2) rfl ?_))
        refine RS.op rfl (OP.q rfl (v_eql rfl rfl ?_))
        refine RS.op rfl (OP.q rfl (v_move (v := .bool (x6.2.2 == 0)) rfl ?_))
        refine RS.yes rfl rfl rfl hb_1 (OP.q rfl (v_move (v := .ref 2) rfl ?_))
        refine RS.yes rfl rfl rfl hb_1 (o_call (as0 := [.int .i64 1, .int .i64 2]) (as1 := [.int .i64 (1 : Int), .int .i64 (2 : Int)]) (caps := []) (aw1 := [.arr 41 3 (List.map encItem [x4, x5]), .arr 3 1 (List.map encI [1, 1, 0]), .arr 41 3 (List.map encItem x6.1), .arr 41 3 (List.map encItem x6.2.1)]) rfl rfl rfl (k_flat (v := .agg [.int .i64 x7.Key, .int .i64 x7.Val, .int .i64 x7.Dep]) (crosslaw_item_c (1 : Int) (2 : Int) x7 hx7) (⟨pure_int _ _, pure_int _ _, trivial⟩) rfl ?_))
        refine RS.yes rfl rfl rfl hb_1 (o_buildSlice (rows := List.map encItem [x7]) (vs := [.agg [.int .i64 x7.Key, .int .i64 x7.Val, .int .i64 x7.Dep]]) Ty.s39 Ty.z41 rfl rfl rfl rfl rfl (aw' := [.arr 41 3 (List.map encItem [x4, x5]), .arr 3 1 (List.map encI [1, 1, 0]), .arr 41 3 (List.map encItem x6.1), .arr 41 3 (List.map encItem x6.2.1), .arr 41 3 (List.map encItem [x7])]) rfl ?_)
        refine RS.yes rfl rfl rfl hb_1 (o_call (as0 := [.ref 2, .ref 4]) (as1 := [.sl (List.map encItem x6.1), .sl (List.map encItem ([x7] : List Item))]) (caps := []) (aw1 := [.arr 41 3 (List.map encItem [x4, x5]), .arr 3 1 (List.map encI [1, 1, 0]), .dead, .arr 41 3 (List.map encItem x6.2.1), .dead]) rfl rfl rfl (k_flat (v := .bool x8) (slices_Equal_Item_c x6.1 ([x7] : List Item) x8 hx8) (⟨pure_map encItem_p _, pure_map encItem_p _, trivial⟩) rfl ?_))
        refine RS.op rfl (OP.q rfl (v_pickT (v := .bool x8) rfl hb_1 rfl ?_))
        refine RS.op rfl (OP.q rfl (v_move (v := .bool x8) rfl ?_))
        refine RS.no rfl rfl rfl hb_2 ?_
        refine RS.no rfl rfl rfl hb_2 ?_
        refine RS.no rfl rfl rfl hb_2 ?_
        refine RS.no rfl rfl rfl hb_2 ?_
        refine RS.op rfl (OP.q rfl (v_pickF (v := .bool false) rfl hb_2 rfl ?_))
        refine RS.op rfl (OP.q rfl (v_assign (v := .bool false) rfl ?_))
        refine RS.nil ?_
        exact T.weakR (hK () trivial) (Weak.mkN [] [] (by decide) (none_kept _) rfl ⟨rn_bool ((congrArg (fun p => p) (Option.some.inj hz)).symm), trivial⟩ (rw_nil))
    · replace hz := ite_F hz hb_1
      refine T.region ?_
      refine RS.op rfl (OP.q rfl (v_move (v := .int .i64 x6.2.2) rfl ?_))
      refine RS.op rfl (OP.q rfl (v_eql rfl rfl ?_))
      refine RS.op rfl (OP.q rfl (v_move (v := .bool (x6.2.2 == 0)) rfl ?_))
      refine RS.no rfl rfl rfl hb_1 ?_
      refine RS.no rfl rfl rfl hb_1 ?_
      refine RS.no rfl rfl rfl hb_1 ?_
      refine RS.no rfl rfl rfl hb_1 ?_
      refine RS.op rfl (OP.q rfl (v_pickF (v := .bool false) rfl hb_1 rfl ?_))
      refine RS.op rfl (OP.q rfl (v_move (v := .bool false) rfl ?_))
      refine RS.no rfl rfl rfl rfl ?_
      refine RS.no rfl rfl rfl rfl ?_
      refine RS.no rfl rfl rfl rfl ?_
      refine RS.no rfl rfl rfl rfl ?_
      refine RS.op rfl (OP.q rfl (v_pickF (v := .bool false) rfl rfl rfl ?_))
      refine RS.op rfl (OP.q rfl (v_assign (v := .bool false) rfl ?_))
      refine RS.nil ?_
      exact T.weakR (hK () trivial) (Weak.mkN [] [] (by decide) (none_kept _) rfl ⟨rn_bool ((congrArg (fun p => p) (Option.some.inj hz)).symm), trivial⟩ (rw_nil))
theorem crosslaw_RingPass_c (p0 : List Item) (p1 : Int) (p2 : List Int) (r : Bool) (h : crosslaw_RingPass p0 p1 p2 = some r) : Fn Try.prog 7 [.sl (List.map encItem p0), .int .i64 p1, .sl (List.map encI p2)] (.bool r) := by
  unfold crosslaw_RingPass at h
  refine fn_of_T (N := 0) rfl Try.func7 rfl (by kernel_rfl) Try.ntmps7 rfl ?_
  show T _ _ _ _ (mkA 137 [(0, .sl (List.map encItem p0)), (1, .int .i64 p1), (2, .sl (List.map encI p2))]) []
  refine T.seq ?_
  refine T.region ?_
  refine RS.op rfl (OP.q rfl (v_assign (v := .bool false) rfl ?_))
  refine RS.nil ?_
  refine T.seq ?_
  obtain ⟨x2, hx2, h⟩ := bind_some h
  refine T.region ?_
  refine RS.op rfl (OP.q rfl (v_move (v := .sl (List.map encItem p0)) rfl ?_))
  refine RS.op rfl (OP.q rfl (v_move (v := .int .i64 p1) rfl ?_))
  refine RS.op rfl (OP.q rfl (v_move (v := .sl (List.map encI p2)) rfl ?_))
  refine RS.op rfl (o_call (as0 := [.sl (List.map encItem p0), .int .i64 p1, .sl (List.map encI p2)]) (as1 := [.sl (List.map encItem p0), .int .i64 p1, .sl (List.map encI p2)]) (caps := []) (aw1 := []) rfl rfl rfl (k_own' (v := .tup [.ref 0, .ref 1, .int .i64 x2.2.2]) (obs := [.arr 41 3 (List.map encItem x2.1), .arr 41 3 (List.map encItem x2.2.1)]) (v' := .tup [.ref 0, .ref 1, .int .i64 x2.2.2]) (aw' := [.arr 41 3 (List.map encItem x2.1), .arr 41 3 (List.map encItem x2.2.1)]) (ring_Pass_c p0 p1 p2 x2 hx2) (⟨pure_map encItem_p _, pure_int _ _, pure_map encI_p _, trivial⟩) rfl (obs_cons (flatOb_map fun _ => rfl) (obs_cons (flatOb_map fun _ => rfl) obs_nil)) rfl rfl ?_))
  refine RS.op rfl (OP.q rfl (v_move (v := .tup [.ref 0, .ref 1, .int .i64 x2.2.2]) rfl ?_))
  refine RS.op rfl (OP.q rfl (v_extract (v := .ref 0) rfl rfl ?_))
  refine RS.op rfl (OP.q rfl (v_extract (v := .ref 1) rfl rfl ?_))
  refine RS.op rfl (OP.q rfl (v_extract (v := .int .i64 x2.2.2) rfl rfl ?_))
  refine RS.op rfl (OP.q rfl (v_assign (v := .ref 0) rfl ?_))
  refine RS.op rfl (OP.q rfl (v_assign (v := .ref 1) rfl ?_))
  refine RS.op rfl (OP.q rfl (v_assign (v := .int .i64 x2.2.2) rfl ?_))
  refine RS.nil ?_
  refine T.seq ?_
  refine T.region ?_
  refine RS.op rfl (OP.q rfl (v_assign (v := .int .i64 0) rfl ?_))
  refine RS.nil ?_
  refine T.join (Z := Int) (fun zz_5 => mkA 137 [(0, .sl (List.map encItem p0)), (1, .int .i64 p1), (2, .sl (List.map encI p2)), (7, .ref 0), (8, .ref 1), (9, .int .i64 x2.2.2), (10, .int .i64 zz_5)]) (fun zz_5 => [.arr 41 3 (List.map encItem x2.1), .arr 41 3 (List.map encItem x2.2.1)]) (fun zz_5 => crosslaw_RingPass_k2 p0 p1 p2 x2 zz_5 = some r) (fun zz_5 h => ?_) (fun hK2 => ?_)
  · revert h; revert zz_5; intro z3 h
    replace h : crosslaw_RingPass_k2 p0 p1 p2 x2 z3 = some r := h
    show T _ _ _ _ (mkA 137 [(0, .sl (List.map encItem p0)), (1, .int .i64 p1), (2, .sl (List.map encI p2)), (7, .ref 0), (8, .ref 1), (9, .int .i64 x2.2.2), (10, .int .i64 z3)]) [.arr 41 3 (List.map encItem x2.1), .arr 41 3 (List.map encItem x2.2.1)]
    unfold crosslaw_RingPass_k2 at h
    refine T.seq ?_
    refine T.region ?_
    refine RS.op rfl (OP.q rfl (v_assign (v := .int .i64 0) rfl ?_))
    refine RS.op rfl (OP.q rfl (v_assign (v := .int .i64 0) rfl ?_))
    refine RS.nil ?_
    refine T.seq ?_
    refine T.seq ?_
    refine T.region ?_
    refine RS.op rfl (OP.q rfl (v_assign (v := .int .i64 0) rfl ?_))
    refine RS.nil ?_
    refine T.block ?_
    refine T.iter (fun ss_26 : Int × Int × Int × Int => mkA 137 [(0, .sl (List.map encItem p0)), (1, .int .i64 p1), (2, .sl (List.map encI p2)), (7, .ref 0), (8, .ref 1), (9, .int .i64 x2.2.2), (10, .int .i64 ss_26.1), (11, .int .i64 ss_26.2.1), (12, .int .i64 ss_26.2.2.1), (13, .int .i64 ss_26.2.2.2)]) (fun ss_26 => [.arr 41 3 (List.map encItem x2.1), .arr 41 3 (List.map encItem x2.2.1)]) h (Weak.mkN [] [0, 1] (by decide) (none_kept _) rfl ⟨rn_sl encItem_p rfl, rn_int rfl, rn_sl encI_p rfl, rn_ref rfl, rn_ref rfl, rn_int rfl, rn_int rfl, rn_int rfl, rn_int rfl, rn_int rfl, trivial⟩ (rw_arr rfl encItem_p rfl (rw_arr rfl encItem_p rfl (rw_nil)))) (fun ss_26 v_27 h hv_27 => ?_)
    obtain ⟨s4, s5, s6, s7⟩ := ss_26
    replace h : crosslaw_RingPass_l1 p0 p1 p2 x2 s4 s5 s6 s7 = some v_27 := h
    show T _ _ _ _ (mkA 137 [(0, .sl (List.map encItem p0)), (1, .int .i64 p1), (2, .sl (List.map encI p2)), (7, .ref 0), (8, .ref 1), (9, .int .i64 x2.2.2), (10, .int .i64 s4), (11, .int .i64 s5), (12, .int .i64 s6), (13, .int .i64 s7)]) [.arr 41 3 (List.map encItem x2.1), .arr 41 3 (List.map encItem x2.2.1)]
    unfold crosslaw_RingPass_l1 at h
    refine T.seq ?_
    refine T.join (Z := Unit) (fun _ => mkA 137 [(0, .sl (List.map encItem p0)), (1, .int .i64 p1), (2, .sl (List.map encI p2)), (7, .ref 0), (8, .ref 1), (9, .int .i64 x2.2.2), (10, .int .i64 s4), (11, .int .i64 s5), (12, .int .i64 s6), (13, .int .i64 s7), (43, .bool ((s4 == 0) && decide (s7 < ((p2).length : Int))))]) (fun _ => [.arr 41 3 (List.map encItem x2.1), .arr 41 3 (List.map encItem x2.2.1)]) (fun _ => True) (fun _ _ => ?_) (fun hK => ?_)
    · show T _ _ _ _ (mkA 137 [(0, .sl (List.map encItem p0)), (1, .int .i64 p1), (2, .sl (List.map encI p2)), (7, .ref 0), (8, .ref 1), (9, .int .i64 x2.2.2), (10, .int .i64 s4), (11, .int .i64 s5), (12, .int .i64 s6), (13, .int .i64 s7), (43, .bool ((s4 == 0) && decide (s7 < ((p2).length : Int))))]) [.arr 41 3 (List.map encItem x2.1), .arr 41 3 (List.map encItem x2.2.1)]
      refine T.cond (b := ((s4 == 0) && decide (s7 < ((p2).length : Int)))) rfl (fun hb_29 => ?_) (fun hb_29 => ?_)
      · replace h := ite_T h hb_29
        refine T.skip ?_
        refine T.seq ?_
        refine T.block ?_
        refine T.block ?_
        obtain ⟨x9, hx9, h⟩ := bind_some h
        refine T.join (Z := Unit) (fun _ => mkA 137 [(0, .sl (List.map encItem p0)), (1, .int .i64 p1), (2, .sl (List.map encI p2)), (7, .ref 0), (8, .ref 1), (9, .int .i64 x2.2.2), (10, .int .i64 s4), (11, .int .i64 s5), (12, .int .i64 s6), (13, .int .i64 s7), (46, .bool ((x9 == 1) && s5 == ((p0).length : Int)))]) (fun _ => [.arr 41 3 (List.map encItem x2.1), .arr 41 3 (List.map encItem x2.2.1)]) (fun _ => True) (fun _ _ => ?_) (fun hK => ?_)
        · show T _ _ _ _ (mkA 137 [(0, .sl (List.map encItem p0)), (1, .int .i64 p1), (2, .sl (List.map encI p2)), (7, .ref 0), (8, .ref 1), (9, .int .i64 x2.2.2), (10, .int .i64 s4), (11, .int .i64 s5), (12, .int .i64 s6), (13, .int .i64 s7), (46, .bool ((x9 == 1) && s5 == ((p0).length : Int)))]) [.arr 41 3 (List.map encItem x2.1), .arr 41 3 (List.map encItem x2.2.1)]
          refine T.cond (b := ((x9 == 1) && s5 == ((p0).length : Int))) rfl (fun hb_31 => ?_) (fun hb_31 => ?_)
          · replace h := ite_T h hb_31
            refine T.region ?_
            refine RS.op rfl (OP.q rfl (v_assign (v := .int .i64 9) rfl ?_))
            refine RS.nil ?_
            refine T.region ?_
            refine RS.op rfl (OP.q rfl (v_move (v := .int .i64 s7) rfl ?_))
            refine RS.op rfl (OP.q rfl (v_add rfl rfl ?_))
            refine RS.op rfl (OP.q rfl (v_assign (v := .int .i64 (IntKind.i64.wrap (s7 + 1))) rfl ?_))
            refine RS.nil ?_
            exact ⟨(9, s5, s6, IntKind.i64.wrap (s7 + 1)), (Option.some.inj h).symm, Weak.mkN [] [0, 1] (by decide) (none_kept _) rfl ⟨rn_sl encItem_p rfl, rn_int rfl, rn_sl encI_p rfl, rn_ref rfl, rn_ref rfl, rn_int rfl, rn_int rfl, rn_int rfl, rn_int rfl, rn_int rfl, trivial⟩ (rw_arr rfl encItem_p rfl (rw_arr rfl encItem_p rfl (rw_nil)))⟩
          · replace h := ite_F h hb_31
            obtain ⟨x11, hx11, h⟩ := bind_some h
            refine T.join (Z := Unit) (fun _ => mkA 137 [(0, .sl (List.map encItem p0)), (1, .int .i64 p1), (2, .sl (List.map encI p2)), (7, .ref 0), (8, .ref 1), (9, .int .i64 x2.2.2), (10, .int .i64 s4), (11, .int .i64 s5), (12, .int .i64 s6), (13, .int .i64 s7), (58, .bool ((x11 == 1) && (IntKind.i64.wrap (s5 - s6)) == p1))]) (fun _ => [.arr 41 3 (List.map encItem x2.1), .arr 41 3 (List.map encItem x2.2.1)]) (fun _ => True) (fun _ _ => ?_) (fun hK => ?_)
            · show T _ _ _ _ (mkA 137 [(0, .sl (List.map encItem p0)), (1, .int .i64 p1), (2, .sl (List.map encI p2)), (7, .ref 0), (8, .ref 1), (9, .int .i64 x2.2.2), (10, .int .i64 s4), (11, .int .i64 s5), (12, .int .i64 s6), (13, .int .i64 s7), (58, .bool ((x11 == 1) && (IntKind.i64.wrap (s5 - s6)) == p1))]) [.arr 41 3 (List.map encItem x2.1), .arr 41 3 (List.map encItem x2.2.1)]
              refine T.cond (b := ((x11 == 1) && (IntKind.i64.wrap (s5 - s6)) == p1)) rfl (fun hb_33 => ?_) (fun hb_33 => ?_)
              · replace h := ite_T h hb_33
                refine T.region ?_
                refine RS.op rfl (OP.q rfl (v_assign (v := .int .i64 8) rfl ?_))
                refine RS.nil ?_
                refine T.region ?_
                refine RS.op rfl (OP.q rfl (v_move (v := .int .i64 s7) rfl ?_))
                refine RS.op rfl (OP.q rfl (v_add rfl rfl ?_))
                refine RS.op rfl (OP.q rfl (v_assign (v := .int .i64 (IntKind.i64.wrap (s7 + 1))) rfl ?_))
                refine RS.nil ?_
                exact ⟨(8, s5, s6, IntKind.i64.wrap (s7 + 1)), (Option.some.inj h).symm, Weak.mkN [] [0, 1] (by decide) (none_kept _) rfl ⟨rn_sl encItem_p rfl, rn_int rfl, rn_sl encI_p rfl, rn_ref rfl, rn_ref rfl, rn_int rfl, rn_int rfl, rn_int rfl, rn_int rfl, rn_int rfl, trivial⟩ (rw_arr rfl encItem_p rfl (rw_arr rfl encItem_p rfl (rw_nil)))⟩
              · replace h := ite_F h hb_33
                refine T.seq ?_
                obtain ⟨x14, hx14, h⟩ := bind_some h
                refine T.region ?_
                refine RS.op rfl (OP.q rfl (v_move (v := .sl (List.map encI p2)) rfl ?_))
                refine RS.op rfl (OP.q rfl (v_move (v := .int .i64 s7) rfl ?_))
                refine RS.op rfl (OP.q rfl (v_index_sl Ty.s24 (fun _ => rfl) rfl rfl hx14 ?_))
                refine RS.op rfl (o_load_elt rfl (loadRow1 Ty.k3 (c := .int .i64 x14) rfl ?_))
                refine RS.op rfl (OP.q rfl (v_eql rfl rfl ?_))
                refine RS.op rfl (OP.q rfl (v_assign (v := .bool (x14 == 1)) rfl ?_))
                refine RS.nil ?_
                refine T.cond (b := x14 == 1) rfl (fun hb_34 => ?_) (fun hb_34 => ?_)
                · replace h := ite_T h hb_34
                  refine T.region ?_
                  refine RS.op rfl (OP.q rfl (v_move (v := .int .i64 s5) rfl ?_))
                  refine RS.op rfl (OP.q rfl (v_add rfl rfl ?_))
                  refine RS.op rfl (OP.q rfl (v_assign (v := .int .i64 (IntKind.i64.wrap (s5 + 1))) rfl ?_))
                  refine RS.nil ?_
                  refine T.region ?_
                  refine RS.op rfl (OP.q rfl (v_move (v := .int .i64 s7) rfl ?_))
                  refine RS.op rfl (OP.q rfl (v_add rfl rfl ?_))
                  refine RS.op rfl (OP.q rfl (v_assign (v := .int .i64 (IntKind.i64.wrap (s7 + 1))) rfl ?_))
                  refine RS.nil ?_
                  exact ⟨(s4, IntKind.i64.wrap (s5 + 1), s6, IntKind.i64.wrap (s7 + 1)), (Option.some.inj h).symm, Weak.mkN [] [0, 1] (by decide) (none_kept _) rfl ⟨rn_sl encItem_p rfl, rn_int rfl, rn_sl encI_p rfl, rn_ref rfl, rn_ref rfl, rn_int rfl, rn_int rfl, rn_int rfl, rn_int rfl, rn_int rfl, trivial⟩ (rw_arr rfl encItem_p rfl (rw_arr rfl encItem_p rfl (rw_nil)))⟩
                · replace h := ite_F h hb_34
                  obtain ⟨x15, hx15, h⟩ := bind_some h
                  refine T.join (Z := Unit) (fun _ => mkA 137 [(0, .sl (List.map encItem p0)), (1, .int .i64 p1), (2, .sl (List.map encI p2)), (7, .ref 0), (8, .ref 1), (9, .int .i64 x2.2.2), (10, .int .i64 s4), (11, .int .i64 s5), (12, .int .i64 s6), (13, .int .i64 s7), (79, .bool ((x15 == 0) && s5 == s6))]) (fun _ => [.arr 41 3 (List.map encItem x2.1), .arr 41 3 (List.map encItem x2.2.1)]) (fun _ => True) (fun _ _ => ?_) (fun hK => ?_)
                  · show T _ _ _ _ (mkA 137 [(0, .sl (List.map encItem p0)), (1, .int .i64 p1), (2, .sl (List.map encI p2)), (7, .ref 0), (8, .ref 1), (9, .int .i64 x2.2.2), (10, .int .i64 s4), (11, .int .i64 s5), (12, .int .i64 s6), (13, .int .i64 s7), (79, .bool ((x15 == 0) && s5 == s6))]) [.arr 41 3 (List.map encItem x2.1), .arr 41 3 (List.map encItem x2.2.1)]
                    refine T.cond (b := ((x15 == 0) && s5 == s6)) rfl (fun hb_36 => ?_) (fun hb_36 => ?_)
                    · replace h := ite_T h hb_36
                      refine T.region ?_
                      refine RS.op rfl (OP.q rfl (v_assign (v := .int .i64 9) rfl ?_))
                      refine RS.nil ?_
                      refine T.region ?_
                      refine RS.op rfl (OP.q rfl (v_move (v := .int .i64 s7) rfl ?_))
                      refine RS.op rfl (OP.q rfl (v_add rfl rfl ?_))
                      refine RS.op rfl (OP.q rfl (v_assign (v := .int .i64 (IntKind.i64.wrap (s7 + 1))) rfl ?_))
                      refine RS.nil ?_
                      exact ⟨(9, s5, s6, IntKind.i64.wrap (s7 + 1)), (Option.some.inj h).symm, Weak.mkN [] [0, 1] (by decide) (none_kept _) rfl ⟨rn_sl encItem_p rfl, rn_int rfl, rn_sl encI_p rfl, rn_ref rfl, rn_ref rfl, rn_int rfl, rn_int rfl, rn_int rfl, rn_int rfl, rn_int rfl, trivial⟩ (rw_arr rfl encItem_p rfl (rw_arr rfl encItem_p rfl (rw_nil)))⟩
                    · replace h := ite_F h hb_36
                      refine T.seq ?_
                      obtain ⟨x18, hx18, h⟩ := bind_some h
                      refine T.region ?_
                      refine RS.op rfl (OP.q rfl (v_move (v := .sl (List.map encI p2)) rfl ?_))
                      refine RS.op rfl (OP.q rfl (v_move (v := .int .i64 s7) rfl ?_))
                      refine RS.op rfl (OP.q rfl (v_index_sl Ty.s24 (fun _ => rfl) rfl rfl hx18 ?_))
                      refine RS.op rfl (o_load_elt rfl (loadRow1 Ty.k3 (c := .int .i64 x18) rfl ?_))
                      refine RS.op rfl (OP.q rfl (v_eql rfl rfl ?_))
                      refine RS.op rfl (OP.q rfl (v_assign (v := .bool (x18 == 0)) rfl ?_))
                      refine RS.nil ?_
                      refine T.cond (b := x18 == 0) rfl (fun hb_37 => ?_) (fun hb_37 => ?_)
                      · replace h := ite_T h hb_37
                        refine T.region ?_
                        refine RS.op rfl (OP.q rfl (v_move (v := .int .i64 s6) rfl ?_))
                        refine RS.op rfl (OP.q rfl (v_add rfl rfl ?_))
                        refine RS.op rfl (OP.q rfl (v_assign (v := .int .i64 (IntKind.i64.wrap (s6 + 1))) rfl ?_))
                        refine RS.nil ?_
                        refine T.region ?_
                        refine RS.op rfl (OP.q rfl (v_move (v := .int .i64 s7) rfl ?_))
                        refine RS.op rfl (OP.q rfl (v_add rfl rfl ?_))
                        refine RS.op rfl (OP.q rfl (v_assign (v := .int .i64 (IntKind.i64.wrap (s7 + 1))) rfl ?_))
                        refine RS.nil ?_
                        exact ⟨(s4, s5, IntKind.i64.wrap (s6 + 1), IntKind.i64.wrap (s7 + 1)), (Option.some.inj h).symm, Weak.mkN [] [0, 1] (by decide) (none_kept _) rfl ⟨rn_sl encItem_p rfl, rn_int rfl, rn_sl encI_p rfl, rn_ref rfl, rn_ref rfl, rn_int rfl, rn_int rfl, rn_int rfl, rn_int rfl, rn_int rfl, trivial⟩ (rw_arr rfl encItem_p rfl (rw_arr rfl encItem_p rfl (rw_nil)))⟩
                      · replace h := ite_F h hb_37
                        refine T.region ?_
                        refine RS.op rfl (OP.q rfl (v_assign (v := .int .i64 3) rfl ?_))
                        refine RS.nil ?_
                        refine T.region ?_
                        refine RS.op rfl (OP.q rfl (v_move (v := .int .i64 s7) rfl ?_))
                        refine RS.op rfl (OP.q rfl (v_add rfl rfl ?_))
                        refine RS.op rfl (OP.q rfl (v_assign (v := .int .i64 (IntKind.i64.wrap (s7 + 1))) rfl ?_))
                        refine RS.nil ?_
                        exact ⟨(3, s5, s6, IntKind.i64.wrap (s7 + 1)), (Option.some.inj h).symm, Weak.mkN [] [0, 1] (by decide) (none_kept _) rfl ⟨rn_sl encItem_p rfl, rn_int rfl, rn_sl encI_p rfl, rn_ref rfl, rn_ref rfl, rn_int rfl, rn_int rfl, rn_int rfl, rn_int rfl, rn_int rfl, trivial⟩ (rw_arr rfl encItem_p rfl (rw_arr rfl encItem_p rfl (rw_nil)))⟩
                  · rcases bool_cases (x15 == 0) with hb_35 | hb_35
                    · refine T.region ?_
                      refine RS.op rfl (OP.q rfl (v_move (v := .sl (List.map encI p2)) rfl ?_))
                      refine RS.op rfl (OP.q rfl (v_move (v := .int .i64 s7) rfl ?_))
                      refine RS.op rfl (OP.q rfl (v_index_sl Ty.s24 (fun _ => rfl) rfl rfl hx15 ?_))
                      refine RS.op rfl (o_load_elt rfl (loadRow1 Ty.k3 (c := .int .i64 x15) rfl ?_))
                      refine RS.op rfl (OP.q rfl (v_eql rfl rfl ?_))
                      refine RS.op rfl (OP.q rfl (v_move (v := .bool (x15 == 0)) rfl ?_))
                      refine RS.yes rfl rfl rfl hb_35 (OP.q rfl (v_move (v := .int .i64 s5) rfl ?_))
                      refine RS.yes rfl rfl rfl hb_35 (OP.q rfl (v_move (v := .int .i64 s6) rfl ?_))
                      refine RS.yes rfl rfl rfl hb_35 (OP.q rfl (v_eql rfl rfl ?_))
                      refine RS.op rfl (OP.q rfl (v_pickT (v := .bool (s5 == s6)) rfl hb_35 rfl ?_))
                      refine RS.op rfl (OP.q rfl (v_assign (v := .bool (s5 == s6)) rfl ?_))
                      refine RS.nil ?_
                      exact T.weakR (hK () trivial) (Weak.mkN [] [0, 1] (by decide) (none_kept _) rfl ⟨rn_sl encItem_p rfl, rn_int rfl, rn_sl encI_p rfl, rn_ref rfl, rn_ref rfl, rn_int rfl, rn_int rfl, rn_int rfl, rn_int rfl, rn_int rfl, rn_bool (by simp only [hb_35, Bool.true_or, Bool.or_true, Bool.false_or, Bool.or_false, Bool.true_and, Bool.and_true, Bool.false_and, Bool.and_false, Bool.not_true, Bool.not_false, if_true, if_false, Bool.false_eq_true, reduceIte]), trivial⟩ (rw_arr rfl encItem_p rfl (rw_arr rfl encItem_p rfl (rw_nil))))
                    · refine T.region ?_
                      refine RS.op rfl (OP.q rfl (v_move (v := .sl (List.map encI p2)) rfl ?_))
                      refine RS.op rfl (OP.q rfl (v_move (v := .int .i64 s7) rfl ?_))
                      refine RS.op rfl (OP.q rfl (v_index_sl Ty.s24 (fun _ => rfl) rfl rfl hx15 ?_))
                      refine RS.op rfl (o_load_elt rfl (loadRow1 Ty.k3 (c := .int .i64 x15) rfl ?_))
                      refine RS.op rfl (OP.q rfl (v_eql rfl rfl ?_))
                      refine RS.op rfl (OP.q rfl (v_move (v := .bool (x15 == 0)) rfl ?_))
                      refine RS.no rfl rfl rfl hb_35 ?_
                      refine RS.no rfl rfl rfl hb_35 ?_
                      refine RS.no rfl rfl rfl hb_35 ?_
                      refine RS.op rfl (OP.q rfl (v_pickF (v := .bool false) rfl hb_35 rfl ?_))
                      refine RS.op rfl (OP.q rfl (v_assign (v := .bool false) rfl ?_))
                      refine RS.nil ?_
                      exact T.weakR (hK () trivial) (Weak.mkN [] [0, 1] (by decide) (none_kept _) rfl ⟨rn_sl encItem_p rfl, rn_int rfl, rn_sl encI_p rfl, rn_ref rfl, rn_ref rfl, rn_int rfl, rn_int rfl, rn_int rfl, rn_int rfl, rn_int rfl, rn_bool (by simp only [hb_35, Bool.true_or, Bool.or_true, Bool.false_or, Bool.or_false, Bool.true_and, Bool.and_true, Bool.false_and, Bool.and_false, Bool.not_true, Bool.not_false, if_true, if_false, Bool.false_eq_true, reduceIte]), trivial⟩ (rw_arr rfl encItem_p rfl (rw_arr rfl encItem_p rfl (rw_nil))))
            · rcases bool_cases (x11 == 1) with hb_32 | hb_32
              · refine T.region ?_
                refine RS.op rfl (OP.q rfl (v_move (v := .sl (List.map encI p2)) rfl ?_))
                refine RS.op rfl (OP.q rfl (v_move (v := .int .i64 s7) rfl ?_))
                refine RS.op rfl (OP.q rfl (v_index_sl Ty.s24 (fun _ => rfl) rfl rfl hx11 ?_))
                refine RS.op rfl (o_load_elt rfl (loadRow1 Ty.k3 (c := .int .i64 x11) rfl ?_))
                refine RS.op rfl (OP.q rfl (v_eql rfl rfl ?_))
                refine RS.op rfl (OP.q rfl (v_move (v := .bool (x11 == 1)) rfl ?_))
                refine RS.yes rfl rfl rfl hb_32 (OP.q rfl (v_move (v := .int .i64 s5) rfl ?_))
                refine RS.yes rfl rfl rfl hb_32 (OP.q rfl (v_move (v := .int .i64 s6) rfl ?_))
                refine RS.yes rfl rfl rfl hb_32 (OP.q rfl (v_sub rfl rfl ?_))
                refine RS.yes rfl rfl rfl hb_32 (OP.q rfl (v_move (v := .int .i64 p1) rfl ?_))
                refine RS.yes rfl rfl rfl hb_32 (OP.q rfl (v_eql rfl rfl ?_))
                refine RS.op rfl (OP.q rfl (v_pickT (v := .bool ((IntKind.i64.wrap (s5 - s6)) == p1)) rfl hb_32 rfl ?_))
                refine RS.op rfl (OP.q rfl (v_assign (v := .bool ((IntKind.i64.wrap (s5 - s6)) == p1)) rfl ?_))
                refine RS.nil ?_
                exact T.weakR (hK () trivial) (Weak.mkN [] [0, 1] (by decide) (none_kept _) rfl ⟨rn_sl encItem_p rfl, rn_int rfl, rn_sl encI_p rfl, rn_ref rfl, rn_ref rfl, rn_int rfl, rn_int rfl, rn_int rfl, rn_int rfl, rn_int rfl, rn_bool (by simp only [hb_32, Bool.true_or, Bool.or_true, Bool.false_or, Bool.or_false, Bool.true_and, Bool.and_true, Bool.false_and, Bool.and_false, Bool.not_true, Bool.not_false, if_true, if_false, Bool.false_eq_true, reduceIte]), trivial⟩ (rw_arr rfl encItem_p rfl (rw_arr rfl encItem_p rfl (rw_nil))))
              · refine T.region ?_
                refine RS.op rfl (OP.q rfl (v_move (v := .sl (List.map encI p2)) rfl ?_))
                refine RS.op rfl (OP.q rfl (v_move (v := .int .i64 s7) rfl ?_))
                refine RS.op rfl (OP.q rfl (v_index_sl Ty.s24 (fun _ => rfl) rfl rfl hx11 ?_))
                refine RS.op rfl (o_load_elt rfl (loadRow1 Ty.k3 (c := .int .i64 x11) rfl ?_))
                refine RS.op rfl (OP.q rfl (v_eql rfl rfl ?_))
                refine RS.op rfl (OP.q rfl (v_move (v := .bool (x11 == 1)) rfl ?_))
                refine RS.no rfl rfl rfl hb_32 ?_
                refine RS.no rfl rfl rfl hb_32 ?_
                refine RS.no rfl rfl rfl hb_32 ?_
                refine RS.no rfl rfl rfl hb_32 ?_
                refine RS.no rfl rfl rfl hb_32 ?_
                refine RS.op rfl (OP.q rfl (v_pickF (v := .bool false) rfl hb_32 rfl ?_))
                refine RS.op rfl (OP.q rfl (v_assign (v := .bool false) rfl ?_))
                refine RS.nil ?_
                exact T.weakR (hK () trivial) (Weak.mkN [] [0, 1] (by decide) (none_kept _) rfl ⟨rn_sl encItem_p rfl, rn_int rfl, rn_sl encI_p rfl, rn_ref rfl, rn_ref rfl, rn_int rfl, rn_int rfl, rn_int rfl, rn_int rfl, rn_int rfl, rn_bool (by simp only [hb_32, Bool.true_or, Bool.or_true, Bool.false_or, Bool.or_false, Bool.true_and, Bool.and_true, Bool.false_and, Bool.and_false, Bool.not_true, Bool.not_false, if_true, if_false, Bool.false_eq_true, reduceIte]), trivial⟩ (rw_arr rfl encItem_p rfl (rw_arr rfl encItem_p rfl (rw_nil))))
        · rcases bool_cases (x9 == 1) with hb_30 | hb_30
          · refine T.region ?_
            refine RS.op rfl (OP.q rfl (v_move (v := .sl (List.map encI p2)) rfl ?_))
            refine RS.op rfl (OP.q rfl (v_move (v := .int .i64 s7) rfl ?_))
            refine RS.op rfl (OP.q rfl (v_index_sl Ty.s24 (fun _ => rfl) rfl rfl hx9 ?_))
            refine RS.op rfl (o_load_elt rfl (loadRow1 Ty.k3 (c := .int .i64 x9) rfl ?_))
            refine RS.op rfl (OP.q rfl (v_eql rfl rfl ?_))
            refine RS.op rfl (OP.q rfl (v_move (v := .bool (x9 == 1)) rfl ?_))
            refine RS.yes rfl rfl rfl hb_30 (OP.q rfl (v_move (v := .int .i64 s5) rfl ?_))
            refine RS.yes rfl rfl rfl hb_30 (OP.q rfl (v_move (v := .sl (List.map encItem p0)) rfl ?_))
            refine RS.yes rfl rfl rfl hb_30 (OP.q rfl (v_len_sl Ty.s39 rfl ?_))
            refine RS.yes rfl rfl rfl hb_30 (OP.q rfl (v_eql rfl rfl ?_))
            refine RS.op rfl (OP.q rfl (v_pickT (v := .bool (s5 == ((p0).length : Int))) rfl hb_30 rfl ?_))
            refine RS.op rfl (OP.q rfl (v_assign (v := .bool (s5 == ((p0).length : Int))) rfl ?_))
            refine RS.nil ?_
            exact T.weakR (hK () trivial) (Weak.mkN [] [0, 1] (by decide) (none_kept _) rfl ⟨rn_sl encItem_p rfl, rn_int rfl, rn_sl encI_p rfl, rn_ref rfl, rn_ref rfl, rn_int rfl, rn_int rfl, rn_int rfl, rn_int rfl, rn_int rfl, rn_bool (by simp only [hb_30, Bool.true_or, Bool.or_true, Bool.false_or, Bool.or_false, Bool.true_and, Bool.and_true, Bool.false_and, Bool.and_false, Bool.not_true, Bool.not_false, if_true, if_false, Bool.false_eq_true, reduceIte]), trivial⟩ (rw_arr rfl encItem_p rfl (rw_arr rfl encItem_p rfl (rw_nil))))
          · refine T.region ?_
            refine RS.op rfl (OP.q rfl (v_move (v := .sl (List.map encI p2)) rfl ?_))
            refine RS.op rfl (OP.q rfl (v_move (v := .int .i64 s7) rfl ?_))
            refine RS.op rfl (OP.q rfl (v_index_sl Ty.s24 (fun _ => rfl) rfl rfl hx9 ?_))
            refine RS.op rfl (o_load_elt rfl (loadRow1 Ty.k3 (c := .int .i64 x9) rfl ?_))
            refine RS.op rfl (OP.q rfl (v_eql rfl rfl ?_))
            refine RS.op rfl (OP.q rfl (v_move (v := .bool (x9 == 1)) rfl ?_))
            refine RS.no rfl rfl rfl hb_30 ?_
            refine RS.no rfl rfl rfl hb_30 ?_
            refine RS.no rfl rfl rfl hb_30 ?_
            refine RS.no rfl rfl rfl hb_30 ?_
            refine RS.op rfl (OP.q rfl (v_pickF (v := .bool false) rfl hb_30 rfl ?_))
            refine RS.op rfl (OP.q rfl (v_assign (v := .bool false) rfl ?_))
            refine RS.nil ?_
            exact T.weakR (hK () trivial) (Weak.mkN [] [0, 1] (by decide) (none_kept _) rfl ⟨rn_sl encItem_p rfl, rn_int rfl, rn_sl encI_p rfl, rn_ref rfl, rn_ref rfl, rn_int rfl, rn_int rfl, rn_int rfl, rn_int rfl, rn_int rfl, rn_bool (by simp only [hb_30, Bool.true_or, Bool.or_true, Bool.false_or, Bool.or_false, Bool.true_and, Bool.and_true, Bool.false_and, Bool.and_false, Bool.not_true, Bool.not_false, if_true, if_false, Bool.false_eq_true, reduceIte]), trivial⟩ (rw_arr rfl encItem_p rfl (rw_arr rfl encItem_p rfl (rw_nil))))
      · replace h := ite_F h hb_29
        refine T.exit ?_
        obtain ⟨w_38, h, hw_38⟩ := map_inr h
        replace h := h.trans (congrArg some (hv_27 _ hw_38))
        refine T.seq ?_
        obtain ⟨x19, hx19, h⟩ := bind_some h
        refine T.join (Z := Unit) (fun _ => mkA 137 [(0, .sl (List.map encItem p0)), (7, .ref 0), (8, .ref 1), (9, .int .i64 x2.2.2), (10, .int .i64 s4), (11, .int .i64 s5), (12, .int .i64 s6), (103, .bool ((!x19) || s4 != 0))]) (fun _ => [.arr 41 3 (List.map encItem x2.1), .arr 41 3 (List.map encItem x2.2.1)]) (fun _ => True) (fun _ _ => ?_) (fun hK => ?_)
        · show T _ _ _ _ (mkA 137 [(0, .sl (List.map encItem p0)), (7, .ref 0), (8, .ref 1), (9, .int .i64 x2.2.2), (10, .int .i64 s4), (11, .int .i64 s5), (12, .int .i64 s6), (103, .bool ((!x19) || s4 != 0))]) [.arr 41 3 (List.map encItem x2.1), .arr 41 3 (List.map encItem x2.2.1)]
          refine T.cond (b := ((!x19) || s4 != 0)) rfl (fun hb_40 => ?_) (fun hb_40 => ?_)
          · replace h := ite_T h hb_40
            obtain ⟨x21, hx21, h⟩ := bind_some h
            refine T.join (Z := Unit) (fun _ => mkA 137 [(6, .bool (x21 && ((x2.2.2 == s4) && ((((x2.1).length : Int) == 0) && ((x2.2.1).length : Int) == 0))))]) (fun _ => []) (fun _ => True) (fun _ _ => ?_) (fun hK => ?_)
            · show T _ _ _ _ (mkA 137 [(6, .bool (x21 && ((x2.2.2 == s4) && ((((x2.1).length : Int) == 0) && ((x2.2.1).length : Int) == 0))))]) []
              refine T.ret' (R := ?R44) ?hq44 ?_
              case hq44 => repeat (first | exact RetIs.base | refine RetIs.thn ?_ | refine RetIs.blk ?_ | refine RetIs.lq ?_)
              refine res_tmpA (v := .bool (x21 && ((x2.2.2 == s4) && ((((x2.1).length : Int) == 0) && ((x2.2.1).length : Int) == 0)))) rfl ?_
              refine res_done ?_
              exact ret_data (v := .bool (x21 && ((x2.2.2 == s4) && ((((x2.1).length : Int) == 0) && ((x2.2.1).length : Int) == 0)))) rfl (pure_bool _) ⟨congrArg (fun r : Bool => (.bool r : AV)) (Option.some.inj h), rfl⟩
            · rcases bool_cases x21 with hb_41 | hb_41
              · rcases bool_cases (x2.2.2 == s4) with hb_42 | hb_42
                · rcases bool_cases (((x2.1).length : Int) == 0) with hb_43 | hb_43
                  · refine T.region ?_
                    refine RS.op rfl (o_call (as0 := []) (as1 := []) (caps := []) (aw1 := [.arr 41 3 (List.map encItem x2.1), .arr 41 3 (List.map encItem x2.2.1)]) rfl rfl rfl (k_flat (v := .bool x21) (crosslaw_ringed_c x21 hx21) (trivial) rfl ?_))
                    refine RS.op rfl (OP.q rfl (v_move (v := .bool x21) rfl ?_))
                    refine RS.yes rfl rfl rfl hb_41 (OP.q rfl (v_move (v := .int .i64 x2.2.2) rfl ?_))
                    refine RS.yes rfl rfl rfl hb_41 (OP.q rfl (v_move (v := .int .i64 s4) rfl ?_))
                    refine RS.yes rfl rfl rfl hb_41 (OP.q rfl (v_eql rfl rfl ?_))
                    refine RS.op rfl (OP.q rfl (v_pickT (v := .bool (x2.2.2 == s4)) rfl hb_41 rfl ?_))
                    refine RS.op rfl (OP.q rfl (v_move (v := .bool (x2.2.2 == s4)) rfl ?_))
                    refine RS.yes rfl rfl rfl hb_42 (OP.q rfl (v_move (v := .ref 0) rfl ?_))
                    refine RS.yes rfl rfl rfl hb_42 (OP.q rfl (v_len_ref (en := encItem) Ty.s39 rfl rfl ?_))
                    refine RS.yes rfl rfl rfl hb_42 (OP.q rfl (v_eql rfl rfl ?_))
                    refine RS.op rfl (OP.q rfl (v_pickT (v := .bool (((x2.1).length : Int) == 0)) rfl hb_42 rfl ?_))
                    refine RS.op rfl (OP.q rfl (v_move (v := .bool (((x2.1).length : Int) == 0)) rfl ?_))
                    refine RS.yes rfl rfl rfl hb_43 (OP.q rfl (v_move (v := .ref 1) rfl ?_))
                    refine RS.yes rfl rfl rfl hb_43 (OP.q rfl (v_len_ref (en := encItem) Ty.s39 rfl rfl ?_))
                    refine RS.yes rfl rfl rfl hb_43 (OP.q rfl (v_eql rfl rfl ?_))
                    refine RS.op rfl (OP.q rfl (v_pickT (v := .bool (((x2.2.1).length : Int) == 0)) rfl hb_43 rfl ?_))
                    refine RS.op rfl (OP.q rfl (v_assign (v := .bool (((x2.2.1).length : Int) == 0)) rfl ?_))
                    refine RS.nil ?_
                    exact T.weakR (hK () trivial) (Weak.mkN [] [] (by decide) (none_kept _) rfl ⟨rn_bool (by simp only [hb_41, hb_42, hb_43, Bool.true_or, Bool.or_true, Bool.false_or, Bool.or_false, Bool.true_and, Bool.and_true, Bool.false_and, Bool.and_false, Bool.not_true, Bool.not_false, if_true, if_false, Bool.false_eq_true, reduceIte]), trivial⟩ (rw_nil))
                  · refine T.region ?_
                    refine RS.op rfl (o_call (as0 := []) (as1 := []) (caps := []) (aw1 := [.arr 41 3 (List.map encItem x2.1), .arr 41 3 (List.map encItem x2.2.1)]) rfl rfl rfl (k_flat (v := .bool x21) (crosslaw_ringed_c x21 hx21) (trivial) rfl ?_))
                    refine RS.op rfl (OP.q rfl (v_move (v := .bool x21) rfl ?_))
                    refine RS.yes rfl rfl rfl hb_41 (OP.q rfl (v_move (v := .int .i64 x2.2.2) rfl ?_))
                    refine RS.yes rfl rfl rfl hb_41 (OP.q rfl (v_move (v := .int .i64 s4) rfl ?_))
                    refine RS.yes rfl rfl rfl hb_41 (OP.q rfl (v_eql rfl rfl ?_))
                    refine RS.op rfl (OP.q rfl (v_pickT (v := .bool (x2.2.2 == s4)) rfl hb_41 rfl ?_))
                    refine RS.op rfl (OP.q rfl (v_move (v := .bool (x2.2.2 == s4)) rfl ?_))
                    refine RS.yes rfl rfl rfl hb_42 (OP.q rfl (v_move (v := .ref 0) rfl ?_))
                    refine RS.yes rfl rfl rfl hb_42 (OP.q rfl (v_len_ref (en := encItem) Ty.s39 rfl rfl ?_))
                    refine RS.yes rfl rfl rfl hb_42 (OP.q rfl (v_eql rfl rfl ?_))
                    refine RS.op rfl (OP.q rfl (v_pickT (v := .bool (((x2.1).length : Int) == 0)) rfl hb_42 rfl ?_))
                    refine RS.op rfl (OP.q rfl (v_move (v := .bool (((x2.1).length : Int) == 0)) rfl ?_))
                    refine RS.no rfl rfl rfl hb_43 ?_
                    refine RS.no rfl rfl rfl hb_43 ?_
                    refine RS.no rfl rfl rfl hb_43 ?_
                    refine RS.op rfl (OP.q rfl (v_pickF (v := .bool false) rfl hb_43 rfl ?_))
                    refine RS.op rfl (OP.q rfl (v_assign (v := .bool false) rfl ?_))
                    refine RS.nil ?_
                    exact T.weakR (hK () trivial) (Weak.mkN [] [] (by decide) (none_kept _) rfl ⟨rn_bool (by simp only [hb_41, hb_42, hb_43, Bool.true_or, Bool.or_true, Bool.false_or, Bool.or_false, Bool.true_and, Bool.and_true, Bool.false_and, Bool.and_false, Bool.not_true, Bool.not_false, if_true, if_false, Bool.false_eq_true, reduceIte]), trivial⟩ (rw_nil))
                · refine T.region ?_
                  refine RS.op rfl (o_call (as0 := []) (as1 := []) (caps := []) (aw1 := [.arr 41 3 (List.map encItem x2.1), .arr 41 3 (List.map encItem x2.2.1)]) rfl rfl rfl (k_flat (v := .bool x21) (crosslaw_ringed_c x21 hx21) (trivial) rfl ?_))
                  refine RS.op rfl (OP.q rfl (v_move (v := .bool x21) rfl ?_))
                  refine RS.yes rfl rfl rfl hb_41 (OP.q rfl (v_move (v := .int .i64 x2.2.2) rfl ?_))
                  refine RS.yes rfl rfl rfl hb_41 (OP.q rfl (v_move (v := .int .i64 s4) rfl ?_))
                  refine RS.yes rfl rfl rfl hb_41 (OP.q rfl (v_eql rfl rfl ?_))
                  refine RS.op rfl (OP.q rfl (v_pickT (v := .bool (x2.2.2 == s4)) rfl hb_41 rfl ?_))
                  refine RS.op rfl (OP.q rfl (v_move (v := .bool (x2.2.2 == s4)) rfl ?_))
                  refine RS.no rfl rfl rfl hb_42 ?_
                  refine RS.no rfl rfl rfl hb_42 ?_
                  refine RS.no rfl rfl rfl hb_42 ?_
                  refine RS.op rfl (OP.q rfl (v_pickF (v := .bool false) rfl hb_42 rfl ?_))
                  refine RS.op rfl (OP.q rfl (v_move (v := .bool false) rfl ?_))
                  refine RS.no rfl rfl rfl rfl ?_
                  refine RS.no rfl rfl rfl rfl ?_
                  refine RS.no rfl rfl rfl rfl ?_
                  refine RS.op rfl (OP.q rfl (v_pickF (v := .bool false) rfl rfl rfl ?_))
                  refine RS.op rfl (OP.q rfl (v_assign (v := .bool false) rfl ?_))
                  refine RS.nil ?_
                  exact T.weakR (hK () trivial) (Weak.mkN [] [] (by decide) (none_kept _) rfl ⟨rn_bool (by simp only [hb_41, hb_42, Bool.true_or, Bool.or_true, Bool.false_or, Bool.or_false, Bool.true_and, Bool.and_true, Bool.false_and, Bool.and_false, Bool.not_true, Bool.not_false, if_true, if_false, Bool.false_eq_true, reduceIte]), trivial⟩ (rw_nil))
              · refine T.region ?_
                refine RS.op rfl (o_call (as0 := []) (as1 := []) (caps := []) (aw1 := [.arr 41 3 (List.map encItem x2.1), .arr 41 3 (List.map encItem x2.2.1)]) rfl rfl rfl (k_flat (v := .bool x21) (crosslaw_ringed_c x21 hx21) (trivial) rfl ?_))
                refine RS.op rfl (OP.q rfl (v_move (v := .bool x21) rfl ?_))
                refine RS.no rfl rfl rfl hb_41 ?_
                refine RS.no rfl rfl rfl hb_41 ?_
                refine RS.no rfl rfl rfl hb_41 ?_
                refine RS.op rfl (OP.q rfl (v_pickF (v := .bool false) rfl hb_41 rfl ?_))
                refine RS.op rfl (OP.q rfl (v_move (v := .bool false) rfl ?_))
                refine RS.no rfl rfl rfl rfl ?_
                refine RS.no rfl rfl rfl rfl ?_
                refine RS.no rfl rfl rfl rfl ?_
                refine RS.op rfl (OP.q rfl (v_pickF (v := .bool false) rfl rfl rfl ?_))
                refine RS.op rfl (OP.q rfl (v_move (v := .bool false) rfl ?_))
                refine RS.no rfl rfl rfl rfl ?_
                refine RS.no rfl rfl rfl rfl ?_
                refine RS.no rfl rfl rfl rfl ?_
                refine RS.op rfl (OP.q rfl (v_pickF (v := .bool false) rfl rfl rfl ?_))
                refine RS.op rfl (OP.q rfl (v_assign (v := .bool false) rfl ?_))
                refine RS.nil ?_
                exact T.weakR (hK () trivial) (Weak.mkN [] [] (by decide) (none_kept _) rfl ⟨rn_bool (by simp only [hb_41, Bool.true_or, Bool.or_true, Bool.false_or, Bool.or_false, Bool.true_and, Bool.and_true, Bool.false_and, Bool.and_false, Bool.not_true, Bool.not_false, if_true, if_false, Bool.false_eq_true, reduceIte]), trivial⟩ (rw_nil))
          · replace h := ite_F h hb_40
            refine T.skip ?_
            obtain ⟨zt_47, hz, h⟩ := bind_some h
            revert hz h; revert zt_47; intro c27 hz h
            refine T.join (Z := Unit) (fun _ => mkA 137 [(6, .bool c27)]) (fun _ => []) (fun _ => True) (fun _ _ => ?_) (fun hK => ?_)
            · show T _ _ _ _ (mkA 137 [(6, .bool c27)]) []
              refine T.ret' (R := ?R48) ?hq48 ?_
              case hq48 => repeat (first | exact RetIs.base | refine RetIs.thn ?_ | refine RetIs.blk ?_ | refine RetIs.lq ?_)
              refine res_tmpA (v := .bool c27) rfl ?_
              refine res_done ?_
              exact ret_data (v := .bool c27) rfl (pure_bool _) ⟨congrArg (fun r : Bool => (.bool r : AV)) (Option.some.inj h), rfl⟩
            · rcases bool_cases (x2.2.2 == 0) with hb_45 | hb_45
              · replace hz := ite_T hz hb_45
                obtain ⟨x23, hx23, hz⟩ := bind_some hz
                obtain ⟨x24, hx24, hz⟩ := bind_some hz
                rcases bool_cases x24 with hb_46 | hb_46
                · replace hz := ite_T hz hb_46
                  obtain ⟨x25, hx25, hz⟩ := bind_some hz
                  obtain ⟨x26, hx26, hz⟩ := bind_some hz
                  refine T.region ?_
                  refine RS.op rfl (OP.q rfl (v_move (v := .int .i64 x2.2.2) rfl ?_))
                  refine RS.op rfl (OP.q rfl (v_eql rfl rfl ?_))
                  refine RS.op rfl (OP.q rfl (v_move (v := .bool (x2.2.2 == 0)) rfl ?_))
                  refine RS.yes rfl rfl rfl hb_45 (OP.q rfl (v_move (v := .ref 0) rfl ?_))
                  refine RS.yes rfl rfl rfl hb_45 (OP.q rfl (v_move (v := .sl (List.map encItem p0)) rfl ?_))
                  refine RS.yes rfl rfl rfl hb_45 (OP.q rfl (v_move (v := .int .i64 s6) rfl ?_))
                  refine RS.yes rfl rfl rfl hb_45 (o_slice_sl Ty.s39 (fun _ => rfl) rfl rfl rfl hx23 ?_)
                  refine RS.yes rfl rfl rfl hb_45 (o_call (as0 := [.ref 0, .sl (List.map encItem x23)]) (as1 := [.sl (List.map encItem x2.1), .sl (List.map encItem x23)]) (caps := []) (aw1 := [.dead, .arr 41 3 (List.map encItem x2.2.1)]) rfl rfl rfl (k_flat (v := .bool x24) (slices_Equal_Item_c x2.1 x23 x24 hx24) (⟨pure_map encItem_p _, pure_map encItem_p _, trivial⟩) rfl ?_))
                  refine RS.op rfl (OP.q rfl (v_pickT (v := .bool x24) rfl hb_45 rfl ?_))
                  refine RS.op rfl (OP.q rfl (v_move (v := .bool x24) rfl ?_))
                  refine RS.yes rfl rfl rfl hb_46 (OP.q rfl (v_move (v := .ref 1) rfl ?_))
                  refine RS.yes rfl rfl rfl hb_46 (OP.q rfl (v_move (v := .sl (List.map encItem p0)) rfl ?_))
                  refine RS.yes rfl rfl rfl hb_46 (OP.q rfl (v_move (v := .int .i64 s6) rfl ?_))
                  refine RS.yes rfl rfl rfl hb_46 (OP.q rfl (v_move (v := .int .i64 s5) rfl ?_))
                  refine RS.yes rfl rfl rfl hb_46 (o_slice_sl Ty.s39 (fun _ => rfl) rfl rfl rfl hx25 ?_)
                  refine RS.yes rfl rfl rfl hb_46 (o_call (as0 := [.ref 1, .sl (List.map encItem x25)]) (as1 := [.sl (List.map encItem x2.2.1), .sl (List.map encItem x25)]) (caps := []) (aw1 := [.arr 41 3 (List.map encItem x2.1), .dead]) rfl rfl rfl (k_flat (v := .bool x26) (slices_Equal_Item_c x2.2.1 x25 x26 hx26) (⟨pure_map encItem_p _, pure_map encItem_p _, trivial⟩) rfl ?_))
                  refine RS.op rfl (OP.q rfl (v_pickT (v := .bool x26) rfl hb_46 rfl ?_))
                  refine RS.op rfl (OP.q rfl (v_assign (v := .bool x26) rfl ?_))
                  refine RS.nil ?_
                  exact T.weakR (hK () trivial) (Weak.mkN [] [] (by decide) (none_kept _) rfl ⟨rn_bool ((congrArg (fun p => p) (Option.some.inj hz)).symm), trivial⟩ (rw_nil))
                · replace hz := ite_F hz hb_46
                  refine T.region ?_
                  refine RS.op rfl (OP.q rfl (v_move (v := .int .i64 x2.2.2) rfl ?_))
                  refine RS.op rfl (OP.q rfl (v_eql rfl rfl ?_))
                  refine RS.op rfl (OP.q rfl (v_move (v := .bool (x2.2.2 == 0)) rfl ?_))
                  refine RS.yes rfl rfl rfl hb_45 (OP.q rfl (v_move (v := .ref 0) rfl ?_))
                  refine RS.yes rfl rfl rfl hb_45 (OP.q rfl (v_move (v := .sl (List.map encItem p0)) rfl ?_))
                  refine RS.yes rfl rfl rfl hb_45 (OP.q rfl (v_move (v := .int .i64 s6) rfl ?_))
                  refine RS.yes rfl rfl rfl hb_45 (o_slice_sl Ty.s39 (fun _ => rfl) rfl rfl rfl hx23 ?_)
                  refine RS.yes rfl rfl rfl hb_45 (o_call (as0 := [.ref 0, .sl (List.map encItem x23)]) (as1 := [.sl (List.map encItem x2.1), .sl (List.map encItem x23)]) (caps := []) (aw1 := [.dead, .arr 41 3 (List.map encItem x2.2.1)]) rfl rfl rfl (k_flat (v := .bool x24) (slices_Equal_Item_c x2.1 x23 x24 hx24) (⟨pure_map encItem_p _, pure_map encItem_p _, trivial⟩) rfl ?_))
                  refine RS.op rfl (OP.q rfl (v_pickT (v := .bool x24) rfl hb_45 rfl ?_))
                  refine RS.op rfl (OP.q rfl (v_move (v := .bool x24) rfl ?_))
                  refine RS.no rfl rfl rfl hb_46 ?_
                  refine RS.no rfl rfl rfl hb_46 ?_
                  refine RS.no rfl rfl rfl hb_46 ?_
                  refine RS.no rfl rfl rfl hb_46 ?_
                  refine RS.no rfl rfl rfl hb_46 ?_
                  refine RS.no rfl rfl rfl hb_46 ?_
                  refine RS.op rfl (OP.q rfl (v_pickF (v := .bool false) rfl hb_46 rfl ?_))
                  refine RS.op rfl (OP.q rfl (v_assign (v := .bool false) rfl ?_))
                  refine RS.nil ?_
                  exact T.weakR (hK () trivial) (Weak.mkN [] [] (by decide) (none_kept _) rfl ⟨rn_bool ((congrArg (fun p => p) (Option.some.inj hz)).symm), trivial⟩ (rw_nil))
              · replace hz := ite_F hz hb_45
                refine T.region ?_
                refine RS.op rfl (OP.q rfl (v_move (v := .int .i64 x2.2.2) rfl ?_))
                refine RS.op rfl (OP.q rfl (v_eql rfl rfl ?_))
                refine RS.op rfl (OP.q rfl (v_move (v := .bool (x2.2.2 == 0)) rfl ?_))
                refine RS.no rfl rfl rfl hb_45 ?_
                refine RS.no rfl rfl rfl hb_45 ?_
                refine RS.no rfl rfl rfl hb_45 ?_
                refine RS.no rfl rfl rfl hb_45 ?_
                refine RS.no rfl rfl rfl hb_45 ?_
                refine RS.op rfl (OP.q rfl (v_pickF (v := .bool false) rfl hb_45 rfl ?_))
                refine RS.op rfl (OP.q rfl (v_move (v := .bool false) rfl ?_))
                refine RS.no rfl rfl rfl rfl ?_
                refine RS.no rfl rfl rfl rfl ?_
                refine RS.no rfl rfl rfl rfl ?_
                refine RS.no rfl rfl rfl rfl ?_
                refine RS.no rfl rfl rfl rfl ?_
                refine RS.no rfl rfl rfl rfl ?_
                refine RS.op rfl (OP.q rfl (v_pickF (v := .bool false) rfl rfl rfl ?_))
                refine RS.op rfl (OP.q rfl (v_assign (v := .bool false) rfl ?_))
                refine RS.nil ?_
                exact T.weakR (hK () trivial) (Weak.mkN [] [] (by decide) (none_kept _) rfl ⟨rn_bool ((congrArg (fun p => p) (Option.some.inj hz)).symm), trivial⟩ (rw_nil))
        · rcases bool_cases (!x19) with hb_39 | hb_39
          · refine T.region ?_
            refine RS.op rfl (o_call (as0 := []) (as1 := []) (caps := []) (aw1 := [.arr 41 3 (List.map encItem x2.1), .arr 41 3 (List.map encItem x2.2.1)]) rfl rfl rfl (k_flat (v := .bool x19) (crosslaw_ringed_c x19 hx19) (trivial) rfl ?_))
            refine RS.op rfl (OP.q rfl (v_not rfl ?_))
            refine RS.op rfl (OP.q rfl (v_move (v := .bool (!x19)) rfl ?_))
            refine RS.no rfl rfl rfl hb_39 ?_
            refine RS.no rfl rfl rfl hb_39 ?_
            refine RS.op rfl (OP.q rfl (v_pickT (v := .bool true) rfl hb_39 rfl ?_))
            refine RS.nil ?_
            exact T.weakR (hK () trivial) (Weak.mkN [] [0, 1] (by decide) (none_kept _) rfl ⟨rn_sl encItem_p rfl, rn_ref rfl, rn_ref rfl, rn_int rfl, rn_int rfl, rn_int rfl, rn_int rfl, rn_bool (by simp only [hb_39, Bool.true_or, Bool.or_true, Bool.false_or, Bool.or_false, Bool.true_and, Bool.and_true, Bool.false_and, Bool.and_false, Bool.not_true, Bool.not_false, if_true, if_false, Bool.false_eq_true, reduceIte]), trivial⟩ (rw_arr rfl encItem_p rfl (rw_arr rfl encItem_p rfl (rw_nil))))
          · refine T.region ?_
            refine RS.op rfl (o_call (as0 := []) (as1 := []) (caps := []) (aw1 := [.arr 41 3 (List.map encItem x2.1), .arr 41 3 (List.map encItem x2.2.1)]) rfl rfl rfl (k_flat (v := .bool x19) (crosslaw_ringed_c x19 hx19) (trivial) rfl ?_))
            refine RS.op rfl (OP.q rfl (v_not rfl ?_))
            refine RS.op rfl (OP.q rfl (v_move (v := .bool (!x19)) rfl ?_))
            refine RS.yes rfl rfl rfl hb_39 (OP.q rfl (v_move (v := .int .i64 s4) rfl ?_))
            refine RS.yes rfl rfl rfl hb_39 (OP.q rfl (v_neq rfl rfl ?_))
            refine RS.op rfl (OP.q rfl (v_pickF (v := .bool (s4 != 0)) rfl hb_39 rfl ?_))
            refine RS.nil ?_
            exact T.weakR (hK () trivial) (Weak.mkN [] [0, 1] (by decide) (none_kept _) rfl ⟨rn_sl encItem_p rfl, rn_ref rfl, rn_ref rfl, rn_int rfl, rn_int rfl, rn_int rfl, rn_int rfl, rn_bool (by simp only [hb_39, Bool.true_or, Bool.or_true, Bool.false_or, Bool.or_false, Bool.true_and, Bool.and_true, Bool.false_and, Bool.and_false, Bool.not_true, Bool.not_false, if_true, if_false, Bool.false_eq_true, reduceIte]), trivial⟩ (rw_arr rfl encItem_p rfl (rw_arr rfl encItem_p rfl (rw_nil))))
    · rcases bool_cases (s4 == 0) with hb_28 | hb_28
      · refine T.region ?_
        refine RS.op rfl (OP.q rfl (v_move (v := .int .i64 s4) rfl ?_))
        refine RS.op rfl (OP.q rfl (v_eql rfl rfl ?_))
        refine RS.op rfl (OP.q rfl (v_move (v := .bool (s4 == 0)) rfl ?_))
        refine RS.yes rfl rfl rfl hb_28 (OP.q rfl (v_move (v := .int .i64 s7) rfl ?_))
        refine RS.yes rfl rfl rfl hb_28 (OP.q rfl (v_move (v := .sl (List.map encI p2)) rfl ?_))
        refine RS.yes rfl rfl rfl hb_28 (OP.q rfl (v_len_sl Ty.s24 rfl ?_))
        refine RS.yes rfl rfl rfl hb_28 (OP.q rfl (v_lss rfl rfl ?_))
        refine RS.op rfl (OP.q rfl (v_pickT (v := .bool (decide (s7 < ((p2).length : Int)))) rfl hb_28 rfl ?_))
        refine RS.nil ?_
        exact T.weakR (hK () trivial) (Weak.mkN [] [0, 1] (by decide) (none_kept _) rfl ⟨rn_sl encItem_p rfl, rn_int rfl, rn_sl encI_p rfl, rn_ref rfl, rn_ref rfl, rn_int rfl, rn_int rfl, rn_int rfl, rn_int rfl, rn_int rfl, rn_bool (by simp only [hb_28, Bool.true_or, Bool.or_true, Bool.false_or, Bool.or_false, Bool.true_and, Bool.and_true, Bool.false_and, Bool.and_false, Bool.not_true, Bool.not_false, if_true, if_false, Bool.false_eq_true, reduceIte]), trivial⟩ (rw_arr rfl encItem_p rfl (rw_arr rfl encItem_p rfl (rw_nil))))
      · refine T.region ?_
        refine RS.op rfl (OP.q rfl (v_move (v := .int .i64 s4) rfl ?_))
        refine RS.op rfl (OP.q rfl (v_eql rfl rfl ?_))
        refine RS.op rfl (OP.q rfl (v_move (v := .bool (s4 == 0)) rfl ?_))
        refine RS.no rfl rfl rfl hb_28 ?_
        refine RS.no rfl rfl rfl hb_28 ?_
        refine RS.no rfl rfl rfl hb_28 ?_
        refine RS.no rfl rfl rfl hb_28 ?_
        refine RS.op rfl (OP.q rfl (v_pickF (v := .bool false) rfl hb_28 rfl ?_))
        refine RS.nil ?_
        exact T.weakR (hK () trivial) (Weak.mkN [] [0, 1] (by decide) (none_kept _) rfl ⟨rn_sl encItem_p rfl, rn_int rfl, rn_sl encI_p rfl, rn_ref rfl, rn_ref rfl, rn_int rfl, rn_int rfl, rn_int rfl, rn_int rfl, rn_int rfl, rn_bool (by simp only [hb_28, Bool.true_or, Bool.or_true, Bool.false_or, Bool.or_false, Bool.true_and, Bool.and_true, Bool.false_and, Bool.and_false, Bool.not_true, Bool.not_false, if_true, if_false, Bool.false_eq_true, reduceIte]), trivial⟩ (rw_arr rfl encItem_p rfl (rw_arr rfl encItem_p rfl (rw_nil))))
  · refine T.join (Z := Unit) (fun _ => mkA 137 [(0, .sl (List.map encItem p0)), (1, .int .i64 p1), (2, .sl (List.map encI p2)), (7, .ref 0), (8, .ref 1), (9, .int .i64 x2.2.2), (10, .int .i64 0), (27, .bool ((decide (p1 < 1)) || decide (p1 > 6)))]) (fun _ => [.arr 41 3 (List.map encItem x2.1), .arr 41 3 (List.map encItem x2.2.1)]) (fun _ => True) (fun _ _ => ?_) (fun hK => ?_)
    · show T _ _ _ _ (mkA 137 [(0, .sl (List.map encItem p0)), (1, .int .i64 p1), (2, .sl (List.map encI p2)), (7, .ref 0), (8, .ref 1), (9, .int .i64 x2.2.2), (10, .int .i64 0), (27, .bool ((decide (p1 < 1)) || decide (p1 > 6)))]) [.arr 41 3 (List.map encItem x2.1), .arr 41 3 (List.map encItem x2.2.1)]
      refine T.cond (b := ((decide (p1 < 1)) || decide (p1 > 6))) rfl (fun hb_50 => ?_) (fun hb_50 => ?_)
      · replace h := ite_T h hb_50
        refine T.region ?_
        refine RS.op rfl (OP.q rfl (v_assign (v := .int .i64 3) rfl ?_))
        refine RS.nil ?_
        exact T.weakR (hK2 3 h) (Weak.mkN [] [0, 1] (by decide) (none_kept _) rfl ⟨rn_sl encItem_p rfl, rn_int rfl, rn_sl encI_p rfl, rn_ref rfl, rn_ref rfl, rn_int rfl, rn_int rfl, trivial⟩ (rw_arr rfl encItem_p rfl (rw_arr rfl encItem_p rfl (rw_nil))))
      · replace h := ite_F h hb_50
        refine T.join (Z := Unit) (fun _ => mkA 137 [(0, .sl (List.map encItem p0)), (1, .int .i64 p1), (2, .sl (List.map encI p2)), (7, .ref 0), (8, .ref 1), (9, .int .i64 x2.2.2), (10, .int .i64 0), (35, .bool ((decide (((p0).length : Int) > 20)) || decide (((p2).length : Int) > 2000)))]) (fun _ => [.arr 41 3 (List.map encItem x2.1), .arr 41 3 (List.map encItem x2.2.1)]) (fun _ => True) (fun _ _ => ?_) (fun hK => ?_)
        · show T _ _ _ _ (mkA 137 [(0, .sl (List.map encItem p0)), (1, .int .i64 p1), (2, .sl (List.map encI p2)), (7, .ref 0), (8, .ref 1), (9, .int .i64 x2.2.2), (10, .int .i64 0), (35, .bool ((decide (((p0).length : Int) > 20)) || decide (((p2).length : Int) > 2000)))]) [.arr 41 3 (List.map encItem x2.1), .arr 41 3 (List.map encItem x2.2.1)]
          refine T.cond (b := ((decide (((p0).length : Int) > 20)) || decide (((p2).length : Int) > 2000))) rfl (fun hb_52 => ?_) (fun hb_52 => ?_)
          · replace h := ite_T h hb_52
            refine T.region ?_
            refine RS.op rfl (OP.q rfl (v_assign (v := .int .i64 2) rfl ?_))
            refine RS.nil ?_
            exact T.weakR (hK2 2 h) (Weak.mkN [] [0, 1] (by decide) (none_kept _) rfl ⟨rn_sl encItem_p rfl, rn_int rfl, rn_sl encI_p rfl, rn_ref rfl, rn_ref rfl, rn_int rfl, rn_int rfl, trivial⟩ (rw_arr rfl encItem_p rfl (rw_arr rfl encItem_p rfl (rw_nil))))
          · replace h := ite_F h hb_52
            refine T.skip ?_
            exact T.weakR (hK2 0 h) (Weak.mkN [] [0, 1] (by decide) (none_kept _) rfl ⟨rn_sl encItem_p rfl, rn_int rfl, rn_sl encI_p rfl, rn_ref rfl, rn_ref rfl, rn_int rfl, rn_int rfl, trivial⟩ (rw_arr rfl encItem_p rfl (rw_arr rfl encItem_p rfl (rw_nil))))
        · rcases bool_cases (decide (((p0).length : Int) > 20)) with hb_51 | hb_51
          · refine T.region ?_
            refine RS.op rfl (OP.q rfl (v_move (v := .sl (List.map encItem p0)) rfl ?_))
            refine RS.op rfl (OP.q rfl (v_len_sl Ty.s39 rfl ?_))
            refine RS.op rfl (OP.q rfl (v_gtr rfl rfl ?_))
            refine RS.op rfl (OP.q rfl (v_move (v := .bool (decide (((p0).length : Int) > 20))) rfl ?_))
            refine RS.no rfl rfl rfl hb_51 ?_
            refine RS.no rfl rfl rfl hb_51 ?_
            refine RS.no rfl rfl rfl hb_51 ?_
            refine RS.op rfl (OP.q rfl (v_pickT (v := .bool true) rfl hb_51 rfl ?_))
            refine RS.nil ?_
            exact T.weakR (hK () trivial) (Weak.mkN [] [0, 1] (by decide) (none_kept _) rfl ⟨rn_sl encItem_p rfl, rn_int rfl, rn_sl encI_p rfl, rn_ref rfl, rn_ref rfl, rn_int rfl, rn_int rfl, rn_bool (by simp only [hb_51, Bool.true_or, Bool.or_true, Bool.false_or, Bool.or_false, Bool.true_and, Bool.and_true, Bool.false_and, Bool.and_false, Bool.not_true, Bool.not_false, if_true, if_false, Bool.false_eq_true, reduceIte]), trivial⟩ (rw_arr rfl encItem_p rfl (rw_arr rfl encItem_p rfl (rw_nil))))
          · refine T.region ?_
            refine RS.op rfl (OP.q rfl (v_move (v := .sl (List.map encItem p0)) rfl ?_))
            refine RS.op rfl (OP.q rfl (v_len_sl Ty.s39 rfl ?_))
            refine RS.op rfl (OP.q rfl (v_gtr rfl rfl ?_))
            refine RS.op rfl (OP.q rfl (v_move (v := .bool (decide (((p0).length : Int) > 20))) rfl ?_))
            refine RS.yes rfl rfl rfl hb_51 (OP.q rfl (v_move (v := .sl (List.map encI p2)) rfl ?_))
            refine RS.yes rfl rfl rfl hb_51 (OP.q rfl (v_len_sl Ty.s24 rfl ?_))
            refine RS.yes rfl rfl rfl hb_51 (OP.q rfl (v_gtr rfl rfl ?_))
            refine RS.op rfl (OP.q rfl (v_pickF (v := .bool (decide (((p2).length : Int) > 2000))) rfl hb_51 rfl ?_))
            refine RS.nil ?_
            exact T.weakR (hK () trivial) (Weak.mkN [] [0, 1] (by decide) (none_kept _) rfl ⟨rn_sl encItem_p rfl, rn_int rfl, rn_sl encI_p rfl, rn_ref rfl, rn_ref rfl, rn_int rfl, rn_int rfl, rn_bool (by simp only [hb_51, Bool.true_or, Bool.or_true, Bool.false_or, Bool.or_false, Bool.true_and, Bool.and_true, Bool.false_and, Bool.and_false, Bool.not_true, Bool.not_false, if_true, if_false, Bool.false_eq_true, reduceIte]), trivial⟩ (rw_arr rfl encItem_p rfl (rw_arr rfl encItem_p rfl (rw_nil))))
    · rcases bool_cases (decide (p1 < 1)) with hb_49 | hb_49
      · refine T.region ?_
        refine RS.op rfl (OP.q rfl (v_move (v := .int .i64 p1) rfl ?_))
        refine RS.op rfl (OP.q rfl (v_lss rfl rfl ?_))
        refine RS.op rfl (OP.q rfl (v_move (v := .bool (decide (p1 < 1))) rfl ?_))
        refine RS.no rfl rfl rfl hb_49 ?_
        refine RS.no rfl rfl rfl hb_49 ?_
        refine RS.op rfl (OP.q rfl (v_pickT (v := .bool true) rfl hb_49 rfl ?_))
        refine RS.nil ?_
        exact T.weakR (hK () trivial) (Weak.mkN [] [0, 1] (by decide) (none_kept _) rfl ⟨rn_sl encItem_p rfl, rn_int rfl, rn_sl encI_p rfl, rn_ref rfl, rn_ref rfl, rn_int rfl, rn_int rfl, rn_bool (by simp only [hb_49, Bool.true_or, Bool.or_true, Bool.false_or, Bool.or_false, Bool.true_and, Bool.and_true, Bool.false_and, Bool.and_false, Bool.not_true, Bool.not_false, if_true, if_false, Bool.false_eq_true, reduceIte]), trivial⟩ (rw_arr rfl encItem_p rfl (rw_arr rfl encItem_p rfl (rw_nil))))
      · refine T.region ?_
        refine RS.op rfl (OP.q rfl (v_move (v := .int .i64 p1) rfl ?_))
        refine RS.op rfl (OP.q rfl (v_lss rfl rfl ?_))
        refine RS.op rfl (OP.q rfl (v_move (v := .bool (decide (p1 < 1))) rfl ?_))
        refine RS.yes rfl rfl rfl hb_49 (OP.q rfl (v_move (v := .int .i64 p1) rfl ?_))
        refine RS.yes rfl rfl rfl hb_49 (OP.q rfl (v_gtr rfl rfl ?_))
        refine RS.op rfl (OP.q rfl (v_pickF (v := .bool (decide (p1 > 6))) rfl hb_49 rfl ?_))
        refine RS.nil ?_
        exact T.weakR (hK () trivial) (Weak.mkN [] [0, 1] (by decide) (none_kept _) rfl ⟨rn_sl encItem_p rfl, rn_int rfl, rn_sl encI_p rfl, rn_ref rfl, rn_ref rfl, rn_int rfl, rn_int rfl, rn_bool (by simp only [hb_49, Bool.true_or, Bool.or_true, Bool.false_or, Bool.or_false, Bool.true_and, Bool.and_true, Bool.false_and, Bool.and_false, Bool.not_true, Bool.not_false, if_true, if_false, Bool.false_eq_true, reduceIte]), trivial⟩ (rw_arr rfl encItem_p rfl (rw_arr rfl encItem_p rfl (rw_nil))))
end Go.Proofs.Ytpndpdbabblphaa
