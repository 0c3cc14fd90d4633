/-
  The code computes these functions. Printed by a program of ours (wip/gen.py).
-/
import Derived.Test.YtpndpdbabblphaaGen1
namespace Go.Proofs.Ytpndpdbabblphaa
open Go.RowKit
set_option linter.unusedVariables false
set_option linter.unusedSimpArgs false
set_option maxRecDepth 100000
theorem crosslaw_ringed_c (r : Bool) (h : crosslaw_ringed = some r) : Fn Try.prog 29 [] (.bool r) := by
  unfold crosslaw_ringed at h
  refine fn_of_T (N := 0) rfl Try.func29 rfl (by kernel_rfl) Try.ntmps29 rfl ?_
  show T _ _ _ _ (mkA 27 []) []
  refine T.seq ?_
  refine T.region ?_
  refine RS.op rfl (OP.q rfl (v_assign (v := .bool false) rfl ?_))
  refine RS.nil ?_
  refine T.seq ?_
  obtain ⟨x4, hx4, h⟩ := bind_some h
  obtain ⟨x5, hx5, h⟩ := bind_some h
  obtain ⟨x6, hx6, h⟩ := bind_some h
  refine T.region ?_
  refine RS.op rfl (o_call (as0 := [.int .i64 1, .int .i64 2]) (as1 := [.int .i64 (1 : Int), .int .i64 (2 : Int)]) (caps := []) (aw1 := []) rfl rfl rfl (k_flat (v := .agg [.int .i64 x4.Key, .int .i64 x4.Val, .int .i64 x4.Dep]) (crosslaw_item_c (1 : Int) (2 : Int) x4 hx4) (⟨pure_int _ _, pure_int _ _, trivial⟩) rfl ?_))
  refine RS.op rfl (o_call (as0 := [.int .i64 3, .int .i64 4]) (as1 := [.int .i64 (3 : Int), .int .i64 (4 : Int)]) (caps := []) (aw1 := []) rfl rfl rfl (k_flat (v := .agg [.int .i64 x5.Key, .int .i64 x5.Val, .int .i64 x5.Dep]) (crosslaw_item_c (3 : Int) (4 : Int) x5 hx5) (⟨pure_int _ _, pure_int _ _, trivial⟩) rfl ?_))
  refine RS.op rfl (o_buildSlice (rows := List.map encItem [x4, x5]) (vs := [.agg [.int .i64 x4.Key, .int .i64 x4.Val, .int .i64 x4.Dep], .agg [.int .i64 x5.Key, .int .i64 x5.Val, .int .i64 x5.Dep]]) Ty.s39 Ty.z41 rfl rfl rfl rfl rfl (aw' := [.arr 41 3 (List.map encItem [x4, x5])]) rfl ?_)
  refine RS.op rfl (o_buildSlice (rows := List.map encI [1, 1, 0]) (vs := [.int .i64 1, .int .i64 1, .int .i64 0]) Ty.s24 Ty.z3 rfl rfl rfl rfl rfl (aw' := [.arr 41 3 (List.map encItem [x4, x5]), .arr 3 1 (List.map encI [1, 1, 0])]) rfl ?_)
  refine RS.op rfl (o_call (as0 := [.ref 0, .int .i64 2, .ref 1]) (as1 := [.sl (List.map encItem ([x4, x5] : List Item)), .int .i64 (2 : Int), .sl (List.map encI ([1, 1, 0] : List Int))]) (caps := []) (aw1 := [.dead, .dead]) rfl rfl rfl (k_own' (v := .tup [.ref 0, .ref 1, .int .i64 x6.2.2]) (obs := [.arr 41 3 (List.map encItem x6.1), .arr 41 3 (List.map encItem x6.2.1)]) (v' := .tup [.ref 2, .ref 3, .int .i64 x6.2.2]) (aw' := [.arr 41 3 (List.map encItem [x4, x5]), .arr 3 1 (List.map encI [1, 1, 0]), .arr 41 3 (List.map encItem x6.1), .arr 41 3 (List.map encItem x6.2.1)]) (ring_Pass_c ([x4, x5] : List Item) (2 : Int) ([1, 1, 0] : List Int) x6 hx6) (⟨pure_map encItem_p _, pure_int _ _, pure_map encI_p _, trivial⟩) rfl (obs_cons (flatOb_map fun _ => rfl) (obs_cons (flatOb_map fun _ => rfl) obs_nil)) rfl rfl ?_))
  refine RS.op rfl (OP.q rfl (v_move (v := .tup [.ref 2, .ref 3, .int .i64 x6.2.2]) rfl ?_))
  refine RS.op rfl (OP.q rfl (v_extract (v := .ref 2) rfl rfl ?_))
  refine RS.op rfl (OP.q rfl (v_extract (v := .ref 3) rfl rfl ?_))
  refine RS.op rfl (OP.q rfl (v_extract (v := .int .i64 x6.2.2) rfl rfl ?_))
  refine RS.op rfl (OP.q rfl (v_assign (v := .ref 2) rfl ?_))
  refine RS.op rfl (OP.q rfl (v_assign (v := .ref 3) rfl ?_))
  refine RS.op rfl (OP.q rfl (v_assign (v := .int .i64 x6.2.2) rfl ?_))
  refine RS.nil ?_
  obtain ⟨zt_3, hz, h⟩ := bind_some h
  revert hz h; revert zt_3; intro c11 hz h
  refine T.join (Z := Unit) (fun _ => mkA 27 [(0, .bool c11)]) (fun _ => []) (fun _ => True) (fun _ _ => ?_) (fun hK => ?_)
  · show T _ _ _ _ (mkA 27 [(0, .bool c11)]) []
    refine T.ret' (R := ?R4) ?hq4 ?_
    case hq4 => repeat (first | exact RetIs.base | refine RetIs.thn ?_ | refine RetIs.blk ?_ | refine RetIs.lq ?_)
    refine res_tmpA (v := .bool c11) rfl ?_
    refine res_done ?_
    exact ret_data (v := .bool c11) rfl (pure_bool _) ⟨congrArg (fun r : Bool => (.bool r : AV)) (Option.some.inj h), rfl⟩
  · rcases bool_cases (x6.2.2 == 0) with hb_1 | hb_1
    · replace hz := ite_T hz hb_1
      obtain ⟨x7, hx7, hz⟩ := bind_some hz
      obtain ⟨x8, hx8, hz⟩ := bind_some hz
      rcases bool_cases x8 with hb_2 | hb_2
      · replace hz := ite_T hz hb_2
        obtain ⟨x9, hx9, hz⟩ := bind_some hz
        obtain ⟨x10, hx10, hz⟩ := bind_some hz
        refine T.region ?_
        refine RS.op rfl (OP.q rfl (v_move (v := .int .i64 x6.2.2) rfl ?_))
        refine RS.op rfl (OP.q rfl (v_eql rfl rfl ?_))
        refine RS.op rfl (OP.q rfl (v_move (v := .bool (x6.2.2 == 0)) rfl ?_))
        refine RS.yes rfl rfl rfl hb_1 (OP.q rfl (v_move (v := .ref 2) rfl ?_))
        refine RS.yes rfl rfl rfl hb_1 (o_call (as0 := [.int .i64 1, .int .i64 2]) (as1 := [.int .i64 (1 : Int), .int .i64 (2 : Int)]) (caps := []) (aw1 := [.arr 41 3 (List.map encItem [x4, x5]), .arr 3 1 (List.map encI [1, 1, 0]), .arr 41 3 (List.map encItem x6.1), .arr 41 3 (List.map encItem x6.2.1)]) rfl rfl rfl (k_flat (v := .agg [.int .i64 x7.Key, .int .i64 x7.Val, .int .i64 x7.Dep]) (crosslaw_item_c (1 : Int) (2 : Int) x7 hx7) (⟨pure_int _ _, pure_int _ _, trivial⟩) rfl ?_))
        refine RS.yes rfl rfl rfl hb_1 (o_buildSlice (rows := List.map encItem [x7]) (vs := [.agg [.int .i64 x7.Key, .int .i64 x7.Val, .int .i64 x7.Dep]]) Ty.s39 Ty.z41 rfl rfl rfl rfl rfl (aw' := [.arr 41 3 (List.map encItem [x4, x5]), .arr 3 1 (List.map encI [1, 1, 0]), .arr 41 3 (List.map encItem x6.1), .arr 41 3 (List.map encItem x6.2.1), .arr 41 3 (List.map encItem [x7])]) rfl ?_)
        refine RS.yes rfl rfl rfl hb_1 (o_call (as0 := [.ref 2, .ref 4]) (as1 := [.sl (List.map encItem x6.1), .sl (List.map encItem ([x7] : List Item))]) (caps := []) (aw1 := [.arr 41 3 (List.map encItem [x4, x5]), .arr 3 1 (List.map encI [1, 1, 0]), .dead, .arr 41 3 (List.map encItem x6.2.1), .dead]) rfl rfl rfl (k_flat (v := .bool x8) (slices_Equal_Item_c x6.1 ([x7] : List Item) x8 hx8) (⟨pure_map encItem_p _, pure_map encItem_p _, trivial⟩) rfl ?_))
        refine RS.op rfl (OP.q rfl (v_pickT (v := .bool x8) rfl hb_1 rfl ?_))
        refine RS.op rfl (OP.q rfl (v_move (v := .bool x8) rfl ?_))
        refine RS.yes rfl rfl rfl hb_2 (OP.q rfl (v_move (v := .ref 3) rfl ?_))
        refine RS.yes rfl rfl rfl hb_2 (o_call (as0 := [.int .i64 3, .int .i64 4]) (as1 := [.int .i64 (3 : Int), .int .i64 (4 : Int)]) (caps := []) (aw1 := [.arr 41 3 (List.map encItem [x4, x5]), .arr 3 1 (List.map encI [1, 1, 0]), .arr 41 3 (List.map encItem x6.1), .arr 41 3 (List.map encItem x6.2.1), .arr 41 3 (List.map encItem [x7])]) rfl rfl rfl (k_flat (v := .agg [.int .i64 x9.Key, .int .i64 x9.Val, .int .i64 x9.Dep]) (crosslaw_item_c (3 : Int) (4 : Int) x9 hx9) (⟨pure_int _ _, pure_int _ _, trivial⟩) rfl ?_))
        refine RS.yes rfl rfl rfl hb_2 (o_buildSlice (rows := List.map encItem [x9]) (vs := [.agg [.int .i64 x9.Key, .int .i64 x9.Val, .int .i64 x9.Dep]]) Ty.s39 Ty.z41 rfl rfl rfl rfl rfl (aw' := [.arr 41 3 (List.map encItem [x4, x5]), .arr 3 1 (List.map encI [1, 1, 0]), .arr 41 3 (List.map encItem x6.1), .arr 41 3 (List.map encItem x6.2.1), .arr 41 3 (List.map encItem [x7]), .arr 41 3 (List.map encItem [x9])]) rfl ?_)
        refine RS.yes rfl rfl rfl hb_2 (o_call (as0 := [.ref 3, .ref 5]) (as1 := [.sl (List.map encItem x6.2.1), .sl (List.map encItem ([x9] : List Item))]) (caps := []) (aw1 := [.arr 41 3 (List.map encItem [x4, x5]), .arr 3 1 (List.map encI [1, 1, 0]), .arr 41 3 (List.map encItem x6.1), .dead, .arr 41 3 (List.map encItem [x7]), .dead]) rfl rfl rfl (k_flat (v := .bool x10) (slices_Equal_Item_c x6.2.1 ([x9] : List Item) x10 hx10) (⟨pure_map encItem_p _, pure_map encItem_p _, trivial⟩) rfl ?_))
        refine RS.op rfl (OP.q rfl (v_pickT (v := .bool x10) rfl hb_2 rfl ?_))
        refine RS.op rfl (OP.q rfl (v_assign (v := .bool x10) rfl ?_))
        refine RS.nil ?_
        exact T.weakR (hK () trivial) (Weak.mkN [] [] (by decide) (none_kept _) rfl ⟨rn_bool ((congrArg (fun p => p) (Option.some.inj hz)).symm), trivial⟩ (rw_nil))
      · replace hz := ite_F hz hb_2
        refine T.region ?_
        refine RS.op rfl (OP.q rfl (v_move (v := .int .i64 x6.2.2) rfl ?_))
        refine RS.op rfl (OP.q rfl (v_eql rfl rfl ?_))
        refine RS.op rfl (OP.q rfl (v_move (v := .bool (x6.2.2 == 0)) rfl ?_))
        refine RS.yes rfl rfl rfl hb_1 (OP.q rfl (v_move (v := .ref 2) rfl ?_))
        refine RS.yes rfl rfl rfl hb_1 (o_call (as0 := [.int .i64 1, .int .i64 2]) (as1 := [.int .i64 (1 : Int), .int .i64 (2 : Int)]) (caps := []) (aw1 := [.arr 41 3 (List.map encItem [x4, x5]), .arr 3 1 (List.map encI [1, 1, 0]), .arr 41 3 (List.map encItem x6.1), .arr 41 3 (List.map encItem x6.2.1)]) rfl rfl rfl (k_flat (v := .agg [.int .i64 x7.Key, .int .i64 x7.Val, .int .i64 x7.Dep]) (crosslaw_item_c (1 : Int) (2 : Int) x7 hx7) (⟨pure_int _ _, pure_int _ _, trivial⟩) rfl ?_))
        refine RS.yes rfl rfl rfl hb_1 (o_buildSlice (rows := List.map encItem [x7]) (vs := [.agg [.int .i64 x7.Key, .int .i64 x7.Val, .int .i64 x7.Dep]]) Ty.s39 Ty.z41 rfl rfl rfl rfl rfl (aw' := [.arr 41 3 (List.map encItem [x4, x5]), .arr 3 1 (List.map encI [1, 1, 0]), .arr 41 3 (List.map encItem x6.1), .arr 41 3 (List.map encItem x6.2.1), .arr 41 3 (List.map encItem [x7])]) rfl ?_)
        refine RS.yes rfl rfl rfl hb_1 (o_call (as0 := [.ref 2, .ref 4]) (as1 := [.sl (List.map encItem x6.1), .sl (List.map encItem ([x7] : List Item))]) (caps := []) (aw1 := [.arr 41 3 (List.map encItem [x4, x5]), .arr 3 1 (List.map encI [1, 1, 0]), .dead, .arr 41 3 (List.map encItem x6.2.1), .dead]) rfl rfl rfl (k_flat (v := .bool x8) (slices_Equal_Item_c x6.1 ([x7] : List Item) x8 hx8) (⟨pure_map encItem_p _, pure_map encItem_p _, trivial⟩) rfl ?_))
        refine RS.op rfl (OP.q rfl (v_pickT (v := .bool x8) rfl hb_1 rfl ?_))
        refine RS.op rfl (OP.q rfl (v_move (v := .bool x8) rfl ?_))
        refine RS.no rfl rfl rfl hb_2 ?_
        refine RS.no rfl rfl rfl hb_2 ?_
        refine RS.no rfl rfl rfl hb_2 ?_
        refine RS.no rfl rfl rfl hb_2 ?_
        refine RS.op rfl (OP.q rfl (v_pickF (v := .bool false) rfl hb_2 rfl ?_))
        refine RS.op rfl (OP.q rfl (v_assign (v := .bool false) rfl ?_))
        refine RS.nil ?_
        exact T.weakR (hK () trivial) (Weak.mkN [] [] (by decide) (none_kept _) rfl ⟨rn_bool ((congrArg (fun p => p) (Option.some.inj hz)).symm), trivial⟩ (rw_nil))
    · replace hz := ite_F hz hb_1
      refine T.region ?_
      refine RS.op rfl (OP.q rfl (v_move (v := .int .i64 x6.2.2) rfl ?_))
      refine RS.op rfl (OP.q rfl (v_eql rfl rfl ?_))
      refine RS.op rfl (OP.q rfl (v_move (v := .bool (x6.2.2 == 0)) rfl ?_))
      refine RS.no rfl rfl rfl hb_1 ?_
      refine RS.no rfl rfl rfl hb_1 ?_
      refine RS.no rfl rfl rfl hb_1 ?_
      refine RS.no rfl rfl rfl hb_1 ?_
      refine RS.op rfl (OP.q rfl (v_pickF (v := .bool false) rfl hb_1 rfl ?_))
      refine RS.op rfl (OP.q rfl (v_move (v := .bool false) rfl ?_))
      refine RS.no rfl rfl rfl rfl ?_
      refine RS.no rfl rfl rfl rfl ?_
      refine RS.no rfl rfl rfl rfl ?_
      refine RS.no rfl rfl rfl rfl ?_
      refine RS.op rfl (OP.q rfl (v_pickF (v := .bool false) rfl rfl rfl ?_))
      refine RS.op rfl (OP.q rfl (v_assign (v := .bool false) rfl ?_))
      refine RS.nil ?_
      exact T.weakR (hK () trivial) (Weak.mkN [] [] (by decide) (none_kept _) rfl ⟨rn_bool ((congrArg (fun p => p) (Option.some.inj hz)).symm), trivial⟩ (rw_nil))
theorem crosslaw_RingKeeps_c (p0 : List Item) (p1 : Int) (p2 : List Int) (r : Bool) (h : crosslaw_RingKeeps p0 p1 p2 = some r) : Fn Try.prog 8 [.sl (List.map encItem p0), .int .i64 p1, .sl (List.map encI p2)] (.bool r) := by
  unfold crosslaw_RingKeeps at h
  refine fn_of_T (N := 0) rfl Try.func8 rfl (by kernel_rfl) Try.ntmps8 rfl ?_
  show T _ _ _ _ (mkA 51 [(0, .sl (List.map encItem p0)), (1, .int .i64 p1), (2, .sl (List.map encI p2))]) []
  refine T.seq ?_
  refine T.region ?_
  refine RS.op rfl (OP.q rfl (v_assign (v := .bool false) rfl ?_))
  refine RS.nil ?_
  refine T.seq ?_
  obtain ⟨x2, hx2, h⟩ := bind_some h
  refine T.region ?_
  refine RS.op rfl (OP.q rfl (v_move (v := .sl (List.map encItem p0)) rfl ?_))
  refine RS.op rfl (OP.q rfl (v_move (v := .int .i64 p1) rfl ?_))
  refine RS.op rfl (OP.q rfl (v_move (v := .sl (List.map encI p2)) rfl ?_))
  refine RS.op rfl (o_call (as0 := [.sl (List.map encItem p0), .int .i64 p1, .sl (List.map encI p2)]) (as1 := [.sl (List.map encItem p0), .int .i64 p1, .sl (List.map encI p2)]) (caps := []) (aw1 := []) rfl rfl rfl (k_own' (v := .tup [.ref 0, .ref 1, .int .i64 x2.2.2]) (obs := [.arr 41 3 (List.map encItem x2.1), .arr 41 3 (List.map encItem x2.2.1)]) (v' := .tup [.ref 0, .ref 1, .int .i64 x2.2.2]) (aw' := [.arr 41 3 (List.map encItem x2.1), .arr 41 3 (List.map encItem x2.2.1)]) (ring_Pass_c p0 p1 p2 x2 hx2) (⟨pure_map encItem_p _, pure_int _ _, pure_map encI_p _, trivial⟩) rfl (obs_cons (flatOb_map fun _ => rfl) (obs_cons (flatOb_map fun _ => rfl) obs_nil)) rfl rfl ?_))
  refine RS.op rfl (OP.q rfl (v_move (v := .tup [.ref 0, .ref 1, .int .i64 x2.2.2]) rfl ?_))
  refine RS.op rfl (OP.q rfl (v_extract (v := .ref 0) rfl rfl ?_))
  refine RS.op rfl (OP.q rfl (v_extract (v := .ref 1) rfl rfl ?_))
  refine RS.op rfl (OP.q rfl (v_extract (v := .int .i64 x2.2.2) rfl rfl ?_))
  refine RS.op rfl (OP.q rfl (v_assign (v := .ref 0) rfl ?_))
  refine RS.op rfl (OP.q rfl (v_assign (v := .ref 1) rfl ?_))
  refine RS.op rfl (OP.q rfl (v_assign (v := .int .i64 x2.2.2) rfl ?_))
  refine RS.nil ?_
  refine T.seq ?_
  obtain ⟨x3, hx3, h⟩ := bind_some h
  refine T.join (Z := Unit) (fun _ => mkA 51 [(0, .sl (List.map encItem p0)), (1, .int .i64 p1), (7, .ref 0), (8, .ref 1), (24, .bool ((!x3) || x2.2.2 != 0))]) (fun _ => [.arr 41 3 (List.map encItem x2.1), .arr 41 3 (List.map encItem x2.2.1)]) (fun _ => True) (fun _ _ => ?_) (fun hK => ?_)
  · show T _ _ _ _ (mkA 51 [(0, .sl (List.map encItem p0)), (1, .int .i64 p1), (7, .ref 0), (8, .ref 1), (24, .bool ((!x3) || x2.2.2 != 0))]) [.arr 41 3 (List.map encItem x2.1), .arr 41 3 (List.map encItem x2.2.1)]
    refine T.cond (b := ((!x3) || x2.2.2 != 0)) rfl (fun hb_2 => ?_) (fun hb_2 => ?_)
    · replace h := ite_T h hb_2
      refine T.seq ?_
      obtain ⟨x6, hx6, h⟩ := bind_some h
      refine T.region ?_
      refine RS.op rfl (o_call (as0 := []) (as1 := []) (caps := []) (aw1 := [.arr 41 3 (List.map encItem x2.1), .arr 41 3 (List.map encItem x2.2.1)]) rfl rfl rfl (k_flat (v := .bool x6) (crosslaw_ringed_c x6 hx6) (trivial) rfl ?_))
      refine RS.op rfl (OP.q rfl (v_assign (v := .bool x6) rfl ?_))
      refine RS.nil ?_
      refine T.ret' (R := ?R3) ?hq3 ?_
      case hq3 => repeat (first | exact RetIs.base | refine RetIs.thn ?_ | refine RetIs.blk ?_ | refine RetIs.lq ?_)
      refine res_tmpA (v := .bool x6) rfl ?_
      refine res_done ?_
      exact ret_data (v := .bool x6) rfl (pure_bool _) ⟨congrArg (fun r : Bool => (.bool r : AV)) (Option.some.inj h), rfl⟩
    · replace h := ite_F h hb_2
      refine T.skip ?_
      refine T.seq ?_
      refine T.region ?_
      refine RS.op rfl (OP.q rfl (v_move (v := .ref 0) rfl ?_))
      refine RS.op rfl (OP.q rfl (v_len_ref (en := encItem) Ty.s39 rfl rfl ?_))
      refine RS.op rfl (OP.q rfl (v_move (v := .ref 1) rfl ?_))
      refine RS.op rfl (OP.q rfl (v_len_ref (en := encItem) Ty.s39 rfl rfl ?_))
      refine RS.op rfl (OP.q rfl (v_add rfl rfl ?_))
      refine RS.op rfl (OP.q rfl (v_assign (v := .int .i64 (IntKind.i64.wrap (((x2.1).length : Int) + ((x2.2.1).length : Int)))) rfl ?_))
      refine RS.nil ?_
      obtain ⟨zt_6, hz, h⟩ := bind_some h
      revert hz h; revert zt_6; intro c11 hz h
      refine T.join (Z := Unit) (fun _ => mkA 51 [(6, .bool c11)]) (fun _ => []) (fun _ => True) (fun _ _ => ?_) (fun hK => ?_)
      · show T _ _ _ _ (mkA 51 [(6, .bool c11)]) []
        refine T.ret' (R := ?R7) ?hq7 ?_
        case hq7 => repeat (first | exact RetIs.base | refine RetIs.thn ?_ | refine RetIs.blk ?_ | refine RetIs.lq ?_)
        refine res_tmpA (v := .bool c11) rfl ?_
        refine res_done ?_
        exact ret_data (v := .bool c11) rfl (pure_bool _) ⟨congrArg (fun r : Bool => (.bool r : AV)) (Option.some.inj h), rfl⟩
      · rcases bool_cases (decide ((IntKind.i64.wrap (((x2.1).length : Int) + ((x2.2.1).length : Int))) ≤ ((p0).length : Int))) with hb_4 | hb_4
        · replace hz := ite_T hz hb_4
          rcases bool_cases (decide (((x2.2.1).length : Int) ≤ p1)) with hb_5 | hb_5
          · replace hz := ite_T hz hb_5
            obtain ⟨x7, hx7, hz⟩ := bind_some hz
            obtain ⟨x8, hx8, hz⟩ := bind_some hz
            obtain ⟨x9, hx9, hz⟩ := bind_some hz
            obtain ⟨x10, hx10, hz⟩ := bind_some hz
            refine T.drawn mixed (k := 21) rfl ?_
            refine RA.t0 (i := 0) (li' := #[true, false, false, false, false, false, false, false, false, false, false, false, false, false, false, false, false, false, false, false, false]) rfl (by decide +kernel) (by decide +kernel) (by decide +kernel) (by decide +kernel) rfl rfl (v_move (v := .int .i64 (IntKind.i64.wrap (((x2.1).length : Int) + ((x2.2.1).length : Int)))) rfl ?_)
            refine RA.t0 (i := 1) (li' := #[true, true, false, false, false, false, false, false, false, false, false, false, false, false, false, false, false, false, false, false, false]) rfl (by decide +kernel) (by decide +kernel) (by decide +kernel) (by decide +kernel) rfl rfl (v_move (v := .sl (List.map encItem p0)) rfl ?_)
            refine RA.t0 (i := 2) (li' := #[true, true, true, false, false, false, false, false, false, false, false, false, false, false, false, false, false, false, false, false, false]) rfl (by decide +kernel) (by decide +kernel) (by decide +kernel) (by decide +kernel) rfl rfl (v_len_sl Ty.s39 rfl ?_)
            refine RA.t0 (i := 3) (li' := #[true, true, true, true, false, false, false, false, false, false, false, false, false, false, false, false, false, false, false, false, false]) rfl (by decide +kernel) (by decide +kernel) (by decide +kernel) (by decide +kernel) rfl rfl (v_leq rfl rfl ?_)
            refine RA.t0 (i := 4) (li' := #[true, true, true, true, true, false, false, false, false, false, false, false, false, false, false, false, false, false, false, false, false]) rfl (by decide +kernel) (by decide +kernel) (by decide +kernel) (by decide +kernel) rfl rfl (v_move (v := .bool (decide ((IntKind.i64.wrap (((x2.1).length : Int) + ((x2.2.1).length : Int))) ≤ ((p0).length : Int)))) rfl ?_)
            refine RA.t1 (i := 5) (li' := #[true, true, true, true, true, true, false, false, false, false, false, false, false, false, false, false, false, false, false, false, false]) rfl (by decide +kernel) (by decide +kernel) (by decide +kernel) (by decide +kernel) rfl rfl rfl hb_4 rfl (v_move (v := .ref 1) rfl ?_)
            refine RA.t1 (i := 6) (li' := #[true, true, true, true, true, true, true, false, false, false, false, false, false, false, false, false, false, false, false, false, false]) rfl (by decide +kernel) (by decide +kernel) (by decide +kernel) (by decide +kernel) rfl rfl rfl hb_4 rfl (v_len_ref (en := encItem) Ty.s39 rfl rfl ?_)
            refine RA.t1 (i := 7) (li' := #[true, true, true, true, true, true, true, true, false, false, false, false, false, false, false, false, false, false, false, false, false]) rfl (by decide +kernel) (by decide +kernel) (by decide +kernel) (by decide +kernel) rfl rfl rfl hb_4 rfl (v_move (v := .int .i64 p1) rfl ?_)
            refine RA.t1 (i := 8) (li' := #[true, true, true, true, true, true, true, true, true, false, false, false, false, false, false, false, false, false, false, false, false]) rfl (by decide +kernel) (by decide +kernel) (by decide +kernel) (by decide +kernel) rfl rfl rfl hb_4 rfl (v_leq rfl rfl ?_)
            refine RA.t0 (i := 9) (li' := #[true, true, true, true, true, true, true, true, true, true, false, false, false, false, false, false, false, false, false, false, false]) rfl (by decide +kernel) (by decide +kernel) (by decide +kernel) (by decide +kernel) rfl rfl (v_pickT (v := .bool (decide (((x2.2.1).length : Int) ≤ p1))) rfl hb_4 rfl ?_)
            refine RA.t0 (i := 10) (li' := #[true, true, true, true, true, true, true, true, true, true, true, false, false, false, false, false, false, false, false, false, false]) rfl (by decide +kernel) (by decide +kernel) (by decide +kernel) (by decide +kernel) rfl rfl (v_move (v := .bool (decide (((x2.2.1).length : Int) ≤ p1))) rfl ?_)
            refine RA.t1 (i := 11) (li' := #[true, true, true, true, true, true, true, true, true, true, true, true, false, false, false, false, false, false, false, false, false]) rfl (by decide +kernel) (by decide +kernel) (by decide +kernel) (by decide +kernel) rfl rfl rfl hb_5 rfl (v_move (v := .ref 0) rfl ?_)
            refine RA.t1 (i := 13) (li' := #[true, true, true, true, true, true, true, true, true, true, true, true, false, true, false, false, false, false, false, false, false]) rfl (by decide +kernel) (by decide +kernel) (by decide +kernel) (by decide +kernel) rfl rfl rfl hb_5 rfl (v_move (v := .ref 1) rfl ?_)
            refine RA.t1 (i := 15) (li' := #[true, true, true, true, true, true, true, true, true, true, true, true, false, true, false, true, false, false, false, false, false]) rfl (by decide +kernel) (by decide +kernel) (by decide +kernel) (by decide +kernel) rfl rfl rfl hb_5 rfl (v_move (v := .sl (List.map encItem p0)) rfl ?_)
            refine RA.t1 (i := 16) (li' := #[true, true, true, true, true, true, true, true, true, true, true, true, false, true, false, true, true, false, false, false, false]) rfl (by decide +kernel) (by decide +kernel) (by decide +kernel) (by decide +kernel) rfl rfl rfl hb_5 rfl (v_move (v := .int .i64 (IntKind.i64.wrap (((x2.1).length : Int) + ((x2.2.1).length : Int)))) rfl ?_)
            refine RA.t1 (i := 17) (li' := #[true, true, true, true, true, true, true, true, true, true, true, true, false, true, false, true, true, true, false, false, false]) rfl (by decide +kernel) (by decide +kernel) (by decide +kernel) (by decide +kernel) rfl rfl rfl hb_5 rfl (v_slice_sl Ty.s39 (fun _ => rfl) rfl rfl rfl hx9 ?_)
            refine RA.a1 (i1 := 12) (l1 := #[true, true, true, true, true, true, true, true, true, true, true, true, true, true, false, true, true, true, false, false, false]) (by decide +kernel) (by decide +kernel) ?_
            refine RO.yes rfl rfl rfl rfl hb_5 (o_call (as0 := [.ref 0]) (as1 := [.sl (List.map encItem x2.1)]) (caps := []) (aw1 := [.dead, .arr 41 3 (List.map encItem x2.2.1)]) rfl rfl rfl (k_own' (v := .ref 0) (obs := [.arr 41 3 (List.map encItem x7)]) (v' := .ref 2) (aw' := [.arr 41 3 (List.map encItem x2.1), .arr 41 3 (List.map encItem x2.2.1), .arr 41 3 (List.map encItem x7)]) (slices_Clone_Item_c x2.1 x7 hx7) (⟨pure_map encItem_p _, trivial⟩) rfl (obs_cons (flatOb_map fun _ => rfl) obs_nil) rfl rfl ?_))
            refine RA.a1 (i1 := 14) (l1 := #[true, true, true, true, true, true, true, true, true, true, true, true, true, true, true, true, true, true, false, false, false]) (by decide +kernel) (by decide +kernel) ?_
            refine RO.yes rfl rfl rfl rfl hb_5 (o_app_ref (en := encItem) (xs := x7) (ys := x2.2.1) Ty.s39 (fun _ => rfl) rfl rfl rfl hx8 rfl (aw' := [.arr 41 3 (List.map encItem x2.1), .dead, .dead, .arr 41 3 (List.map encItem x8)]) rfl ?_)
            refine RA.a1 (i1 := 18) (l1 := #[true, true, true, true, true, true, true, true, true, true, true, true, true, true, true, true, true, true, true, false, false]) (by decide +kernel) (by decide +kernel) ?_
            refine RO.yes rfl rfl rfl rfl hb_5 (o_call (as0 := [.ref 3, .sl (List.map encItem x9)]) (as1 := [.sl (List.map encItem x8), .sl (List.map encItem x9)]) (caps := []) (aw1 := [.arr 41 3 (List.map encItem x2.1), .dead, .dead, .dead]) rfl rfl rfl (k_flat (v := .bool x10) (slices_Equal_Item_c x8 x9 x10 hx10) (⟨pure_map encItem_p _, pure_map encItem_p _, trivial⟩) rfl ?_))
            refine RA.t0 (i := 19) (li' := #[true, true, true, true, true, true, true, true, true, true, true, true, true, true, true, true, true, true, true, true, false]) rfl (by decide +kernel) (by decide +kernel) (by decide +kernel) (by decide +kernel) rfl rfl (v_pickT (v := .bool x10) rfl hb_5 rfl ?_)
            refine RA.t0 (i := 20) (li' := #[true, true, true, true, true, true, true, true, true, true, true, true, true, true, true, true, true, true, true, true, true]) rfl (by decide +kernel) (by decide +kernel) (by decide +kernel) (by decide +kernel) rfl rfl (v_assign (v := .bool x10) rfl ?_)
            refine RA.done (by decide +kernel) ?_
            exact T.weakR (hK () trivial) (Weak.mkN [] [] (by decide) (none_kept _) rfl ⟨rn_bool ((congrArg (fun p => p) (Option.some.inj hz)).symm), trivial⟩ (rw_nil))
          · replace hz := ite_F hz hb_5
            refine T.drawn mixed (k := 21) rfl ?_
            refine RA.t0 (i := 0) (li' := #[true, false, false, false, false, false, false, false, false, false, false, false, false, false, false, false, false, false, false, false, false]) rfl (by decide +kernel) (by decide +kernel) (by decide +kernel) (by decide +kernel) rfl rfl (v_move (v := .int .i64 (IntKind.i64.wrap (((x2.1).length : Int) + ((x2.2.1).length : Int)))) rfl ?_)
            refine RA.t0 (i := 1) (li' := #[true, true, false, false, false, false, false, false, false, false, false, false, false, false, false, false, false, false, false, false, false]) rfl (by decide +kernel) (by decide +kernel) (by decide +kernel) (by decide +kernel) rfl rfl (v_move (v := .sl (List.map encItem p0)) rfl ?_)
            refine RA.t0 (i := 2) (li' := #[true, true, true, false, false, false, false, false, false, false, false, false, false, false, false, false, false, false, false, false, false]) rfl (by decide +kernel) (by decide +kernel) (by decide +kernel) (by decide +kernel) rfl rfl (v_len_sl Ty.s39 rfl ?_)
            refine RA.t0 (i := 3) (li' := #[true, true, true, true, false, false, false, false, false, false, false, false, false, false, false, false, false, false, false, false, false]) rfl (by decide +kernel) (by decide +kernel) (by decide +kernel) (by decide +kernel) rfl rfl (v_leq rfl rfl ?_)
            refine RA.t0 (i := 4) (li' := #[true, true, true, true, true, false, false, false, false, false, false, false, false, false, false, false, false, false, false, false, false]) rfl (by decide +kernel) (by decide +kernel) (by decide +kernel) (by decide +kernel) rfl rfl (v_move (v := .bool (decide ((IntKind.i64.wrap (((x2.1).length : Int) + ((x2.2.1).length : Int))) ≤ ((p0).length : Int)))) rfl ?_)
            refine RA.t1 (i := 5) (li' := #[true, true, true, true, true, true, false, false, false, false, false, false, false, false, false, false, false, false, false, false, false]) rfl (by decide +kernel) (by decide +kernel) (by decide +kernel) (by decide +kernel) rfl rfl rfl hb_4 rfl (v_move (v := .ref 1) rfl ?_)
            refine RA.t1 (i := 6) (li' := #[true, true, true, true, true, true, true, false, false, false, false, false, false, false, false, false, false, false, false, false, false]) rfl (by decide +kernel) (by decide +kernel) (by decide +kernel) (by decide +kernel) rfl rfl rfl hb_4 rfl (v_len_ref (en := encItem) Ty.s39 rfl rfl ?_)
            refine RA.t1 (i := 7) (li' := #[true, true, true, true, true, true, true, true, false, false, false, false, false, false, false, false, false, false, false, false, false]) rfl (by decide +kernel) (by decide +kernel) (by decide +kernel) (by decide +kernel) rfl rfl rfl hb_4 rfl (v_move (v := .int .i64 p1) rfl ?_)
            refine RA.t1 (i := 8) (li' := #[true, true, true, true, true, true, true, true, true, false, false, false, false, false, false, false, false, false, false, false, false]) rfl (by decide +kernel) (by decide +kernel) (by decide +kernel) (by decide +kernel) rfl rfl rfl hb_4 rfl (v_leq rfl rfl ?_)
            refine RA.t0 (i := 9) (li' := #[true, true, true, true, true, true, true, true, true, true, false, false, false, false, false, false, false, false, false, false, false]) rfl (by decide +kernel) (by decide +kernel) (by decide +kernel) (by decide +kernel) rfl rfl (v_pickT (v := .bool (decide (((x2.2.1).length : Int) ≤ p1))) rfl hb_4 rfl ?_)
            refine RA.t0 (i := 10) (li' := #[true, true, true, true, true, true, true, true, true, true, true, false, false, false, false, false, false, false, false, false, false]) rfl (by decide +kernel) (by decide +kernel) (by decide +kernel) (by decide +kernel) rfl rfl (v_move (v := .bool (decide (((x2.2.1).length : Int) ≤ p1))) rfl ?_)
            refine RA.t2 (i := 11) (li' := #[true, true, true, true, true, true, true, true, true, true, true, true, false, false, false, false, false, false, false, false, false]) rfl (by decide +kernel) (by decide +kernel) (by decide +kernel) (by decide +kernel) rfl rfl rfl hb_5 ?_
            refine RA.t2 (i := 12) (li' := #[true, true, true, true, true, true, true, true, true, true, true, true, true, false, false, false, false, false, false, false, false]) rfl (by decide +kernel) (by decide +kernel) (by decide +kernel) (by decide +kernel) rfl rfl rfl hb_5 ?_
            refine RA.t2 (i := 13) (li' := #[true, true, true, true, true, true, true, true, true, true, true, true, true, true, false, false, false, false, false, false, false]) rfl (by decide +kernel) (by decide +kernel) (by decide +kernel) (by decide +kernel) rfl rfl rfl hb_5 ?_
            refine RA.t2 (i := 14) (li' := #[true, true, true, true, true, true, true, true, true, true, true, true, true, true, true, false, false, false, false, false, false]) rfl (by decide +kernel) (by decide +kernel) (by decide +kernel) (by decide +kernel) rfl rfl rfl hb_5 ?_
            refine RA.t2 (i := 15) (li' := #[true, true, true, true, true, true, true, true, true, true, true, true, true, true, true, true, false, false, false, false, false]) rfl (by decide +kernel) (by decide +kernel) (by decide +kernel) (by decide +kernel) rfl rfl rfl hb_5 ?_
            refine RA.t2 (i := 16) (li' := #[true, true, true, true, true, true, true, true, true, true, true, true, true, true, true, true, true, false, false, false, false]) rfl (by decide +kernel) (by decide +kernel) (by decide +kernel) (by decide +kernel) rfl rfl rfl hb_5 ?_
            refine RA.t2 (i := 17) (li' := #[true, true, true, true, true, true, true, true, true, true, true, true, true, true, true, true, true, true, false, false, false]) rfl (by decide +kernel) (by decide +kernel) (by decide +kernel) (by decide +kernel) rfl rfl rfl hb_5 ?_
            refine RA.t2 (i := 18) (li' := #[true, true, true, true, true, true, true, true, true, true, true, true, true, true, true, true, true, true, true, false, false]) rfl (by decide +kernel) (by decide +kernel) (by decide +kernel) (by decide +kernel) rfl rfl rfl hb_5 ?_
            refine RA.t0 (i := 19) (li' := #[true, true, true, true, true, true, true, true, true, true, true, true, true, true, true, true, true, true, true, true, false]) rfl (by decide +kernel) (by decide +kernel) (by decide +kernel) (by decide +kernel) rfl rfl (v_pickF (v := .bool false) rfl hb_5 rfl ?_)
            refine RA.t0 (i := 20) (li' := #[true, true, true, true, true, true, true, true, true, true, true, true, true, true, true, true, true, true, true, true, true]) rfl (by decide +kernel) (by decide +kernel) (by decide +kernel) (by decide +kernel) rfl rfl (v_assign (v := .bool false) rfl ?_)
            refine RA.done (by decide +kernel) ?_
            exact T.weakR (hK () trivial) (Weak.mkN [] [] (by decide) (none_kept _) rfl ⟨rn_bool ((congrArg (fun p => p) (Option.some.inj hz)).symm), trivial⟩ (rw_nil))
        · replace hz := ite_F hz hb_4
          refine T.drawn mixed (k := 21) rfl ?_
          refine RA.t0 (i := 0) (li' := #[true, false, false, false, false, false, false, false, false, false, false, false, false, false, false, false, false, false, false, false, false]) rfl (by decide +kernel) (by decide +kernel) (by decide +kernel) (by decide +kernel) rfl rfl (v_move (v := .int .i64 (IntKind.i64.wrap (((x2.1).length : Int) + ((x2.2.1).length : Int)))) rfl ?_)
          refine RA.t0 (i := 1) (li' := #[true, true, false, false, false, false, false, false, false, false, false, false, false, false, false, false, false, false, false, false, false]) rfl (by decide +kernel) (by decide +kernel) (by decide +kernel) (by decide +kernel) rfl rfl (v_move (v := .sl (List.map encItem p0)) rfl ?_)
          refine RA.t0 (i := 2) (li' := #[true, true, true, false, false, false, false, false, false, false, false, false, false, false, false, false, false, false, false, false, false]) rfl (by decide +kernel) (by decide +kernel) (by decide +kernel) (by decide +kernel) rfl rfl (v_len_sl Ty.s39 rfl ?_)
          refine RA.t0 (i := 3) (li' := #[true, true, true, true, false, false, false, false, false, false, false, false, false, false, false, false, false, false, false, false, false]) rfl (by decide +kernel) (by decide +kernel) (by decide +kernel) (by decide +kernel) rfl rfl (v_leq rfl rfl ?_)
          refine RA.t0 (i := 4) (li' := #[true, true, true, true, true, false, false, false, false, false, false, false, false, false, false, false, false, false, false, false, false]) rfl (by decide +kernel) (by decide +kernel) (by decide +kernel) (by decide +kernel) rfl rfl (v_move (v := .bool (decide ((IntKind.i64.wrap (((x2.1).length : Int) + ((x2.2.1).length : Int))) ≤ ((p0).length : Int)))) rfl ?_)
          refine RA.t2 (i := 5) (li' := #[true, true, true, true, true, true, false, false, false, false, false, false, false, false, false, false, false, false, false, false, false]) rfl (by decide +kernel) (by decide +kernel) (by decide +kernel) (by decide +kernel) rfl rfl rfl hb_4 ?_
          refine RA.t2 (i := 6) (li' := #[true, true, true, true, true, true, true, false, false, false, false, false, false, false, false, false, false, false, false, false, false]) rfl (by decide +kernel) (by decide +kernel) (by decide +kernel) (by decide +kernel) rfl rfl rfl hb_4 ?_
          refine RA.t2 (i := 7) (li' := #[true, true, true, true, true, true, true, true, false, false, false, false, false, false, false, false, false, false, false, false, false]) rfl (by decide +kernel) (by decide +kernel) (by decide +kernel) (by decide +kernel) rfl rfl rfl hb_4 ?_
          refine RA.t2 (i := 8) (li' := #[true, true, true, true, true, true, true, true, true, false, false, false, false, false, false, false, false, false, false, false, false]) rfl (by decide +kernel) (by decide +kernel) (by decide +kernel) (by decide +kernel) rfl rfl rfl hb_4 ?_
          refine RA.t0 (i := 9) (li' := #[true, true, true, true, true, true, true, true, true, true, false, false, false, false, false, false, false, false, false, false, false]) rfl (by decide +kernel) (by decide +kernel) (by decide +kernel) (by decide +kernel) rfl rfl (v_pickF (v := .bool false) rfl hb_4 rfl ?_)
          refine RA.t0 (i := 10) (li' := #[true, true, true, true, true, true, true, true, true, true, true, false, false, false, false, false, false, false, false, false, false]) rfl (by decide +kernel) (by decide +kernel) (by decide +kernel) (by decide +kernel) rfl rfl (v_move (v := .bool false) rfl ?_)
          refine RA.t2 (i := 11) (li' := #[true, true, true, true, true, true, true, true, true, true, true, true, false, false, false, false, false, false, false, false, false]) rfl (by decide +kernel) (by decide +kernel) (by decide +kernel) (by decide +kernel) rfl rfl rfl rfl ?_
          refine RA.t2 (i := 12) (li' := #[true, true, true, true, true, true, true, true, true, true, true, true, true, false, false, false, false, false, false, false, false]) rfl (by decide +kernel) (by decide +kernel) (by decide +kernel) (by decide +kernel) rfl rfl rfl rfl ?_
          refine RA.t2 (i := 13) (li' := #[true, true, true, true, true, true, true, true, true, true, true, true, true, true, false, false, false, false, false, false, false]) rfl (by decide +kernel) (by decide +kernel) (by decide +kernel) (by decide +kernel) rfl rfl rfl rfl ?_
          refine RA.t2 (i := 14) (li' := #[true, true, true, true, true, true, true, true, true, true, true, true, true, true, true, false, false, false, false, false, false]) rfl (by decide +kernel) (by decide +kernel) (by decide +kernel) (by decide +kernel) rfl rfl rfl rfl ?_
          refine RA.t2 (i := 15) (li' := #[true, true, true, true, true, true, true, true, true, true, true, true, true, true, true, true, false, false, false, false, false]) rfl (by decide +kernel) (by decide +kernel) (by decide +kernel) (by decide +kernel) rfl rfl rfl rfl ?_
          refine RA.t2 (i := 16) (li' := #[true, true, true, true, true, true, true, true, true, true, true, true, true, true, true, true, true, false, false, false, false]) rfl (by decide +kernel) (by decide +kernel) (by decide +kernel) (by decide +kernel) rfl rfl rfl rfl ?_
          refine RA.t2 (i := 17) (li' := #[true, true, true, true, true, true, true, true, true, true, true, true, true, true, true, true, true, true, false, false, false]) rfl (by decide +kernel) (by decide +kernel) (by decide +kernel) (by decide +kernel) rfl rfl rfl rfl ?_
          refine RA.t2 (i := 18) (li' := #[true, true, true, true, true, true, true, true, true, true, true, true, true, true, true, true, true, true, true, false, false]) rfl (by decide +kernel) (by decide +kernel) (by decide +kernel) (by decide +kernel) rfl rfl rfl rfl ?_
          refine RA.t0 (i := 19) (li' := #[true, true, true, true, true, true, true, true, true, true, true, true, true, true, true, true, true, true, true, true, false]) rfl (by decide +kernel) (by decide +kernel) (by decide +kernel) (by decide +kernel) rfl rfl (v_pickF (v := .bool false) rfl rfl rfl ?_)
          refine RA.t0 (i := 20) (li' := #[true, true, true, true, true, true, true, true, true, true, true, true, true, true, true, true, true, true, true, true, true]) rfl (by decide +kernel) (by decide +kernel) (by decide +kernel) (by decide +kernel) rfl rfl (v_assign (v := .bool false) rfl ?_)
          refine RA.done (by decide +kernel) ?_
          exact T.weakR (hK () trivial) (Weak.mkN [] [] (by decide) (none_kept _) rfl ⟨rn_bool ((congrArg (fun p => p) (Option.some.inj hz)).symm), trivial⟩ (rw_nil))
  · rcases bool_cases (!x3) with hb_1 | hb_1
    · refine T.region ?_
      refine RS.op rfl (o_call (as0 := []) (as1 := []) (caps := []) (aw1 := [.arr 41 3 (List.map encItem x2.1), .arr 41 3 (List.map encItem x2.2.1)]) rfl rfl rfl (k_flat (v := .bool x3) (crosslaw_ringed_c x3 hx3) (trivial) rfl ?_))
      refine RS.op rfl (OP.q rfl (v_not rfl ?_))
      refine RS.op rfl (OP.q rfl (v_move (v := .bool (!x3)) rfl ?_))
      refine RS.no rfl rfl rfl hb_1 ?_
      refine RS.no rfl rfl rfl hb_1 ?_
      refine RS.op rfl (OP.q rfl (v_pickT (v := .bool true) rfl hb_1 rfl ?_))
      refine RS.nil ?_
      exact T.weakR (hK () trivial) (Weak.mkN [] [0, 1] (by decide) (none_kept _) rfl ⟨rn_sl encItem_p rfl, rn_int rfl, rn_ref rfl, rn_ref rfl, rn_bool (by simp only [hb_1, Bool.true_or, Bool.or_true, Bool.false_or, Bool.or_false, Bool.true_and, Bool.and_true, Bool.false_and, Bool.and_false, Bool.not_true, Bool.not_false, if_true, if_false, Bool.false_eq_true, reduceIte]), trivial⟩ (rw_arr rfl encItem_p rfl (rw_arr rfl encItem_p rfl (rw_nil))))
    · refine T.region ?_
      refine RS.op rfl (o_call (as0 := []) (as1 := []) (caps := []) (aw1 := [.arr 41 3 (List.map encItem x2.1), .arr 41 3 (List.map encItem x2.2.1)]) rfl rfl rfl (k_flat (v := .bool x3) (crosslaw_ringed_c x3 hx3) (trivial) rfl ?_))
      refine RS.op rfl (OP.q rfl (v_not rfl ?_))
      refine RS.op rfl (OP.q rfl (v_move (v := .bool (!x3)) rfl ?_))
      refine RS.yes rfl rfl rfl hb_1 (OP.q rfl (v_move (v := .int .i64 x2.2.2) rfl ?_))
      refine RS.yes rfl rfl rfl hb_1 (OP.q rfl (v_neq rfl rfl ?_))
      refine RS.op rfl (OP.q rfl (v_pickF (v := .bool (x2.2.2 != 0)) rfl hb_1 rfl ?_))
      refine RS.nil ?_
      exact T.weakR (hK () trivial) (Weak.mkN [] [0, 1] (by decide) (none_kept _) rfl ⟨rn_sl encItem_p rfl, rn_int rfl, rn_ref rfl, rn_ref rfl, rn_bool (by simp only [hb_1, Bool.true_or, Bool.or_true, Bool.false_or, Bool.or_false, Bool.true_and, Bool.and_true, Bool.false_and, Bool.and_false, Bool.not_true, Bool.not_false, if_true, if_false, Bool.false_eq_true, reduceIte]), trivial⟩ (rw_arr rfl encItem_p rfl (rw_arr rfl encItem_p rfl (rw_nil))))
end Go.Proofs.Ytpndpdbabblphaa
