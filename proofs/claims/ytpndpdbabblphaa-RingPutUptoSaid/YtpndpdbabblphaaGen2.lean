/-
  The code computes these functions. Printed by a program of ours (wip/gen.py).
-/
import Derived.Test.YtpndpdbabblphaaGen1
namespace Go.Proofs.Ytpndpdbabblphaa
open Go.RowKit
set_option linter.unusedVariables false
set_option linter.unusedSimpArgs false
set_option maxRecDepth 100000
theorem crosslaw_ringed_c (r : Bool) (h : crosslaw_ringed = some r) : Fn Try.prog 29 [] (.bool r) := by
  unfold crosslaw_ringed at h
  refine fn_of_T (N := 0) rfl Try.func29 rfl (by kernel_rfl) Try.ntmps29 rfl ?_
  show T _ _ _ _ (mkA 27 []) []
  refine T.seq ?_
  refine T.region ?_
  refine RS.op rfl (OP.q rfl (v_assign (v := .bool false) rfl ?_))
  refine RS.nil ?_
  refine T.seq ?_
  obtain ⟨x4, hx4, h⟩ := bind_some h
  obtain ⟨x5, hx5, h⟩ := bind_some h
  obtain ⟨x6, hx6, h⟩ := bind_some h
  refine T.region ?_
  refine RS.op rfl (o_call (as0 := [.int .i64 1, .int .i64 2]) (as1 := [.int .i64 (1 : Int), .int .i64 (2 : Int)]) (caps := []) (aw1 := []) rfl rfl rfl (k_flat (v := .agg [.int .i64 x4.Key, .int .i64 x4.Val, .int .i64 x4.Dep]) (crosslaw_item_c (1 : Int) (2 : Int) x4 hx4) (⟨pure_int _ _, pure_int _ _, trivial⟩) rfl ?_))
  refine RS.op rfl (o_call (as0 := [.int .i64 3, .int .i64 4]) (as1 := [.int .i64 (3 : Int), .int .i64 (4 : Int)]) (caps := []) (aw1 := []) rfl rfl rfl (k_flat (v := .agg [.int .i64 x5.Key, .int .i64 x5.Val, .int .i64 x5.Dep]) (crosslaw_item_c (3 : Int) (4 : Int) x5 hx5) (⟨pure_int _ _, pure_int _ _, trivial⟩) rfl ?_))
  refine RS.op rfl (o_buildSlice (rows := List.map encItem [x4, x5]) (vs := [.agg [.int .i64 x4.Key, .int .i64 x4.Val, .int .i64 x4.Dep], .agg [.int .i64 x5.Key, .int .i64 x5.Val, .int .i64 x5.Dep]]) Ty.s39 Ty.z41 rfl rfl rfl rfl rfl (aw' := [.arr 41 3 (List.map encItem [x4, x5])]) rfl ?_)
  refine RS.op rfl (o_buildSlice (rows := List.map encI [1, 1, 0]) (vs := [.int .i64 1, .int .i64 1, .int .i64 0]) Ty.s24 Ty.z3 rfl rfl rfl rfl rfl (aw' := [.arr 41 3 (List.map encItem [x4, x5]), .arr 3 1 (List.map encI [1, 1, 0])]) rfl ?_)
  refine RS.op rfl (o_call (as0 := [.ref 0, .int .i64 2, .ref 1]) (as1 := [.sl (List.map encItem ([x4, x5] : List Item)), .int .i64 (2 : Int), .sl (List.map encI ([1, 1, 0] : List Int))]) (caps := []) (aw1 := [.dead, .dead]) rfl rfl rfl (k_own' (v := .tup [.ref 0, .ref 1, .int .i64 x6.2.2]) (obs := [.arr 41 3 (List.map encItem x6.1), .arr 41 3 (List.map encItem x6.2.1)]) (v' := .tup [.ref 2, .ref 3, .int .i64 x6.2.2]) (aw' := [.arr 41 3 (List.map encItem [x4, x5]), .arr 3 1 (List.map encI [1, 1, 0]), .arr 41 3 (List.map encItem x6.1), .arr 41 3 (List.map encItem x6.2.1)]) (ring_Pass_c ([x4, x5] : List Item) (2 : Int) ([1, 1, 0] : List Int) x6 hx6) (⟨pure_map encItem_p _, pure_int _ _, pure_map encI_p _, trivial⟩) rfl (obs_cons (flatOb_map fun _ => rfl) (obs_cons (flatOb_map fun _ => rfl) obs_nil)) rfl rfl ?_))
  refine RS.op rfl (OP.q rfl (v_move (v := .tup [.ref 2, .ref 3, .int .i64 x6.2.2]) rfl ?_))
  refine RS.op rfl (OP.q rfl (v_extract (v := .ref 2) rfl rfl ?_))
  refine RS.op rfl (OP.q rfl (v_extract (v := .ref 3) rfl rfl ?_))
  refine RS.op rfl (OP.q rfl (v_extract (v := .int .i64 x6.2.2) rfl rfl ?_))
  refine RS.op rfl (OP.q rfl (v_assign (v := .ref 2) rfl ?_))
  refine RS.op rfl (OP.q rfl (v_assign (v := .ref 3) rfl ?_))
  refine RS.op rfl (OP.q rfl (v_assign (v := .int .i64 x6.2.2) rfl ?_))
  refine RS.nil ?_
  obtain ⟨zt_3, hz, h⟩ := bind_some h
  revert hz h; revert zt_3; intro c11 hz h
  refine T.join (Z := Unit) (fun _ => mkA 27 [(0, .bool c11)]) (fun _ => []) (fun _ => True) (fun _ _ => ?_) (fun hK => ?_)
  · show T _ _ _ _ (mkA 27 [(0, .bool c11)]) []
    refine T.ret' (R := ?R4) ?hq4 ?_
    case hq4 => repeat (first | exact RetIs.base | refine RetIs.thn ?_ | refine RetIs.blk ?_ | refine RetIs.lq ?_)
    refine res_tmpA (v := .bool c11) rfl ?_
    refine res_done ?_
    exact ret_data (v := .bool c11) rfl (pure_bool _) ⟨congrArg (fun r : Bool => (.bool r : AV)) (Option.some.inj h), rfl⟩
  · rcases bool_cases (x6.2.2 == 0) with hb_1 | hb_1
    · replace hz := ite_T hz hb_1
      obtain ⟨x7, hx7, hz⟩ := bind_some hz
      obtain ⟨x8, hx8, hz⟩ := bind_some hz
      rcases bool_cases x8 with hb_2 | hb_2
      · replace hz := ite_T hz hb_2
        obtain ⟨x9, hx9, hz⟩ := bind_some hz
        obtain ⟨x10, hx10, hz⟩ := bind_some hz
        refine T.region ?_
        refine RS.op rfl (OP.q rfl (v_move (v := .int .i64 x6.2.2) rfl ?_))
        refine RS.op rfl (OP.q rfl (v_eql rfl rfl ?_))
        refine RS.op rfl (OP.q rfl (v_move (v := .bool (x6.2.2 == 0)) rfl ?_))
        refine RS.yes rfl rfl rfl hb_1 (OP.q rfl (v_move (v := .ref 2) rfl ?_))
        refine RS.yes rfl rfl rfl hb_1 (o_call (as0 := [.int .i64 1, .int .i64 2]) (as1 := [.int .i64 (1 : Int), .int .i64 (2 : Int)]) (caps := []) (aw1 := [.arr 41 3 (List.map encItem [x4, x5]), .arr 3 1 (List.map encI [1, 1, 0]), .arr 41 3 (List.map encItem x6.1), .arr 41 3 (List.map encItem x6.2.1)]) rfl rfl rfl (k_flat (v := .agg [.int .i64 x7.Key, .int .i64 x7.Val, .int .i64 x7.Dep]) (crosslaw_item_c (1 : Int) (2 : Int) x7 hx7) (⟨pure_int _ _, pure_int _ _, trivial⟩) rfl ?_))
        refine RS.yes rfl rfl rfl hb_1 (o_buildSlice (rows := List.map encItem [x7]) (vs := [.agg [.int .i64 x7.Key, .int .i64 x7.Val, .int .i64 x7.Dep]]) Ty.s39 Ty.z41 rfl rfl rfl rfl rfl (aw' := [.arr 41 3 (List.map encItem [x4, x5]), .arr 3 1 (List.map encI [1, 1, 0]), .arr 41 3 (List.map encItem x6.1), .arr 41 3 (List.map encItem x6.2.1), .arr 41 3 (List.map encItem [x7])]) rfl ?_)
        refine RS.yes rfl rfl rfl hb_1 (o_call (as0 := [.ref 2, .ref 4]) (as1 := [.sl (List.map encItem x6.1), .sl (List.map encItem ([x7] : List Item))]) (caps := []) (aw1 := [.arr 41 3 (List.map encItem [x4, x5]), .arr 3 1 (List.map encI [1, 1, 0]), .dead, .arr 41 3 (List.map encItem x6.2.1), .dead]) rfl rfl rfl (k_flat (v := .bool x8) (slices_Equal_Item_c x6.1 ([x7] : List Item) x8 hx8) (⟨pure_map encItem_p _, pure_map encItem_p _, trivial⟩) rfl ?_))
        refine RS.op rfl (OP.q rfl (v_pickT (v := .bool x8) rfl hb_1 rfl ?_))
        refine RS.op rfl (OP.q rfl (v_move (v := .bool x8) rfl ?_))
        refine RS.yes rfl rfl rfl hb_2 (OP.q rfl (v_move (v := .ref 3) rfl ?_))
        refine RS.yes rfl rfl rfl hb_2 (o_call (as0 := [.int .i64 3, .int .i64 4]) (as1 := [.int .i64 (3 : Int), .int .i64 (4 : Int)]) (caps := []) (aw1 := [.arr 41 3 (List.map encItem [x4, x5]), .arr 3 1 (List.map encI [1, 1, 0]), .arr 41 3 (List.map encItem x6.1), .arr 41 3 (List.map encItem x6.2.1), .arr 41 3 (List.map encItem [x7])]) rfl rfl rfl (k_flat (v := .agg [.int .i64 x9.Key, .int .i64 x9.Val, .int .i64 x9.Dep]) (crosslaw_item_c (3 : Int) (4 : Int) x9 hx9) (⟨pure_int _ _, pure_int _ _, trivial⟩) rfl ?_))
        refine RS.yes rfl rfl rfl hb_2 (o_buildSlice (rows := List.map encItem [x9]) (vs := [.agg [.int .i64 x9.Key, .int .i64 x9.Val, .int .i64 x9.Dep]]) Ty.s39 Ty.z41 rfl rfl rfl rfl rfl (aw' := [.arr 41 3 (List.map encItem [x4, x5]), .arr 3 1 (List.map encI [1, 1, 0]), .arr 41 3 (List.map encItem x6.1), .arr 41 3 (List.map encItem x6.2.1), .arr 41 3 (List.map encItem [x7]), .arr 41 3 (List.map encItem [x9])]) rfl ?_)
        refine RS.yes rfl rfl rfl hb_2 (o_call (as0 := [.ref 3, .ref 5]) (as1 := [.sl (List.map encItem x6.2.1), .sl (List.map encItem ([x9] : List Item))]) (caps := []) (aw1 := [.arr 41 3 (List.map encItem [x4, x5]), .arr 3 1 (List.map encI [1, 1, 0]), .arr 41 3 (List.map encItem x6.1), .dead, .arr 41 3 (List.map encItem [x7]), .dead]) rfl rfl rfl (k_flat (v := .bool x10) (slices_Equal_Item_c x6.2.1 ([x9] : List Item) x10 hx10) (⟨pure_map encItem_p _, pure_map encItem_p _, trivial⟩) rfl ?_))
        refine RS.op rfl (OP.q rfl (v_pickT (v := .bool x10) rfl hb_2 rfl ?_))
        refine RS.op rfl (OP.q rfl (v_assign (v := .bool x10) rfl ?_))
        refine RS.nil ?_
        exact T.weakR (hK () trivial) (Weak.mkN [] [] (by decide) (none_kept _) rfl ⟨rn_bool ((congrArg (fun p => p) (Option.some.inj hz)).symm), trivial⟩ (rw_nil))
      · replace hz := ite_F hz hb_2
        refine T.region ?_
        refine RS.op rfl (OP.q rfl (v_move (v := .int .i64 x6.2.2) rfl ?_))
        refine RS.op rfl (OP.q rfl (v_eql rfl rfl ?_))
        refine RS.op rfl (OP.q rfl (v_move (v := .bool (x6.2.2 == 0)) rfl ?_))
        refine RS.yes rfl rfl rfl hb_1 (OP.q rfl (v_move (v := .ref 2) rfl ?_))
        refine RS.yes rfl rfl rfl hb_1 (o_call (as0 := [.int .i64 1, .int .i64 2]) (as1 := [.int .i64 (1 : Int), .int .i64 (2 : Int)]) (caps := []) (aw1 := [.arr 41 3 (List.map encItem [x4, x5]), .arr 3 1 (List.map encI [1, 1, 0]), .arr 41 3 (List.map encItem x6.1), .arr 41 3 (List.map encItem x6.2.1)]) rfl rfl rfl (k_flat (v := .agg [.int .i64 x7.Key, .int .i64 x7.Val, .int .i64 x7.Dep]) (crosslaw_item_c (1 : Int) (2 : Int) x7 hx7) (⟨pure_int _ _, pure_int _ _, trivial⟩) rfl ?_))
        refine RS.yes rfl rfl rfl hb_1 (o_buildSlice (rows := List.map encItem [x7]) (vs := [.agg [.int .i64 x7.Key, .int .i64 x7.Val, .int .i64 x7.Dep]]) Ty.s39 Ty.z41 rfl rfl rfl rfl rfl (aw' := [.arr 41 3 (List.map encItem [x4, x5]), .arr 3 1 (List.map encI [1, 1, 0]), .arr 41 3 (List.map encItem x6.1), .arr 41 3 (List.map encItem x6.2.1), .arr 41 3 (List.map encItem [x7])]) rfl ?_)
        refine RS.yes rfl rfl rfl hb_1 (o_call (as0 := [.ref 2, .ref 4]) (as1 := [.sl (List.map encItem x6.1), .sl (List.map encItem ([x7] : List Item))]) (caps := []) (aw1 := [.arr 41 3 (List.map encItem [x4, x5]), .arr 3 1 (List.map encI [1, 1, 0]), .dead, .arr 41 3 (List.map encItem x6.2.1), .dead]) rfl rfl rfl (k_flat (v := .bool x8) (slices_Equal_Item_c x6.1 ([x7] : List Item) x8 hx8) (⟨pure_map encItem_p _, pure_map encItem_p _, trivial⟩) rfl ?_))
        refine RS.op rfl (OP.q rfl (v_pickT (v := .bool x8) rfl hb_1 rfl ?_))
        refine RS.op rfl (OP.q rfl (v_move (v := .bool x8) rfl ?_))
        refine RS.no rfl rfl rfl hb_2 ?_
        refine RS.no rfl rfl rfl hb_2 ?_
        refine RS.no rfl rfl rfl hb_2 ?_
        refine RS.no rfl rfl rfl hb_2 ?_
        refine RS.op rfl (OP.q rfl (v_pickF (v := .bool false) rfl hb_2 rfl ?_))
        refine RS.op rfl (OP.q rfl (v_assign (v := .bool false) rfl ?_))
        refine RS.nil ?_
        exact T.weakR (hK () trivial) (Weak.mkN [] [] (by decide) (none_kept _) rfl ⟨rn_bool ((congrArg (fun p => p) (Option.some.inj hz)).symm), trivial⟩ (rw_nil))
    · replace hz := ite_F hz hb_1
      refine T.region ?_
      refine RS.op rfl (OP.q rfl (v_move (v := .int .i64 x6.2.2) rfl ?_))
      refine RS.op rfl (OP.q rfl (v_eql rfl rfl ?_))
      refine RS.op rfl (OP.q rfl (v_move (v := .bool (x6.2.2 == 0)) rfl ?_))
      refine RS.no rfl rfl rfl hb_1 ?_
      refine RS.no rfl rfl rfl hb_1 ?_
      refine RS.no rfl rfl rfl hb_1 ?_
      refine RS.no rfl rfl rfl hb_1 ?_
      refine RS.op rfl (OP.q rfl (v_pickF (v := .bool false) rfl hb_1 rfl ?_))
      refine RS.op rfl (OP.q rfl (v_move (v := .bool false) rfl ?_))
      refine RS.no rfl rfl rfl rfl ?_
      refine RS.no rfl rfl rfl rfl ?_
      refine RS.no rfl rfl rfl rfl ?_
      refine RS.no rfl rfl rfl rfl ?_
      refine RS.op rfl (OP.q rfl (v_pickF (v := .bool false) rfl rfl rfl ?_))
      refine RS.op rfl (OP.q rfl (v_assign (v := .bool false) rfl ?_))
      refine RS.nil ?_
      exact T.weakR (hK () trivial) (Weak.mkN [] [] (by decide) (none_kept _) rfl ⟨rn_bool ((congrArg (fun p => p) (Option.some.inj hz)).symm), trivial⟩ (rw_nil))
theorem crosslaw_RingPut_c (p0 : List Item) (p1 : Int) (p2 : Item) (r : Bool) (h : crosslaw_RingPut p0 p1 p2 = some r) : Fn Try.prog 6 [.sl (List.map encItem p0), .int .i64 p1, .agg [.int .i64 p2.Key, .int .i64 p2.Val, .int .i64 p2.Dep]] (.bool r) := by
  unfold crosslaw_RingPut at h
  refine fn_of_T (N := 0) rfl Try.func6 rfl (by kernel_rfl) Try.ntmps6 rfl ?_
  show T _ _ _ _ (mkA 124 [(0, .sl (List.map encItem p0)), (1, .int .i64 p1), (2, .agg [.int .i64 p2.Key, .int .i64 p2.Val, .int .i64 p2.Dep])]) []
  refine T.seq ?_
  refine T.region ?_
  refine RS.op rfl (o_box (cs := [.int .i64 p2.Key, .int .i64 p2.Val, .int .i64 p2.Dep]) rfl rfl (aw' := [.box [.int .i64 p2.Key, .int .i64 p2.Val, .int .i64 p2.Dep]]) rfl ?_)
  refine RS.op rfl (OP.q rfl (v_assign (v := .bool false) rfl ?_))
  refine RS.nil ?_
  refine T.seq ?_
  obtain ⟨x2, hx2, h⟩ := bind_some h
  refine T.region ?_
  refine RS.op rfl (OP.q rfl (v_move (v := .sl (List.map encItem p0)) rfl ?_))
  refine RS.op rfl (o_call (as0 := [.sl (List.map encItem p0)]) (as1 := [.sl (List.map encItem p0)]) (caps := []) (aw1 := [.box [.int .i64 p2.Key, .int .i64 p2.Val, .int .i64 p2.Dep]]) rfl rfl rfl (k_own' (v := .ref 0) (obs := [.arr 41 3 (List.map encItem x2)]) (v' := .ref 1) (aw' := [.box [.int .i64 p2.Key, .int .i64 p2.Val, .int .i64 p2.Dep], .arr 41 3 (List.map encItem x2)]) (slices_Clone_Item_c p0 x2 hx2) (⟨pure_map encItem_p _, trivial⟩) rfl (obs_cons (flatOb_map fun _ => rfl) obs_nil) rfl rfl ?_))
  refine RS.op rfl (OP.q rfl (v_assign (v := .ref 1) rfl ?_))
  refine RS.nil ?_
  refine T.seq ?_
  obtain ⟨x4, hx4, h⟩ := bind_some h
  refine T.region ?_
  refine RS.op rfl (OP.q rfl (v_move (v := .ref 1) rfl ?_))
  refine RS.op rfl (OP.q rfl (v_move (v := .int .i64 p1) rfl ?_))
  refine RS.op rfl (o_load_ptr rfl rfl (loadRowA Ty.k41 Ty.c41 rfl (cs := [.int .i64 p2.Key, .int .i64 p2.Val, .int .i64 p2.Dep]) rfl ?_))
  refine RS.op rfl (o_call (as0 := [.ref 1, .int .i64 p1, .agg [.int .i64 p2.Key, .int .i64 p2.Val, .int .i64 p2.Dep]]) (as1 := [.sl (List.map encItem x2), .int .i64 p1, .agg [.int .i64 p2.Key, .int .i64 p2.Val, .int .i64 p2.Dep]]) (caps := []) (aw1 := [.box [.int .i64 p2.Key, .int .i64 p2.Val, .int .i64 p2.Dep], .dead]) rfl rfl rfl (k_own' (v := .tup [.ref 0, .int .i64 x4.2]) (obs := [.arr 41 3 (List.map encItem x4.1)]) (v' := .tup [.ref 2, .int .i64 x4.2]) (aw' := [.box [.int .i64 p2.Key, .int .i64 p2.Val, .int .i64 p2.Dep], .arr 41 3 (List.map encItem x2), .arr 41 3 (List.map encItem x4.1)]) (ring_Put_c x2 p1 p2 x4 hx4) (⟨pure_map encItem_p _, pure_int _ _, pure_agg _ (pures_mem (⟨pure_int _ _, pure_int _ _, pure_int _ _, trivial⟩)), trivial⟩) rfl (obs_cons (flatOb_map fun _ => rfl) obs_nil) rfl rfl ?_))
  refine RS.op rfl (OP.q rfl (v_move (v := .tup [.ref 2, .int .i64 x4.2]) rfl ?_))
  refine RS.op rfl (OP.q rfl (v_extract (v := .ref 2) rfl rfl ?_))
  refine RS.op rfl (OP.q rfl (v_extract (v := .int .i64 x4.2) rfl rfl ?_))
  refine RS.op rfl (OP.q rfl (v_assign (v := .ref 2) rfl ?_))
  refine RS.op rfl (OP.q rfl (v_assign (v := .int .i64 x4.2) rfl ?_))
  refine RS.nil ?_
  refine T.seq ?_
  obtain ⟨x6, hx6, h⟩ := bind_some h
  refine T.region ?_
  refine RS.op rfl (OP.q rfl (v_move (v := .ref 1) rfl ?_))
  refine RS.op rfl (o_call (as0 := [.ref 1]) (as1 := [.sl (List.map encItem x2)]) (caps := []) (aw1 := [.box [.int .i64 p2.Key, .int .i64 p2.Val, .int .i64 p2.Dep], .dead, .arr 41 3 (List.map encItem x4.1)]) rfl rfl rfl (k_own' (v := .tup [.agg [.int .i64 x6.1.Key, .int .i64 x6.1.Val, .int .i64 x6.1.Dep], .ref 0, .int .i64 x6.2.2]) (obs := [.arr 41 3 (List.map encItem x6.2.1)]) (v' := .tup [.agg [.int .i64 x6.1.Key, .int .i64 x6.1.Val, .int .i64 x6.1.Dep], .ref 3, .int .i64 x6.2.2]) (aw' := [.box [.int .i64 p2.Key, .int .i64 p2.Val, .int .i64 p2.Dep], .arr 41 3 (List.map encItem x2), .arr 41 3 (List.map encItem x4.1), .arr 41 3 (List.map encItem x6.2.1)]) (ring_Take_c x2 x6 hx6) (⟨pure_map encItem_p _, trivial⟩) rfl (obs_cons (flatOb_map fun _ => rfl) obs_nil) rfl rfl ?_))
  refine RS.op rfl (OP.q rfl (v_move (v := .tup [.agg [.int .i64 x6.1.Key, .int .i64 x6.1.Val, .int .i64 x6.1.Dep], .ref 3, .int .i64 x6.2.2]) rfl ?_))
  refine RS.op rfl (OP.q rfl (v_extract (v := .agg [.int .i64 x6.1.Key, .int .i64 x6.1.Val, .int .i64 x6.1.Dep]) rfl rfl ?_))
  refine RS.op rfl (OP.q rfl (v_extract (v := .ref 3) rfl rfl ?_))
  refine RS.op rfl (OP.q rfl (v_extract (v := .int .i64 x6.2.2) rfl rfl ?_))
  refine RS.op rfl (o_alloc Ty.z41 rfl (aw' := [.box [.int .i64 p2.Key, .int .i64 p2.Val, .int .i64 p2.Dep], .arr 41 3 (List.map encItem x2), .arr 41 3 (List.map encItem x4.1), .arr 41 3 (List.map encItem x6.2.1), .box [.int .i64 0, .int .i64 0, .int .i64 0]]) rfl ?_)
  refine RS.op rfl (o_store_ptr Ty.c41 Ty.i41 rfl (vs := [.int .i64 x6.1.Key, .int .i64 x6.1.Val, .int .i64 x6.1.Dep]) rfl rfl rfl rfl (cs' := [.int .i64 x6.1.Key, .int .i64 x6.1.Val, .int .i64 x6.1.Dep]) rfl (aw' := [.box [.int .i64 p2.Key, .int .i64 p2.Val, .int .i64 p2.Dep], .arr 41 3 (List.map encItem x2), .arr 41 3 (List.map encItem x4.1), .arr 41 3 (List.map encItem x6.2.1), .box [.int .i64 x6.1.Key, .int .i64 x6.1.Val, .int .i64 x6.1.Dep]]) rfl ?_)
  refine RS.op rfl (OP.q rfl (v_assign (v := .ref 3) rfl ?_))
  refine RS.op rfl (OP.q rfl (v_assign (v := .int .i64 x6.2.2) rfl ?_))
  refine RS.nil ?_
  refine T.seq ?_
  obtain ⟨x7, hx7, h⟩ := bind_some h
  obtain ⟨zt_2, hz, h⟩ := bind_some h
  revert hz h; revert zt_2; intro c9 hz h
  refine T.join (Z := Unit) (fun _ => mkA 124 [(0, .sl (List.map encItem p0)), (1, .int .i64 p1), (5, .ptr 0 0), (7, .ref 1), (8, .ref 2), (9, .int .i64 x4.2), (10, .ptr 3 0), (11, .ref 4), (12, .int .i64 x6.2.2), (36, .bool c9)]) (fun _ => [.box [.int .i64 p2.Key, .int .i64 p2.Val, .int .i64 p2.Dep], .arr 41 3 (List.map encItem x2), .arr 41 3 (List.map encItem x4.1), .box [.int .i64 x6.1.Key, .int .i64 x6.1.Val, .int .i64 x6.1.Dep], .arr 41 3 (List.map encItem x6.2.1)]) (fun _ => True) (fun _ _ => ?_) (fun hK => ?_)
  · show T _ _ _ _ (mkA 124 [(0, .sl (List.map encItem p0)), (1, .int .i64 p1), (5, .ptr 0 0), (7, .ref 1), (8, .ref 2), (9, .int .i64 x4.2), (10, .ptr 3 0), (11, .ref 4), (12, .int .i64 x6.2.2), (36, .bool c9)]) [.box [.int .i64 p2.Key, .int .i64 p2.Val, .int .i64 p2.Dep], .arr 41 3 (List.map encItem x2), .arr 41 3 (List.map encItem x4.1), .box [.int .i64 x6.1.Key, .int .i64 x6.1.Val, .int .i64 x6.1.Dep], .arr 41 3 (List.map encItem x6.2.1)]
    refine T.cond (b := c9) rfl (fun hb_3 => ?_) (fun hb_3 => ?_)
    · replace h := ite_T h hb_3
      refine T.seq ?_
      refine T.region ?_
      refine RS.op rfl (OP.q rfl (v_assign (v := .bool false) rfl ?_))
      refine RS.nil ?_
      refine T.ret' (R := ?R4) ?hq4 ?_
      case hq4 => repeat (first | exact RetIs.base | refine RetIs.thn ?_ | refine RetIs.blk ?_ | refine RetIs.lq ?_)
      refine res_tmpA (v := .bool false) rfl ?_
      refine res_done ?_
      exact ret_data (v := .bool false) rfl (pure_bool _) ⟨congrArg (fun r : Bool => (.bool r : AV)) (Option.some.inj h), rfl⟩
    · replace h := ite_F h hb_3
      refine T.skip ?_
      refine T.seq ?_
      refine T.region ?_
      refine RS.op rfl (OP.q rfl (v_assign (v := .int .i64 0) rfl ?_))
      refine RS.nil ?_
      refine T.join (Z := Int) (fun zz_9 => mkA 124 [(0, .sl (List.map encItem p0)), (5, .ptr 0 0), (7, .ref 1), (8, .ref 2), (9, .int .i64 x4.2), (10, .ptr 3 0), (11, .ref 4), (12, .int .i64 x6.2.2), (13, .int .i64 zz_9)]) (fun zz_9 => [.box [.int .i64 p2.Key, .int .i64 p2.Val, .int .i64 p2.Dep], .arr 41 3 (List.map encItem x2), .arr 41 3 (List.map encItem x4.1), .box [.int .i64 x6.1.Key, .int .i64 x6.1.Val, .int .i64 x6.1.Dep], .arr 41 3 (List.map encItem x6.2.1)]) (fun zz_9 => crosslaw_RingPut_k1 p0 p2 x2 x4 x6 zz_9 = some r) (fun zz_9 h => ?_) (fun hK1 => ?_)
      · revert h; revert zz_9; intro z10 h
        replace h : crosslaw_RingPut_k1 p0 p2 x2 x4 x6 z10 = some r := h
        show T _ _ _ _ (mkA 124 [(0, .sl (List.map encItem p0)), (5, .ptr 0 0), (7, .ref 1), (8, .ref 2), (9, .int .i64 x4.2), (10, .ptr 3 0), (11, .ref 4), (12, .int .i64 x6.2.2), (13, .int .i64 z10)]) [.box [.int .i64 p2.Key, .int .i64 p2.Val, .int .i64 p2.Dep], .arr 41 3 (List.map encItem x2), .arr 41 3 (List.map encItem x4.1), .box [.int .i64 x6.1.Key, .int .i64 x6.1.Val, .int .i64 x6.1.Dep], .arr 41 3 (List.map encItem x6.2.1)]
        unfold crosslaw_RingPut_k1 at h
        refine T.seq ?_
        obtain ⟨zt_15, hz, h⟩ := bind_some h
        revert hz h; revert zt_15; intro c15 hz h
        refine T.join (Z := Unit) (fun _ => mkA 124 [(0, .sl (List.map encItem p0)), (10, .ptr 0 0), (11, .ref 1), (12, .int .i64 x6.2.2), (78, .bool c15)]) (fun _ => [.box [.int .i64 x6.1.Key, .int .i64 x6.1.Val, .int .i64 x6.1.Dep], .arr 41 3 (List.map encItem x6.2.1)]) (fun _ => True) (fun _ _ => ?_) (fun hK => ?_)
        · show T _ _ _ _ (mkA 124 [(0, .sl (List.map encItem p0)), (10, .ptr 0 0), (11, .ref 1), (12, .int .i64 x6.2.2), (78, .bool c15)]) [.box [.int .i64 x6.1.Key, .int .i64 x6.1.Val, .int .i64 x6.1.Dep], .arr 41 3 (List.map encItem x6.2.1)]
          refine T.cond (b := c15) rfl (fun hb_16 => ?_) (fun hb_16 => ?_)
          · replace h := ite_T h hb_16
            refine T.seq ?_
            refine T.region ?_
            refine RS.op rfl (OP.q rfl (v_assign (v := .bool false) rfl ?_))
            refine RS.nil ?_
            refine T.ret' (R := ?R17) ?hq17 ?_
            case hq17 => repeat (first | exact RetIs.base | refine RetIs.thn ?_ | refine RetIs.blk ?_ | refine RetIs.lq ?_)
            refine res_tmpA (v := .bool false) rfl ?_
            refine res_done ?_
            exact ret_data (v := .bool false) rfl (pure_bool _) ⟨congrArg (fun r : Bool => (.bool r : AV)) (Option.some.inj h), rfl⟩
          · replace h := ite_F h hb_16
            refine T.skip ?_
            refine T.seq ?_
            refine T.seq ?_
            refine T.region ?_
            refine RS.op rfl (OP.q rfl (v_move (v := .sl (List.map encItem p0)) rfl ?_))
            refine RS.op rfl (OP.q rfl (v_len_sl Ty.s39 rfl ?_))
            refine RS.op rfl (OP.q rfl (v_gtr rfl rfl ?_))
            refine RS.nil ?_
            refine T.cond (b := decide (((p0).length : Int) > 6)) rfl (fun hb_18 => ?_) (fun hb_18 => ?_)
            · replace h := ite_T h hb_18
              refine T.join (Z := Unit) (fun _ => mkA 124 [(6, .bool ((x6.2.2 == 2) && ((x6.1 == (⟨0, 0, 0⟩ : Item)) && ((x6.2.1).length : Int) == 0)))]) (fun _ => []) (fun _ => True) (fun _ _ => ?_) (fun hK => ?_)
              · show T _ _ _ _ (mkA 124 [(6, .bool ((x6.2.2 == 2) && ((x6.1 == (⟨0, 0, 0⟩ : Item)) && ((x6.2.1).length : Int) == 0)))]) []
                refine T.ret' (R := ?R21) ?hq21 ?_
                case hq21 => repeat (first | exact RetIs.base | refine RetIs.thn ?_ | refine RetIs.blk ?_ | refine RetIs.lq ?_)
                refine res_tmpA (v := .bool ((x6.2.2 == 2) && ((x6.1 == (⟨0, 0, 0⟩ : Item)) && ((x6.2.1).length : Int) == 0))) rfl ?_
                refine res_done ?_
                exact ret_data (v := .bool ((x6.2.2 == 2) && ((x6.1 == (⟨0, 0, 0⟩ : Item)) && ((x6.2.1).length : Int) == 0))) rfl (pure_bool _) ⟨congrArg (fun r : Bool => (.bool r : AV)) (Option.some.inj h), rfl⟩
              · rcases bool_cases (x6.2.2 == 2) with hb_19 | hb_19
                · rcases bool_cases (x6.1 == (⟨0, 0, 0⟩ : Item)) with hb_20 | hb_20
                  · refine T.region ?_
                    refine RS.op rfl (OP.q rfl (v_move (v := .int .i64 x6.2.2) rfl ?_))
                    refine RS.op rfl (OP.q rfl (v_eql rfl rfl ?_))
                    refine RS.op rfl (OP.q rfl (v_move (v := .bool (x6.2.2 == 2)) rfl ?_))
                    refine RS.yes rfl rfl rfl hb_19 (o_load_ptr rfl rfl (loadRowA Ty.k41 Ty.c41 rfl (cs := [.int .i64 x6.1.Key, .int .i64 x6.1.Val, .int .i64 x6.1.Dep]) rfl ?_))
                    refine RS.yes rfl rfl rfl hb_19 (OP.q rfl (v_build (cs := [.int .i64 0, .int .i64 0, .int .i64 0]) Ty.z41 Ty.p41 rfl ?_))
                    refine RS.yes rfl rfl rfl hb_19 (OP.q rfl (v_geql (cs := [.int .i64 x6.1.Key, .int .i64 x6.1.Val, .int .i64 x6.1.Dep]) (ds := [.int .i64 0, .int .i64 0, .int .i64 0]) (r := x6.1 == (⟨0, 0, 0⟩ : Item)) Ty.q41 rfl rfl rfl rfl (encItem_eq x6.1 (⟨0, 0, 0⟩ : Item)) ?_))
                    refine RS.op rfl (OP.q rfl (v_pickT (v := .bool (x6.1 == (⟨0, 0, 0⟩ : Item))) rfl hb_19 rfl ?_))
                    refine RS.op rfl (OP.q rfl (v_move (v := .bool (x6.1 == (⟨0, 0, 0⟩ : Item))) rfl ?_))
                    refine RS.yes rfl rfl rfl hb_20 (OP.q rfl (v_move (v := .ref 1) rfl ?_))
                    refine RS.yes rfl rfl rfl hb_20 (OP.q rfl (v_len_ref (en := encItem) Ty.s39 rfl rfl ?_))
                    refine RS.yes rfl rfl rfl hb_20 (OP.q rfl (v_eql rfl rfl ?_))
                    refine RS.op rfl (OP.q rfl (v_pickT (v := .bool (((x6.2.1).length : Int) == 0)) rfl hb_20 rfl ?_))
                    refine RS.op rfl (OP.q rfl (v_assign (v := .bool (((x6.2.1).length : Int) == 0)) rfl ?_))
                    refine RS.nil ?_
                    exact T.weakR (hK () trivial) (Weak.mkN [] [] (by decide) (none_kept _) rfl ⟨rn_bool (by simp only [hb_19, hb_20, Bool.true_or, Bool.or_true, Bool.false_or, Bool.or_false, Bool.true_and, Bool.and_true, Bool.false_and, Bool.and_false, Bool.not_true, Bool.not_false, if_true, if_false, Bool.false_eq_true, reduceIte]), trivial⟩ (rw_nil))
                  · refine T.region ?_
                    refine RS.op rfl (OP.q rfl (v_move (v := .int .i64 x6.2.2) rfl ?_))
                    refine RS.op rfl (OP.q rfl (v_eql rfl rfl ?_))
                    refine RS.op rfl (OP.q rfl (v_move (v := .bool (x6.2.2 == 2)) rfl ?_))
                    refine RS.yes rfl rfl rfl hb_19 (o_load_ptr rfl rfl (loadRowA Ty.k41 Ty.c41 rfl (cs := [.int .i64 x6.1.Key, .int .i64 x6.1.Val, .int .i64 x6.1.Dep]) rfl ?_))
                    refine RS.yes rfl rfl rfl hb_19 (OP.q rfl (v_build (cs := [.int .i64 0, .int .i64 0, .int .i64 0]) Ty.z41 Ty.p41 rfl ?_))
                    refine RS.yes rfl rfl rfl hb_19 (OP.q rfl (v_geql (cs := [.int .i64 x6.1.Key, .int .i64 x6.1.Val, .int .i64 x6.1.Dep]) (ds := [.int .i64 0, .int .i64 0, .int .i64 0]) (r := x6.1 == (⟨0, 0, 0⟩ : Item)) Ty.q41 rfl rfl rfl rfl (encItem_eq x6.1 (⟨0, 0, 0⟩ : Item)) ?_))
                    refine RS.op rfl (OP.q rfl (v_pickT (v := .bool (x6.1 == (⟨0, 0, 0⟩ : Item))) rfl hb_19 rfl ?_))
                    refine RS.op rfl (OP.q rfl (v_move (v := .bool (x6.1 == (⟨0, 0, 0⟩ : Item))) rfl ?_))
                    refine RS.no rfl rfl rfl hb_20 ?_
                    refine RS.no rfl rfl rfl hb_20 ?_
                    refine RS.no rfl rfl rfl hb_20 ?_
                    refine RS.op rfl (OP.q rfl (v_pickF (v := .bool false) rfl hb_20 rfl ?_))
                    refine RS.op rfl (OP.q rfl (v_assign (v := .bool false) rfl ?_))
                    refine RS.nil ?_
                    exact T.weakR (hK () trivial) (Weak.mkN [] [] (by decide) (none_kept _) rfl ⟨rn_bool (by simp only [hb_19, hb_20, Bool.true_or, Bool.or_true, Bool.false_or, Bool.or_false, Bool.true_and, Bool.and_true, Bool.false_and, Bool.and_false, Bool.not_true, Bool.not_false, if_true, if_false, Bool.false_eq_true, reduceIte]), trivial⟩ (rw_nil))
                · refine T.region ?_
                  refine RS.op rfl (OP.q rfl (v_move (v := .int .i64 x6.2.2) rfl ?_))
                  refine RS.op rfl (OP.q rfl (v_eql rfl rfl ?_))
                  refine RS.op rfl (OP.q rfl (v_move (v := .bool (x6.2.2 == 2)) rfl ?_))
                  refine RS.no rfl rfl rfl hb_19 ?_
                  refine RS.no rfl rfl rfl hb_19 ?_
                  refine RS.no rfl rfl rfl hb_19 ?_
                  refine RS.op rfl (OP.q rfl (v_pickF (v := .bool false) rfl hb_19 rfl ?_))
                  refine RS.op rfl (OP.q rfl (v_move (v := .bool false) rfl ?_))
                  refine RS.no rfl rfl rfl rfl ?_
                  refine RS.no rfl rfl rfl rfl ?_
                  refine RS.no rfl rfl rfl rfl ?_
                  refine RS.op rfl (OP.q rfl (v_pickF (v := .bool false) rfl rfl rfl ?_))
                  refine RS.op rfl (OP.q rfl (v_assign (v := .bool false) rfl ?_))
                  refine RS.nil ?_
                  exact T.weakR (hK () trivial) (Weak.mkN [] [] (by decide) (none_kept _) rfl ⟨rn_bool (by simp only [hb_19, Bool.true_or, Bool.or_true, Bool.false_or, Bool.or_false, Bool.true_and, Bool.and_true, Bool.false_and, Bool.and_false, Bool.not_true, Bool.not_false, if_true, if_false, Bool.false_eq_true, reduceIte]), trivial⟩ (rw_nil))
            · replace h := ite_F h hb_18
              refine T.skip ?_
              refine T.seq ?_
              refine T.seq ?_
              refine T.region ?_
              refine RS.op rfl (OP.q rfl (v_move (v := .sl (List.map encItem p0)) rfl ?_))
              refine RS.op rfl (OP.q rfl (v_len_sl Ty.s39 rfl ?_))
              refine RS.op rfl (OP.q rfl (v_eql rfl rfl ?_))
              refine RS.nil ?_
              refine T.cond (b := ((p0).length : Int) == 0) rfl (fun hb_22 => ?_) (fun hb_22 => ?_)
              · replace h := ite_T h hb_22
                refine T.join (Z := Unit) (fun _ => mkA 124 [(6, .bool ((x6.2.2 == 9) && ((x6.1 == (⟨0, 0, 0⟩ : Item)) && ((x6.2.1).length : Int) == 0)))]) (fun _ => []) (fun _ => True) (fun _ _ => ?_) (fun hK => ?_)
                · show T _ _ _ _ (mkA 124 [(6, .bool ((x6.2.2 == 9) && ((x6.1 == (⟨0, 0, 0⟩ : Item)) && ((x6.2.1).length : Int) == 0)))]) []
                  refine T.ret' (R := ?R25) ?hq25 ?_
                  case hq25 => repeat (first | exact RetIs.base | refine RetIs.thn ?_ | refine RetIs.blk ?_ | refine RetIs.lq ?_)
                  refine res_tmpA (v := .bool ((x6.2.2 == 9) && ((x6.1 == (⟨0, 0, 0⟩ : Item)) && ((x6.2.1).length : Int) == 0))) rfl ?_
                  refine res_done ?_
                  exact ret_data (v := .bool ((x6.2.2 == 9) && ((x6.1 == (⟨0, 0, 0⟩ : Item)) && ((x6.2.1).length : Int) == 0))) rfl (pure_bool _) ⟨congrArg (fun r : Bool => (.bool r : AV)) (Option.some.inj h), rfl⟩
                · rcases bool_cases (x6.2.2 == 9) with hb_23 | hb_23
                  · rcases bool_cases (x6.1 == (⟨0, 0, 0⟩ : Item)) with hb_24 | hb_24
                    · refine T.region ?_
                      refine RS.op rfl (OP.q rfl (v_move (v := .int .i64 x6.2.2) rfl ?_))
                      refine RS.op rfl (OP.q rfl (v_eql rfl rfl ?_))
                      refine RS.op rfl (OP.q rfl (v_move (v := .bool (x6.2.2 == 9)) rfl ?_))
                      refine RS.yes rfl rfl rfl hb_23 (o_load_ptr rfl rfl (loadRowA Ty.k41 Ty.c41 rfl (cs := [.int .i64 x6.1.Key, .int .i64 x6.1.Val, .int .i64 x6.1.Dep]) rfl ?_))
                      refine RS.yes rfl rfl rfl hb_23 (OP.q rfl (v_build (cs := [.int .i64 0, .int .i64 0, .int .i64 0]) Ty.z41 Ty.p41 rfl ?_))
                      refine RS.yes rfl rfl rfl hb_23 (OP.q rfl (v_geql (cs := [.int .i64 x6.1.Key, .int .i64 x6.1.Val, .int .i64 x6.1.Dep]) (ds := [.int .i64 0, .int .i64 0, .int .i64 0]) (r := x6.1 == (⟨0, 0, 0⟩ : Item)) Ty.q41 rfl rfl rfl rfl (encItem_eq x6.1 (⟨0, 0, 0⟩ : Item)) ?_))
                      refine RS.op rfl (OP.q rfl (v_pickT (v := .bool (x6.1 == (⟨0, 0, 0⟩ : Item))) rfl hb_23 rfl ?_))
                      refine RS.op rfl (OP.q rfl (v_move (v := .bool (x6.1 == (⟨0, 0, 0⟩ : Item))) rfl ?_))
                      refine RS.yes rfl rfl rfl hb_24 (OP.q rfl (v_move (v := .ref 1) rfl ?_))
                      refine RS.yes rfl rfl rfl hb_24 (OP.q rfl (v_len_ref (en := encItem) Ty.s39 rfl rfl ?_))
                      refine RS.yes rfl rfl rfl hb_24 (OP.q rfl (v_eql rfl rfl ?_))
                      refine RS.op rfl (OP.q rfl (v_pickT (v := .bool (((x6.2.1).length : Int) == 0)) rfl hb_24 rfl ?_))
                      refine RS.op rfl (OP.q rfl (v_assign (v := .bool (((x6.2.1).length : Int) == 0)) rfl ?_))
                      refine RS.nil ?_
                      exact T.weakR (hK () trivial) (Weak.mkN [] [] (by decide) (none_kept _) rfl ⟨rn_bool (by simp only [hb_23, hb_24, Bool.true_or, Bool.or_true, Bool.false_or, Bool.or_false, Bool.true_and, Bool.and_true, Bool.false_and, Bool.and_false, Bool.not_true, Bool.not_false, if_true, if_false, Bool.false_eq_true, reduceIte]), trivial⟩ (rw_nil))
                    · refine T.region ?_
                      refine RS.op rfl (OP.q rfl (v_move (v := .int .i64 x6.2.2) rfl ?_))
                      refine RS.op rfl (OP.q rfl (v_eql rfl rfl ?_))
                      refine RS.op rfl (OP.q rfl (v_move (v := .bool (x6.2.2 == 9)) rfl ?_))
                      refine RS.yes rfl rfl rfl hb_23 (o_load_ptr rfl rfl (loadRowA Ty.k41 Ty.c41 rfl (cs := [.int .i64 x6.1.Key, .int .i64 x6.1.Val, .int .i64 x6.1.Dep]) rfl ?_))
                      refine RS.yes rfl rfl rfl hb_23 (OP.q rfl (v_build (cs := [.int .i64 0, .int .i64 0, .int .i64 0]) Ty.z41 Ty.p41 rfl ?_))
                      refine RS.yes rfl rfl rfl hb_23 (OP.q rfl (v_geql (cs := [.int .i64 x6.1.Key, .int .i64 x6.1.Val, .int .i64 x6.1.Dep]) (ds := [.int .i64 0, .int .i64 0, .int .i64 0]) (r := x6.1 == (⟨0, 0, 0⟩ : Item)) Ty.q41 rfl rfl rfl rfl (encItem_eq x6.1 (⟨0, 0, 0⟩ : Item)) ?_))
                      refine RS.op rfl (OP.q rfl (v_pickT (v := .bool (x6.1 == (⟨0, 0, 0⟩ : Item))) rfl hb_23 rfl ?_))
                      refine RS.op rfl (OP.q rfl (v_move (v := .bool (x6.1 == (⟨0, 0, 0⟩ : Item))) rfl ?_))
                      refine RS.no rfl rfl rfl hb_24 ?_
                      refine RS.no rfl rfl rfl hb_24 ?_
                      refine RS.no rfl rfl rfl hb_24 ?_
                      refine RS.op rfl (OP.q rfl (v_pickF (v := .bool false) rfl hb_24 rfl ?_))
                      refine RS.op rfl (OP.q rfl (v_assign (v := .bool false) rfl ?_))
                      refine RS.nil ?_
                      exact T.weakR (hK () trivial) (Weak.mkN [] [] (by decide) (none_kept _) rfl ⟨rn_bool (by simp only [hb_23, hb_24, Bool.true_or, Bool.or_true, Bool.false_or, Bool.or_false, Bool.true_and, Bool.and_true, Bool.false_and, Bool.and_false, Bool.not_true, Bool.not_false, if_true, if_false, Bool.false_eq_true, reduceIte]), trivial⟩ (rw_nil))
                  · refine T.region ?_
                    refine RS.op rfl (OP.q rfl (v_move (v := .int .i64 x6.2.2) rfl ?_))
                    refine RS.op rfl (OP.q rfl (v_eql rfl rfl ?_))
                    refine RS.op rfl (OP.q rfl (v_move (v := .bool (x6.2.2 == 9)) rfl ?_))
                    refine RS.no rfl rfl rfl hb_23 ?_
                    refine RS.no rfl rfl rfl hb_23 ?_
                    refine RS.no rfl rfl rfl hb_23 ?_
                    refine RS.op rfl (OP.q rfl (v_pickF (v := .bool false) rfl hb_23 rfl ?_))
                    refine RS.op rfl (OP.q rfl (v_move (v := .bool false) rfl ?_))
                    refine RS.no rfl rfl rfl rfl ?_
                    refine RS.no rfl rfl rfl rfl ?_
                    refine RS.no rfl rfl rfl rfl ?_
                    refine RS.op rfl (OP.q rfl (v_pickF (v := .bool false) rfl rfl rfl ?_))
                    refine RS.op rfl (OP.q rfl (v_assign (v := .bool false) rfl ?_))
                    refine RS.nil ?_
                    exact T.weakR (hK () trivial) (Weak.mkN [] [] (by decide) (none_kept _) rfl ⟨rn_bool (by simp only [hb_23, Bool.true_or, Bool.or_true, Bool.false_or, Bool.or_false, Bool.true_and, Bool.and_true, Bool.false_and, Bool.and_false, Bool.not_true, Bool.not_false, if_true, if_false, Bool.false_eq_true, reduceIte]), trivial⟩ (rw_nil))
              · replace h := ite_F h hb_22
                refine T.skip ?_
                obtain ⟨zt_28, hz, h⟩ := bind_some h
                revert hz h; revert zt_28; intro c21 hz h
                refine T.join (Z := Unit) (fun _ => mkA 124 [(6, .bool c21)]) (fun _ => []) (fun _ => True) (fun _ _ => ?_) (fun hK => ?_)
                · show T _ _ _ _ (mkA 124 [(6, .bool c21)]) []
                  refine T.ret' (R := ?R29) ?hq29 ?_
                  case hq29 => repeat (first | exact RetIs.base | refine RetIs.thn ?_ | refine RetIs.blk ?_ | refine RetIs.lq ?_)
                  refine res_tmpA (v := .bool c21) rfl ?_
                  refine res_done ?_
                  exact ret_data (v := .bool c21) rfl (pure_bool _) ⟨congrArg (fun r : Bool => (.bool r : AV)) (Option.some.inj h), rfl⟩
                · rcases bool_cases (x6.2.2 == 0) with hb_26 | hb_26
                  · replace hz := ite_T hz hb_26
                    obtain ⟨x18, hx18, hz⟩ := bind_some hz
                    rcases bool_cases (x6.1 == x18) with hb_27 | hb_27
                    · replace hz := ite_T hz hb_27
                      obtain ⟨x19, hx19, hz⟩ := bind_some hz
                      obtain ⟨x20, hx20, hz⟩ := bind_some hz
                      refine T.drawn mixed (k := 16) rfl ?_
                      refine RA.join 3 #[true, true, true, true, true, true, true, true, true, true, true, true, true, false, false, false] (mkA 124 [(0, .sl (List.map encItem p0)), (10, .ptr 0 0), (11, .ref 1), (12, .int .i64 x6.2.2), (78, .bool c15), (79, .sl (List.map encItem p0)), (80, .int .i64 ((p0).length : Int)), (81, .bool (decide (((p0).length : Int) > 6))), (94, .sl (List.map encItem p0)), (95, .int .i64 ((p0).length : Int)), (96, .bool (((p0).length : Int) == 0)), (109, .int .i64 x6.2.2), (110, .bool (x6.2.2 == 0)), (111, .bool (x6.2.2 == 0)), (112, .agg [.int .i64 x6.1.Key, .int .i64 x6.1.Val, .int .i64 x6.1.Dep]), (113, .sl (List.map encItem p0)), (114, .elt (encItem x18) 0), (115, .agg [.int .i64 x18.Key, .int .i64 x18.Val, .int .i64 x18.Dep]), (116, .bool (x6.1 == x18)), (117, .bool (x6.1 == x18)), (118, .bool (x6.1 == x18)), (119, .ref 1), (120, .sl (List.map encItem p0)), (121, .sl (List.map encItem x19))]) [.box [.int .i64 x6.1.Key, .int .i64 x6.1.Val, .int .i64 x6.1.Dep], .arr 41 3 (List.map encItem x6.2.1)] ?_ (fun hS30 => ?_)
                      · refine RA.a1 (i1 := 13) (l1 := #[true, true, true, true, true, true, true, true, true, true, true, true, true, true, false, false]) (by decide +kernel) (by decide +kernel) ?_
                        refine RO.yes rfl rfl rfl rfl hb_27 (o_call (as0 := [.ref 1, .sl (List.map encItem x19)]) (as1 := [.sl (List.map encItem x6.2.1), .sl (List.map encItem x19)]) (caps := []) (aw1 := [.box [.int .i64 x6.1.Key, .int .i64 x6.1.Val, .int .i64 x6.1.Dep], .dead]) rfl rfl rfl (k_flat (v := .bool x20) (slices_Equal_Item_c x6.2.1 x19 x20 hx20) (⟨pure_map encItem_p _, pure_map encItem_p _, trivial⟩) rfl ?_))
                        refine RA.t0 (i := 14) (li' := #[true, true, true, true, true, true, true, true, true, true, true, true, true, true, true, false]) rfl (by decide +kernel) (by decide +kernel) (by decide +kernel) (by decide +kernel) rfl rfl (v_pickT (v := .bool x20) rfl hb_27 rfl ?_)
                        refine RA.t0 (i := 15) (li' := #[true, true, true, true, true, true, true, true, true, true, true, true, true, true, true, true]) rfl (by decide +kernel) (by decide +kernel) (by decide +kernel) (by decide +kernel) rfl rfl (v_assign (v := .bool x20) rfl ?_)
                        refine RA.done (by decide +kernel) ?_
                        exact T.weakR (hK () trivial) (Weak.mkN [] [] (by decide) (none_kept _) rfl ⟨rn_bool ((congrArg (fun p => p) (Option.some.inj hz)).symm), trivial⟩ (rw_nil))
                      · refine RA.t0 (i := 0) (li' := #[true, false, false, false, false, false, false, false, false, false, false, false, false, false, false, false]) rfl (by decide +kernel) (by decide +kernel) (by decide +kernel) (by decide +kernel) rfl rfl (v_move (v := .int .i64 x6.2.2) rfl ?_)
                        refine RA.t0 (i := 1) (li' := #[true, true, false, false, false, false, false, false, false, false, false, false, false, false, false, false]) rfl (by decide +kernel) (by decide +kernel) (by decide +kernel) (by decide +kernel) rfl rfl (v_eql rfl rfl ?_)
                        refine RA.t0 (i := 2) (li' := #[true, true, true, false, false, false, false, false, false, false, false, false, false, false, false, false]) rfl (by decide +kernel) (by decide +kernel) (by decide +kernel) (by decide +kernel) rfl rfl (v_move (v := .bool (x6.2.2 == 0)) rfl ?_)
                        refine RA.t1 (i := 4) (li' := #[true, true, true, false, true, false, false, false, false, false, false, false, false, false, false, false]) rfl (by decide +kernel) (by decide +kernel) (by decide +kernel) (by decide +kernel) rfl rfl rfl hb_26 rfl (v_move (v := .sl (List.map encItem p0)) rfl ?_)
                        refine RA.t1 (i := 5) (li' := #[true, true, true, false, true, true, false, false, false, false, false, false, false, false, false, false]) rfl (by decide +kernel) (by decide +kernel) (by decide +kernel) (by decide +kernel) rfl rfl rfl hb_26 rfl (v_index_sl Ty.s39 (fun _ => rfl) rfl rfl hx18 ?_)
                        refine RA.a2 (i1 := 3) (l1 := #[true, true, true, true, true, true, false, false, false, false, false, false, false, false, false, false]) (i2 := 6) (l2 := #[true, true, true, false, true, true, true, false, false, false, false, false, false, false, false, false]) (by decide +kernel) (by decide +kernel) (by decide +kernel) ?_ ?_
                        · refine RO.yes rfl rfl rfl rfl hb_26 (o_load_ptr rfl rfl (loadRowA Ty.k41 Ty.c41 rfl (cs := [.int .i64 x6.1.Key, .int .i64 x6.1.Val, .int .i64 x6.1.Dep]) rfl ?_))
                          refine RA.a1 (i1 := 6) (l1 := #[true, true, true, true, true, true, true, false, false, false, false, false, false, false, false, false]) (by decide +kernel) (by decide +kernel) ?_
                          refine RO.yes rfl rfl rfl rfl hb_26 (o_load_elt rfl (loadRowA Ty.k41 Ty.c41 rfl (cs := [.int .i64 x18.Key, .int .i64 x18.Val, .int .i64 x18.Dep]) rfl ?_))
                          refine RA.t1 (i := 7) (li' := #[true, true, true, true, true, true, true, true, false, false, false, false, false, false, false, false]) rfl (by decide +kernel) (by decide +kernel) (by decide +kernel) (by decide +kernel) rfl rfl rfl hb_26 rfl (v_geql (cs := [.int .i64 x6.1.Key, .int .i64 x6.1.Val, .int .i64 x6.1.Dep]) (ds := [.int .i64 x18.Key, .int .i64 x18.Val, .int .i64 x18.Dep]) (r := x6.1 == x18) Ty.q41 rfl rfl rfl rfl (encItem_eq x6.1 x18) ?_)
                          refine RA.t0 (i := 8) (li' := #[true, true, true, true, true, true, true, true, true, false, false, false, false, false, false, false]) rfl (by decide +kernel) (by decide +kernel) (by decide +kernel) (by decide +kernel) rfl rfl (v_pickT (v := .bool (x6.1 == x18)) rfl hb_26 rfl ?_)
                          refine RA.t0 (i := 9) (li' := #[true, true, true, true, true, true, true, true, true, true, false, false, false, false, false, false]) rfl (by decide +kernel) (by decide +kernel) (by decide +kernel) (by decide +kernel) rfl rfl (v_move (v := .bool (x6.1 == x18)) rfl ?_)
                          refine RA.t1 (i := 10) (li' := #[true, true, true, true, true, true, true, true, true, true, true, false, false, false, false, false]) rfl (by decide +kernel) (by decide +kernel) (by decide +kernel) (by decide +kernel) rfl rfl rfl hb_27 rfl (v_move (v := .ref 1) rfl ?_)
                          refine RA.t1 (i := 11) (li' := #[true, true, true, true, true, true, true, true, true, true, true, true, false, false, false, false]) rfl (by decide +kernel) (by decide +kernel) (by decide +kernel) (by decide +kernel) rfl rfl rfl hb_27 rfl (v_move (v := .sl (List.map encItem p0)) rfl ?_)
                          refine RA.t1 (i := 12) (li' := #[true, true, true, true, true, true, true, true, true, true, true, true, true, false, false, false]) rfl (by decide +kernel) (by decide +kernel) (by decide +kernel) (by decide +kernel) rfl rfl rfl hb_27 rfl (v_slice_sl Ty.s39 (fun _ => rfl) rfl rfl rfl hx19 ?_)
                          exact RA.weakR hS30 (Weak.mkN [] [0, 1] (by decide) (none_kept _) rfl ⟨rn_sl encItem_p rfl, rn_ptr rfl, rn_ref rfl, rn_int rfl, rn_bool rfl, rn_sl encItem_p rfl, rn_int rfl, rn_bool rfl, rn_sl encItem_p rfl, rn_int rfl, rn_bool rfl, rn_int rfl, rn_bool rfl, rn_bool rfl, rn_agg ⟨rn_int rfl, rn_int rfl, rn_int rfl, trivial⟩, rn_sl encItem_p rfl, rn_elt (encItem_p _) (congrArg encItem rfl), rn_agg ⟨rn_int rfl, rn_int rfl, rn_int rfl, trivial⟩, rn_bool rfl, rn_bool rfl, rn_bool rfl, rn_ref rfl, rn_sl encItem_p rfl, rn_sl encItem_p rfl, trivial⟩ (rw_box (cs := [.int .i64 x6.1.Key, .int .i64 x6.1.Val, .int .i64 x6.1.Dep]) (ds := [.int .i64 x6.1.Key, .int .i64 x6.1.Val, .int .i64 x6.1.Dep]) rfl ⟨rn_int rfl, rn_int rfl, rn_int rfl, trivial⟩ (rw_arr rfl encItem_p rfl (rw_nil))))
                        · refine RO.yes rfl rfl rfl rfl hb_26 (o_load_elt rfl (loadRowA Ty.k41 Ty.c41 rfl (cs := [.int .i64 x18.Key, .int .i64 x18.Val, .int .i64 x18.Dep]) rfl ?_))
                          refine RA.a1 (i1 := 3) (l1 := #[true, true, true, true, true, true, true, false, false, false, false, false, false, false, false, false]) (by decide +kernel) (by decide +kernel) ?_
                          refine RO.yes rfl rfl rfl rfl hb_26 (o_load_ptr rfl rfl (loadRowA Ty.k41 Ty.c41 rfl (cs := [.int .i64 x6.1.Key, .int .i64 x6.1.Val, .int .i64 x6.1.Dep]) rfl ?_))
                          refine RA.t1 (i := 7) (li' := #[true, true, true, true, true, true, true, true, false, false, false, false, false, false, false, false]) rfl (by decide +kernel) (by decide +kernel) (by decide +kernel) (by decide +kernel) rfl rfl rfl hb_26 rfl (v_geql (cs := [.int .i64 x6.1.Key, .int .i64 x6.1.Val, .int .i64 x6.1.Dep]) (ds := [.int .i64 x18.Key, .int .i64 x18.Val, .int .i64 x18.Dep]) (r := x6.1 == x18) Ty.q41 rfl rfl rfl rfl (encItem_eq x6.1 x18) ?_)
                          refine RA.t0 (i := 8) (li' := #[true, true, true, true, true, true, true, true, true, false, false, false, false, false, false, false]) rfl (by decide +kernel) (by decide +kernel) (by decide +kernel) (by decide +kernel) rfl rfl (v_pickT (v := .bool (x6.1 == x18)) rfl hb_26 rfl ?_)
                          refine RA.t0 (i := 9) (li' := #[true, true, true, true, true, true, true, true, true, true, false, false, false, false, false, false]) rfl (by decide +kernel) (by decide +kernel) (by decide +kernel) (by decide +kernel) rfl rfl (v_move (v := .bool (x6.1 == x18)) rfl ?_)
                          refine RA.t1 (i := 10) (li' := #[true, true, true, true, true, true, true, true, true, true, true, false, false, false, false, false]) rfl (by decide +kernel) (by decide +kernel) (by decide +kernel) (by decide +kernel) rfl rfl rfl hb_27 rfl (v_move (v := .ref 1) rfl ?_)
                          refine RA.t1 (i := 11) (li' := #[true, true, true, true, true, true, true, true, true, true, true, true, false, false, false, false]) rfl (by decide +kernel) (by decide +kernel) (by decide +kernel) (by decide +kernel) rfl rfl rfl hb_27 rfl (v_move (v := .sl (List.map encItem p0)) rfl ?_)
                          refine RA.t1 (i := 12) (li' := #[true, true, true, true, true, true, true, true, true, true, true, true, true, false, false, false]) rfl (by decide +kernel) (by decide +kernel) (by decide +kernel) (by decide +kernel) rfl rfl rfl hb_27 rfl (v_slice_sl Ty.s39 (fun _ => rfl) rfl rfl rfl hx19 ?_)
                          exact RA.weakR hS30 (Weak.mkN [] [0, 1] (by decide) (none_kept _) rfl ⟨rn_sl encItem_p rfl, rn_ptr rfl, rn_ref rfl, rn_int rfl, rn_bool rfl, rn_sl encItem_p rfl, rn_int rfl, rn_bool rfl, rn_sl encItem_p rfl, rn_int rfl, rn_bool rfl, rn_int rfl, rn_bool rfl, rn_bool rfl, rn_agg ⟨rn_int rfl, rn_int rfl, rn_int rfl, trivial⟩, rn_sl encItem_p rfl, rn_elt (encItem_p _) (congrArg encItem rfl), rn_agg ⟨rn_int rfl, rn_int rfl, rn_int rfl, trivial⟩, rn_bool rfl, rn_bool rfl, rn_bool rfl, rn_ref rfl, rn_sl encItem_p rfl, rn_sl encItem_p rfl, trivial⟩ (rw_box (cs := [.int .i64 x6.1.Key, .int .i64 x6.1.Val, .int .i64 x6.1.Dep]) (ds := [.int .i64 x6.1.Key, .int .i64 x6.1.Val, .int .i64 x6.1.Dep]) rfl ⟨rn_int rfl, rn_int rfl, rn_int rfl, trivial⟩ (rw_arr rfl encItem_p rfl (rw_nil))))
                    · replace hz := ite_F hz hb_27
                      refine T.drawn mixed (k := 16) rfl ?_
                      refine RA.join 0 #[true, true, true, true, true, true, true, true, true, true, true, true, true, true, true, true] (mkA 124 [(0, .sl (List.map encItem p0)), (6, .bool false), (10, .ptr 0 0), (11, .ref 1), (12, .int .i64 x6.2.2), (78, .bool c15), (79, .sl (List.map encItem p0)), (80, .int .i64 ((p0).length : Int)), (81, .bool (decide (((p0).length : Int) > 6))), (94, .sl (List.map encItem p0)), (95, .int .i64 ((p0).length : Int)), (96, .bool (((p0).length : Int) == 0)), (109, .int .i64 x6.2.2), (110, .bool (x6.2.2 == 0)), (111, .bool (x6.2.2 == 0)), (112, .agg [.int .i64 x6.1.Key, .int .i64 x6.1.Val, .int .i64 x6.1.Dep]), (113, .sl (List.map encItem p0)), (114, .elt (encItem x18) 0), (115, .agg [.int .i64 x18.Key, .int .i64 x18.Val, .int .i64 x18.Dep]), (116, .bool (x6.1 == x18)), (117, .bool (x6.1 == x18)), (118, .bool (x6.1 == x18)), (119, .tup []), (120, .tup []), (121, .tup []), (122, .tup []), (123, .bool false)]) [.box [.int .i64 x6.1.Key, .int .i64 x6.1.Val, .int .i64 x6.1.Dep], .arr 41 3 (List.map encItem x6.2.1)] ?_ (fun hS31 => ?_)
                      · refine RA.done (by decide +kernel) ?_
                        exact T.weakR (hK () trivial) (Weak.mkN [] [] (by decide) (none_kept _) rfl ⟨rn_bool ((congrArg (fun p => p) (Option.some.inj hz)).symm), trivial⟩ (rw_nil))
                      · refine RA.t0 (i := 0) (li' := #[true, false, false, false, false, false, false, false, false, false, false, false, false, false, false, false]) rfl (by decide +kernel) (by decide +kernel) (by decide +kernel) (by decide +kernel) rfl rfl (v_move (v := .int .i64 x6.2.2) rfl ?_)
                        refine RA.t0 (i := 1) (li' := #[true, true, false, false, false, false, false, false, false, false, false, false, false, false, false, false]) rfl (by decide +kernel) (by decide +kernel) (by decide +kernel) (by decide +kernel) rfl rfl (v_eql rfl rfl ?_)
                        refine RA.t0 (i := 2) (li' := #[true, true, true, false, false, false, false, false, false, false, false, false, false, false, false, false]) rfl (by decide +kernel) (by decide +kernel) (by decide +kernel) (by decide +kernel) rfl rfl (v_move (v := .bool (x6.2.2 == 0)) rfl ?_)
                        refine RA.t1 (i := 4) (li' := #[true, true, true, false, true, false, false, false, false, false, false, false, false, false, false, false]) rfl (by decide +kernel) (by decide +kernel) (by decide +kernel) (by decide +kernel) rfl rfl rfl hb_26 rfl (v_move (v := .sl (List.map encItem p0)) rfl ?_)
                        refine RA.t1 (i := 5) (li' := #[true, true, true, false, true, true, false, false, false, false, false, false, false, false, false, false]) rfl (by decide +kernel) (by decide +kernel) (by decide +kernel) (by decide +kernel) rfl rfl rfl hb_26 rfl (v_index_sl Ty.s39 (fun _ => rfl) rfl rfl hx18 ?_)
                        refine RA.a2 (i1 := 3) (l1 := #[true, true, true, true, true, true, false, false, false, false, false, false, false, false, false, false]) (i2 := 6) (l2 := #[true, true, true, false, true, true, true, false, false, false, false, false, false, false, false, false]) (by decide +kernel) (by decide +kernel) (by decide +kernel) ?_ ?_
                        · refine RO.yes rfl rfl rfl rfl hb_26 (o_load_ptr rfl rfl (loadRowA Ty.k41 Ty.c41 rfl (cs := [.int .i64 x6.1.Key, .int .i64 x6.1.Val, .int .i64 x6.1.Dep]) rfl ?_))
                          refine RA.a1 (i1 := 6) (l1 := #[true, true, true, true, true, true, true, false, false, false, false, false, false, false, false, false]) (by decide +kernel) (by decide +kernel) ?_
                          refine RO.yes rfl rfl rfl rfl hb_26 (o_load_elt rfl (loadRowA Ty.k41 Ty.c41 rfl (cs := [.int .i64 x18.Key, .int .i64 x18.Val, .int .i64 x18.Dep]) rfl ?_))
                          refine RA.t1 (i := 7) (li' := #[true, true, true, true, true, true, true, true, false, false, false, false, false, false, false, false]) rfl (by decide +kernel) (by decide +kernel) (by decide +kernel) (by decide +kernel) rfl rfl rfl hb_26 rfl (v_geql (cs := [.int .i64 x6.1.Key, .int .i64 x6.1.Val, .int .i64 x6.1.Dep]) (ds := [.int .i64 x18.Key, .int .i64 x18.Val, .int .i64 x18.Dep]) (r := x6.1 == x18) Ty.q41 rfl rfl rfl rfl (encItem_eq x6.1 x18) ?_)
                          refine RA.t0 (i := 8) (li' := #[true, true, true, true, true, true, true, true, true, false, false, false, false, false, false, false]) rfl (by decide +kernel) (by decide +kernel) (by decide +kernel) (by decide +kernel) rfl rfl (v_pickT (v := .bool (x6.1 == x18)) rfl hb_26 rfl ?_)
                          refine RA.t0 (i := 9) (li' := #[true, true, true, true, true, true, true, true, true, true, false, false, false, false, false, false]) rfl (by decide +kernel) (by decide +kernel) (by decide +kernel) (by decide +kernel) rfl rfl (v_move (v := .bool (x6.1 == x18)) rfl ?_)
                          refine RA.t2 (i := 10) (li' := #[true, true, true, true, true, true, true, true, true, true, true, false, false, false, false, false]) rfl (by decide +kernel) (by decide +kernel) (by decide +kernel) (by decide +kernel) rfl rfl rfl hb_27 ?_
                          refine RA.t2 (i := 11) (li' := #[true, true, true, true, true, true, true, true, true, true, true, true, false, false, false, false]) rfl (by decide +kernel) (by decide +kernel) (by decide +kernel) (by decide +kernel) rfl rfl rfl hb_27 ?_
                          refine RA.t2 (i := 12) (li' := #[true, true, true, true, true, true, true, true, true, true, true, true, true, false, false, false]) rfl (by decide +kernel) (by decide +kernel) (by decide +kernel) (by decide +kernel) rfl rfl rfl hb_27 ?_
                          refine RA.t2 (i := 13) (li' := #[true, true, true, true, true, true, true, true, true, true, true, true, true, true, false, false]) rfl (by decide +kernel) (by decide +kernel) (by decide +kernel) (by decide +kernel) rfl rfl rfl hb_27 ?_
                          refine RA.t0 (i := 14) (li' := #[true, true, true, true, true, true, true, true, true, true, true, true, true, true, true, false]) rfl (by decide +kernel) (by decide +kernel) (by decide +kernel) (by decide +kernel) rfl rfl (v_pickF (v := .bool false) rfl hb_27 rfl ?_)
                          refine RA.t0 (i := 15) (li' := #[true, true, true, true, true, true, true, true, true, true, true, true, true, true, true, true]) rfl (by decide +kernel) (by decide +kernel) (by decide +kernel) (by decide +kernel) rfl rfl (v_assign (v := .bool false) rfl ?_)
                          exact RA.weakR hS31 (Weak.mkN [] [0, 1] (by decide) (none_kept _) rfl ⟨rn_sl encItem_p rfl, rn_bool rfl, rn_ptr rfl, rn_ref rfl, rn_int rfl, rn_bool rfl, rn_sl encItem_p rfl, rn_int rfl, rn_bool rfl, rn_sl encItem_p rfl, rn_int rfl, rn_bool rfl, rn_int rfl, rn_bool rfl, rn_bool rfl, rn_agg ⟨rn_int rfl, rn_int rfl, rn_int rfl, trivial⟩, rn_sl encItem_p rfl, rn_elt (encItem_p _) (congrArg encItem rfl), rn_agg ⟨rn_int rfl, rn_int rfl, rn_int rfl, trivial⟩, rn_bool rfl, rn_bool rfl, rn_bool rfl, rn_tup trivial, rn_tup trivial, rn_tup trivial, rn_tup trivial, rn_bool rfl, trivial⟩ (rw_box (cs := [.int .i64 x6.1.Key, .int .i64 x6.1.Val, .int .i64 x6.1.Dep]) (ds := [.int .i64 x6.1.Key, .int .i64 x6.1.Val, .int .i64 x6.1.Dep]) rfl ⟨rn_int rfl, rn_int rfl, rn_int rfl, trivial⟩ (rw_arr rfl encItem_p rfl (rw_nil))))
                        · refine RO.yes rfl rfl rfl rfl hb_26 (o_load_elt rfl (loadRowA Ty.k41 Ty.c41 rfl (cs := [.int .i64 x18.Key, .int .i64 x18.Val, .int .i64 x18.Dep]) rfl ?_))
                          refine RA.a1 (i1 := 3) (l1 := #[true, true, true, true, true, true, true, false, false, false, false, false, false, false, false, false]) (by decide +kernel) (by decide +kernel) ?_
                          refine RO.yes rfl rfl rfl rfl hb_26 (o_load_ptr rfl rfl (loadRowA Ty.k41 Ty.c41 rfl (cs := [.int .i64 x6.1.Key, .int .i64 x6.1.Val, .int .i64 x6.1.Dep]) rfl ?_))
                          refine RA.t1 (i := 7) (li' := #[true, true, true, true, true, true, true, true, false, false, false, false, false, false, false, false]) rfl (by decide +kernel) (by decide +kernel) (by decide +kernel) (by decide +kernel) rfl rfl rfl hb_26 rfl (v_geql (cs := [.int .i64 x6.1.Key, .int .i64 x6.1.Val, .int .i64 x6.1.Dep]) (ds := [.int .i64 x18.Key, .int .i64 x18.Val, .int .i64 x18.Dep]) (r := x6.1 == x18) Ty.q41 rfl rfl rfl rfl (encItem_eq x6.1 x18) ?_)
                          refine RA.t0 (i := 8) (li' := #[true, true, true, true, true, true, true, true, true, false, false, false, false, false, false, false]) rfl (by decide +kernel) (by decide +kernel) (by decide +kernel) (by decide +kernel) rfl rfl (v_pickT (v := .bool (x6.1 == x18)) rfl hb_26 rfl ?_)
                          refine RA.t0 (i := 9) (li' := #[true, true, true, true, true, true, true, true, true, true, false, false, false, false, false, false]) rfl (by decide +kernel) (by decide +kernel) (by decide +kernel) (by decide +kernel) rfl rfl (v_move (v := .bool (x6.1 == x18)) rfl ?_)
                          refine RA.t2 (i := 10) (li' := #[true, true, true, true, true, true, true, true, true, true, true, false, false, false, false, false]) rfl (by decide +kernel) (by decide +kernel) (by decide +kernel) (by decide +kernel) rfl rfl rfl hb_27 ?_
                          refine RA.t2 (i := 11) (li' := #[true, true, true, true, true, true, true, true, true, true, true, true, false, false, false, false]) rfl (by decide +kernel) (by decide +kernel) (by decide +kernel) (by decide +kernel) rfl rfl rfl hb_27 ?_
                          refine RA.t2 (i := 12) (li' := #[true, true, true, true, true, true, true, true, true, true, true, true, true, false, false, false]) rfl (by decide +kernel) (by decide +kernel) (by decide +kernel) (by decide +kernel) rfl rfl rfl hb_27 ?_
                          refine RA.t2 (i := 13) (li' := #[true, true, true, true, true, true, true, true, true, true, true, true, true, true, false, false]) rfl (by decide +kernel) (by decide +kernel) (by decide +kernel) (by decide +kernel) rfl rfl rfl hb_27 ?_
                          refine RA.t0 (i := 14) (li' := #[true, true, true, true, true, true, true, true, true, true, true, true, true, true, true, false]) rfl (by decide +kernel) (by decide +kernel) (by decide +kernel) (by decide +kernel) rfl rfl (v_pickF (v := .bool false) rfl hb_27 rfl ?_)
                          refine RA.t0 (i := 15) (li' := #[true, true, true, true, true, true, true, true, true, true, true, true, true, true, true, true]) rfl (by decide +kernel) (by decide +kernel) (by decide +kernel) (by decide +kernel) rfl rfl (v_assign (v := .bool false) rfl ?_)
                          exact RA.weakR hS31 (Weak.mkN [] [0, 1] (by decide) (none_kept _) rfl ⟨rn_sl encItem_p rfl, rn_bool rfl, rn_ptr rfl, rn_ref rfl, rn_int rfl, rn_bool rfl, rn_sl encItem_p rfl, rn_int rfl, rn_bool rfl, rn_sl encItem_p rfl, rn_int rfl, rn_bool rfl, rn_int rfl, rn_bool rfl, rn_bool rfl, rn_agg ⟨rn_int rfl, rn_int rfl, rn_int rfl, trivial⟩, rn_sl encItem_p rfl, rn_elt (encItem_p _) (congrArg encItem rfl), rn_agg ⟨rn_int rfl, rn_int rfl, rn_int rfl, trivial⟩, rn_bool rfl, rn_bool rfl, rn_bool rfl, rn_tup trivial, rn_tup trivial, rn_tup trivial, rn_tup trivial, rn_bool rfl, trivial⟩ (rw_box (cs := [.int .i64 x6.1.Key, .int .i64 x6.1.Val, .int .i64 x6.1.Dep]) (ds := [.int .i64 x6.1.Key, .int .i64 x6.1.Val, .int .i64 x6.1.Dep]) rfl ⟨rn_int rfl, rn_int rfl, rn_int rfl, trivial⟩ (rw_arr rfl encItem_p rfl (rw_nil))))
                  · replace hz := ite_F hz hb_26
                    refine T.drawn mixed (k := 16) rfl ?_
                    refine RA.t0 (i := 0) (li' := #[true, false, false, false, false, false, false, false, false, false, false, false, false, false, false, false]) rfl (by decide +kernel) (by decide +kernel) (by decide +kernel) (by decide +kernel) rfl rfl (v_move (v := .int .i64 x6.2.2) rfl ?_)
                    refine RA.t0 (i := 1) (li' := #[true, true, false, false, false, false, false, false, false, false, false, false, false, false, false, false]) rfl (by decide +kernel) (by decide +kernel) (by decide +kernel) (by decide +kernel) rfl rfl (v_eql rfl rfl ?_)
                    refine RA.t0 (i := 2) (li' := #[true, true, true, false, false, false, false, false, false, false, false, false, false, false, false, false]) rfl (by decide +kernel) (by decide +kernel) (by decide +kernel) (by decide +kernel) rfl rfl (v_move (v := .bool (x6.2.2 == 0)) rfl ?_)
                    refine RA.t2 (i := 3) (li' := #[true, true, true, true, false, false, false, false, false, false, false, false, false, false, false, false]) rfl (by decide +kernel) (by decide +kernel) (by decide +kernel) (by decide +kernel) rfl rfl rfl hb_26 ?_
                    refine RA.t2 (i := 4) (li' := #[true, true, true, true, true, false, false, false, false, false, false, false, false, false, false, false]) rfl (by decide +kernel) (by decide +kernel) (by decide +kernel) (by decide +kernel) rfl rfl rfl hb_26 ?_
                    refine RA.t2 (i := 5) (li' := #[true, true, true, true, true, true, false, false, false, false, false, false, false, false, false, false]) rfl (by decide +kernel) (by decide +kernel) (by decide +kernel) (by decide +kernel) rfl rfl rfl hb_26 ?_
                    refine RA.t2 (i := 6) (li' := #[true, true, true, true, true, true, true, false, false, false, false, false, false, false, false, false]) rfl (by decide +kernel) (by decide +kernel) (by decide +kernel) (by decide +kernel) rfl rfl rfl hb_26 ?_
                    refine RA.t2 (i := 7) (li' := #[true, true, true, true, true, true, true, true, false, false, false, false, false, false, false, false]) rfl (by decide +kernel) (by decide +kernel) (by decide +kernel) (by decide +kernel) rfl rfl rfl hb_26 ?_
                    refine RA.t0 (i := 8) (li' := #[true, true, true, true, true, true, true, true, true, false, false, false, false, false, false, false]) rfl (by decide +kernel) (by decide +kernel) (by decide +kernel) (by decide +kernel) rfl rfl (v_pickF (v := .bool false) rfl hb_26 rfl ?_)
                    refine RA.t0 (i := 9) (li' := #[true, true, true, true, true, true, true, true, true, true, false, false, false, false, false, false]) rfl (by decide +kernel) (by decide +kernel) (by decide +kernel) (by decide +kernel) rfl rfl (v_move (v := .bool false) rfl ?_)
                    refine RA.t2 (i := 10) (li' := #[true, true, true, true, true, true, true, true, true, true, true, false, false, false, false, false]) rfl (by decide +kernel) (by decide +kernel) (by decide +kernel) (by decide +kernel) rfl rfl rfl rfl ?_
                    refine RA.t2 (i := 11) (li' := #[true, true, true, true, true, true, true, true, true, true, true, true, false, false, false, false]) rfl (by decide +kernel) (by decide +kernel) (by decide +kernel) (by decide +kernel) rfl rfl rfl rfl ?_
                    refine RA.t2 (i := 12) (li' := #[true, true, true, true, true, true, true, true, true, true, true, true, true, false, false, false]) rfl (by decide +kernel) (by decide +kernel) (by decide +kernel) (by decide +kernel) rfl rfl rfl rfl ?_
                    refine RA.t2 (i := 13) (li' := #[true, true, true, true, true, true, true, true, true, true, true, true, true, true, false, false]) rfl (by decide +kernel) (by decide +kernel) (by decide +kernel) (by decide +kernel) rfl rfl rfl rfl ?_
                    refine RA.t0 (i := 14) (li' := #[true, true, true, true, true, true, true, true, true, true, true, true, true, true, true, false]) rfl (by decide +kernel) (by decide +kernel) (by decide +kernel) (by decide +kernel) rfl rfl (v_pickF (v := .bool false) rfl rfl rfl ?_)
                    refine RA.t0 (i := 15) (li' := #[true, true, true, true, true, true, true, true, true, true, true, true, true, true, true, true]) rfl (by decide +kernel) (by decide +kernel) (by decide +kernel) (by decide +kernel) rfl rfl (v_assign (v := .bool false) rfl ?_)
                    refine RA.done (by decide +kernel) ?_
                    exact T.weakR (hK () trivial) (Weak.mkN [] [] (by decide) (none_kept _) rfl ⟨rn_bool ((congrArg (fun p => p) (Option.some.inj hz)).symm), trivial⟩ (rw_nil))
        · rcases bool_cases (x4.2 != z10) with hb_10 | hb_10
          · replace hz := ite_T hz hb_10
            refine T.region ?_
            refine RS.op rfl (OP.q rfl (v_move (v := .int .i64 x4.2) rfl ?_))
            refine RS.op rfl (OP.q rfl (v_move (v := .int .i64 z10) rfl ?_))
            refine RS.op rfl (OP.q rfl (v_neq rfl rfl ?_))
            refine RS.op rfl (OP.q rfl (v_move (v := .bool (x4.2 != z10)) rfl ?_))
            refine RS.no rfl rfl rfl hb_10 ?_
            refine RS.no rfl rfl rfl hb_10 ?_
            refine RS.no rfl rfl rfl hb_10 ?_
            refine RS.nou rfl rfl rfl ?_
            refine RS.nou rfl rfl rfl ?_
            refine RS.nou rfl rfl rfl ?_
            refine RS.no rfl rfl rfl hb_10 ?_
            refine RS.op rfl (OP.q rfl (v_pickT (v := .bool true) rfl hb_10 rfl ?_))
            refine RS.op rfl (OP.q rfl (v_move (v := .bool true) rfl ?_))
            refine RS.no rfl rfl rfl rfl ?_
            refine RS.no rfl rfl rfl rfl ?_
            refine RS.no rfl rfl rfl rfl ?_
            refine RS.nou rfl rfl rfl ?_
            refine RS.nou rfl rfl rfl ?_
            refine RS.nou rfl rfl rfl ?_
            refine RS.nou rfl rfl rfl ?_
            refine RS.nou rfl rfl rfl ?_
            refine RS.nou rfl rfl rfl ?_
            refine RS.nou rfl rfl rfl ?_
            refine RS.no rfl rfl rfl rfl ?_
            refine RS.op rfl (OP.q rfl (v_pickT (v := .bool true) rfl rfl rfl ?_))
            refine RS.nil ?_
            exact T.weakR (hK () trivial) (Weak.mkN [] [3, 4] (by decide) (none_kept _) rfl ⟨rn_sl encItem_p rfl, rn_ptr rfl, rn_ref rfl, rn_int rfl, rn_bool ((congrArg (fun p => p) (Option.some.inj hz)).symm), trivial⟩ (rw_box (cs := [.int .i64 x6.1.Key, .int .i64 x6.1.Val, .int .i64 x6.1.Dep]) (ds := [.int .i64 x6.1.Key, .int .i64 x6.1.Val, .int .i64 x6.1.Dep]) rfl ⟨rn_int rfl, rn_int rfl, rn_int rfl, trivial⟩ (rw_arr rfl encItem_p rfl (rw_nil))))
          · replace hz := ite_F hz hb_10
            rcases bool_cases (z10 != 0) with hb_11 | hb_11
            · replace hz := ite_T hz hb_11
              rcases bool_cases (((x4.1).length : Int) != 0) with hb_12 | hb_12
              · replace hz := ite_T hz hb_12
                refine T.region ?_
                refine RS.op rfl (OP.q rfl (v_move (v := .int .i64 x4.2) rfl ?_))
                refine RS.op rfl (OP.q rfl (v_move (v := .int .i64 z10) rfl ?_))
                refine RS.op rfl (OP.q rfl (v_neq rfl rfl ?_))
                refine RS.op rfl (OP.q rfl (v_move (v := .bool (x4.2 != z10)) rfl ?_))
                refine RS.yes rfl rfl rfl hb_10 (OP.q rfl (v_move (v := .int .i64 z10) rfl ?_))
                refine RS.yes rfl rfl rfl hb_10 (OP.q rfl (v_neq rfl rfl ?_))
                refine RS.yes rfl rfl rfl hb_10 (OP.q rfl (v_move (v := .bool (z10 != 0)) rfl ?_))
                refine RS.yes rfl rfl rfl hb_11 (OP.q rfl (v_move (v := .ref 2) rfl ?_))
                refine RS.yes rfl rfl rfl hb_11 (OP.q rfl (v_len_ref (en := encItem) Ty.s39 rfl rfl ?_))
                refine RS.yes rfl rfl rfl hb_11 (OP.q rfl (v_neq rfl rfl ?_))
                refine RS.yes rfl rfl rfl hb_10 (OP.q rfl (v_pickT (v := .bool (((x4.1).length : Int) != 0)) rfl hb_11 rfl ?_))
                refine RS.op rfl (OP.q rfl (v_pickF (v := .bool (((x4.1).length : Int) != 0)) rfl hb_10 rfl ?_))
                refine RS.op rfl (OP.q rfl (v_move (v := .bool (((x4.1).length : Int) != 0)) rfl ?_))
                refine RS.no rfl rfl rfl hb_12 ?_
                refine RS.no rfl rfl rfl hb_12 ?_
                refine RS.no rfl rfl rfl hb_12 ?_
                refine RS.nou rfl rfl rfl ?_
                refine RS.nou rfl rfl rfl ?_
                refine RS.nou rfl rfl rfl ?_
                refine RS.nou rfl rfl rfl ?_
                refine RS.nou rfl rfl rfl ?_
                refine RS.nou rfl rfl rfl ?_
                refine RS.nou rfl rfl rfl ?_
                refine RS.no rfl rfl rfl hb_12 ?_
                refine RS.op rfl (OP.q rfl (v_pickT (v := .bool true) rfl hb_12 rfl ?_))
                refine RS.nil ?_
                exact T.weakR (hK () trivial) (Weak.mkN [] [3, 4] (by decide) (none_kept _) rfl ⟨rn_sl encItem_p rfl, rn_ptr rfl, rn_ref rfl, rn_int rfl, rn_bool ((congrArg (fun p => p) (Option.some.inj hz)).symm), trivial⟩ (rw_box (cs := [.int .i64 x6.1.Key, .int .i64 x6.1.Val, .int .i64 x6.1.Dep]) (ds := [.int .i64 x6.1.Key, .int .i64 x6.1.Val, .int .i64 x6.1.Dep]) rfl ⟨rn_int rfl, rn_int rfl, rn_int rfl, trivial⟩ (rw_arr rfl encItem_p rfl (rw_nil))))
              · replace hz := ite_F hz hb_12
                rcases bool_cases (z10 == 0) with hb_13 | hb_13
                · replace hz := ite_T hz hb_13
                  obtain ⟨x11, hx11, hz⟩ := bind_some hz
                  obtain ⟨x12, hx12, hz⟩ := bind_some hz
                  refine T.region ?_
                  refine RS.op rfl (OP.q rfl (v_move (v := .int .i64 x4.2) rfl ?_))
                  refine RS.op rfl (OP.q rfl (v_move (v := .int .i64 z10) rfl ?_))
                  refine RS.op rfl (OP.q rfl (v_neq rfl rfl ?_))
                  refine RS.op rfl (OP.q rfl (v_move (v := .bool (x4.2 != z10)) rfl ?_))
                  refine RS.yes rfl rfl rfl hb_10 (OP.q rfl (v_move (v := .int .i64 z10) rfl ?_))
                  refine RS.yes rfl rfl rfl hb_10 (OP.q rfl (v_neq rfl rfl ?_))
                  refine RS.yes rfl rfl rfl hb_10 (OP.q rfl (v_move (v := .bool (z10 != 0)) rfl ?_))
                  refine RS.yes rfl rfl rfl hb_11 (OP.q rfl (v_move (v := .ref 2) rfl ?_))
                  refine RS.yes rfl rfl rfl hb_11 (OP.q rfl (v_len_ref (en := encItem) Ty.s39 rfl rfl ?_))
                  refine RS.yes rfl rfl rfl hb_11 (OP.q rfl (v_neq rfl rfl ?_))
                  refine RS.yes rfl rfl rfl hb_10 (OP.q rfl (v_pickT (v := .bool (((x4.1).length : Int) != 0)) rfl hb_11 rfl ?_))
                  refine RS.op rfl (OP.q rfl (v_pickF (v := .bool (((x4.1).length : Int) != 0)) rfl hb_10 rfl ?_))
                  refine RS.op rfl (OP.q rfl (v_move (v := .bool (((x4.1).length : Int) != 0)) rfl ?_))
                  refine RS.yes rfl rfl rfl hb_12 (OP.q rfl (v_move (v := .int .i64 z10) rfl ?_))
                  refine RS.yes rfl rfl rfl hb_12 (OP.q rfl (v_eql rfl rfl ?_))
                  refine RS.yes rfl rfl rfl hb_12 (OP.q rfl (v_move (v := .bool (z10 == 0)) rfl ?_))
                  refine RS.yes rfl rfl rfl hb_13 (OP.q rfl (v_move (v := .ref 2) rfl ?_))
                  refine RS.yes rfl rfl rfl hb_13 (OP.q rfl (v_move (v := .ref 1) rfl ?_))
                  refine RS.yes rfl rfl rfl hb_13 (o_load_ptr rfl rfl (loadRowA Ty.k41 Ty.c41 rfl (cs := [.int .i64 p2.Key, .int .i64 p2.Val, .int .i64 p2.Dep]) rfl ?_))
                  refine RS.yes rfl rfl rfl hb_13 (o_buildSlice (rows := List.map encItem [p2]) (vs := [.agg [.int .i64 p2.Key, .int .i64 p2.Val, .int .i64 p2.Dep]]) Ty.s39 Ty.z41 rfl rfl rfl rfl rfl (aw' := [.box [.int .i64 p2.Key, .int .i64 p2.Val, .int .i64 p2.Dep], .arr 41 3 (List.map encItem x2), .arr 41 3 (List.map encItem x4.1), .box [.int .i64 x6.1.Key, .int .i64 x6.1.Val, .int .i64 x6.1.Dep], .arr 41 3 (List.map encItem x6.2.1), .arr 41 3 (List.map encItem [p2])]) rfl ?_)
                  refine RS.yes rfl rfl rfl hb_13 (o_app_ref (en := encItem) (xs := x2) (ys := ([p2] : List Item)) Ty.s39 (fun _ => rfl) rfl rfl rfl hx11 rfl (aw' := [.box [.int .i64 p2.Key, .int .i64 p2.Val, .int .i64 p2.Dep], .dead, .arr 41 3 (List.map encItem x4.1), .box [.int .i64 x6.1.Key, .int .i64 x6.1.Val, .int .i64 x6.1.Dep], .arr 41 3 (List.map encItem x6.2.1), .dead, .arr 41 3 (List.map encItem x11)]) rfl ?_)
                  refine RS.yes rfl rfl rfl hb_13 (o_call (as0 := [.ref 2, .ref 6]) (as1 := [.sl (List.map encItem x4.1), .sl (List.map encItem x11)]) (caps := []) (aw1 := [.box [.int .i64 p2.Key, .int .i64 p2.Val, .int .i64 p2.Dep], .dead, .dead, .box [.int .i64 x6.1.Key, .int .i64 x6.1.Val, .int .i64 x6.1.Dep], .arr 41 3 (List.map encItem x6.2.1), .dead, .dead]) rfl rfl rfl (k_flat (v := .bool x12) (slices_Equal_Item_c x4.1 x11 x12 hx12) (⟨pure_map encItem_p _, pure_map encItem_p _, trivial⟩) rfl ?_))
                  refine RS.yes rfl rfl rfl hb_13 (OP.q rfl (v_not rfl ?_))
                  refine RS.yes rfl rfl rfl hb_12 (OP.q rfl (v_pickT (v := .bool (!x12)) rfl hb_13 rfl ?_))
                  refine RS.op rfl (OP.q rfl (v_pickF (v := .bool (!x12)) rfl hb_12 rfl ?_))
                  refine RS.nil ?_
                  exact T.weakR (hK () trivial) (Weak.mkN [] [3, 4] (by decide) (none_kept _) rfl ⟨rn_sl encItem_p rfl, rn_ptr rfl, rn_ref rfl, rn_int rfl, rn_bool ((congrArg (fun p => p) (Option.some.inj hz)).symm), trivial⟩ (rw_box (cs := [.int .i64 x6.1.Key, .int .i64 x6.1.Val, .int .i64 x6.1.Dep]) (ds := [.int .i64 x6.1.Key, .int .i64 x6.1.Val, .int .i64 x6.1.Dep]) rfl ⟨rn_int rfl, rn_int rfl, rn_int rfl, trivial⟩ (rw_arr rfl encItem_p rfl (rw_nil))))
                · replace hz := ite_F hz hb_13
                  refine T.region ?_
                  refine RS.op rfl (OP.q rfl (v_move (v := .int .i64 x4.2) rfl ?_))
                  refine RS.op rfl (OP.q rfl (v_move (v := .int .i64 z10) rfl ?_))
                  refine RS.op rfl (OP.q rfl (v_neq rfl rfl ?_))
                  refine RS.op rfl (OP.q rfl (v_move (v := .bool (x4.2 != z10)) rfl ?_))
                  refine RS.yes rfl rfl rfl hb_10 (OP.q rfl (v_move (v := .int .i64 z10) rfl ?_))
                  refine RS.yes rfl rfl rfl hb_10 (OP.q rfl (v_neq rfl rfl ?_))
                  refine RS.yes rfl rfl rfl hb_10 (OP.q rfl (v_move (v := .bool (z10 != 0)) rfl ?_))
                  refine RS.yes rfl rfl rfl hb_11 (OP.q rfl (v_move (v := .ref 2) rfl ?_))
                  refine RS.yes rfl rfl rfl hb_11 (OP.q rfl (v_len_ref (en := encItem) Ty.s39 rfl rfl ?_))
                  refine RS.yes rfl rfl rfl hb_11 (OP.q rfl (v_neq rfl rfl ?_))
                  refine RS.yes rfl rfl rfl hb_10 (OP.q rfl (v_pickT (v := .bool (((x4.1).length : Int) != 0)) rfl hb_11 rfl ?_))
                  refine RS.op rfl (OP.q rfl (v_pickF (v := .bool (((x4.1).length : Int) != 0)) rfl hb_10 rfl ?_))
                  refine RS.op rfl (OP.q rfl (v_move (v := .bool (((x4.1).length : Int) != 0)) rfl ?_))
                  refine RS.yes rfl rfl rfl hb_12 (OP.q rfl (v_move (v := .int .i64 z10) rfl ?_))
                  refine RS.yes rfl rfl rfl hb_12 (OP.q rfl (v_eql rfl rfl ?_))
                  refine RS.yes rfl rfl rfl hb_12 (OP.q rfl (v_move (v := .bool (z10 == 0)) rfl ?_))
                  refine RS.no rfl rfl rfl hb_13 ?_
                  refine RS.no rfl rfl rfl hb_13 ?_
                  refine RS.no rfl rfl rfl hb_13 ?_
                  refine RS.no rfl rfl rfl hb_13 ?_
                  refine RS.no rfl rfl rfl hb_13 ?_
                  refine RS.no rfl rfl rfl hb_13 ?_
                  refine RS.no rfl rfl rfl hb_13 ?_
                  refine RS.yes rfl rfl rfl hb_12 (OP.q rfl (v_pickF (v := .bool false) rfl hb_13 rfl ?_))
                  refine RS.op rfl (OP.q rfl (v_pickF (v := .bool false) rfl hb_12 rfl ?_))
                  refine RS.nil ?_
                  exact T.weakR (hK () trivial) (Weak.mkN [] [3, 4] (by decide) (none_kept _) rfl ⟨rn_sl encItem_p rfl, rn_ptr rfl, rn_ref rfl, rn_int rfl, rn_bool ((congrArg (fun p => p) (Option.some.inj hz)).symm), trivial⟩ (rw_box (cs := [.int .i64 x6.1.Key, .int .i64 x6.1.Val, .int .i64 x6.1.Dep]) (ds := [.int .i64 x6.1.Key, .int .i64 x6.1.Val, .int .i64 x6.1.Dep]) rfl ⟨rn_int rfl, rn_int rfl, rn_int rfl, trivial⟩ (rw_arr rfl encItem_p rfl (rw_nil))))
            · replace hz := ite_F hz hb_11
              rcases bool_cases (z10 == 0) with hb_14 | hb_14
              · replace hz := ite_T hz hb_14
                obtain ⟨x13, hx13, hz⟩ := bind_some hz
                obtain ⟨x14, hx14, hz⟩ := bind_some hz
                refine T.region ?_
                refine RS.op rfl (OP.q rfl (v_move (v := .int .i64 x4.2) rfl ?_))
                refine RS.op rfl (OP.q rfl (v_move (v := .int .i64 z10) rfl ?_))
                refine RS.op rfl (OP.q rfl (v_neq rfl rfl ?_))
                refine RS.op rfl (OP.q rfl (v_move (v := .bool (x4.2 != z10)) rfl ?_))
                refine RS.yes rfl rfl rfl hb_10 (OP.q rfl (v_move (v := .int .i64 z10) rfl ?_))
                refine RS.yes rfl rfl rfl hb_10 (OP.q rfl (v_neq rfl rfl ?_))
                refine RS.yes rfl rfl rfl hb_10 (OP.q rfl (v_move (v := .bool (z10 != 0)) rfl ?_))
                refine RS.no rfl rfl rfl hb_11 ?_
                refine RS.no rfl rfl rfl hb_11 ?_
                refine RS.no rfl rfl rfl hb_11 ?_
                refine RS.yes rfl rfl rfl hb_10 (OP.q rfl (v_pickF (v := .bool false) rfl hb_11 rfl ?_))
                refine RS.op rfl (OP.q rfl (v_pickF (v := .bool false) rfl hb_10 rfl ?_))
                refine RS.op rfl (OP.q rfl (v_move (v := .bool false) rfl ?_))
                refine RS.yes rfl rfl rfl rfl (OP.q rfl (v_move (v := .int .i64 z10) rfl ?_))
                refine RS.yes rfl rfl rfl rfl (OP.q rfl (v_eql rfl rfl ?_))
                refine RS.yes rfl rfl rfl rfl (OP.q rfl (v_move (v := .bool (z10 == 0)) rfl ?_))
                refine RS.yes rfl rfl rfl hb_14 (OP.q rfl (v_move (v := .ref 2) rfl ?_))
                refine RS.yes rfl rfl rfl hb_14 (OP.q rfl (v_move (v := .ref 1) rfl ?_))
                refine RS.yes rfl rfl rfl hb_14 (o_load_ptr rfl rfl (loadRowA Ty.k41 Ty.c41 rfl (cs := [.int .i64 p2.Key, .int .i64 p2.Val, .int .i64 p2.Dep]) rfl ?_))
                refine RS.yes rfl rfl rfl hb_14 (o_buildSlice (rows := List.map encItem [p2]) (vs := [.agg [.int .i64 p2.Key, .int .i64 p2.Val, .int .i64 p2.Dep]]) Ty.s39 Ty.z41 rfl rfl rfl rfl rfl (aw' := [.box [.int .i64 p2.Key, .int .i64 p2.Val, .int .i64 p2.Dep], .arr 41 3 (List.map encItem x2), .arr 41 3 (List.map encItem x4.1), .box [.int .i64 x6.1.Key, .int .i64 x6.1.Val, .int .i64 x6.1.Dep], .arr 41 3 (List.map encItem x6.2.1), .arr 41 3 (List.map encItem [p2])]) rfl ?_)
                refine RS.yes rfl rfl rfl hb_14 (o_app_ref (en := encItem) (xs := x2) (ys := ([p2] : List Item)) Ty.s39 (fun _ => rfl) rfl rfl rfl hx13 rfl (aw' := [.box [.int .i64 p2.Key, .int .i64 p2.Val, .int .i64 p2.Dep], .dead, .arr 41 3 (List.map encItem x4.1), .box [.int .i64 x6.1.Key, .int .i64 x6.1.Val, .int .i64 x6.1.Dep], .arr 41 3 (List.map encItem x6.2.1), .dead, .arr 41 3 (List.map encItem x13)]) rfl ?_)
                refine RS.yes rfl rfl rfl hb_14 (o_call (as0 := [.ref 2, .ref 6]) (as1 := [.sl (List.map encItem x4.1), .sl (List.map encItem x13)]) (caps := []) (aw1 := [.box [.int .i64 p2.Key, .int .i64 p2.Val, .int .i64 p2.Dep], .dead, .dead, .box [.int .i64 x6.1.Key, .int .i64 x6.1.Val, .int .i64 x6.1.Dep], .arr 41 3 (List.map encItem x6.2.1), .dead, .dead]) rfl rfl rfl (k_flat (v := .bool x14) (slices_Equal_Item_c x4.1 x13 x14 hx14) (⟨pure_map encItem_p _, pure_map encItem_p _, trivial⟩) rfl ?_))
                refine RS.yes rfl rfl rfl hb_14 (OP.q rfl (v_not rfl ?_))
                refine RS.yes rfl rfl rfl rfl (OP.q rfl (v_pickT (v := .bool (!x14)) rfl hb_14 rfl ?_))
                refine RS.op rfl (OP.q rfl (v_pickF (v := .bool (!x14)) rfl rfl rfl ?_))
                refine RS.nil ?_
                exact T.weakR (hK () trivial) (Weak.mkN [] [3, 4] (by decide) (none_kept _) rfl ⟨rn_sl encItem_p rfl, rn_ptr rfl, rn_ref rfl, rn_int rfl, rn_bool ((congrArg (fun p => p) (Option.some.inj hz)).symm), trivial⟩ (rw_box (cs := [.int .i64 x6.1.Key, .int .i64 x6.1.Val, .int .i64 x6.1.Dep]) (ds := [.int .i64 x6.1.Key, .int .i64 x6.1.Val, .int .i64 x6.1.Dep]) rfl ⟨rn_int rfl, rn_int rfl, rn_int rfl, trivial⟩ (rw_arr rfl encItem_p rfl (rw_nil))))
              · replace hz := ite_F hz hb_14
                refine T.region ?_
                refine RS.op rfl (OP.q rfl (v_move (v := .int .i64 x4.2) rfl ?_))
                refine RS.op rfl (OP.q rfl (v_move (v := .int .i64 z10) rfl ?_))
                refine RS.op rfl (OP.q rfl (v_neq rfl rfl ?_))
                refine RS.op rfl (OP.q rfl (v_move (v := .bool (x4.2 != z10)) rfl ?_))
                refine RS.yes rfl rfl rfl hb_10 (OP.q rfl (v_move (v := .int .i64 z10) rfl ?_))
                refine RS.yes rfl rfl rfl hb_10 (OP.q rfl (v_neq rfl rfl ?_))
                refine RS.yes rfl rfl rfl hb_10 (OP.q rfl (v_move (v := .bool (z10 != 0)) rfl ?_))
                refine RS.no rfl rfl rfl hb_11 ?_
                refine RS.no rfl rfl rfl hb_11 ?_
                refine RS.no rfl rfl rfl hb_11 ?_
                refine RS.yes rfl rfl rfl hb_10 (OP.q rfl (v_pickF (v := .bool false) rfl hb_11 rfl ?_))
                refine RS.op rfl (OP.q rfl (v_pickF (v := .bool false) rfl hb_10 rfl ?_))
                refine RS.op rfl (OP.q rfl (v_move (v := .bool false) rfl ?_))
                refine RS.yes rfl rfl rfl rfl (OP.q rfl (v_move (v := .int .i64 z10) rfl ?_))
                refine RS.yes rfl rfl rfl rfl (OP.q rfl (v_eql rfl rfl ?_))
                refine RS.yes rfl rfl rfl rfl (OP.q rfl (v_move (v := .bool (z10 == 0)) rfl ?_))
                refine RS.no rfl rfl rfl hb_14 ?_
                refine RS.no rfl rfl rfl hb_14 ?_
                refine RS.no rfl rfl rfl hb_14 ?_
                refine RS.no rfl rfl rfl hb_14 ?_
                refine RS.no rfl rfl rfl hb_14 ?_
                refine RS.no rfl rfl rfl hb_14 ?_
                refine RS.no rfl rfl rfl hb_14 ?_
                refine RS.yes rfl rfl rfl rfl (OP.q rfl (v_pickF (v := .bool false) rfl hb_14 rfl ?_))
                refine RS.op rfl (OP.q rfl (v_pickF (v := .bool false) rfl rfl rfl ?_))
                refine RS.nil ?_
                exact T.weakR (hK () trivial) (Weak.mkN [] [3, 4] (by decide) (none_kept _) rfl ⟨rn_sl encItem_p rfl, rn_ptr rfl, rn_ref rfl, rn_int rfl, rn_bool ((congrArg (fun p => p) (Option.some.inj hz)).symm), trivial⟩ (rw_box (cs := [.int .i64 x6.1.Key, .int .i64 x6.1.Val, .int .i64 x6.1.Dep]) (ds := [.int .i64 x6.1.Key, .int .i64 x6.1.Val, .int .i64 x6.1.Dep]) rfl ⟨rn_int rfl, rn_int rfl, rn_int rfl, trivial⟩ (rw_arr rfl encItem_p rfl (rw_nil))))
      · refine T.block ?_
        refine T.join (Z := Unit) (fun _ => mkA 124 [(0, .sl (List.map encItem p0)), (1, .int .i64 p1), (5, .ptr 0 0), (7, .ref 1), (8, .ref 2), (9, .int .i64 x4.2), (10, .ptr 3 0), (11, .ref 4), (12, .int .i64 x6.2.2), (13, .int .i64 0), (37, .bool ((decide (p1 < 1)) || decide (p1 > 6)))]) (fun _ => [.box [.int .i64 p2.Key, .int .i64 p2.Val, .int .i64 p2.Dep], .arr 41 3 (List.map encItem x2), .arr 41 3 (List.map encItem x4.1), .box [.int .i64 x6.1.Key, .int .i64 x6.1.Val, .int .i64 x6.1.Dep], .arr 41 3 (List.map encItem x6.2.1)]) (fun _ => True) (fun _ _ => ?_) (fun hK => ?_)
        · show T _ _ _ _ (mkA 124 [(0, .sl (List.map encItem p0)), (1, .int .i64 p1), (5, .ptr 0 0), (7, .ref 1), (8, .ref 2), (9, .int .i64 x4.2), (10, .ptr 3 0), (11, .ref 4), (12, .int .i64 x6.2.2), (13, .int .i64 0), (37, .bool ((decide (p1 < 1)) || decide (p1 > 6)))]) [.box [.int .i64 p2.Key, .int .i64 p2.Val, .int .i64 p2.Dep], .arr 41 3 (List.map encItem x2), .arr 41 3 (List.map encItem x4.1), .box [.int .i64 x6.1.Key, .int .i64 x6.1.Val, .int .i64 x6.1.Dep], .arr 41 3 (List.map encItem x6.2.1)]
          refine T.cond (b := ((decide (p1 < 1)) || decide (p1 > 6))) rfl (fun hb_33 => ?_) (fun hb_33 => ?_)
          · replace h := ite_T h hb_33
            refine T.region ?_
            refine RS.op rfl (OP.q rfl (v_assign (v := .int .i64 3) rfl ?_))
            refine RS.nil ?_
            exact T.weakR (hK1 3 h) (Weak.mkN [] [0, 1, 2, 3, 4] (by decide) (none_kept _) rfl ⟨rn_sl encItem_p rfl, rn_ptr rfl, rn_ref rfl, rn_ref rfl, rn_int rfl, rn_ptr rfl, rn_ref rfl, rn_int rfl, rn_int rfl, trivial⟩ (rw_box (cs := [.int .i64 p2.Key, .int .i64 p2.Val, .int .i64 p2.Dep]) (ds := [.int .i64 p2.Key, .int .i64 p2.Val, .int .i64 p2.Dep]) rfl ⟨rn_int rfl, rn_int rfl, rn_int rfl, trivial⟩ (rw_arr rfl encItem_p rfl (rw_arr rfl encItem_p rfl (rw_box (cs := [.int .i64 x6.1.Key, .int .i64 x6.1.Val, .int .i64 x6.1.Dep]) (ds := [.int .i64 x6.1.Key, .int .i64 x6.1.Val, .int .i64 x6.1.Dep]) rfl ⟨rn_int rfl, rn_int rfl, rn_int rfl, trivial⟩ (rw_arr rfl encItem_p rfl (rw_nil)))))))
          · replace h := ite_F h hb_33
            refine T.seq ?_
            refine T.region ?_
            refine RS.op rfl (OP.q rfl (v_move (v := .sl (List.map encItem p0)) rfl ?_))
            refine RS.op rfl (OP.q rfl (v_len_sl Ty.s39 rfl ?_))
            refine RS.op rfl (OP.q rfl (v_move (v := .int .i64 p1) rfl ?_))
            refine RS.op rfl (OP.q rfl (v_gtr rfl rfl ?_))
            refine RS.op rfl (OP.q rfl (v_assign (v := .bool (decide (((p0).length : Int) > p1))) rfl ?_))
            refine RS.nil ?_
            refine T.cond (b := decide (((p0).length : Int) > p1)) rfl (fun hb_34 => ?_) (fun hb_34 => ?_)
            · replace h := ite_T h hb_34
              refine T.region ?_
              refine RS.op rfl (OP.q rfl (v_assign (v := .int .i64 2) rfl ?_))
              refine RS.nil ?_
              exact T.weakR (hK1 2 h) (Weak.mkN [] [0, 1, 2, 3, 4] (by decide) (none_kept _) rfl ⟨rn_sl encItem_p rfl, rn_ptr rfl, rn_ref rfl, rn_ref rfl, rn_int rfl, rn_ptr rfl, rn_ref rfl, rn_int rfl, rn_int rfl, trivial⟩ (rw_box (cs := [.int .i64 p2.Key, .int .i64 p2.Val, .int .i64 p2.Dep]) (ds := [.int .i64 p2.Key, .int .i64 p2.Val, .int .i64 p2.Dep]) rfl ⟨rn_int rfl, rn_int rfl, rn_int rfl, trivial⟩ (rw_arr rfl encItem_p rfl (rw_arr rfl encItem_p rfl (rw_box (cs := [.int .i64 x6.1.Key, .int .i64 x6.1.Val, .int .i64 x6.1.Dep]) (ds := [.int .i64 x6.1.Key, .int .i64 x6.1.Val, .int .i64 x6.1.Dep]) rfl ⟨rn_int rfl, rn_int rfl, rn_int rfl, trivial⟩ (rw_arr rfl encItem_p rfl (rw_nil)))))))
            · replace h := ite_F h hb_34
              refine T.seq ?_
              refine T.region ?_
              refine RS.op rfl (OP.q rfl (v_move (v := .sl (List.map encItem p0)) rfl ?_))
              refine RS.op rfl (OP.q rfl (v_len_sl Ty.s39 rfl ?_))
              refine RS.op rfl (OP.q rfl (v_move (v := .int .i64 p1) rfl ?_))
              refine RS.op rfl (OP.q rfl (v_eql rfl rfl ?_))
              refine RS.op rfl (OP.q rfl (v_assign (v := .bool (((p0).length : Int) == p1)) rfl ?_))
              refine RS.nil ?_
              refine T.cond (b := ((p0).length : Int) == p1) rfl (fun hb_35 => ?_) (fun hb_35 => ?_)
              · replace h := ite_T h hb_35
                refine T.region ?_
                refine RS.op rfl (OP.q rfl (v_assign (v := .int .i64 8) rfl ?_))
                refine RS.nil ?_
                exact T.weakR (hK1 8 h) (Weak.mkN [] [0, 1, 2, 3, 4] (by decide) (none_kept _) rfl ⟨rn_sl encItem_p rfl, rn_ptr rfl, rn_ref rfl, rn_ref rfl, rn_int rfl, rn_ptr rfl, rn_ref rfl, rn_int rfl, rn_int rfl, trivial⟩ (rw_box (cs := [.int .i64 p2.Key, .int .i64 p2.Val, .int .i64 p2.Dep]) (ds := [.int .i64 p2.Key, .int .i64 p2.Val, .int .i64 p2.Dep]) rfl ⟨rn_int rfl, rn_int rfl, rn_int rfl, trivial⟩ (rw_arr rfl encItem_p rfl (rw_arr rfl encItem_p rfl (rw_box (cs := [.int .i64 x6.1.Key, .int .i64 x6.1.Val, .int .i64 x6.1.Dep]) (ds := [.int .i64 x6.1.Key, .int .i64 x6.1.Val, .int .i64 x6.1.Dep]) rfl ⟨rn_int rfl, rn_int rfl, rn_int rfl, trivial⟩ (rw_arr rfl encItem_p rfl (rw_nil)))))))
              · replace h := ite_F h hb_35
                refine T.skip ?_
                exact T.weakR (hK1 0 h) (Weak.mkN [] [0, 1, 2, 3, 4] (by decide) (none_kept _) rfl ⟨rn_sl encItem_p rfl, rn_ptr rfl, rn_ref rfl, rn_ref rfl, rn_int rfl, rn_ptr rfl, rn_ref rfl, rn_int rfl, rn_int rfl, trivial⟩ (rw_box (cs := [.int .i64 p2.Key, .int .i64 p2.Val, .int .i64 p2.Dep]) (ds := [.int .i64 p2.Key, .int .i64 p2.Val, .int .i64 p2.Dep]) rfl ⟨rn_int rfl, rn_int rfl, rn_int rfl, trivial⟩ (rw_arr rfl encItem_p rfl (rw_arr rfl encItem_p rfl (rw_box (cs := [.int .i64 x6.1.Key, .int .i64 x6.1.Val, .int .i64 x6.1.Dep]) (ds := [.int .i64 x6.1.Key, .int .i64 x6.1.Val, .int .i64 x6.1.Dep]) rfl ⟨rn_int rfl, rn_int rfl, rn_int rfl, trivial⟩ (rw_arr rfl encItem_p rfl (rw_nil)))))))
        · rcases bool_cases (decide (p1 < 1)) with hb_32 | hb_32
          · refine T.region ?_
            refine RS.op rfl (OP.q rfl (v_move (v := .int .i64 p1) rfl ?_))
            refine RS.op rfl (OP.q rfl (v_lss rfl rfl ?_))
            refine RS.op rfl (OP.q rfl (v_move (v := .bool (decide (p1 < 1))) rfl ?_))
            refine RS.no rfl rfl rfl hb_32 ?_
            refine RS.no rfl rfl rfl hb_32 ?_
            refine RS.op rfl (OP.q rfl (v_pickT (v := .bool true) rfl hb_32 rfl ?_))
            refine RS.op rfl (OP.q rfl (v_assign (v := .bool true) rfl ?_))
            refine RS.nil ?_
            exact T.weakR (hK () trivial) (Weak.mkN [] [0, 1, 2, 3, 4] (by decide) (none_kept _) rfl ⟨rn_sl encItem_p rfl, rn_int rfl, rn_ptr rfl, rn_ref rfl, rn_ref rfl, rn_int rfl, rn_ptr rfl, rn_ref rfl, rn_int rfl, rn_int rfl, rn_bool (by simp only [hb_32, Bool.true_or, Bool.or_true, Bool.false_or, Bool.or_false, Bool.true_and, Bool.and_true, Bool.false_and, Bool.and_false, Bool.not_true, Bool.not_false, if_true, if_false, Bool.false_eq_true, reduceIte]), trivial⟩ (rw_box (cs := [.int .i64 p2.Key, .int .i64 p2.Val, .int .i64 p2.Dep]) (ds := [.int .i64 p2.Key, .int .i64 p2.Val, .int .i64 p2.Dep]) rfl ⟨rn_int rfl, rn_int rfl, rn_int rfl, trivial⟩ (rw_arr rfl encItem_p rfl (rw_arr rfl encItem_p rfl (rw_box (cs := [.int .i64 x6.1.Key, .int .i64 x6.1.Val, .int .i64 x6.1.Dep]) (ds := [.int .i64 x6.1.Key, .int .i64 x6.1.Val, .int .i64 x6.1.Dep]) rfl ⟨rn_int rfl, rn_int rfl, rn_int rfl, trivial⟩ (rw_arr rfl encItem_p rfl (rw_nil)))))))
          · refine T.region ?_
            refine RS.op rfl (OP.q rfl (v_move (v := .int .i64 p1) rfl ?_))
            refine RS.op rfl (OP.q rfl (v_lss rfl rfl ?_))
            refine RS.op rfl (OP.q rfl (v_move (v := .bool (decide (p1 < 1))) rfl ?_))
            refine RS.yes rfl rfl rfl hb_32 (OP.q rfl (v_move (v := .int .i64 p1) rfl ?_))
            refine RS.yes rfl rfl rfl hb_32 (OP.q rfl (v_gtr rfl rfl ?_))
            refine RS.op rfl (OP.q rfl (v_pickF (v := .bool (decide (p1 > 6))) rfl hb_32 rfl ?_))
            refine RS.op rfl (OP.q rfl (v_assign (v := .bool (decide (p1 > 6))) rfl ?_))
            refine RS.nil ?_
            exact T.weakR (hK () trivial) (Weak.mkN [] [0, 1, 2, 3, 4] (by decide) (none_kept _) rfl ⟨rn_sl encItem_p rfl, rn_int rfl, rn_ptr rfl, rn_ref rfl, rn_ref rfl, rn_int rfl, rn_ptr rfl, rn_ref rfl, rn_int rfl, rn_int rfl, rn_bool (by simp only [hb_32, Bool.true_or, Bool.or_true, Bool.false_or, Bool.or_false, Bool.true_and, Bool.and_true, Bool.false_and, Bool.and_false, Bool.not_true, Bool.not_false, if_true, if_false, Bool.false_eq_true, reduceIte]), trivial⟩ (rw_box (cs := [.int .i64 p2.Key, .int .i64 p2.Val, .int .i64 p2.Dep]) (ds := [.int .i64 p2.Key, .int .i64 p2.Val, .int .i64 p2.Dep]) rfl ⟨rn_int rfl, rn_int rfl, rn_int rfl, trivial⟩ (rw_arr rfl encItem_p rfl (rw_arr rfl encItem_p rfl (rw_box (cs := [.int .i64 x6.1.Key, .int .i64 x6.1.Val, .int .i64 x6.1.Dep]) (ds := [.int .i64 x6.1.Key, .int .i64 x6.1.Val, .int .i64 x6.1.Dep]) rfl ⟨rn_int rfl, rn_int rfl, rn_int rfl, trivial⟩ (rw_arr rfl encItem_p rfl (rw_nil)))))))
  · rcases bool_cases (!x7) with hb_1 | hb_1
    · replace hz := ite_T hz hb_1
      refine T.region ?_
      refine RS.op rfl (o_call (as0 := []) (as1 := []) (caps := []) (aw1 := [.box [.int .i64 p2.Key, .int .i64 p2.Val, .int .i64 p2.Dep], .arr 41 3 (List.map encItem x2), .arr 41 3 (List.map encItem x4.1), .arr 41 3 (List.map encItem x6.2.1), .box [.int .i64 x6.1.Key, .int .i64 x6.1.Val, .int .i64 x6.1.Dep]]) rfl rfl rfl (k_flat (v := .bool x7) (crosslaw_ringed_c x7 hx7) (trivial) rfl ?_))
      refine RS.op rfl (OP.q rfl (v_not rfl ?_))
      refine RS.op rfl (OP.q rfl (v_move (v := .bool (!x7)) rfl ?_))
      refine RS.no rfl rfl rfl hb_1 ?_
      refine RS.no rfl rfl rfl hb_1 ?_
      refine RS.no rfl rfl rfl hb_1 ?_
      refine RS.no rfl rfl rfl hb_1 ?_
      refine RS.op rfl (OP.q rfl (v_pickT (v := .bool true) rfl hb_1 rfl ?_))
      refine RS.nil ?_
      exact T.weakR (hK () trivial) (Weak.mkN [] [0, 1, 2, 4, 3] (by decide) (none_kept _) rfl ⟨rn_sl encItem_p rfl, rn_int rfl, rn_ptr rfl, rn_ref rfl, rn_ref rfl, rn_int rfl, rn_ptr rfl, rn_ref rfl, rn_int rfl, rn_bool ((congrArg (fun p => p) (Option.some.inj hz)).symm), trivial⟩ (rw_box (cs := [.int .i64 p2.Key, .int .i64 p2.Val, .int .i64 p2.Dep]) (ds := [.int .i64 p2.Key, .int .i64 p2.Val, .int .i64 p2.Dep]) rfl ⟨rn_int rfl, rn_int rfl, rn_int rfl, trivial⟩ (rw_arr rfl encItem_p rfl (rw_arr rfl encItem_p rfl (rw_box (cs := [.int .i64 x6.1.Key, .int .i64 x6.1.Val, .int .i64 x6.1.Dep]) (ds := [.int .i64 x6.1.Key, .int .i64 x6.1.Val, .int .i64 x6.1.Dep]) rfl ⟨rn_int rfl, rn_int rfl, rn_int rfl, trivial⟩ (rw_arr rfl encItem_p rfl (rw_nil)))))))
    · replace hz := ite_F hz hb_1
      obtain ⟨x8, hx8, hz⟩ := bind_some hz
      refine T.region ?_
      refine RS.op rfl (o_call (as0 := []) (as1 := []) (caps := []) (aw1 := [.box [.int .i64 p2.Key, .int .i64 p2.Val, .int .i64 p2.Dep], .arr 41 3 (List.map encItem x2), .arr 41 3 (List.map encItem x4.1), .arr 41 3 (List.map encItem x6.2.1), .box [.int .i64 x6.1.Key, .int .i64 x6.1.Val, .int .i64 x6.1.Dep]]) rfl rfl rfl (k_flat (v := .bool x7) (crosslaw_ringed_c x7 hx7) (trivial) rfl ?_))
      refine RS.op rfl (OP.q rfl (v_not rfl ?_))
      refine RS.op rfl (OP.q rfl (v_move (v := .bool (!x7)) rfl ?_))
      refine RS.yes rfl rfl rfl hb_1 (OP.q rfl (v_move (v := .ref 1) rfl ?_))
      refine RS.yes rfl rfl rfl hb_1 (OP.q rfl (v_move (v := .sl (List.map encItem p0)) rfl ?_))
      refine RS.yes rfl rfl rfl hb_1 (o_call (as0 := [.ref 1, .sl (List.map encItem p0)]) (as1 := [.sl (List.map encItem x2), .sl (List.map encItem p0)]) (caps := []) (aw1 := [.box [.int .i64 p2.Key, .int .i64 p2.Val, .int .i64 p2.Dep], .dead, .arr 41 3 (List.map encItem x4.1), .arr 41 3 (List.map encItem x6.2.1), .box [.int .i64 x6.1.Key, .int .i64 x6.1.Val, .int .i64 x6.1.Dep]]) rfl rfl rfl (k_flat (v := .bool x8) (slices_Equal_Item_c x2 p0 x8 hx8) (⟨pure_map encItem_p _, pure_map encItem_p _, trivial⟩) rfl ?_))
      refine RS.yes rfl rfl rfl hb_1 (OP.q rfl (v_not rfl ?_))
      refine RS.op rfl (OP.q rfl (v_pickF (v := .bool (!x8)) rfl hb_1 rfl ?_))
      refine RS.nil ?_
      exact T.weakR (hK () trivial) (Weak.mkN [] [0, 1, 2, 4, 3] (by decide) (none_kept _) rfl ⟨rn_sl encItem_p rfl, rn_int rfl, rn_ptr rfl, rn_ref rfl, rn_ref rfl, rn_int rfl, rn_ptr rfl, rn_ref rfl, rn_int rfl, rn_bool ((congrArg (fun p => p) (Option.some.inj hz)).symm), trivial⟩ (rw_box (cs := [.int .i64 p2.Key, .int .i64 p2.Val, .int .i64 p2.Dep]) (ds := [.int .i64 p2.Key, .int .i64 p2.Val, .int .i64 p2.Dep]) rfl ⟨rn_int rfl, rn_int rfl, rn_int rfl, trivial⟩ (rw_arr rfl encItem_p rfl (rw_arr rfl encItem_p rfl (rw_box (cs := [.int .i64 x6.1.Key, .int .i64 x6.1.Val, .int .i64 x6.1.Dep]) (ds := [.int .i64 x6.1.Key, .int .i64 x6.1.Val, .int .i64 x6.1.Dep]) rfl ⟨rn_int rfl, rn_int rfl, rn_int rfl, trivial⟩ (rw_arr rfl encItem_p rfl (rw_nil)))))))
end Go.Proofs.Ytpndpdbabblphaa
