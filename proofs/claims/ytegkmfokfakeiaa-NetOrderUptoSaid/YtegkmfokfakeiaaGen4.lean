/-
  The code computes these functions. Printed by a program of ours (wip/gen.py).
-/
import Derived.Test.YtegkmfokfakeiaaGen3
namespace Go.Proofs.Ytegkmfokfakeiaa
open Go.RowKit
set_option linter.unusedVariables false
set_option linter.unusedSimpArgs false
set_option maxRecDepth 100000
set_option maxHeartbeats 4000000
theorem crosslaw_NetOrder_c (p0 : Net) (r : Bool) (h : crosslaw_NetOrder p0 = some r) : Fn Try.prog 7 [.agg [.sl (List.map encNode p0.Nodes), .int .i64 p0.Rings, .int .i64 p0.Room]] (.bool r) := by
  unfold crosslaw_NetOrder at h
  refine fn_of_T (N := 0) rfl Try.func7 rfl (by kernel_rfl) Try.ntmps7 rfl ?_
  show T _ _ _ _ (mkA 74 [(0, .agg [.sl (List.map encNode p0.Nodes), .int .i64 p0.Rings, .int .i64 p0.Room])]) []
  refine T.seq ?_
  refine T.region ?_
  refine RS.op rfl (o_box (cs := [.sl (List.map encNode p0.Nodes), .int .i64 p0.Rings, .int .i64 p0.Room]) rfl rfl (aw' := [.box [.sl (List.map encNode p0.Nodes), .int .i64 p0.Rings, .int .i64 p0.Room]]) rfl ?_)
  refine RS.op rfl (OP.q rfl (v_assign (v := .bool false) rfl ?_))
  refine RS.nil ?_
  refine T.seq ?_
  obtain ⟨x2, hx2, h⟩ := bind_some h
  refine T.region ?_
  refine RS.op rfl (o_load_ptr rfl rfl (loadRowA Ty.k56 Ty.c56 rfl (cs := [.sl (List.map encNode p0.Nodes), .int .i64 p0.Rings, .int .i64 p0.Room]) rfl ?_))
  refine RS.op rfl (o_call (as0 := [.agg [.sl (List.map encNode p0.Nodes), .int .i64 p0.Rings, .int .i64 p0.Room]]) (as1 := [.agg [.sl (List.map encNode p0.Nodes), .int .i64 p0.Rings, .int .i64 p0.Room]]) (caps := []) (aw1 := [.box [.sl (List.map encNode p0.Nodes), .int .i64 p0.Rings, .int .i64 p0.Room]]) rfl rfl rfl (k_own' (v := .tup [.ref 0, .int .i64 x2.2]) (obs := [.arr 3 1 (List.map encI x2.1)]) (v' := .tup [.ref 1, .int .i64 x2.2]) (aw' := [.box [.sl (List.map encNode p0.Nodes), .int .i64 p0.Rings, .int .i64 p0.Room], .arr 3 1 (List.map encI x2.1)]) (net_Order_c p0 x2 hx2) (⟨pure_agg _ (pures_mem (⟨pure_map encNode_p _, pure_int _ _, pure_int _ _, trivial⟩)), trivial⟩) rfl (obs_cons (flatOb_map fun _ => rfl) obs_nil) rfl rfl ?_))
  refine RS.op rfl (OP.q rfl (v_move (v := .tup [.ref 1, .int .i64 x2.2]) rfl ?_))
  refine RS.op rfl (OP.q rfl (v_extract (v := .ref 1) rfl rfl ?_))
  refine RS.op rfl (OP.q rfl (v_extract (v := .int .i64 x2.2) rfl rfl ?_))
  refine RS.op rfl (OP.q rfl (v_assign (v := .ref 1) rfl ?_))
  refine RS.op rfl (OP.q rfl (v_assign (v := .int .i64 x2.2) rfl ?_))
  refine RS.nil ?_
  refine T.seq ?_
  obtain ⟨x4, hx4, h⟩ := bind_some h
  refine T.region ?_
  refine RS.op rfl (o_load_ptr rfl rfl (loadRowA Ty.k56 Ty.c56 rfl (cs := [.sl (List.map encNode p0.Nodes), .int .i64 p0.Rings, .int .i64 p0.Room]) rfl ?_))
  refine RS.op rfl (o_call (as0 := [.agg [.sl (List.map encNode p0.Nodes), .int .i64 p0.Rings, .int .i64 p0.Room]]) (as1 := [.agg [.sl (List.map encNode p0.Nodes), .int .i64 p0.Rings, .int .i64 p0.Room]]) (caps := []) (aw1 := [.box [.sl (List.map encNode p0.Nodes), .int .i64 p0.Rings, .int .i64 p0.Room], .arr 3 1 (List.map encI x2.1)]) rfl rfl rfl (k_own' (v := .tup [.ref 0, .int .i64 x4.2]) (obs := [.arr 3 1 (List.map encI x4.1)]) (v' := .tup [.ref 2, .int .i64 x4.2]) (aw' := [.box [.sl (List.map encNode p0.Nodes), .int .i64 p0.Rings, .int .i64 p0.Room], .arr 3 1 (List.map encI x2.1), .arr 3 1 (List.map encI x4.1)]) (net_Merges_c p0 x4 hx4) (⟨pure_agg _ (pures_mem (⟨pure_map encNode_p _, pure_int _ _, pure_int _ _, trivial⟩)), trivial⟩) rfl (obs_cons (flatOb_map fun _ => rfl) obs_nil) rfl rfl ?_))
  refine RS.op rfl (OP.q rfl (v_move (v := .tup [.ref 2, .int .i64 x4.2]) rfl ?_))
  refine RS.op rfl (OP.q rfl (v_extract (v := .ref 2) rfl rfl ?_))
  refine RS.op rfl (OP.q rfl (v_extract (v := .int .i64 x4.2) rfl rfl ?_))
  refine RS.op rfl (OP.q rfl (v_assign (v := .ref 2) rfl ?_))
  refine RS.op rfl (OP.q rfl (v_assign (v := .int .i64 x4.2) rfl ?_))
  refine RS.nil ?_
  refine T.seq ?_
  obtain ⟨x6, hx6, h⟩ := bind_some h
  refine T.region ?_
  refine RS.op rfl (o_load_ptr rfl rfl (loadRowA Ty.k56 Ty.c56 rfl (cs := [.sl (List.map encNode p0.Nodes), .int .i64 p0.Rings, .int .i64 p0.Room]) rfl ?_))
  refine RS.op rfl (o_call (as0 := [.agg [.sl (List.map encNode p0.Nodes), .int .i64 p0.Rings, .int .i64 p0.Room]]) (as1 := [.agg [.sl (List.map encNode p0.Nodes), .int .i64 p0.Rings, .int .i64 p0.Room]]) (caps := []) (aw1 := [.box [.sl (List.map encNode p0.Nodes), .int .i64 p0.Rings, .int .i64 p0.Room], .arr 3 1 (List.map encI x2.1), .arr 3 1 (List.map encI x4.1)]) rfl rfl rfl (k_own' (v := .tup [.ref 0, .int .i64 x6.2]) (obs := [.arr 3 1 (List.map encI x6.1)]) (v' := .tup [.ref 3, .int .i64 x6.2]) (aw' := [.box [.sl (List.map encNode p0.Nodes), .int .i64 p0.Rings, .int .i64 p0.Room], .arr 3 1 (List.map encI x2.1), .arr 3 1 (List.map encI x4.1), .arr 3 1 (List.map encI x6.1)]) (crossref_CheckNet_c p0 x6 hx6) (⟨pure_agg _ (pures_mem (⟨pure_map encNode_p _, pure_int _ _, pure_int _ _, trivial⟩)), trivial⟩) rfl (obs_cons (flatOb_map fun _ => rfl) obs_nil) rfl rfl ?_))
  refine RS.op rfl (OP.q rfl (v_move (v := .tup [.ref 3, .int .i64 x6.2]) rfl ?_))
  refine RS.op rfl (OP.q rfl (v_extract (v := .ref 3) rfl rfl ?_))
  refine RS.op rfl (OP.q rfl (v_extract (v := .int .i64 x6.2) rfl rfl ?_))
  refine RS.op rfl (OP.q rfl (v_assign (v := .ref 3) rfl ?_))
  refine RS.op rfl (OP.q rfl (v_assign (v := .int .i64 x6.2) rfl ?_))
  refine RS.nil ?_
  refine T.seq ?_
  obtain ⟨x7, hx7, h⟩ := bind_some h
  obtain ⟨zt_5, hz, h⟩ := bind_some h
  revert hz h; revert zt_5; intro c10 hz h
  refine T.join (Z := Unit) (fun _ => mkA 74 [(1, .ptr 0 0), (5, .ref 1), (8, .int .i64 x6.2), (50, .bool c10)]) (fun _ => [.box [.sl (List.map encNode p0.Nodes), .int .i64 p0.Rings, .int .i64 p0.Room], .arr 3 1 (List.map encI x4.1)]) (fun _ => True) (fun _ _ => ?_) (fun hK => ?_)
  · show T _ _ _ _ (mkA 74 [(1, .ptr 0 0), (5, .ref 1), (8, .int .i64 x6.2), (50, .bool c10)]) [.box [.sl (List.map encNode p0.Nodes), .int .i64 p0.Rings, .int .i64 p0.Room], .arr 3 1 (List.map encI x4.1)]
    refine T.cond (b := c10) rfl (fun hb_6 => ?_) (fun hb_6 => ?_)
    · replace h := ite_T h hb_6
      refine T.seq ?_
      refine T.region ?_
      refine RS.op rfl (OP.q rfl (v_assign (v := .bool false) rfl ?_))
      refine RS.nil ?_
      refine T.ret' (R := ?R7) ?hq7 ?_
      case hq7 => repeat (first | exact RetIs.base | refine RetIs.thn ?_ | refine RetIs.blk ?_ | refine RetIs.lq ?_)
      refine res_tmpA (v := .bool false) rfl ?_
      refine res_done ?_
      exact ret_data (v := .bool false) rfl (pure_bool _) ⟨congrArg (fun r : Bool => (.bool r : AV)) (Option.some.inj h), rfl⟩
    · replace h := ite_F h hb_6
      refine T.skip ?_
      refine T.seq ?_
      refine T.region ?_
      refine RS.op rfl (OP.q rfl (v_assign (v := .nils) rfl ?_))
      refine RS.nil ?_
      refine T.seq ?_
      refine T.seq ?_
      refine T.region ?_
      refine RS.op rfl (OP.q rfl (v_fieldAddr_ptr Ty.f56_0 rfl (off' := 0) rfl ?_))
      refine RS.op rfl (o_load_ptr rfl rfl (loadRow1 Ty.k54 (c := .sl (List.map encNode p0.Nodes)) rfl ?_))
      refine RS.op rfl (OP.q rfl (v_len_sl Ty.s54 rfl ?_))
      refine RS.op rfl (OP.q rfl (v_move (v := .int .i64 0) rfl ?_))
      refine RS.nil ?_
      refine T.block ?_
      refine T.iter (fun ss_14 : Int × (List Int) => mkA 74 [(5, .ref 0), (8, .int .i64 x6.2), (9, .ref 1), (52, .sl (List.map encNode p0.Nodes)), (53, .int .i64 ((p0.Nodes).length : Int)), (54, .int .i64 ss_14.1)]) (fun ss_14 => [.arr 3 1 (List.map encI x4.1), .arr 3 1 (List.map encI ss_14.2)]) h (Weak.mkN [(9, 3, 1)] [1, 2] (by decide) (none_kept _) rfl ⟨rn_ref rfl, rn_int rfl, rn_ref rfl, rn_sl encNode_p rfl, rn_int rfl, rn_int rfl, trivial⟩ (rw_arr rfl encI_p rfl (rw_arr (en := encI) (ys := []) rfl encI_p rfl (rw_nil)))) (fun ss_14 v_15 h hv_15 => ?_)
      obtain ⟨s11, s12⟩ := ss_14
      replace h : crosslaw_NetOrder_l1 p0 x4 x6 s11 s12 = some v_15 := h
      show T _ _ _ _ (mkA 74 [(5, .ref 0), (8, .int .i64 x6.2), (9, .ref 1), (52, .sl (List.map encNode p0.Nodes)), (53, .int .i64 ((p0.Nodes).length : Int)), (54, .int .i64 s11)]) [.arr 3 1 (List.map encI x4.1), .arr 3 1 (List.map encI s12)]
      unfold crosslaw_NetOrder_l1 at h
      refine T.seq ?_
      refine T.region ?_
      refine RS.op rfl (OP.q rfl (v_lss rfl rfl ?_))
      refine RS.nil ?_
      refine T.seq ?_
      refine T.cond (b := decide (s11 < ((p0.Nodes).length : Int))) rfl (fun hb_16 => ?_) (fun hb_16 => ?_)
      · replace h := ite_T h hb_16
        refine T.skip ?_
        refine T.seq ?_
        refine T.block ?_
        refine T.seq ?_
        obtain ⟨x14, hx14, h⟩ := bind_some h
        refine T.region ?_
        refine RS.op rfl (OP.q rfl (v_move (v := .int .i64 s11) rfl ?_))
        refine RS.op rfl (OP.q rfl (v_index_sl Ty.s54 (fun _ => rfl) rfl rfl hx14 ?_))
        refine RS.op rfl (o_load_elt rfl (loadRowA Ty.k67 Ty.c67 rfl (cs := [.int .i64 x14.Kind, .int .i64 x14.A, .sl (List.map encI x14.In), .sl (List.map encI x14.Out)]) rfl ?_))
        refine RS.op rfl (o_alloc Ty.z67 rfl (aw' := [.arr 3 1 (List.map encI x4.1), .arr 3 1 (List.map encI s12), .box [.int .i64 0, .int .i64 0, .nils, .nils]]) rfl ?_)
        refine RS.op rfl (OP.q rfl (v_assign (v := .int .i64 s11) rfl ?_))
        refine RS.op rfl (o_store_ptr Ty.c67 Ty.i67 rfl (vs := [.int .i64 x14.Kind, .int .i64 x14.A, .sl (List.map encI x14.In), .sl (List.map encI x14.Out)]) rfl rfl rfl rfl (cs' := [.int .i64 x14.Kind, .int .i64 x14.A, .sl (List.map encI x14.In), .sl (List.map encI x14.Out)]) rfl (aw' := [.arr 3 1 (List.map encI x4.1), .arr 3 1 (List.map encI s12), .box [.int .i64 x14.Kind, .int .i64 x14.A, .sl (List.map encI x14.In), .sl (List.map encI x14.Out)]]) rfl ?_)
        refine RS.nil ?_
        refine T.join (Z := Unit) (fun _ => mkA 74 [(5, .ref 0), (8, .int .i64 x6.2), (9, .ref 1), (10, .int .i64 s11), (52, .sl (List.map encNode p0.Nodes)), (53, .int .i64 ((p0.Nodes).length : Int)), (54, .int .i64 s11), (65, .bool ((x6.2 == 0) && x14.Kind == 6))]) (fun _ => [.arr 3 1 (List.map encI x4.1), .arr 3 1 (List.map encI s12)]) (fun _ => True) (fun _ _ => ?_) (fun hK => ?_)
        · show T _ _ _ _ (mkA 74 [(5, .ref 0), (8, .int .i64 x6.2), (9, .ref 1), (10, .int .i64 s11), (52, .sl (List.map encNode p0.Nodes)), (53, .int .i64 ((p0.Nodes).length : Int)), (54, .int .i64 s11), (65, .bool ((x6.2 == 0) && x14.Kind == 6))]) [.arr 3 1 (List.map encI x4.1), .arr 3 1 (List.map encI s12)]
          refine T.cond (b := ((x6.2 == 0) && x14.Kind == 6)) rfl (fun hb_18 => ?_) (fun hb_18 => ?_)
          · replace h := ite_T h hb_18
            obtain ⟨x16, hx16, h⟩ := bind_some h
            refine T.region ?_
            refine RS.op rfl (OP.q rfl (v_move (v := .ref 1) rfl ?_))
            refine RS.op rfl (OP.q rfl (v_move (v := .int .i64 s11) rfl ?_))
            refine RS.op rfl (o_buildSlice (rows := List.map encI [s11]) (vs := [.int .i64 s11]) Ty.s57 Ty.z3 rfl rfl rfl rfl rfl (aw' := [.arr 3 1 (List.map encI x4.1), .arr 3 1 (List.map encI s12), .arr 3 1 (List.map encI [s11])]) rfl ?_)
            refine RS.op rfl (o_app_ref (en := encI) (xs := s12) (ys := ([s11] : List Int)) Ty.s57 (fun _ => rfl) rfl rfl rfl hx16 rfl (aw' := [.arr 3 1 (List.map encI x4.1), .dead, .dead, .arr 3 1 (List.map encI x16)]) rfl ?_)
            refine RS.op rfl (OP.q rfl (v_assign (v := .ref 3) rfl ?_))
            refine RS.nil ?_
            refine T.region ?_
            refine RS.op rfl (OP.q rfl (v_add rfl rfl ?_))
            refine RS.op rfl (OP.q rfl (v_move (v := .int .i64 (IntKind.i64.wrap (s11 + 1))) rfl ?_))
            refine RS.nil ?_
            exact ⟨(IntKind.i64.wrap (s11 + 1), x16), (Option.some.inj h).symm, Weak.mkN [] [0, 3] (by decide) (none_kept _) rfl ⟨rn_ref rfl, rn_int rfl, rn_ref rfl, rn_sl encNode_p rfl, rn_int rfl, rn_int rfl, trivial⟩ (rw_arr rfl encI_p rfl (rw_arr rfl encI_p rfl (rw_nil)))⟩
          · replace h := ite_F h hb_18
            refine T.skip ?_
            refine T.region ?_
            refine RS.op rfl (OP.q rfl (v_add rfl rfl ?_))
            refine RS.op rfl (OP.q rfl (v_move (v := .int .i64 (IntKind.i64.wrap (s11 + 1))) rfl ?_))
            refine RS.nil ?_
            exact ⟨(IntKind.i64.wrap (s11 + 1), s12), (Option.some.inj h).symm, Weak.mkN [] [0, 1] (by decide) (none_kept _) rfl ⟨rn_ref rfl, rn_int rfl, rn_ref rfl, rn_sl encNode_p rfl, rn_int rfl, rn_int rfl, trivial⟩ (rw_arr rfl encI_p rfl (rw_arr rfl encI_p rfl (rw_nil)))⟩
        · refine T.region ?_
          refine RS.op rfl (OP.q rfl (v_move (v := .int .i64 x6.2) rfl ?_))
          refine RS.op rfl (OP.q rfl (v_eql rfl rfl ?_))
          refine RS.op rfl (OP.q rfl (v_move (v := .bool (x6.2 == 0)) rfl ?_))
          rcases bool_cases (x6.2 == 0) with hb_17 | hb_17
          · refine RS.yes rfl rfl rfl hb_17 (OP.q rfl (v_fieldAddr_ptr Ty.f67_0 rfl (off' := 0) rfl ?_))
            refine RS.yes rfl rfl rfl hb_17 (o_load_ptr rfl rfl (loadRow1 Ty.k3 (c := .int .i64 x14.Kind) rfl ?_))
            refine RS.yes rfl rfl rfl hb_17 (OP.q rfl (v_eql rfl rfl ?_))
            refine RS.op rfl (OP.q rfl (v_pickT (v := .bool (x14.Kind == 6)) rfl hb_17 rfl ?_))
            refine RS.nil ?_
            exact T.weakR (hK () trivial) (Weak.mkN [] [0, 1] (by decide) (none_kept _) rfl ⟨rn_ref rfl, rn_int rfl, rn_ref rfl, rn_int rfl, rn_sl encNode_p rfl, rn_int rfl, rn_int rfl, rn_bool (by simp only [hb_17, Bool.true_or, Bool.or_true, Bool.false_or, Bool.or_false, Bool.true_and, Bool.and_true, Bool.false_and, Bool.and_false, Bool.not_true, Bool.not_false, if_true, if_false, Bool.false_eq_true, reduceIte]), trivial⟩ (rw_arr rfl encI_p rfl (rw_arr rfl encI_p rfl (rw_nil))))
          · refine RS.no rfl rfl rfl hb_17 ?_
            refine RS.no rfl rfl rfl hb_17 ?_
            refine RS.no rfl rfl rfl hb_17 ?_
            refine RS.op rfl (OP.q rfl (v_pickF (v := .bool false) rfl hb_17 rfl ?_))
            refine RS.nil ?_
            exact T.weakR (hK () trivial) (Weak.mkN [] [0, 1] (by decide) (none_kept _) rfl ⟨rn_ref rfl, rn_int rfl, rn_ref rfl, rn_int rfl, rn_sl encNode_p rfl, rn_int rfl, rn_int rfl, rn_bool (by simp only [hb_17, Bool.true_or, Bool.or_true, Bool.false_or, Bool.or_false, Bool.true_and, Bool.and_true, Bool.false_and, Bool.and_false, Bool.not_true, Bool.not_false, if_true, if_false, Bool.false_eq_true, reduceIte]), trivial⟩ (rw_arr rfl encI_p rfl (rw_arr rfl encI_p rfl (rw_nil))))
      · replace h := ite_F h hb_16
        refine T.exit ?_
        obtain ⟨w_19, h, hw_19⟩ := map_inr h
        replace h := h.trans (congrArg some (hv_15 _ hw_19))
        refine T.seq ?_
        obtain ⟨x18, hx18, h⟩ := bind_some h
        refine T.region ?_
        refine RS.op rfl (OP.q rfl (v_move (v := .ref 0) rfl ?_))
        refine RS.op rfl (OP.q rfl (v_move (v := .ref 1) rfl ?_))
        refine RS.op rfl (o_call (as0 := [.ref 0, .ref 1]) (as1 := [.sl (List.map encI x4.1), .sl (List.map encI s12)]) (caps := []) (aw1 := [.dead, .dead]) rfl rfl rfl (k_flat (v := .bool x18) (slices_Equal_int_c x4.1 s12 x18 hx18) (⟨pure_map encI_p _, pure_map encI_p _, trivial⟩) rfl ?_))
        refine RS.op rfl (OP.q rfl (v_assign (v := .bool x18) rfl ?_))
        refine RS.nil ?_
        refine T.ret' (R := ?R20) ?hq20 ?_
        case hq20 => repeat (first | exact RetIs.base | refine RetIs.thn ?_ | refine RetIs.blk ?_ | refine RetIs.lq ?_)
        refine res_tmpA (v := .bool x18) rfl ?_
        refine res_done ?_
        exact ret_data (v := .bool x18) rfl (pure_bool _) ⟨congrArg (fun r : Bool => (.bool r : AV)) (Option.some.inj h), rfl⟩
  · refine T.region ?_
    refine RS.op rfl (o_call (as0 := []) (as1 := []) (caps := []) (aw1 := [.box [.sl (List.map encNode p0.Nodes), .int .i64 p0.Rings, .int .i64 p0.Room], .arr 3 1 (List.map encI x2.1), .arr 3 1 (List.map encI x4.1), .arr 3 1 (List.map encI x6.1)]) rfl rfl rfl (k_flat (v := .bool x7) (crosslaw_netted_c x7 hx7) (trivial) rfl ?_))
    refine RS.op rfl (OP.q rfl (v_not rfl ?_))
    refine RS.op rfl (OP.q rfl (v_move (v := .bool (!x7)) rfl ?_))
    rcases bool_cases (!x7) with hb_1 | hb_1
    · replace hz := ite_T hz hb_1
      refine RS.no rfl rfl rfl hb_1 ?_
      refine RS.no rfl rfl rfl hb_1 ?_
      refine RS.no rfl rfl rfl hb_1 ?_
      refine RS.no rfl rfl rfl hb_1 ?_
      refine RS.op rfl (OP.q rfl (v_pickT (v := .bool true) rfl hb_1 rfl ?_))
      refine RS.op rfl (OP.q rfl (v_move (v := .bool true) rfl ?_))
      refine RS.no rfl rfl rfl rfl ?_
      refine RS.no rfl rfl rfl rfl ?_
      refine RS.no rfl rfl rfl rfl ?_
      refine RS.op rfl (OP.q rfl (v_pickT (v := .bool true) rfl rfl rfl ?_))
      refine RS.op rfl (OP.q rfl (v_move (v := .bool true) rfl ?_))
      refine RS.no rfl rfl rfl rfl ?_
      refine RS.no rfl rfl rfl rfl ?_
      refine RS.no rfl rfl rfl rfl ?_
      refine RS.op rfl (OP.q rfl (v_pickT (v := .bool true) rfl rfl rfl ?_))
      refine RS.op rfl (OP.q rfl (v_move (v := .bool true) rfl ?_))
      refine RS.no rfl rfl rfl rfl ?_
      refine RS.no rfl rfl rfl rfl ?_
      refine RS.no rfl rfl rfl rfl ?_
      refine RS.no rfl rfl rfl rfl ?_
      refine RS.op rfl (OP.q rfl (v_pickT (v := .bool true) rfl rfl rfl ?_))
      refine RS.nil ?_
      exact T.weakR (hK () trivial) (Weak.mkN [] [0, 2] (by decide) (none_kept _) rfl ⟨rn_ptr rfl, rn_ref rfl, rn_int rfl, rn_bool ((congrArg (fun p => p) (Option.some.inj hz)).symm), trivial⟩ (rw_box (cs := [.sl (List.map encNode p0.Nodes), .int .i64 p0.Rings, .int .i64 p0.Room]) (ds := [.sl (List.map encNode p0.Nodes), .int .i64 p0.Rings, .int .i64 p0.Room]) rfl ⟨rn_sl encNode_p rfl, rn_int rfl, rn_int rfl, trivial⟩ (rw_arr rfl encI_p rfl (rw_nil))))
    · replace hz := ite_F hz hb_1
      obtain ⟨x8, hx8, hz⟩ := bind_some hz
      refine RS.yes rfl rfl rfl hb_1 (o_load_ptr rfl rfl (loadRowA Ty.k56 Ty.c56 rfl (cs := [.sl (List.map encNode p0.Nodes), .int .i64 p0.Rings, .int .i64 p0.Room]) rfl ?_))
      refine RS.yes rfl rfl rfl hb_1 (o_call (as0 := [.agg [.sl (List.map encNode p0.Nodes), .int .i64 p0.Rings, .int .i64 p0.Room]]) (as1 := [.agg [.sl (List.map encNode p0.Nodes), .int .i64 p0.Rings, .int .i64 p0.Room]]) (caps := []) (aw1 := [.box [.sl (List.map encNode p0.Nodes), .int .i64 p0.Rings, .int .i64 p0.Room], .arr 3 1 (List.map encI x2.1), .arr 3 1 (List.map encI x4.1), .arr 3 1 (List.map encI x6.1)]) rfl rfl rfl (k_flat (v := .int .i64 x8) (net_Check_c p0 x8 hx8) (⟨pure_agg _ (pures_mem (⟨pure_map encNode_p _, pure_int _ _, pure_int _ _, trivial⟩)), trivial⟩) rfl ?_))
      refine RS.yes rfl rfl rfl hb_1 (OP.q rfl (v_move (v := .int .i64 x6.2) rfl ?_))
      refine RS.yes rfl rfl rfl hb_1 (OP.q rfl (v_neq rfl rfl ?_))
      refine RS.op rfl (OP.q rfl (v_pickF (v := .bool (x8 != x6.2)) rfl hb_1 rfl ?_))
      refine RS.op rfl (OP.q rfl (v_move (v := .bool (x8 != x6.2)) rfl ?_))
      rcases bool_cases (x8 != x6.2) with hb_2 | hb_2
      · replace hz := ite_T hz hb_2
        refine RS.no rfl rfl rfl hb_2 ?_
        refine RS.no rfl rfl rfl hb_2 ?_
        refine RS.no rfl rfl rfl hb_2 ?_
        refine RS.op rfl (OP.q rfl (v_pickT (v := .bool true) rfl hb_2 rfl ?_))
        refine RS.op rfl (OP.q rfl (v_move (v := .bool true) rfl ?_))
        refine RS.no rfl rfl rfl rfl ?_
        refine RS.no rfl rfl rfl rfl ?_
        refine RS.no rfl rfl rfl rfl ?_
        refine RS.op rfl (OP.q rfl (v_pickT (v := .bool true) rfl rfl rfl ?_))
        refine RS.op rfl (OP.q rfl (v_move (v := .bool true) rfl ?_))
        refine RS.no rfl rfl rfl rfl ?_
        refine RS.no rfl rfl rfl rfl ?_
        refine RS.no rfl rfl rfl rfl ?_
        refine RS.no rfl rfl rfl rfl ?_
        refine RS.op rfl (OP.q rfl (v_pickT (v := .bool true) rfl rfl rfl ?_))
        refine RS.nil ?_
        exact T.weakR (hK () trivial) (Weak.mkN [] [0, 2] (by decide) (none_kept _) rfl ⟨rn_ptr rfl, rn_ref rfl, rn_int rfl, rn_bool ((congrArg (fun p => p) (Option.some.inj hz)).symm), trivial⟩ (rw_box (cs := [.sl (List.map encNode p0.Nodes), .int .i64 p0.Rings, .int .i64 p0.Room]) (ds := [.sl (List.map encNode p0.Nodes), .int .i64 p0.Rings, .int .i64 p0.Room]) rfl ⟨rn_sl encNode_p rfl, rn_int rfl, rn_int rfl, trivial⟩ (rw_arr rfl encI_p rfl (rw_nil))))
      · replace hz := ite_F hz hb_2
        refine RS.yes rfl rfl rfl hb_2 (OP.q rfl (v_move (v := .int .i64 x2.2) rfl ?_))
        refine RS.yes rfl rfl rfl hb_2 (OP.q rfl (v_move (v := .int .i64 x6.2) rfl ?_))
        refine RS.yes rfl rfl rfl hb_2 (OP.q rfl (v_neq rfl rfl ?_))
        refine RS.op rfl (OP.q rfl (v_pickF (v := .bool (x2.2 != x6.2)) rfl hb_2 rfl ?_))
        refine RS.op rfl (OP.q rfl (v_move (v := .bool (x2.2 != x6.2)) rfl ?_))
        rcases bool_cases (x2.2 != x6.2) with hb_3 | hb_3
        · replace hz := ite_T hz hb_3
          refine RS.no rfl rfl rfl hb_3 ?_
          refine RS.no rfl rfl rfl hb_3 ?_
          refine RS.no rfl rfl rfl hb_3 ?_
          refine RS.op rfl (OP.q rfl (v_pickT (v := .bool true) rfl hb_3 rfl ?_))
          refine RS.op rfl (OP.q rfl (v_move (v := .bool true) rfl ?_))
          refine RS.no rfl rfl rfl rfl ?_
          refine RS.no rfl rfl rfl rfl ?_
          refine RS.no rfl rfl rfl rfl ?_
          refine RS.no rfl rfl rfl rfl ?_
          refine RS.op rfl (OP.q rfl (v_pickT (v := .bool true) rfl rfl rfl ?_))
          refine RS.nil ?_
          exact T.weakR (hK () trivial) (Weak.mkN [] [0, 2] (by decide) (none_kept _) rfl ⟨rn_ptr rfl, rn_ref rfl, rn_int rfl, rn_bool ((congrArg (fun p => p) (Option.some.inj hz)).symm), trivial⟩ (rw_box (cs := [.sl (List.map encNode p0.Nodes), .int .i64 p0.Rings, .int .i64 p0.Room]) (ds := [.sl (List.map encNode p0.Nodes), .int .i64 p0.Rings, .int .i64 p0.Room]) rfl ⟨rn_sl encNode_p rfl, rn_int rfl, rn_int rfl, trivial⟩ (rw_arr rfl encI_p rfl (rw_nil))))
        · replace hz := ite_F hz hb_3
          refine RS.yes rfl rfl rfl hb_3 (OP.q rfl (v_move (v := .int .i64 x4.2) rfl ?_))
          refine RS.yes rfl rfl rfl hb_3 (OP.q rfl (v_move (v := .int .i64 x6.2) rfl ?_))
          refine RS.yes rfl rfl rfl hb_3 (OP.q rfl (v_neq rfl rfl ?_))
          refine RS.op rfl (OP.q rfl (v_pickF (v := .bool (x4.2 != x6.2)) rfl hb_3 rfl ?_))
          refine RS.op rfl (OP.q rfl (v_move (v := .bool (x4.2 != x6.2)) rfl ?_))
          rcases bool_cases (x4.2 != x6.2) with hb_4 | hb_4
          · replace hz := ite_T hz hb_4
            refine RS.no rfl rfl rfl hb_4 ?_
            refine RS.no rfl rfl rfl hb_4 ?_
            refine RS.no rfl rfl rfl hb_4 ?_
            refine RS.no rfl rfl rfl hb_4 ?_
            refine RS.op rfl (OP.q rfl (v_pickT (v := .bool true) rfl hb_4 rfl ?_))
            refine RS.nil ?_
            exact T.weakR (hK () trivial) (Weak.mkN [] [0, 2] (by decide) (none_kept _) rfl ⟨rn_ptr rfl, rn_ref rfl, rn_int rfl, rn_bool ((congrArg (fun p => p) (Option.some.inj hz)).symm), trivial⟩ (rw_box (cs := [.sl (List.map encNode p0.Nodes), .int .i64 p0.Rings, .int .i64 p0.Room]) (ds := [.sl (List.map encNode p0.Nodes), .int .i64 p0.Rings, .int .i64 p0.Room]) rfl ⟨rn_sl encNode_p rfl, rn_int rfl, rn_int rfl, trivial⟩ (rw_arr rfl encI_p rfl (rw_nil))))
          · replace hz := ite_F hz hb_4
            obtain ⟨x9, hx9, hz⟩ := bind_some hz
            refine RS.yes rfl rfl rfl hb_4 (OP.q rfl (v_move (v := .ref 1) rfl ?_))
            refine RS.yes rfl rfl rfl hb_4 (OP.q rfl (v_move (v := .ref 3) rfl ?_))
            refine RS.yes rfl rfl rfl hb_4 (o_call (as0 := [.ref 1, .ref 3]) (as1 := [.sl (List.map encI x2.1), .sl (List.map encI x6.1)]) (caps := []) (aw1 := [.box [.sl (List.map encNode p0.Nodes), .int .i64 p0.Rings, .int .i64 p0.Room], .dead, .arr 3 1 (List.map encI x4.1), .dead]) rfl rfl rfl (k_flat (v := .bool x9) (slices_Equal_int_c x2.1 x6.1 x9 hx9) (⟨pure_map encI_p _, pure_map encI_p _, trivial⟩) rfl ?_))
            refine RS.yes rfl rfl rfl hb_4 (OP.q rfl (v_not rfl ?_))
            refine RS.op rfl (OP.q rfl (v_pickF (v := .bool (!x9)) rfl hb_4 rfl ?_))
            refine RS.nil ?_
            exact T.weakR (hK () trivial) (Weak.mkN [] [0, 2] (by decide) (none_kept _) rfl ⟨rn_ptr rfl, rn_ref rfl, rn_int rfl, rn_bool ((congrArg (fun p => p) (Option.some.inj hz)).symm), trivial⟩ (rw_box (cs := [.sl (List.map encNode p0.Nodes), .int .i64 p0.Rings, .int .i64 p0.Room]) (ds := [.sl (List.map encNode p0.Nodes), .int .i64 p0.Rings, .int .i64 p0.Room]) rfl ⟨rn_sl encNode_p rfl, rn_int rfl, rn_int rfl, trivial⟩ (rw_arr rfl encI_p rfl (rw_nil))))
end Go.Proofs.Ytegkmfokfakeiaa
