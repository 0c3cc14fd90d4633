/-
  The code computes these functions. Printed by a program of ours (wip/gen.py).
-/
import Derived.Test.YtegkmfokfakeiaaGen1
namespace Go.Proofs.Ytegkmfokfakeiaa
open Go.RowKit
set_option linter.unusedVariables false
set_option linter.unusedSimpArgs false
set_option maxRecDepth 100000
set_option maxHeartbeats 4000000
theorem net_Sources_c (p0 : Net) (p1 : List (List Item)) (r : Int) (h : net_Sources p0 p1 = some r) : Fn Try.prog 35 [.agg [.sl (List.map encNode p0.Nodes), .int .i64 p0.Rings, .int .i64 p0.Room], .sl (List.map (encL encItem) p1)] (.int .i64 r) := by
  unfold net_Sources at h
  refine fn_of_T (N := 0) rfl Try.func35 rfl (by kernel_rfl) Try.ntmps35 rfl ?_
  show T _ _ _ _ (mkA 69 [(0, .agg [.sl (List.map encNode p0.Nodes), .int .i64 p0.Rings, .int .i64 p0.Room]), (1, .sl (List.map (encL encItem) p1))]) []
  refine T.seq ?_
  refine T.region ?_
  refine RS.op rfl (o_box (cs := [.sl (List.map encNode p0.Nodes), .int .i64 p0.Rings, .int .i64 p0.Room]) rfl rfl (aw' := [.box [.sl (List.map encNode p0.Nodes), .int .i64 p0.Rings, .int .i64 p0.Room]]) rfl ?_)
  refine RS.op rfl (OP.q rfl (v_assign (v := .int .i64 0) rfl ?_))
  refine RS.nil ?_
  refine T.seq ?_
  refine T.seq ?_
  obtain ⟨x2, hx2, h⟩ := bind_some h
  refine T.region ?_
  refine RS.op rfl (o_load_ptr rfl rfl (loadRowA Ty.k56 Ty.c56 rfl (cs := [.sl (List.map encNode p0.Nodes), .int .i64 p0.Rings, .int .i64 p0.Room]) rfl ?_))
  refine RS.op rfl (o_call (as0 := [.agg [.sl (List.map encNode p0.Nodes), .int .i64 p0.Rings, .int .i64 p0.Room]]) (as1 := [.agg [.sl (List.map encNode p0.Nodes), .int .i64 p0.Rings, .int .i64 p0.Room]]) (caps := []) (aw1 := [.box [.sl (List.map encNode p0.Nodes), .int .i64 p0.Rings, .int .i64 p0.Room]]) rfl rfl rfl (k_flat (v := .int .i64 x2) (net_Check_c p0 x2 hx2) (⟨pure_agg _ (pures_mem (⟨pure_map encNode_p _, pure_int _ _, pure_int _ _, trivial⟩)), trivial⟩) rfl ?_))
  refine RS.op rfl (OP.q rfl (v_assign (v := .int .i64 x2) rfl ?_))
  refine RS.nil ?_
  refine T.seq ?_
  refine T.region ?_
  refine RS.op rfl (OP.q rfl (v_move (v := .int .i64 x2) rfl ?_))
  refine RS.op rfl (OP.q rfl (v_neq rfl rfl ?_))
  refine RS.nil ?_
  refine T.cond (b := x2 != 0) rfl (fun hb_1 => ?_) (fun hb_1 => ?_)
  · replace h := ite_T h hb_1
    refine T.seq ?_
    refine T.region ?_
    refine RS.op rfl (OP.q rfl (v_move (v := .int .i64 x2) rfl ?_))
    refine RS.op rfl (OP.q rfl (v_assign (v := .int .i64 x2) rfl ?_))
    refine RS.nil ?_
    refine T.ret' (R := ?R2) ?hq2 ?_
    case hq2 => repeat (first | exact RetIs.base | refine RetIs.thn ?_ | refine RetIs.blk ?_ | refine RetIs.lq ?_)
    refine res_tmpA (v := .int .i64 x2) rfl ?_
    refine res_done ?_
    exact ret_data (v := .int .i64 x2) rfl (pure_int _ _) ⟨congrArg (fun r : Int => (.int .i64 r : AV)) (Option.some.inj h), rfl⟩
  · replace h := ite_F h hb_1
    refine T.skip ?_
    refine T.seq ?_
    refine T.seq ?_
    refine T.region ?_
    refine RS.op rfl (OP.q rfl (v_move (v := .sl (List.map (encL encItem) p1)) rfl ?_))
    refine RS.op rfl (OP.q rfl (v_len_sl Ty.s68 rfl ?_))
    refine RS.op rfl (OP.q rfl (v_gtr rfl rfl ?_))
    refine RS.nil ?_
    refine T.cond (b := decide (((p1).length : Int) > 4)) rfl (fun hb_3 => ?_) (fun hb_3 => ?_)
    · replace h := ite_T h hb_3
      refine T.seq ?_
      refine T.region ?_
      refine RS.op rfl (OP.q rfl (v_assign (v := .int .i64 2) rfl ?_))
      refine RS.nil ?_
      refine T.ret' (R := ?R4) ?hq4 ?_
      case hq4 => repeat (first | exact RetIs.base | refine RetIs.thn ?_ | refine RetIs.blk ?_ | refine RetIs.lq ?_)
      refine res_tmpA (v := .int .i64 2) rfl ?_
      refine res_done ?_
      exact ret_data (v := .int .i64 2) rfl (pure_int _ _) ⟨congrArg (fun r : Int => (.int .i64 r : AV)) (Option.some.inj h), rfl⟩
    · replace h := ite_F h hb_3
      refine T.skip ?_
      refine T.seq ?_
      refine T.seq ?_
      refine T.region ?_
      refine RS.op rfl (OP.q rfl (v_move (v := .sl (List.map (encL encItem) p1)) rfl ?_))
      refine RS.op rfl (OP.q rfl (v_len_sl Ty.s68 rfl ?_))
      refine RS.op rfl (OP.q rfl (v_move (v := .int .i64 0) rfl ?_))
      refine RS.nil ?_
      refine T.block ?_
      refine T.iter (fun ss_37 : Int => mkA 69 [(1, .sl (List.map (encL encItem) p1)), (2, .ptr 0 0), (21, .sl (List.map (encL encItem) p1)), (22, .int .i64 ((p1).length : Int)), (23, .int .i64 ss_37)]) (fun ss_37 => [.box [.sl (List.map encNode p0.Nodes), .int .i64 p0.Rings, .int .i64 p0.Room]]) h (Weak.mkN [] [0] (by decide) (none_kept _) rfl ⟨rn_sl (encL_p encItem_p) rfl, rn_ptr rfl, rn_sl (encL_p encItem_p) rfl, rn_int rfl, rn_int rfl, trivial⟩ (rw_box (cs := [.sl (List.map encNode p0.Nodes), .int .i64 p0.Rings, .int .i64 p0.Room]) (ds := [.sl (List.map encNode p0.Nodes), .int .i64 p0.Rings, .int .i64 p0.Room]) rfl ⟨rn_sl encNode_p rfl, rn_int rfl, rn_int rfl, trivial⟩ (rw_nil))) (fun ss_37 v_38 h hv_38 => ?_)
      revert hv_38 h; revert ss_37; intro s3 h hv_38
      replace h : net_Sources_l3 p0 p1 s3 = some v_38 := h
      show T _ _ _ _ (mkA 69 [(1, .sl (List.map (encL encItem) p1)), (2, .ptr 0 0), (21, .sl (List.map (encL encItem) p1)), (22, .int .i64 ((p1).length : Int)), (23, .int .i64 s3)]) [.box [.sl (List.map encNode p0.Nodes), .int .i64 p0.Rings, .int .i64 p0.Room]]
      unfold net_Sources_l3 at h
      refine T.seq ?_
      refine T.region ?_
      refine RS.op rfl (OP.q rfl (v_lss rfl rfl ?_))
      refine RS.nil ?_
      refine T.seq ?_
      refine T.cond (b := decide (s3 < ((p1).length : Int))) rfl (fun hb_39 => ?_) (fun hb_39 => ?_)
      · replace h := ite_T h hb_39
        refine T.skip ?_
        refine T.seq ?_
        refine T.block ?_
        refine T.seq ?_
        obtain ⟨x5, hx5, h⟩ := bind_some h
        refine T.region ?_
        refine RS.op rfl (OP.q rfl (v_index_sl Ty.s68 (fun _ => rfl) rfl rfl hx5 ?_))
        refine RS.op rfl (o_load_elt rfl (loadRow1 Ty.k74 (c := .sl (List.map encItem x5)) rfl ?_))
        refine RS.op rfl (OP.q rfl (v_assign (v := .sl (List.map encItem x5)) rfl ?_))
        refine RS.nil ?_
        refine T.seq ?_
        refine T.seq ?_
        refine T.region ?_
        refine RS.op rfl (OP.q rfl (v_move (v := .sl (List.map encItem x5)) rfl ?_))
        refine RS.op rfl (OP.q rfl (v_len_sl Ty.s74 rfl ?_))
        refine RS.op rfl (OP.q rfl (v_gtr rfl rfl ?_))
        refine RS.nil ?_
        refine T.cond (b := decide (((x5).length : Int) > 20)) rfl (fun hb_40 => ?_) (fun hb_40 => ?_)
        · replace h := ite_T h hb_40
          refine T.seq ?_
          refine T.region ?_
          refine RS.op rfl (OP.q rfl (v_assign (v := .int .i64 2) rfl ?_))
          refine RS.nil ?_
          refine T.ret' (R := ?R41) ?hq41 ?_
          case hq41 => repeat (first | exact RetIs.base | refine RetIs.thn ?_ | refine RetIs.blk ?_ | refine RetIs.lq ?_)
          obtain ⟨w_42, h, hw_42⟩ := map_inr h
          replace h := h.trans (congrArg some (hv_38 _ hw_42))
          refine res_tmpA (v := .int .i64 2) rfl ?_
          refine res_done ?_
          exact ret_data (v := .int .i64 2) rfl (pure_int _ _) ⟨congrArg (fun r : Int => (.int .i64 r : AV)) (Option.some.inj h), rfl⟩
        · replace h := ite_F h hb_40
          refine T.skip ?_
          refine T.seq ?_
          refine T.region ?_
          refine RS.op rfl (OP.q rfl (v_move (v := .sl (List.map encItem x5)) rfl ?_))
          refine RS.op rfl (OP.q rfl (v_len_sl Ty.s74 rfl ?_))
          refine RS.op rfl (OP.q rfl (v_move (v := .int .i64 0) rfl ?_))
          refine RS.nil ?_
          refine T.block ?_
          refine T.iter (fun ss_49 : Int => mkA 69 [(1, .sl (List.map (encL encItem) p1)), (2, .ptr 0 0), (21, .sl (List.map (encL encItem) p1)), (22, .int .i64 ((p1).length : Int)), (23, .int .i64 s3), (30, .sl (List.map encItem x5)), (31, .int .i64 ((x5).length : Int)), (32, .int .i64 ss_49)]) (fun ss_49 => [.box [.sl (List.map encNode p0.Nodes), .int .i64 p0.Rings, .int .i64 p0.Room]]) h (Weak.mkN [] [0] (by decide) (none_kept _) rfl ⟨rn_sl (encL_p encItem_p) rfl, rn_ptr rfl, rn_sl (encL_p encItem_p) rfl, rn_int rfl, rn_int rfl, rn_sl encItem_p rfl, rn_int rfl, rn_int rfl, trivial⟩ (rw_box (cs := [.sl (List.map encNode p0.Nodes), .int .i64 p0.Rings, .int .i64 p0.Room]) (ds := [.sl (List.map encNode p0.Nodes), .int .i64 p0.Rings, .int .i64 p0.Room]) rfl ⟨rn_sl encNode_p rfl, rn_int rfl, rn_int rfl, trivial⟩ (rw_nil))) (fun ss_49 v_50 h hv_50 => ?_)
          revert hv_50 h; revert ss_49; intro s6 h hv_50
          replace h : net_Sources_l1 s3 x5 s6 = some v_50 := h
          show T _ _ _ _ (mkA 69 [(1, .sl (List.map (encL encItem) p1)), (2, .ptr 0 0), (21, .sl (List.map (encL encItem) p1)), (22, .int .i64 ((p1).length : Int)), (23, .int .i64 s3), (30, .sl (List.map encItem x5)), (31, .int .i64 ((x5).length : Int)), (32, .int .i64 s6)]) [.box [.sl (List.map encNode p0.Nodes), .int .i64 p0.Rings, .int .i64 p0.Room]]
          unfold net_Sources_l1 at h
          refine T.seq ?_
          refine T.region ?_
          refine RS.op rfl (OP.q rfl (v_lss rfl rfl ?_))
          refine RS.nil ?_
          refine T.seq ?_
          refine T.cond (b := decide (s6 < ((x5).length : Int))) rfl (fun hb_51 => ?_) (fun hb_51 => ?_)
          · replace h := ite_T h hb_51
            refine T.skip ?_
            refine T.seq ?_
            refine T.block ?_
            refine T.seq ?_
            obtain ⟨x8, hx8, h⟩ := bind_some h
            refine T.region ?_
            refine RS.op rfl (OP.q rfl (v_index_sl Ty.s74 (fun _ => rfl) rfl rfl hx8 ?_))
            refine RS.op rfl (o_load_elt rfl (loadRowA Ty.k79 Ty.c79 rfl (cs := [.int .i64 x8.Key, .int .i64 x8.Val, .int .i64 x8.Dep]) rfl ?_))
            refine RS.op rfl (o_alloc Ty.z79 rfl (aw' := [.box [.sl (List.map encNode p0.Nodes), .int .i64 p0.Rings, .int .i64 p0.Room], .box [.int .i64 0, .int .i64 0, .int .i64 0]]) rfl ?_)
            refine RS.op rfl (o_store_ptr Ty.c79 Ty.i79 rfl (vs := [.int .i64 x8.Key, .int .i64 x8.Val, .int .i64 x8.Dep]) rfl rfl rfl rfl (cs' := [.int .i64 x8.Key, .int .i64 x8.Val, .int .i64 x8.Dep]) rfl (aw' := [.box [.sl (List.map encNode p0.Nodes), .int .i64 p0.Rings, .int .i64 p0.Room], .box [.int .i64 x8.Key, .int .i64 x8.Val, .int .i64 x8.Dep]]) rfl ?_)
            refine RS.nil ?_
            refine T.seq ?_
            refine T.region ?_
            refine RS.op rfl (OP.q rfl (v_fieldAddr_ptr Ty.f79_2 rfl (off' := 2) rfl ?_))
            refine RS.op rfl (o_load_ptr rfl rfl (loadRow1 Ty.k3 (c := .int .i64 x8.Dep) rfl ?_))
            refine RS.op rfl (OP.q rfl (v_neq rfl rfl ?_))
            refine RS.nil ?_
            refine T.cond (b := x8.Dep != 0) rfl (fun hb_52 => ?_) (fun hb_52 => ?_)
            · replace h := ite_T h hb_52
              refine T.seq ?_
              refine T.region ?_
              refine RS.op rfl (OP.q rfl (v_assign (v := .int .i64 4) rfl ?_))
              refine RS.nil ?_
              refine T.ret' (R := ?R53) ?hq53 ?_
              case hq53 => repeat (first | exact RetIs.base | refine RetIs.thn ?_ | refine RetIs.blk ?_ | refine RetIs.lq ?_)
              obtain ⟨w_54, h, hw_54⟩ := map_inr h
              replace h := h.trans (congrArg some (hv_50 _ hw_54))
              obtain ⟨w_55, h, hw_55⟩ := map_inr h
              replace h := h.trans (congrArg some (hv_38 _ hw_55))
              refine res_tmpA (v := .int .i64 4) rfl ?_
              refine res_done ?_
              exact ret_data (v := .int .i64 4) rfl (pure_int _ _) ⟨congrArg (fun r : Int => (.int .i64 r : AV)) (Option.some.inj h), rfl⟩
            · replace h := ite_F h hb_52
              refine T.skip ?_
              refine T.region ?_
              refine RS.op rfl (OP.q rfl (v_add rfl rfl ?_))
              refine RS.op rfl (OP.q rfl (v_move (v := .int .i64 (IntKind.i64.wrap (s6 + 1))) rfl ?_))
              refine RS.nil ?_
              exact ⟨IntKind.i64.wrap (s6 + 1), (Option.some.inj h).symm, Weak.mkN [] [0] (by decide) (none_kept _) rfl ⟨rn_sl (encL_p encItem_p) rfl, rn_ptr rfl, rn_sl (encL_p encItem_p) rfl, rn_int rfl, rn_int rfl, rn_sl encItem_p rfl, rn_int rfl, rn_int rfl, trivial⟩ (rw_box (cs := [.sl (List.map encNode p0.Nodes), .int .i64 p0.Rings, .int .i64 p0.Room]) (ds := [.sl (List.map encNode p0.Nodes), .int .i64 p0.Rings, .int .i64 p0.Room]) rfl ⟨rn_sl encNode_p rfl, rn_int rfl, rn_int rfl, trivial⟩ (rw_nil))⟩
          · replace h := ite_F h hb_51
            refine T.exit ?_
            obtain ⟨w_56, h, hw_56⟩ := map_inr h
            replace h := h.trans (congrArg some (hv_50 _ hw_56))
            refine T.region ?_
            refine RS.op rfl (OP.q rfl (v_add rfl rfl ?_))
            refine RS.op rfl (OP.q rfl (v_move (v := .int .i64 (IntKind.i64.wrap (s3 + 1))) rfl ?_))
            refine RS.nil ?_
            exact ⟨IntKind.i64.wrap (s3 + 1), (Option.some.inj h).symm, Weak.mkN [] [0] (by decide) (none_kept _) rfl ⟨rn_sl (encL_p encItem_p) rfl, rn_ptr rfl, rn_sl (encL_p encItem_p) rfl, rn_int rfl, rn_int rfl, trivial⟩ (rw_box (cs := [.sl (List.map encNode p0.Nodes), .int .i64 p0.Rings, .int .i64 p0.Room]) (ds := [.sl (List.map encNode p0.Nodes), .int .i64 p0.Rings, .int .i64 p0.Room]) rfl ⟨rn_sl encNode_p rfl, rn_int rfl, rn_int rfl, trivial⟩ (rw_nil))⟩
      · replace h := ite_F h hb_39
        refine T.exit ?_
        obtain ⟨w_57, h, hw_57⟩ := map_inr h
        replace h := h.trans (congrArg some (hv_38 _ hw_57))
        refine T.seq ?_
        obtain ⟨x10, hx10, h⟩ := bind_some h
        refine T.region ?_
        refine RS.op rfl (OP.q rfl (v_move (v := .sl (List.map (encL encItem) p1)) rfl ?_))
        refine RS.op rfl (OP.q rfl (v_len_sl Ty.s68 rfl ?_))
        refine RS.op rfl (o_mk (en := encB) (zr := false) Ty.s118 Ty.z4 rfl rfl hx10 rfl (aw' := [.box [.sl (List.map encNode p0.Nodes), .int .i64 p0.Rings, .int .i64 p0.Room], .arr 4 1 (List.map encB x10)]) rfl ?_)
        refine RS.op rfl (OP.q rfl (v_assign (v := .ref 1) rfl ?_))
        refine RS.nil ?_
        refine T.seq ?_
        refine T.seq ?_
        refine T.region ?_
        refine RS.op rfl (OP.q rfl (v_fieldAddr_ptr Ty.f56_0 rfl (off' := 0) rfl ?_))
        refine RS.op rfl (o_load_ptr rfl rfl (loadRow1 Ty.k54 (c := .sl (List.map encNode p0.Nodes)) rfl ?_))
        refine RS.op rfl (OP.q rfl (v_len_sl Ty.s54 rfl ?_))
        refine RS.op rfl (OP.q rfl (v_move (v := .int .i64 0) rfl ?_))
        refine RS.nil ?_
        refine T.block ?_
        refine T.iter (fun ss_70 : Int × (List Bool) => mkA 69 [(1, .sl (List.map (encL encItem) p1)), (10, .ref 0), (45, .sl (List.map encNode p0.Nodes)), (46, .int .i64 ((p0.Nodes).length : Int)), (47, .int .i64 ss_70.1)]) (fun ss_70 => [.arr 4 1 (List.map encB ss_70.2)]) h (Weak.mkN [] [1] (by decide) (none_kept _) rfl ⟨rn_sl (encL_p encItem_p) rfl, rn_ref rfl, rn_sl encNode_p rfl, rn_int rfl, rn_int rfl, trivial⟩ (rw_arr rfl encB_p rfl (rw_nil))) (fun ss_70 v_71 h hv_71 => ?_)
        obtain ⟨s11, s12⟩ := ss_70
        replace h : net_Sources_l2 p0 p1 s11 s12 = some v_71 := h
        show T _ _ _ _ (mkA 69 [(1, .sl (List.map (encL encItem) p1)), (10, .ref 0), (45, .sl (List.map encNode p0.Nodes)), (46, .int .i64 ((p0.Nodes).length : Int)), (47, .int .i64 s11)]) [.arr 4 1 (List.map encB s12)]
        unfold net_Sources_l2 at h
        refine T.seq ?_
        refine T.region ?_
        refine RS.op rfl (OP.q rfl (v_lss rfl rfl ?_))
        refine RS.nil ?_
        refine T.seq ?_
        refine T.cond (b := decide (s11 < ((p0.Nodes).length : Int))) rfl (fun hb_72 => ?_) (fun hb_72 => ?_)
        · replace h := ite_T h hb_72
          refine T.skip ?_
          refine T.seq ?_
          refine T.block ?_
          refine T.seq ?_
          obtain ⟨x14, hx14, h⟩ := bind_some h
          refine T.region ?_
          refine RS.op rfl (OP.q rfl (v_index_sl Ty.s54 (fun _ => rfl) rfl rfl hx14 ?_))
          refine RS.op rfl (o_load_elt rfl (loadRowA Ty.k67 Ty.c67 rfl (cs := [.int .i64 x14.Kind, .int .i64 x14.A, .sl (List.map encI x14.In), .sl (List.map encI x14.Out)]) rfl ?_))
          refine RS.op rfl (o_alloc Ty.z67 rfl (aw' := [.arr 4 1 (List.map encB s12), .box [.int .i64 0, .int .i64 0, .nils, .nils]]) rfl ?_)
          refine RS.op rfl (o_store_ptr Ty.c67 Ty.i67 rfl (vs := [.int .i64 x14.Kind, .int .i64 x14.A, .sl (List.map encI x14.In), .sl (List.map encI x14.Out)]) rfl rfl rfl rfl (cs' := [.int .i64 x14.Kind, .int .i64 x14.A, .sl (List.map encI x14.In), .sl (List.map encI x14.Out)]) rfl (aw' := [.arr 4 1 (List.map encB s12), .box [.int .i64 x14.Kind, .int .i64 x14.A, .sl (List.map encI x14.In), .sl (List.map encI x14.Out)]]) rfl ?_)
          refine RS.nil ?_
          refine T.seq ?_
          refine T.seq ?_
          refine T.region ?_
          refine RS.op rfl (OP.q rfl (v_fieldAddr_ptr Ty.f67_0 rfl (off' := 0) rfl ?_))
          refine RS.op rfl (o_load_ptr rfl rfl (loadRow1 Ty.k3 (c := .int .i64 x14.Kind) rfl ?_))
          refine RS.op rfl (OP.q rfl (v_neq rfl rfl ?_))
          refine RS.nil ?_
          refine T.cond (b := x14.Kind != 1) rfl (fun hb_73 => ?_) (fun hb_73 => ?_)
          · replace h := ite_T h hb_73
            refine T.exit ?_
            refine T.region ?_
            refine RS.op rfl (OP.q rfl (v_add rfl rfl ?_))
            refine RS.op rfl (OP.q rfl (v_move (v := .int .i64 (IntKind.i64.wrap (s11 + 1))) rfl ?_))
            refine RS.nil ?_
            exact ⟨(IntKind.i64.wrap (s11 + 1), s12), (Option.some.inj h).symm, Weak.mkN [] [0] (by decide) (none_kept _) rfl ⟨rn_sl (encL_p encItem_p) rfl, rn_ref rfl, rn_sl encNode_p rfl, rn_int rfl, rn_int rfl, trivial⟩ (rw_arr rfl encB_p rfl (rw_nil))⟩
          · replace h := ite_F h hb_73
            refine T.skip ?_
            refine T.seq ?_
            refine T.seq ?_
            refine T.region ?_
            refine RS.op rfl (OP.q rfl (v_fieldAddr_ptr Ty.f67_1 rfl (off' := 1) rfl ?_))
            refine RS.op rfl (o_load_ptr rfl rfl (loadRow1 Ty.k3 (c := .int .i64 x14.A) rfl ?_))
            refine RS.op rfl (OP.q rfl (v_move (v := .sl (List.map (encL encItem) p1)) rfl ?_))
            refine RS.op rfl (OP.q rfl (v_len_sl Ty.s68 rfl ?_))
            refine RS.op rfl (OP.q rfl (v_geq rfl rfl ?_))
            refine RS.nil ?_
            refine T.cond (b := decide (x14.A ≥ ((p1).length : Int))) rfl (fun hb_74 => ?_) (fun hb_74 => ?_)
            · replace h := ite_T h hb_74
              refine T.seq ?_
              refine T.region ?_
              refine RS.op rfl (OP.q rfl (v_assign (v := .int .i64 5) rfl ?_))
              refine RS.nil ?_
              refine T.ret' (R := ?R75) ?hq75 ?_
              case hq75 => repeat (first | exact RetIs.base | refine RetIs.thn ?_ | refine RetIs.blk ?_ | refine RetIs.lq ?_)
              obtain ⟨w_76, h, hw_76⟩ := map_inr h
              replace h := h.trans (congrArg some (hv_71 _ hw_76))
              refine res_tmpA (v := .int .i64 5) rfl ?_
              refine res_done ?_
              exact ret_data (v := .int .i64 5) rfl (pure_int _ _) ⟨congrArg (fun r : Int => (.int .i64 r : AV)) (Option.some.inj h), rfl⟩
            · replace h := ite_F h hb_74
              refine T.skip ?_
              refine T.seq ?_
              refine T.seq ?_
              obtain ⟨x17, hx17, h⟩ := bind_some h
              obtain ⟨x18, hx18, h⟩ := bind_some h
              refine T.region ?_
              refine RS.op rfl (OP.q rfl (v_move (v := .ref 0) rfl ?_))
              refine RS.op rfl (OP.q rfl (v_fieldAddr_ptr Ty.f67_1 rfl (off' := 1) rfl ?_))
              refine RS.op rfl (o_load_ptr rfl rfl (loadRow1 Ty.k3 (c := .int .i64 x14.A) rfl ?_))
              refine RS.op rfl (OP.q rfl (v_index_ref' (en := encB) Ty.s118 rfl rfl rfl hx17 ?_))
              refine RS.op rfl (o_load_aptr' (en := encB) (a := x18) rfl rfl hx18 (loadRow1 Ty.k4 (c := .bool x18) rfl ?_))
              refine RS.nil ?_
              refine T.cond (b := x18) rfl (fun hb_77 => ?_) (fun hb_77 => ?_)
              · replace h := ite_T h hb_77
                refine T.seq ?_
                refine T.region ?_
                refine RS.op rfl (OP.q rfl (v_assign (v := .int .i64 6) rfl ?_))
                refine RS.nil ?_
                refine T.ret' (R := ?R78) ?hq78 ?_
                case hq78 => repeat (first | exact RetIs.base | refine RetIs.thn ?_ | refine RetIs.blk ?_ | refine RetIs.lq ?_)
                obtain ⟨w_79, h, hw_79⟩ := map_inr h
                replace h := h.trans (congrArg some (hv_71 _ hw_79))
                refine res_tmpA (v := .int .i64 6) rfl ?_
                refine res_done ?_
                exact ret_data (v := .int .i64 6) rfl (pure_int _ _) ⟨congrArg (fun r : Int => (.int .i64 r : AV)) (Option.some.inj h), rfl⟩
              · replace h := ite_F h hb_77
                refine T.skip ?_
                obtain ⟨x19, hx19, h⟩ := bind_some h
                obtain ⟨x20, hx20, h⟩ := bind_some h
                refine T.region ?_
                refine RS.op rfl (OP.q rfl (v_move (v := .ref 0) rfl ?_))
                refine RS.op rfl (OP.q rfl (v_fieldAddr_ptr Ty.f67_1 rfl (off' := 1) rfl ?_))
                refine RS.op rfl (o_load_ptr rfl rfl (loadRow1 Ty.k3 (c := .int .i64 x14.A) rfl ?_))
                refine RS.op rfl (OP.q rfl (v_index_ref' (en := encB) Ty.s118 rfl rfl rfl hx19 ?_))
                refine RS.op rfl (o_store_aptr' (en := encB) (a := x20) (a' := true) Ty.c4 Ty.i4 rfl (vs := [.bool true]) rfl rfl rfl hx20 rfl rfl (aw' := [.arr 4 1 (List.map encB (List.set s12 x19 true)), .box [.int .i64 x14.Kind, .int .i64 x14.A, .sl (List.map encI x14.In), .sl (List.map encI x14.Out)]]) rfl ?_)
                refine RS.nil ?_
                refine T.region ?_
                refine RS.op rfl (OP.q rfl (v_add rfl rfl ?_))
                refine RS.op rfl (OP.q rfl (v_move (v := .int .i64 (IntKind.i64.wrap (s11 + 1))) rfl ?_))
                refine RS.nil ?_
                exact ⟨(IntKind.i64.wrap (s11 + 1), (List.set s12 x19 true)), (Option.some.inj h).symm, Weak.mkN [] [0] (by decide) (none_kept _) rfl ⟨rn_sl (encL_p encItem_p) rfl, rn_ref rfl, rn_sl encNode_p rfl, rn_int rfl, rn_int rfl, trivial⟩ (rw_arr rfl encB_p rfl (rw_nil))⟩
        · replace h := ite_F h hb_72
          refine T.exit ?_
          obtain ⟨w_80, h, hw_80⟩ := map_inr h
          replace h := h.trans (congrArg some (hv_71 _ hw_80))
          refine T.seq ?_
          refine T.region ?_
          refine RS.op rfl (OP.q rfl (v_assign (v := .int .i64 0) rfl ?_))
          refine RS.nil ?_
          refine T.ret' (R := ?R81) ?hq81 ?_
          case hq81 => repeat (first | exact RetIs.base | refine RetIs.thn ?_ | refine RetIs.blk ?_ | refine RetIs.lq ?_)
          refine res_tmpA (v := .int .i64 0) rfl ?_
          refine res_done ?_
          exact ret_data (v := .int .i64 0) rfl (pure_int _ _) ⟨congrArg (fun r : Int => (.int .i64 r : AV)) (Option.some.inj h), rfl⟩
theorem crosslaw_netted_c (r : Bool) (h : crosslaw_netted = some r) : Fn Try.prog 29 [] (.bool r) := by
  unfold crosslaw_netted at h
  refine fn_of_T (N := 0) rfl Try.func29 rfl (by kernel_rfl) Try.ntmps29 rfl ?_
  show T _ _ _ _ (mkA 37 []) []
  refine T.seq ?_
  refine T.region ?_
  refine RS.op rfl (OP.q rfl (v_assign (v := .bool false) rfl ?_))
  refine RS.nil ?_
  refine T.seq ?_
  obtain ⟨x3, hx3, h⟩ := bind_some h
  obtain ⟨x4, hx4, h⟩ := bind_some h
  refine T.region ?_
  refine RS.op rfl (o_call (as0 := []) (as1 := []) (caps := []) (aw1 := []) rfl rfl rfl (k_fn (v := .agg [.sl (List.map encNode x3.Nodes), .int .i64 x3.Rings, .int .i64 x3.Room]) (crosslaw_meeting_c x3 hx3) (trivial) (pure_agg _ (pures_mem (⟨pure_map encNode_p _, pure_int _ _, pure_int _ _, trivial⟩))) ?_))
  refine RS.op rfl (o_call (as0 := [.agg [.sl (List.map encNode x3.Nodes), .int .i64 x3.Rings, .int .i64 x3.Room]]) (as1 := [.agg [.sl (List.map encNode x3.Nodes), .int .i64 x3.Rings, .int .i64 x3.Room]]) (caps := []) (aw1 := []) rfl rfl rfl (k_own' (v := .tup [.ref 0, .int .i64 x4.2]) (obs := [.arr 3 1 (List.map encI x4.1)]) (v' := .tup [.ref 0, .int .i64 x4.2]) (aw' := [.arr 3 1 (List.map encI x4.1)]) (net_Order_c x3 x4 hx4) (⟨pure_agg _ (pures_mem (⟨pure_map encNode_p _, pure_int _ _, pure_int _ _, trivial⟩)), trivial⟩) rfl (obs_cons (flatOb_map fun _ => rfl) obs_nil) rfl rfl ?_))
  refine RS.op rfl (OP.q rfl (v_move (v := .tup [.ref 0, .int .i64 x4.2]) rfl ?_))
  refine RS.op rfl (OP.q rfl (v_extract (v := .ref 0) rfl rfl ?_))
  refine RS.op rfl (OP.q rfl (v_extract (v := .int .i64 x4.2) rfl rfl ?_))
  refine RS.op rfl (OP.q rfl (v_assign (v := .ref 0) rfl ?_))
  refine RS.op rfl (OP.q rfl (v_assign (v := .int .i64 x4.2) rfl ?_))
  refine RS.nil ?_
  refine T.seq ?_
  obtain ⟨x7, hx7, h⟩ := bind_some h
  obtain ⟨x8, hx8, h⟩ := bind_some h
  refine T.region ?_
  refine RS.op rfl (o_call (as0 := []) (as1 := []) (caps := []) (aw1 := [.arr 3 1 (List.map encI x4.1)]) rfl rfl rfl (k_fn (v := .agg [.sl (List.map encNode x7.Nodes), .int .i64 x7.Rings, .int .i64 x7.Room]) (crosslaw_meeting_c x7 hx7) (trivial) (pure_agg _ (pures_mem (⟨pure_map encNode_p _, pure_int _ _, pure_int _ _, trivial⟩))) ?_))
  refine RS.op rfl (o_call (as0 := [.agg [.sl (List.map encNode x7.Nodes), .int .i64 x7.Rings, .int .i64 x7.Room]]) (as1 := [.agg [.sl (List.map encNode x7.Nodes), .int .i64 x7.Rings, .int .i64 x7.Room]]) (caps := []) (aw1 := [.arr 3 1 (List.map encI x4.1)]) rfl rfl rfl (k_own' (v := .tup [.ref 0, .int .i64 x8.2]) (obs := [.arr 3 1 (List.map encI x8.1)]) (v' := .tup [.ref 1, .int .i64 x8.2]) (aw' := [.arr 3 1 (List.map encI x4.1), .arr 3 1 (List.map encI x8.1)]) (net_Merges_c x7 x8 hx8) (⟨pure_agg _ (pures_mem (⟨pure_map encNode_p _, pure_int _ _, pure_int _ _, trivial⟩)), trivial⟩) rfl (obs_cons (flatOb_map fun _ => rfl) obs_nil) rfl rfl ?_))
  refine RS.op rfl (OP.q rfl (v_move (v := .tup [.ref 1, .int .i64 x8.2]) rfl ?_))
  refine RS.op rfl (OP.q rfl (v_extract (v := .ref 1) rfl rfl ?_))
  refine RS.op rfl (OP.q rfl (v_extract (v := .int .i64 x8.2) rfl rfl ?_))
  refine RS.op rfl (OP.q rfl (v_assign (v := .ref 1) rfl ?_))
  refine RS.op rfl (OP.q rfl (v_assign (v := .int .i64 x8.2) rfl ?_))
  refine RS.nil ?_
  obtain ⟨zt_5, hz, h⟩ := bind_some h
  revert hz h; revert zt_5; intro c14 hz h
  refine T.join (Z := Unit) (fun _ => mkA 37 [(0, .bool c14)]) (fun _ => []) (fun _ => True) (fun _ _ => ?_) (fun hK => ?_)
  · show T _ _ _ _ (mkA 37 [(0, .bool c14)]) []
    refine T.ret' (R := ?R6) ?hq6 ?_
    case hq6 => repeat (first | exact RetIs.base | refine RetIs.thn ?_ | refine RetIs.blk ?_ | refine RetIs.lq ?_)
    refine res_tmpA (v := .bool c14) rfl ?_
    refine res_done ?_
    exact ret_data (v := .bool c14) rfl (pure_bool _) ⟨congrArg (fun r : Bool => (.bool r : AV)) (Option.some.inj h), rfl⟩
  · refine T.region ?_
    refine RS.op rfl (OP.q rfl (v_move (v := .int .i64 x4.2) rfl ?_))
    refine RS.op rfl (OP.q rfl (v_eql rfl rfl ?_))
    refine RS.op rfl (OP.q rfl (v_move (v := .bool (x4.2 == 0)) rfl ?_))
    rcases bool_cases (x4.2 == 0) with hb_1 | hb_1
    · replace hz := ite_T hz hb_1
      refine RS.yes rfl rfl rfl hb_1 (OP.q rfl (v_move (v := .int .i64 x8.2) rfl ?_))
      refine RS.yes rfl rfl rfl hb_1 (OP.q rfl (v_eql rfl rfl ?_))
      refine RS.op rfl (OP.q rfl (v_pickT (v := .bool (x8.2 == 0)) rfl hb_1 rfl ?_))
      refine RS.op rfl (OP.q rfl (v_move (v := .bool (x8.2 == 0)) rfl ?_))
      rcases bool_cases (x8.2 == 0) with hb_2 | hb_2
      · replace hz := ite_T hz hb_2
        obtain ⟨x9, hx9, hz⟩ := bind_some hz
        refine RS.yes rfl rfl rfl hb_2 (OP.q rfl (v_move (v := .ref 0) rfl ?_))
        refine RS.yes rfl rfl rfl hb_2 (o_buildSlice (rows := List.map encI [0, 1, 2, 3]) (vs := [.int .i64 0, .int .i64 1, .int .i64 2, .int .i64 3]) Ty.s57 Ty.z3 rfl rfl rfl rfl rfl (aw' := [.arr 3 1 (List.map encI x4.1), .arr 3 1 (List.map encI x8.1), .arr 3 1 (List.map encI [0, 1, 2, 3])]) rfl ?_)
        refine RS.yes rfl rfl rfl hb_2 (o_call (as0 := [.ref 0, .ref 2]) (as1 := [.sl (List.map encI x4.1), .sl (List.map encI ([0, 1, 2, 3] : List Int))]) (caps := []) (aw1 := [.dead, .arr 3 1 (List.map encI x8.1), .dead]) rfl rfl rfl (k_flat (v := .bool x9) (slices_Equal_int_c x4.1 ([0, 1, 2, 3] : List Int) x9 hx9) (⟨pure_map encI_p _, pure_map encI_p _, trivial⟩) rfl ?_))
        refine RS.op rfl (OP.q rfl (v_pickT (v := .bool x9) rfl hb_2 rfl ?_))
        refine RS.op rfl (OP.q rfl (v_move (v := .bool x9) rfl ?_))
        rcases bool_cases x9 with hb_3 | hb_3
        · replace hz := ite_T hz hb_3
          obtain ⟨x10, hx10, hz⟩ := bind_some hz
          refine RS.yes rfl rfl rfl hb_3 (OP.q rfl (v_move (v := .ref 1) rfl ?_))
          refine RS.yes rfl rfl rfl hb_3 (o_buildSlice (rows := List.map encI [2]) (vs := [.int .i64 2]) Ty.s57 Ty.z3 rfl rfl rfl rfl rfl (aw' := [.arr 3 1 (List.map encI x4.1), .arr 3 1 (List.map encI x8.1), .arr 3 1 (List.map encI [0, 1, 2, 3]), .arr 3 1 (List.map encI [2])]) rfl ?_)
          refine RS.yes rfl rfl rfl hb_3 (o_call (as0 := [.ref 1, .ref 3]) (as1 := [.sl (List.map encI x8.1), .sl (List.map encI ([2] : List Int))]) (caps := []) (aw1 := [.arr 3 1 (List.map encI x4.1), .dead, .arr 3 1 (List.map encI [0, 1, 2, 3]), .dead]) rfl rfl rfl (k_flat (v := .bool x10) (slices_Equal_int_c x8.1 ([2] : List Int) x10 hx10) (⟨pure_map encI_p _, pure_map encI_p _, trivial⟩) rfl ?_))
          refine RS.op rfl (OP.q rfl (v_pickT (v := .bool x10) rfl hb_3 rfl ?_))
          refine RS.op rfl (OP.q rfl (v_move (v := .bool x10) rfl ?_))
          rcases bool_cases x10 with hb_4 | hb_4
          · replace hz := ite_T hz hb_4
            obtain ⟨x11, hx11, hz⟩ := bind_some hz
            obtain ⟨x12, hx12, hz⟩ := bind_some hz
            obtain ⟨x13, hx13, hz⟩ := bind_some hz
            refine RS.yes rfl rfl rfl hb_4 (o_call (as0 := []) (as1 := []) (caps := []) (aw1 := [.arr 3 1 (List.map encI x4.1), .arr 3 1 (List.map encI x8.1), .arr 3 1 (List.map encI [0, 1, 2, 3]), .arr 3 1 (List.map encI [2])]) rfl rfl rfl (k_fn (v := .agg [.sl (List.map encNode x11.Nodes), .int .i64 x11.Rings, .int .i64 x11.Room]) (crosslaw_meeting_c x11 hx11) (trivial) (pure_agg _ (pures_mem (⟨pure_map encNode_p _, pure_int _ _, pure_int _ _, trivial⟩))) ?_))
            refine RS.yes rfl rfl rfl hb_4 (o_call (as0 := []) (as1 := []) (caps := []) (aw1 := [.arr 3 1 (List.map encI x4.1), .arr 3 1 (List.map encI x8.1), .arr 3 1 (List.map encI [0, 1, 2, 3]), .arr 3 1 (List.map encI [2])]) rfl rfl rfl (k_own1' (v := .ref 0) (xs := x12) (v' := .ref 4) (aw' := [.arr 3 1 (List.map encI x4.1), .arr 3 1 (List.map encI x8.1), .arr 3 1 (List.map encI [0, 1, 2, 3]), .arr 3 1 (List.map encI [2]), .arr 74 1 (List.map (encL encItem) x12)]) (crosslaw_two_c x12 hx12) (trivial) (encL_p encItem_p) (.inl ⟨_, rfl⟩) rfl rfl ?_))
            refine RS.yes rfl rfl rfl hb_4 (o_call (as0 := [.agg [.sl (List.map encNode x11.Nodes), .int .i64 x11.Rings, .int .i64 x11.Room], .ref 4]) (as1 := [.agg [.sl (List.map encNode x11.Nodes), .int .i64 x11.Rings, .int .i64 x11.Room], .sl (List.map (encL encItem) x12)]) (caps := []) (aw1 := [.arr 3 1 (List.map encI x4.1), .arr 3 1 (List.map encI x8.1), .arr 3 1 (List.map encI [0, 1, 2, 3]), .arr 3 1 (List.map encI [2]), .dead]) rfl rfl rfl (k_flat (v := .int .i64 x13) (net_Sources_c x11 x12 x13 hx13) (⟨pure_agg _ (pures_mem (⟨pure_map encNode_p _, pure_int _ _, pure_int _ _, trivial⟩)), pure_map (encL_p encItem_p) _, trivial⟩) rfl ?_))
            refine RS.yes rfl rfl rfl hb_4 (OP.q rfl (v_eql rfl rfl ?_))
            refine RS.op rfl (OP.q rfl (v_pickT (v := .bool (x13 == 0)) rfl hb_4 rfl ?_))
            refine RS.op rfl (OP.q rfl (v_assign (v := .bool (x13 == 0)) rfl ?_))
            refine RS.nil ?_
            exact T.weakR (hK () trivial) (Weak.mkN [] [] (by decide) (none_kept _) rfl ⟨rn_bool ((congrArg (fun p => p) (Option.some.inj hz)).symm), trivial⟩ (rw_nil))
          · replace hz := ite_F hz hb_4
            refine RS.no rfl rfl rfl hb_4 ?_
            refine RS.no rfl rfl rfl hb_4 ?_
            refine RS.no rfl rfl rfl hb_4 ?_
            refine RS.no rfl rfl rfl hb_4 ?_
            refine RS.op rfl (OP.q rfl (v_pickF (v := .bool false) rfl hb_4 rfl ?_))
            refine RS.op rfl (OP.q rfl (v_assign (v := .bool false) rfl ?_))
            refine RS.nil ?_
            exact T.weakR (hK () trivial) (Weak.mkN [] [] (by decide) (none_kept _) rfl ⟨rn_bool ((congrArg (fun p => p) (Option.some.inj hz)).symm), trivial⟩ (rw_nil))
        · replace hz := ite_F hz hb_3
          refine RS.no rfl rfl rfl hb_3 ?_
          refine RS.no rfl rfl rfl hb_3 ?_
          refine RS.no rfl rfl rfl hb_3 ?_
          refine RS.op rfl (OP.q rfl (v_pickF (v := .bool false) rfl hb_3 rfl ?_))
          refine RS.op rfl (OP.q rfl (v_move (v := .bool false) rfl ?_))
          refine RS.no rfl rfl rfl rfl ?_
          refine RS.no rfl rfl rfl rfl ?_
          refine RS.no rfl rfl rfl rfl ?_
          refine RS.no rfl rfl rfl rfl ?_
          refine RS.op rfl (OP.q rfl (v_pickF (v := .bool false) rfl rfl rfl ?_))
          refine RS.op rfl (OP.q rfl (v_assign (v := .bool false) rfl ?_))
          refine RS.nil ?_
          exact T.weakR (hK () trivial) (Weak.mkN [] [] (by decide) (none_kept _) rfl ⟨rn_bool ((congrArg (fun p => p) (Option.some.inj hz)).symm), trivial⟩ (rw_nil))
      · replace hz := ite_F hz hb_2
        refine RS.no rfl rfl rfl hb_2 ?_
        refine RS.no rfl rfl rfl hb_2 ?_
        refine RS.no rfl rfl rfl hb_2 ?_
        refine RS.op rfl (OP.q rfl (v_pickF (v := .bool false) rfl hb_2 rfl ?_))
        refine RS.op rfl (OP.q rfl (v_move (v := .bool false) rfl ?_))
        refine RS.no rfl rfl rfl rfl ?_
        refine RS.no rfl rfl rfl rfl ?_
        refine RS.no rfl rfl rfl rfl ?_
        refine RS.op rfl (OP.q rfl (v_pickF (v := .bool false) rfl rfl rfl ?_))
        refine RS.op rfl (OP.q rfl (v_move (v := .bool false) rfl ?_))
        refine RS.no rfl rfl rfl rfl ?_
        refine RS.no rfl rfl rfl rfl ?_
        refine RS.no rfl rfl rfl rfl ?_
        refine RS.no rfl rfl rfl rfl ?_
        refine RS.op rfl (OP.q rfl (v_pickF (v := .bool false) rfl rfl rfl ?_))
        refine RS.op rfl (OP.q rfl (v_assign (v := .bool false) rfl ?_))
        refine RS.nil ?_
        exact T.weakR (hK () trivial) (Weak.mkN [] [] (by decide) (none_kept _) rfl ⟨rn_bool ((congrArg (fun p => p) (Option.some.inj hz)).symm), trivial⟩ (rw_nil))
    · replace hz := ite_F hz hb_1
      refine RS.no rfl rfl rfl hb_1 ?_
      refine RS.no rfl rfl rfl hb_1 ?_
      refine RS.op rfl (OP.q rfl (v_pickF (v := .bool false) rfl hb_1 rfl ?_))
      refine RS.op rfl (OP.q rfl (v_move (v := .bool false) rfl ?_))
      refine RS.no rfl rfl rfl rfl ?_
      refine RS.no rfl rfl rfl rfl ?_
      refine RS.no rfl rfl rfl rfl ?_
      refine RS.op rfl (OP.q rfl (v_pickF (v := .bool false) rfl rfl rfl ?_))
      refine RS.op rfl (OP.q rfl (v_move (v := .bool false) rfl ?_))
      refine RS.no rfl rfl rfl rfl ?_
      refine RS.no rfl rfl rfl rfl ?_
      refine RS.no rfl rfl rfl rfl ?_
      refine RS.op rfl (OP.q rfl (v_pickF (v := .bool false) rfl rfl rfl ?_))
      refine RS.op rfl (OP.q rfl (v_move (v := .bool false) rfl ?_))
      refine RS.no rfl rfl rfl rfl ?_
      refine RS.no rfl rfl rfl rfl ?_
      refine RS.no rfl rfl rfl rfl ?_
      refine RS.no rfl rfl rfl rfl ?_
      refine RS.op rfl (OP.q rfl (v_pickF (v := .bool false) rfl rfl rfl ?_))
      refine RS.op rfl (OP.q rfl (v_assign (v := .bool false) rfl ?_))
      refine RS.nil ?_
      exact T.weakR (hK () trivial) (Weak.mkN [] [] (by decide) (none_kept _) rfl ⟨rn_bool ((congrArg (fun p => p) (Option.some.inj hz)).symm), trivial⟩ (rw_nil))
theorem crossref_CheckNet_3_c (p0 : Int) (r : Bool) (h : crossref_CheckNet_3 p0 = some r) : Fn Try.prog 74 [.int .i64 p0] (.bool r) := by
  unfold crossref_CheckNet_3 at h
  refine fn_of_T (N := 0) rfl Try.func74 rfl (by kernel_rfl) Try.ntmps74 rfl ?_
  show T _ _ _ _ (mkA 5 [(0, .int .i64 p0)]) []
  refine T.seq ?_
  refine T.region ?_
  refine RS.op rfl (OP.q rfl (v_assign (v := .bool false) rfl ?_))
  refine RS.nil ?_
  refine T.seq ?_
  refine T.region ?_
  refine RS.op rfl (OP.q rfl (v_move (v := .int .i64 p0) rfl ?_))
  refine RS.op rfl (OP.q rfl (v_eql rfl rfl ?_))
  refine RS.op rfl (OP.q rfl (v_assign (v := .bool (p0 == 0)) rfl ?_))
  refine RS.nil ?_
  refine T.ret' (R := ?R1) ?hq1 ?_
  case hq1 => repeat (first | exact RetIs.base | refine RetIs.thn ?_ | refine RetIs.blk ?_ | refine RetIs.lq ?_)
  refine res_tmpA (v := .bool (p0 == 0)) rfl ?_
  refine res_done ?_
  exact ret_data (v := .bool (p0 == 0)) rfl (pure_bool _) ⟨congrArg (fun r : Bool => (.bool r : AV)) (Option.some.inj h), rfl⟩
theorem crossref_CheckNet_1_c (p0 : Int) (r : Bool) (h : crossref_CheckNet_1 p0 = some r) : Fn Try.prog 72 [.int .i64 p0] (.bool r) := by
  unfold crossref_CheckNet_1 at h
  refine fn_of_T (N := 0) rfl Try.func72 rfl (by kernel_rfl) Try.ntmps72 rfl ?_
  show T _ _ _ _ (mkA 5 [(0, .int .i64 p0)]) []
  refine T.seq ?_
  refine T.region ?_
  refine RS.op rfl (OP.q rfl (v_assign (v := .bool false) rfl ?_))
  refine RS.nil ?_
  refine T.seq ?_
  refine T.region ?_
  refine RS.op rfl (OP.q rfl (v_move (v := .int .i64 p0) rfl ?_))
  refine RS.op rfl (OP.q rfl (v_eql rfl rfl ?_))
  refine RS.op rfl (OP.q rfl (v_assign (v := .bool (p0 == 1)) rfl ?_))
  refine RS.nil ?_
  refine T.ret' (R := ?R1) ?hq1 ?_
  case hq1 => repeat (first | exact RetIs.base | refine RetIs.thn ?_ | refine RetIs.blk ?_ | refine RetIs.lq ?_)
  refine res_tmpA (v := .bool (p0 == 1)) rfl ?_
  refine res_done ?_
  exact ret_data (v := .bool (p0 == 1)) rfl (pure_bool _) ⟨congrArg (fun r : Bool => (.bool r : AV)) (Option.some.inj h), rfl⟩
theorem crossref_CheckNet_2_c (p0 : Int) (r : Bool) (h : crossref_CheckNet_2 p0 = some r) : Fn Try.prog 73 [.int .i64 p0] (.bool r) := by
  unfold crossref_CheckNet_2 at h
  refine fn_of_T (N := 0) rfl Try.func73 rfl (by kernel_rfl) Try.ntmps73 rfl ?_
  show T _ _ _ _ (mkA 5 [(0, .int .i64 p0)]) []
  refine T.seq ?_
  refine T.region ?_
  refine RS.op rfl (OP.q rfl (v_assign (v := .bool false) rfl ?_))
  refine RS.nil ?_
  refine T.seq ?_
  refine T.region ?_
  refine RS.op rfl (OP.q rfl (v_move (v := .int .i64 p0) rfl ?_))
  refine RS.op rfl (OP.q rfl (v_geq rfl rfl ?_))
  refine RS.op rfl (OP.q rfl (v_assign (v := .bool (decide (p0 ≥ 1))) rfl ?_))
  refine RS.nil ?_
  refine T.ret' (R := ?R1) ?hq1 ?_
  case hq1 => repeat (first | exact RetIs.base | refine RetIs.thn ?_ | refine RetIs.blk ?_ | refine RetIs.lq ?_)
  refine res_tmpA (v := .bool (decide (p0 ≥ 1))) rfl ?_
  refine res_done ?_
  exact ret_data (v := .bool (decide (p0 ≥ 1))) rfl (pure_bool _) ⟨congrArg (fun r : Bool => (.bool r : AV)) (Option.some.inj h), rfl⟩
theorem slices_Index_int_c (p0 : List Int) (p1 : Int) (r : Int) (h : slices_Index_int p0 p1 = some r) : Fn Try.prog 77 [.sl (List.map encI p0), .int .i64 p1] (.int .i64 r) := by
  unfold slices_Index_int at h
  refine fn_of_T (N := 0) rfl Try.func77 rfl (by kernel_rfl) Try.ntmps77 rfl ?_
  show T _ _ _ _ (mkA 19 [(0, .sl (List.map encI p0)), (1, .int .i64 p1)]) []
  refine T.seq ?_
  refine T.region ?_
  refine RS.op rfl (OP.q rfl (v_assign (v := .int .i64 0) rfl ?_))
  refine RS.nil ?_
  refine T.seq ?_
  refine T.seq ?_
  refine T.region ?_
  refine RS.op rfl (OP.q rfl (v_move (v := .sl (List.map encI p0)) rfl ?_))
  refine RS.op rfl (OP.q rfl (v_len_sl Ty.s57 rfl ?_))
  refine RS.op rfl (OP.q rfl (v_move (v := .int .i64 0) rfl ?_))
  refine RS.nil ?_
  refine T.block ?_
  refine T.iter (fun ss_7 : Int => mkA 19 [(0, .sl (List.map encI p0)), (1, .int .i64 p1), (7, .int .i64 ((p0).length : Int)), (8, .int .i64 ss_7)]) (fun ss_7 => []) h (Weak.mkN [] [] (by decide) (none_kept _) rfl ⟨rn_sl encI_p rfl, rn_int rfl, rn_int rfl, rn_int rfl, trivial⟩ (rw_nil)) (fun ss_7 v_8 h hv_8 => ?_)
  revert hv_8 h; revert ss_7; intro s1 h hv_8
  replace h : slices_Index_int_l1 p0 p1 s1 = some v_8 := h
  show T _ _ _ _ (mkA 19 [(0, .sl (List.map encI p0)), (1, .int .i64 p1), (7, .int .i64 ((p0).length : Int)), (8, .int .i64 s1)]) []
  unfold slices_Index_int_l1 at h
  refine T.seq ?_
  refine T.region ?_
  refine RS.op rfl (OP.q rfl (v_lss rfl rfl ?_))
  refine RS.nil ?_
  refine T.seq ?_
  refine T.cond (b := decide (s1 < ((p0).length : Int))) rfl (fun hb_9 => ?_) (fun hb_9 => ?_)
  · replace h := ite_T h hb_9
    refine T.skip ?_
    refine T.seq ?_
    refine T.block ?_
    refine T.seq ?_
    refine T.region ?_
    refine RS.op rfl (OP.q rfl (v_move (v := .int .i64 s1) rfl ?_))
    refine RS.op rfl (OP.q rfl (v_assign (v := .int .i64 s1) rfl ?_))
    refine RS.nil ?_
    refine T.seq ?_
    obtain ⟨x3, hx3, h⟩ := bind_some h
    refine T.region ?_
    refine RS.op rfl (OP.q rfl (v_move (v := .int .i64 p1) rfl ?_))
    refine RS.op rfl (OP.q rfl (v_move (v := .sl (List.map encI p0)) rfl ?_))
    refine RS.op rfl (OP.q rfl (v_move (v := .int .i64 s1) rfl ?_))
    refine RS.op rfl (OP.q rfl (v_index_sl Ty.s57 (fun _ => rfl) rfl rfl hx3 ?_))
    refine RS.op rfl (o_load_elt rfl (loadRow1 Ty.k3 (c := .int .i64 x3) rfl ?_))
    refine RS.op rfl (OP.q rfl (v_eql rfl rfl ?_))
    refine RS.nil ?_
    refine T.cond (b := p1 == x3) rfl (fun hb_10 => ?_) (fun hb_10 => ?_)
    · replace h := ite_T h hb_10
      refine T.seq ?_
      refine T.region ?_
      refine RS.op rfl (OP.q rfl (v_move (v := .int .i64 s1) rfl ?_))
      refine RS.op rfl (OP.q rfl (v_assign (v := .int .i64 s1) rfl ?_))
      refine RS.nil ?_
      refine T.ret' (R := ?R11) ?hq11 ?_
      case hq11 => repeat (first | exact RetIs.base | refine RetIs.thn ?_ | refine RetIs.blk ?_ | refine RetIs.lq ?_)
      obtain ⟨w_12, h, hw_12⟩ := map_inr h
      replace h := h.trans (congrArg some (hv_8 _ hw_12))
      refine res_tmpA (v := .int .i64 s1) rfl ?_
      refine res_done ?_
      exact ret_data (v := .int .i64 s1) rfl (pure_int _ _) ⟨congrArg (fun r : Int => (.int .i64 r : AV)) (Option.some.inj h), rfl⟩
    · replace h := ite_F h hb_10
      refine T.skip ?_
      refine T.region ?_
      refine RS.op rfl (OP.q rfl (v_add rfl rfl ?_))
      refine RS.op rfl (OP.q rfl (v_move (v := .int .i64 (IntKind.i64.wrap (s1 + 1))) rfl ?_))
      refine RS.nil ?_
      exact ⟨IntKind.i64.wrap (s1 + 1), (Option.some.inj h).symm, Weak.mkN [] [] (by decide) (none_kept _) rfl ⟨rn_sl encI_p rfl, rn_int rfl, rn_int rfl, rn_int rfl, trivial⟩ (rw_nil)⟩
  · replace h := ite_F h hb_9
    refine T.exit ?_
    obtain ⟨w_13, h, hw_13⟩ := map_inr h
    replace h := h.trans (congrArg some (hv_8 _ hw_13))
    refine T.seq ?_
    refine T.region ?_
    refine RS.op rfl (OP.q rfl (v_assign (v := .int .i64 (-1)) rfl ?_))
    refine RS.nil ?_
    refine T.ret' (R := ?R14) ?hq14 ?_
    case hq14 => repeat (first | exact RetIs.base | refine RetIs.thn ?_ | refine RetIs.blk ?_ | refine RetIs.lq ?_)
    refine res_tmpA (v := .int .i64 (-1)) rfl ?_
    refine res_done ?_
    exact ret_data (v := .int .i64 (-1)) rfl (pure_int _ _) ⟨congrArg (fun r : Int => (.int .i64 r : AV)) (Option.some.inj h), rfl⟩
theorem slices_Contains_int_c (p0 : List Int) (p1 : Int) (r : Bool) (h : slices_Contains_int p0 p1 = some r) : Fn Try.prog 44 [.sl (List.map encI p0), .int .i64 p1] (.bool r) := by
  unfold slices_Contains_int at h
  refine fn_of_T (N := 0) rfl Try.func44 rfl (by kernel_rfl) Try.ntmps44 rfl ?_
  show T _ _ _ _ (mkA 9 [(0, .sl (List.map encI p0)), (1, .int .i64 p1)]) []
  refine T.seq ?_
  refine T.region ?_
  refine RS.op rfl (OP.q rfl (v_assign (v := .bool false) rfl ?_))
  refine RS.nil ?_
  refine T.seq ?_
  obtain ⟨x2, hx2, h⟩ := bind_some h
  refine T.region ?_
  refine RS.op rfl (OP.q rfl (v_move (v := .sl (List.map encI p0)) rfl ?_))
  refine RS.op rfl (OP.q rfl (v_move (v := .int .i64 p1) rfl ?_))
  refine RS.op rfl (o_call (as0 := [.sl (List.map encI p0), .int .i64 p1]) (as1 := [.sl (List.map encI p0), .int .i64 p1]) (caps := []) (aw1 := []) rfl rfl rfl (k_flat (v := .int .i64 x2) (slices_Index_int_c p0 p1 x2 hx2) (⟨pure_map encI_p _, pure_int _ _, trivial⟩) rfl ?_))
  refine RS.op rfl (OP.q rfl (v_geq rfl rfl ?_))
  refine RS.op rfl (OP.q rfl (v_assign (v := .bool (decide (x2 ≥ 0))) rfl ?_))
  refine RS.nil ?_
  refine T.ret' (R := ?R1) ?hq1 ?_
  case hq1 => repeat (first | exact RetIs.base | refine RetIs.thn ?_ | refine RetIs.blk ?_ | refine RetIs.lq ?_)
  refine res_tmpA (v := .bool (decide (x2 ≥ 0))) rfl ?_
  refine res_done ?_
  exact ret_data (v := .bool (decide (x2 ≥ 0))) rfl (pure_bool _) ⟨congrArg (fun r : Bool => (.bool r : AV)) (Option.some.inj h), rfl⟩
end Go.Proofs.Ytegkmfokfakeiaa
