/-
  The code computes these functions. Printed by a program of ours (wip/gen.py).
-/
import Derived.Test.YtegkmfokfakeiaaGen3
namespace Go.Proofs.Ytegkmfokfakeiaa
open Go.RowKit
set_option linter.unusedVariables false
set_option linter.unusedSimpArgs false
set_option maxRecDepth 100000
set_option maxHeartbeats 4000000
theorem crossref_CheckSources_c (p0 : Net) (p1 : List (List Item)) (r : Int) (h : crossref_CheckSources p0 p1 = some r) : Fn Try.prog 36 [.agg [.sl (List.map encNode p0.Nodes), .int .i64 p0.Rings, .int .i64 p0.Room], .sl (List.map (encL encItem) p1)] (.int .i64 r) := by
  unfold crossref_CheckSources at h
  refine fn_of_T (N := 0) rfl Try.func36 rfl (by kernel_rfl) Try.ntmps36 rfl ?_
  show T _ _ _ _ (mkA 72 [(0, .agg [.sl (List.map encNode p0.Nodes), .int .i64 p0.Rings, .int .i64 p0.Room]), (1, .sl (List.map (encL encItem) p1))]) []
  refine T.seq ?_
  refine T.region ?_
  refine RS.op rfl (o_box (cs := [.sl (List.map encNode p0.Nodes), .int .i64 p0.Rings, .int .i64 p0.Room]) rfl rfl (aw' := [.box [.sl (List.map encNode p0.Nodes), .int .i64 p0.Rings, .int .i64 p0.Room]]) rfl ?_)
  refine RS.op rfl (OP.q rfl (v_assign (v := .int .i64 0) rfl ?_))
  refine RS.nil ?_
  refine T.seq ?_
  refine T.seq ?_
  obtain ⟨x2, hx2, h⟩ := bind_some h
  refine T.region ?_
  refine RS.op rfl (o_load_ptr rfl rfl (loadRowA Ty.k56 Ty.c56 rfl (cs := [.sl (List.map encNode p0.Nodes), .int .i64 p0.Rings, .int .i64 p0.Room]) rfl ?_))
  refine RS.op rfl (o_call (as0 := [.agg [.sl (List.map encNode p0.Nodes), .int .i64 p0.Rings, .int .i64 p0.Room]]) (as1 := [.agg [.sl (List.map encNode p0.Nodes), .int .i64 p0.Rings, .int .i64 p0.Room]]) (caps := []) (aw1 := [.box [.sl (List.map encNode p0.Nodes), .int .i64 p0.Rings, .int .i64 p0.Room]]) rfl rfl rfl (k_own' (v := .tup [.ref 0, .int .i64 x2.2]) (obs := [.arr 3 1 (List.map encI x2.1)]) (v' := .tup [.ref 1, .int .i64 x2.2]) (aw' := [.box [.sl (List.map encNode p0.Nodes), .int .i64 p0.Rings, .int .i64 p0.Room], .arr 3 1 (List.map encI x2.1)]) (crossref_CheckNet_c p0 x2 hx2) (⟨pure_agg _ (pures_mem (⟨pure_map encNode_p _, pure_int _ _, pure_int _ _, trivial⟩)), trivial⟩) rfl (obs_cons (flatOb_map fun _ => rfl) obs_nil) rfl rfl ?_))
  refine RS.op rfl (OP.q rfl (v_move (v := .tup [.ref 1, .int .i64 x2.2]) rfl ?_))
  refine RS.op rfl (OP.q rfl (v_extract (v := .ref 1) rfl rfl ?_))
  refine RS.op rfl (OP.q rfl (v_extract (v := .int .i64 x2.2) rfl rfl ?_))
  refine RS.op rfl (OP.q rfl (v_assign (v := .ref 1) rfl ?_))
  refine RS.op rfl (OP.q rfl (v_assign (v := .int .i64 x2.2) rfl ?_))
  refine RS.nil ?_
  refine T.seq ?_
  refine T.region ?_
  refine RS.op rfl (OP.q rfl (v_move (v := .int .i64 x2.2) rfl ?_))
  refine RS.op rfl (OP.q rfl (v_neq rfl rfl ?_))
  refine RS.nil ?_
  refine T.cond (b := x2.2 != 0) rfl (fun hb_1 => ?_) (fun hb_1 => ?_)
  · replace h := ite_T h hb_1
    refine T.seq ?_
    refine T.region ?_
    refine RS.op rfl (OP.q rfl (v_move (v := .int .i64 x2.2) rfl ?_))
    refine RS.op rfl (OP.q rfl (v_assign (v := .int .i64 x2.2) rfl ?_))
    refine RS.nil ?_
    refine T.ret' (R := ?R2) ?hq2 ?_
    case hq2 => repeat (first | exact RetIs.base | refine RetIs.thn ?_ | refine RetIs.blk ?_ | refine RetIs.lq ?_)
    refine res_tmpA (v := .int .i64 x2.2) rfl ?_
    refine res_done ?_
    exact ret_data (v := .int .i64 x2.2) rfl (pure_int _ _) ⟨congrArg (fun r : Int => (.int .i64 r : AV)) (Option.some.inj h), rfl⟩
  · replace h := ite_F h hb_1
    refine T.skip ?_
    refine T.seq ?_
    refine T.seq ?_
    refine T.region ?_
    refine RS.op rfl (OP.q rfl (v_move (v := .sl (List.map (encL encItem) p1)) rfl ?_))
    refine RS.op rfl (OP.q rfl (v_len_sl Ty.s68 rfl ?_))
    refine RS.op rfl (OP.q rfl (v_gtr rfl rfl ?_))
    refine RS.nil ?_
    refine T.cond (b := decide (((p1).length : Int) > 4)) rfl (fun hb_3 => ?_) (fun hb_3 => ?_)
    · replace h := ite_T h hb_3
      refine T.seq ?_
      refine T.region ?_
      refine RS.op rfl (OP.q rfl (v_assign (v := .int .i64 2) rfl ?_))
      refine RS.nil ?_
      refine T.ret' (R := ?R4) ?hq4 ?_
      case hq4 => repeat (first | exact RetIs.base | refine RetIs.thn ?_ | refine RetIs.blk ?_ | refine RetIs.lq ?_)
      refine res_tmpA (v := .int .i64 2) rfl ?_
      refine res_done ?_
      exact ret_data (v := .int .i64 2) rfl (pure_int _ _) ⟨congrArg (fun r : Int => (.int .i64 r : AV)) (Option.some.inj h), rfl⟩
    · replace h := ite_F h hb_3
      refine T.skip ?_
      refine T.seq ?_
      refine T.seq ?_
      refine T.region ?_
      refine RS.op rfl (OP.q rfl (v_move (v := .sl (List.map (encL encItem) p1)) rfl ?_))
      refine RS.op rfl (OP.q rfl (v_len_sl Ty.s68 rfl ?_))
      refine RS.op rfl (OP.q rfl (v_move (v := .int .i64 0) rfl ?_))
      refine RS.nil ?_
      refine T.block ?_
      refine T.iter (fun ss_37 : Int => mkA 72 [(1, .sl (List.map (encL encItem) p1)), (2, .ptr 0 0), (25, .sl (List.map (encL encItem) p1)), (26, .int .i64 ((p1).length : Int)), (27, .int .i64 ss_37)]) (fun ss_37 => [.box [.sl (List.map encNode p0.Nodes), .int .i64 p0.Rings, .int .i64 p0.Room]]) h (Weak.mkN [] [0] (by decide) (none_kept _) rfl ⟨rn_sl (encL_p encItem_p) rfl, rn_ptr rfl, rn_sl (encL_p encItem_p) rfl, rn_int rfl, rn_int rfl, trivial⟩ (rw_box (cs := [.sl (List.map encNode p0.Nodes), .int .i64 p0.Rings, .int .i64 p0.Room]) (ds := [.sl (List.map encNode p0.Nodes), .int .i64 p0.Rings, .int .i64 p0.Room]) rfl ⟨rn_sl encNode_p rfl, rn_int rfl, rn_int rfl, trivial⟩ (rw_nil))) (fun ss_37 v_38 h hv_38 => ?_)
      revert hv_38 h; revert ss_37; intro s3 h hv_38
      replace h : crossref_CheckSources_l3 p0 p1 s3 = some v_38 := h
      show T _ _ _ _ (mkA 72 [(1, .sl (List.map (encL encItem) p1)), (2, .ptr 0 0), (25, .sl (List.map (encL encItem) p1)), (26, .int .i64 ((p1).length : Int)), (27, .int .i64 s3)]) [.box [.sl (List.map encNode p0.Nodes), .int .i64 p0.Rings, .int .i64 p0.Room]]
      unfold crossref_CheckSources_l3 at h
      refine T.seq ?_
      refine T.region ?_
      refine RS.op rfl (OP.q rfl (v_lss rfl rfl ?_))
      refine RS.nil ?_
      refine T.seq ?_
      refine T.cond (b := decide (s3 < ((p1).length : Int))) rfl (fun hb_39 => ?_) (fun hb_39 => ?_)
      · replace h := ite_T h hb_39
        refine T.skip ?_
        refine T.seq ?_
        refine T.block ?_
        refine T.seq ?_
        obtain ⟨x5, hx5, h⟩ := bind_some h
        refine T.region ?_
        refine RS.op rfl (OP.q rfl (v_index_sl Ty.s68 (fun _ => rfl) rfl rfl hx5 ?_))
        refine RS.op rfl (o_load_elt rfl (loadRow1 Ty.k74 (c := .sl (List.map encItem x5)) rfl ?_))
        refine RS.op rfl (OP.q rfl (v_assign (v := .sl (List.map encItem x5)) rfl ?_))
        refine RS.nil ?_
        refine T.seq ?_
        refine T.seq ?_
        refine T.region ?_
        refine RS.op rfl (OP.q rfl (v_move (v := .sl (List.map encItem x5)) rfl ?_))
        refine RS.op rfl (OP.q rfl (v_len_sl Ty.s74 rfl ?_))
        refine RS.op rfl (OP.q rfl (v_gtr rfl rfl ?_))
        refine RS.nil ?_
        refine T.cond (b := decide (((x5).length : Int) > 20)) rfl (fun hb_40 => ?_) (fun hb_40 => ?_)
        · replace h := ite_T h hb_40
          refine T.seq ?_
          refine T.region ?_
          refine RS.op rfl (OP.q rfl (v_assign (v := .int .i64 2) rfl ?_))
          refine RS.nil ?_
          refine T.ret' (R := ?R41) ?hq41 ?_
          case hq41 => repeat (first | exact RetIs.base | refine RetIs.thn ?_ | refine RetIs.blk ?_ | refine RetIs.lq ?_)
          obtain ⟨w_42, h, hw_42⟩ := map_inr h
          replace h := h.trans (congrArg some (hv_38 _ hw_42))
          refine res_tmpA (v := .int .i64 2) rfl ?_
          refine res_done ?_
          exact ret_data (v := .int .i64 2) rfl (pure_int _ _) ⟨congrArg (fun r : Int => (.int .i64 r : AV)) (Option.some.inj h), rfl⟩
        · replace h := ite_F h hb_40
          refine T.skip ?_
          refine T.seq ?_
          refine T.region ?_
          refine RS.op rfl (OP.q rfl (v_move (v := .sl (List.map encItem x5)) rfl ?_))
          refine RS.op rfl (OP.q rfl (v_len_sl Ty.s74 rfl ?_))
          refine RS.op rfl (OP.q rfl (v_move (v := .int .i64 0) rfl ?_))
          refine RS.nil ?_
          refine T.block ?_
          refine T.iter (fun ss_49 : Int => mkA 72 [(1, .sl (List.map (encL encItem) p1)), (2, .ptr 0 0), (25, .sl (List.map (encL encItem) p1)), (26, .int .i64 ((p1).length : Int)), (27, .int .i64 s3), (34, .sl (List.map encItem x5)), (35, .int .i64 ((x5).length : Int)), (36, .int .i64 ss_49)]) (fun ss_49 => [.box [.sl (List.map encNode p0.Nodes), .int .i64 p0.Rings, .int .i64 p0.Room]]) h (Weak.mkN [] [0] (by decide) (none_kept _) rfl ⟨rn_sl (encL_p encItem_p) rfl, rn_ptr rfl, rn_sl (encL_p encItem_p) rfl, rn_int rfl, rn_int rfl, rn_sl encItem_p rfl, rn_int rfl, rn_int rfl, trivial⟩ (rw_box (cs := [.sl (List.map encNode p0.Nodes), .int .i64 p0.Rings, .int .i64 p0.Room]) (ds := [.sl (List.map encNode p0.Nodes), .int .i64 p0.Rings, .int .i64 p0.Room]) rfl ⟨rn_sl encNode_p rfl, rn_int rfl, rn_int rfl, trivial⟩ (rw_nil))) (fun ss_49 v_50 h hv_50 => ?_)
          revert hv_50 h; revert ss_49; intro s6 h hv_50
          replace h : crossref_CheckSources_l1 s3 x5 s6 = some v_50 := h
          show T _ _ _ _ (mkA 72 [(1, .sl (List.map (encL encItem) p1)), (2, .ptr 0 0), (25, .sl (List.map (encL encItem) p1)), (26, .int .i64 ((p1).length : Int)), (27, .int .i64 s3), (34, .sl (List.map encItem x5)), (35, .int .i64 ((x5).length : Int)), (36, .int .i64 s6)]) [.box [.sl (List.map encNode p0.Nodes), .int .i64 p0.Rings, .int .i64 p0.Room]]
          unfold crossref_CheckSources_l1 at h
          refine T.seq ?_
          refine T.region ?_
          refine RS.op rfl (OP.q rfl (v_lss rfl rfl ?_))
          refine RS.nil ?_
          refine T.seq ?_
          refine T.cond (b := decide (s6 < ((x5).length : Int))) rfl (fun hb_51 => ?_) (fun hb_51 => ?_)
          · replace h := ite_T h hb_51
            refine T.skip ?_
            refine T.seq ?_
            refine T.block ?_
            refine T.seq ?_
            obtain ⟨x8, hx8, h⟩ := bind_some h
            refine T.region ?_
            refine RS.op rfl (OP.q rfl (v_index_sl Ty.s74 (fun _ => rfl) rfl rfl hx8 ?_))
            refine RS.op rfl (o_load_elt rfl (loadRowA Ty.k79 Ty.c79 rfl (cs := [.int .i64 x8.Key, .int .i64 x8.Val, .int .i64 x8.Dep]) rfl ?_))
            refine RS.op rfl (o_alloc Ty.z79 rfl (aw' := [.box [.sl (List.map encNode p0.Nodes), .int .i64 p0.Rings, .int .i64 p0.Room], .box [.int .i64 0, .int .i64 0, .int .i64 0]]) rfl ?_)
            refine RS.op rfl (o_store_ptr Ty.c79 Ty.i79 rfl (vs := [.int .i64 x8.Key, .int .i64 x8.Val, .int .i64 x8.Dep]) rfl rfl rfl rfl (cs' := [.int .i64 x8.Key, .int .i64 x8.Val, .int .i64 x8.Dep]) rfl (aw' := [.box [.sl (List.map encNode p0.Nodes), .int .i64 p0.Rings, .int .i64 p0.Room], .box [.int .i64 x8.Key, .int .i64 x8.Val, .int .i64 x8.Dep]]) rfl ?_)
            refine RS.nil ?_
            refine T.seq ?_
            refine T.region ?_
            refine RS.op rfl (OP.q rfl (v_fieldAddr_ptr Ty.f79_2 rfl (off' := 2) rfl ?_))
            refine RS.op rfl (o_load_ptr rfl rfl (loadRow1 Ty.k3 (c := .int .i64 x8.Dep) rfl ?_))
            refine RS.op rfl (OP.q rfl (v_neq rfl rfl ?_))
            refine RS.nil ?_
            refine T.cond (b := x8.Dep != 0) rfl (fun hb_52 => ?_) (fun hb_52 => ?_)
            · replace h := ite_T h hb_52
              refine T.seq ?_
              refine T.region ?_
              refine RS.op rfl (OP.q rfl (v_assign (v := .int .i64 4) rfl ?_))
              refine RS.nil ?_
              refine T.ret' (R := ?R53) ?hq53 ?_
              case hq53 => repeat (first | exact RetIs.base | refine RetIs.thn ?_ | refine RetIs.blk ?_ | refine RetIs.lq ?_)
              obtain ⟨w_54, h, hw_54⟩ := map_inr h
              replace h := h.trans (congrArg some (hv_50 _ hw_54))
              obtain ⟨w_55, h, hw_55⟩ := map_inr h
              replace h := h.trans (congrArg some (hv_38 _ hw_55))
              refine res_tmpA (v := .int .i64 4) rfl ?_
              refine res_done ?_
              exact ret_data (v := .int .i64 4) rfl (pure_int _ _) ⟨congrArg (fun r : Int => (.int .i64 r : AV)) (Option.some.inj h), rfl⟩
            · replace h := ite_F h hb_52
              refine T.skip ?_
              refine T.region ?_
              refine RS.op rfl (OP.q rfl (v_add rfl rfl ?_))
              refine RS.op rfl (OP.q rfl (v_move (v := .int .i64 (IntKind.i64.wrap (s6 + 1))) rfl ?_))
              refine RS.nil ?_
              exact ⟨IntKind.i64.wrap (s6 + 1), (Option.some.inj h).symm, Weak.mkN [] [0] (by decide) (none_kept _) rfl ⟨rn_sl (encL_p encItem_p) rfl, rn_ptr rfl, rn_sl (encL_p encItem_p) rfl, rn_int rfl, rn_int rfl, rn_sl encItem_p rfl, rn_int rfl, rn_int rfl, trivial⟩ (rw_box (cs := [.sl (List.map encNode p0.Nodes), .int .i64 p0.Rings, .int .i64 p0.Room]) (ds := [.sl (List.map encNode p0.Nodes), .int .i64 p0.Rings, .int .i64 p0.Room]) rfl ⟨rn_sl encNode_p rfl, rn_int rfl, rn_int rfl, trivial⟩ (rw_nil))⟩
          · replace h := ite_F h hb_51
            refine T.exit ?_
            obtain ⟨w_56, h, hw_56⟩ := map_inr h
            replace h := h.trans (congrArg some (hv_50 _ hw_56))
            refine T.region ?_
            refine RS.op rfl (OP.q rfl (v_add rfl rfl ?_))
            refine RS.op rfl (OP.q rfl (v_move (v := .int .i64 (IntKind.i64.wrap (s3 + 1))) rfl ?_))
            refine RS.nil ?_
            exact ⟨IntKind.i64.wrap (s3 + 1), (Option.some.inj h).symm, Weak.mkN [] [0] (by decide) (none_kept _) rfl ⟨rn_sl (encL_p encItem_p) rfl, rn_ptr rfl, rn_sl (encL_p encItem_p) rfl, rn_int rfl, rn_int rfl, trivial⟩ (rw_box (cs := [.sl (List.map encNode p0.Nodes), .int .i64 p0.Rings, .int .i64 p0.Room]) (ds := [.sl (List.map encNode p0.Nodes), .int .i64 p0.Rings, .int .i64 p0.Room]) rfl ⟨rn_sl encNode_p rfl, rn_int rfl, rn_int rfl, trivial⟩ (rw_nil))⟩
      · replace h := ite_F h hb_39
        refine T.exit ?_
        obtain ⟨w_57, h, hw_57⟩ := map_inr h
        replace h := h.trans (congrArg some (hv_38 _ hw_57))
        refine T.seq ?_
        refine T.region ?_
        refine RS.op rfl (o_makeMap rfl (aw' := [.box [.sl (List.map encNode p0.Nodes), .int .i64 p0.Rings, .int .i64 p0.Room], .mp (List.map kI (List.map Prod.fst ([] : List (Int × Int)))) (List.map kI (List.map Prod.snd ([] : List (Int × Int))))]) rfl ?_)
        refine RS.op rfl (OP.q rfl (v_assign (v := .mpr 1) rfl ?_))
        refine RS.nil ?_
        refine T.seq ?_
        refine T.seq ?_
        refine T.region ?_
        refine RS.op rfl (OP.q rfl (v_fieldAddr_ptr Ty.f56_0 rfl (off' := 0) rfl ?_))
        refine RS.op rfl (o_load_ptr rfl rfl (loadRow1 Ty.k54 (c := .sl (List.map encNode p0.Nodes)) rfl ?_))
        refine RS.op rfl (OP.q rfl (v_len_sl Ty.s54 rfl ?_))
        refine RS.op rfl (OP.q rfl (v_move (v := .int .i64 0) rfl ?_))
        refine RS.nil ?_
        refine T.block ?_
        refine T.iter (fun ss_70 : Int × (List (Int × Int)) => mkA 72 [(1, .sl (List.map (encL encItem) p1)), (11, .mpr 0), (47, .sl (List.map encNode p0.Nodes)), (48, .int .i64 ((p0.Nodes).length : Int)), (49, .int .i64 ss_70.1)]) (fun ss_70 => [.mp (List.map kI (List.map Prod.fst ss_70.2)) (List.map kI (List.map Prod.snd ss_70.2))]) h (Weak.mkN [] [1] (by decide) (none_kept _) rfl ⟨rn_sl (encL_p encItem_p) rfl, rn_mpr rfl, rn_sl encNode_p rfl, rn_int rfl, rn_int rfl, trivial⟩ (rw_mp (ek := kI) (ev := kI) (ys := ([] : List (Int × Int))) rfl (fun _ => pure_int _ _) (fun _ => pure_int _ _) rfl (rw_nil))) (fun ss_70 v_71 h hv_71 => ?_)
        obtain ⟨s9, s10⟩ := ss_70
        replace h : crossref_CheckSources_l2 p0 p1 s9 s10 = some v_71 := h
        show T _ _ _ _ (mkA 72 [(1, .sl (List.map (encL encItem) p1)), (11, .mpr 0), (47, .sl (List.map encNode p0.Nodes)), (48, .int .i64 ((p0.Nodes).length : Int)), (49, .int .i64 s9)]) [.mp (List.map kI (List.map Prod.fst s10)) (List.map kI (List.map Prod.snd s10))]
        unfold crossref_CheckSources_l2 at h
        refine T.seq ?_
        refine T.region ?_
        refine RS.op rfl (OP.q rfl (v_lss rfl rfl ?_))
        refine RS.nil ?_
        refine T.seq ?_
        refine T.cond (b := decide (s9 < ((p0.Nodes).length : Int))) rfl (fun hb_72 => ?_) (fun hb_72 => ?_)
        · replace h := ite_T h hb_72
          refine T.skip ?_
          refine T.seq ?_
          refine T.block ?_
          refine T.seq ?_
          obtain ⟨x12, hx12, h⟩ := bind_some h
          refine T.region ?_
          refine RS.op rfl (OP.q rfl (v_index_sl Ty.s54 (fun _ => rfl) rfl rfl hx12 ?_))
          refine RS.op rfl (o_load_elt rfl (loadRowA Ty.k67 Ty.c67 rfl (cs := [.int .i64 x12.Kind, .int .i64 x12.A, .sl (List.map encI x12.In), .sl (List.map encI x12.Out)]) rfl ?_))
          refine RS.op rfl (o_alloc Ty.z67 rfl (aw' := [.mp (List.map kI (List.map Prod.fst s10)) (List.map kI (List.map Prod.snd s10)), .box [.int .i64 0, .int .i64 0, .nils, .nils]]) rfl ?_)
          refine RS.op rfl (o_store_ptr Ty.c67 Ty.i67 rfl (vs := [.int .i64 x12.Kind, .int .i64 x12.A, .sl (List.map encI x12.In), .sl (List.map encI x12.Out)]) rfl rfl rfl rfl (cs' := [.int .i64 x12.Kind, .int .i64 x12.A, .sl (List.map encI x12.In), .sl (List.map encI x12.Out)]) rfl (aw' := [.mp (List.map kI (List.map Prod.fst s10)) (List.map kI (List.map Prod.snd s10)), .box [.int .i64 x12.Kind, .int .i64 x12.A, .sl (List.map encI x12.In), .sl (List.map encI x12.Out)]]) rfl ?_)
          refine RS.nil ?_
          refine T.seq ?_
          refine T.region ?_
          refine RS.op rfl (OP.q rfl (v_fieldAddr_ptr Ty.f67_0 rfl (off' := 0) rfl ?_))
          refine RS.op rfl (o_load_ptr rfl rfl (loadRow1 Ty.k3 (c := .int .i64 x12.Kind) rfl ?_))
          refine RS.op rfl (OP.q rfl (v_eql rfl rfl ?_))
          refine RS.nil ?_
          refine T.cond (b := x12.Kind == 1) rfl (fun hb_73 => ?_) (fun hb_73 => ?_)
          · replace h := ite_T h hb_73
            refine T.seq ?_
            refine T.seq ?_
            refine T.region ?_
            refine RS.op rfl (OP.q rfl (v_fieldAddr_ptr Ty.f67_1 rfl (off' := 1) rfl ?_))
            refine RS.op rfl (o_load_ptr rfl rfl (loadRow1 Ty.k3 (c := .int .i64 x12.A) rfl ?_))
            refine RS.op rfl (OP.q rfl (v_move (v := .sl (List.map (encL encItem) p1)) rfl ?_))
            refine RS.op rfl (OP.q rfl (v_len_sl Ty.s68 rfl ?_))
            refine RS.op rfl (OP.q rfl (v_geq rfl rfl ?_))
            refine RS.nil ?_
            refine T.cond (b := decide (x12.A ≥ ((p1).length : Int))) rfl (fun hb_74 => ?_) (fun hb_74 => ?_)
            · replace h := ite_T h hb_74
              refine T.seq ?_
              refine T.region ?_
              refine RS.op rfl (OP.q rfl (v_assign (v := .int .i64 5) rfl ?_))
              refine RS.nil ?_
              refine T.ret' (R := ?R75) ?hq75 ?_
              case hq75 => repeat (first | exact RetIs.base | refine RetIs.thn ?_ | refine RetIs.blk ?_ | refine RetIs.lq ?_)
              obtain ⟨w_76, h, hw_76⟩ := map_inr h
              replace h := h.trans (congrArg some (hv_71 _ hw_76))
              refine res_tmpA (v := .int .i64 5) rfl ?_
              refine res_done ?_
              exact ret_data (v := .int .i64 5) rfl (pure_int _ _) ⟨congrArg (fun r : Int => (.int .i64 r : AV)) (Option.some.inj h), rfl⟩
            · replace h := ite_F h hb_74
              refine T.skip ?_
              refine T.seq ?_
              refine T.region ?_
              refine RS.op rfl (OP.q rfl (v_move (v := .mpr 0) rfl ?_))
              refine RS.op rfl (OP.q rfl (v_fieldAddr_ptr Ty.f67_1 rfl (off' := 1) rfl ?_))
              refine RS.op rfl (o_load_ptr rfl rfl (loadRow1 Ty.k3 (c := .int .i64 x12.A) rfl ?_))
              refine RS.op rfl (o_lookup (ek := kI) (ev := kI) (xs := s10) (k := x12.A) (z0 := 0) Try.underlying60 (KeyT.int Try.underlying3) Ty.w3 (fun _ _ _ => .int _ _) rfl rfl rfl ?_)
              refine RS.op rfl (OP.q rfl (v_add rfl rfl ?_))
              refine RS.op rfl (o_mapPut (ek := kI) (ev := kI) (xs := s10) (k := x12.A) (a := (IntKind.i64.wrap (((mget x12.A s10).getD 0) + 1))) (.inl rfl) Try.underlying60 (KeyT.int Try.underlying3) rfl rfl rfl rfl (aw' := [.mp (List.map kI (List.map Prod.fst (mset x12.A (IntKind.i64.wrap (((mget x12.A s10).getD 0) + 1)) s10))) (List.map kI (List.map Prod.snd (mset x12.A (IntKind.i64.wrap (((mget x12.A s10).getD 0) + 1)) s10))), .box [.int .i64 x12.Kind, .int .i64 x12.A, .sl (List.map encI x12.In), .sl (List.map encI x12.Out)]]) rfl ?_)
              refine RS.nil ?_
              refine T.seq ?_
              refine T.region ?_
              refine RS.op rfl (OP.q rfl (v_move (v := .mpr 0) rfl ?_))
              refine RS.op rfl (OP.q rfl (v_fieldAddr_ptr Ty.f67_1 rfl (off' := 1) rfl ?_))
              refine RS.op rfl (o_load_ptr rfl rfl (loadRow1 Ty.k3 (c := .int .i64 x12.A) rfl ?_))
              refine RS.op rfl (o_lookup (ek := kI) (ev := kI) (xs := (mset x12.A (IntKind.i64.wrap (((mget x12.A s10).getD 0) + 1)) s10)) (k := x12.A) (z0 := 0) Try.underlying60 (KeyT.int Try.underlying3) Ty.w3 (fun _ _ _ => .int _ _) rfl rfl rfl ?_)
              refine RS.op rfl (OP.q rfl (v_gtr rfl rfl ?_))
              refine RS.nil ?_
              refine T.cond (b := decide (((mget x12.A (mset x12.A (IntKind.i64.wrap (((mget x12.A s10).getD 0) + 1)) s10)).getD 0) > 1)) rfl (fun hb_77 => ?_) (fun hb_77 => ?_)
              · replace h := ite_T h hb_77
                refine T.seq ?_
                refine T.region ?_
                refine RS.op rfl (OP.q rfl (v_assign (v := .int .i64 6) rfl ?_))
                refine RS.nil ?_
                refine T.ret' (R := ?R78) ?hq78 ?_
                case hq78 => repeat (first | exact RetIs.base | refine RetIs.thn ?_ | refine RetIs.blk ?_ | refine RetIs.lq ?_)
                obtain ⟨w_79, h, hw_79⟩ := map_inr h
                replace h := h.trans (congrArg some (hv_71 _ hw_79))
                refine res_tmpA (v := .int .i64 6) rfl ?_
                refine res_done ?_
                exact ret_data (v := .int .i64 6) rfl (pure_int _ _) ⟨congrArg (fun r : Int => (.int .i64 r : AV)) (Option.some.inj h), rfl⟩
              · replace h := ite_F h hb_77
                refine T.skip ?_
                refine T.region ?_
                refine RS.op rfl (OP.q rfl (v_add rfl rfl ?_))
                refine RS.op rfl (OP.q rfl (v_move (v := .int .i64 (IntKind.i64.wrap (s9 + 1))) rfl ?_))
                refine RS.nil ?_
                exact ⟨(IntKind.i64.wrap (s9 + 1), (mset x12.A (IntKind.i64.wrap (((mget x12.A s10).getD 0) + 1)) s10)), (Option.some.inj h).symm, Weak.mkN [] [0] (by decide) (none_kept _) rfl ⟨rn_sl (encL_p encItem_p) rfl, rn_mpr rfl, rn_sl encNode_p rfl, rn_int rfl, rn_int rfl, trivial⟩ (rw_mp (ek := kI) (ev := kI) (ys := (mset x12.A (IntKind.i64.wrap (((mget x12.A s10).getD 0) + 1)) s10)) rfl (fun _ => pure_int _ _) (fun _ => pure_int _ _) rfl (rw_nil))⟩
          · replace h := ite_F h hb_73
            refine T.skip ?_
            refine T.region ?_
            refine RS.op rfl (OP.q rfl (v_add rfl rfl ?_))
            refine RS.op rfl (OP.q rfl (v_move (v := .int .i64 (IntKind.i64.wrap (s9 + 1))) rfl ?_))
            refine RS.nil ?_
            exact ⟨(IntKind.i64.wrap (s9 + 1), s10), (Option.some.inj h).symm, Weak.mkN [] [0] (by decide) (none_kept _) rfl ⟨rn_sl (encL_p encItem_p) rfl, rn_mpr rfl, rn_sl encNode_p rfl, rn_int rfl, rn_int rfl, trivial⟩ (rw_mp (ek := kI) (ev := kI) (ys := s10) rfl (fun _ => pure_int _ _) (fun _ => pure_int _ _) rfl (rw_nil))⟩
        · replace h := ite_F h hb_72
          refine T.exit ?_
          obtain ⟨w_80, h, hw_80⟩ := map_inr h
          replace h := h.trans (congrArg some (hv_71 _ hw_80))
          refine T.seq ?_
          refine T.region ?_
          refine RS.op rfl (OP.q rfl (v_assign (v := .int .i64 0) rfl ?_))
          refine RS.nil ?_
          refine T.ret' (R := ?R81) ?hq81 ?_
          case hq81 => repeat (first | exact RetIs.base | refine RetIs.thn ?_ | refine RetIs.blk ?_ | refine RetIs.lq ?_)
          refine res_tmpA (v := .int .i64 0) rfl ?_
          refine res_done ?_
          exact ret_data (v := .int .i64 0) rfl (pure_int _ _) ⟨congrArg (fun r : Int => (.int .i64 r : AV)) (Option.some.inj h), rfl⟩
theorem crosslaw_NetSources_c (p0 : Net) (p1 : List (List Item)) (r : Bool) (h : crosslaw_NetSources p0 p1 = some r) : Fn Try.prog 8 [.agg [.sl (List.map encNode p0.Nodes), .int .i64 p0.Rings, .int .i64 p0.Room], .sl (List.map (encL encItem) p1)] (.bool r) := by
  unfold crosslaw_NetSources at h
  refine fn_of_T (N := 0) rfl Try.func8 rfl (by kernel_rfl) Try.ntmps8 rfl ?_
  show T _ _ _ _ (mkA 15 [(0, .agg [.sl (List.map encNode p0.Nodes), .int .i64 p0.Rings, .int .i64 p0.Room]), (1, .sl (List.map (encL encItem) p1))]) []
  refine T.seq ?_
  refine T.region ?_
  refine RS.op rfl (o_box (cs := [.sl (List.map encNode p0.Nodes), .int .i64 p0.Rings, .int .i64 p0.Room]) rfl rfl (aw' := [.box [.sl (List.map encNode p0.Nodes), .int .i64 p0.Rings, .int .i64 p0.Room]]) rfl ?_)
  refine RS.op rfl (OP.q rfl (v_assign (v := .bool false) rfl ?_))
  refine RS.nil ?_
  obtain ⟨x1, hx1, h⟩ := bind_some h
  obtain ⟨zt_2, hz, h⟩ := bind_some h
  revert hz h; revert zt_2; intro c4 hz h
  refine T.join (Z := Unit) (fun _ => mkA 15 [(4, .bool c4)]) (fun _ => []) (fun _ => True) (fun _ _ => ?_) (fun hK => ?_)
  · show T _ _ _ _ (mkA 15 [(4, .bool c4)]) []
    refine T.ret' (R := ?R3) ?hq3 ?_
    case hq3 => repeat (first | exact RetIs.base | refine RetIs.thn ?_ | refine RetIs.blk ?_ | refine RetIs.lq ?_)
    refine res_tmpA (v := .bool c4) rfl ?_
    refine res_done ?_
    exact ret_data (v := .bool c4) rfl (pure_bool _) ⟨congrArg (fun r : Bool => (.bool r : AV)) (Option.some.inj h), rfl⟩
  · rcases bool_cases x1 with hb_1 | hb_1
    · replace hz := ite_T hz hb_1
      obtain ⟨x2, hx2, hz⟩ := bind_some hz
      obtain ⟨x3, hx3, hz⟩ := bind_some hz
      refine T.drawn mixed (k := 11) rfl ?_
      refine RA.join 4 #[true, true, true, true, true, true, true, false, false, false, false] (mkA 15 [(0, .agg [.sl (List.map encNode p0.Nodes), .int .i64 p0.Rings, .int .i64 p0.Room]), (1, .sl (List.map (encL encItem) p1)), (2, .ptr 0 0), (4, .bool false), (5, .bool x1), (6, .bool x1), (7, .agg [.sl (List.map encNode p0.Nodes), .int .i64 p0.Rings, .int .i64 p0.Room]), (8, .sl (List.map (encL encItem) p1)), (9, .int .i64 x2), (10, .agg [.sl (List.map encNode p0.Nodes), .int .i64 p0.Rings, .int .i64 p0.Room]), (11, .sl (List.map (encL encItem) p1))]) [.box [.sl (List.map encNode p0.Nodes), .int .i64 p0.Rings, .int .i64 p0.Room]] ?_ (fun hS4 => ?_)
      · refine RA.a1 (i1 := 7) (l1 := #[true, true, true, true, true, true, true, true, false, false, false]) (by decide +kernel) (by decide +kernel) ?_
        refine RO.yes rfl rfl rfl rfl hb_1 (o_call (as0 := [.agg [.sl (List.map encNode p0.Nodes), .int .i64 p0.Rings, .int .i64 p0.Room], .sl (List.map (encL encItem) p1)]) (as1 := [.agg [.sl (List.map encNode p0.Nodes), .int .i64 p0.Rings, .int .i64 p0.Room], .sl (List.map (encL encItem) p1)]) (caps := []) (aw1 := [.box [.sl (List.map encNode p0.Nodes), .int .i64 p0.Rings, .int .i64 p0.Room]]) rfl rfl rfl (k_flat (v := .int .i64 x3) (crossref_CheckSources_c p0 p1 x3 hx3) (⟨pure_agg _ (pures_mem (⟨pure_map encNode_p _, pure_int _ _, pure_int _ _, trivial⟩)), pure_map (encL_p encItem_p) _, trivial⟩) rfl ?_))
        refine RA.t1 (i := 8) (li' := #[true, true, true, true, true, true, true, true, true, false, false]) rfl (by decide +kernel) (by decide +kernel) (by decide +kernel) (by decide +kernel) rfl rfl rfl hb_1 rfl (v_eql rfl rfl ?_)
        refine RA.t0 (i := 9) (li' := #[true, true, true, true, true, true, true, true, true, true, false]) rfl (by decide +kernel) (by decide +kernel) (by decide +kernel) (by decide +kernel) rfl rfl (v_pickT (v := .bool (x2 == x3)) rfl hb_1 rfl ?_)
        refine RA.t0 (i := 10) (li' := #[true, true, true, true, true, true, true, true, true, true, true]) rfl (by decide +kernel) (by decide +kernel) (by decide +kernel) (by decide +kernel) rfl rfl (v_assign (v := .bool (x2 == x3)) rfl ?_)
        refine RA.done (by decide +kernel) ?_
        exact T.weakR (hK () trivial) (Weak.mkN [] [] (by decide) (none_kept _) rfl ⟨rn_bool ((congrArg (fun p => p) (Option.some.inj hz)).symm), trivial⟩ (rw_nil))
      · refine RA.join 5 #[true, true, true, true, false, true, true, false, false, false, false] (mkA 15 [(0, .agg [.sl (List.map encNode p0.Nodes), .int .i64 p0.Rings, .int .i64 p0.Room]), (1, .sl (List.map (encL encItem) p1)), (2, .ptr 0 0), (4, .bool false), (5, .bool x1), (6, .bool x1), (7, .agg [.sl (List.map encNode p0.Nodes), .int .i64 p0.Rings, .int .i64 p0.Room]), (8, .sl (List.map (encL encItem) p1)), (10, .agg [.sl (List.map encNode p0.Nodes), .int .i64 p0.Rings, .int .i64 p0.Room]), (11, .sl (List.map (encL encItem) p1))]) [.box [.sl (List.map encNode p0.Nodes), .int .i64 p0.Rings, .int .i64 p0.Room]] ?_ (fun hS5 => ?_)
        · refine RA.a1 (i1 := 4) (l1 := #[true, true, true, true, true, true, true, false, false, false, false]) (by decide +kernel) (by decide +kernel) ?_
          refine RO.yes rfl rfl rfl rfl hb_1 (o_call (as0 := [.agg [.sl (List.map encNode p0.Nodes), .int .i64 p0.Rings, .int .i64 p0.Room], .sl (List.map (encL encItem) p1)]) (as1 := [.agg [.sl (List.map encNode p0.Nodes), .int .i64 p0.Rings, .int .i64 p0.Room], .sl (List.map (encL encItem) p1)]) (caps := []) (aw1 := [.box [.sl (List.map encNode p0.Nodes), .int .i64 p0.Rings, .int .i64 p0.Room]]) rfl rfl rfl (k_flat (v := .int .i64 x2) (net_Sources_c p0 p1 x2 hx2) (⟨pure_agg _ (pures_mem (⟨pure_map encNode_p _, pure_int _ _, pure_int _ _, trivial⟩)), pure_map (encL_p encItem_p) _, trivial⟩) rfl ?_))
          exact RA.weakR hS4 (Weak.mkN [] [0] (by decide) (none_kept _) rfl ⟨rn_agg ⟨rn_sl encNode_p rfl, rn_int rfl, rn_int rfl, trivial⟩, rn_sl (encL_p encItem_p) rfl, rn_ptr rfl, rn_bool rfl, rn_bool rfl, rn_bool rfl, rn_agg ⟨rn_sl encNode_p rfl, rn_int rfl, rn_int rfl, trivial⟩, rn_sl (encL_p encItem_p) rfl, rn_int rfl, rn_agg ⟨rn_sl encNode_p rfl, rn_int rfl, rn_int rfl, trivial⟩, rn_sl (encL_p encItem_p) rfl, trivial⟩ (rw_box (cs := [.sl (List.map encNode p0.Nodes), .int .i64 p0.Rings, .int .i64 p0.Room]) (ds := [.sl (List.map encNode p0.Nodes), .int .i64 p0.Rings, .int .i64 p0.Room]) rfl ⟨rn_sl encNode_p rfl, rn_int rfl, rn_int rfl, trivial⟩ (rw_nil)))
        · refine RA.a1 (i1 := 0) (l1 := #[true, false, false, false, false, false, false, false, false, false, false]) (by decide +kernel) (by decide +kernel) ?_
          refine RO.op rfl rfl (o_call (as0 := []) (as1 := []) (caps := []) (aw1 := [.box [.sl (List.map encNode p0.Nodes), .int .i64 p0.Rings, .int .i64 p0.Room]]) rfl rfl rfl (k_flat (v := .bool x1) (crosslaw_netted_c x1 hx1) (trivial) rfl ?_))
          refine RA.t0 (i := 1) (li' := #[true, true, false, false, false, false, false, false, false, false, false]) rfl (by decide +kernel) (by decide +kernel) (by decide +kernel) (by decide +kernel) rfl rfl (v_move (v := .bool x1) rfl ?_)
          refine RA.t1 (i := 3) (li' := #[true, true, false, true, false, false, false, false, false, false, false]) rfl (by decide +kernel) (by decide +kernel) (by decide +kernel) (by decide +kernel) rfl rfl rfl hb_1 rfl (v_move (v := .sl (List.map (encL encItem) p1)) rfl ?_)
          refine RA.t1 (i := 6) (li' := #[true, true, false, true, false, false, true, false, false, false, false]) rfl (by decide +kernel) (by decide +kernel) (by decide +kernel) (by decide +kernel) rfl rfl rfl hb_1 rfl (v_move (v := .sl (List.map (encL encItem) p1)) rfl ?_)
          refine RA.a2 (i1 := 2) (l1 := #[true, true, true, true, false, false, true, false, false, false, false]) (i2 := 5) (l2 := #[true, true, false, true, false, true, true, false, false, false, false]) (by decide +kernel) (by decide +kernel) (by decide +kernel) ?_ ?_
          · refine RO.yes rfl rfl rfl rfl hb_1 (o_load_ptr rfl rfl (loadRowA Ty.k56 Ty.c56 rfl (cs := [.sl (List.map encNode p0.Nodes), .int .i64 p0.Rings, .int .i64 p0.Room]) rfl ?_))
            refine RA.a2 (i1 := 4) (l1 := #[true, true, true, true, true, false, true, false, false, false, false]) (i2 := 5) (l2 := #[true, true, true, true, false, true, true, false, false, false, false]) (by decide +kernel) (by decide +kernel) (by decide +kernel) ?_ ?_
            · refine RO.yes rfl rfl rfl rfl hb_1 (o_call (as0 := [.agg [.sl (List.map encNode p0.Nodes), .int .i64 p0.Rings, .int .i64 p0.Room], .sl (List.map (encL encItem) p1)]) (as1 := [.agg [.sl (List.map encNode p0.Nodes), .int .i64 p0.Rings, .int .i64 p0.Room], .sl (List.map (encL encItem) p1)]) (caps := []) (aw1 := [.box [.sl (List.map encNode p0.Nodes), .int .i64 p0.Rings, .int .i64 p0.Room]]) rfl rfl rfl (k_flat (v := .int .i64 x2) (net_Sources_c p0 p1 x2 hx2) (⟨pure_agg _ (pures_mem (⟨pure_map encNode_p _, pure_int _ _, pure_int _ _, trivial⟩)), pure_map (encL_p encItem_p) _, trivial⟩) rfl ?_))
              refine RA.a1 (i1 := 5) (l1 := #[true, true, true, true, true, true, true, false, false, false, false]) (by decide +kernel) (by decide +kernel) ?_
              refine RO.yes rfl rfl rfl rfl hb_1 (o_load_ptr rfl rfl (loadRowA Ty.k56 Ty.c56 rfl (cs := [.sl (List.map encNode p0.Nodes), .int .i64 p0.Rings, .int .i64 p0.Room]) rfl ?_))
              exact RA.weakR hS4 (Weak.mkN [] [0] (by decide) (none_kept _) rfl ⟨rn_agg ⟨rn_sl encNode_p rfl, rn_int rfl, rn_int rfl, trivial⟩, rn_sl (encL_p encItem_p) rfl, rn_ptr rfl, rn_bool rfl, rn_bool rfl, rn_bool rfl, rn_agg ⟨rn_sl encNode_p rfl, rn_int rfl, rn_int rfl, trivial⟩, rn_sl (encL_p encItem_p) rfl, rn_int rfl, rn_agg ⟨rn_sl encNode_p rfl, rn_int rfl, rn_int rfl, trivial⟩, rn_sl (encL_p encItem_p) rfl, trivial⟩ (rw_box (cs := [.sl (List.map encNode p0.Nodes), .int .i64 p0.Rings, .int .i64 p0.Room]) (ds := [.sl (List.map encNode p0.Nodes), .int .i64 p0.Rings, .int .i64 p0.Room]) rfl ⟨rn_sl encNode_p rfl, rn_int rfl, rn_int rfl, trivial⟩ (rw_nil)))
            · refine RO.yes rfl rfl rfl rfl hb_1 (o_load_ptr rfl rfl (loadRowA Ty.k56 Ty.c56 rfl (cs := [.sl (List.map encNode p0.Nodes), .int .i64 p0.Rings, .int .i64 p0.Room]) rfl ?_))
              exact RA.weakR hS5 (Weak.mkN [] [0] (by decide) (none_kept _) rfl ⟨rn_agg ⟨rn_sl encNode_p rfl, rn_int rfl, rn_int rfl, trivial⟩, rn_sl (encL_p encItem_p) rfl, rn_ptr rfl, rn_bool rfl, rn_bool rfl, rn_bool rfl, rn_agg ⟨rn_sl encNode_p rfl, rn_int rfl, rn_int rfl, trivial⟩, rn_sl (encL_p encItem_p) rfl, rn_agg ⟨rn_sl encNode_p rfl, rn_int rfl, rn_int rfl, trivial⟩, rn_sl (encL_p encItem_p) rfl, trivial⟩ (rw_box (cs := [.sl (List.map encNode p0.Nodes), .int .i64 p0.Rings, .int .i64 p0.Room]) (ds := [.sl (List.map encNode p0.Nodes), .int .i64 p0.Rings, .int .i64 p0.Room]) rfl ⟨rn_sl encNode_p rfl, rn_int rfl, rn_int rfl, trivial⟩ (rw_nil)))
          · refine RO.yes rfl rfl rfl rfl hb_1 (o_load_ptr rfl rfl (loadRowA Ty.k56 Ty.c56 rfl (cs := [.sl (List.map encNode p0.Nodes), .int .i64 p0.Rings, .int .i64 p0.Room]) rfl ?_))
            refine RA.a1 (i1 := 2) (l1 := #[true, true, true, true, false, true, true, false, false, false, false]) (by decide +kernel) (by decide +kernel) ?_
            refine RO.yes rfl rfl rfl rfl hb_1 (o_load_ptr rfl rfl (loadRowA Ty.k56 Ty.c56 rfl (cs := [.sl (List.map encNode p0.Nodes), .int .i64 p0.Rings, .int .i64 p0.Room]) rfl ?_))
            exact RA.weakR hS5 (Weak.mkN [] [0] (by decide) (none_kept _) rfl ⟨rn_agg ⟨rn_sl encNode_p rfl, rn_int rfl, rn_int rfl, trivial⟩, rn_sl (encL_p encItem_p) rfl, rn_ptr rfl, rn_bool rfl, rn_bool rfl, rn_bool rfl, rn_agg ⟨rn_sl encNode_p rfl, rn_int rfl, rn_int rfl, trivial⟩, rn_sl (encL_p encItem_p) rfl, rn_agg ⟨rn_sl encNode_p rfl, rn_int rfl, rn_int rfl, trivial⟩, rn_sl (encL_p encItem_p) rfl, trivial⟩ (rw_box (cs := [.sl (List.map encNode p0.Nodes), .int .i64 p0.Rings, .int .i64 p0.Room]) (ds := [.sl (List.map encNode p0.Nodes), .int .i64 p0.Rings, .int .i64 p0.Room]) rfl ⟨rn_sl encNode_p rfl, rn_int rfl, rn_int rfl, trivial⟩ (rw_nil)))
    · replace hz := ite_F hz hb_1
      refine T.drawn mixed (k := 11) rfl ?_
      refine RA.a1 (i1 := 0) (l1 := #[true, false, false, false, false, false, false, false, false, false, false]) (by decide +kernel) (by decide +kernel) ?_
      refine RO.op rfl rfl (o_call (as0 := []) (as1 := []) (caps := []) (aw1 := [.box [.sl (List.map encNode p0.Nodes), .int .i64 p0.Rings, .int .i64 p0.Room]]) rfl rfl rfl (k_flat (v := .bool x1) (crosslaw_netted_c x1 hx1) (trivial) rfl ?_))
      refine RA.t0 (i := 1) (li' := #[true, true, false, false, false, false, false, false, false, false, false]) rfl (by decide +kernel) (by decide +kernel) (by decide +kernel) (by decide +kernel) rfl rfl (v_move (v := .bool x1) rfl ?_)
      refine RA.t2 (i := 2) (li' := #[true, true, true, false, false, false, false, false, false, false, false]) rfl (by decide +kernel) (by decide +kernel) (by decide +kernel) (by decide +kernel) rfl rfl rfl hb_1 ?_
      refine RA.t2 (i := 3) (li' := #[true, true, true, true, false, false, false, false, false, false, false]) rfl (by decide +kernel) (by decide +kernel) (by decide +kernel) (by decide +kernel) rfl rfl rfl hb_1 ?_
      refine RA.t2 (i := 4) (li' := #[true, true, true, true, true, false, false, false, false, false, false]) rfl (by decide +kernel) (by decide +kernel) (by decide +kernel) (by decide +kernel) rfl rfl rfl hb_1 ?_
      refine RA.t2 (i := 5) (li' := #[true, true, true, true, true, true, false, false, false, false, false]) rfl (by decide +kernel) (by decide +kernel) (by decide +kernel) (by decide +kernel) rfl rfl rfl hb_1 ?_
      refine RA.t2 (i := 6) (li' := #[true, true, true, true, true, true, true, false, false, false, false]) rfl (by decide +kernel) (by decide +kernel) (by decide +kernel) (by decide +kernel) rfl rfl rfl hb_1 ?_
      refine RA.t2 (i := 7) (li' := #[true, true, true, true, true, true, true, true, false, false, false]) rfl (by decide +kernel) (by decide +kernel) (by decide +kernel) (by decide +kernel) rfl rfl rfl hb_1 ?_
      refine RA.t2 (i := 8) (li' := #[true, true, true, true, true, true, true, true, true, false, false]) rfl (by decide +kernel) (by decide +kernel) (by decide +kernel) (by decide +kernel) rfl rfl rfl hb_1 ?_
      refine RA.t0 (i := 9) (li' := #[true, true, true, true, true, true, true, true, true, true, false]) rfl (by decide +kernel) (by decide +kernel) (by decide +kernel) (by decide +kernel) rfl rfl (v_pickF (v := .bool false) rfl hb_1 rfl ?_)
      refine RA.t0 (i := 10) (li' := #[true, true, true, true, true, true, true, true, true, true, true]) rfl (by decide +kernel) (by decide +kernel) (by decide +kernel) (by decide +kernel) rfl rfl (v_assign (v := .bool false) rfl ?_)
      refine RA.done (by decide +kernel) ?_
      exact T.weakR (hK () trivial) (Weak.mkN [] [] (by decide) (none_kept _) rfl ⟨rn_bool ((congrArg (fun p => p) (Option.some.inj hz)).symm), trivial⟩ (rw_nil))
end Go.Proofs.Ytegkmfokfakeiaa
