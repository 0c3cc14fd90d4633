/-
  The code computes these functions. Printed by a program of ours (wip/gen.py).
-/
import Derived.Test.YtegkmfokfakeiaaGen1
namespace Go.Proofs.Ytegkmfokfakeiaa
open Go.RowKit
set_option linter.unusedVariables false
set_option linter.unusedSimpArgs false
set_option maxRecDepth 100000
theorem log_Append_c (p0 : Disk) (p1 : Int) (p2 : Int) (p3 : List Choice) (r : Disk × Int × Int) (h : log_Append p0 p1 p2 p3 = some r) : Fn Try.prog 20 [.agg [.sl (List.map encS p0.Sectors), .sl (List.map encWrite p0.Wait)], .int .i64 p1, .int .i64 p2, .sl (List.map encChoice p3)] (.tup [.agg [.sl (List.map encS r.1.Sectors), .sl (List.map encWrite r.1.Wait)], .int .i64 r.2.1, .int .i64 r.2.2]) := by
  unfold log_Append at h
  refine fn_of_T (N := 0) rfl Try.func20 rfl (by kernel_rfl) Try.ntmps20 rfl ?_
  show T _ _ _ _ (mkA 88 [(0, .agg [.sl (List.map encS p0.Sectors), .sl (List.map encWrite p0.Wait)]), (1, .int .i64 p1), (2, .int .i64 p2), (3, .sl (List.map encChoice p3))]) []
  refine T.seq ?_
  refine T.region ?_
  refine RS.op rfl (o_box (cs := [.sl (List.map encS p0.Sectors), .sl (List.map encWrite p0.Wait)]) rfl rfl (aw' := [.box [.sl (List.map encS p0.Sectors), .sl (List.map encWrite p0.Wait)]]) rfl ?_)
  refine RS.op rfl (o_alloc Ty.z25 rfl (aw' := [.box [.sl (List.map encS p0.Sectors), .sl (List.map encWrite p0.Wait)], .box [.nils, .nils]]) rfl ?_)
  refine RS.op rfl (OP.q rfl (v_assign (v := .int .i64 0) rfl ?_))
  refine RS.op rfl (OP.q rfl (v_assign (v := .int .i64 0) rfl ?_))
  refine RS.nil ?_
  refine T.seq ?_
  refine T.seq ?_
  obtain ⟨x2, hx2, h⟩ := bind_some h
  refine T.region ?_
  refine RS.op rfl (o_load_ptr rfl rfl (loadRowA Ty.k25 Ty.c25 rfl (cs := [.sl (List.map encS p0.Sectors), .sl (List.map encWrite p0.Wait)]) rfl ?_))
  refine RS.op rfl (o_call (as0 := [.agg [.sl (List.map encS p0.Sectors), .sl (List.map encWrite p0.Wait)]]) (as1 := [.agg [.sl (List.map encS p0.Sectors), .sl (List.map encWrite p0.Wait)]]) (caps := []) (aw1 := [.box [.sl (List.map encS p0.Sectors), .sl (List.map encWrite p0.Wait)], .box [.nils, .nils]]) rfl rfl rfl (k_flat (v := .int .i64 x2) (disk_Check_c p0 x2 hx2) (⟨pure_agg _ (pures_mem (⟨pure_map encS_p _, pure_map encWrite_p _, trivial⟩)), trivial⟩) rfl ?_))
  refine RS.op rfl (OP.q rfl (v_assign (v := .int .i64 x2) rfl ?_))
  refine RS.nil ?_
  refine T.seq ?_
  refine T.region ?_
  refine RS.op rfl (OP.q rfl (v_move (v := .int .i64 x2) rfl ?_))
  refine RS.op rfl (OP.q rfl (v_neq rfl rfl ?_))
  refine RS.nil ?_
  refine T.cond (b := x2 != 0) rfl (fun hb_1 => ?_) (fun hb_1 => ?_)
  · replace h := ite_T h hb_1
    refine T.seq ?_
    refine T.region ?_
    refine RS.op rfl (OP.q rfl (v_build (cs := [.nils, .nils]) Ty.z25 Ty.p25 rfl ?_))
    refine RS.op rfl (OP.q rfl (v_move (v := .int .i64 x2) rfl ?_))
    refine RS.op rfl (o_store_ptr Ty.c25 Ty.i25 rfl (vs := [.nils, .nils]) rfl rfl rfl rfl (cs' := [.nils, .nils]) rfl (aw' := [.box [.sl (List.map encS p0.Sectors), .sl (List.map encWrite p0.Wait)], .box [.nils, .nils]]) rfl ?_)
    refine RS.op rfl (OP.q rfl (v_assign (v := .int .i64 0) rfl ?_))
    refine RS.op rfl (OP.q rfl (v_assign (v := .int .i64 x2) rfl ?_))
    refine RS.nil ?_
    refine T.ret' (R := ?R2) ?hq2 ?_
    case hq2 => repeat (first | exact RetIs.base | refine RetIs.thn ?_ | refine RetIs.blk ?_ | refine RetIs.lq ?_)
    refine res_cellA (id := 1) (off := 0) (cs := [.nils, .nils]) (v := .agg [.nils, .nils]) ?_ ?_ ?_ ?_
    · rfl
    · rfl
    · exact fun K h => (loadRowA (row := [.nils, .nils]) (off := 0) Ty.k25 Ty.c25 rfl (cs := [.nils, .nils]) rfl h)
    refine res_tmpA (v := .int .i64 0) rfl ?_
    refine res_tmpA (v := .int .i64 x2) rfl ?_
    refine res_done ?_
    exact ret_data (v := .tup [.agg [.sl (List.map encS []), .sl (List.map encWrite [])], .int .i64 0, .int .i64 x2]) rfl (pure_tup _ (pures_mem (⟨pure_agg _ (pures_mem (⟨pure_map encS_p _, pure_map encWrite_p _, trivial⟩)), pure_int _ _, pure_int _ _, trivial⟩))) ⟨congrArg (fun r : Disk × Int × Int => (.tup [.agg [.sl (List.map encS r.1.Sectors), .sl (List.map encWrite r.1.Wait)], .int .i64 r.2.1, .int .i64 r.2.2] : AV)) (Option.some.inj h), rfl⟩
  · replace h := ite_F h hb_1
    refine T.skip ?_
    refine T.seq ?_
    refine T.join (Z := Unit) (fun _ => mkA 88 [(1, .int .i64 p1), (2, .int .i64 p2), (3, .sl (List.map encChoice p3)), (4, .ptr 0 0), (8, .ptr 1 0), (36, .bool ((decide (p1 < 0)) || ((decide (p1 > 200)) || ((decide (p2 < 0)) || decide (p2 > 80)))))]) (fun _ => [.box [.sl (List.map encS p0.Sectors), .sl (List.map encWrite p0.Wait)], .box [.nils, .nils]]) (fun _ => True) (fun _ _ => ?_) (fun hK => ?_)
    · show T _ _ _ _ (mkA 88 [(1, .int .i64 p1), (2, .int .i64 p2), (3, .sl (List.map encChoice p3)), (4, .ptr 0 0), (8, .ptr 1 0), (36, .bool ((decide (p1 < 0)) || ((decide (p1 > 200)) || ((decide (p2 < 0)) || decide (p2 > 80)))))]) [.box [.sl (List.map encS p0.Sectors), .sl (List.map encWrite p0.Wait)], .box [.nils, .nils]]
      refine T.cond (b := ((decide (p1 < 0)) || ((decide (p1 > 200)) || ((decide (p2 < 0)) || decide (p2 > 80))))) rfl (fun hb_6 => ?_) (fun hb_6 => ?_)
      · replace h := ite_T h hb_6
        refine T.seq ?_
        refine T.region ?_
        refine RS.op rfl (OP.q rfl (v_build (cs := [.nils, .nils]) Ty.z25 Ty.p25 rfl ?_))
        refine RS.op rfl (o_store_ptr Ty.c25 Ty.i25 rfl (vs := [.nils, .nils]) rfl rfl rfl rfl (cs' := [.nils, .nils]) rfl (aw' := [.box [.sl (List.map encS p0.Sectors), .sl (List.map encWrite p0.Wait)], .box [.nils, .nils]]) rfl ?_)
        refine RS.op rfl (OP.q rfl (v_assign (v := .int .i64 0) rfl ?_))
        refine RS.op rfl (OP.q rfl (v_assign (v := .int .i64 3) rfl ?_))
        refine RS.nil ?_
        refine T.ret' (R := ?R7) ?hq7 ?_
        case hq7 => repeat (first | exact RetIs.base | refine RetIs.thn ?_ | refine RetIs.blk ?_ | refine RetIs.lq ?_)
        refine res_cellA (id := 1) (off := 0) (cs := [.nils, .nils]) (v := .agg [.nils, .nils]) ?_ ?_ ?_ ?_
        · rfl
        · rfl
        · exact fun K h => (loadRowA (row := [.nils, .nils]) (off := 0) Ty.k25 Ty.c25 rfl (cs := [.nils, .nils]) rfl h)
        refine res_tmpA (v := .int .i64 0) rfl ?_
        refine res_tmpA (v := .int .i64 3) rfl ?_
        refine res_done ?_
        exact ret_data (v := .tup [.agg [.sl (List.map encS []), .sl (List.map encWrite [])], .int .i64 0, .int .i64 3]) rfl (pure_tup _ (pures_mem (⟨pure_agg _ (pures_mem (⟨pure_map encS_p _, pure_map encWrite_p _, trivial⟩)), pure_int _ _, pure_int _ _, trivial⟩))) ⟨congrArg (fun r : Disk × Int × Int => (.tup [.agg [.sl (List.map encS r.1.Sectors), .sl (List.map encWrite r.1.Wait)], .int .i64 r.2.1, .int .i64 r.2.2] : AV)) (Option.some.inj h), rfl⟩
      · replace h := ite_F h hb_6
        refine T.skip ?_
        refine T.seq ?_
        refine T.block ?_
        refine T.iter (fun ss_22 : Int × (List Choice) × (List (List UInt8)) × (List Write) => mkA 88 [(1, .int .i64 p1), (2, .int .i64 ss_22.1), (3, .sl (List.map encChoice ss_22.2.1)), (4, .ptr 0 0), (8, .ptr 1 0)]) (fun ss_22 => [.box [.sl (List.map encS ss_22.2.2.1), .sl (List.map encWrite ss_22.2.2.2)], .box [.nils, .nils]]) h (Weak.mkN [] [0, 1] (by decide) (none_kept _) rfl ⟨rn_int rfl, rn_int rfl, rn_sl encChoice_p rfl, rn_ptr rfl, rn_ptr rfl, trivial⟩ (rw_box (cs := [.sl (List.map encS p0.Sectors), .sl (List.map encWrite p0.Wait)]) (ds := [.sl (List.map encS p0.Sectors), .sl (List.map encWrite p0.Wait)]) rfl ⟨rn_sl encS_p rfl, rn_sl encWrite_p rfl, trivial⟩ (rw_box (cs := [.nils, .nils]) (ds := [.nils, .nils]) rfl ⟨rn_same pure_nils, rn_same pure_nils, trivial⟩ (rw_nil)))) (fun ss_22 v_23 h hv_23 => ?_)
        obtain ⟨s4, s5, s6, s7⟩ := ss_22
        replace h : log_Append_l1 p1 s4 s5 s6 s7 = some v_23 := h
        show T _ _ _ _ (mkA 88 [(1, .int .i64 p1), (2, .int .i64 s4), (3, .sl (List.map encChoice s5)), (4, .ptr 0 0), (8, .ptr 1 0)]) [.box [.sl (List.map encS s6), .sl (List.map encWrite s7)], .box [.nils, .nils]]
        unfold log_Append_l1 at h
        refine T.seq ?_
        refine T.seq ?_
        refine T.region ?_
        refine RS.op rfl (OP.q rfl (v_move (v := .sl (List.map encChoice s5)) rfl ?_))
        refine RS.op rfl (OP.q rfl (v_len_sl Ty.s26 rfl ?_))
        refine RS.op rfl (OP.q rfl (v_gtr rfl rfl ?_))
        refine RS.nil ?_
        refine T.cond (b := decide (((s5).length : Int) > 0)) rfl (fun hb_24 => ?_) (fun hb_24 => ?_)
        · replace h := ite_T h hb_24
          refine T.skip ?_
          refine T.block ?_
          refine T.seq ?_
          refine T.region ?_
          refine RS.op rfl (OP.q rfl (v_move (v := .sl (List.map encChoice s5)) rfl ?_))
          refine RS.op rfl (OP.q rfl (v_len_sl Ty.s26 rfl ?_))
          refine RS.op rfl (OP.q rfl (v_min rfl rfl ?_))
          refine RS.op rfl (OP.q rfl (v_assign (v := .int .i64 (if ((s5).length : Int) < 29 then ((s5).length : Int) else 29)) rfl ?_))
          refine RS.nil ?_
          refine T.seq ?_
          obtain ⟨x10, hx10, h⟩ := bind_some h
          obtain ⟨x11, hx11, h⟩ := bind_some h
          refine T.region ?_
          refine RS.op rfl (OP.q rfl (v_move (v := .sl (List.map encChoice s5)) rfl ?_))
          refine RS.op rfl (OP.q rfl (v_move (v := .int .i64 (if ((s5).length : Int) < 29 then ((s5).length : Int) else 29)) rfl ?_))
          refine RS.op rfl (o_slice_sl Ty.s26 (fun _ => rfl) rfl rfl rfl hx10 ?_)
          refine RS.op rfl (o_call (as0 := [.sl (List.map encChoice x10)]) (as1 := [.sl (List.map encChoice x10)]) (caps := []) (aw1 := [.box [.sl (List.map encS s6), .sl (List.map encWrite s7)], .box [.nils, .nils]]) rfl rfl rfl (k_flat (v := .tup [.str x11.1, .int .i64 x11.2]) (frame_Choices_c x10 x11 hx11) (⟨pure_map encChoice_p _, trivial⟩) rfl ?_))
          refine RS.op rfl (OP.q rfl (v_move (v := .tup [.str x11.1, .int .i64 x11.2]) rfl ?_))
          refine RS.op rfl (OP.q rfl (v_extract (v := .str x11.1) rfl rfl ?_))
          refine RS.op rfl (OP.q rfl (v_extract (v := .int .i64 x11.2) rfl rfl ?_))
          refine RS.op rfl (OP.q rfl (v_assign (v := .str x11.1) rfl ?_))
          refine RS.op rfl (OP.q rfl (v_assign (v := .int .i64 x11.2) rfl ?_))
          refine RS.nil ?_
          refine T.seq ?_
          refine T.seq ?_
          refine T.region ?_
          refine RS.op rfl (OP.q rfl (v_move (v := .int .i64 x11.2) rfl ?_))
          refine RS.op rfl (OP.q rfl (v_neq rfl rfl ?_))
          refine RS.nil ?_
          refine T.cond (b := x11.2 != 0) rfl (fun hb_25 => ?_) (fun hb_25 => ?_)
          · replace h := ite_T h hb_25
            refine T.seq ?_
            refine T.region ?_
            refine RS.op rfl (OP.q rfl (v_build (cs := [.nils, .nils]) Ty.z25 Ty.p25 rfl ?_))
            refine RS.op rfl (OP.q rfl (v_move (v := .int .i64 x11.2) rfl ?_))
            refine RS.op rfl (o_store_ptr Ty.c25 Ty.i25 rfl (vs := [.nils, .nils]) rfl rfl rfl rfl (cs' := [.nils, .nils]) rfl (aw' := [.box [.sl (List.map encS s6), .sl (List.map encWrite s7)], .box [.nils, .nils]]) rfl ?_)
            refine RS.op rfl (OP.q rfl (v_assign (v := .int .i64 0) rfl ?_))
            refine RS.op rfl (OP.q rfl (v_assign (v := .int .i64 x11.2) rfl ?_))
            refine RS.nil ?_
            refine T.ret' (R := ?R26) ?hq26 ?_
            case hq26 => repeat (first | exact RetIs.base | refine RetIs.thn ?_ | refine RetIs.blk ?_ | refine RetIs.lq ?_)
            obtain ⟨w_27, h, hw_27⟩ := map_inr h
            replace h := h.trans (congrArg some (hv_23 _ hw_27))
            refine res_cellA (id := 1) (off := 0) (cs := [.nils, .nils]) (v := .agg [.nils, .nils]) ?_ ?_ ?_ ?_
            · rfl
            · rfl
            · exact fun K h => (loadRowA (row := [.nils, .nils]) (off := 0) Ty.k25 Ty.c25 rfl (cs := [.nils, .nils]) rfl h)
            refine res_tmpA (v := .int .i64 0) rfl ?_
            refine res_tmpA (v := .int .i64 x11.2) rfl ?_
            refine res_done ?_
            exact ret_data (v := .tup [.agg [.sl (List.map encS []), .sl (List.map encWrite [])], .int .i64 0, .int .i64 x11.2]) rfl (pure_tup _ (pures_mem (⟨pure_agg _ (pures_mem (⟨pure_map encS_p _, pure_map encWrite_p _, trivial⟩)), pure_int _ _, pure_int _ _, trivial⟩))) ⟨congrArg (fun r : Disk × Int × Int => (.tup [.agg [.sl (List.map encS r.1.Sectors), .sl (List.map encWrite r.1.Wait)], .int .i64 r.2.1, .int .i64 r.2.2] : AV)) (Option.some.inj h), rfl⟩
          · replace h := ite_F h hb_25
            refine T.skip ?_
            refine T.seq ?_
            obtain ⟨x14, hx14, h⟩ := bind_some h
            obtain ⟨x15, hx15, h⟩ := bind_some h
            refine T.region ?_
            refine RS.op rfl (OP.q rfl (v_move (v := .int .i64 p1) rfl ?_))
            refine RS.op rfl (o_conv Try.underlying3 Try.underlying5 rfl ?_)
            refine RS.op rfl (o_buildSlice (rows := List.map enc8 [IntKind.u8.wrap p1]) (vs := [.int .u8 (IntKind.u8.wrap p1)]) Ty.s43 Ty.z5 rfl rfl rfl rfl rfl (aw' := [.box [.sl (List.map encS s6), .sl (List.map encWrite s7)], .box [.nils, .nils], .arr 5 1 (List.map enc8 [IntKind.u8.wrap p1])]) rfl ?_)
            refine RS.op rfl (o_conv_bytes (xs := [IntKind.u8.wrap p1]) Try.underlying43 Try.underlying5 Try.underlying9 rfl rfl ?_)
            refine RS.op rfl (OP.q rfl (v_move (v := .str x11.1) rfl ?_))
            refine RS.op rfl (OP.q rfl (v_sadd rfl rfl hx14 ?_))
            refine RS.op rfl (o_call (as0 := [.str x14]) (as1 := [.str x14]) (caps := []) (aw1 := [.box [.sl (List.map encS s6), .sl (List.map encWrite s7)], .box [.nils, .nils], .dead]) rfl rfl rfl (k_flat (v := .tup [.str x15.1, .int .i64 x15.2]) (frame_Put_c x14 x15 hx15) (⟨pure_str _, trivial⟩) rfl ?_))
            refine RS.op rfl (OP.q rfl (v_move (v := .tup [.str x15.1, .int .i64 x15.2]) rfl ?_))
            refine RS.op rfl (OP.q rfl (v_extract (v := .str x15.1) rfl rfl ?_))
            refine RS.op rfl (OP.q rfl (v_extract (v := .int .i64 x15.2) rfl rfl ?_))
            refine RS.op rfl (OP.q rfl (v_assign (v := .str x15.1) rfl ?_))
            refine RS.op rfl (OP.q rfl (v_assign (v := .int .i64 x15.2) rfl ?_))
            refine RS.nil ?_
            refine T.seq ?_
            refine T.seq ?_
            refine T.region ?_
            refine RS.op rfl (OP.q rfl (v_move (v := .int .i64 s4) rfl ?_))
            refine RS.op rfl (OP.q rfl (v_add rfl rfl ?_))
            refine RS.op rfl (OP.q rfl (v_eql rfl rfl ?_))
            refine RS.nil ?_
            refine T.cond (b := (IntKind.i64.wrap (120 + s4)) == 200) rfl (fun hb_28 => ?_) (fun hb_28 => ?_)
            · replace h := ite_T h hb_28
              refine T.seq ?_
              refine T.region ?_
              refine RS.op rfl (OP.q rfl (v_build (cs := [.nils, .nils]) Ty.z25 Ty.p25 rfl ?_))
              refine RS.op rfl (o_store_ptr Ty.c25 Ty.i25 rfl (vs := [.nils, .nils]) rfl rfl rfl rfl (cs' := [.nils, .nils]) rfl (aw' := [.box [.sl (List.map encS s6), .sl (List.map encWrite s7)], .box [.nils, .nils], .dead]) rfl ?_)
              refine RS.op rfl (OP.q rfl (v_assign (v := .int .i64 0) rfl ?_))
              refine RS.op rfl (OP.q rfl (v_assign (v := .int .i64 8) rfl ?_))
              refine RS.nil ?_
              refine T.ret' (R := ?R29) ?hq29 ?_
              case hq29 => repeat (first | exact RetIs.base | refine RetIs.thn ?_ | refine RetIs.blk ?_ | refine RetIs.lq ?_)
              obtain ⟨w_30, h, hw_30⟩ := map_inr h
              replace h := h.trans (congrArg some (hv_23 _ hw_30))
              refine res_cellA (id := 1) (off := 0) (cs := [.nils, .nils]) (v := .agg [.nils, .nils]) ?_ ?_ ?_ ?_
              · rfl
              · rfl
              · exact fun K h => (loadRowA (row := [.nils, .nils]) (off := 0) Ty.k25 Ty.c25 rfl (cs := [.nils, .nils]) rfl h)
              refine res_tmpA (v := .int .i64 0) rfl ?_
              refine res_tmpA (v := .int .i64 8) rfl ?_
              refine res_done ?_
              exact ret_data (v := .tup [.agg [.sl (List.map encS []), .sl (List.map encWrite [])], .int .i64 0, .int .i64 8]) rfl (pure_tup _ (pures_mem (⟨pure_agg _ (pures_mem (⟨pure_map encS_p _, pure_map encWrite_p _, trivial⟩)), pure_int _ _, pure_int _ _, trivial⟩))) ⟨congrArg (fun r : Disk × Int × Int => (.tup [.agg [.sl (List.map encS r.1.Sectors), .sl (List.map encWrite r.1.Wait)], .int .i64 r.2.1, .int .i64 r.2.2] : AV)) (Option.some.inj h), rfl⟩
            · replace h := ite_F h hb_28
              refine T.skip ?_
              refine T.seq ?_
              refine T.seq ?_
              obtain ⟨x17, hx17, h⟩ := bind_some h
              refine T.region ?_
              refine RS.op rfl (o_load_ptr rfl rfl (loadRowA Ty.k25 Ty.c25 rfl (cs := [.sl (List.map encS s6), .sl (List.map encWrite s7)]) rfl ?_))
              refine RS.op rfl (OP.q rfl (v_move (v := .int .i64 s4) rfl ?_))
              refine RS.op rfl (OP.q rfl (v_add rfl rfl ?_))
              refine RS.op rfl (OP.q rfl (v_move (v := .str x15.1) rfl ?_))
              refine RS.op rfl (o_call (as0 := [.agg [.sl (List.map encS s6), .sl (List.map encWrite s7)], .int .i64 (IntKind.i64.wrap (120 + s4)), .str x15.1]) (as1 := [.agg [.sl (List.map encS ((⟨s6, s7⟩ : Disk).Sectors)), .sl (List.map encWrite ((⟨s6, s7⟩ : Disk).Wait))], .int .i64 (IntKind.i64.wrap (120 + s4)), .str x15.1]) (caps := []) (aw1 := [.box [.sl (List.map encS s6), .sl (List.map encWrite s7)], .box [.nils, .nils], .dead]) rfl rfl rfl (k_fn (v := .tup [.agg [.sl (List.map encS x17.1.Sectors), .sl (List.map encWrite x17.1.Wait)], .int .i64 x17.2]) (disk_Write_c (⟨s6, s7⟩ : Disk) (IntKind.i64.wrap (120 + s4)) x15.1 x17 hx17) (⟨pure_agg _ (pures_mem (⟨pure_map encS_p _, pure_map encWrite_p _, trivial⟩)), pure_int _ _, pure_str _, trivial⟩) (pure_tup _ (pures_mem (⟨pure_agg _ (pures_mem (⟨pure_map encS_p _, pure_map encWrite_p _, trivial⟩)), pure_int _ _, trivial⟩))) ?_))
              refine RS.op rfl (OP.q rfl (v_move (v := .tup [.agg [.sl (List.map encS x17.1.Sectors), .sl (List.map encWrite x17.1.Wait)], .int .i64 x17.2]) rfl ?_))
              refine RS.op rfl (OP.q rfl (v_extract (v := .agg [.sl (List.map encS x17.1.Sectors), .sl (List.map encWrite x17.1.Wait)]) rfl rfl ?_))
              refine RS.op rfl (OP.q rfl (v_extract (v := .int .i64 x17.2) rfl rfl ?_))
              refine RS.op rfl (o_store_ptr Ty.c25 Ty.i25 rfl (vs := [.sl (List.map encS x17.1.Sectors), .sl (List.map encWrite x17.1.Wait)]) rfl rfl rfl rfl (cs' := [.sl (List.map encS x17.1.Sectors), .sl (List.map encWrite x17.1.Wait)]) rfl (aw' := [.box [.sl (List.map encS x17.1.Sectors), .sl (List.map encWrite x17.1.Wait)], .box [.nils, .nils], .dead]) rfl ?_)
              refine RS.op rfl (OP.q rfl (v_assign (v := .int .i64 x17.2) rfl ?_))
              refine RS.nil ?_
              refine T.seq ?_
              refine T.region ?_
              refine RS.op rfl (OP.q rfl (v_move (v := .int .i64 x17.2) rfl ?_))
              refine RS.op rfl (OP.q rfl (v_neq rfl rfl ?_))
              refine RS.nil ?_
              refine T.cond (b := x17.2 != 0) rfl (fun hb_31 => ?_) (fun hb_31 => ?_)
              · replace h := ite_T h hb_31
                refine T.seq ?_
                refine T.region ?_
                refine RS.op rfl (OP.q rfl (v_build (cs := [.nils, .nils]) Ty.z25 Ty.p25 rfl ?_))
                refine RS.op rfl (OP.q rfl (v_move (v := .int .i64 x17.2) rfl ?_))
                refine RS.op rfl (o_store_ptr Ty.c25 Ty.i25 rfl (vs := [.nils, .nils]) rfl rfl rfl rfl (cs' := [.nils, .nils]) rfl (aw' := [.box [.sl (List.map encS x17.1.Sectors), .sl (List.map encWrite x17.1.Wait)], .box [.nils, .nils], .dead]) rfl ?_)
                refine RS.op rfl (OP.q rfl (v_assign (v := .int .i64 0) rfl ?_))
                refine RS.op rfl (OP.q rfl (v_assign (v := .int .i64 x17.2) rfl ?_))
                refine RS.nil ?_
                refine T.ret' (R := ?R32) ?hq32 ?_
                case hq32 => repeat (first | exact RetIs.base | refine RetIs.thn ?_ | refine RetIs.blk ?_ | refine RetIs.lq ?_)
                obtain ⟨w_33, h, hw_33⟩ := map_inr h
                replace h := h.trans (congrArg some (hv_23 _ hw_33))
                refine res_cellA (id := 1) (off := 0) (cs := [.nils, .nils]) (v := .agg [.nils, .nils]) ?_ ?_ ?_ ?_
                · rfl
                · rfl
                · exact fun K h => (loadRowA (row := [.nils, .nils]) (off := 0) Ty.k25 Ty.c25 rfl (cs := [.nils, .nils]) rfl h)
                refine res_tmpA (v := .int .i64 0) rfl ?_
                refine res_tmpA (v := .int .i64 x17.2) rfl ?_
                refine res_done ?_
                exact ret_data (v := .tup [.agg [.sl (List.map encS []), .sl (List.map encWrite [])], .int .i64 0, .int .i64 x17.2]) rfl (pure_tup _ (pures_mem (⟨pure_agg _ (pures_mem (⟨pure_map encS_p _, pure_map encWrite_p _, trivial⟩)), pure_int _ _, pure_int _ _, trivial⟩))) ⟨congrArg (fun r : Disk × Int × Int => (.tup [.agg [.sl (List.map encS r.1.Sectors), .sl (List.map encWrite r.1.Wait)], .int .i64 r.2.1, .int .i64 r.2.2] : AV)) (Option.some.inj h), rfl⟩
              · replace h := ite_F h hb_31
                refine T.skip ?_
                refine T.seq ?_
                refine T.region ?_
                refine RS.op rfl (OP.q rfl (v_move (v := .int .i64 s4) rfl ?_))
                refine RS.op rfl (OP.q rfl (v_add rfl rfl ?_))
                refine RS.op rfl (OP.q rfl (v_assign (v := .int .i64 (IntKind.i64.wrap (s4 + 1))) rfl ?_))
                refine RS.nil ?_
                obtain ⟨x18, hx18, h⟩ := bind_some h
                refine T.region ?_
                refine RS.op rfl (OP.q rfl (v_move (v := .sl (List.map encChoice s5)) rfl ?_))
                refine RS.op rfl (OP.q rfl (v_move (v := .int .i64 (if ((s5).length : Int) < 29 then ((s5).length : Int) else 29)) rfl ?_))
                refine RS.op rfl (o_slice_sl Ty.s26 (fun _ => rfl) rfl rfl rfl hx18 ?_)
                refine RS.op rfl (OP.q rfl (v_assign (v := .sl (List.map encChoice x18)) rfl ?_))
                refine RS.nil ?_
                exact ⟨(IntKind.i64.wrap (s4 + 1), x18, x17.1.Sectors, x17.1.Wait), (Option.some.inj h).symm, Weak.mkN [] [0, 1] (by decide) (none_kept _) rfl ⟨rn_int rfl, rn_int rfl, rn_sl encChoice_p rfl, rn_ptr rfl, rn_ptr rfl, trivial⟩ (rw_box (cs := [.sl (List.map encS x17.1.Sectors), .sl (List.map encWrite x17.1.Wait)]) (ds := [.sl (List.map encS x17.1.Sectors), .sl (List.map encWrite x17.1.Wait)]) rfl ⟨rn_sl encS_p rfl, rn_sl encWrite_p rfl, trivial⟩ (rw_box (cs := [.nils, .nils]) (ds := [.nils, .nils]) rfl ⟨rn_same pure_nils, rn_same pure_nils, trivial⟩ (rw_nil)))⟩
        · replace h := ite_F h hb_24
          refine T.exit ?_
          obtain ⟨w_34, h, hw_34⟩ := map_inr h
          replace h := h.trans (congrArg some (hv_23 _ hw_34))
          refine T.seq ?_
          refine T.region ?_
          refine RS.op rfl (o_load_ptr rfl rfl (loadRowA Ty.k25 Ty.c25 rfl (cs := [.sl (List.map encS s6), .sl (List.map encWrite s7)]) rfl ?_))
          refine RS.op rfl (OP.q rfl (v_move (v := .int .i64 s4) rfl ?_))
          refine RS.op rfl (o_store_ptr Ty.c25 Ty.i25 rfl (vs := [.sl (List.map encS s6), .sl (List.map encWrite s7)]) rfl rfl rfl rfl (cs' := [.sl (List.map encS s6), .sl (List.map encWrite s7)]) rfl (aw' := [.box [.sl (List.map encS s6), .sl (List.map encWrite s7)], .box [.sl (List.map encS s6), .sl (List.map encWrite s7)]]) rfl ?_)
          refine RS.op rfl (OP.q rfl (v_assign (v := .int .i64 s4) rfl ?_))
          refine RS.op rfl (OP.q rfl (v_assign (v := .int .i64 0) rfl ?_))
          refine RS.nil ?_
          refine T.ret' (R := ?R35) ?hq35 ?_
          case hq35 => repeat (first | exact RetIs.base | refine RetIs.thn ?_ | refine RetIs.blk ?_ | refine RetIs.lq ?_)
          refine res_cellA (id := 1) (off := 0) (cs := [.sl (List.map encS s6), .sl (List.map encWrite s7)]) (v := .agg [.sl (List.map encS s6), .sl (List.map encWrite s7)]) ?_ ?_ ?_ ?_
          · rfl
          · rfl
          · exact fun K h => (loadRowA (row := [.sl (List.map encS s6), .sl (List.map encWrite s7)]) (off := 0) Ty.k25 Ty.c25 rfl (cs := [.sl (List.map encS s6), .sl (List.map encWrite s7)]) rfl h)
          refine res_tmpA (v := .int .i64 s4) rfl ?_
          refine res_tmpA (v := .int .i64 0) rfl ?_
          refine res_done ?_
          exact ret_data (v := .tup [.agg [.sl (List.map encS s6), .sl (List.map encWrite s7)], .int .i64 s4, .int .i64 0]) rfl (pure_tup _ (pures_mem (⟨pure_agg _ (pures_mem (⟨pure_map encS_p _, pure_map encWrite_p _, trivial⟩)), pure_int _ _, pure_int _ _, trivial⟩))) ⟨congrArg (fun r : Disk × Int × Int => (.tup [.agg [.sl (List.map encS r.1.Sectors), .sl (List.map encWrite r.1.Wait)], .int .i64 r.2.1, .int .i64 r.2.2] : AV)) (Option.some.inj h), rfl⟩
    · rcases bool_cases (decide (p1 < 0)) with hb_3 | hb_3
      · refine T.region ?_
        refine RS.op rfl (OP.q rfl (v_move (v := .int .i64 p1) rfl ?_))
        refine RS.op rfl (OP.q rfl (v_lss rfl rfl ?_))
        refine RS.op rfl (OP.q rfl (v_move (v := .bool (decide (p1 < 0))) rfl ?_))
        refine RS.no rfl rfl rfl hb_3 ?_
        refine RS.no rfl rfl rfl hb_3 ?_
        refine RS.op rfl (OP.q rfl (v_pickT (v := .bool true) rfl hb_3 rfl ?_))
        refine RS.op rfl (OP.q rfl (v_move (v := .bool true) rfl ?_))
        refine RS.no rfl rfl rfl rfl ?_
        refine RS.no rfl rfl rfl rfl ?_
        refine RS.op rfl (OP.q rfl (v_pickT (v := .bool true) rfl rfl rfl ?_))
        refine RS.op rfl (OP.q rfl (v_move (v := .bool true) rfl ?_))
        refine RS.no rfl rfl rfl rfl ?_
        refine RS.no rfl rfl rfl rfl ?_
        refine RS.op rfl (OP.q rfl (v_pickT (v := .bool true) rfl rfl rfl ?_))
        refine RS.nil ?_
        exact T.weakR (hK () trivial) (Weak.mkN [] [0, 1] (by decide) (none_kept _) rfl ⟨rn_int rfl, rn_int rfl, rn_sl encChoice_p rfl, rn_ptr rfl, rn_ptr rfl, rn_bool (by simp only [hb_3, Bool.true_or, Bool.or_true, Bool.false_or, Bool.or_false, Bool.true_and, Bool.and_true, Bool.false_and, Bool.and_false, Bool.not_true, Bool.not_false, if_true, if_false, Bool.false_eq_true, reduceIte]), trivial⟩ (rw_box (cs := [.sl (List.map encS p0.Sectors), .sl (List.map encWrite p0.Wait)]) (ds := [.sl (List.map encS p0.Sectors), .sl (List.map encWrite p0.Wait)]) rfl ⟨rn_sl encS_p rfl, rn_sl encWrite_p rfl, trivial⟩ (rw_box (cs := [.nils, .nils]) (ds := [.nils, .nils]) rfl ⟨rn_same pure_nils, rn_same pure_nils, trivial⟩ (rw_nil))))
      · rcases bool_cases (decide (p1 > 200)) with hb_4 | hb_4
        · refine T.region ?_
          refine RS.op rfl (OP.q rfl (v_move (v := .int .i64 p1) rfl ?_))
          refine RS.op rfl (OP.q rfl (v_lss rfl rfl ?_))
          refine RS.op rfl (OP.q rfl (v_move (v := .bool (decide (p1 < 0))) rfl ?_))
          refine RS.yes rfl rfl rfl hb_3 (OP.q rfl (v_move (v := .int .i64 p1) rfl ?_))
          refine RS.yes rfl rfl rfl hb_3 (OP.q rfl (v_gtr rfl rfl ?_))
          refine RS.op rfl (OP.q rfl (v_pickF (v := .bool (decide (p1 > 200))) rfl hb_3 rfl ?_))
          refine RS.op rfl (OP.q rfl (v_move (v := .bool (decide (p1 > 200))) rfl ?_))
          refine RS.no rfl rfl rfl hb_4 ?_
          refine RS.no rfl rfl rfl hb_4 ?_
          refine RS.op rfl (OP.q rfl (v_pickT (v := .bool true) rfl hb_4 rfl ?_))
          refine RS.op rfl (OP.q rfl (v_move (v := .bool true) rfl ?_))
          refine RS.no rfl rfl rfl rfl ?_
          refine RS.no rfl rfl rfl rfl ?_
          refine RS.op rfl (OP.q rfl (v_pickT (v := .bool true) rfl rfl rfl ?_))
          refine RS.nil ?_
          exact T.weakR (hK () trivial) (Weak.mkN [] [0, 1] (by decide) (none_kept _) rfl ⟨rn_int rfl, rn_int rfl, rn_sl encChoice_p rfl, rn_ptr rfl, rn_ptr rfl, rn_bool (by simp only [hb_3, hb_4, Bool.true_or, Bool.or_true, Bool.false_or, Bool.or_false, Bool.true_and, Bool.and_true, Bool.false_and, Bool.and_false, Bool.not_true, Bool.not_false, if_true, if_false, Bool.false_eq_true, reduceIte]), trivial⟩ (rw_box (cs := [.sl (List.map encS p0.Sectors), .sl (List.map encWrite p0.Wait)]) (ds := [.sl (List.map encS p0.Sectors), .sl (List.map encWrite p0.Wait)]) rfl ⟨rn_sl encS_p rfl, rn_sl encWrite_p rfl, trivial⟩ (rw_box (cs := [.nils, .nils]) (ds := [.nils, .nils]) rfl ⟨rn_same pure_nils, rn_same pure_nils, trivial⟩ (rw_nil))))
        · rcases bool_cases (decide (p2 < 0)) with hb_5 | hb_5
          · refine T.region ?_
            refine RS.op rfl (OP.q rfl (v_move (v := .int .i64 p1) rfl ?_))
            refine RS.op rfl (OP.q rfl (v_lss rfl rfl ?_))
            refine RS.op rfl (OP.q rfl (v_move (v := .bool (decide (p1 < 0))) rfl ?_))
            refine RS.yes rfl rfl rfl hb_3 (OP.q rfl (v_move (v := .int .i64 p1) rfl ?_))
            refine RS.yes rfl rfl rfl hb_3 (OP.q rfl (v_gtr rfl rfl ?_))
            refine RS.op rfl (OP.q rfl (v_pickF (v := .bool (decide (p1 > 200))) rfl hb_3 rfl ?_))
            refine RS.op rfl (OP.q rfl (v_move (v := .bool (decide (p1 > 200))) rfl ?_))
            refine RS.yes rfl rfl rfl hb_4 (OP.q rfl (v_move (v := .int .i64 p2) rfl ?_))
            refine RS.yes rfl rfl rfl hb_4 (OP.q rfl (v_lss rfl rfl ?_))
            refine RS.op rfl (OP.q rfl (v_pickF (v := .bool (decide (p2 < 0))) rfl hb_4 rfl ?_))
            refine RS.op rfl (OP.q rfl (v_move (v := .bool (decide (p2 < 0))) rfl ?_))
            refine RS.no rfl rfl rfl hb_5 ?_
            refine RS.no rfl rfl rfl hb_5 ?_
            refine RS.op rfl (OP.q rfl (v_pickT (v := .bool true) rfl hb_5 rfl ?_))
            refine RS.nil ?_
            exact T.weakR (hK () trivial) (Weak.mkN [] [0, 1] (by decide) (none_kept _) rfl ⟨rn_int rfl, rn_int rfl, rn_sl encChoice_p rfl, rn_ptr rfl, rn_ptr rfl, rn_bool (by simp only [hb_3, hb_4, hb_5, Bool.true_or, Bool.or_true, Bool.false_or, Bool.or_false, Bool.true_and, Bool.and_true, Bool.false_and, Bool.and_false, Bool.not_true, Bool.not_false, if_true, if_false, Bool.false_eq_true, reduceIte]), trivial⟩ (rw_box (cs := [.sl (List.map encS p0.Sectors), .sl (List.map encWrite p0.Wait)]) (ds := [.sl (List.map encS p0.Sectors), .sl (List.map encWrite p0.Wait)]) rfl ⟨rn_sl encS_p rfl, rn_sl encWrite_p rfl, trivial⟩ (rw_box (cs := [.nils, .nils]) (ds := [.nils, .nils]) rfl ⟨rn_same pure_nils, rn_same pure_nils, trivial⟩ (rw_nil))))
          · refine T.region ?_
            refine RS.op rfl (OP.q rfl (v_move (v := .int .i64 p1) rfl ?_))
            refine RS.op rfl (OP.q rfl (v_lss rfl rfl ?_))
            refine RS.op rfl (OP.q rfl (v_move (v := .bool (decide (p1 < 0))) rfl ?_))
            refine RS.yes rfl rfl rfl hb_3 (OP.q rfl (v_move (v := .int .i64 p1) rfl ?_))
            refine RS.yes rfl rfl rfl hb_3 (OP.q rfl (v_gtr rfl rfl ?_))
            refine RS.op rfl (OP.q rfl (v_pickF (v := .bool (decide (p1 > 200))) rfl hb_3 rfl ?_))
            refine RS.op rfl (OP.q rfl (v_move (v := .bool (decide (p1 > 200))) rfl ?_))
            refine RS.yes rfl rfl rfl hb_4 (OP.q rfl (v_move (v := .int .i64 p2) rfl ?_))
            refine RS.yes rfl rfl rfl hb_4 (OP.q rfl (v_lss rfl rfl ?_))
            refine RS.op rfl (OP.q rfl (v_pickF (v := .bool (decide (p2 < 0))) rfl hb_4 rfl ?_))
            refine RS.op rfl (OP.q rfl (v_move (v := .bool (decide (p2 < 0))) rfl ?_))
            refine RS.yes rfl rfl rfl hb_5 (OP.q rfl (v_move (v := .int .i64 p2) rfl ?_))
            refine RS.yes rfl rfl rfl hb_5 (OP.q rfl (v_gtr rfl rfl ?_))
            refine RS.op rfl (OP.q rfl (v_pickF (v := .bool (decide (p2 > 80))) rfl hb_5 rfl ?_))
            refine RS.nil ?_
            exact T.weakR (hK () trivial) (Weak.mkN [] [0, 1] (by decide) (none_kept _) rfl ⟨rn_int rfl, rn_int rfl, rn_sl encChoice_p rfl, rn_ptr rfl, rn_ptr rfl, rn_bool (by simp only [hb_3, hb_4, hb_5, Bool.true_or, Bool.or_true, Bool.false_or, Bool.or_false, Bool.true_and, Bool.and_true, Bool.false_and, Bool.and_false, Bool.not_true, Bool.not_false, if_true, if_false, Bool.false_eq_true, reduceIte]), trivial⟩ (rw_box (cs := [.sl (List.map encS p0.Sectors), .sl (List.map encWrite p0.Wait)]) (ds := [.sl (List.map encS p0.Sectors), .sl (List.map encWrite p0.Wait)]) rfl ⟨rn_sl encS_p rfl, rn_sl encWrite_p rfl, trivial⟩ (rw_box (cs := [.nils, .nils]) (ds := [.nils, .nils]) rfl ⟨rn_same pure_nils, rn_same pure_nils, trivial⟩ (rw_nil))))
theorem disk_put_x866e_c (p0 : List Write) (p1 : List (List UInt8)) (r : List (List UInt8)) (h : disk_put_x866e p0 p1 = some r) : FnX Try.prog 65 [.ref 0, .sl (List.map encWrite p0)] [.arr 9 1 (List.map encS p1)] (.ref 1) [.dead, .arr 9 1 (List.map encS r)] := by
  unfold disk_put_x866e at h
  refine fn_of_T (N := 1) rfl Try.func65 rfl (by kernel_rfl) Try.ntmps65 rfl ?_
  show T _ _ _ _ (mkA 29 [(0, .ref 0), (1, .sl (List.map encWrite p0))]) [.arr 9 1 (List.map encS p1)]
  refine T.mvS 0 0 rfl rfl rfl (aw' := [.dead, .arr 9 1 (List.map encS p1)]) rfl ?_
  refine T.seq ?_
  refine T.region ?_
  refine RS.op rfl (OP.q rfl (v_assign (v := .nils) rfl ?_))
  refine RS.nil ?_
  refine T.seq ?_
  refine T.seq ?_
  refine T.region ?_
  refine RS.op rfl (OP.q rfl (v_move (v := .sl (List.map encWrite p0)) rfl ?_))
  refine RS.op rfl (OP.q rfl (v_len_sl Ty.s23 rfl ?_))
  refine RS.op rfl (OP.q rfl (v_move (v := .int .i64 0) rfl ?_))
  refine RS.nil ?_
  refine T.block ?_
  refine T.iter (fun ss_15 : Int × (List (List UInt8)) => mkA 29 [(0, .ref 1), (7, .sl (List.map encWrite p0)), (8, .int .i64 ((p0).length : Int)), (9, .int .i64 ss_15.1)]) (fun ss_15 => [.dead, .arr 9 1 (List.map encS ss_15.2)]) h (Weak.mkN [] [0, 1] (by decide) (by decide) rfl ⟨rn_ref rfl, rn_sl encWrite_p rfl, rn_int rfl, rn_int rfl, trivial⟩ (rw_dead rfl (rw_arr rfl encS_p rfl (rw_nil)))) (fun ss_15 v_16 h hv_16 => ?_)
  obtain ⟨s1, s2⟩ := ss_15
  replace h : disk_put_x866e_l2 p0 s1 s2 = some v_16 := h
  show T _ _ _ _ (mkA 29 [(0, .ref 1), (7, .sl (List.map encWrite p0)), (8, .int .i64 ((p0).length : Int)), (9, .int .i64 s1)]) [.dead, .arr 9 1 (List.map encS s2)]
  unfold disk_put_x866e_l2 at h
  refine T.seq ?_
  refine T.region ?_
  refine RS.op rfl (OP.q rfl (v_lss rfl rfl ?_))
  refine RS.nil ?_
  refine T.seq ?_
  refine T.cond (b := decide (s1 < ((p0).length : Int))) rfl (fun hb_17 => ?_) (fun hb_17 => ?_)
  · replace h := ite_T h hb_17
    refine T.skip ?_
    refine T.seq ?_
    refine T.block ?_
    refine T.seq ?_
    obtain ⟨x4, hx4, h⟩ := bind_some h
    refine T.region ?_
    refine RS.op rfl (OP.q rfl (v_index_sl Ty.s23 (fun _ => rfl) rfl rfl hx4 ?_))
    refine RS.op rfl (o_load_elt rfl (loadRowA Ty.k42 Ty.c42 rfl (cs := [.int .i64 x4.At, .str x4.Bytes]) rfl ?_))
    refine RS.op rfl (o_alloc Ty.z42 rfl (aw' := [.dead, .arr 9 1 (List.map encS s2), .box [.int .i64 0, .str []]]) rfl ?_)
    refine RS.op rfl (o_store_ptr Ty.c42 Ty.i42 rfl (vs := [.int .i64 x4.At, .str x4.Bytes]) rfl rfl rfl rfl (cs' := [.int .i64 x4.At, .str x4.Bytes]) rfl (aw' := [.dead, .arr 9 1 (List.map encS s2), .box [.int .i64 x4.At, .str x4.Bytes]]) rfl ?_)
    refine RS.nil ?_
    refine T.seq ?_
    refine T.block ?_
    refine T.iter (fun ss_20 : List (List UInt8) => mkA 29 [(0, .ref 1), (6, .ptr 2 0), (7, .sl (List.map encWrite p0)), (8, .int .i64 ((p0).length : Int)), (9, .int .i64 s1)]) (fun ss_20 => [.dead, .arr 9 1 (List.map encS ss_20), .box [.int .i64 x4.At, .str x4.Bytes]]) h (Weak.mkN [] [0, 1, 2] (by decide) (by decide) rfl ⟨rn_ref rfl, rn_ptr rfl, rn_sl encWrite_p rfl, rn_int rfl, rn_int rfl, trivial⟩ (rw_dead rfl (rw_arr rfl encS_p rfl (rw_box (cs := [.int .i64 x4.At, .str x4.Bytes]) (ds := [.int .i64 x4.At, .str x4.Bytes]) rfl ⟨rn_int rfl, rn_str rfl, trivial⟩ (rw_nil))))) (fun ss_20 v_21 h hv_21 => ?_)
    revert hv_21 h; revert ss_20; intro s5 h hv_21
    replace h : disk_put_x866e_l1 s1 x4 s5 = some v_21 := h
    show T _ _ _ _ (mkA 29 [(0, .ref 1), (6, .ptr 2 0), (7, .sl (List.map encWrite p0)), (8, .int .i64 ((p0).length : Int)), (9, .int .i64 s1)]) [.dead, .arr 9 1 (List.map encS s5), .box [.int .i64 x4.At, .str x4.Bytes]]
    unfold disk_put_x866e_l1 at h
    refine T.seq ?_
    refine T.seq ?_
    refine T.region ?_
    refine RS.op rfl (OP.q rfl (v_move (v := .ref 1) rfl ?_))
    refine RS.op rfl (OP.q rfl (v_len_ref (en := encS) Ty.s22 rfl rfl ?_))
    refine RS.op rfl (OP.q rfl (v_fieldAddr_ptr Ty.f42_0 rfl (off' := 0) rfl ?_))
    refine RS.op rfl (o_load_ptr rfl rfl (loadRow1 Ty.k3 (c := .int .i64 x4.At) rfl ?_))
    refine RS.op rfl (OP.q rfl (v_leq rfl rfl ?_))
    refine RS.nil ?_
    refine T.cond (b := decide (((s5).length : Int) ≤ x4.At)) rfl (fun hb_22 => ?_) (fun hb_22 => ?_)
    · replace h := ite_T h hb_22
      refine T.skip ?_
      refine T.block ?_
      obtain ⟨x6, hx6, h⟩ := bind_some h
      refine T.region ?_
      refine RS.op rfl (OP.q rfl (v_move (v := .ref 1) rfl ?_))
      refine RS.op rfl (o_buildSlice (rows := List.map encS [[]]) (vs := [.str []]) Ty.s22 Ty.z9 rfl rfl rfl rfl rfl (aw' := [.dead, .arr 9 1 (List.map encS s5), .box [.int .i64 x4.At, .str x4.Bytes], .arr 9 1 (List.map encS [[]])]) rfl ?_)
      refine RS.op rfl (o_app_ref (en := encS) (xs := s5) (ys := ([[]] : List (List UInt8))) Ty.s22 (fun _ => rfl) rfl rfl rfl hx6 rfl (aw' := [.dead, .dead, .box [.int .i64 x4.At, .str x4.Bytes], .dead, .arr 9 1 (List.map encS x6)]) rfl ?_)
      refine RS.op rfl (OP.q rfl (v_assign (v := .ref 4) rfl ?_))
      refine RS.nil ?_
      exact ⟨x6, (Option.some.inj h).symm, Weak.mkN [] [0, 4, 2] (by decide) (by decide) rfl ⟨rn_ref rfl, rn_ptr rfl, rn_sl encWrite_p rfl, rn_int rfl, rn_int rfl, trivial⟩ (rw_dead rfl (rw_arr rfl encS_p rfl (rw_box (cs := [.int .i64 x4.At, .str x4.Bytes]) (ds := [.int .i64 x4.At, .str x4.Bytes]) rfl ⟨rn_int rfl, rn_str rfl, trivial⟩ (rw_nil))))⟩
    · replace h := ite_F h hb_22
      refine T.exit ?_
      obtain ⟨w_23, h, hw_23⟩ := map_inr h
      replace h := h.trans (congrArg some (hv_21 _ hw_23))
      obtain ⟨x7, hx7, h⟩ := bind_some h
      obtain ⟨x8, hx8, h⟩ := bind_some h
      refine T.region ?_
      refine RS.op rfl (OP.q rfl (v_move (v := .ref 1) rfl ?_))
      refine RS.op rfl (OP.q rfl (v_fieldAddr_ptr Ty.f42_0 rfl (off' := 0) rfl ?_))
      refine RS.op rfl (o_load_ptr rfl rfl (loadRow1 Ty.k3 (c := .int .i64 x4.At) rfl ?_))
      refine RS.op rfl (OP.q rfl (v_fieldAddr_ptr Ty.f42_1 rfl (off' := 1) rfl ?_))
      refine RS.op rfl (o_load_ptr rfl rfl (loadRow1 Ty.k9 (c := .str x4.Bytes) rfl ?_))
      refine RS.op rfl (OP.q rfl (v_index_ref' (en := encS) Ty.s22 rfl rfl rfl hx7 ?_))
      refine RS.op rfl (o_store_aptr' (en := encS) (a := x8) (a' := x4.Bytes) Ty.c9 Ty.i9 rfl (vs := [.str x4.Bytes]) rfl rfl rfl hx8 rfl rfl (aw' := [.dead, .arr 9 1 (List.map encS (List.set s5 x7 x4.Bytes)), .box [.int .i64 x4.At, .str x4.Bytes]]) rfl ?_)
      refine RS.nil ?_
      refine T.region ?_
      refine RS.op rfl (OP.q rfl (v_add rfl rfl ?_))
      refine RS.op rfl (OP.q rfl (v_move (v := .int .i64 (IntKind.i64.wrap (s1 + 1))) rfl ?_))
      refine RS.nil ?_
      exact ⟨(IntKind.i64.wrap (s1 + 1), (List.set s5 x7 x4.Bytes)), (Option.some.inj h).symm, Weak.mkN [] [0, 1] (by decide) (by decide) rfl ⟨rn_ref rfl, rn_sl encWrite_p rfl, rn_int rfl, rn_int rfl, trivial⟩ (rw_dead rfl (rw_arr rfl encS_p rfl (rw_nil)))⟩
  · replace h := ite_F h hb_17
    refine T.exit ?_
    obtain ⟨w_24, h, hw_24⟩ := map_inr h
    replace h := h.trans (congrArg some (hv_16 _ hw_24))
    refine T.seq ?_
    refine T.region ?_
    refine RS.op rfl (OP.q rfl (v_move (v := .ref 1) rfl ?_))
    refine RS.op rfl (OP.q rfl (v_assign (v := .ref 1) rfl ?_))
    refine RS.nil ?_
    refine T.ret' (R := ?R25) ?hq25 ?_
    case hq25 => repeat (first | exact RetIs.base | refine RetIs.thn ?_ | refine RetIs.blk ?_ | refine RetIs.lq ?_)
    refine res_tmpA (v := .ref 1) rfl ?_
    refine res_done ?_
    exact ret_own (.ref 1) [] [0, 1] (by decide) (by decide) rfl (rn_ref rfl) (rw_dead rfl (rw_arr rfl encS_p (congrArg (fun r : List (List UInt8) => r) (Option.some.inj h)).symm (rw_nil))) ⟨rfl, rfl⟩
theorem disk_Cut_c (p0 : Disk) (p1 : Int) (r : Disk × Int) (h : disk_Cut p0 p1 = some r) : Fn Try.prog 27 [.agg [.sl (List.map encS p0.Sectors), .sl (List.map encWrite p0.Wait)], .int .i64 p1] (.tup [.agg [.sl (List.map encS r.1.Sectors), .sl (List.map encWrite r.1.Wait)], .int .i64 r.2]) := by
  unfold disk_Cut at h
  refine fn_of_T (N := 0) rfl Try.func27 rfl (by kernel_rfl) Try.ntmps27 rfl ?_
  show T _ _ _ _ (mkA 32 [(0, .agg [.sl (List.map encS p0.Sectors), .sl (List.map encWrite p0.Wait)]), (1, .int .i64 p1)]) []
  refine T.seq ?_
  refine T.region ?_
  refine RS.op rfl (o_box (cs := [.sl (List.map encS p0.Sectors), .sl (List.map encWrite p0.Wait)]) rfl rfl (aw' := [.box [.sl (List.map encS p0.Sectors), .sl (List.map encWrite p0.Wait)]]) rfl ?_)
  refine RS.op rfl (o_alloc Ty.z25 rfl (aw' := [.box [.sl (List.map encS p0.Sectors), .sl (List.map encWrite p0.Wait)], .box [.nils, .nils]]) rfl ?_)
  refine RS.op rfl (OP.q rfl (v_assign (v := .int .i64 0) rfl ?_))
  refine RS.nil ?_
  refine T.seq ?_
  refine T.seq ?_
  obtain ⟨x2, hx2, h⟩ := bind_some h
  refine T.region ?_
  refine RS.op rfl (o_load_ptr rfl rfl (loadRowA Ty.k25 Ty.c25 rfl (cs := [.sl (List.map encS p0.Sectors), .sl (List.map encWrite p0.Wait)]) rfl ?_))
  refine RS.op rfl (o_call (as0 := [.agg [.sl (List.map encS p0.Sectors), .sl (List.map encWrite p0.Wait)]]) (as1 := [.agg [.sl (List.map encS p0.Sectors), .sl (List.map encWrite p0.Wait)]]) (caps := []) (aw1 := [.box [.sl (List.map encS p0.Sectors), .sl (List.map encWrite p0.Wait)], .box [.nils, .nils]]) rfl rfl rfl (k_flat (v := .int .i64 x2) (disk_Check_c p0 x2 hx2) (⟨pure_agg _ (pures_mem (⟨pure_map encS_p _, pure_map encWrite_p _, trivial⟩)), trivial⟩) rfl ?_))
  refine RS.op rfl (OP.q rfl (v_assign (v := .int .i64 x2) rfl ?_))
  refine RS.nil ?_
  refine T.seq ?_
  refine T.region ?_
  refine RS.op rfl (OP.q rfl (v_move (v := .int .i64 x2) rfl ?_))
  refine RS.op rfl (OP.q rfl (v_neq rfl rfl ?_))
  refine RS.nil ?_
  refine T.cond (b := x2 != 0) rfl (fun hb_1 => ?_) (fun hb_1 => ?_)
  · replace h := ite_T h hb_1
    refine T.seq ?_
    refine T.region ?_
    refine RS.op rfl (OP.q rfl (v_build (cs := [.nils, .nils]) Ty.z25 Ty.p25 rfl ?_))
    refine RS.op rfl (OP.q rfl (v_move (v := .int .i64 x2) rfl ?_))
    refine RS.op rfl (o_store_ptr Ty.c25 Ty.i25 rfl (vs := [.nils, .nils]) rfl rfl rfl rfl (cs' := [.nils, .nils]) rfl (aw' := [.box [.sl (List.map encS p0.Sectors), .sl (List.map encWrite p0.Wait)], .box [.nils, .nils]]) rfl ?_)
    refine RS.op rfl (OP.q rfl (v_assign (v := .int .i64 x2) rfl ?_))
    refine RS.nil ?_
    refine T.ret' (R := ?R2) ?hq2 ?_
    case hq2 => repeat (first | exact RetIs.base | refine RetIs.thn ?_ | refine RetIs.blk ?_ | refine RetIs.lq ?_)
    refine res_cellA (id := 1) (off := 0) (cs := [.nils, .nils]) (v := .agg [.nils, .nils]) ?_ ?_ ?_ ?_
    · rfl
    · rfl
    · exact fun K h => (loadRowA (row := [.nils, .nils]) (off := 0) Ty.k25 Ty.c25 rfl (cs := [.nils, .nils]) rfl h)
    refine res_tmpA (v := .int .i64 x2) rfl ?_
    refine res_done ?_
    exact ret_data (v := .tup [.agg [.sl (List.map encS []), .sl (List.map encWrite [])], .int .i64 x2]) rfl (pure_tup _ (pures_mem (⟨pure_agg _ (pures_mem (⟨pure_map encS_p _, pure_map encWrite_p _, trivial⟩)), pure_int _ _, trivial⟩))) ⟨congrArg (fun r : Disk × Int => (.tup [.agg [.sl (List.map encS r.1.Sectors), .sl (List.map encWrite r.1.Wait)], .int .i64 r.2] : AV)) (Option.some.inj h), rfl⟩
  · replace h := ite_F h hb_1
    refine T.skip ?_
    refine T.seq ?_
    refine T.join (Z := Unit) (fun _ => mkA 32 [(1, .int .i64 p1), (2, .ptr 0 0), (4, .ptr 1 0), (21, .bool ((decide (p1 < 0)) || decide (p1 > ((p0.Wait).length : Int))))]) (fun _ => [.box [.sl (List.map encS p0.Sectors), .sl (List.map encWrite p0.Wait)], .box [.nils, .nils]]) (fun _ => True) (fun _ _ => ?_) (fun hK => ?_)
    · show T _ _ _ _ (mkA 32 [(1, .int .i64 p1), (2, .ptr 0 0), (4, .ptr 1 0), (21, .bool ((decide (p1 < 0)) || decide (p1 > ((p0.Wait).length : Int))))]) [.box [.sl (List.map encS p0.Sectors), .sl (List.map encWrite p0.Wait)], .box [.nils, .nils]]
      refine T.cond (b := ((decide (p1 < 0)) || decide (p1 > ((p0.Wait).length : Int)))) rfl (fun hb_4 => ?_) (fun hb_4 => ?_)
      · replace h := ite_T h hb_4
        refine T.seq ?_
        refine T.region ?_
        refine RS.op rfl (OP.q rfl (v_build (cs := [.nils, .nils]) Ty.z25 Ty.p25 rfl ?_))
        refine RS.op rfl (o_store_ptr Ty.c25 Ty.i25 rfl (vs := [.nils, .nils]) rfl rfl rfl rfl (cs' := [.nils, .nils]) rfl (aw' := [.box [.sl (List.map encS p0.Sectors), .sl (List.map encWrite p0.Wait)], .box [.nils, .nils]]) rfl ?_)
        refine RS.op rfl (OP.q rfl (v_assign (v := .int .i64 3) rfl ?_))
        refine RS.nil ?_
        refine T.ret' (R := ?R5) ?hq5 ?_
        case hq5 => repeat (first | exact RetIs.base | refine RetIs.thn ?_ | refine RetIs.blk ?_ | refine RetIs.lq ?_)
        refine res_cellA (id := 1) (off := 0) (cs := [.nils, .nils]) (v := .agg [.nils, .nils]) ?_ ?_ ?_ ?_
        · rfl
        · rfl
        · exact fun K h => (loadRowA (row := [.nils, .nils]) (off := 0) Ty.k25 Ty.c25 rfl (cs := [.nils, .nils]) rfl h)
        refine res_tmpA (v := .int .i64 3) rfl ?_
        refine res_done ?_
        exact ret_data (v := .tup [.agg [.sl (List.map encS []), .sl (List.map encWrite [])], .int .i64 3]) rfl (pure_tup _ (pures_mem (⟨pure_agg _ (pures_mem (⟨pure_map encS_p _, pure_map encWrite_p _, trivial⟩)), pure_int _ _, trivial⟩))) ⟨congrArg (fun r : Disk × Int => (.tup [.agg [.sl (List.map encS r.1.Sectors), .sl (List.map encWrite r.1.Wait)], .int .i64 r.2] : AV)) (Option.some.inj h), rfl⟩
      · replace h := ite_F h hb_4
        refine T.skip ?_
        refine T.seq ?_
        obtain ⟨x7, hx7, h⟩ := bind_some h
        obtain ⟨x8, hx8, h⟩ := bind_some h
        obtain ⟨x9, hx9, h⟩ := bind_some h
        refine T.drawn mixed (k := 11) rfl ?_
        refine RA.join 4 #[true, true, true, true, true, true, true, false, false, false, false] (mkA 32 [(1, .int .i64 p1), (2, .ptr 0 0), (4, .ptr 1 0), (21, .bool ((decide (p1 < 0)) || decide (p1 > ((p0.Wait).length : Int)))), (23, .ptr 0 0), (24, .sl (List.map encS p0.Sectors)), (25, .ref 2), (26, .ptr 0 1), (27, .sl (List.map encWrite p0.Wait)), (28, .int .i64 p1), (29, .sl (List.map encWrite x8))]) [.box [.sl (List.map encS p0.Sectors), .sl (List.map encWrite p0.Wait)], .box [.nils, .nils], .arr 9 1 (List.map encS x7)] ?_ (fun hS6 => ?_)
        · refine RA.a1 (i1 := 7) (l1 := #[true, true, true, true, true, true, true, true, false, false, false]) (by decide +kernel) (by decide +kernel) ?_
          refine RO.op rfl rfl (o_callF (ac := [.ref 2, .sl (List.map encWrite x8)]) (as0 := [.ref 0, .sl (List.map encWrite x8)]) (aw0 := [.arr 9 1 (List.map encS x7)]) (aw1 := [.dead, .arr 9 1 (List.map encS x9)]) (aw2 := [.box [.sl (List.map encS p0.Sectors), .sl (List.map encWrite p0.Wait)], .box [.nils, .nils], .dead, .arr 9 1 (List.map encS x9)]) (v := .ref 1) (v' := .ref 3) (n0 := 3) (n1 := 2) [2] rfl rfl rfl rfl (by decide) (rw_arr rfl encS_p rfl (rw_nil)) ⟨rn_ref rfl, rn_sl encWrite_p rfl, trivial⟩ (disk_put_x866e_c x8 x7 x9 hx9) rfl (rm_ref (by decide)) ⟨.inr ⟨rfl, rfl⟩, .inr ⟨rfl, rfl⟩, .inl ⟨0, _, by decide, rfl, trivial⟩, .inl ⟨1, _, by decide, rfl, rom_arr encS_p⟩, trivial⟩ ?_)
          refine RA.t0 (i := 8) (li' := #[true, true, true, true, true, true, true, true, true, false, false]) rfl (by decide +kernel) (by decide +kernel) (by decide +kernel) (by decide +kernel) rfl rfl (v_build (cs := [.ref 3, .nils]) Ty.z25 Ty.p25 rfl ?_)
          refine RA.a1 (i1 := 9) (l1 := #[true, true, true, true, true, true, true, true, true, true, false]) (by decide +kernel) (by decide +kernel) ?_
          refine RO.op rfl rfl (o_store_ptr Ty.c25 Ty.i25 rfl (vs := [.ref 3, .nils]) rfl rfl rfl rfl (cs' := [.ref 3, .nils]) rfl (aw' := [.box [.sl (List.map encS p0.Sectors), .sl (List.map encWrite p0.Wait)], .box [.ref 3, .nils], .dead, .arr 9 1 (List.map encS x9)]) rfl ?_)
          refine RA.t0 (i := 10) (li' := #[true, true, true, true, true, true, true, true, true, true, true]) rfl (by decide +kernel) (by decide +kernel) (by decide +kernel) (by decide +kernel) rfl rfl (v_assign (v := .int .i64 0) rfl ?_)
          refine RA.done (by decide +kernel) ?_
          refine T.ret' (R := ?R8) ?hq8 ?_
          case hq8 => repeat (first | exact RetIs.base | refine RetIs.thn ?_ | refine RetIs.blk ?_ | refine RetIs.lq ?_)
          refine res_cellA (id := 1) (off := 0) (cs := [.ref 3, .nils]) (v := .agg [.ref 3, .nils]) ?_ ?_ ?_ ?_
          · rfl
          · rfl
          · exact fun K h => (loadRowA (row := [.ref 3, .nils]) (off := 0) Ty.k25 Ty.c25 rfl (cs := [.ref 3, .nils]) rfl h)
          refine res_tmpA (v := .int .i64 0) rfl ?_
          refine res_done ?_
          exact ret_data (v := .tup [.agg [.sl (List.map encS x9), .sl (List.map encWrite [])], .int .i64 0]) rfl (pure_tup _ (pures_mem (⟨pure_agg _ (pures_mem (⟨pure_map encS_p _, pure_map encWrite_p _, trivial⟩)), pure_int _ _, trivial⟩))) ⟨congrArg (fun r : Disk × Int => (.tup [.agg [.sl (List.map encS r.1.Sectors), .sl (List.map encWrite r.1.Wait)], .int .i64 r.2] : AV)) (Option.some.inj h), rfl⟩
        · refine RA.join 5 #[true, true, false, true, true, true, true, false, false, false, false] (mkA 32 [(1, .int .i64 p1), (2, .ptr 0 0), (4, .ptr 1 0), (21, .bool ((decide (p1 < 0)) || decide (p1 > ((p0.Wait).length : Int)))), (23, .ptr 0 0), (24, .sl (List.map encS p0.Sectors)), (26, .ptr 0 1), (27, .sl (List.map encWrite p0.Wait)), (28, .int .i64 p1), (29, .sl (List.map encWrite x8))]) [.box [.sl (List.map encS p0.Sectors), .sl (List.map encWrite p0.Wait)], .box [.nils, .nils]] ?_ (fun hS7 => ?_)
          · refine RA.a1 (i1 := 2) (l1 := #[true, true, true, true, true, true, true, false, false, false, false]) (by decide +kernel) (by decide +kernel) ?_
            refine RO.op rfl rfl (o_call (as0 := [.sl (List.map encS p0.Sectors)]) (as1 := [.sl (List.map encS p0.Sectors)]) (caps := []) (aw1 := [.box [.sl (List.map encS p0.Sectors), .sl (List.map encWrite p0.Wait)], .box [.nils, .nils]]) rfl rfl rfl (k_own' (v := .ref 0) (obs := [.arr 9 1 (List.map encS x7)]) (v' := .ref 2) (aw' := [.box [.sl (List.map encS p0.Sectors), .sl (List.map encWrite p0.Wait)], .box [.nils, .nils], .arr 9 1 (List.map encS x7)]) (slices_Clone_string_c p0.Sectors x7 hx7) (⟨pure_map encS_p _, trivial⟩) rfl (obs_cons (flatOb_map fun _ => rfl) obs_nil) rfl rfl ?_))
            exact RA.weakR hS6 (Weak.mkN [] [0, 1, 2] (by decide) (none_kept _) rfl ⟨rn_int rfl, rn_ptr rfl, rn_ptr rfl, rn_bool rfl, rn_ptr rfl, rn_sl encS_p rfl, rn_ref rfl, rn_ptr rfl, rn_sl encWrite_p rfl, rn_int rfl, rn_sl encWrite_p rfl, trivial⟩ (rw_box (cs := [.sl (List.map encS p0.Sectors), .sl (List.map encWrite p0.Wait)]) (ds := [.sl (List.map encS p0.Sectors), .sl (List.map encWrite p0.Wait)]) rfl ⟨rn_sl encS_p rfl, rn_sl encWrite_p rfl, trivial⟩ (rw_box (cs := [.nils, .nils]) (ds := [.nils, .nils]) rfl ⟨rn_same pure_nils, rn_same pure_nils, trivial⟩ (rw_arr rfl encS_p rfl (rw_nil)))))
          · refine RA.t0 (i := 0) (li' := #[true, false, false, false, false, false, false, false, false, false, false]) rfl (by decide +kernel) (by decide +kernel) (by decide +kernel) (by decide +kernel) rfl rfl (v_fieldAddr_ptr Ty.f25_0 rfl (off' := 0) rfl ?_)
            refine RA.t0 (i := 3) (li' := #[true, false, false, true, false, false, false, false, false, false, false]) rfl (by decide +kernel) (by decide +kernel) (by decide +kernel) (by decide +kernel) rfl rfl (v_fieldAddr_ptr Ty.f25_1 rfl (off' := 1) rfl ?_)
            refine RA.t0 (i := 5) (li' := #[true, false, false, true, false, true, false, false, false, false, false]) rfl (by decide +kernel) (by decide +kernel) (by decide +kernel) (by decide +kernel) rfl rfl (v_move (v := .int .i64 p1) rfl ?_)
            refine RA.a2 (i1 := 1) (l1 := #[true, true, false, true, false, true, false, false, false, false, false]) (i2 := 4) (l2 := #[true, false, false, true, true, true, false, false, false, false, false]) (by decide +kernel) (by decide +kernel) (by decide +kernel) ?_ ?_
            · refine RO.op rfl rfl (o_load_ptr rfl rfl (loadRow1 Ty.k22 (c := .sl (List.map encS p0.Sectors)) rfl ?_))
              refine RA.a2 (i1 := 2) (l1 := #[true, true, true, true, false, true, false, false, false, false, false]) (i2 := 4) (l2 := #[true, true, false, true, true, true, false, false, false, false, false]) (by decide +kernel) (by decide +kernel) (by decide +kernel) ?_ ?_
              · refine RO.op rfl rfl (o_call (as0 := [.sl (List.map encS p0.Sectors)]) (as1 := [.sl (List.map encS p0.Sectors)]) (caps := []) (aw1 := [.box [.sl (List.map encS p0.Sectors), .sl (List.map encWrite p0.Wait)], .box [.nils, .nils]]) rfl rfl rfl (k_own' (v := .ref 0) (obs := [.arr 9 1 (List.map encS x7)]) (v' := .ref 2) (aw' := [.box [.sl (List.map encS p0.Sectors), .sl (List.map encWrite p0.Wait)], .box [.nils, .nils], .arr 9 1 (List.map encS x7)]) (slices_Clone_string_c p0.Sectors x7 hx7) (⟨pure_map encS_p _, trivial⟩) rfl (obs_cons (flatOb_map fun _ => rfl) obs_nil) rfl rfl ?_))
                refine RA.a1 (i1 := 4) (l1 := #[true, true, true, true, true, true, false, false, false, false, false]) (by decide +kernel) (by decide +kernel) ?_
                refine RO.op rfl rfl (o_load_ptr rfl rfl (loadRow1 Ty.k23 (c := .sl (List.map encWrite p0.Wait)) rfl ?_))
                refine RA.t0 (i := 6) (li' := #[true, true, true, true, true, true, true, false, false, false, false]) rfl (by decide +kernel) (by decide +kernel) (by decide +kernel) (by decide +kernel) rfl rfl (v_slice_sl Ty.s23 (fun _ => rfl) rfl rfl rfl hx8 ?_)
                exact RA.weakR hS6 (Weak.mkN [] [0, 1, 2] (by decide) (none_kept _) rfl ⟨rn_int rfl, rn_ptr rfl, rn_ptr rfl, rn_bool rfl, rn_ptr rfl, rn_sl encS_p rfl, rn_ref rfl, rn_ptr rfl, rn_sl encWrite_p rfl, rn_int rfl, rn_sl encWrite_p rfl, trivial⟩ (rw_box (cs := [.sl (List.map encS p0.Sectors), .sl (List.map encWrite p0.Wait)]) (ds := [.sl (List.map encS p0.Sectors), .sl (List.map encWrite p0.Wait)]) rfl ⟨rn_sl encS_p rfl, rn_sl encWrite_p rfl, trivial⟩ (rw_box (cs := [.nils, .nils]) (ds := [.nils, .nils]) rfl ⟨rn_same pure_nils, rn_same pure_nils, trivial⟩ (rw_arr rfl encS_p rfl (rw_nil)))))
              · refine RO.op rfl rfl (o_load_ptr rfl rfl (loadRow1 Ty.k23 (c := .sl (List.map encWrite p0.Wait)) rfl ?_))
                refine RA.t0 (i := 6) (li' := #[true, true, false, true, true, true, true, false, false, false, false]) rfl (by decide +kernel) (by decide +kernel) (by decide +kernel) (by decide +kernel) rfl rfl (v_slice_sl Ty.s23 (fun _ => rfl) rfl rfl rfl hx8 ?_)
                exact RA.weakR hS7 (Weak.mkN [] [0, 1] (by decide) (none_kept _) rfl ⟨rn_int rfl, rn_ptr rfl, rn_ptr rfl, rn_bool rfl, rn_ptr rfl, rn_sl encS_p rfl, rn_ptr rfl, rn_sl encWrite_p rfl, rn_int rfl, rn_sl encWrite_p rfl, trivial⟩ (rw_box (cs := [.sl (List.map encS p0.Sectors), .sl (List.map encWrite p0.Wait)]) (ds := [.sl (List.map encS p0.Sectors), .sl (List.map encWrite p0.Wait)]) rfl ⟨rn_sl encS_p rfl, rn_sl encWrite_p rfl, trivial⟩ (rw_box (cs := [.nils, .nils]) (ds := [.nils, .nils]) rfl ⟨rn_same pure_nils, rn_same pure_nils, trivial⟩ (rw_nil))))
            · refine RO.op rfl rfl (o_load_ptr rfl rfl (loadRow1 Ty.k23 (c := .sl (List.map encWrite p0.Wait)) rfl ?_))
              refine RA.t0 (i := 6) (li' := #[true, false, false, true, true, true, true, false, false, false, false]) rfl (by decide +kernel) (by decide +kernel) (by decide +kernel) (by decide +kernel) rfl rfl (v_slice_sl Ty.s23 (fun _ => rfl) rfl rfl rfl hx8 ?_)
              refine RA.a1 (i1 := 1) (l1 := #[true, true, false, true, true, true, true, false, false, false, false]) (by decide +kernel) (by decide +kernel) ?_
              refine RO.op rfl rfl (o_load_ptr rfl rfl (loadRow1 Ty.k22 (c := .sl (List.map encS p0.Sectors)) rfl ?_))
              exact RA.weakR hS7 (Weak.mkN [] [0, 1] (by decide) (none_kept _) rfl ⟨rn_int rfl, rn_ptr rfl, rn_ptr rfl, rn_bool rfl, rn_ptr rfl, rn_sl encS_p rfl, rn_ptr rfl, rn_sl encWrite_p rfl, rn_int rfl, rn_sl encWrite_p rfl, trivial⟩ (rw_box (cs := [.sl (List.map encS p0.Sectors), .sl (List.map encWrite p0.Wait)]) (ds := [.sl (List.map encS p0.Sectors), .sl (List.map encWrite p0.Wait)]) rfl ⟨rn_sl encS_p rfl, rn_sl encWrite_p rfl, trivial⟩ (rw_box (cs := [.nils, .nils]) (ds := [.nils, .nils]) rfl ⟨rn_same pure_nils, rn_same pure_nils, trivial⟩ (rw_nil))))
    · rcases bool_cases (decide (p1 < 0)) with hb_3 | hb_3
      · refine T.region ?_
        refine RS.op rfl (OP.q rfl (v_move (v := .int .i64 p1) rfl ?_))
        refine RS.op rfl (OP.q rfl (v_lss rfl rfl ?_))
        refine RS.op rfl (OP.q rfl (v_move (v := .bool (decide (p1 < 0))) rfl ?_))
        refine RS.no rfl rfl rfl hb_3 ?_
        refine RS.no rfl rfl rfl hb_3 ?_
        refine RS.no rfl rfl rfl hb_3 ?_
        refine RS.no rfl rfl rfl hb_3 ?_
        refine RS.no rfl rfl rfl hb_3 ?_
        refine RS.op rfl (OP.q rfl (v_pickT (v := .bool true) rfl hb_3 rfl ?_))
        refine RS.nil ?_
        exact T.weakR (hK () trivial) (Weak.mkN [] [0, 1] (by decide) (none_kept _) rfl ⟨rn_int rfl, rn_ptr rfl, rn_ptr rfl, rn_bool (by simp only [hb_3, Bool.true_or, Bool.or_true, Bool.false_or, Bool.or_false, Bool.true_and, Bool.and_true, Bool.false_and, Bool.and_false, Bool.not_true, Bool.not_false, if_true, if_false, Bool.false_eq_true, reduceIte]), trivial⟩ (rw_box (cs := [.sl (List.map encS p0.Sectors), .sl (List.map encWrite p0.Wait)]) (ds := [.sl (List.map encS p0.Sectors), .sl (List.map encWrite p0.Wait)]) rfl ⟨rn_sl encS_p rfl, rn_sl encWrite_p rfl, trivial⟩ (rw_box (cs := [.nils, .nils]) (ds := [.nils, .nils]) rfl ⟨rn_same pure_nils, rn_same pure_nils, trivial⟩ (rw_nil))))
      · refine T.region ?_
        refine RS.op rfl (OP.q rfl (v_move (v := .int .i64 p1) rfl ?_))
        refine RS.op rfl (OP.q rfl (v_lss rfl rfl ?_))
        refine RS.op rfl (OP.q rfl (v_move (v := .bool (decide (p1 < 0))) rfl ?_))
        refine RS.yes rfl rfl rfl hb_3 (OP.q rfl (v_move (v := .int .i64 p1) rfl ?_))
        refine RS.yes rfl rfl rfl hb_3 (OP.q rfl (v_fieldAddr_ptr Ty.f25_1 rfl (off' := 1) rfl ?_))
        refine RS.yes rfl rfl rfl hb_3 (o_load_ptr rfl rfl (loadRow1 Ty.k23 (c := .sl (List.map encWrite p0.Wait)) rfl ?_))
        refine RS.yes rfl rfl rfl hb_3 (OP.q rfl (v_len_sl Ty.s23 rfl ?_))
        refine RS.yes rfl rfl rfl hb_3 (OP.q rfl (v_gtr rfl rfl ?_))
        refine RS.op rfl (OP.q rfl (v_pickF (v := .bool (decide (p1 > ((p0.Wait).length : Int)))) rfl hb_3 rfl ?_))
        refine RS.nil ?_
        exact T.weakR (hK () trivial) (Weak.mkN [] [0, 1] (by decide) (none_kept _) rfl ⟨rn_int rfl, rn_ptr rfl, rn_ptr rfl, rn_bool (by simp only [hb_3, Bool.true_or, Bool.or_true, Bool.false_or, Bool.or_false, Bool.true_and, Bool.and_true, Bool.false_and, Bool.and_false, Bool.not_true, Bool.not_false, if_true, if_false, Bool.false_eq_true, reduceIte]), trivial⟩ (rw_box (cs := [.sl (List.map encS p0.Sectors), .sl (List.map encWrite p0.Wait)]) (ds := [.sl (List.map encS p0.Sectors), .sl (List.map encWrite p0.Wait)]) rfl ⟨rn_sl encS_p rfl, rn_sl encWrite_p rfl, trivial⟩ (rw_box (cs := [.nils, .nils]) (ds := [.nils, .nils]) rfl ⟨rn_same pure_nils, rn_same pure_nils, trivial⟩ (rw_nil))))
theorem disk_Flush_c (p0 : Disk) (r : Disk × Int) (h : disk_Flush p0 = some r) : Fn Try.prog 37 [.agg [.sl (List.map encS p0.Sectors), .sl (List.map encWrite p0.Wait)]] (.tup [.agg [.sl (List.map encS r.1.Sectors), .sl (List.map encWrite r.1.Wait)], .int .i64 r.2]) := by
  unfold disk_Flush at h
  refine fn_of_T (N := 0) rfl Try.func37 rfl (by kernel_rfl) Try.ntmps37 rfl ?_
  show T _ _ _ _ (mkA 11 [(0, .agg [.sl (List.map encS p0.Sectors), .sl (List.map encWrite p0.Wait)])]) []
  refine T.seq ?_
  refine T.region ?_
  refine RS.op rfl (o_box (cs := [.sl (List.map encS p0.Sectors), .sl (List.map encWrite p0.Wait)]) rfl rfl (aw' := [.box [.sl (List.map encS p0.Sectors), .sl (List.map encWrite p0.Wait)]]) rfl ?_)
  refine RS.op rfl (o_alloc Ty.z25 rfl (aw' := [.box [.sl (List.map encS p0.Sectors), .sl (List.map encWrite p0.Wait)], .box [.nils, .nils]]) rfl ?_)
  refine RS.op rfl (OP.q rfl (v_assign (v := .int .i64 0) rfl ?_))
  refine RS.nil ?_
  refine T.seq ?_
  obtain ⟨x2, hx2, h⟩ := bind_some h
  refine T.region ?_
  refine RS.op rfl (o_load_ptr rfl rfl (loadRowA Ty.k25 Ty.c25 rfl (cs := [.sl (List.map encS p0.Sectors), .sl (List.map encWrite p0.Wait)]) rfl ?_))
  refine RS.op rfl (OP.q rfl (v_fieldAddr_ptr Ty.f25_1 rfl (off' := 1) rfl ?_))
  refine RS.op rfl (o_load_ptr rfl rfl (loadRow1 Ty.k23 (c := .sl (List.map encWrite p0.Wait)) rfl ?_))
  refine RS.op rfl (OP.q rfl (v_len_sl Ty.s23 rfl ?_))
  refine RS.op rfl (o_call (as0 := [.agg [.sl (List.map encS p0.Sectors), .sl (List.map encWrite p0.Wait)], .int .i64 ((p0.Wait).length : Int)]) (as1 := [.agg [.sl (List.map encS p0.Sectors), .sl (List.map encWrite p0.Wait)], .int .i64 ((p0.Wait).length : Int)]) (caps := []) (aw1 := [.box [.sl (List.map encS p0.Sectors), .sl (List.map encWrite p0.Wait)], .box [.nils, .nils]]) rfl rfl rfl (k_fn (v := .tup [.agg [.sl (List.map encS x2.1.Sectors), .sl (List.map encWrite x2.1.Wait)], .int .i64 x2.2]) (disk_Cut_c p0 ((p0.Wait).length : Int) x2 hx2) (⟨pure_agg _ (pures_mem (⟨pure_map encS_p _, pure_map encWrite_p _, trivial⟩)), pure_int _ _, trivial⟩) (pure_tup _ (pures_mem (⟨pure_agg _ (pures_mem (⟨pure_map encS_p _, pure_map encWrite_p _, trivial⟩)), pure_int _ _, trivial⟩))) ?_))
  refine RS.op rfl (OP.q rfl (v_extract (v := .agg [.sl (List.map encS x2.1.Sectors), .sl (List.map encWrite x2.1.Wait)]) rfl rfl ?_))
  refine RS.op rfl (OP.q rfl (v_extract (v := .int .i64 x2.2) rfl rfl ?_))
  refine RS.op rfl (o_store_ptr Ty.c25 Ty.i25 rfl (vs := [.sl (List.map encS x2.1.Sectors), .sl (List.map encWrite x2.1.Wait)]) rfl rfl rfl rfl (cs' := [.sl (List.map encS x2.1.Sectors), .sl (List.map encWrite x2.1.Wait)]) rfl (aw' := [.box [.sl (List.map encS p0.Sectors), .sl (List.map encWrite p0.Wait)], .box [.sl (List.map encS x2.1.Sectors), .sl (List.map encWrite x2.1.Wait)]]) rfl ?_)
  refine RS.op rfl (OP.q rfl (v_assign (v := .int .i64 x2.2) rfl ?_))
  refine RS.nil ?_
  refine T.ret' (R := ?R1) ?hq1 ?_
  case hq1 => repeat (first | exact RetIs.base | refine RetIs.thn ?_ | refine RetIs.blk ?_ | refine RetIs.lq ?_)
  refine res_cellA (id := 1) (off := 0) (cs := [.sl (List.map encS x2.1.Sectors), .sl (List.map encWrite x2.1.Wait)]) (v := .agg [.sl (List.map encS x2.1.Sectors), .sl (List.map encWrite x2.1.Wait)]) ?_ ?_ ?_ ?_
  · rfl
  · rfl
  · exact fun K h => (loadRowA (row := [.sl (List.map encS x2.1.Sectors), .sl (List.map encWrite x2.1.Wait)]) (off := 0) Ty.k25 Ty.c25 rfl (cs := [.sl (List.map encS x2.1.Sectors), .sl (List.map encWrite x2.1.Wait)]) rfl h)
  refine res_tmpA (v := .int .i64 x2.2) rfl ?_
  refine res_done ?_
  exact ret_data (v := .tup [.agg [.sl (List.map encS x2.1.Sectors), .sl (List.map encWrite x2.1.Wait)], .int .i64 x2.2]) rfl (pure_tup _ (pures_mem (⟨pure_agg _ (pures_mem (⟨pure_map encS_p _, pure_map encWrite_p _, trivial⟩)), pure_int _ _, trivial⟩))) ⟨congrArg (fun r : Disk × Int => (.tup [.agg [.sl (List.map encS r.1.Sectors), .sl (List.map encWrite r.1.Wait)], .int .i64 r.2] : AV)) (Option.some.inj h), rfl⟩
theorem slices_Equal_Choice_c (p0 : List Choice) (p1 : List Choice) (r : Bool) (h : slices_Equal_Choice p0 p1 = some r) : Fn Try.prog 19 [.sl (List.map encChoice p0), .sl (List.map encChoice p1)] (.bool r) := by
  unfold slices_Equal_Choice at h
  refine fn_of_T (N := 0) rfl Try.func19 rfl (by kernel_rfl) Try.ntmps19 rfl ?_
  show T _ _ _ _ (mkA 26 [(0, .sl (List.map encChoice p0)), (1, .sl (List.map encChoice p1))]) []
  refine T.seq ?_
  refine T.region ?_
  refine RS.op rfl (OP.q rfl (v_assign (v := .bool false) rfl ?_))
  refine RS.nil ?_
  refine T.seq ?_
  refine T.seq ?_
  refine T.region ?_
  refine RS.op rfl (OP.q rfl (v_move (v := .sl (List.map encChoice p0)) rfl ?_))
  refine RS.op rfl (OP.q rfl (v_len_sl Ty.s26 rfl ?_))
  refine RS.op rfl (OP.q rfl (v_move (v := .sl (List.map encChoice p1)) rfl ?_))
  refine RS.op rfl (OP.q rfl (v_len_sl Ty.s26 rfl ?_))
  refine RS.op rfl (OP.q rfl (v_neq rfl rfl ?_))
  refine RS.nil ?_
  refine T.cond (b := ((p0).length : Int) != ((p1).length : Int)) rfl (fun hb_1 => ?_) (fun hb_1 => ?_)
  · replace h := ite_T h hb_1
    refine T.seq ?_
    refine T.region ?_
    refine RS.op rfl (OP.q rfl (v_assign (v := .bool false) rfl ?_))
    refine RS.nil ?_
    refine T.ret' (R := ?R2) ?hq2 ?_
    case hq2 => repeat (first | exact RetIs.base | refine RetIs.thn ?_ | refine RetIs.blk ?_ | refine RetIs.lq ?_)
    refine res_tmpA (v := .bool false) rfl ?_
    refine res_done ?_
    exact ret_data (v := .bool false) rfl (pure_bool _) ⟨congrArg (fun r : Bool => (.bool r : AV)) (Option.some.inj h), rfl⟩
  · replace h := ite_F h hb_1
    refine T.skip ?_
    refine T.seq ?_
    refine T.seq ?_
    refine T.region ?_
    refine RS.op rfl (OP.q rfl (v_move (v := .sl (List.map encChoice p0)) rfl ?_))
    refine RS.op rfl (OP.q rfl (v_len_sl Ty.s26 rfl ?_))
    refine RS.op rfl (OP.q rfl (v_move (v := .int .i64 0) rfl ?_))
    refine RS.nil ?_
    refine T.block ?_
    refine T.iter (fun ss_11 : Int => mkA 26 [(0, .sl (List.map encChoice p0)), (1, .sl (List.map encChoice p1)), (12, .int .i64 ((p0).length : Int)), (13, .int .i64 ss_11)]) (fun ss_11 => []) h (Weak.mkN [] [] (by decide) (none_kept _) rfl ⟨rn_sl encChoice_p rfl, rn_sl encChoice_p rfl, rn_int rfl, rn_int rfl, trivial⟩ (rw_nil)) (fun ss_11 v_12 h hv_12 => ?_)
    revert hv_12 h; revert ss_11; intro s1 h hv_12
    replace h : slices_Equal_Choice_l1 p0 p1 s1 = some v_12 := h
    show T _ _ _ _ (mkA 26 [(0, .sl (List.map encChoice p0)), (1, .sl (List.map encChoice p1)), (12, .int .i64 ((p0).length : Int)), (13, .int .i64 s1)]) []
    unfold slices_Equal_Choice_l1 at h
    refine T.seq ?_
    refine T.region ?_
    refine RS.op rfl (OP.q rfl (v_lss rfl rfl ?_))
    refine RS.nil ?_
    refine T.seq ?_
    refine T.cond (b := decide (s1 < ((p0).length : Int))) rfl (fun hb_13 => ?_) (fun hb_13 => ?_)
    · replace h := ite_T h hb_13
      refine T.skip ?_
      refine T.seq ?_
      refine T.block ?_
      refine T.seq ?_
      refine T.region ?_
      refine RS.op rfl (OP.q rfl (v_move (v := .int .i64 s1) rfl ?_))
      refine RS.op rfl (OP.q rfl (v_assign (v := .int .i64 s1) rfl ?_))
      refine RS.nil ?_
      refine T.seq ?_
      obtain ⟨x4, hx4, h⟩ := bind_some h
      obtain ⟨x5, hx5, h⟩ := bind_some h
      refine T.drawn mixed (k := 9) rfl ?_
      refine RA.join 0 #[true, true, true, true, true, true, true, true, true] (mkA 26 [(0, .sl (List.map encChoice p0)), (1, .sl (List.map encChoice p1)), (5, .int .i64 s1), (12, .int .i64 ((p0).length : Int)), (13, .int .i64 s1), (14, .bool (decide (s1 < ((p0).length : Int)))), (15, .int .i64 s1), (16, .sl (List.map encChoice p0)), (17, .int .i64 s1), (18, .elt (encChoice x4) 0), (19, .agg [.int .i64 x4.Node, .int .i64 x4.Lane]), (20, .sl (List.map encChoice p1)), (21, .int .i64 s1), (22, .elt (encChoice x5) 0), (23, .agg [.int .i64 x5.Node, .int .i64 x5.Lane]), (24, .bool (!(x4 == x5)))]) [] ?_ (fun hS14 => ?_)
      · refine RA.done (by decide +kernel) ?_
        refine T.cond (b := !(x4 == x5)) rfl (fun hb_15 => ?_) (fun hb_15 => ?_)
        · replace h := ite_T h hb_15
          refine T.seq ?_
          refine T.region ?_
          refine RS.op rfl (OP.q rfl (v_assign (v := .bool false) rfl ?_))
          refine RS.nil ?_
          refine T.ret' (R := ?R16) ?hq16 ?_
          case hq16 => repeat (first | exact RetIs.base | refine RetIs.thn ?_ | refine RetIs.blk ?_ | refine RetIs.lq ?_)
          obtain ⟨w_17, h, hw_17⟩ := map_inr h
          replace h := h.trans (congrArg some (hv_12 _ hw_17))
          refine res_tmpA (v := .bool false) rfl ?_
          refine res_done ?_
          exact ret_data (v := .bool false) rfl (pure_bool _) ⟨congrArg (fun r : Bool => (.bool r : AV)) (Option.some.inj h), rfl⟩
        · replace h := ite_F h hb_15
          refine T.skip ?_
          refine T.region ?_
          refine RS.op rfl (OP.q rfl (v_add rfl rfl ?_))
          refine RS.op rfl (OP.q rfl (v_move (v := .int .i64 (IntKind.i64.wrap (s1 + 1))) rfl ?_))
          refine RS.nil ?_
          exact ⟨IntKind.i64.wrap (s1 + 1), (Option.some.inj h).symm, Weak.mkN [] [] (by decide) (none_kept _) rfl ⟨rn_sl encChoice_p rfl, rn_sl encChoice_p rfl, rn_int rfl, rn_int rfl, trivial⟩ (rw_nil)⟩
      · refine RA.t0 (i := 0) (li' := #[true, false, false, false, false, false, false, false, false]) rfl (by decide +kernel) (by decide +kernel) (by decide +kernel) (by decide +kernel) rfl rfl (v_move (v := .sl (List.map encChoice p0)) rfl ?_)
        refine RA.t0 (i := 1) (li' := #[true, true, false, false, false, false, false, false, false]) rfl (by decide +kernel) (by decide +kernel) (by decide +kernel) (by decide +kernel) rfl rfl (v_move (v := .int .i64 s1) rfl ?_)
        refine RA.t0 (i := 2) (li' := #[true, true, true, false, false, false, false, false, false]) rfl (by decide +kernel) (by decide +kernel) (by decide +kernel) (by decide +kernel) rfl rfl (v_index_sl Ty.s26 (fun _ => rfl) rfl rfl hx4 ?_)
        refine RA.t0 (i := 4) (li' := #[true, true, true, false, true, false, false, false, false]) rfl (by decide +kernel) (by decide +kernel) (by decide +kernel) (by decide +kernel) rfl rfl (v_move (v := .sl (List.map encChoice p1)) rfl ?_)
        refine RA.t0 (i := 5) (li' := #[true, true, true, false, true, true, false, false, false]) rfl (by decide +kernel) (by decide +kernel) (by decide +kernel) (by decide +kernel) rfl rfl (v_move (v := .int .i64 s1) rfl ?_)
        refine RA.t0 (i := 6) (li' := #[true, true, true, false, true, true, true, false, false]) rfl (by decide +kernel) (by decide +kernel) (by decide +kernel) (by decide +kernel) rfl rfl (v_index_sl Ty.s26 (fun _ => rfl) rfl rfl hx5 ?_)
        refine RA.a2 (i1 := 3) (l1 := #[true, true, true, true, true, true, true, false, false]) (i2 := 7) (l2 := #[true, true, true, false, true, true, true, true, false]) (by decide +kernel) (by decide +kernel) (by decide +kernel) ?_ ?_
        · refine RO.op rfl rfl (o_load_elt rfl (loadRowA Ty.k36 Ty.c36 rfl (cs := [.int .i64 x4.Node, .int .i64 x4.Lane]) rfl ?_))
          refine RA.a1 (i1 := 7) (l1 := #[true, true, true, true, true, true, true, true, false]) (by decide +kernel) (by decide +kernel) ?_
          refine RO.op rfl rfl (o_load_elt rfl (loadRowA Ty.k36 Ty.c36 rfl (cs := [.int .i64 x5.Node, .int .i64 x5.Lane]) rfl ?_))
          refine RA.t0 (i := 8) (li' := #[true, true, true, true, true, true, true, true, true]) rfl (by decide +kernel) (by decide +kernel) (by decide +kernel) (by decide +kernel) rfl rfl (v_gneq (cs := [.int .i64 x4.Node, .int .i64 x4.Lane]) (ds := [.int .i64 x5.Node, .int .i64 x5.Lane]) (r := x4 == x5) Ty.q36 rfl rfl rfl rfl (encChoice_eq x4 x5) ?_)
          exact RA.weakR hS14 (Weak.mkN [] [] (by decide) (none_kept _) rfl ⟨rn_sl encChoice_p rfl, rn_sl encChoice_p rfl, rn_int rfl, rn_int rfl, rn_int rfl, rn_bool rfl, rn_int rfl, rn_sl encChoice_p rfl, rn_int rfl, rn_elt (encChoice_p _) (congrArg encChoice rfl), rn_agg ⟨rn_int rfl, rn_int rfl, trivial⟩, rn_sl encChoice_p rfl, rn_int rfl, rn_elt (encChoice_p _) (congrArg encChoice rfl), rn_agg ⟨rn_int rfl, rn_int rfl, trivial⟩, rn_bool rfl, trivial⟩ (rw_nil))
        · refine RO.op rfl rfl (o_load_elt rfl (loadRowA Ty.k36 Ty.c36 rfl (cs := [.int .i64 x5.Node, .int .i64 x5.Lane]) rfl ?_))
          refine RA.a1 (i1 := 3) (l1 := #[true, true, true, true, true, true, true, true, false]) (by decide +kernel) (by decide +kernel) ?_
          refine RO.op rfl rfl (o_load_elt rfl (loadRowA Ty.k36 Ty.c36 rfl (cs := [.int .i64 x4.Node, .int .i64 x4.Lane]) rfl ?_))
          refine RA.t0 (i := 8) (li' := #[true, true, true, true, true, true, true, true, true]) rfl (by decide +kernel) (by decide +kernel) (by decide +kernel) (by decide +kernel) rfl rfl (v_gneq (cs := [.int .i64 x4.Node, .int .i64 x4.Lane]) (ds := [.int .i64 x5.Node, .int .i64 x5.Lane]) (r := x4 == x5) Ty.q36 rfl rfl rfl rfl (encChoice_eq x4 x5) ?_)
          exact RA.weakR hS14 (Weak.mkN [] [] (by decide) (none_kept _) rfl ⟨rn_sl encChoice_p rfl, rn_sl encChoice_p rfl, rn_int rfl, rn_int rfl, rn_int rfl, rn_bool rfl, rn_int rfl, rn_sl encChoice_p rfl, rn_int rfl, rn_elt (encChoice_p _) (congrArg encChoice rfl), rn_agg ⟨rn_int rfl, rn_int rfl, trivial⟩, rn_sl encChoice_p rfl, rn_int rfl, rn_elt (encChoice_p _) (congrArg encChoice rfl), rn_agg ⟨rn_int rfl, rn_int rfl, trivial⟩, rn_bool rfl, trivial⟩ (rw_nil))
    · replace h := ite_F h hb_13
      refine T.exit ?_
      obtain ⟨w_18, h, hw_18⟩ := map_inr h
      replace h := h.trans (congrArg some (hv_12 _ hw_18))
      refine T.seq ?_
      refine T.region ?_
      refine RS.op rfl (OP.q rfl (v_assign (v := .bool true) rfl ?_))
      refine RS.nil ?_
      refine T.ret' (R := ?R19) ?hq19 ?_
      case hq19 => repeat (first | exact RetIs.base | refine RetIs.thn ?_ | refine RetIs.blk ?_ | refine RetIs.lq ?_)
      refine res_tmpA (v := .bool true) rfl ?_
      refine res_done ?_
      exact ret_data (v := .bool true) rfl (pure_bool _) ⟨congrArg (fun r : Bool => (.bool r : AV)) (Option.some.inj h), rfl⟩
theorem crosslaw_logged_c (r : Bool) (h : crosslaw_logged = some r) : Fn Try.prog 17 [] (.bool r) := by
  unfold crosslaw_logged at h
  refine fn_of_T (N := 0) rfl Try.func17 rfl (by kernel_rfl) Try.ntmps17 rfl ?_
  show T _ _ _ _ (mkA 51 []) []
  refine T.seq ?_
  refine T.region ?_
  refine RS.op rfl (OP.q rfl (v_assign (v := .bool false) rfl ?_))
  refine RS.nil ?_
  refine T.seq ?_
  obtain ⟨x4, hx4, h⟩ := bind_some h
  refine T.region ?_
  refine RS.op rfl (OP.q rfl (v_build (cs := [.nils, .nils]) Ty.z25 Ty.p25 rfl ?_))
  refine RS.op rfl (OP.q rfl (v_build (cs := [.int .i64 2, .int .i64 1]) Ty.z36 Ty.p36 rfl ?_))
  refine RS.op rfl (o_buildSlice (rows := List.map encChoice [(⟨2, 1⟩ : Choice)]) (vs := [.agg [.int .i64 2, .int .i64 1]]) Ty.s26 Ty.z36 rfl rfl rfl rfl rfl (aw' := [.arr 36 2 (List.map encChoice [(⟨2, 1⟩ : Choice)])]) rfl ?_)
  refine RS.fz 0 rfl rfl (aw' := [.dead]) rfl ?_
  refine RS.op rfl (o_call (as0 := [.agg [.nils, .nils], .int .i64 3, .int .i64 0, .sl (List.map encChoice [(⟨2, 1⟩ : Choice)])]) (as1 := [.agg [.sl (List.map encS ((⟨[], []⟩ : Disk).Sectors)), .sl (List.map encWrite ((⟨[], []⟩ : Disk).Wait))], .int .i64 (3 : Int), .int .i64 (0 : Int), .sl (List.map encChoice ([(⟨2, 1⟩ : Choice)] : List Choice))]) (caps := []) (aw1 := [.dead]) rfl rfl rfl (k_fn (v := .tup [.agg [.sl (List.map encS x4.1.Sectors), .sl (List.map encWrite x4.1.Wait)], .int .i64 x4.2.1, .int .i64 x4.2.2]) (log_Append_c (⟨[], []⟩ : Disk) (3 : Int) (0 : Int) ([(⟨2, 1⟩ : Choice)] : List Choice) x4 hx4) (⟨pure_agg _ (pures_mem (⟨pure_map encS_p _, pure_map encWrite_p _, trivial⟩)), pure_int _ _, pure_int _ _, pure_map encChoice_p _, trivial⟩) (pure_tup _ (pures_mem (⟨pure_agg _ (pures_mem (⟨pure_map encS_p _, pure_map encWrite_p _, trivial⟩)), pure_int _ _, pure_int _ _, trivial⟩))) ?_))
  refine RS.op rfl (OP.q rfl (v_move (v := .tup [.agg [.sl (List.map encS x4.1.Sectors), .sl (List.map encWrite x4.1.Wait)], .int .i64 x4.2.1, .int .i64 x4.2.2]) rfl ?_))
  refine RS.op rfl (OP.q rfl (v_extract (v := .agg [.sl (List.map encS x4.1.Sectors), .sl (List.map encWrite x4.1.Wait)]) rfl rfl ?_))
  refine RS.op rfl (OP.q rfl (v_extract (v := .int .i64 x4.2.1) rfl rfl ?_))
  refine RS.op rfl (OP.q rfl (v_extract (v := .int .i64 x4.2.2) rfl rfl ?_))
  refine RS.op rfl (o_alloc Ty.z25 rfl (aw' := [.dead, .box [.nils, .nils]]) rfl ?_)
  refine RS.op rfl (o_store_ptr Ty.c25 Ty.i25 rfl (vs := [.sl (List.map encS x4.1.Sectors), .sl (List.map encWrite x4.1.Wait)]) rfl rfl rfl rfl (cs' := [.sl (List.map encS x4.1.Sectors), .sl (List.map encWrite x4.1.Wait)]) rfl (aw' := [.dead, .box [.sl (List.map encS x4.1.Sectors), .sl (List.map encWrite x4.1.Wait)]]) rfl ?_)
  refine RS.op rfl (OP.q rfl (v_assign (v := .int .i64 x4.2.1) rfl ?_))
  refine RS.op rfl (OP.q rfl (v_assign (v := .int .i64 x4.2.2) rfl ?_))
  refine RS.nil ?_
  refine T.seq ?_
  obtain ⟨x6, hx6, h⟩ := bind_some h
  refine T.region ?_
  refine RS.op rfl (o_load_ptr rfl rfl (loadRowA Ty.k25 Ty.c25 rfl (cs := [.sl (List.map encS x4.1.Sectors), .sl (List.map encWrite x4.1.Wait)]) rfl ?_))
  refine RS.op rfl (o_call (as0 := [.agg [.sl (List.map encS x4.1.Sectors), .sl (List.map encWrite x4.1.Wait)]]) (as1 := [.agg [.sl (List.map encS x4.1.Sectors), .sl (List.map encWrite x4.1.Wait)]]) (caps := []) (aw1 := [.dead, .box [.sl (List.map encS x4.1.Sectors), .sl (List.map encWrite x4.1.Wait)]]) rfl rfl rfl (k_fn (v := .tup [.agg [.sl (List.map encS x6.1.Sectors), .sl (List.map encWrite x6.1.Wait)], .int .i64 x6.2]) (disk_Flush_c x4.1 x6 hx6) (⟨pure_agg _ (pures_mem (⟨pure_map encS_p _, pure_map encWrite_p _, trivial⟩)), trivial⟩) (pure_tup _ (pures_mem (⟨pure_agg _ (pures_mem (⟨pure_map encS_p _, pure_map encWrite_p _, trivial⟩)), pure_int _ _, trivial⟩))) ?_))
  refine RS.op rfl (OP.q rfl (v_move (v := .tup [.agg [.sl (List.map encS x6.1.Sectors), .sl (List.map encWrite x6.1.Wait)], .int .i64 x6.2]) rfl ?_))
  refine RS.op rfl (OP.q rfl (v_extract (v := .agg [.sl (List.map encS x6.1.Sectors), .sl (List.map encWrite x6.1.Wait)]) rfl rfl ?_))
  refine RS.op rfl (OP.q rfl (v_extract (v := .int .i64 x6.2) rfl rfl ?_))
  refine RS.op rfl (o_store_ptr Ty.c25 Ty.i25 rfl (vs := [.sl (List.map encS x6.1.Sectors), .sl (List.map encWrite x6.1.Wait)]) rfl rfl rfl rfl (cs' := [.sl (List.map encS x6.1.Sectors), .sl (List.map encWrite x6.1.Wait)]) rfl (aw' := [.dead, .box [.sl (List.map encS x6.1.Sectors), .sl (List.map encWrite x6.1.Wait)]]) rfl ?_)
  refine RS.op rfl (OP.q rfl (v_assign (v := .int .i64 x6.2) rfl ?_))
  refine RS.nil ?_
  refine T.seq ?_
  obtain ⟨x8, hx8, h⟩ := bind_some h
  refine T.region ?_
  refine RS.op rfl (o_load_ptr rfl rfl (loadRowA Ty.k25 Ty.c25 rfl (cs := [.sl (List.map encS x6.1.Sectors), .sl (List.map encWrite x6.1.Wait)]) rfl ?_))
  refine RS.op rfl (o_call (as0 := [.agg [.sl (List.map encS x6.1.Sectors), .sl (List.map encWrite x6.1.Wait)], .int .i64 3]) (as1 := [.agg [.sl (List.map encS x6.1.Sectors), .sl (List.map encWrite x6.1.Wait)], .int .i64 (3 : Int)]) (caps := []) (aw1 := [.dead, .box [.sl (List.map encS x6.1.Sectors), .sl (List.map encWrite x6.1.Wait)]]) rfl rfl rfl (k_own' (v := .tup [.ref 0, .int .i64 x8.2.1, .int .i64 x8.2.2]) (obs := [.arr 36 2 (List.map encChoice x8.1)]) (v' := .tup [.ref 2, .int .i64 x8.2.1, .int .i64 x8.2.2]) (aw' := [.dead, .box [.sl (List.map encS x6.1.Sectors), .sl (List.map encWrite x6.1.Wait)], .arr 36 2 (List.map encChoice x8.1)]) (log_Scan_c x6.1 (3 : Int) x8 hx8) (⟨pure_agg _ (pures_mem (⟨pure_map encS_p _, pure_map encWrite_p _, trivial⟩)), pure_int _ _, trivial⟩) rfl (obs_cons (flatOb_map fun _ => rfl) obs_nil) rfl rfl ?_))
  refine RS.op rfl (OP.q rfl (v_move (v := .tup [.ref 2, .int .i64 x8.2.1, .int .i64 x8.2.2]) rfl ?_))
  refine RS.op rfl (OP.q rfl (v_extract (v := .ref 2) rfl rfl ?_))
  refine RS.op rfl (OP.q rfl (v_extract (v := .int .i64 x8.2.1) rfl rfl ?_))
  refine RS.op rfl (OP.q rfl (v_extract (v := .int .i64 x8.2.2) rfl rfl ?_))
  refine RS.op rfl (OP.q rfl (v_assign (v := .ref 2) rfl ?_))
  refine RS.op rfl (OP.q rfl (v_assign (v := .int .i64 x8.2.1) rfl ?_))
  refine RS.op rfl (OP.q rfl (v_assign (v := .int .i64 x8.2.2) rfl ?_))
  refine RS.nil ?_
  obtain ⟨zt_6, hz, h⟩ := bind_some h
  revert hz h; revert zt_6; intro c10 hz h
  refine T.join (Z := Unit) (fun _ => mkA 51 [(0, .bool c10)]) (fun _ => []) (fun _ => True) (fun _ _ => ?_) (fun hK => ?_)
  · show T _ _ _ _ (mkA 51 [(0, .bool c10)]) []
    refine T.ret' (R := ?R7) ?hq7 ?_
    case hq7 => repeat (first | exact RetIs.base | refine RetIs.thn ?_ | refine RetIs.blk ?_ | refine RetIs.lq ?_)
    refine res_tmpA (v := .bool c10) rfl ?_
    refine res_done ?_
    exact ret_data (v := .bool c10) rfl (pure_bool _) ⟨congrArg (fun r : Bool => (.bool r : AV)) (Option.some.inj h), rfl⟩
  · rcases bool_cases (x4.2.2 == 0) with hb_1 | hb_1
    · replace hz := ite_T hz hb_1
      rcases bool_cases (x6.2 == 0) with hb_2 | hb_2
      · replace hz := ite_T hz hb_2
        rcases bool_cases (x8.2.2 == 0) with hb_3 | hb_3
        · replace hz := ite_T hz hb_3
          rcases bool_cases (x4.2.1 == 1) with hb_4 | hb_4
          · replace hz := ite_T hz hb_4
            rcases bool_cases (x8.2.1 == 1) with hb_5 | hb_5
            · replace hz := ite_T hz hb_5
              obtain ⟨x9, hx9, hz⟩ := bind_some hz
              refine T.region ?_
              refine RS.op rfl (OP.q rfl (v_move (v := .int .i64 x4.2.2) rfl ?_))
              refine RS.op rfl (OP.q rfl (v_eql rfl rfl ?_))
              refine RS.op rfl (OP.q rfl (v_move (v := .bool (x4.2.2 == 0)) rfl ?_))
              refine RS.yes rfl rfl rfl hb_1 (OP.q rfl (v_move (v := .int .i64 x6.2) rfl ?_))
              refine RS.yes rfl rfl rfl hb_1 (OP.q rfl (v_eql rfl rfl ?_))
              refine RS.op rfl (OP.q rfl (v_pickT (v := .bool (x6.2 == 0)) rfl hb_1 rfl ?_))
              refine RS.op rfl (OP.q rfl (v_move (v := .bool (x6.2 == 0)) rfl ?_))
              refine RS.yes rfl rfl rfl hb_2 (OP.q rfl (v_move (v := .int .i64 x8.2.2) rfl ?_))
              refine RS.yes rfl rfl rfl hb_2 (OP.q rfl (v_eql rfl rfl ?_))
              refine RS.op rfl (OP.q rfl (v_pickT (v := .bool (x8.2.2 == 0)) rfl hb_2 rfl ?_))
              refine RS.op rfl (OP.q rfl (v_move (v := .bool (x8.2.2 == 0)) rfl ?_))
              refine RS.yes rfl rfl rfl hb_3 (OP.q rfl (v_move (v := .int .i64 x4.2.1) rfl ?_))
              refine RS.yes rfl rfl rfl hb_3 (OP.q rfl (v_eql rfl rfl ?_))
              refine RS.op rfl (OP.q rfl (v_pickT (v := .bool (x4.2.1 == 1)) rfl hb_3 rfl ?_))
              refine RS.op rfl (OP.q rfl (v_move (v := .bool (x4.2.1 == 1)) rfl ?_))
              refine RS.yes rfl rfl rfl hb_4 (OP.q rfl (v_move (v := .int .i64 x8.2.1) rfl ?_))
              refine RS.yes rfl rfl rfl hb_4 (OP.q rfl (v_eql rfl rfl ?_))
              refine RS.op rfl (OP.q rfl (v_pickT (v := .bool (x8.2.1 == 1)) rfl hb_4 rfl ?_))
              refine RS.op rfl (OP.q rfl (v_move (v := .bool (x8.2.1 == 1)) rfl ?_))
              refine RS.yes rfl rfl rfl hb_5 (OP.q rfl (v_move (v := .ref 2) rfl ?_))
              refine RS.yes rfl rfl rfl hb_5 (OP.q rfl (v_build (cs := [.int .i64 2, .int .i64 1]) Ty.z36 Ty.p36 rfl ?_))
              refine RS.yes rfl rfl rfl hb_5 (o_buildSlice (rows := List.map encChoice [(⟨2, 1⟩ : Choice)]) (vs := [.agg [.int .i64 2, .int .i64 1]]) Ty.s26 Ty.z36 rfl rfl rfl rfl rfl (aw' := [.dead, .box [.sl (List.map encS x6.1.Sectors), .sl (List.map encWrite x6.1.Wait)], .arr 36 2 (List.map encChoice x8.1), .arr 36 2 (List.map encChoice [(⟨2, 1⟩ : Choice)])]) rfl ?_)
              refine RS.yes rfl rfl rfl hb_5 (o_call (as0 := [.ref 2, .ref 3]) (as1 := [.sl (List.map encChoice x8.1), .sl (List.map encChoice ([(⟨2, 1⟩ : Choice)] : List Choice))]) (caps := []) (aw1 := [.dead, .box [.sl (List.map encS x6.1.Sectors), .sl (List.map encWrite x6.1.Wait)], .dead, .dead]) rfl rfl rfl (k_flat (v := .bool x9) (slices_Equal_Choice_c x8.1 ([(⟨2, 1⟩ : Choice)] : List Choice) x9 hx9) (⟨pure_map encChoice_p _, pure_map encChoice_p _, trivial⟩) rfl ?_))
              refine RS.op rfl (OP.q rfl (v_pickT (v := .bool x9) rfl hb_5 rfl ?_))
              refine RS.op rfl (OP.q rfl (v_assign (v := .bool x9) rfl ?_))
              refine RS.nil ?_
              exact T.weakR (hK () trivial) (Weak.mkN [] [] (by decide) (none_kept _) rfl ⟨rn_bool ((congrArg (fun p => p) (Option.some.inj hz)).symm), trivial⟩ (rw_nil))
            · replace hz := ite_F hz hb_5
              refine T.region ?_
              refine RS.op rfl (OP.q rfl (v_move (v := .int .i64 x4.2.2) rfl ?_))
              refine RS.op rfl (OP.q rfl (v_eql rfl rfl ?_))
              refine RS.op rfl (OP.q rfl (v_move (v := .bool (x4.2.2 == 0)) rfl ?_))
              refine RS.yes rfl rfl rfl hb_1 (OP.q rfl (v_move (v := .int .i64 x6.2) rfl ?_))
              refine RS.yes rfl rfl rfl hb_1 (OP.q rfl (v_eql rfl rfl ?_))
              refine RS.op rfl (OP.q rfl (v_pickT (v := .bool (x6.2 == 0)) rfl hb_1 rfl ?_))
              refine RS.op rfl (OP.q rfl (v_move (v := .bool (x6.2 == 0)) rfl ?_))
              refine RS.yes rfl rfl rfl hb_2 (OP.q rfl (v_move (v := .int .i64 x8.2.2) rfl ?_))
              refine RS.yes rfl rfl rfl hb_2 (OP.q rfl (v_eql rfl rfl ?_))
              refine RS.op rfl (OP.q rfl (v_pickT (v := .bool (x8.2.2 == 0)) rfl hb_2 rfl ?_))
              refine RS.op rfl (OP.q rfl (v_move (v := .bool (x8.2.2 == 0)) rfl ?_))
              refine RS.yes rfl rfl rfl hb_3 (OP.q rfl (v_move (v := .int .i64 x4.2.1) rfl ?_))
              refine RS.yes rfl rfl rfl hb_3 (OP.q rfl (v_eql rfl rfl ?_))
              refine RS.op rfl (OP.q rfl (v_pickT (v := .bool (x4.2.1 == 1)) rfl hb_3 rfl ?_))
              refine RS.op rfl (OP.q rfl (v_move (v := .bool (x4.2.1 == 1)) rfl ?_))
              refine RS.yes rfl rfl rfl hb_4 (OP.q rfl (v_move (v := .int .i64 x8.2.1) rfl ?_))
              refine RS.yes rfl rfl rfl hb_4 (OP.q rfl (v_eql rfl rfl ?_))
              refine RS.op rfl (OP.q rfl (v_pickT (v := .bool (x8.2.1 == 1)) rfl hb_4 rfl ?_))
              refine RS.op rfl (OP.q rfl (v_move (v := .bool (x8.2.1 == 1)) rfl ?_))
              refine RS.no rfl rfl rfl hb_5 ?_
              refine RS.no rfl rfl rfl hb_5 ?_
              refine RS.no rfl rfl rfl hb_5 ?_
              refine RS.no rfl rfl rfl hb_5 ?_
              refine RS.op rfl (OP.q rfl (v_pickF (v := .bool false) rfl hb_5 rfl ?_))
              refine RS.op rfl (OP.q rfl (v_assign (v := .bool false) rfl ?_))
              refine RS.nil ?_
              exact T.weakR (hK () trivial) (Weak.mkN [] [] (by decide) (none_kept _) rfl ⟨rn_bool ((congrArg (fun p => p) (Option.some.inj hz)).symm), trivial⟩ (rw_nil))
          · replace hz := ite_F hz hb_4
            refine T.region ?_
            refine RS.op rfl (OP.q rfl (v_move (v := .int .i64 x4.2.2) rfl ?_))
            refine RS.op rfl (OP.q rfl (v_eql rfl rfl ?_))
            refine RS.op rfl (OP.q rfl (v_move (v := .bool (x4.2.2 == 0)) rfl ?_))
            refine RS.yes rfl rfl rfl hb_1 (OP.q rfl (v_move (v := .int .i64 x6.2) rfl ?_))
            refine RS.yes rfl rfl rfl hb_1 (OP.q rfl (v_eql rfl rfl ?_))
            refine RS.op rfl (OP.q rfl (v_pickT (v := .bool (x6.2 == 0)) rfl hb_1 rfl ?_))
            refine RS.op rfl (OP.q rfl (v_move (v := .bool (x6.2 == 0)) rfl ?_))
            refine RS.yes rfl rfl rfl hb_2 (OP.q rfl (v_move (v := .int .i64 x8.2.2) rfl ?_))
            refine RS.yes rfl rfl rfl hb_2 (OP.q rfl (v_eql rfl rfl ?_))
            refine RS.op rfl (OP.q rfl (v_pickT (v := .bool (x8.2.2 == 0)) rfl hb_2 rfl ?_))
            refine RS.op rfl (OP.q rfl (v_move (v := .bool (x8.2.2 == 0)) rfl ?_))
            refine RS.yes rfl rfl rfl hb_3 (OP.q rfl (v_move (v := .int .i64 x4.2.1) rfl ?_))
            refine RS.yes rfl rfl rfl hb_3 (OP.q rfl (v_eql rfl rfl ?_))
            refine RS.op rfl (OP.q rfl (v_pickT (v := .bool (x4.2.1 == 1)) rfl hb_3 rfl ?_))
            refine RS.op rfl (OP.q rfl (v_move (v := .bool (x4.2.1 == 1)) rfl ?_))
            refine RS.no rfl rfl rfl hb_4 ?_
            refine RS.no rfl rfl rfl hb_4 ?_
            refine RS.op rfl (OP.q rfl (v_pickF (v := .bool false) rfl hb_4 rfl ?_))
            refine RS.op rfl (OP.q rfl (v_move (v := .bool false) rfl ?_))
            refine RS.no rfl rfl rfl rfl ?_
            refine RS.no rfl rfl rfl rfl ?_
            refine RS.no rfl rfl rfl rfl ?_
            refine RS.no rfl rfl rfl rfl ?_
            refine RS.op rfl (OP.q rfl (v_pickF (v := .bool false) rfl rfl rfl ?_))
            refine RS.op rfl (OP.q rfl (v_assign (v := .bool false) rfl ?_))
            refine RS.nil ?_
            exact T.weakR (hK () trivial) (Weak.mkN [] [] (by decide) (none_kept _) rfl ⟨rn_bool ((congrArg (fun p => p) (Option.some.inj hz)).symm), trivial⟩ (rw_nil))
        · replace hz := ite_F hz hb_3
          refine T.region ?_
          refine RS.op rfl (OP.q rfl (v_move (v := .int .i64 x4.2.2) rfl ?_))
          refine RS.op rfl (OP.q rfl (v_eql rfl rfl ?_))
          refine RS.op rfl (OP.q rfl (v_move (v := .bool (x4.2.2 == 0)) rfl ?_))
          refine RS.yes rfl rfl rfl hb_1 (OP.q rfl (v_move (v := .int .i64 x6.2) rfl ?_))
          refine RS.yes rfl rfl rfl hb_1 (OP.q rfl (v_eql rfl rfl ?_))
          refine RS.op rfl (OP.q rfl (v_pickT (v := .bool (x6.2 == 0)) rfl hb_1 rfl ?_))
          refine RS.op rfl (OP.q rfl (v_move (v := .bool (x6.2 == 0)) rfl ?_))
          refine RS.yes rfl rfl rfl hb_2 (OP.q rfl (v_move (v := .int .i64 x8.2.2) rfl ?_))
          refine RS.yes rfl rfl rfl hb_2 (OP.q rfl (v_eql rfl rfl ?_))
          refine RS.op rfl (OP.q rfl (v_pickT (v := .bool (x8.2.2 == 0)) rfl hb_2 rfl ?_))
          refine RS.op rfl (OP.q rfl (v_move (v := .bool (x8.2.2 == 0)) rfl ?_))
          refine RS.no rfl rfl rfl hb_3 ?_
          refine RS.no rfl rfl rfl hb_3 ?_
          refine RS.op rfl (OP.q rfl (v_pickF (v := .bool false) rfl hb_3 rfl ?_))
          refine RS.op rfl (OP.q rfl (v_move (v := .bool false) rfl ?_))
          refine RS.no rfl rfl rfl rfl ?_
          refine RS.no rfl rfl rfl rfl ?_
          refine RS.op rfl (OP.q rfl (v_pickF (v := .bool false) rfl rfl rfl ?_))
          refine RS.op rfl (OP.q rfl (v_move (v := .bool false) rfl ?_))
          refine RS.no rfl rfl rfl rfl ?_
          refine RS.no rfl rfl rfl rfl ?_
          refine RS.no rfl rfl rfl rfl ?_
          refine RS.no rfl rfl rfl rfl ?_
          refine RS.op rfl (OP.q rfl (v_pickF (v := .bool false) rfl rfl rfl ?_))
          refine RS.op rfl (OP.q rfl (v_assign (v := .bool false) rfl ?_))
          refine RS.nil ?_
          exact T.weakR (hK () trivial) (Weak.mkN [] [] (by decide) (none_kept _) rfl ⟨rn_bool ((congrArg (fun p => p) (Option.some.inj hz)).symm), trivial⟩ (rw_nil))
      · replace hz := ite_F hz hb_2
        refine T.region ?_
        refine RS.op rfl (OP.q rfl (v_move (v := .int .i64 x4.2.2) rfl ?_))
        refine RS.op rfl (OP.q rfl (v_eql rfl rfl ?_))
        refine RS.op rfl (OP.q rfl (v_move (v := .bool (x4.2.2 == 0)) rfl ?_))
        refine RS.yes rfl rfl rfl hb_1 (OP.q rfl (v_move (v := .int .i64 x6.2) rfl ?_))
        refine RS.yes rfl rfl rfl hb_1 (OP.q rfl (v_eql rfl rfl ?_))
        refine RS.op rfl (OP.q rfl (v_pickT (v := .bool (x6.2 == 0)) rfl hb_1 rfl ?_))
        refine RS.op rfl (OP.q rfl (v_move (v := .bool (x6.2 == 0)) rfl ?_))
        refine RS.no rfl rfl rfl hb_2 ?_
        refine RS.no rfl rfl rfl hb_2 ?_
        refine RS.op rfl (OP.q rfl (v_pickF (v := .bool false) rfl hb_2 rfl ?_))
        refine RS.op rfl (OP.q rfl (v_move (v := .bool false) rfl ?_))
        refine RS.no rfl rfl rfl rfl ?_
        refine RS.no rfl rfl rfl rfl ?_
        refine RS.op rfl (OP.q rfl (v_pickF (v := .bool false) rfl rfl rfl ?_))
        refine RS.op rfl (OP.q rfl (v_move (v := .bool false) rfl ?_))
        refine RS.no rfl rfl rfl rfl ?_
        refine RS.no rfl rfl rfl rfl ?_
        refine RS.op rfl (OP.q rfl (v_pickF (v := .bool false) rfl rfl rfl ?_))
        refine RS.op rfl (OP.q rfl (v_move (v := .bool false) rfl ?_))
        refine RS.no rfl rfl rfl rfl ?_
        refine RS.no rfl rfl rfl rfl ?_
        refine RS.no rfl rfl rfl rfl ?_
        refine RS.no rfl rfl rfl rfl ?_
        refine RS.op rfl (OP.q rfl (v_pickF (v := .bool false) rfl rfl rfl ?_))
        refine RS.op rfl (OP.q rfl (v_assign (v := .bool false) rfl ?_))
        refine RS.nil ?_
        exact T.weakR (hK () trivial) (Weak.mkN [] [] (by decide) (none_kept _) rfl ⟨rn_bool ((congrArg (fun p => p) (Option.some.inj hz)).symm), trivial⟩ (rw_nil))
    · replace hz := ite_F hz hb_1
      refine T.region ?_
      refine RS.op rfl (OP.q rfl (v_move (v := .int .i64 x4.2.2) rfl ?_))
      refine RS.op rfl (OP.q rfl (v_eql rfl rfl ?_))
      refine RS.op rfl (OP.q rfl (v_move (v := .bool (x4.2.2 == 0)) rfl ?_))
      refine RS.no rfl rfl rfl hb_1 ?_
      refine RS.no rfl rfl rfl hb_1 ?_
      refine RS.op rfl (OP.q rfl (v_pickF (v := .bool false) rfl hb_1 rfl ?_))
      refine RS.op rfl (OP.q rfl (v_move (v := .bool false) rfl ?_))
      refine RS.no rfl rfl rfl rfl ?_
      refine RS.no rfl rfl rfl rfl ?_
      refine RS.op rfl (OP.q rfl (v_pickF (v := .bool false) rfl rfl rfl ?_))
      refine RS.op rfl (OP.q rfl (v_move (v := .bool false) rfl ?_))
      refine RS.no rfl rfl rfl rfl ?_
      refine RS.no rfl rfl rfl rfl ?_
      refine RS.op rfl (OP.q rfl (v_pickF (v := .bool false) rfl rfl rfl ?_))
      refine RS.op rfl (OP.q rfl (v_move (v := .bool false) rfl ?_))
      refine RS.no rfl rfl rfl rfl ?_
      refine RS.no rfl rfl rfl rfl ?_
      refine RS.op rfl (OP.q rfl (v_pickF (v := .bool false) rfl rfl rfl ?_))
      refine RS.op rfl (OP.q rfl (v_move (v := .bool false) rfl ?_))
      refine RS.no rfl rfl rfl rfl ?_
      refine RS.no rfl rfl rfl rfl ?_
      refine RS.no rfl rfl rfl rfl ?_
      refine RS.no rfl rfl rfl rfl ?_
      refine RS.op rfl (OP.q rfl (v_pickF (v := .bool false) rfl rfl rfl ?_))
      refine RS.op rfl (OP.q rfl (v_assign (v := .bool false) rfl ?_))
      refine RS.nil ?_
      exact T.weakR (hK () trivial) (Weak.mkN [] [] (by decide) (none_kept _) rfl ⟨rn_bool ((congrArg (fun p => p) (Option.some.inj hz)).symm), trivial⟩ (rw_nil))
theorem crossref_SumOf_c (p0 : List UInt8) (r : Int) (h : crossref_SumOf p0 = some r) : Fn Try.prog 63 [.str p0] (.int .i64 r) := by
  unfold crossref_SumOf at h
  refine fn_of_T (N := 0) rfl Try.func63 rfl (by kernel_rfl) Try.ntmps63 rfl ?_
  show T _ _ _ _ (mkA 97 [(0, .str p0)]) []
  refine T.seq ?_
  refine T.region ?_
  refine RS.op rfl (OP.q rfl (v_assign (v := .int .i64 0) rfl ?_))
  refine RS.nil ?_
  refine T.seq ?_
  obtain ⟨x2, hx2, h⟩ := bind_some h
  refine T.region ?_
  refine RS.op rfl (OP.q rfl (v_move (v := .str p0) rfl ?_))
  refine RS.op rfl (OP.q rfl (v_len_str Try.underlying9 rfl ?_))
  refine RS.op rfl (OP.q rfl (v_mul rfl rfl ?_))
  refine RS.op rfl (OP.q rfl (v_add rfl rfl ?_))
  refine RS.op rfl (o_mk0 (en := enc8) Ty.s43 Ty.z5 rfl rfl hx2 rfl (aw' := [.arr 5 1 (List.map enc8 x2)]) rfl ?_)
  refine RS.op rfl (OP.q rfl (v_assign (v := .ref 0) rfl ?_))
  refine RS.nil ?_
  refine T.seq ?_
  refine T.seq ?_
  refine T.region ?_
  refine RS.op rfl (OP.q rfl (v_move (v := .str p0) rfl ?_))
  refine RS.op rfl (OP.q rfl (v_len_str Try.underlying9 rfl ?_))
  refine RS.op rfl (OP.q rfl (v_move (v := .int .i64 0) rfl ?_))
  refine RS.nil ?_
  refine T.block ?_
  refine T.iter (fun ss_15 : Int × (List Int) => mkA 97 [(0, .str p0), (3, .ref 0), (20, .int .i64 ((p0).length : Int)), (21, .int .i64 ss_15.1)]) (fun ss_15 => [.arr 5 1 (List.map enc8 ss_15.2)]) h (Weak.mkN [] [0] (by decide) (none_kept _) rfl ⟨rn_str rfl, rn_ref rfl, rn_int rfl, rn_int rfl, trivial⟩ (rw_arr rfl enc8_p rfl (rw_nil))) (fun ss_15 v_16 h hv_16 => ?_)
  obtain ⟨s3, s4⟩ := ss_15
  replace h : crossref_SumOf_l6 p0 s3 s4 = some v_16 := h
  show T _ _ _ _ (mkA 97 [(0, .str p0), (3, .ref 0), (20, .int .i64 ((p0).length : Int)), (21, .int .i64 s3)]) [.arr 5 1 (List.map enc8 s4)]
  unfold crossref_SumOf_l6 at h
  refine T.seq ?_
  refine T.region ?_
  refine RS.op rfl (OP.q rfl (v_lss rfl rfl ?_))
  refine RS.nil ?_
  refine T.seq ?_
  refine T.cond (b := decide (s3 < ((p0).length : Int))) rfl (fun hb_17 => ?_) (fun hb_17 => ?_)
  · replace h := ite_T h hb_17
    refine T.skip ?_
    refine T.seq ?_
    refine T.block ?_
    refine T.seq ?_
    refine T.region ?_
    refine RS.op rfl (OP.q rfl (v_move (v := .int .i64 s3) rfl ?_))
    refine RS.op rfl (OP.q rfl (v_assign (v := .int .i64 s3) rfl ?_))
    refine RS.nil ?_
    refine T.seq ?_
    refine T.region ?_
    refine RS.op rfl (OP.q rfl (v_assign (v := .int .i64 7) rfl ?_))
    refine RS.nil ?_
    refine T.block ?_
    refine T.iter (fun ss_20 : Int × (List Int) => mkA 97 [(0, .str p0), (3, .ref 0), (4, .int .i64 s3), (5, .int .i64 ss_20.1), (20, .int .i64 ((p0).length : Int)), (21, .int .i64 s3)]) (fun ss_20 => [.arr 5 1 (List.map enc8 ss_20.2)]) h (Weak.mkN [] [0] (by decide) (none_kept _) rfl ⟨rn_str rfl, rn_ref rfl, rn_int rfl, rn_int rfl, rn_int rfl, rn_int rfl, trivial⟩ (rw_arr rfl enc8_p rfl (rw_nil))) (fun ss_20 v_21 h hv_21 => ?_)
    obtain ⟨s5, s6⟩ := ss_20
    replace h : crossref_SumOf_l1 p0 s3 s5 s6 = some v_21 := h
    show T _ _ _ _ (mkA 97 [(0, .str p0), (3, .ref 0), (4, .int .i64 s3), (5, .int .i64 s5), (20, .int .i64 ((p0).length : Int)), (21, .int .i64 s3)]) [.arr 5 1 (List.map enc8 s6)]
    unfold crossref_SumOf_l1 at h
    refine T.seq ?_
    refine T.seq ?_
    refine T.region ?_
    refine RS.op rfl (OP.q rfl (v_move (v := .int .i64 s5) rfl ?_))
    refine RS.op rfl (OP.q rfl (v_geq rfl rfl ?_))
    refine RS.nil ?_
    refine T.cond (b := decide (s5 ≥ 0)) rfl (fun hb_22 => ?_) (fun hb_22 => ?_)
    · replace h := ite_T h hb_22
      refine T.skip ?_
      refine T.seq ?_
      refine T.block ?_
      obtain ⟨x7, hx7, h⟩ := bind_some h
      obtain ⟨x8, hx8, h⟩ := bind_some h
      obtain ⟨x9, hx9, h⟩ := bind_some h
      refine T.region ?_
      refine RS.op rfl (OP.q rfl (v_move (v := .ref 0) rfl ?_))
      refine RS.op rfl (OP.q rfl (v_move (v := .str p0) rfl ?_))
      refine RS.op rfl (OP.q rfl (v_move (v := .int .i64 s3) rfl ?_))
      refine RS.op rfl (OP.q rfl (v_index_str Try.underlying9 rfl rfl hx7 ?_))
      refine RS.op rfl (OP.q rfl (v_move (v := .int .i64 s5) rfl ?_))
      refine RS.op rfl (OP.q rfl (v_shr rfl rfl hx8 ?_))
      refine RS.op rfl (OP.q rfl (v_and rfl rfl ?_))
      refine RS.op rfl (o_buildSlice (rows := List.map enc8 [ibits .and .u8 x8 1]) (vs := [.int .u8 (ibits .and .u8 x8 1)]) Ty.s43 Ty.z5 rfl rfl rfl rfl rfl (aw' := [.arr 5 1 (List.map enc8 s6), .arr 5 1 (List.map enc8 [ibits .and .u8 x8 1])]) rfl ?_)
      refine RS.op rfl (o_app_ref (en := enc8) (xs := s6) (ys := ([ibits .and .u8 x8 1] : List Int)) Ty.s43 (fun _ => rfl) rfl rfl rfl hx9 rfl (aw' := [.dead, .dead, .arr 5 1 (List.map enc8 x9)]) rfl ?_)
      refine RS.op rfl (OP.q rfl (v_assign (v := .ref 2) rfl ?_))
      refine RS.nil ?_
      refine T.region ?_
      refine RS.op rfl (OP.q rfl (v_move (v := .int .i64 s5) rfl ?_))
      refine RS.op rfl (OP.q rfl (v_sub rfl rfl ?_))
      refine RS.op rfl (OP.q rfl (v_assign (v := .int .i64 (IntKind.i64.wrap (s5 - 1))) rfl ?_))
      refine RS.nil ?_
      exact ⟨(IntKind.i64.wrap (s5 - 1), x9), (Option.some.inj h).symm, Weak.mkN [] [2] (by decide) (none_kept _) rfl ⟨rn_str rfl, rn_ref rfl, rn_int rfl, rn_int rfl, rn_int rfl, rn_int rfl, trivial⟩ (rw_arr rfl enc8_p rfl (rw_nil))⟩
    · replace h := ite_F h hb_22
      refine T.exit ?_
      obtain ⟨w_23, h, hw_23⟩ := map_inr h
      replace h := h.trans (congrArg some (hv_21 _ hw_23))
      refine T.region ?_
      refine RS.op rfl (OP.q rfl (v_add rfl rfl ?_))
      refine RS.op rfl (OP.q rfl (v_move (v := .int .i64 (IntKind.i64.wrap (s3 + 1))) rfl ?_))
      refine RS.nil ?_
      exact ⟨(IntKind.i64.wrap (s3 + 1), s6), (Option.some.inj h).symm, Weak.mkN [] [0] (by decide) (none_kept _) rfl ⟨rn_str rfl, rn_ref rfl, rn_int rfl, rn_int rfl, trivial⟩ (rw_arr rfl enc8_p rfl (rw_nil))⟩
  · replace h := ite_F h hb_17
    refine T.exit ?_
    obtain ⟨w_24, h, hw_24⟩ := map_inr h
    replace h := h.trans (congrArg some (hv_16 _ hw_24))
    refine T.seq ?_
    obtain ⟨x11, hx11, h⟩ := bind_some h
    refine T.region ?_
    refine RS.op rfl (OP.q rfl (v_move (v := .ref 0) rfl ?_))
    refine RS.op rfl (o_app_z (en := enc8) (z0 := 0) (xs := s4) Ty.s43 Try.underlying3 Ty.z5 (fun _ => rfl) rfl rfl rfl hx11 rfl (aw' := [.dead, .arr 5 1 (List.map enc8 x11)]) rfl ?_)
    refine RS.op rfl (OP.q rfl (v_assign (v := .ref 1) rfl ?_))
    refine RS.nil ?_
    refine T.seq ?_
    refine T.seq ?_
    refine T.region ?_
    refine RS.op rfl (OP.q rfl (v_move (v := .int .i64 0) rfl ?_))
    refine RS.nil ?_
    refine T.block ?_
    refine T.iter (fun ss_27 : Int × (List Int) => mkA 97 [(3, .ref 0), (40, .int .i64 ss_27.1)]) (fun ss_27 => [.arr 5 1 (List.map enc8 ss_27.2)]) h (Weak.mkN [] [1] (by decide) (none_kept _) rfl ⟨rn_ref rfl, rn_int rfl, trivial⟩ (rw_arr rfl enc8_p rfl (rw_nil))) (fun ss_27 v_28 h hv_28 => ?_)
    obtain ⟨s12, s13⟩ := ss_27
    replace h : crossref_SumOf_l5 s12 s13 = some v_28 := h
    show T _ _ _ _ (mkA 97 [(3, .ref 0), (40, .int .i64 s12)]) [.arr 5 1 (List.map enc8 s13)]
    unfold crossref_SumOf_l5 at h
    refine T.seq ?_
    refine T.region ?_
    refine RS.op rfl (OP.q rfl (v_lss rfl rfl ?_))
    refine RS.nil ?_
    refine T.seq ?_
    refine T.cond (b := decide (s12 < 16)) rfl (fun hb_29 => ?_) (fun hb_29 => ?_)
    · replace h := ite_T h hb_29
      refine T.skip ?_
      refine T.seq ?_
      refine T.block ?_
      refine T.seq ?_
      refine T.region ?_
      refine RS.op rfl (OP.q rfl (v_move (v := .int .i64 s12) rfl ?_))
      refine RS.op rfl (OP.q rfl (v_assign (v := .int .i64 s12) rfl ?_))
      refine RS.nil ?_
      obtain ⟨x14, hx14, h⟩ := bind_some h
      obtain ⟨x15, hx15, h⟩ := bind_some h
      obtain ⟨x16, hx16, h⟩ := bind_some h
      obtain ⟨x17, hx17, h⟩ := bind_some h
      refine T.region ?_
      refine RS.op rfl (OP.q rfl (v_move (v := .ref 0) rfl ?_))
      refine RS.op rfl (OP.q rfl (v_move (v := .int .i64 s12) rfl ?_))
      refine RS.op rfl (OP.q rfl (v_index_ref' (en := enc8) Ty.s43 rfl rfl rfl hx14 ?_))
      refine RS.op rfl (o_load_aptr' (en := enc8) (a := x15) rfl rfl hx15 (loadRow1 Ty.k5 (c := .int .u8 x15) rfl ?_))
      refine RS.op rfl (OP.q rfl (v_xor rfl rfl ?_))
      refine RS.op rfl (OP.q rfl (v_index_ref' (en := enc8) Ty.s43 rfl rfl rfl hx16 ?_))
      refine RS.op rfl (o_store_aptr' (en := enc8) (a := x17) (a' := ibits .xor .u8 x15 1) Ty.c5 Ty.i5 rfl (vs := [.int .u8 (ibits .xor .u8 x15 1)]) rfl rfl rfl hx17 rfl rfl (aw' := [.arr 5 1 (List.map enc8 (List.set s13 x16 (ibits .xor .u8 x15 1)))]) rfl ?_)
      refine RS.nil ?_
      refine T.region ?_
      refine RS.op rfl (OP.q rfl (v_add rfl rfl ?_))
      refine RS.op rfl (OP.q rfl (v_move (v := .int .i64 (IntKind.i64.wrap (s12 + 1))) rfl ?_))
      refine RS.nil ?_
      exact ⟨(IntKind.i64.wrap (s12 + 1), (List.set s13 x16 (ibits .xor .u8 x15 1))), (Option.some.inj h).symm, Weak.mkN [] [0] (by decide) (none_kept _) rfl ⟨rn_ref rfl, rn_int rfl, trivial⟩ (rw_arr rfl enc8_p rfl (rw_nil))⟩
    · replace h := ite_F h hb_29
      refine T.exit ?_
      obtain ⟨w_30, h, hw_30⟩ := map_inr h
      replace h := h.trans (congrArg some (hv_28 _ hw_30))
      refine T.seq ?_
      refine T.region ?_
      refine RS.op rfl (o_buildSlice (rows := List.map enc8 [1, 0, 0, 0, 1, 0, 0, 0, 0, 0, 0, 1, 0, 0, 0, 0, 1]) (vs := [.int .u8 1, .int .u8 0, .int .u8 0, .int .u8 0, .int .u8 1, .int .u8 0, .int .u8 0, .int .u8 0, .int .u8 0, .int .u8 0, .int .u8 0, .int .u8 1, .int .u8 0, .int .u8 0, .int .u8 0, .int .u8 0, .int .u8 1]) Ty.s43 Ty.z5 rfl rfl rfl rfl rfl (aw' := [.arr 5 1 (List.map enc8 s13), .arr 5 1 (List.map enc8 [1, 0, 0, 0, 1, 0, 0, 0, 0, 0, 0, 1, 0, 0, 0, 0, 1])]) rfl ?_)
      refine RS.op rfl (OP.q rfl (v_assign (v := .ref 1) rfl ?_))
      refine RS.nil ?_
      refine T.seq ?_
      refine T.seq ?_
      refine T.region ?_
      refine RS.op rfl (OP.q rfl (v_assign (v := .int .i64 0) rfl ?_))
      refine RS.nil ?_
      refine T.block ?_
      refine T.iter (fun ss_47 : Int × (List Int) => mkA 97 [(3, .ref 0), (7, .ref 1), (8, .int .i64 ss_47.1)]) (fun ss_47 => [.arr 5 1 (List.map enc8 ss_47.2), .arr 5 1 (List.map enc8 [1, 0, 0, 0, 1, 0, 0, 0, 0, 0, 0, 1, 0, 0, 0, 0, 1])]) h (Weak.mkN [] [0, 1] (by decide) (none_kept _) rfl ⟨rn_ref rfl, rn_ref rfl, rn_int rfl, trivial⟩ (rw_arr rfl enc8_p rfl (rw_arr rfl enc8_p rfl (rw_nil)))) (fun ss_47 v_48 h hv_48 => ?_)
      obtain ⟨s18, s19⟩ := ss_47
      replace h : crossref_SumOf_l4 s18 s19 = some v_48 := h
      show T _ _ _ _ (mkA 97 [(3, .ref 0), (7, .ref 1), (8, .int .i64 s18)]) [.arr 5 1 (List.map enc8 s19), .arr 5 1 (List.map enc8 [1, 0, 0, 0, 1, 0, 0, 0, 0, 0, 0, 1, 0, 0, 0, 0, 1])]
      unfold crossref_SumOf_l4 at h
      refine T.seq ?_
      refine T.seq ?_
      refine T.region ?_
      refine RS.op rfl (OP.q rfl (v_move (v := .int .i64 s18) rfl ?_))
      refine RS.op rfl (OP.q rfl (v_add rfl rfl ?_))
      refine RS.op rfl (OP.q rfl (v_move (v := .ref 0) rfl ?_))
      refine RS.op rfl (OP.q rfl (v_len_ref (en := enc8) Ty.s43 rfl rfl ?_))
      refine RS.op rfl (OP.q rfl (v_lss rfl rfl ?_))
      refine RS.nil ?_
      refine T.cond (b := decide ((IntKind.i64.wrap (s18 + 16)) < ((s19).length : Int))) rfl (fun hb_49 => ?_) (fun hb_49 => ?_)
      · replace h := ite_T h hb_49
        refine T.skip ?_
        refine T.seq ?_
        refine T.block ?_
        refine T.seq ?_
        obtain ⟨x22, hx22, h⟩ := bind_some h
        obtain ⟨x23, hx23, h⟩ := bind_some h
        refine T.region ?_
        refine RS.op rfl (OP.q rfl (v_move (v := .ref 0) rfl ?_))
        refine RS.op rfl (OP.q rfl (v_move (v := .int .i64 s18) rfl ?_))
        refine RS.op rfl (OP.q rfl (v_index_ref' (en := enc8) Ty.s43 rfl rfl rfl hx22 ?_))
        refine RS.op rfl (o_load_aptr' (en := enc8) (a := x23) rfl rfl hx23 (loadRow1 Ty.k5 (c := .int .u8 x23) rfl ?_))
        refine RS.op rfl (OP.q rfl (v_eql rfl rfl ?_))
        refine RS.nil ?_
        refine T.cond (b := x23 == 1) rfl (fun hb_50 => ?_) (fun hb_50 => ?_)
        · replace h := ite_T h hb_50
          refine T.seq ?_
          refine T.region ?_
          refine RS.op rfl (OP.q rfl (v_move (v := .ref 1) rfl ?_))
          refine RS.op rfl (OP.q rfl (v_len_ref (en := enc8) Ty.s43 rfl rfl ?_))
          refine RS.op rfl (OP.q rfl (v_move (v := .int .i64 0) rfl ?_))
          refine RS.nil ?_
          refine T.block ?_
          refine T.iter (fun ss_53 : Int × (List Int) => mkA 97 [(3, .ref 0), (7, .ref 1), (8, .int .i64 s18), (63, .ref 1), (64, .int .i64 (([1, 0, 0, 0, 1, 0, 0, 0, 0, 0, 0, 1, 0, 0, 0, 0, 1]).length : Int)), (65, .int .i64 ss_53.1)]) (fun ss_53 => [.arr 5 1 (List.map enc8 ss_53.2), .arr 5 1 (List.map enc8 [1, 0, 0, 0, 1, 0, 0, 0, 0, 0, 0, 1, 0, 0, 0, 0, 1])]) h (Weak.mkN [] [0, 1] (by decide) (none_kept _) rfl ⟨rn_ref rfl, rn_ref rfl, rn_int rfl, rn_ref rfl, rn_int rfl, rn_int rfl, trivial⟩ (rw_arr rfl enc8_p rfl (rw_arr rfl enc8_p rfl (rw_nil)))) (fun ss_53 v_54 h hv_54 => ?_)
          obtain ⟨s24, s25⟩ := ss_53
          replace h : crossref_SumOf_l2 s18 s24 s25 = some v_54 := h
          show T _ _ _ _ (mkA 97 [(3, .ref 0), (7, .ref 1), (8, .int .i64 s18), (63, .ref 1), (64, .int .i64 (([1, 0, 0, 0, 1, 0, 0, 0, 0, 0, 0, 1, 0, 0, 0, 0, 1]).length : Int)), (65, .int .i64 s24)]) [.arr 5 1 (List.map enc8 s25), .arr 5 1 (List.map enc8 [1, 0, 0, 0, 1, 0, 0, 0, 0, 0, 0, 1, 0, 0, 0, 0, 1])]
          unfold crossref_SumOf_l2 at h
          refine T.seq ?_
          refine T.region ?_
          refine RS.op rfl (OP.q rfl (v_lss rfl rfl ?_))
          refine RS.nil ?_
          refine T.seq ?_
          refine T.cond (b := decide (s24 < (([1, 0, 0, 0, 1, 0, 0, 0, 0, 0, 0, 1, 0, 0, 0, 0, 1]).length : Int))) rfl (fun hb_55 => ?_) (fun hb_55 => ?_)
          · replace h := ite_T h hb_55
            refine T.skip ?_
            refine T.seq ?_
            refine T.block ?_
            refine T.seq ?_
            obtain ⟨x28, hx28, h⟩ := bind_some h
            obtain ⟨x29, hx29, h⟩ := bind_some h
            refine T.region ?_
            refine RS.op rfl (OP.q rfl (v_move (v := .int .i64 s24) rfl ?_))
            refine RS.op rfl (OP.q rfl (v_index_ref' (en := enc8) Ty.s43 rfl rfl rfl hx28 ?_))
            refine RS.op rfl (o_load_aptr' (en := enc8) (a := x29) rfl rfl hx29 (loadRow1 Ty.k5 (c := .int .u8 x29) rfl ?_))
            refine RS.op rfl (OP.q rfl (v_assign (v := .int .i64 s24) rfl ?_))
            refine RS.op rfl (OP.q rfl (v_assign (v := .int .u8 x29) rfl ?_))
            refine RS.nil ?_
            obtain ⟨x30, hx30, h⟩ := bind_some h
            obtain ⟨x31, hx31, h⟩ := bind_some h
            obtain ⟨x32, hx32, h⟩ := bind_some h
            obtain ⟨x33, hx33, h⟩ := bind_some h
            refine T.region ?_
            refine RS.op rfl (OP.q rfl (v_move (v := .ref 0) rfl ?_))
            refine RS.op rfl (OP.q rfl (v_move (v := .int .i64 s18) rfl ?_))
            refine RS.op rfl (OP.q rfl (v_move (v := .int .i64 s24) rfl ?_))
            refine RS.op rfl (OP.q rfl (v_add rfl rfl ?_))
            refine RS.op rfl (OP.q rfl (v_index_ref' (en := enc8) Ty.s43 rfl rfl rfl hx30 ?_))
            refine RS.op rfl (o_load_aptr' (en := enc8) (a := x31) rfl rfl hx31 (loadRow1 Ty.k5 (c := .int .u8 x31) rfl ?_))
            refine RS.op rfl (OP.q rfl (v_move (v := .int .u8 x29) rfl ?_))
            refine RS.op rfl (OP.q rfl (v_xor rfl rfl ?_))
            refine RS.op rfl (OP.q rfl (v_index_ref' (en := enc8) Ty.s43 rfl rfl rfl hx32 ?_))
            refine RS.op rfl (o_store_aptr' (en := enc8) (a := x33) (a' := ibits .xor .u8 x31 x29) Ty.c5 Ty.i5 rfl (vs := [.int .u8 (ibits .xor .u8 x31 x29)]) rfl rfl rfl hx33 rfl rfl (aw' := [.arr 5 1 (List.map enc8 (List.set s25 x32 (ibits .xor .u8 x31 x29))), .arr 5 1 (List.map enc8 [1, 0, 0, 0, 1, 0, 0, 0, 0, 0, 0, 1, 0, 0, 0, 0, 1])]) rfl ?_)
            refine RS.nil ?_
            refine T.region ?_
            refine RS.op rfl (OP.q rfl (v_add rfl rfl ?_))
            refine RS.op rfl (OP.q rfl (v_move (v := .int .i64 (IntKind.i64.wrap (s24 + 1))) rfl ?_))
            refine RS.nil ?_
            exact ⟨(IntKind.i64.wrap (s24 + 1), (List.set s25 x32 (ibits .xor .u8 x31 x29))), (Option.some.inj h).symm, Weak.mkN [] [0, 1] (by decide) (none_kept _) rfl ⟨rn_ref rfl, rn_ref rfl, rn_int rfl, rn_ref rfl, rn_int rfl, rn_int rfl, trivial⟩ (rw_arr rfl enc8_p rfl (rw_arr rfl enc8_p rfl (rw_nil)))⟩
          · replace h := ite_F h hb_55
            refine T.exit ?_
            obtain ⟨w_56, h, hw_56⟩ := map_inr h
            replace h := h.trans (congrArg some (hv_54 _ hw_56))
            refine T.region ?_
            refine RS.op rfl (OP.q rfl (v_move (v := .int .i64 s18) rfl ?_))
            refine RS.op rfl (OP.q rfl (v_add rfl rfl ?_))
            refine RS.op rfl (OP.q rfl (v_assign (v := .int .i64 (IntKind.i64.wrap (s18 + 1))) rfl ?_))
            refine RS.nil ?_
            exact ⟨(IntKind.i64.wrap (s18 + 1), s25), (Option.some.inj h).symm, Weak.mkN [] [0, 1] (by decide) (none_kept _) rfl ⟨rn_ref rfl, rn_ref rfl, rn_int rfl, trivial⟩ (rw_arr rfl enc8_p rfl (rw_arr rfl enc8_p rfl (rw_nil)))⟩
        · replace h := ite_F h hb_50
          refine T.skip ?_
          refine T.region ?_
          refine RS.op rfl (OP.q rfl (v_move (v := .int .i64 s18) rfl ?_))
          refine RS.op rfl (OP.q rfl (v_add rfl rfl ?_))
          refine RS.op rfl (OP.q rfl (v_assign (v := .int .i64 (IntKind.i64.wrap (s18 + 1))) rfl ?_))
          refine RS.nil ?_
          exact ⟨(IntKind.i64.wrap (s18 + 1), s19), (Option.some.inj h).symm, Weak.mkN [] [0, 1] (by decide) (none_kept _) rfl ⟨rn_ref rfl, rn_ref rfl, rn_int rfl, trivial⟩ (rw_arr rfl enc8_p rfl (rw_arr rfl enc8_p rfl (rw_nil)))⟩
      · replace h := ite_F h hb_49
        refine T.exit ?_
        obtain ⟨w_57, h, hw_57⟩ := map_inr h
        replace h := h.trans (congrArg some (hv_48 _ hw_57))
        refine T.seq ?_
        refine T.region ?_
        refine RS.op rfl (OP.q rfl (v_assign (v := .int .i64 0) rfl ?_))
        refine RS.nil ?_
        refine T.seq ?_
        refine T.seq ?_
        obtain ⟨x35, hx35, h⟩ := bind_some h
        refine T.region ?_
        refine RS.op rfl (OP.q rfl (v_move (v := .ref 0) rfl ?_))
        refine RS.op rfl (OP.q rfl (v_move (v := .ref 0) rfl ?_))
        refine RS.op rfl (OP.q rfl (v_len_ref (en := enc8) Ty.s43 rfl rfl ?_))
        refine RS.op rfl (OP.q rfl (v_sub rfl rfl ?_))
        refine RS.fz 0 rfl rfl (aw' := [.dead, .arr 5 1 (List.map enc8 [1, 0, 0, 0, 1, 0, 0, 0, 0, 0, 0, 1, 0, 0, 0, 0, 1])]) rfl ?_
        refine RS.op rfl (o_slice_sl Ty.s43 (fun _ => rfl) rfl rfl rfl hx35 ?_)
        refine RS.op rfl (OP.q rfl (v_len_sl Ty.s43 rfl ?_))
        refine RS.op rfl (OP.q rfl (v_move (v := .int .i64 0) rfl ?_))
        refine RS.nil ?_
        refine T.block ?_
        refine T.iter (fun ss_60 : Int × Int => mkA 97 [(11, .int .i64 ss_60.1), (84, .sl (List.map enc8 x35)), (85, .int .i64 ((x35).length : Int)), (86, .int .i64 ss_60.2)]) (fun ss_60 => []) h (Weak.mkN [] [] (by decide) (none_kept _) rfl ⟨rn_int rfl, rn_sl enc8_p rfl, rn_int rfl, rn_int rfl, trivial⟩ (rw_nil)) (fun ss_60 v_61 h hv_61 => ?_)
        obtain ⟨s36, s37⟩ := ss_60
        replace h : crossref_SumOf_l3 x35 s36 s37 = some v_61 := h
        show T _ _ _ _ (mkA 97 [(11, .int .i64 s36), (84, .sl (List.map enc8 x35)), (85, .int .i64 ((x35).length : Int)), (86, .int .i64 s37)]) []
        unfold crossref_SumOf_l3 at h
        refine T.seq ?_
        refine T.region ?_
        refine RS.op rfl (OP.q rfl (v_lss rfl rfl ?_))
        refine RS.nil ?_
        refine T.seq ?_
        refine T.cond (b := decide (s37 < ((x35).length : Int))) rfl (fun hb_62 => ?_) (fun hb_62 => ?_)
        · replace h := ite_T h hb_62
          refine T.skip ?_
          refine T.seq ?_
          refine T.block ?_
          refine T.seq ?_
          obtain ⟨x39, hx39, h⟩ := bind_some h
          refine T.region ?_
          refine RS.op rfl (OP.q rfl (v_index_sl Ty.s43 (fun _ => rfl) rfl rfl hx39 ?_))
          refine RS.op rfl (o_load_elt rfl (loadRow1 Ty.k5 (c := .int .u8 x39) rfl ?_))
          refine RS.op rfl (OP.q rfl (v_assign (v := .int .u8 x39) rfl ?_))
          refine RS.nil ?_
          refine T.region ?_
          refine RS.op rfl (OP.q rfl (v_move (v := .int .i64 s36) rfl ?_))
          refine RS.op rfl (OP.q rfl (v_mul rfl rfl ?_))
          refine RS.op rfl (OP.q rfl (v_move (v := .int .u8 x39) rfl ?_))
          refine RS.op rfl (o_conv Try.underlying5 Try.underlying3 rfl ?_)
          refine RS.op rfl (OP.q rfl (v_add rfl rfl ?_))
          refine RS.op rfl (OP.q rfl (v_assign (v := .int .i64 (IntKind.i64.wrap ((IntKind.i64.wrap (2 * s36)) + (IntKind.i64.wrap x39)))) rfl ?_))
          refine RS.nil ?_
          refine T.region ?_
          refine RS.op rfl (OP.q rfl (v_add rfl rfl ?_))
          refine RS.op rfl (OP.q rfl (v_move (v := .int .i64 (IntKind.i64.wrap (s37 + 1))) rfl ?_))
          refine RS.nil ?_
          exact ⟨(IntKind.i64.wrap ((IntKind.i64.wrap (2 * s36)) + (IntKind.i64.wrap x39)), IntKind.i64.wrap (s37 + 1)), (Option.some.inj h).symm, Weak.mkN [] [] (by decide) (none_kept _) rfl ⟨rn_int rfl, rn_sl enc8_p rfl, rn_int rfl, rn_int rfl, trivial⟩ (rw_nil)⟩
        · replace h := ite_F h hb_62
          refine T.exit ?_
          obtain ⟨w_63, h, hw_63⟩ := map_inr h
          replace h := h.trans (congrArg some (hv_61 _ hw_63))
          refine T.seq ?_
          refine T.region ?_
          refine RS.op rfl (OP.q rfl (v_move (v := .int .i64 s36) rfl ?_))
          refine RS.op rfl (OP.q rfl (v_assign (v := .int .i64 s36) rfl ?_))
          refine RS.nil ?_
          refine T.ret' (R := ?R64) ?hq64 ?_
          case hq64 => repeat (first | exact RetIs.base | refine RetIs.thn ?_ | refine RetIs.blk ?_ | refine RetIs.lq ?_)
          refine res_tmpA (v := .int .i64 s36) rfl ?_
          refine res_done ?_
          exact ret_data (v := .int .i64 s36) rfl (pure_int _ _) ⟨congrArg (fun r : Int => (.int .i64 r : AV)) (Option.some.inj h), rfl⟩
theorem crossref_Framed_c (p0 : List UInt8) (r : List UInt8) (h : crossref_Framed p0 = some r) : Fn Try.prog 22 [.str p0] (.str r) := by
  unfold crossref_Framed at h
  refine fn_of_T (N := 0) rfl Try.func22 rfl (by kernel_rfl) Try.ntmps22 rfl ?_
  show T _ _ _ _ (mkA 24 [(0, .str p0)]) []
  refine T.seq ?_
  refine T.region ?_
  refine RS.op rfl (OP.q rfl (v_assign (v := .str []) rfl ?_))
  refine RS.nil ?_
  refine T.seq ?_
  obtain ⟨x2, hx2, h⟩ := bind_some h
  refine T.region ?_
  refine RS.op rfl (OP.q rfl (v_move (v := .str p0) rfl ?_))
  refine RS.op rfl (OP.q rfl (v_len_str Try.underlying9 rfl ?_))
  refine RS.op rfl (o_conv Try.underlying3 Try.underlying5 rfl ?_)
  refine RS.op rfl (o_buildSlice (rows := List.map enc8 [IntKind.u8.wrap ((p0).length : Int)]) (vs := [.int .u8 (IntKind.u8.wrap ((p0).length : Int))]) Ty.s43 Ty.z5 rfl rfl rfl rfl rfl (aw' := [.arr 5 1 (List.map enc8 [IntKind.u8.wrap ((p0).length : Int)])]) rfl ?_)
  refine RS.op rfl (o_conv_bytes (xs := [IntKind.u8.wrap ((p0).length : Int)]) Try.underlying43 Try.underlying5 Try.underlying9 rfl rfl ?_)
  refine RS.op rfl (OP.q rfl (v_move (v := .str p0) rfl ?_))
  refine RS.op rfl (OP.q rfl (v_sadd rfl rfl hx2 ?_))
  refine RS.op rfl (OP.q rfl (v_assign (v := .str x2) rfl ?_))
  refine RS.nil ?_
  refine T.seq ?_
  obtain ⟨x4, hx4, h⟩ := bind_some h
  refine T.region ?_
  refine RS.op rfl (OP.q rfl (v_move (v := .str x2) rfl ?_))
  refine RS.op rfl (o_call (as0 := [.str x2]) (as1 := [.str x2]) (caps := []) (aw1 := [.dead]) rfl rfl rfl (k_flat (v := .int .i64 x4) (crossref_SumOf_c x2 x4 hx4) (⟨pure_str _, trivial⟩) rfl ?_))
  refine RS.op rfl (OP.q rfl (v_assign (v := .int .i64 x4) rfl ?_))
  refine RS.nil ?_
  refine T.seq ?_
  obtain ⟨x8, hx8, h⟩ := bind_some h
  obtain ⟨x9, hx9, h⟩ := bind_some h
  obtain ⟨x10, hx10, h⟩ := bind_some h
  refine T.region ?_
  refine RS.op rfl (OP.q rfl (v_move (v := .str x2) rfl ?_))
  refine RS.op rfl (OP.q rfl (v_move (v := .int .i64 x4) rfl ?_))
  refine RS.op rfl (OP.q rfl (v_quo rfl rfl hx8 ?_))
  refine RS.op rfl (o_conv Try.underlying3 Try.underlying5 rfl ?_)
  refine RS.op rfl (OP.q rfl (v_move (v := .int .i64 x4) rfl ?_))
  refine RS.op rfl (OP.q rfl (v_rem rfl rfl hx9 ?_))
  refine RS.op rfl (o_conv Try.underlying3 Try.underlying5 rfl ?_)
  refine RS.op rfl (o_buildSlice (rows := List.map enc8 [IntKind.u8.wrap x8, IntKind.u8.wrap x9]) (vs := [.int .u8 (IntKind.u8.wrap x8), .int .u8 (IntKind.u8.wrap x9)]) Ty.s43 Ty.z5 rfl rfl rfl rfl rfl (aw' := [.dead, .arr 5 1 (List.map enc8 [IntKind.u8.wrap x8, IntKind.u8.wrap x9])]) rfl ?_)
  refine RS.op rfl (o_conv_bytes (xs := [IntKind.u8.wrap x8, IntKind.u8.wrap x9]) Try.underlying43 Try.underlying5 Try.underlying9 rfl rfl ?_)
  refine RS.op rfl (OP.q rfl (v_sadd rfl rfl hx10 ?_))
  refine RS.op rfl (OP.q rfl (v_assign (v := .str x10) rfl ?_))
  refine RS.nil ?_
  refine T.ret' (R := ?R1) ?hq1 ?_
  case hq1 => repeat (first | exact RetIs.base | refine RetIs.thn ?_ | refine RetIs.blk ?_ | refine RetIs.lq ?_)
  refine res_tmpA (v := .str x10) rfl ?_
  refine res_done ?_
  exact ret_data (v := .str x10) rfl (pure_str _) ⟨congrArg (fun r : List UInt8 => (.str r : AV)) (Option.some.inj h), rfl⟩
theorem crossref_Unframe_c (p0 : List UInt8) (r : (List (List UInt8)) × Int) (h : crossref_Unframe p0 = some r) : FnO Try.prog 58 [.str p0] (.tup [.ref 0, .int .i64 r.2]) [.arr 9 1 (List.map encS r.1)] := by
  unfold crossref_Unframe at h
  refine fn_of_T (N := 0) rfl Try.func58 rfl (by kernel_rfl) Try.ntmps58 rfl ?_
  show T _ _ _ _ (mkA 55 [(0, .str p0)]) []
  refine T.seq ?_
  refine T.region ?_
  refine RS.op rfl (OP.q rfl (v_assign (v := .nils) rfl ?_))
  refine RS.op rfl (OP.q rfl (v_assign (v := .int .i64 0) rfl ?_))
  refine RS.nil ?_
  refine T.block ?_
  refine T.iter (fun ss_17 : Int × (List (List UInt8)) => mkA 55 [(0, .str p0), (2, .ref 0), (3, .int .i64 ss_17.1)]) (fun ss_17 => [.arr 9 1 (List.map encS ss_17.2)]) h (Weak.mkN [(2, 9, 1)] [0] (by decide) (none_kept _) rfl ⟨rn_str rfl, rn_ref rfl, rn_int rfl, trivial⟩ (rw_arr (en := encS) (ys := []) rfl encS_p rfl (rw_nil))) (fun ss_17 v_18 h hv_18 => ?_)
  obtain ⟨s1, s2⟩ := ss_17
  replace h : crossref_Unframe_l1 p0 s1 s2 = some v_18 := h
  show T _ _ _ _ (mkA 55 [(0, .str p0), (2, .ref 0), (3, .int .i64 s1)]) [.arr 9 1 (List.map encS s2)]
  unfold crossref_Unframe_l1 at h
  refine T.block ?_
  refine T.seq ?_
  obtain ⟨x4, hx4, h⟩ := bind_some h
  refine T.region ?_
  refine RS.op rfl (OP.q rfl (v_move (v := .str p0) rfl ?_))
  refine RS.op rfl (OP.q rfl (v_move (v := .int .i64 s1) rfl ?_))
  refine RS.op rfl (o_slice_str Try.underlying9 rfl rfl rfl hx4 ?_)
  refine RS.op rfl (OP.q rfl (v_assign (v := .str x4) rfl ?_))
  refine RS.nil ?_
  refine T.seq ?_
  refine T.seq ?_
  refine T.region ?_
  refine RS.op rfl (OP.q rfl (v_move (v := .str x4) rfl ?_))
  refine RS.op rfl (OP.q rfl (v_len_str Try.underlying9 rfl ?_))
  refine RS.op rfl (OP.q rfl (v_lss rfl rfl ?_))
  refine RS.nil ?_
  refine T.cond (b := decide (((x4).length : Int) < 4)) rfl (fun hb_19 => ?_) (fun hb_19 => ?_)
  · replace h := ite_T h hb_19
    refine T.seq ?_
    refine T.region ?_
    refine RS.op rfl (OP.q rfl (v_move (v := .ref 0) rfl ?_))
    refine RS.op rfl (OP.q rfl (v_move (v := .int .i64 s1) rfl ?_))
    refine RS.op rfl (OP.q rfl (v_assign (v := .ref 0) rfl ?_))
    refine RS.op rfl (OP.q rfl (v_assign (v := .int .i64 s1) rfl ?_))
    refine RS.nil ?_
    refine T.ret' (R := ?R20) ?hq20 ?_
    case hq20 => repeat (first | exact RetIs.base | refine RetIs.thn ?_ | refine RetIs.blk ?_ | refine RetIs.lq ?_)
    obtain ⟨w_21, h, hw_21⟩ := map_inr h
    replace h := h.trans (congrArg some (hv_18 _ hw_21))
    refine res_tmpA (v := .ref 0) rfl ?_
    refine res_tmpA (v := .int .i64 s1) rfl ?_
    refine res_done ?_
    exact ret_own (.tup [.ref 0, .int .i64 r.2]) [] [0] (by decide) (none_kept _) rfl (rn_tup ⟨rn_ref rfl, rn_int (congrArg (fun r : (List (List UInt8)) × Int => r.2) (Option.some.inj h)).symm, trivial⟩) (rw_arr rfl encS_p (congrArg (fun r : (List (List UInt8)) × Int => r.1) (Option.some.inj h)).symm (rw_nil)) ⟨rfl, rfl⟩
  · replace h := ite_F h hb_19
    refine T.skip ?_
    refine T.seq ?_
    obtain ⟨x6, hx6, h⟩ := bind_some h
    refine T.region ?_
    refine RS.op rfl (OP.q rfl (v_move (v := .str x4) rfl ?_))
    refine RS.op rfl (OP.q rfl (v_index_str Try.underlying9 rfl rfl hx6 ?_))
    refine RS.op rfl (o_conv Try.underlying5 Try.underlying3 rfl ?_)
    refine RS.op rfl (OP.q rfl (v_assign (v := .int .i64 (IntKind.i64.wrap (x6.toNat : Int))) rfl ?_))
    refine RS.nil ?_
    refine T.seq ?_
    obtain ⟨zt_25, hz, h⟩ := bind_some h
    revert hz h; revert zt_25; intro c10 hz h
    refine T.join (Z := Unit) (fun _ => mkA 55 [(0, .str p0), (2, .ref 0), (3, .int .i64 s1), (4, .str x4), (5, .int .i64 (IntKind.i64.wrap (x6.toNat : Int))), (41, .bool c10)]) (fun _ => [.arr 9 1 (List.map encS s2)]) (fun _ => True) (fun _ _ => ?_) (fun hK => ?_)
    · show T _ _ _ _ (mkA 55 [(0, .str p0), (2, .ref 0), (3, .int .i64 s1), (4, .str x4), (5, .int .i64 (IntKind.i64.wrap (x6.toNat : Int))), (41, .bool c10)]) [.arr 9 1 (List.map encS s2)]
      refine T.cond (b := c10) rfl (fun hb_26 => ?_) (fun hb_26 => ?_)
      · replace h := ite_T h hb_26
        refine T.seq ?_
        refine T.region ?_
        refine RS.op rfl (OP.q rfl (v_move (v := .ref 0) rfl ?_))
        refine RS.op rfl (OP.q rfl (v_move (v := .int .i64 s1) rfl ?_))
        refine RS.op rfl (OP.q rfl (v_assign (v := .ref 0) rfl ?_))
        refine RS.op rfl (OP.q rfl (v_assign (v := .int .i64 s1) rfl ?_))
        refine RS.nil ?_
        refine T.ret' (R := ?R27) ?hq27 ?_
        case hq27 => repeat (first | exact RetIs.base | refine RetIs.thn ?_ | refine RetIs.blk ?_ | refine RetIs.lq ?_)
        obtain ⟨w_28, h, hw_28⟩ := map_inr h
        replace h := h.trans (congrArg some (hv_18 _ hw_28))
        refine res_tmpA (v := .ref 0) rfl ?_
        refine res_tmpA (v := .int .i64 s1) rfl ?_
        refine res_done ?_
        exact ret_own (.tup [.ref 0, .int .i64 r.2]) [] [0] (by decide) (none_kept _) rfl (rn_tup ⟨rn_ref rfl, rn_int (congrArg (fun r : (List (List UInt8)) × Int => r.2) (Option.some.inj h)).symm, trivial⟩) (rw_arr rfl encS_p (congrArg (fun r : (List (List UInt8)) × Int => r.1) (Option.some.inj h)).symm (rw_nil)) ⟨rfl, rfl⟩
      · replace h := ite_F h hb_26
        refine T.skip ?_
        refine T.seq ?_
        obtain ⟨x13, hx13, h⟩ := bind_some h
        obtain ⟨x14, hx14, h⟩ := bind_some h
        refine T.region ?_
        refine RS.op rfl (OP.q rfl (v_move (v := .ref 0) rfl ?_))
        refine RS.op rfl (OP.q rfl (v_move (v := .str x4) rfl ?_))
        refine RS.op rfl (OP.q rfl (v_move (v := .int .i64 (IntKind.i64.wrap (x6.toNat : Int))) rfl ?_))
        refine RS.op rfl (OP.q rfl (v_add rfl rfl ?_))
        refine RS.op rfl (o_slice_str Try.underlying9 rfl rfl rfl hx13 ?_)
        refine RS.op rfl (o_buildSlice (rows := List.map encS [x13]) (vs := [.str x13]) Ty.s22 Ty.z9 rfl rfl rfl rfl rfl (aw' := [.arr 9 1 (List.map encS s2), .arr 9 1 (List.map encS [x13])]) rfl ?_)
        refine RS.op rfl (o_app_ref (en := encS) (xs := s2) (ys := ([x13] : List (List UInt8))) Ty.s22 (fun _ => rfl) rfl rfl rfl hx14 rfl (aw' := [.dead, .dead, .arr 9 1 (List.map encS x14)]) rfl ?_)
        refine RS.op rfl (OP.q rfl (v_assign (v := .ref 2) rfl ?_))
        refine RS.nil ?_
        refine T.region ?_
        refine RS.op rfl (OP.q rfl (v_move (v := .int .i64 s1) rfl ?_))
        refine RS.op rfl (OP.q rfl (v_move (v := .int .i64 (IntKind.i64.wrap (x6.toNat : Int))) rfl ?_))
        refine RS.op rfl (OP.q rfl (v_add rfl rfl ?_))
        refine RS.op rfl (OP.q rfl (v_add rfl rfl ?_))
        refine RS.op rfl (OP.q rfl (v_assign (v := .int .i64 (IntKind.i64.wrap (s1 + (IntKind.i64.wrap ((IntKind.i64.wrap (x6.toNat : Int)) + 3))))) rfl ?_))
        refine RS.nil ?_
        exact ⟨(IntKind.i64.wrap (s1 + (IntKind.i64.wrap ((IntKind.i64.wrap (x6.toNat : Int)) + 3))), x14), (Option.some.inj h).symm, Weak.mkN [] [2] (by decide) (none_kept _) rfl ⟨rn_str rfl, rn_ref rfl, rn_int rfl, trivial⟩ (rw_arr rfl encS_p rfl (rw_nil))⟩
    · rcases bool_cases (decide ((IntKind.i64.wrap (x6.toNat : Int)) < 1)) with hb_22 | hb_22
      · replace hz := ite_T hz hb_22
        refine T.drawn mixed (k := 25) rfl ?_
        refine RA.t0 (i := 0) (li' := #[true, false, false, false, false, false, false, false, false, false, false, false, false, false, false, false, false, false, false, false, false, false, false, false, false]) rfl (by decide +kernel) (by decide +kernel) (by decide +kernel) (by decide +kernel) rfl rfl (v_move (v := .int .i64 (IntKind.i64.wrap (x6.toNat : Int))) rfl ?_)
        refine RA.t0 (i := 1) (li' := #[true, true, false, false, false, false, false, false, false, false, false, false, false, false, false, false, false, false, false, false, false, false, false, false, false]) rfl (by decide +kernel) (by decide +kernel) (by decide +kernel) (by decide +kernel) rfl rfl (v_lss rfl rfl ?_)
        refine RA.t0 (i := 2) (li' := #[true, true, true, false, false, false, false, false, false, false, false, false, false, false, false, false, false, false, false, false, false, false, false, false, false]) rfl (by decide +kernel) (by decide +kernel) (by decide +kernel) (by decide +kernel) rfl rfl (v_move (v := .bool (decide ((IntKind.i64.wrap (x6.toNat : Int)) < 1))) rfl ?_)
        refine RA.t2 (i := 3) (li' := #[true, true, true, true, false, false, false, false, false, false, false, false, false, false, false, false, false, false, false, false, false, false, false, false, false]) rfl (by decide +kernel) (by decide +kernel) (by decide +kernel) (by decide +kernel) rfl rfl rfl hb_22 ?_
        refine RA.t2 (i := 4) (li' := #[true, true, true, true, true, false, false, false, false, false, false, false, false, false, false, false, false, false, false, false, false, false, false, false, false]) rfl (by decide +kernel) (by decide +kernel) (by decide +kernel) (by decide +kernel) rfl rfl rfl hb_22 ?_
        refine RA.t0 (i := 5) (li' := #[true, true, true, true, true, true, false, false, false, false, false, false, false, false, false, false, false, false, false, false, false, false, false, false, false]) rfl (by decide +kernel) (by decide +kernel) (by decide +kernel) (by decide +kernel) rfl rfl (v_pickT (v := .bool true) rfl hb_22 rfl ?_)
        refine RA.t0 (i := 6) (li' := #[true, true, true, true, true, true, true, false, false, false, false, false, false, false, false, false, false, false, false, false, false, false, false, false, false]) rfl (by decide +kernel) (by decide +kernel) (by decide +kernel) (by decide +kernel) rfl rfl (v_move (v := .bool true) rfl ?_)
        refine RA.t2 (i := 7) (li' := #[true, true, true, true, true, true, true, true, false, false, false, false, false, false, false, false, false, false, false, false, false, false, false, false, false]) rfl (by decide +kernel) (by decide +kernel) (by decide +kernel) (by decide +kernel) rfl rfl rfl rfl ?_
        refine RA.t2 (i := 8) (li' := #[true, true, true, true, true, true, true, true, true, false, false, false, false, false, false, false, false, false, false, false, false, false, false, false, false]) rfl (by decide +kernel) (by decide +kernel) (by decide +kernel) (by decide +kernel) rfl rfl rfl rfl ?_
        refine RA.t2 (i := 9) (li' := #[true, true, true, true, true, true, true, true, true, true, false, false, false, false, false, false, false, false, false, false, false, false, false, false, false]) rfl (by decide +kernel) (by decide +kernel) (by decide +kernel) (by decide +kernel) rfl rfl rfl rfl ?_
        refine RA.t2 (i := 10) (li' := #[true, true, true, true, true, true, true, true, true, true, true, false, false, false, false, false, false, false, false, false, false, false, false, false, false]) rfl (by decide +kernel) (by decide +kernel) (by decide +kernel) (by decide +kernel) rfl rfl rfl rfl ?_
        refine RA.t2 (i := 11) (li' := #[true, true, true, true, true, true, true, true, true, true, true, true, false, false, false, false, false, false, false, false, false, false, false, false, false]) rfl (by decide +kernel) (by decide +kernel) (by decide +kernel) (by decide +kernel) rfl rfl rfl rfl ?_
        refine RA.t0 (i := 12) (li' := #[true, true, true, true, true, true, true, true, true, true, true, true, true, false, false, false, false, false, false, false, false, false, false, false, false]) rfl (by decide +kernel) (by decide +kernel) (by decide +kernel) (by decide +kernel) rfl rfl (v_pickT (v := .bool true) rfl rfl rfl ?_)
        refine RA.t0 (i := 13) (li' := #[true, true, true, true, true, true, true, true, true, true, true, true, true, true, false, false, false, false, false, false, false, false, false, false, false]) rfl (by decide +kernel) (by decide +kernel) (by decide +kernel) (by decide +kernel) rfl rfl (v_move (v := .bool true) rfl ?_)
        refine RA.t2 (i := 14) (li' := #[true, true, true, true, true, true, true, true, true, true, true, true, true, true, true, false, false, false, false, false, false, false, false, false, false]) rfl (by decide +kernel) (by decide +kernel) (by decide +kernel) (by decide +kernel) rfl rfl rfl rfl ?_
        refine RA.t2 (i := 15) (li' := #[true, true, true, true, true, true, true, true, true, true, true, true, true, true, true, true, false, false, false, false, false, false, false, false, false]) rfl (by decide +kernel) (by decide +kernel) (by decide +kernel) (by decide +kernel) rfl rfl rfl rfl ?_
        refine RA.t2 (i := 16) (li' := #[true, true, true, true, true, true, true, true, true, true, true, true, true, true, true, true, true, false, false, false, false, false, false, false, false]) rfl (by decide +kernel) (by decide +kernel) (by decide +kernel) (by decide +kernel) rfl rfl rfl rfl ?_
        refine RA.t2 (i := 17) (li' := #[true, true, true, true, true, true, true, true, true, true, true, true, true, true, true, true, true, true, false, false, false, false, false, false, false]) rfl (by decide +kernel) (by decide +kernel) (by decide +kernel) (by decide +kernel) rfl rfl rfl rfl ?_
        refine RA.t2 (i := 18) (li' := #[true, true, true, true, true, true, true, true, true, true, true, true, true, true, true, true, true, true, true, false, false, false, false, false, false]) rfl (by decide +kernel) (by decide +kernel) (by decide +kernel) (by decide +kernel) rfl rfl rfl rfl ?_
        refine RA.t2 (i := 19) (li' := #[true, true, true, true, true, true, true, true, true, true, true, true, true, true, true, true, true, true, true, true, false, false, false, false, false]) rfl (by decide +kernel) (by decide +kernel) (by decide +kernel) (by decide +kernel) rfl rfl rfl rfl ?_
        refine RA.t2 (i := 20) (li' := #[true, true, true, true, true, true, true, true, true, true, true, true, true, true, true, true, true, true, true, true, true, false, false, false, false]) rfl (by decide +kernel) (by decide +kernel) (by decide +kernel) (by decide +kernel) rfl rfl rfl rfl ?_
        refine RA.t2 (i := 21) (li' := #[true, true, true, true, true, true, true, true, true, true, true, true, true, true, true, true, true, true, true, true, true, true, false, false, false]) rfl (by decide +kernel) (by decide +kernel) (by decide +kernel) (by decide +kernel) rfl rfl rfl rfl ?_
        refine RA.t2 (i := 22) (li' := #[true, true, true, true, true, true, true, true, true, true, true, true, true, true, true, true, true, true, true, true, true, true, true, false, false]) rfl (by decide +kernel) (by decide +kernel) (by decide +kernel) (by decide +kernel) rfl rfl rfl rfl ?_
        refine RA.t2 (i := 23) (li' := #[true, true, true, true, true, true, true, true, true, true, true, true, true, true, true, true, true, true, true, true, true, true, true, true, false]) rfl (by decide +kernel) (by decide +kernel) (by decide +kernel) (by decide +kernel) rfl rfl rfl rfl ?_
        refine RA.t0 (i := 24) (li' := #[true, true, true, true, true, true, true, true, true, true, true, true, true, true, true, true, true, true, true, true, true, true, true, true, true]) rfl (by decide +kernel) (by decide +kernel) (by decide +kernel) (by decide +kernel) rfl rfl (v_pickT (v := .bool true) rfl rfl rfl ?_)
        refine RA.done (by decide +kernel) ?_
        exact T.weakR (hK () trivial) (Weak.mkN [] [0] (by decide) (none_kept _) rfl ⟨rn_str rfl, rn_ref rfl, rn_int rfl, rn_str rfl, rn_int rfl, rn_bool ((congrArg (fun p => p) (Option.some.inj hz)).symm), trivial⟩ (rw_arr rfl encS_p rfl (rw_nil)))
      · replace hz := ite_F hz hb_22
        rcases bool_cases (decide ((IntKind.i64.wrap (x6.toNat : Int)) > 60)) with hb_23 | hb_23
        · replace hz := ite_T hz hb_23
          refine T.drawn mixed (k := 25) rfl ?_
          refine RA.t0 (i := 0) (li' := #[true, false, false, false, false, false, false, false, false, false, false, false, false, false, false, false, false, false, false, false, false, false, false, false, false]) rfl (by decide +kernel) (by decide +kernel) (by decide +kernel) (by decide +kernel) rfl rfl (v_move (v := .int .i64 (IntKind.i64.wrap (x6.toNat : Int))) rfl ?_)
          refine RA.t0 (i := 1) (li' := #[true, true, false, false, false, false, false, false, false, false, false, false, false, false, false, false, false, false, false, false, false, false, false, false, false]) rfl (by decide +kernel) (by decide +kernel) (by decide +kernel) (by decide +kernel) rfl rfl (v_lss rfl rfl ?_)
          refine RA.t0 (i := 2) (li' := #[true, true, true, false, false, false, false, false, false, false, false, false, false, false, false, false, false, false, false, false, false, false, false, false, false]) rfl (by decide +kernel) (by decide +kernel) (by decide +kernel) (by decide +kernel) rfl rfl (v_move (v := .bool (decide ((IntKind.i64.wrap (x6.toNat : Int)) < 1))) rfl ?_)
          refine RA.t1 (i := 3) (li' := #[true, true, true, true, false, false, false, false, false, false, false, false, false, false, false, false, false, false, false, false, false, false, false, false, false]) rfl (by decide +kernel) (by decide +kernel) (by decide +kernel) (by decide +kernel) rfl rfl rfl hb_22 rfl (v_move (v := .int .i64 (IntKind.i64.wrap (x6.toNat : Int))) rfl ?_)
          refine RA.t1 (i := 4) (li' := #[true, true, true, true, true, false, false, false, false, false, false, false, false, false, false, false, false, false, false, false, false, false, false, false, false]) rfl (by decide +kernel) (by decide +kernel) (by decide +kernel) (by decide +kernel) rfl rfl rfl hb_22 rfl (v_gtr rfl rfl ?_)
          refine RA.t0 (i := 5) (li' := #[true, true, true, true, true, true, false, false, false, false, false, false, false, false, false, false, false, false, false, false, false, false, false, false, false]) rfl (by decide +kernel) (by decide +kernel) (by decide +kernel) (by decide +kernel) rfl rfl (v_pickF (v := .bool (decide ((IntKind.i64.wrap (x6.toNat : Int)) > 60))) rfl hb_22 rfl ?_)
          refine RA.t0 (i := 6) (li' := #[true, true, true, true, true, true, true, false, false, false, false, false, false, false, false, false, false, false, false, false, false, false, false, false, false]) rfl (by decide +kernel) (by decide +kernel) (by decide +kernel) (by decide +kernel) rfl rfl (v_move (v := .bool (decide ((IntKind.i64.wrap (x6.toNat : Int)) > 60))) rfl ?_)
          refine RA.t2 (i := 7) (li' := #[true, true, true, true, true, true, true, true, false, false, false, false, false, false, false, false, false, false, false, false, false, false, false, false, false]) rfl (by decide +kernel) (by decide +kernel) (by decide +kernel) (by decide +kernel) rfl rfl rfl hb_23 ?_
          refine RA.t2 (i := 8) (li' := #[true, true, true, true, true, true, true, true, true, false, false, false, false, false, false, false, false, false, false, false, false, false, false, false, false]) rfl (by decide +kernel) (by decide +kernel) (by decide +kernel) (by decide +kernel) rfl rfl rfl hb_23 ?_
          refine RA.t2 (i := 9) (li' := #[true, true, true, true, true, true, true, true, true, true, false, false, false, false, false, false, false, false, false, false, false, false, false, false, false]) rfl (by decide +kernel) (by decide +kernel) (by decide +kernel) (by decide +kernel) rfl rfl rfl hb_23 ?_
          refine RA.t2 (i := 10) (li' := #[true, true, true, true, true, true, true, true, true, true, true, false, false, false, false, false, false, false, false, false, false, false, false, false, false]) rfl (by decide +kernel) (by decide +kernel) (by decide +kernel) (by decide +kernel) rfl rfl rfl hb_23 ?_
          refine RA.t2 (i := 11) (li' := #[true, true, true, true, true, true, true, true, true, true, true, true, false, false, false, false, false, false, false, false, false, false, false, false, false]) rfl (by decide +kernel) (by decide +kernel) (by decide +kernel) (by decide +kernel) rfl rfl rfl hb_23 ?_
          refine RA.t0 (i := 12) (li' := #[true, true, true, true, true, true, true, true, true, true, true, true, true, false, false, false, false, false, false, false, false, false, false, false, false]) rfl (by decide +kernel) (by decide +kernel) (by decide +kernel) (by decide +kernel) rfl rfl (v_pickT (v := .bool true) rfl hb_23 rfl ?_)
          refine RA.t0 (i := 13) (li' := #[true, true, true, true, true, true, true, true, true, true, true, true, true, true, false, false, false, false, false, false, false, false, false, false, false]) rfl (by decide +kernel) (by decide +kernel) (by decide +kernel) (by decide +kernel) rfl rfl (v_move (v := .bool true) rfl ?_)
          refine RA.t2 (i := 14) (li' := #[true, true, true, true, true, true, true, true, true, true, true, true, true, true, true, false, false, false, false, false, false, false, false, false, false]) rfl (by decide +kernel) (by decide +kernel) (by decide +kernel) (by decide +kernel) rfl rfl rfl rfl ?_
          refine RA.t2 (i := 15) (li' := #[true, true, true, true, true, true, true, true, true, true, true, true, true, true, true, true, false, false, false, false, false, false, false, false, false]) rfl (by decide +kernel) (by decide +kernel) (by decide +kernel) (by decide +kernel) rfl rfl rfl rfl ?_
          refine RA.t2 (i := 16) (li' := #[true, true, true, true, true, true, true, true, true, true, true, true, true, true, true, true, true, false, false, false, false, false, false, false, false]) rfl (by decide +kernel) (by decide +kernel) (by decide +kernel) (by decide +kernel) rfl rfl rfl rfl ?_
          refine RA.t2 (i := 17) (li' := #[true, true, true, true, true, true, true, true, true, true, true, true, true, true, true, true, true, true, false, false, false, false, false, false, false]) rfl (by decide +kernel) (by decide +kernel) (by decide +kernel) (by decide +kernel) rfl rfl rfl rfl ?_
          refine RA.t2 (i := 18) (li' := #[true, true, true, true, true, true, true, true, true, true, true, true, true, true, true, true, true, true, true, false, false, false, false, false, false]) rfl (by decide +kernel) (by decide +kernel) (by decide +kernel) (by decide +kernel) rfl rfl rfl rfl ?_
          refine RA.t2 (i := 19) (li' := #[true, true, true, true, true, true, true, true, true, true, true, true, true, true, true, true, true, true, true, true, false, false, false, false, false]) rfl (by decide +kernel) (by decide +kernel) (by decide +kernel) (by decide +kernel) rfl rfl rfl rfl ?_
          refine RA.t2 (i := 20) (li' := #[true, true, true, true, true, true, true, true, true, true, true, true, true, true, true, true, true, true, true, true, true, false, false, false, false]) rfl (by decide +kernel) (by decide +kernel) (by decide +kernel) (by decide +kernel) rfl rfl rfl rfl ?_
          refine RA.t2 (i := 21) (li' := #[true, true, true, true, true, true, true, true, true, true, true, true, true, true, true, true, true, true, true, true, true, true, false, false, false]) rfl (by decide +kernel) (by decide +kernel) (by decide +kernel) (by decide +kernel) rfl rfl rfl rfl ?_
          refine RA.t2 (i := 22) (li' := #[true, true, true, true, true, true, true, true, true, true, true, true, true, true, true, true, true, true, true, true, true, true, true, false, false]) rfl (by decide +kernel) (by decide +kernel) (by decide +kernel) (by decide +kernel) rfl rfl rfl rfl ?_
          refine RA.t2 (i := 23) (li' := #[true, true, true, true, true, true, true, true, true, true, true, true, true, true, true, true, true, true, true, true, true, true, true, true, false]) rfl (by decide +kernel) (by decide +kernel) (by decide +kernel) (by decide +kernel) rfl rfl rfl rfl ?_
          refine RA.t0 (i := 24) (li' := #[true, true, true, true, true, true, true, true, true, true, true, true, true, true, true, true, true, true, true, true, true, true, true, true, true]) rfl (by decide +kernel) (by decide +kernel) (by decide +kernel) (by decide +kernel) rfl rfl (v_pickT (v := .bool true) rfl rfl rfl ?_)
          refine RA.done (by decide +kernel) ?_
          exact T.weakR (hK () trivial) (Weak.mkN [] [0] (by decide) (none_kept _) rfl ⟨rn_str rfl, rn_ref rfl, rn_int rfl, rn_str rfl, rn_int rfl, rn_bool ((congrArg (fun p => p) (Option.some.inj hz)).symm), trivial⟩ (rw_arr rfl encS_p rfl (rw_nil)))
        · replace hz := ite_F hz hb_23
          rcases bool_cases (decide ((IntKind.i64.wrap ((IntKind.i64.wrap (x6.toNat : Int)) + 3)) > ((x4).length : Int))) with hb_24 | hb_24
          · replace hz := ite_T hz hb_24
            refine T.drawn mixed (k := 25) rfl ?_
            refine RA.t0 (i := 0) (li' := #[true, false, false, false, false, false, false, false, false, false, false, false, false, false, false, false, false, false, false, false, false, false, false, false, false]) rfl (by decide +kernel) (by decide +kernel) (by decide +kernel) (by decide +kernel) rfl rfl (v_move (v := .int .i64 (IntKind.i64.wrap (x6.toNat : Int))) rfl ?_)
            refine RA.t0 (i := 1) (li' := #[true, true, false, false, false, false, false, false, false, false, false, false, false, false, false, false, false, false, false, false, false, false, false, false, false]) rfl (by decide +kernel) (by decide +kernel) (by decide +kernel) (by decide +kernel) rfl rfl (v_lss rfl rfl ?_)
            refine RA.t0 (i := 2) (li' := #[true, true, true, false, false, false, false, false, false, false, false, false, false, false, false, false, false, false, false, false, false, false, false, false, false]) rfl (by decide +kernel) (by decide +kernel) (by decide +kernel) (by decide +kernel) rfl rfl (v_move (v := .bool (decide ((IntKind.i64.wrap (x6.toNat : Int)) < 1))) rfl ?_)
            refine RA.t1 (i := 3) (li' := #[true, true, true, true, false, false, false, false, false, false, false, false, false, false, false, false, false, false, false, false, false, false, false, false, false]) rfl (by decide +kernel) (by decide +kernel) (by decide +kernel) (by decide +kernel) rfl rfl rfl hb_22 rfl (v_move (v := .int .i64 (IntKind.i64.wrap (x6.toNat : Int))) rfl ?_)
            refine RA.t1 (i := 4) (li' := #[true, true, true, true, true, false, false, false, false, false, false, false, false, false, false, false, false, false, false, false, false, false, false, false, false]) rfl (by decide +kernel) (by decide +kernel) (by decide +kernel) (by decide +kernel) rfl rfl rfl hb_22 rfl (v_gtr rfl rfl ?_)
            refine RA.t0 (i := 5) (li' := #[true, true, true, true, true, true, false, false, false, false, false, false, false, false, false, false, false, false, false, false, false, false, false, false, false]) rfl (by decide +kernel) (by decide +kernel) (by decide +kernel) (by decide +kernel) rfl rfl (v_pickF (v := .bool (decide ((IntKind.i64.wrap (x6.toNat : Int)) > 60))) rfl hb_22 rfl ?_)
            refine RA.t0 (i := 6) (li' := #[true, true, true, true, true, true, true, false, false, false, false, false, false, false, false, false, false, false, false, false, false, false, false, false, false]) rfl (by decide +kernel) (by decide +kernel) (by decide +kernel) (by decide +kernel) rfl rfl (v_move (v := .bool (decide ((IntKind.i64.wrap (x6.toNat : Int)) > 60))) rfl ?_)
            refine RA.t1 (i := 7) (li' := #[true, true, true, true, true, true, true, true, false, false, false, false, false, false, false, false, false, false, false, false, false, false, false, false, false]) rfl (by decide +kernel) (by decide +kernel) (by decide +kernel) (by decide +kernel) rfl rfl rfl hb_23 rfl (v_move (v := .int .i64 (IntKind.i64.wrap (x6.toNat : Int))) rfl ?_)
            refine RA.t1 (i := 8) (li' := #[true, true, true, true, true, true, true, true, true, false, false, false, false, false, false, false, false, false, false, false, false, false, false, false, false]) rfl (by decide +kernel) (by decide +kernel) (by decide +kernel) (by decide +kernel) rfl rfl rfl hb_23 rfl (v_add rfl rfl ?_)
            refine RA.t1 (i := 9) (li' := #[true, true, true, true, true, true, true, true, true, true, false, false, false, false, false, false, false, false, false, false, false, false, false, false, false]) rfl (by decide +kernel) (by decide +kernel) (by decide +kernel) (by decide +kernel) rfl rfl rfl hb_23 rfl (v_move (v := .str x4) rfl ?_)
            refine RA.t1 (i := 10) (li' := #[true, true, true, true, true, true, true, true, true, true, true, false, false, false, false, false, false, false, false, false, false, false, false, false, false]) rfl (by decide +kernel) (by decide +kernel) (by decide +kernel) (by decide +kernel) rfl rfl rfl hb_23 rfl (v_len_str Try.underlying9 rfl ?_)
            refine RA.t1 (i := 11) (li' := #[true, true, true, true, true, true, true, true, true, true, true, true, false, false, false, false, false, false, false, false, false, false, false, false, false]) rfl (by decide +kernel) (by decide +kernel) (by decide +kernel) (by decide +kernel) rfl rfl rfl hb_23 rfl (v_gtr rfl rfl ?_)
            refine RA.t0 (i := 12) (li' := #[true, true, true, true, true, true, true, true, true, true, true, true, true, false, false, false, false, false, false, false, false, false, false, false, false]) rfl (by decide +kernel) (by decide +kernel) (by decide +kernel) (by decide +kernel) rfl rfl (v_pickF (v := .bool (decide ((IntKind.i64.wrap ((IntKind.i64.wrap (x6.toNat : Int)) + 3)) > ((x4).length : Int)))) rfl hb_23 rfl ?_)
            refine RA.t0 (i := 13) (li' := #[true, true, true, true, true, true, true, true, true, true, true, true, true, true, false, false, false, false, false, false, false, false, false, false, false]) rfl (by decide +kernel) (by decide +kernel) (by decide +kernel) (by decide +kernel) rfl rfl (v_move (v := .bool (decide ((IntKind.i64.wrap ((IntKind.i64.wrap (x6.toNat : Int)) + 3)) > ((x4).length : Int)))) rfl ?_)
            refine RA.t2 (i := 14) (li' := #[true, true, true, true, true, true, true, true, true, true, true, true, true, true, true, false, false, false, false, false, false, false, false, false, false]) rfl (by decide +kernel) (by decide +kernel) (by decide +kernel) (by decide +kernel) rfl rfl rfl hb_24 ?_
            refine RA.t2 (i := 15) (li' := #[true, true, true, true, true, true, true, true, true, true, true, true, true, true, true, true, false, false, false, false, false, false, false, false, false]) rfl (by decide +kernel) (by decide +kernel) (by decide +kernel) (by decide +kernel) rfl rfl rfl hb_24 ?_
            refine RA.t2 (i := 16) (li' := #[true, true, true, true, true, true, true, true, true, true, true, true, true, true, true, true, true, false, false, false, false, false, false, false, false]) rfl (by decide +kernel) (by decide +kernel) (by decide +kernel) (by decide +kernel) rfl rfl rfl hb_24 ?_
            refine RA.t2 (i := 17) (li' := #[true, true, true, true, true, true, true, true, true, true, true, true, true, true, true, true, true, true, false, false, false, false, false, false, false]) rfl (by decide +kernel) (by decide +kernel) (by decide +kernel) (by decide +kernel) rfl rfl rfl hb_24 ?_
            refine RA.t2 (i := 18) (li' := #[true, true, true, true, true, true, true, true, true, true, true, true, true, true, true, true, true, true, true, false, false, false, false, false, false]) rfl (by decide +kernel) (by decide +kernel) (by decide +kernel) (by decide +kernel) rfl rfl rfl hb_24 ?_
            refine RA.t2 (i := 19) (li' := #[true, true, true, true, true, true, true, true, true, true, true, true, true, true, true, true, true, true, true, true, false, false, false, false, false]) rfl (by decide +kernel) (by decide +kernel) (by decide +kernel) (by decide +kernel) rfl rfl rfl hb_24 ?_
            refine RA.t2 (i := 20) (li' := #[true, true, true, true, true, true, true, true, true, true, true, true, true, true, true, true, true, true, true, true, true, false, false, false, false]) rfl (by decide +kernel) (by decide +kernel) (by decide +kernel) (by decide +kernel) rfl rfl rfl hb_24 ?_
            refine RA.t2 (i := 21) (li' := #[true, true, true, true, true, true, true, true, true, true, true, true, true, true, true, true, true, true, true, true, true, true, false, false, false]) rfl (by decide +kernel) (by decide +kernel) (by decide +kernel) (by decide +kernel) rfl rfl rfl hb_24 ?_
            refine RA.t2 (i := 22) (li' := #[true, true, true, true, true, true, true, true, true, true, true, true, true, true, true, true, true, true, true, true, true, true, true, false, false]) rfl (by decide +kernel) (by decide +kernel) (by decide +kernel) (by decide +kernel) rfl rfl rfl hb_24 ?_
            refine RA.t2 (i := 23) (li' := #[true, true, true, true, true, true, true, true, true, true, true, true, true, true, true, true, true, true, true, true, true, true, true, true, false]) rfl (by decide +kernel) (by decide +kernel) (by decide +kernel) (by decide +kernel) rfl rfl rfl hb_24 ?_
            refine RA.t0 (i := 24) (li' := #[true, true, true, true, true, true, true, true, true, true, true, true, true, true, true, true, true, true, true, true, true, true, true, true, true]) rfl (by decide +kernel) (by decide +kernel) (by decide +kernel) (by decide +kernel) rfl rfl (v_pickT (v := .bool true) rfl hb_24 rfl ?_)
            refine RA.done (by decide +kernel) ?_
            exact T.weakR (hK () trivial) (Weak.mkN [] [0] (by decide) (none_kept _) rfl ⟨rn_str rfl, rn_ref rfl, rn_int rfl, rn_str rfl, rn_int rfl, rn_bool ((congrArg (fun p => p) (Option.some.inj hz)).symm), trivial⟩ (rw_arr rfl encS_p rfl (rw_nil)))
          · replace hz := ite_F hz hb_24
            obtain ⟨x7, hx7, hz⟩ := bind_some hz
            obtain ⟨x8, hx8, hz⟩ := bind_some hz
            obtain ⟨x9, hx9, hz⟩ := bind_some hz
            refine T.drawn mixed (k := 25) rfl ?_
            refine RA.t0 (i := 0) (li' := #[true, false, false, false, false, false, false, false, false, false, false, false, false, false, false, false, false, false, false, false, false, false, false, false, false]) rfl (by decide +kernel) (by decide +kernel) (by decide +kernel) (by decide +kernel) rfl rfl (v_move (v := .int .i64 (IntKind.i64.wrap (x6.toNat : Int))) rfl ?_)
            refine RA.t0 (i := 1) (li' := #[true, true, false, false, false, false, false, false, false, false, false, false, false, false, false, false, false, false, false, false, false, false, false, false, false]) rfl (by decide +kernel) (by decide +kernel) (by decide +kernel) (by decide +kernel) rfl rfl (v_lss rfl rfl ?_)
            refine RA.t0 (i := 2) (li' := #[true, true, true, false, false, false, false, false, false, false, false, false, false, false, false, false, false, false, false, false, false, false, false, false, false]) rfl (by decide +kernel) (by decide +kernel) (by decide +kernel) (by decide +kernel) rfl rfl (v_move (v := .bool (decide ((IntKind.i64.wrap (x6.toNat : Int)) < 1))) rfl ?_)
            refine RA.t1 (i := 3) (li' := #[true, true, true, true, false, false, false, false, false, false, false, false, false, false, false, false, false, false, false, false, false, false, false, false, false]) rfl (by decide +kernel) (by decide +kernel) (by decide +kernel) (by decide +kernel) rfl rfl rfl hb_22 rfl (v_move (v := .int .i64 (IntKind.i64.wrap (x6.toNat : Int))) rfl ?_)
            refine RA.t1 (i := 4) (li' := #[true, true, true, true, true, false, false, false, false, false, false, false, false, false, false, false, false, false, false, false, false, false, false, false, false]) rfl (by decide +kernel) (by decide +kernel) (by decide +kernel) (by decide +kernel) rfl rfl rfl hb_22 rfl (v_gtr rfl rfl ?_)
            refine RA.t0 (i := 5) (li' := #[true, true, true, true, true, true, false, false, false, false, false, false, false, false, false, false, false, false, false, false, false, false, false, false, false]) rfl (by decide +kernel) (by decide +kernel) (by decide +kernel) (by decide +kernel) rfl rfl (v_pickF (v := .bool (decide ((IntKind.i64.wrap (x6.toNat : Int)) > 60))) rfl hb_22 rfl ?_)
            refine RA.t0 (i := 6) (li' := #[true, true, true, true, true, true, true, false, false, false, false, false, false, false, false, false, false, false, false, false, false, false, false, false, false]) rfl (by decide +kernel) (by decide +kernel) (by decide +kernel) (by decide +kernel) rfl rfl (v_move (v := .bool (decide ((IntKind.i64.wrap (x6.toNat : Int)) > 60))) rfl ?_)
            refine RA.t1 (i := 7) (li' := #[true, true, true, true, true, true, true, true, false, false, false, false, false, false, false, false, false, false, false, false, false, false, false, false, false]) rfl (by decide +kernel) (by decide +kernel) (by decide +kernel) (by decide +kernel) rfl rfl rfl hb_23 rfl (v_move (v := .int .i64 (IntKind.i64.wrap (x6.toNat : Int))) rfl ?_)
            refine RA.t1 (i := 8) (li' := #[true, true, true, true, true, true, true, true, true, false, false, false, false, false, false, false, false, false, false, false, false, false, false, false, false]) rfl (by decide +kernel) (by decide +kernel) (by decide +kernel) (by decide +kernel) rfl rfl rfl hb_23 rfl (v_add rfl rfl ?_)
            refine RA.t1 (i := 9) (li' := #[true, true, true, true, true, true, true, true, true, true, false, false, false, false, false, false, false, false, false, false, false, false, false, false, false]) rfl (by decide +kernel) (by decide +kernel) (by decide +kernel) (by decide +kernel) rfl rfl rfl hb_23 rfl (v_move (v := .str x4) rfl ?_)
            refine RA.t1 (i := 10) (li' := #[true, true, true, true, true, true, true, true, true, true, true, false, false, false, false, false, false, false, false, false, false, false, false, false, false]) rfl (by decide +kernel) (by decide +kernel) (by decide +kernel) (by decide +kernel) rfl rfl rfl hb_23 rfl (v_len_str Try.underlying9 rfl ?_)
            refine RA.t1 (i := 11) (li' := #[true, true, true, true, true, true, true, true, true, true, true, true, false, false, false, false, false, false, false, false, false, false, false, false, false]) rfl (by decide +kernel) (by decide +kernel) (by decide +kernel) (by decide +kernel) rfl rfl rfl hb_23 rfl (v_gtr rfl rfl ?_)
            refine RA.t0 (i := 12) (li' := #[true, true, true, true, true, true, true, true, true, true, true, true, true, false, false, false, false, false, false, false, false, false, false, false, false]) rfl (by decide +kernel) (by decide +kernel) (by decide +kernel) (by decide +kernel) rfl rfl (v_pickF (v := .bool (decide ((IntKind.i64.wrap ((IntKind.i64.wrap (x6.toNat : Int)) + 3)) > ((x4).length : Int)))) rfl hb_23 rfl ?_)
            refine RA.t0 (i := 13) (li' := #[true, true, true, true, true, true, true, true, true, true, true, true, true, true, false, false, false, false, false, false, false, false, false, false, false]) rfl (by decide +kernel) (by decide +kernel) (by decide +kernel) (by decide +kernel) rfl rfl (v_move (v := .bool (decide ((IntKind.i64.wrap ((IntKind.i64.wrap (x6.toNat : Int)) + 3)) > ((x4).length : Int)))) rfl ?_)
            refine RA.t1 (i := 14) (li' := #[true, true, true, true, true, true, true, true, true, true, true, true, true, true, true, false, false, false, false, false, false, false, false, false, false]) rfl (by decide +kernel) (by decide +kernel) (by decide +kernel) (by decide +kernel) rfl rfl rfl hb_24 rfl (v_move (v := .str x4) rfl ?_)
            refine RA.t1 (i := 15) (li' := #[true, true, true, true, true, true, true, true, true, true, true, true, true, true, true, true, false, false, false, false, false, false, false, false, false]) rfl (by decide +kernel) (by decide +kernel) (by decide +kernel) (by decide +kernel) rfl rfl rfl hb_24 rfl (v_move (v := .int .i64 (IntKind.i64.wrap (x6.toNat : Int))) rfl ?_)
            refine RA.t1 (i := 16) (li' := #[true, true, true, true, true, true, true, true, true, true, true, true, true, true, true, true, true, false, false, false, false, false, false, false, false]) rfl (by decide +kernel) (by decide +kernel) (by decide +kernel) (by decide +kernel) rfl rfl rfl hb_24 rfl (v_add rfl rfl ?_)
            refine RA.t1 (i := 17) (li' := #[true, true, true, true, true, true, true, true, true, true, true, true, true, true, true, true, true, true, false, false, false, false, false, false, false]) rfl (by decide +kernel) (by decide +kernel) (by decide +kernel) (by decide +kernel) rfl rfl rfl hb_24 rfl (v_slice_str Try.underlying9 rfl rfl rfl hx7 ?_)
            refine RA.t1 (i := 19) (li' := #[true, true, true, true, true, true, true, true, true, true, true, true, true, true, true, true, true, true, false, true, false, false, false, false, false]) rfl (by decide +kernel) (by decide +kernel) (by decide +kernel) (by decide +kernel) rfl rfl rfl hb_24 rfl (v_move (v := .str x4) rfl ?_)
            refine RA.t1 (i := 20) (li' := #[true, true, true, true, true, true, true, true, true, true, true, true, true, true, true, true, true, true, false, true, true, false, false, false, false]) rfl (by decide +kernel) (by decide +kernel) (by decide +kernel) (by decide +kernel) rfl rfl rfl hb_24 rfl (v_move (v := .int .i64 (IntKind.i64.wrap (x6.toNat : Int))) rfl ?_)
            refine RA.t1 (i := 21) (li' := #[true, true, true, true, true, true, true, true, true, true, true, true, true, true, true, true, true, true, false, true, true, true, false, false, false]) rfl (by decide +kernel) (by decide +kernel) (by decide +kernel) (by decide +kernel) rfl rfl rfl hb_24 rfl (v_add rfl rfl ?_)
            refine RA.t1 (i := 22) (li' := #[true, true, true, true, true, true, true, true, true, true, true, true, true, true, true, true, true, true, false, true, true, true, true, false, false]) rfl (by decide +kernel) (by decide +kernel) (by decide +kernel) (by decide +kernel) rfl rfl rfl hb_24 rfl (v_slice_str Try.underlying9 rfl rfl rfl hx9 ?_)
            refine RA.a1 (i1 := 18) (l1 := #[true, true, true, true, true, true, true, true, true, true, true, true, true, true, true, true, true, true, true, true, true, true, true, false, false]) (by decide +kernel) (by decide +kernel) ?_
            refine RO.yes rfl rfl rfl rfl hb_24 (o_call (as0 := [.str x7]) (as1 := [.str x7]) (caps := []) (aw1 := [.arr 9 1 (List.map encS s2)]) rfl rfl rfl (k_flat (v := .str x8) (crossref_Framed_c x7 x8 hx8) (⟨pure_str _, trivial⟩) rfl ?_))
            refine RA.t1 (i := 23) (li' := #[true, true, true, true, true, true, true, true, true, true, true, true, true, true, true, true, true, true, true, true, true, true, true, true, false]) rfl (by decide +kernel) (by decide +kernel) (by decide +kernel) (by decide +kernel) rfl rfl rfl hb_24 rfl (v_sneq rfl rfl ?_)
            refine RA.t0 (i := 24) (li' := #[true, true, true, true, true, true, true, true, true, true, true, true, true, true, true, true, true, true, true, true, true, true, true, true, true]) rfl (by decide +kernel) (by decide +kernel) (by decide +kernel) (by decide +kernel) rfl rfl (v_pickF (v := .bool (!(x8 == x9))) rfl hb_24 rfl ?_)
            refine RA.done (by decide +kernel) ?_
            exact T.weakR (hK () trivial) (Weak.mkN [] [0] (by decide) (none_kept _) rfl ⟨rn_str rfl, rn_ref rfl, rn_int rfl, rn_str rfl, rn_int rfl, rn_bool ((congrArg (fun p => p) (Option.some.inj hz)).symm), trivial⟩ (rw_arr rfl encS_p rfl (rw_nil)))
theorem crossref_Pairs_c (p0 : List UInt8) (r : (List Choice) × Bool) (h : crossref_Pairs p0 = some r) : FnO Try.prog 59 [.str p0] (.tup [.ref 0, .bool r.2]) [.arr 36 2 (List.map encChoice r.1)] := by
  unfold crossref_Pairs at h
  refine fn_of_T (N := 0) rfl Try.func59 rfl (by kernel_rfl) Try.ntmps59 rfl ?_
  show T _ _ _ _ (mkA 31 [(0, .str p0)]) []
  refine T.seq ?_
  refine T.region ?_
  refine RS.op rfl (OP.q rfl (v_assign (v := .nils) rfl ?_))
  refine RS.op rfl (OP.q rfl (v_assign (v := .bool false) rfl ?_))
  refine RS.nil ?_
  refine T.seq ?_
  refine T.region ?_
  refine RS.op rfl (OP.q rfl (v_assign (v := .nils) rfl ?_))
  refine RS.nil ?_
  refine T.seq ?_
  refine T.block ?_
  refine T.iter (fun ss_11 : (List UInt8) × (List Choice) => mkA 31 [(0, .str ss_11.1), (4, .ref 0)]) (fun ss_11 => [.arr 36 2 (List.map encChoice ss_11.2)]) h (Weak.mkN [(4, 36, 2)] [0] (by decide) (none_kept _) rfl ⟨rn_str rfl, rn_ref rfl, trivial⟩ (rw_arr (en := encChoice) (ys := []) rfl encChoice_p rfl (rw_nil))) (fun ss_11 v_12 h hv_12 => ?_)
  obtain ⟨s1, s2⟩ := ss_11
  replace h : crossref_Pairs_l1 s1 s2 = some v_12 := h
  show T _ _ _ _ (mkA 31 [(0, .str s1), (4, .ref 0)]) [.arr 36 2 (List.map encChoice s2)]
  unfold crossref_Pairs_l1 at h
  refine T.seq ?_
  refine T.seq ?_
  refine T.region ?_
  refine RS.op rfl (OP.q rfl (v_move (v := .str s1) rfl ?_))
  refine RS.op rfl (OP.q rfl (v_len_str Try.underlying9 rfl ?_))
  refine RS.op rfl (OP.q rfl (v_geq rfl rfl ?_))
  refine RS.nil ?_
  refine T.cond (b := decide (((s1).length : Int) ≥ 2)) rfl (fun hb_13 => ?_) (fun hb_13 => ?_)
  · replace h := ite_T h hb_13
    refine T.skip ?_
    refine T.seq ?_
    refine T.block ?_
    refine T.seq ?_
    obtain ⟨x3, hx3, h⟩ := bind_some h
    obtain ⟨zt_15, hz, h⟩ := bind_some h
    revert hz h; revert zt_15; intro c5 hz h
    refine T.join (Z := Unit) (fun _ => mkA 31 [(0, .str s1), (4, .ref 0), (17, .bool c5)]) (fun _ => [.arr 36 2 (List.map encChoice s2)]) (fun _ => True) (fun _ _ => ?_) (fun hK => ?_)
    · show T _ _ _ _ (mkA 31 [(0, .str s1), (4, .ref 0), (17, .bool c5)]) [.arr 36 2 (List.map encChoice s2)]
      refine T.cond (b := c5) rfl (fun hb_16 => ?_) (fun hb_16 => ?_)
      · replace h := ite_T h hb_16
        refine T.seq ?_
        refine T.region ?_
        refine RS.op rfl (OP.q rfl (v_assign (v := .nils) rfl ?_))
        refine RS.op rfl (OP.q rfl (v_assign (v := .bool false) rfl ?_))
        refine RS.nil ?_
        refine T.ret' (R := ?R17) ?hq17 ?_
        case hq17 => repeat (first | exact RetIs.base | refine RetIs.thn ?_ | refine RetIs.blk ?_ | refine RetIs.lq ?_)
        obtain ⟨w_18, h, hw_18⟩ := map_inr h
        replace h := h.trans (congrArg some (hv_12 _ hw_18))
        refine res_tmpA (v := .nils) rfl ?_
        refine res_tmpA (v := .bool false) rfl ?_
        refine res_done ?_
        exact ret_own (.tup [.ref 0, .bool r.2]) [(0, 36, 2)] [1] (by decide) (none_kept _) rfl (rn_tup ⟨rn_ref rfl, rn_bool (congrArg (fun r : (List Choice) × Bool => r.2) (Option.some.inj h)).symm, trivial⟩) (rw_arr (en := encChoice) (ys := []) rfl encChoice_p (congrArg (fun r : (List Choice) × Bool => r.1) (Option.some.inj h)).symm (rw_nil)) ⟨rfl, rfl⟩
      · replace h := ite_F h hb_16
        refine T.skip ?_
        obtain ⟨x6, hx6, h⟩ := bind_some h
        obtain ⟨x7, hx7, h⟩ := bind_some h
        obtain ⟨x8, hx8, h⟩ := bind_some h
        refine T.drawn mixed (k := 11) rfl ?_
        refine RA.t0 (i := 0) (li' := #[true, false, false, false, false, false, false, false, false, false, false]) rfl (by decide +kernel) (by decide +kernel) (by decide +kernel) (by decide +kernel) rfl rfl (v_move (v := .ref 0) rfl ?_)
        refine RA.t0 (i := 1) (li' := #[true, true, false, false, false, false, false, false, false, false, false]) rfl (by decide +kernel) (by decide +kernel) (by decide +kernel) (by decide +kernel) rfl rfl (v_move (v := .str s1) rfl ?_)
        refine RA.t0 (i := 2) (li' := #[true, true, true, false, false, false, false, false, false, false, false]) rfl (by decide +kernel) (by decide +kernel) (by decide +kernel) (by decide +kernel) rfl rfl (v_index_str Try.underlying9 rfl rfl hx6 ?_)
        refine RA.t0 (i := 3) (li' := #[true, true, true, true, false, false, false, false, false, false, false]) rfl (by decide +kernel) (by decide +kernel) (by decide +kernel) (by decide +kernel) rfl rfl (v_conv Try.underlying5 Try.underlying3 rfl ?_)
        refine RA.t0 (i := 4) (li' := #[true, true, true, true, true, false, false, false, false, false, false]) rfl (by decide +kernel) (by decide +kernel) (by decide +kernel) (by decide +kernel) rfl rfl (v_move (v := .str s1) rfl ?_)
        refine RA.t0 (i := 5) (li' := #[true, true, true, true, true, true, false, false, false, false, false]) rfl (by decide +kernel) (by decide +kernel) (by decide +kernel) (by decide +kernel) rfl rfl (v_index_str Try.underlying9 rfl rfl hx7 ?_)
        refine RA.t0 (i := 6) (li' := #[true, true, true, true, true, true, true, false, false, false, false]) rfl (by decide +kernel) (by decide +kernel) (by decide +kernel) (by decide +kernel) rfl rfl (v_conv Try.underlying5 Try.underlying3 rfl ?_)
        refine RA.t0 (i := 7) (li' := #[true, true, true, true, true, true, true, true, false, false, false]) rfl (by decide +kernel) (by decide +kernel) (by decide +kernel) (by decide +kernel) rfl rfl (v_build (cs := [.int .i64 (IntKind.i64.wrap (x6.toNat : Int)), .int .i64 (IntKind.i64.wrap (x7.toNat : Int))]) Ty.z36 Ty.p36 rfl ?_)
        refine RA.a1 (i1 := 8) (l1 := #[true, true, true, true, true, true, true, true, true, false, false]) (by decide +kernel) (by decide +kernel) ?_
        refine RO.op rfl rfl (o_buildSlice (rows := List.map encChoice [(⟨IntKind.i64.wrap (x6.toNat : Int), IntKind.i64.wrap (x7.toNat : Int)⟩ : Choice)]) (vs := [.agg [.int .i64 (IntKind.i64.wrap (x6.toNat : Int)), .int .i64 (IntKind.i64.wrap (x7.toNat : Int))]]) Ty.s26 Ty.z36 rfl rfl rfl rfl rfl (aw' := [.arr 36 2 (List.map encChoice s2), .arr 36 2 (List.map encChoice [(⟨IntKind.i64.wrap (x6.toNat : Int), IntKind.i64.wrap (x7.toNat : Int)⟩ : Choice)])]) rfl ?_)
        refine RA.a1 (i1 := 9) (l1 := #[true, true, true, true, true, true, true, true, true, true, false]) (by decide +kernel) (by decide +kernel) ?_
        refine RO.op rfl rfl (o_app_ref (en := encChoice) (xs := s2) (ys := ([(⟨IntKind.i64.wrap (x6.toNat : Int), IntKind.i64.wrap (x7.toNat : Int)⟩ : Choice)] : List Choice)) Ty.s26 (fun _ => rfl) rfl rfl rfl hx8 rfl (aw' := [.dead, .dead, .arr 36 2 (List.map encChoice x8)]) rfl ?_)
        refine RA.t0 (i := 10) (li' := #[true, true, true, true, true, true, true, true, true, true, true]) rfl (by decide +kernel) (by decide +kernel) (by decide +kernel) (by decide +kernel) rfl rfl (v_assign (v := .ref 2) rfl ?_)
        refine RA.done (by decide +kernel) ?_
        obtain ⟨x9, hx9, h⟩ := bind_some h
        refine T.region ?_
        refine RS.op rfl (OP.q rfl (v_move (v := .str s1) rfl ?_))
        refine RS.op rfl (o_slice_str Try.underlying9 rfl rfl rfl hx9 ?_)
        refine RS.op rfl (OP.q rfl (v_assign (v := .str x9) rfl ?_))
        refine RS.nil ?_
        exact ⟨(x9, x8), (Option.some.inj h).symm, Weak.mkN [] [2] (by decide) (none_kept _) rfl ⟨rn_str rfl, rn_ref rfl, trivial⟩ (rw_arr rfl encChoice_p rfl (rw_nil))⟩
    · rcases bool_cases (decide ((x3.toNat : Int) ≥ 12)) with hb_14 | hb_14
      · replace hz := ite_T hz hb_14
        refine T.region ?_
        refine RS.op rfl (OP.q rfl (v_move (v := .str s1) rfl ?_))
        refine RS.op rfl (OP.q rfl (v_index_str Try.underlying9 rfl rfl hx3 ?_))
        refine RS.op rfl (OP.q rfl (v_geq rfl rfl ?_))
        refine RS.op rfl (OP.q rfl (v_move (v := .bool (decide ((x3.toNat : Int) ≥ 12))) rfl ?_))
        refine RS.no rfl rfl rfl hb_14 ?_
        refine RS.no rfl rfl rfl hb_14 ?_
        refine RS.no rfl rfl rfl hb_14 ?_
        refine RS.op rfl (OP.q rfl (v_pickT (v := .bool true) rfl hb_14 rfl ?_))
        refine RS.nil ?_
        exact T.weakR (hK () trivial) (Weak.mkN [] [0] (by decide) (none_kept _) rfl ⟨rn_str rfl, rn_ref rfl, rn_bool ((congrArg (fun p => p) (Option.some.inj hz)).symm), trivial⟩ (rw_arr rfl encChoice_p rfl (rw_nil)))
      · replace hz := ite_F hz hb_14
        obtain ⟨x4, hx4, hz⟩ := bind_some hz
        refine T.region ?_
        refine RS.op rfl (OP.q rfl (v_move (v := .str s1) rfl ?_))
        refine RS.op rfl (OP.q rfl (v_index_str Try.underlying9 rfl rfl hx3 ?_))
        refine RS.op rfl (OP.q rfl (v_geq rfl rfl ?_))
        refine RS.op rfl (OP.q rfl (v_move (v := .bool (decide ((x3.toNat : Int) ≥ 12))) rfl ?_))
        refine RS.yes rfl rfl rfl hb_14 (OP.q rfl (v_move (v := .str s1) rfl ?_))
        refine RS.yes rfl rfl rfl hb_14 (OP.q rfl (v_index_str Try.underlying9 rfl rfl hx4 ?_))
        refine RS.yes rfl rfl rfl hb_14 (OP.q rfl (v_geq rfl rfl ?_))
        refine RS.op rfl (OP.q rfl (v_pickF (v := .bool (decide ((x4.toNat : Int) ≥ 16))) rfl hb_14 rfl ?_))
        refine RS.nil ?_
        exact T.weakR (hK () trivial) (Weak.mkN [] [0] (by decide) (none_kept _) rfl ⟨rn_str rfl, rn_ref rfl, rn_bool ((congrArg (fun p => p) (Option.some.inj hz)).symm), trivial⟩ (rw_arr rfl encChoice_p rfl (rw_nil)))
  · replace h := ite_F h hb_13
    refine T.exit ?_
    obtain ⟨w_19, h, hw_19⟩ := map_inr h
    replace h := h.trans (congrArg some (hv_12 _ hw_19))
    refine T.seq ?_
    refine T.region ?_
    refine RS.op rfl (OP.q rfl (v_move (v := .ref 0) rfl ?_))
    refine RS.op rfl (OP.q rfl (v_move (v := .str s1) rfl ?_))
    refine RS.op rfl (OP.q rfl (v_seql rfl rfl ?_))
    refine RS.op rfl (OP.q rfl (v_assign (v := .ref 0) rfl ?_))
    refine RS.op rfl (OP.q rfl (v_assign (v := .bool (s1 == [])) rfl ?_))
    refine RS.nil ?_
    refine T.ret' (R := ?R20) ?hq20 ?_
    case hq20 => repeat (first | exact RetIs.base | refine RetIs.thn ?_ | refine RetIs.blk ?_ | refine RetIs.lq ?_)
    refine res_tmpA (v := .ref 0) rfl ?_
    refine res_tmpA (v := .bool (s1 == [])) rfl ?_
    refine res_done ?_
    exact ret_own (.tup [.ref 0, .bool r.2]) [] [0] (by decide) (none_kept _) rfl (rn_tup ⟨rn_ref rfl, rn_bool (congrArg (fun r : (List Choice) × Bool => r.2) (Option.some.inj h)).symm, trivial⟩) (rw_arr rfl encChoice_p (congrArg (fun r : (List Choice) × Bool => r.1) (Option.some.inj h)).symm (rw_nil)) ⟨rfl, rfl⟩
theorem crossref_LogOf_c (p0 : Disk) (p1 : Int) (r : (List Choice) × Int) (h : crossref_LogOf p0 p1 = some r) : FnO Try.prog 18 [.agg [.sl (List.map encS p0.Sectors), .sl (List.map encWrite p0.Wait)], .int .i64 p1] (.tup [.ref 0, .int .i64 r.2]) [.arr 36 2 (List.map encChoice r.1)] := by
  unfold crossref_LogOf at h
  refine fn_of_T (N := 0) rfl Try.func18 rfl (by kernel_rfl) Try.ntmps18 rfl ?_
  show T _ _ _ _ (mkA 71 [(0, .agg [.sl (List.map encS p0.Sectors), .sl (List.map encWrite p0.Wait)]), (1, .int .i64 p1)]) []
  refine T.seq ?_
  refine T.region ?_
  refine RS.op rfl (o_box (cs := [.sl (List.map encS p0.Sectors), .sl (List.map encWrite p0.Wait)]) rfl rfl (aw' := [.box [.sl (List.map encS p0.Sectors), .sl (List.map encWrite p0.Wait)]]) rfl ?_)
  refine RS.op rfl (OP.q rfl (v_assign (v := .nils) rfl ?_))
  refine RS.op rfl (OP.q rfl (v_assign (v := .int .i64 0) rfl ?_))
  refine RS.nil ?_
  refine T.seq ?_
  refine T.seq ?_
  refine T.region ?_
  refine RS.op rfl (OP.q rfl (v_assign (v := .int .i64 120) rfl ?_))
  refine RS.nil ?_
  refine T.block ?_
  refine T.iter (fun ss_15 : Int × Int × (List Choice) => mkA 71 [(1, .int .i64 p1), (2, .ptr 0 0), (4, .ref 1), (5, .int .i64 ss_15.1), (6, .int .i64 ss_15.2.1)]) (fun ss_15 => [.box [.sl (List.map encS p0.Sectors), .sl (List.map encWrite p0.Wait)], .arr 36 2 (List.map encChoice ss_15.2.2)]) h (Weak.mkN [(4, 36, 2)] [0, 1] (by decide) (none_kept _) rfl ⟨rn_int rfl, rn_ptr rfl, rn_ref rfl, rn_int rfl, rn_int rfl, trivial⟩ (rw_box (cs := [.sl (List.map encS p0.Sectors), .sl (List.map encWrite p0.Wait)]) (ds := [.sl (List.map encS p0.Sectors), .sl (List.map encWrite p0.Wait)]) rfl ⟨rn_sl encS_p rfl, rn_sl encWrite_p rfl, trivial⟩ (rw_arr (en := encChoice) (ys := []) rfl encChoice_p rfl (rw_nil)))) (fun ss_15 v_16 h hv_16 => ?_)
  obtain ⟨s1, s2, s3⟩ := ss_15
  replace h : crossref_LogOf_l1 p0 p1 s1 s2 s3 = some v_16 := h
  show T _ _ _ _ (mkA 71 [(1, .int .i64 p1), (2, .ptr 0 0), (4, .ref 1), (5, .int .i64 s1), (6, .int .i64 s2)]) [.box [.sl (List.map encS p0.Sectors), .sl (List.map encWrite p0.Wait)], .arr 36 2 (List.map encChoice s3)]
  unfold crossref_LogOf_l1 at h
  refine T.seq ?_
  refine T.seq ?_
  refine T.region ?_
  refine RS.op rfl (OP.q rfl (v_move (v := .int .i64 s2) rfl ?_))
  refine RS.op rfl (OP.q rfl (v_fieldAddr_ptr Ty.f25_0 rfl (off' := 0) rfl ?_))
  refine RS.op rfl (o_load_ptr rfl rfl (loadRow1 Ty.k22 (c := .sl (List.map encS p0.Sectors)) rfl ?_))
  refine RS.op rfl (OP.q rfl (v_len_sl Ty.s22 rfl ?_))
  refine RS.op rfl (OP.q rfl (v_lss rfl rfl ?_))
  refine RS.nil ?_
  refine T.cond (b := decide (s2 < ((p0.Sectors).length : Int))) rfl (fun hb_17 => ?_) (fun hb_17 => ?_)
  · replace h := ite_T h hb_17
    refine T.skip ?_
    refine T.seq ?_
    refine T.block ?_
    refine T.seq ?_
    obtain ⟨x6, hx6, h⟩ := bind_some h
    obtain ⟨x7, hx7, h⟩ := bind_some h
    refine T.region ?_
    refine RS.op rfl (OP.q rfl (v_fieldAddr_ptr Ty.f25_0 rfl (off' := 0) rfl ?_))
    refine RS.op rfl (o_load_ptr rfl rfl (loadRow1 Ty.k22 (c := .sl (List.map encS p0.Sectors)) rfl ?_))
    refine RS.op rfl (OP.q rfl (v_move (v := .int .i64 s2) rfl ?_))
    refine RS.op rfl (OP.q rfl (v_index_sl Ty.s22 (fun _ => rfl) rfl rfl hx6 ?_))
    refine RS.op rfl (o_load_elt rfl (loadRow1 Ty.k9 (c := .str x6) rfl ?_))
    refine RS.op rfl (o_call (as0 := [.str x6]) (as1 := [.str x6]) (caps := []) (aw1 := [.box [.sl (List.map encS p0.Sectors), .sl (List.map encWrite p0.Wait)], .arr 36 2 (List.map encChoice s3)]) rfl rfl rfl (k_own' (v := .tup [.ref 0, .int .i64 x7.2]) (obs := [.arr 9 1 (List.map encS x7.1)]) (v' := .tup [.ref 2, .int .i64 x7.2]) (aw' := [.box [.sl (List.map encS p0.Sectors), .sl (List.map encWrite p0.Wait)], .arr 36 2 (List.map encChoice s3), .arr 9 1 (List.map encS x7.1)]) (crossref_Unframe_c x6 x7 hx7) (⟨pure_str _, trivial⟩) rfl (obs_cons (flatOb_map fun _ => rfl) obs_nil) rfl rfl ?_))
    refine RS.op rfl (OP.q rfl (v_move (v := .tup [.ref 2, .int .i64 x7.2]) rfl ?_))
    refine RS.op rfl (OP.q rfl (v_extract (v := .ref 2) rfl rfl ?_))
    refine RS.op rfl (OP.q rfl (v_extract (v := .int .i64 x7.2) rfl rfl ?_))
    refine RS.op rfl (OP.q rfl (v_assign (v := .ref 2) rfl ?_))
    refine RS.op rfl (OP.q rfl (v_assign (v := .int .i64 x7.2) rfl ?_))
    refine RS.nil ?_
    refine T.seq ?_
    obtain ⟨zt_20, hz, h⟩ := bind_some h
    revert hz h; revert zt_20; intro c12 hz h
    refine T.join (Z := Unit) (fun _ => mkA 71 [(1, .int .i64 p1), (2, .ptr 0 0), (4, .ref 1), (5, .int .i64 s1), (6, .int .i64 s2), (7, .ref 2), (48, .bool c12)]) (fun _ => [.box [.sl (List.map encS p0.Sectors), .sl (List.map encWrite p0.Wait)], .arr 36 2 (List.map encChoice s3), .arr 9 1 (List.map encS x7.1)]) (fun _ => True) (fun _ _ => ?_) (fun hK => ?_)
    · show T _ _ _ _ (mkA 71 [(1, .int .i64 p1), (2, .ptr 0 0), (4, .ref 1), (5, .int .i64 s1), (6, .int .i64 s2), (7, .ref 2), (48, .bool c12)]) [.box [.sl (List.map encS p0.Sectors), .sl (List.map encWrite p0.Wait)], .arr 36 2 (List.map encChoice s3), .arr 9 1 (List.map encS x7.1)]
      refine T.cond (b := c12) rfl (fun hb_21 => ?_) (fun hb_21 => ?_)
      · replace h := ite_T h hb_21
        refine T.exit ?_
        obtain ⟨w_22, h, hw_22⟩ := map_inr h
        replace h := h.trans (congrArg some (hv_16 _ hw_22))
        refine T.seq ?_
        refine T.region ?_
        refine RS.op rfl (OP.q rfl (v_move (v := .ref 1) rfl ?_))
        refine RS.op rfl (OP.q rfl (v_move (v := .int .i64 s1) rfl ?_))
        refine RS.op rfl (OP.q rfl (v_assign (v := .ref 1) rfl ?_))
        refine RS.op rfl (OP.q rfl (v_assign (v := .int .i64 s1) rfl ?_))
        refine RS.nil ?_
        refine T.ret' (R := ?R23) ?hq23 ?_
        case hq23 => repeat (first | exact RetIs.base | refine RetIs.thn ?_ | refine RetIs.blk ?_ | refine RetIs.lq ?_)
        refine res_tmpA (v := .ref 1) rfl ?_
        refine res_tmpA (v := .int .i64 s1) rfl ?_
        refine res_done ?_
        exact ret_own (.tup [.ref 0, .int .i64 r.2]) [] [1] (by decide) (none_kept _) rfl (rn_tup ⟨rn_ref rfl, rn_int (congrArg (fun r : (List Choice) × Int => r.2) (Option.some.inj h)).symm, trivial⟩) (rw_arr rfl encChoice_p (congrArg (fun r : (List Choice) × Int => r.1) (Option.some.inj h)).symm (rw_nil)) ⟨rfl, rfl⟩
      · replace h := ite_F h hb_21
        refine T.skip ?_
        refine T.seq ?_
        obtain ⟨x17, hx17, h⟩ := bind_some h
        obtain ⟨x18, hx18, h⟩ := bind_some h
        obtain ⟨x19, hx19, h⟩ := bind_some h
        obtain ⟨x20, hx20, h⟩ := bind_some h
        refine T.region ?_
        refine RS.op rfl (OP.q rfl (v_move (v := .ref 2) rfl ?_))
        refine RS.op rfl (OP.q rfl (v_index_ref' (en := encS) Ty.s22 rfl rfl rfl hx17 ?_))
        refine RS.op rfl (o_load_aptr' (en := encS) (a := x18) rfl rfl hx18 (loadRow1 Ty.k9 (c := .str x18) rfl ?_))
        refine RS.op rfl (o_slice_str Try.underlying9 rfl rfl rfl hx19 ?_)
        refine RS.op rfl (o_call (as0 := [.str x19]) (as1 := [.str x19]) (caps := []) (aw1 := [.box [.sl (List.map encS p0.Sectors), .sl (List.map encWrite p0.Wait)], .arr 36 2 (List.map encChoice s3), .arr 9 1 (List.map encS x7.1)]) rfl rfl rfl (k_own' (v := .tup [.ref 0, .bool x20.2]) (obs := [.arr 36 2 (List.map encChoice x20.1)]) (v' := .tup [.ref 3, .bool x20.2]) (aw' := [.box [.sl (List.map encS p0.Sectors), .sl (List.map encWrite p0.Wait)], .arr 36 2 (List.map encChoice s3), .arr 9 1 (List.map encS x7.1), .arr 36 2 (List.map encChoice x20.1)]) (crossref_Pairs_c x19 x20 hx20) (⟨pure_str _, trivial⟩) rfl (obs_cons (flatOb_map fun _ => rfl) obs_nil) rfl rfl ?_))
        refine RS.op rfl (OP.q rfl (v_move (v := .tup [.ref 3, .bool x20.2]) rfl ?_))
        refine RS.op rfl (OP.q rfl (v_extract (v := .ref 3) rfl rfl ?_))
        refine RS.op rfl (OP.q rfl (v_extract (v := .bool x20.2) rfl rfl ?_))
        refine RS.op rfl (OP.q rfl (v_assign (v := .ref 3) rfl ?_))
        refine RS.op rfl (OP.q rfl (v_assign (v := .bool x20.2) rfl ?_))
        refine RS.nil ?_
        refine T.seq ?_
        refine T.join (Z := Unit) (fun _ => mkA 71 [(1, .int .i64 p1), (2, .ptr 0 0), (4, .ref 1), (5, .int .i64 s1), (6, .int .i64 s2), (9, .ref 2), (63, .bool ((!x20.2) || ((x20.1).length : Int) == 0))]) (fun _ => [.box [.sl (List.map encS p0.Sectors), .sl (List.map encWrite p0.Wait)], .arr 36 2 (List.map encChoice s3), .arr 36 2 (List.map encChoice x20.1)]) (fun _ => True) (fun _ _ => ?_) (fun hK => ?_)
        · show T _ _ _ _ (mkA 71 [(1, .int .i64 p1), (2, .ptr 0 0), (4, .ref 1), (5, .int .i64 s1), (6, .int .i64 s2), (9, .ref 2), (63, .bool ((!x20.2) || ((x20.1).length : Int) == 0))]) [.box [.sl (List.map encS p0.Sectors), .sl (List.map encWrite p0.Wait)], .arr 36 2 (List.map encChoice s3), .arr 36 2 (List.map encChoice x20.1)]
          refine T.cond (b := ((!x20.2) || ((x20.1).length : Int) == 0)) rfl (fun hb_25 => ?_) (fun hb_25 => ?_)
          · replace h := ite_T h hb_25
            refine T.exit ?_
            obtain ⟨w_26, h, hw_26⟩ := map_inr h
            replace h := h.trans (congrArg some (hv_16 _ hw_26))
            refine T.seq ?_
            refine T.region ?_
            refine RS.op rfl (OP.q rfl (v_move (v := .ref 1) rfl ?_))
            refine RS.op rfl (OP.q rfl (v_move (v := .int .i64 s1) rfl ?_))
            refine RS.op rfl (OP.q rfl (v_assign (v := .ref 1) rfl ?_))
            refine RS.op rfl (OP.q rfl (v_assign (v := .int .i64 s1) rfl ?_))
            refine RS.nil ?_
            refine T.ret' (R := ?R27) ?hq27 ?_
            case hq27 => repeat (first | exact RetIs.base | refine RetIs.thn ?_ | refine RetIs.blk ?_ | refine RetIs.lq ?_)
            refine res_tmpA (v := .ref 1) rfl ?_
            refine res_tmpA (v := .int .i64 s1) rfl ?_
            refine res_done ?_
            exact ret_own (.tup [.ref 0, .int .i64 r.2]) [] [1] (by decide) (none_kept _) rfl (rn_tup ⟨rn_ref rfl, rn_int (congrArg (fun r : (List Choice) × Int => r.2) (Option.some.inj h)).symm, trivial⟩) (rw_arr rfl encChoice_p (congrArg (fun r : (List Choice) × Int => r.1) (Option.some.inj h)).symm (rw_nil)) ⟨rfl, rfl⟩
          · replace h := ite_F h hb_25
            refine T.skip ?_
            refine T.seq ?_
            obtain ⟨x23, hx23, h⟩ := bind_some h
            refine T.region ?_
            refine RS.op rfl (OP.q rfl (v_move (v := .ref 1) rfl ?_))
            refine RS.op rfl (OP.q rfl (v_move (v := .ref 2) rfl ?_))
            refine RS.op rfl (o_app_ref (en := encChoice) (xs := s3) (ys := x20.1) Ty.s26 (fun _ => rfl) rfl rfl rfl hx23 rfl (aw' := [.box [.sl (List.map encS p0.Sectors), .sl (List.map encWrite p0.Wait)], .dead, .dead, .arr 36 2 (List.map encChoice x23)]) rfl ?_)
            refine RS.op rfl (OP.q rfl (v_assign (v := .ref 3) rfl ?_))
            refine RS.nil ?_
            refine T.region ?_
            refine RS.op rfl (OP.q rfl (v_move (v := .int .i64 s1) rfl ?_))
            refine RS.op rfl (OP.q rfl (v_add rfl rfl ?_))
            refine RS.op rfl (OP.q rfl (v_assign (v := .int .i64 (IntKind.i64.wrap (s1 + 1))) rfl ?_))
            refine RS.nil ?_
            refine T.region ?_
            refine RS.op rfl (OP.q rfl (v_move (v := .int .i64 s2) rfl ?_))
            refine RS.op rfl (OP.q rfl (v_add rfl rfl ?_))
            refine RS.op rfl (OP.q rfl (v_assign (v := .int .i64 (IntKind.i64.wrap (s2 + 1))) rfl ?_))
            refine RS.nil ?_
            exact ⟨(IntKind.i64.wrap (s1 + 1), IntKind.i64.wrap (s2 + 1), x23), (Option.some.inj h).symm, Weak.mkN [] [0, 3] (by decide) (none_kept _) rfl ⟨rn_int rfl, rn_ptr rfl, rn_ref rfl, rn_int rfl, rn_int rfl, trivial⟩ (rw_box (cs := [.sl (List.map encS p0.Sectors), .sl (List.map encWrite p0.Wait)]) (ds := [.sl (List.map encS p0.Sectors), .sl (List.map encWrite p0.Wait)]) rfl ⟨rn_sl encS_p rfl, rn_sl encWrite_p rfl, trivial⟩ (rw_arr rfl encChoice_p rfl (rw_nil)))⟩
        · rcases bool_cases (!x20.2) with hb_24 | hb_24
          · refine T.region ?_
            refine RS.op rfl (OP.q rfl (v_move (v := .bool x20.2) rfl ?_))
            refine RS.op rfl (OP.q rfl (v_not rfl ?_))
            refine RS.op rfl (OP.q rfl (v_move (v := .bool (!x20.2)) rfl ?_))
            refine RS.no rfl rfl rfl hb_24 ?_
            refine RS.no rfl rfl rfl hb_24 ?_
            refine RS.no rfl rfl rfl hb_24 ?_
            refine RS.op rfl (OP.q rfl (v_pickT (v := .bool true) rfl hb_24 rfl ?_))
            refine RS.nil ?_
            exact T.weakR (hK () trivial) (Weak.mkN [] [0, 1, 3] (by decide) (none_kept _) rfl ⟨rn_int rfl, rn_ptr rfl, rn_ref rfl, rn_int rfl, rn_int rfl, rn_ref rfl, rn_bool (by simp only [hb_24, Bool.true_or, Bool.or_true, Bool.false_or, Bool.or_false, Bool.true_and, Bool.and_true, Bool.false_and, Bool.and_false, Bool.not_true, Bool.not_false, if_true, if_false, Bool.false_eq_true, reduceIte]), trivial⟩ (rw_box (cs := [.sl (List.map encS p0.Sectors), .sl (List.map encWrite p0.Wait)]) (ds := [.sl (List.map encS p0.Sectors), .sl (List.map encWrite p0.Wait)]) rfl ⟨rn_sl encS_p rfl, rn_sl encWrite_p rfl, trivial⟩ (rw_arr rfl encChoice_p rfl (rw_arr rfl encChoice_p rfl (rw_nil)))))
          · refine T.region ?_
            refine RS.op rfl (OP.q rfl (v_move (v := .bool x20.2) rfl ?_))
            refine RS.op rfl (OP.q rfl (v_not rfl ?_))
            refine RS.op rfl (OP.q rfl (v_move (v := .bool (!x20.2)) rfl ?_))
            refine RS.yes rfl rfl rfl hb_24 (OP.q rfl (v_move (v := .ref 3) rfl ?_))
            refine RS.yes rfl rfl rfl hb_24 (OP.q rfl (v_len_ref (en := encChoice) Ty.s26 rfl rfl ?_))
            refine RS.yes rfl rfl rfl hb_24 (OP.q rfl (v_eql rfl rfl ?_))
            refine RS.op rfl (OP.q rfl (v_pickF (v := .bool (((x20.1).length : Int) == 0)) rfl hb_24 rfl ?_))
            refine RS.nil ?_
            exact T.weakR (hK () trivial) (Weak.mkN [] [0, 1, 3] (by decide) (none_kept _) rfl ⟨rn_int rfl, rn_ptr rfl, rn_ref rfl, rn_int rfl, rn_int rfl, rn_ref rfl, rn_bool (by simp only [hb_24, Bool.true_or, Bool.or_true, Bool.false_or, Bool.or_false, Bool.true_and, Bool.and_true, Bool.false_and, Bool.and_false, Bool.not_true, Bool.not_false, if_true, if_false, Bool.false_eq_true, reduceIte]), trivial⟩ (rw_box (cs := [.sl (List.map encS p0.Sectors), .sl (List.map encWrite p0.Wait)]) (ds := [.sl (List.map encS p0.Sectors), .sl (List.map encWrite p0.Wait)]) rfl ⟨rn_sl encS_p rfl, rn_sl encWrite_p rfl, trivial⟩ (rw_arr rfl encChoice_p rfl (rw_arr rfl encChoice_p rfl (rw_nil)))))
    · rcases bool_cases (((x7.1).length : Int) != 1) with hb_18 | hb_18
      · replace hz := ite_T hz hb_18
        refine T.region ?_
        refine RS.op rfl (OP.q rfl (v_move (v := .ref 2) rfl ?_))
        refine RS.op rfl (OP.q rfl (v_len_ref (en := encS) Ty.s22 rfl rfl ?_))
        refine RS.op rfl (OP.q rfl (v_neq rfl rfl ?_))
        refine RS.op rfl (OP.q rfl (v_move (v := .bool (((x7.1).length : Int) != 1)) rfl ?_))
        refine RS.no rfl rfl rfl hb_18 ?_
        refine RS.no rfl rfl rfl hb_18 ?_
        refine RS.no rfl rfl rfl hb_18 ?_
        refine RS.no rfl rfl rfl hb_18 ?_
        refine RS.no rfl rfl rfl hb_18 ?_
        refine RS.no rfl rfl rfl hb_18 ?_
        refine RS.no rfl rfl rfl hb_18 ?_
        refine RS.no rfl rfl rfl hb_18 ?_
        refine RS.op rfl (OP.q rfl (v_pickT (v := .bool true) rfl hb_18 rfl ?_))
        refine RS.op rfl (OP.q rfl (v_move (v := .bool true) rfl ?_))
        refine RS.no rfl rfl rfl rfl ?_
        refine RS.no rfl rfl rfl rfl ?_
        refine RS.no rfl rfl rfl rfl ?_
        refine RS.no rfl rfl rfl rfl ?_
        refine RS.no rfl rfl rfl rfl ?_
        refine RS.no rfl rfl rfl rfl ?_
        refine RS.no rfl rfl rfl rfl ?_
        refine RS.op rfl (OP.q rfl (v_pickT (v := .bool true) rfl rfl rfl ?_))
        refine RS.nil ?_
        exact T.weakR (hK () trivial) (Weak.mkN [] [0, 1, 2] (by decide) (none_kept _) rfl ⟨rn_int rfl, rn_ptr rfl, rn_ref rfl, rn_int rfl, rn_int rfl, rn_ref rfl, rn_bool ((congrArg (fun p => p) (Option.some.inj hz)).symm), trivial⟩ (rw_box (cs := [.sl (List.map encS p0.Sectors), .sl (List.map encWrite p0.Wait)]) (ds := [.sl (List.map encS p0.Sectors), .sl (List.map encWrite p0.Wait)]) rfl ⟨rn_sl encS_p rfl, rn_sl encWrite_p rfl, trivial⟩ (rw_arr rfl encChoice_p rfl (rw_arr rfl encS_p rfl (rw_nil)))))
      · replace hz := ite_F hz hb_18
        obtain ⟨x8, hx8, hz⟩ := bind_some hz
        rcases bool_cases (x7.2 != ((x8).length : Int)) with hb_19 | hb_19
        · replace hz := ite_T hz hb_19
          refine T.region ?_
          refine RS.op rfl (OP.q rfl (v_move (v := .ref 2) rfl ?_))
          refine RS.op rfl (OP.q rfl (v_len_ref (en := encS) Ty.s22 rfl rfl ?_))
          refine RS.op rfl (OP.q rfl (v_neq rfl rfl ?_))
          refine RS.op rfl (OP.q rfl (v_move (v := .bool (((x7.1).length : Int) != 1)) rfl ?_))
          refine RS.yes rfl rfl rfl hb_18 (OP.q rfl (v_move (v := .int .i64 x7.2) rfl ?_))
          refine RS.yes rfl rfl rfl hb_18 (OP.q rfl (v_fieldAddr_ptr Ty.f25_0 rfl (off' := 0) rfl ?_))
          refine RS.yes rfl rfl rfl hb_18 (o_load_ptr rfl rfl (loadRow1 Ty.k22 (c := .sl (List.map encS p0.Sectors)) rfl ?_))
          refine RS.yes rfl rfl rfl hb_18 (OP.q rfl (v_move (v := .int .i64 s2) rfl ?_))
          refine RS.yes rfl rfl rfl hb_18 (OP.q rfl (v_index_sl Ty.s22 (fun _ => rfl) rfl rfl hx8 ?_))
          refine RS.yes rfl rfl rfl hb_18 (o_load_elt rfl (loadRow1 Ty.k9 (c := .str x8) rfl ?_))
          refine RS.yes rfl rfl rfl hb_18 (OP.q rfl (v_len_str Try.underlying9 rfl ?_))
          refine RS.yes rfl rfl rfl hb_18 (OP.q rfl (v_neq rfl rfl ?_))
          refine RS.op rfl (OP.q rfl (v_pickF (v := .bool (x7.2 != ((x8).length : Int))) rfl hb_18 rfl ?_))
          refine RS.op rfl (OP.q rfl (v_move (v := .bool (x7.2 != ((x8).length : Int))) rfl ?_))
          refine RS.no rfl rfl rfl hb_19 ?_
          refine RS.no rfl rfl rfl hb_19 ?_
          refine RS.no rfl rfl rfl hb_19 ?_
          refine RS.no rfl rfl rfl hb_19 ?_
          refine RS.no rfl rfl rfl hb_19 ?_
          refine RS.no rfl rfl rfl hb_19 ?_
          refine RS.no rfl rfl rfl hb_19 ?_
          refine RS.op rfl (OP.q rfl (v_pickT (v := .bool true) rfl hb_19 rfl ?_))
          refine RS.nil ?_
          exact T.weakR (hK () trivial) (Weak.mkN [] [0, 1, 2] (by decide) (none_kept _) rfl ⟨rn_int rfl, rn_ptr rfl, rn_ref rfl, rn_int rfl, rn_int rfl, rn_ref rfl, rn_bool ((congrArg (fun p => p) (Option.some.inj hz)).symm), trivial⟩ (rw_box (cs := [.sl (List.map encS p0.Sectors), .sl (List.map encWrite p0.Wait)]) (ds := [.sl (List.map encS p0.Sectors), .sl (List.map encWrite p0.Wait)]) rfl ⟨rn_sl encS_p rfl, rn_sl encWrite_p rfl, trivial⟩ (rw_arr rfl encChoice_p rfl (rw_arr rfl encS_p rfl (rw_nil)))))
        · replace hz := ite_F hz hb_19
          obtain ⟨x9, hx9, hz⟩ := bind_some hz
          obtain ⟨x10, hx10, hz⟩ := bind_some hz
          obtain ⟨x11, hx11, hz⟩ := bind_some hz
          refine T.region ?_
          refine RS.op rfl (OP.q rfl (v_move (v := .ref 2) rfl ?_))
          refine RS.op rfl (OP.q rfl (v_len_ref (en := encS) Ty.s22 rfl rfl ?_))
          refine RS.op rfl (OP.q rfl (v_neq rfl rfl ?_))
          refine RS.op rfl (OP.q rfl (v_move (v := .bool (((x7.1).length : Int) != 1)) rfl ?_))
          refine RS.yes rfl rfl rfl hb_18 (OP.q rfl (v_move (v := .int .i64 x7.2) rfl ?_))
          refine RS.yes rfl rfl rfl hb_18 (OP.q rfl (v_fieldAddr_ptr Ty.f25_0 rfl (off' := 0) rfl ?_))
          refine RS.yes rfl rfl rfl hb_18 (o_load_ptr rfl rfl (loadRow1 Ty.k22 (c := .sl (List.map encS p0.Sectors)) rfl ?_))
          refine RS.yes rfl rfl rfl hb_18 (OP.q rfl (v_move (v := .int .i64 s2) rfl ?_))
          refine RS.yes rfl rfl rfl hb_18 (OP.q rfl (v_index_sl Ty.s22 (fun _ => rfl) rfl rfl hx8 ?_))
          refine RS.yes rfl rfl rfl hb_18 (o_load_elt rfl (loadRow1 Ty.k9 (c := .str x8) rfl ?_))
          refine RS.yes rfl rfl rfl hb_18 (OP.q rfl (v_len_str Try.underlying9 rfl ?_))
          refine RS.yes rfl rfl rfl hb_18 (OP.q rfl (v_neq rfl rfl ?_))
          refine RS.op rfl (OP.q rfl (v_pickF (v := .bool (x7.2 != ((x8).length : Int))) rfl hb_18 rfl ?_))
          refine RS.op rfl (OP.q rfl (v_move (v := .bool (x7.2 != ((x8).length : Int))) rfl ?_))
          refine RS.yes rfl rfl rfl hb_19 (OP.q rfl (v_move (v := .ref 2) rfl ?_))
          refine RS.yes rfl rfl rfl hb_19 (OP.q rfl (v_index_ref' (en := encS) Ty.s22 rfl rfl rfl hx9 ?_))
          refine RS.yes rfl rfl rfl hb_19 (o_load_aptr' (en := encS) (a := x10) rfl rfl hx10 (loadRow1 Ty.k9 (c := .str x10) rfl ?_))
          refine RS.yes rfl rfl rfl hb_19 (OP.q rfl (v_index_str Try.underlying9 rfl rfl hx11 ?_))
          refine RS.yes rfl rfl rfl hb_19 (o_conv Try.underlying5 Try.underlying3 rfl ?_)
          refine RS.yes rfl rfl rfl hb_19 (OP.q rfl (v_move (v := .int .i64 p1) rfl ?_))
          refine RS.yes rfl rfl rfl hb_19 (OP.q rfl (v_neq rfl rfl ?_))
          refine RS.op rfl (OP.q rfl (v_pickF (v := .bool ((IntKind.i64.wrap (x11.toNat : Int)) != p1)) rfl hb_19 rfl ?_))
          refine RS.nil ?_
          exact T.weakR (hK () trivial) (Weak.mkN [] [0, 1, 2] (by decide) (none_kept _) rfl ⟨rn_int rfl, rn_ptr rfl, rn_ref rfl, rn_int rfl, rn_int rfl, rn_ref rfl, rn_bool ((congrArg (fun p => p) (Option.some.inj hz)).symm), trivial⟩ (rw_box (cs := [.sl (List.map encS p0.Sectors), .sl (List.map encWrite p0.Wait)]) (ds := [.sl (List.map encS p0.Sectors), .sl (List.map encWrite p0.Wait)]) rfl ⟨rn_sl encS_p rfl, rn_sl encWrite_p rfl, trivial⟩ (rw_arr rfl encChoice_p rfl (rw_arr rfl encS_p rfl (rw_nil)))))
  · replace h := ite_F h hb_17
    refine T.exit ?_
    obtain ⟨w_28, h, hw_28⟩ := map_inr h
    replace h := h.trans (congrArg some (hv_16 _ hw_28))
    refine T.seq ?_
    refine T.region ?_
    refine RS.op rfl (OP.q rfl (v_move (v := .ref 1) rfl ?_))
    refine RS.op rfl (OP.q rfl (v_move (v := .int .i64 s1) rfl ?_))
    refine RS.op rfl (OP.q rfl (v_assign (v := .ref 1) rfl ?_))
    refine RS.op rfl (OP.q rfl (v_assign (v := .int .i64 s1) rfl ?_))
    refine RS.nil ?_
    refine T.ret' (R := ?R29) ?hq29 ?_
    case hq29 => repeat (first | exact RetIs.base | refine RetIs.thn ?_ | refine RetIs.blk ?_ | refine RetIs.lq ?_)
    refine res_tmpA (v := .ref 1) rfl ?_
    refine res_tmpA (v := .int .i64 s1) rfl ?_
    refine res_done ?_
    exact ret_own (.tup [.ref 0, .int .i64 r.2]) [] [1] (by decide) (none_kept _) rfl (rn_tup ⟨rn_ref rfl, rn_int (congrArg (fun r : (List Choice) × Int => r.2) (Option.some.inj h)).symm, trivial⟩) (rw_arr rfl encChoice_p (congrArg (fun r : (List Choice) × Int => r.1) (Option.some.inj h)).symm (rw_nil)) ⟨rfl, rfl⟩
theorem crosslaw_LogScan_c (p0 : Disk) (p1 : Int) (r : Bool) (h : crosslaw_LogScan p0 p1 = some r) : Fn Try.prog 3 [.agg [.sl (List.map encS p0.Sectors), .sl (List.map encWrite p0.Wait)], .int .i64 p1] (.bool r) := by
  unfold crosslaw_LogScan at h
  refine fn_of_T (N := 0) rfl Try.func3 rfl (by kernel_rfl) Try.ntmps3 rfl ?_
  show T _ _ _ _ (mkA 69 [(0, .agg [.sl (List.map encS p0.Sectors), .sl (List.map encWrite p0.Wait)]), (1, .int .i64 p1)]) []
  refine T.seq ?_
  refine T.region ?_
  refine RS.op rfl (o_box (cs := [.sl (List.map encS p0.Sectors), .sl (List.map encWrite p0.Wait)]) rfl rfl (aw' := [.box [.sl (List.map encS p0.Sectors), .sl (List.map encWrite p0.Wait)]]) rfl ?_)
  refine RS.op rfl (OP.q rfl (v_assign (v := .bool false) rfl ?_))
  refine RS.nil ?_
  refine T.seq ?_
  obtain ⟨x2, hx2, h⟩ := bind_some h
  refine T.region ?_
  refine RS.op rfl (o_load_ptr rfl rfl (loadRowA Ty.k25 Ty.c25 rfl (cs := [.sl (List.map encS p0.Sectors), .sl (List.map encWrite p0.Wait)]) rfl ?_))
  refine RS.op rfl (OP.q rfl (v_move (v := .int .i64 p1) rfl ?_))
  refine RS.op rfl (o_call (as0 := [.agg [.sl (List.map encS p0.Sectors), .sl (List.map encWrite p0.Wait)], .int .i64 p1]) (as1 := [.agg [.sl (List.map encS p0.Sectors), .sl (List.map encWrite p0.Wait)], .int .i64 p1]) (caps := []) (aw1 := [.box [.sl (List.map encS p0.Sectors), .sl (List.map encWrite p0.Wait)]]) rfl rfl rfl (k_own' (v := .tup [.ref 0, .int .i64 x2.2.1, .int .i64 x2.2.2]) (obs := [.arr 36 2 (List.map encChoice x2.1)]) (v' := .tup [.ref 1, .int .i64 x2.2.1, .int .i64 x2.2.2]) (aw' := [.box [.sl (List.map encS p0.Sectors), .sl (List.map encWrite p0.Wait)], .arr 36 2 (List.map encChoice x2.1)]) (log_Scan_c p0 p1 x2 hx2) (⟨pure_agg _ (pures_mem (⟨pure_map encS_p _, pure_map encWrite_p _, trivial⟩)), pure_int _ _, trivial⟩) rfl (obs_cons (flatOb_map fun _ => rfl) obs_nil) rfl rfl ?_))
  refine RS.op rfl (OP.q rfl (v_move (v := .tup [.ref 1, .int .i64 x2.2.1, .int .i64 x2.2.2]) rfl ?_))
  refine RS.op rfl (OP.q rfl (v_extract (v := .ref 1) rfl rfl ?_))
  refine RS.op rfl (OP.q rfl (v_extract (v := .int .i64 x2.2.1) rfl rfl ?_))
  refine RS.op rfl (OP.q rfl (v_extract (v := .int .i64 x2.2.2) rfl rfl ?_))
  refine RS.op rfl (OP.q rfl (v_assign (v := .ref 1) rfl ?_))
  refine RS.op rfl (OP.q rfl (v_assign (v := .int .i64 x2.2.1) rfl ?_))
  refine RS.op rfl (OP.q rfl (v_assign (v := .int .i64 x2.2.2) rfl ?_))
  refine RS.nil ?_
  refine T.seq ?_
  obtain ⟨x4, hx4, h⟩ := bind_some h
  refine T.region ?_
  refine RS.op rfl (o_load_ptr rfl rfl (loadRowA Ty.k25 Ty.c25 rfl (cs := [.sl (List.map encS p0.Sectors), .sl (List.map encWrite p0.Wait)]) rfl ?_))
  refine RS.op rfl (o_call (as0 := [.agg [.sl (List.map encS p0.Sectors), .sl (List.map encWrite p0.Wait)]]) (as1 := [.agg [.sl (List.map encS p0.Sectors), .sl (List.map encWrite p0.Wait)]]) (caps := []) (aw1 := [.box [.sl (List.map encS p0.Sectors), .sl (List.map encWrite p0.Wait)], .arr 36 2 (List.map encChoice x2.1)]) rfl rfl rfl (k_flat (v := .int .i64 x4) (crossref_CheckDisk_c p0 x4 hx4) (⟨pure_agg _ (pures_mem (⟨pure_map encS_p _, pure_map encWrite_p _, trivial⟩)), trivial⟩) rfl ?_))
  refine RS.op rfl (OP.q rfl (v_assign (v := .int .i64 x4) rfl ?_))
  refine RS.nil ?_
  refine T.join (Z := Int) (fun zz_4 => mkA 69 [(1, .int .i64 p1), (2, .ptr 0 0), (5, .ref 1), (6, .int .i64 x2.2.1), (7, .int .i64 x2.2.2), (8, .int .i64 zz_4)]) (fun zz_4 => [.box [.sl (List.map encS p0.Sectors), .sl (List.map encWrite p0.Wait)], .arr 36 2 (List.map encChoice x2.1)]) (fun zz_4 => crosslaw_LogScan_k1 p0 p1 x2 zz_4 = some r) (fun zz_4 h => ?_) (fun hK1 => ?_)
  · revert h; revert zz_4; intro z5 h
    replace h : crosslaw_LogScan_k1 p0 p1 x2 z5 = some r := h
    show T _ _ _ _ (mkA 69 [(1, .int .i64 p1), (2, .ptr 0 0), (5, .ref 1), (6, .int .i64 x2.2.1), (7, .int .i64 x2.2.2), (8, .int .i64 z5)]) [.box [.sl (List.map encS p0.Sectors), .sl (List.map encWrite p0.Wait)], .arr 36 2 (List.map encChoice x2.1)]
    unfold crosslaw_LogScan_k1 at h
    refine T.seq ?_
    obtain ⟨x6, hx6, h⟩ := bind_some h
    refine T.join (Z := Unit) (fun _ => mkA 69 [(1, .int .i64 p1), (2, .ptr 0 0), (5, .ref 1), (6, .int .i64 x2.2.1), (7, .int .i64 x2.2.2), (8, .int .i64 z5), (35, .bool ((!x6) || z5 != 0))]) (fun _ => [.box [.sl (List.map encS p0.Sectors), .sl (List.map encWrite p0.Wait)], .arr 36 2 (List.map encChoice x2.1)]) (fun _ => True) (fun _ _ => ?_) (fun hK => ?_)
    · show T _ _ _ _ (mkA 69 [(1, .int .i64 p1), (2, .ptr 0 0), (5, .ref 1), (6, .int .i64 x2.2.1), (7, .int .i64 x2.2.2), (8, .int .i64 z5), (35, .bool ((!x6) || z5 != 0))]) [.box [.sl (List.map encS p0.Sectors), .sl (List.map encWrite p0.Wait)], .arr 36 2 (List.map encChoice x2.1)]
      refine T.cond (b := ((!x6) || z5 != 0)) rfl (fun hb_6 => ?_) (fun hb_6 => ?_)
      · replace h := ite_T h hb_6
        obtain ⟨x8, hx8, h⟩ := bind_some h
        refine T.join (Z := Unit) (fun _ => mkA 69 [(4, .bool (x8 && ((x2.2.2 == z5) && ((((x2.1).length : Int) == 0) && x2.2.1 == 0))))]) (fun _ => []) (fun _ => True) (fun _ _ => ?_) (fun hK => ?_)
        · show T _ _ _ _ (mkA 69 [(4, .bool (x8 && ((x2.2.2 == z5) && ((((x2.1).length : Int) == 0) && x2.2.1 == 0))))]) []
          refine T.ret' (R := ?R10) ?hq10 ?_
          case hq10 => repeat (first | exact RetIs.base | refine RetIs.thn ?_ | refine RetIs.blk ?_ | refine RetIs.lq ?_)
          refine res_tmpA (v := .bool (x8 && ((x2.2.2 == z5) && ((((x2.1).length : Int) == 0) && x2.2.1 == 0)))) rfl ?_
          refine res_done ?_
          exact ret_data (v := .bool (x8 && ((x2.2.2 == z5) && ((((x2.1).length : Int) == 0) && x2.2.1 == 0)))) rfl (pure_bool _) ⟨congrArg (fun r : Bool => (.bool r : AV)) (Option.some.inj h), rfl⟩
        · rcases bool_cases x8 with hb_7 | hb_7
          · rcases bool_cases (x2.2.2 == z5) with hb_8 | hb_8
            · rcases bool_cases (((x2.1).length : Int) == 0) with hb_9 | hb_9
              · refine T.region ?_
                refine RS.op rfl (o_call (as0 := []) (as1 := []) (caps := []) (aw1 := [.box [.sl (List.map encS p0.Sectors), .sl (List.map encWrite p0.Wait)], .arr 36 2 (List.map encChoice x2.1)]) rfl rfl rfl (k_flat (v := .bool x8) (crosslaw_logged_c x8 hx8) (trivial) rfl ?_))
                refine RS.op rfl (OP.q rfl (v_move (v := .bool x8) rfl ?_))
                refine RS.yes rfl rfl rfl hb_7 (OP.q rfl (v_move (v := .int .i64 x2.2.2) rfl ?_))
                refine RS.yes rfl rfl rfl hb_7 (OP.q rfl (v_move (v := .int .i64 z5) rfl ?_))
                refine RS.yes rfl rfl rfl hb_7 (OP.q rfl (v_eql rfl rfl ?_))
                refine RS.op rfl (OP.q rfl (v_pickT (v := .bool (x2.2.2 == z5)) rfl hb_7 rfl ?_))
                refine RS.op rfl (OP.q rfl (v_move (v := .bool (x2.2.2 == z5)) rfl ?_))
                refine RS.yes rfl rfl rfl hb_8 (OP.q rfl (v_move (v := .ref 1) rfl ?_))
                refine RS.yes rfl rfl rfl hb_8 (OP.q rfl (v_len_ref (en := encChoice) Ty.s26 rfl rfl ?_))
                refine RS.yes rfl rfl rfl hb_8 (OP.q rfl (v_eql rfl rfl ?_))
                refine RS.op rfl (OP.q rfl (v_pickT (v := .bool (((x2.1).length : Int) == 0)) rfl hb_8 rfl ?_))
                refine RS.op rfl (OP.q rfl (v_move (v := .bool (((x2.1).length : Int) == 0)) rfl ?_))
                refine RS.yes rfl rfl rfl hb_9 (OP.q rfl (v_move (v := .int .i64 x2.2.1) rfl ?_))
                refine RS.yes rfl rfl rfl hb_9 (OP.q rfl (v_eql rfl rfl ?_))
                refine RS.op rfl (OP.q rfl (v_pickT (v := .bool (x2.2.1 == 0)) rfl hb_9 rfl ?_))
                refine RS.op rfl (OP.q rfl (v_assign (v := .bool (x2.2.1 == 0)) rfl ?_))
                refine RS.nil ?_
                exact T.weakR (hK () trivial) (Weak.mkN [] [] (by decide) (none_kept _) rfl ⟨rn_bool (by simp only [hb_7, hb_8, hb_9, Bool.true_or, Bool.or_true, Bool.false_or, Bool.or_false, Bool.true_and, Bool.and_true, Bool.false_and, Bool.and_false, Bool.not_true, Bool.not_false, if_true, if_false, Bool.false_eq_true, reduceIte]), trivial⟩ (rw_nil))
              · refine T.region ?_
                refine RS.op rfl (o_call (as0 := []) (as1 := []) (caps := []) (aw1 := [.box [.sl (List.map encS p0.Sectors), .sl (List.map encWrite p0.Wait)], .arr 36 2 (List.map encChoice x2.1)]) rfl rfl rfl (k_flat (v := .bool x8) (crosslaw_logged_c x8 hx8) (trivial) rfl ?_))
                refine RS.op rfl (OP.q rfl (v_move (v := .bool x8) rfl ?_))
                refine RS.yes rfl rfl rfl hb_7 (OP.q rfl (v_move (v := .int .i64 x2.2.2) rfl ?_))
                refine RS.yes rfl rfl rfl hb_7 (OP.q rfl (v_move (v := .int .i64 z5) rfl ?_))
                refine RS.yes rfl rfl rfl hb_7 (OP.q rfl (v_eql rfl rfl ?_))
                refine RS.op rfl (OP.q rfl (v_pickT (v := .bool (x2.2.2 == z5)) rfl hb_7 rfl ?_))
                refine RS.op rfl (OP.q rfl (v_move (v := .bool (x2.2.2 == z5)) rfl ?_))
                refine RS.yes rfl rfl rfl hb_8 (OP.q rfl (v_move (v := .ref 1) rfl ?_))
                refine RS.yes rfl rfl rfl hb_8 (OP.q rfl (v_len_ref (en := encChoice) Ty.s26 rfl rfl ?_))
                refine RS.yes rfl rfl rfl hb_8 (OP.q rfl (v_eql rfl rfl ?_))
                refine RS.op rfl (OP.q rfl (v_pickT (v := .bool (((x2.1).length : Int) == 0)) rfl hb_8 rfl ?_))
                refine RS.op rfl (OP.q rfl (v_move (v := .bool (((x2.1).length : Int) == 0)) rfl ?_))
                refine RS.no rfl rfl rfl hb_9 ?_
                refine RS.no rfl rfl rfl hb_9 ?_
                refine RS.op rfl (OP.q rfl (v_pickF (v := .bool false) rfl hb_9 rfl ?_))
                refine RS.op rfl (OP.q rfl (v_assign (v := .bool false) rfl ?_))
                refine RS.nil ?_
                exact T.weakR (hK () trivial) (Weak.mkN [] [] (by decide) (none_kept _) rfl ⟨rn_bool (by simp only [hb_7, hb_8, hb_9, Bool.true_or, Bool.or_true, Bool.false_or, Bool.or_false, Bool.true_and, Bool.and_true, Bool.false_and, Bool.and_false, Bool.not_true, Bool.not_false, if_true, if_false, Bool.false_eq_true, reduceIte]), trivial⟩ (rw_nil))
            · refine T.region ?_
              refine RS.op rfl (o_call (as0 := []) (as1 := []) (caps := []) (aw1 := [.box [.sl (List.map encS p0.Sectors), .sl (List.map encWrite p0.Wait)], .arr 36 2 (List.map encChoice x2.1)]) rfl rfl rfl (k_flat (v := .bool x8) (crosslaw_logged_c x8 hx8) (trivial) rfl ?_))
              refine RS.op rfl (OP.q rfl (v_move (v := .bool x8) rfl ?_))
              refine RS.yes rfl rfl rfl hb_7 (OP.q rfl (v_move (v := .int .i64 x2.2.2) rfl ?_))
              refine RS.yes rfl rfl rfl hb_7 (OP.q rfl (v_move (v := .int .i64 z5) rfl ?_))
              refine RS.yes rfl rfl rfl hb_7 (OP.q rfl (v_eql rfl rfl ?_))
              refine RS.op rfl (OP.q rfl (v_pickT (v := .bool (x2.2.2 == z5)) rfl hb_7 rfl ?_))
              refine RS.op rfl (OP.q rfl (v_move (v := .bool (x2.2.2 == z5)) rfl ?_))
              refine RS.no rfl rfl rfl hb_8 ?_
              refine RS.no rfl rfl rfl hb_8 ?_
              refine RS.no rfl rfl rfl hb_8 ?_
              refine RS.op rfl (OP.q rfl (v_pickF (v := .bool false) rfl hb_8 rfl ?_))
              refine RS.op rfl (OP.q rfl (v_move (v := .bool false) rfl ?_))
              refine RS.no rfl rfl rfl rfl ?_
              refine RS.no rfl rfl rfl rfl ?_
              refine RS.op rfl (OP.q rfl (v_pickF (v := .bool false) rfl rfl rfl ?_))
              refine RS.op rfl (OP.q rfl (v_assign (v := .bool false) rfl ?_))
              refine RS.nil ?_
              exact T.weakR (hK () trivial) (Weak.mkN [] [] (by decide) (none_kept _) rfl ⟨rn_bool (by simp only [hb_7, hb_8, Bool.true_or, Bool.or_true, Bool.false_or, Bool.or_false, Bool.true_and, Bool.and_true, Bool.false_and, Bool.and_false, Bool.not_true, Bool.not_false, if_true, if_false, Bool.false_eq_true, reduceIte]), trivial⟩ (rw_nil))
          · refine T.region ?_
            refine RS.op rfl (o_call (as0 := []) (as1 := []) (caps := []) (aw1 := [.box [.sl (List.map encS p0.Sectors), .sl (List.map encWrite p0.Wait)], .arr 36 2 (List.map encChoice x2.1)]) rfl rfl rfl (k_flat (v := .bool x8) (crosslaw_logged_c x8 hx8) (trivial) rfl ?_))
            refine RS.op rfl (OP.q rfl (v_move (v := .bool x8) rfl ?_))
            refine RS.no rfl rfl rfl hb_7 ?_
            refine RS.no rfl rfl rfl hb_7 ?_
            refine RS.no rfl rfl rfl hb_7 ?_
            refine RS.op rfl (OP.q rfl (v_pickF (v := .bool false) rfl hb_7 rfl ?_))
            refine RS.op rfl (OP.q rfl (v_move (v := .bool false) rfl ?_))
            refine RS.no rfl rfl rfl rfl ?_
            refine RS.no rfl rfl rfl rfl ?_
            refine RS.no rfl rfl rfl rfl ?_
            refine RS.op rfl (OP.q rfl (v_pickF (v := .bool false) rfl rfl rfl ?_))
            refine RS.op rfl (OP.q rfl (v_move (v := .bool false) rfl ?_))
            refine RS.no rfl rfl rfl rfl ?_
            refine RS.no rfl rfl rfl rfl ?_
            refine RS.op rfl (OP.q rfl (v_pickF (v := .bool false) rfl rfl rfl ?_))
            refine RS.op rfl (OP.q rfl (v_assign (v := .bool false) rfl ?_))
            refine RS.nil ?_
            exact T.weakR (hK () trivial) (Weak.mkN [] [] (by decide) (none_kept _) rfl ⟨rn_bool (by simp only [hb_7, Bool.true_or, Bool.or_true, Bool.false_or, Bool.or_false, Bool.true_and, Bool.and_true, Bool.false_and, Bool.and_false, Bool.not_true, Bool.not_false, if_true, if_false, Bool.false_eq_true, reduceIte]), trivial⟩ (rw_nil))
      · replace h := ite_F h hb_6
        refine T.skip ?_
        refine T.seq ?_
        obtain ⟨x11, hx11, h⟩ := bind_some h
        refine T.region ?_
        refine RS.op rfl (o_load_ptr rfl rfl (loadRowA Ty.k25 Ty.c25 rfl (cs := [.sl (List.map encS p0.Sectors), .sl (List.map encWrite p0.Wait)]) rfl ?_))
        refine RS.op rfl (OP.q rfl (v_move (v := .int .i64 p1) rfl ?_))
        refine RS.op rfl (o_call (as0 := [.agg [.sl (List.map encS p0.Sectors), .sl (List.map encWrite p0.Wait)], .int .i64 p1]) (as1 := [.agg [.sl (List.map encS p0.Sectors), .sl (List.map encWrite p0.Wait)], .int .i64 p1]) (caps := []) (aw1 := [.box [.sl (List.map encS p0.Sectors), .sl (List.map encWrite p0.Wait)], .arr 36 2 (List.map encChoice x2.1)]) rfl rfl rfl (k_own' (v := .tup [.ref 0, .int .i64 x11.2]) (obs := [.arr 36 2 (List.map encChoice x11.1)]) (v' := .tup [.ref 2, .int .i64 x11.2]) (aw' := [.box [.sl (List.map encS p0.Sectors), .sl (List.map encWrite p0.Wait)], .arr 36 2 (List.map encChoice x2.1), .arr 36 2 (List.map encChoice x11.1)]) (crossref_LogOf_c p0 p1 x11 hx11) (⟨pure_agg _ (pures_mem (⟨pure_map encS_p _, pure_map encWrite_p _, trivial⟩)), pure_int _ _, trivial⟩) rfl (obs_cons (flatOb_map fun _ => rfl) obs_nil) rfl rfl ?_))
        refine RS.op rfl (OP.q rfl (v_move (v := .tup [.ref 2, .int .i64 x11.2]) rfl ?_))
        refine RS.op rfl (OP.q rfl (v_extract (v := .ref 2) rfl rfl ?_))
        refine RS.op rfl (OP.q rfl (v_extract (v := .int .i64 x11.2) rfl rfl ?_))
        refine RS.op rfl (OP.q rfl (v_assign (v := .ref 2) rfl ?_))
        refine RS.op rfl (OP.q rfl (v_assign (v := .int .i64 x11.2) rfl ?_))
        refine RS.nil ?_
        obtain ⟨zt_13, hz, h⟩ := bind_some h
        revert hz h; revert zt_13; intro c13 hz h
        refine T.join (Z := Unit) (fun _ => mkA 69 [(4, .bool c13)]) (fun _ => []) (fun _ => True) (fun _ _ => ?_) (fun hK => ?_)
        · show T _ _ _ _ (mkA 69 [(4, .bool c13)]) []
          refine T.ret' (R := ?R14) ?hq14 ?_
          case hq14 => repeat (first | exact RetIs.base | refine RetIs.thn ?_ | refine RetIs.blk ?_ | refine RetIs.lq ?_)
          refine res_tmpA (v := .bool c13) rfl ?_
          refine res_done ?_
          exact ret_data (v := .bool c13) rfl (pure_bool _) ⟨congrArg (fun r : Bool => (.bool r : AV)) (Option.some.inj h), rfl⟩
        · rcases bool_cases (x2.2.2 == 0) with hb_11 | hb_11
          · replace hz := ite_T hz hb_11
            rcases bool_cases (x2.2.1 == x11.2) with hb_12 | hb_12
            · replace hz := ite_T hz hb_12
              obtain ⟨x12, hx12, hz⟩ := bind_some hz
              refine T.region ?_
              refine RS.op rfl (OP.q rfl (v_move (v := .int .i64 x2.2.2) rfl ?_))
              refine RS.op rfl (OP.q rfl (v_eql rfl rfl ?_))
              refine RS.op rfl (OP.q rfl (v_move (v := .bool (x2.2.2 == 0)) rfl ?_))
              refine RS.yes rfl rfl rfl hb_11 (OP.q rfl (v_move (v := .int .i64 x2.2.1) rfl ?_))
              refine RS.yes rfl rfl rfl hb_11 (OP.q rfl (v_move (v := .int .i64 x11.2) rfl ?_))
              refine RS.yes rfl rfl rfl hb_11 (OP.q rfl (v_eql rfl rfl ?_))
              refine RS.op rfl (OP.q rfl (v_pickT (v := .bool (x2.2.1 == x11.2)) rfl hb_11 rfl ?_))
              refine RS.op rfl (OP.q rfl (v_move (v := .bool (x2.2.1 == x11.2)) rfl ?_))
              refine RS.yes rfl rfl rfl hb_12 (OP.q rfl (v_move (v := .ref 1) rfl ?_))
              refine RS.yes rfl rfl rfl hb_12 (OP.q rfl (v_move (v := .ref 2) rfl ?_))
              refine RS.yes rfl rfl rfl hb_12 (o_call (as0 := [.ref 1, .ref 2]) (as1 := [.sl (List.map encChoice x2.1), .sl (List.map encChoice x11.1)]) (caps := []) (aw1 := [.box [.sl (List.map encS p0.Sectors), .sl (List.map encWrite p0.Wait)], .dead, .dead]) rfl rfl rfl (k_flat (v := .bool x12) (slices_Equal_Choice_c x2.1 x11.1 x12 hx12) (⟨pure_map encChoice_p _, pure_map encChoice_p _, trivial⟩) rfl ?_))
              refine RS.op rfl (OP.q rfl (v_pickT (v := .bool x12) rfl hb_12 rfl ?_))
              refine RS.op rfl (OP.q rfl (v_assign (v := .bool x12) rfl ?_))
              refine RS.nil ?_
              exact T.weakR (hK () trivial) (Weak.mkN [] [] (by decide) (none_kept _) rfl ⟨rn_bool ((congrArg (fun p => p) (Option.some.inj hz)).symm), trivial⟩ (rw_nil))
            · replace hz := ite_F hz hb_12
              refine T.region ?_
              refine RS.op rfl (OP.q rfl (v_move (v := .int .i64 x2.2.2) rfl ?_))
              refine RS.op rfl (OP.q rfl (v_eql rfl rfl ?_))
              refine RS.op rfl (OP.q rfl (v_move (v := .bool (x2.2.2 == 0)) rfl ?_))
              refine RS.yes rfl rfl rfl hb_11 (OP.q rfl (v_move (v := .int .i64 x2.2.1) rfl ?_))
              refine RS.yes rfl rfl rfl hb_11 (OP.q rfl (v_move (v := .int .i64 x11.2) rfl ?_))
              refine RS.yes rfl rfl rfl hb_11 (OP.q rfl (v_eql rfl rfl ?_))
              refine RS.op rfl (OP.q rfl (v_pickT (v := .bool (x2.2.1 == x11.2)) rfl hb_11 rfl ?_))
              refine RS.op rfl (OP.q rfl (v_move (v := .bool (x2.2.1 == x11.2)) rfl ?_))
              refine RS.no rfl rfl rfl hb_12 ?_
              refine RS.no rfl rfl rfl hb_12 ?_
              refine RS.no rfl rfl rfl hb_12 ?_
              refine RS.op rfl (OP.q rfl (v_pickF (v := .bool false) rfl hb_12 rfl ?_))
              refine RS.op rfl (OP.q rfl (v_assign (v := .bool false) rfl ?_))
              refine RS.nil ?_
              exact T.weakR (hK () trivial) (Weak.mkN [] [] (by decide) (none_kept _) rfl ⟨rn_bool ((congrArg (fun p => p) (Option.some.inj hz)).symm), trivial⟩ (rw_nil))
          · replace hz := ite_F hz hb_11
            refine T.region ?_
            refine RS.op rfl (OP.q rfl (v_move (v := .int .i64 x2.2.2) rfl ?_))
            refine RS.op rfl (OP.q rfl (v_eql rfl rfl ?_))
            refine RS.op rfl (OP.q rfl (v_move (v := .bool (x2.2.2 == 0)) rfl ?_))
            refine RS.no rfl rfl rfl hb_11 ?_
            refine RS.no rfl rfl rfl hb_11 ?_
            refine RS.no rfl rfl rfl hb_11 ?_
            refine RS.op rfl (OP.q rfl (v_pickF (v := .bool false) rfl hb_11 rfl ?_))
            refine RS.op rfl (OP.q rfl (v_move (v := .bool false) rfl ?_))
            refine RS.no rfl rfl rfl rfl ?_
            refine RS.no rfl rfl rfl rfl ?_
            refine RS.no rfl rfl rfl rfl ?_
            refine RS.op rfl (OP.q rfl (v_pickF (v := .bool false) rfl rfl rfl ?_))
            refine RS.op rfl (OP.q rfl (v_assign (v := .bool false) rfl ?_))
            refine RS.nil ?_
            exact T.weakR (hK () trivial) (Weak.mkN [] [] (by decide) (none_kept _) rfl ⟨rn_bool ((congrArg (fun p => p) (Option.some.inj hz)).symm), trivial⟩ (rw_nil))
    · rcases bool_cases (!x6) with hb_5 | hb_5
      · refine T.region ?_
        refine RS.op rfl (o_call (as0 := []) (as1 := []) (caps := []) (aw1 := [.box [.sl (List.map encS p0.Sectors), .sl (List.map encWrite p0.Wait)], .arr 36 2 (List.map encChoice x2.1)]) rfl rfl rfl (k_flat (v := .bool x6) (crosslaw_logged_c x6 hx6) (trivial) rfl ?_))
        refine RS.op rfl (OP.q rfl (v_not rfl ?_))
        refine RS.op rfl (OP.q rfl (v_move (v := .bool (!x6)) rfl ?_))
        refine RS.no rfl rfl rfl hb_5 ?_
        refine RS.no rfl rfl rfl hb_5 ?_
        refine RS.op rfl (OP.q rfl (v_pickT (v := .bool true) rfl hb_5 rfl ?_))
        refine RS.nil ?_
        exact T.weakR (hK () trivial) (Weak.mkN [] [0, 1] (by decide) (none_kept _) rfl ⟨rn_int rfl, rn_ptr rfl, rn_ref rfl, rn_int rfl, rn_int rfl, rn_int rfl, rn_bool (by simp only [hb_5, Bool.true_or, Bool.or_true, Bool.false_or, Bool.or_false, Bool.true_and, Bool.and_true, Bool.false_and, Bool.and_false, Bool.not_true, Bool.not_false, if_true, if_false, Bool.false_eq_true, reduceIte]), trivial⟩ (rw_box (cs := [.sl (List.map encS p0.Sectors), .sl (List.map encWrite p0.Wait)]) (ds := [.sl (List.map encS p0.Sectors), .sl (List.map encWrite p0.Wait)]) rfl ⟨rn_sl encS_p rfl, rn_sl encWrite_p rfl, trivial⟩ (rw_arr rfl encChoice_p rfl (rw_nil))))
      · refine T.region ?_
        refine RS.op rfl (o_call (as0 := []) (as1 := []) (caps := []) (aw1 := [.box [.sl (List.map encS p0.Sectors), .sl (List.map encWrite p0.Wait)], .arr 36 2 (List.map encChoice x2.1)]) rfl rfl rfl (k_flat (v := .bool x6) (crosslaw_logged_c x6 hx6) (trivial) rfl ?_))
        refine RS.op rfl (OP.q rfl (v_not rfl ?_))
        refine RS.op rfl (OP.q rfl (v_move (v := .bool (!x6)) rfl ?_))
        refine RS.yes rfl rfl rfl hb_5 (OP.q rfl (v_move (v := .int .i64 z5) rfl ?_))
        refine RS.yes rfl rfl rfl hb_5 (OP.q rfl (v_neq rfl rfl ?_))
        refine RS.op rfl (OP.q rfl (v_pickF (v := .bool (z5 != 0)) rfl hb_5 rfl ?_))
        refine RS.nil ?_
        exact T.weakR (hK () trivial) (Weak.mkN [] [0, 1] (by decide) (none_kept _) rfl ⟨rn_int rfl, rn_ptr rfl, rn_ref rfl, rn_int rfl, rn_int rfl, rn_int rfl, rn_bool (by simp only [hb_5, Bool.true_or, Bool.or_true, Bool.false_or, Bool.or_false, Bool.true_and, Bool.and_true, Bool.false_and, Bool.and_false, Bool.not_true, Bool.not_false, if_true, if_false, Bool.false_eq_true, reduceIte]), trivial⟩ (rw_box (cs := [.sl (List.map encS p0.Sectors), .sl (List.map encWrite p0.Wait)]) (ds := [.sl (List.map encS p0.Sectors), .sl (List.map encWrite p0.Wait)]) rfl ⟨rn_sl encS_p rfl, rn_sl encWrite_p rfl, trivial⟩ (rw_arr rfl encChoice_p rfl (rw_nil))))
  · refine T.join (Z := Unit) (fun _ => mkA 69 [(1, .int .i64 p1), (2, .ptr 0 0), (5, .ref 1), (6, .int .i64 x2.2.1), (7, .int .i64 x2.2.2), (8, .int .i64 x4), (29, .bool ((x4 == 0) && ((decide (p1 < 0)) || decide (p1 > 200))))]) (fun _ => [.box [.sl (List.map encS p0.Sectors), .sl (List.map encWrite p0.Wait)], .arr 36 2 (List.map encChoice x2.1)]) (fun _ => True) (fun _ _ => ?_) (fun hK => ?_)
    · show T _ _ _ _ (mkA 69 [(1, .int .i64 p1), (2, .ptr 0 0), (5, .ref 1), (6, .int .i64 x2.2.1), (7, .int .i64 x2.2.2), (8, .int .i64 x4), (29, .bool ((x4 == 0) && ((decide (p1 < 0)) || decide (p1 > 200))))]) [.box [.sl (List.map encS p0.Sectors), .sl (List.map encWrite p0.Wait)], .arr 36 2 (List.map encChoice x2.1)]
      refine T.cond (b := ((x4 == 0) && ((decide (p1 < 0)) || decide (p1 > 200)))) rfl (fun hb_17 => ?_) (fun hb_17 => ?_)
      · replace h := ite_T h hb_17
        refine T.region ?_
        refine RS.op rfl (OP.q rfl (v_assign (v := .int .i64 3) rfl ?_))
        refine RS.nil ?_
        exact T.weakR (hK1 3 h) (Weak.mkN [] [0, 1] (by decide) (none_kept _) rfl ⟨rn_int rfl, rn_ptr rfl, rn_ref rfl, rn_int rfl, rn_int rfl, rn_int rfl, trivial⟩ (rw_box (cs := [.sl (List.map encS p0.Sectors), .sl (List.map encWrite p0.Wait)]) (ds := [.sl (List.map encS p0.Sectors), .sl (List.map encWrite p0.Wait)]) rfl ⟨rn_sl encS_p rfl, rn_sl encWrite_p rfl, trivial⟩ (rw_arr rfl encChoice_p rfl (rw_nil))))
      · replace h := ite_F h hb_17
        refine T.skip ?_
        exact T.weakR (hK1 x4 h) (Weak.mkN [] [0, 1] (by decide) (none_kept _) rfl ⟨rn_int rfl, rn_ptr rfl, rn_ref rfl, rn_int rfl, rn_int rfl, rn_int rfl, trivial⟩ (rw_box (cs := [.sl (List.map encS p0.Sectors), .sl (List.map encWrite p0.Wait)]) (ds := [.sl (List.map encS p0.Sectors), .sl (List.map encWrite p0.Wait)]) rfl ⟨rn_sl encS_p rfl, rn_sl encWrite_p rfl, trivial⟩ (rw_arr rfl encChoice_p rfl (rw_nil))))
    · rcases bool_cases (x4 == 0) with hb_15 | hb_15
      · rcases bool_cases (decide (p1 < 0)) with hb_16 | hb_16
        · refine T.region ?_
          refine RS.op rfl (OP.q rfl (v_move (v := .int .i64 x4) rfl ?_))
          refine RS.op rfl (OP.q rfl (v_eql rfl rfl ?_))
          refine RS.op rfl (OP.q rfl (v_move (v := .bool (x4 == 0)) rfl ?_))
          refine RS.yes rfl rfl rfl hb_15 (OP.q rfl (v_move (v := .int .i64 p1) rfl ?_))
          refine RS.yes rfl rfl rfl hb_15 (OP.q rfl (v_lss rfl rfl ?_))
          refine RS.yes rfl rfl rfl hb_15 (OP.q rfl (v_move (v := .bool (decide (p1 < 0))) rfl ?_))
          refine RS.no rfl rfl rfl hb_16 ?_
          refine RS.no rfl rfl rfl hb_16 ?_
          refine RS.yes rfl rfl rfl hb_15 (OP.q rfl (v_pickT (v := .bool true) rfl hb_16 rfl ?_))
          refine RS.op rfl (OP.q rfl (v_pickT (v := .bool true) rfl hb_15 rfl ?_))
          refine RS.nil ?_
          exact T.weakR (hK () trivial) (Weak.mkN [] [0, 1] (by decide) (none_kept _) rfl ⟨rn_int rfl, rn_ptr rfl, rn_ref rfl, rn_int rfl, rn_int rfl, rn_int rfl, rn_bool (by simp only [hb_15, hb_16, Bool.true_or, Bool.or_true, Bool.false_or, Bool.or_false, Bool.true_and, Bool.and_true, Bool.false_and, Bool.and_false, Bool.not_true, Bool.not_false, if_true, if_false, Bool.false_eq_true, reduceIte]), trivial⟩ (rw_box (cs := [.sl (List.map encS p0.Sectors), .sl (List.map encWrite p0.Wait)]) (ds := [.sl (List.map encS p0.Sectors), .sl (List.map encWrite p0.Wait)]) rfl ⟨rn_sl encS_p rfl, rn_sl encWrite_p rfl, trivial⟩ (rw_arr rfl encChoice_p rfl (rw_nil))))
        · refine T.region ?_
          refine RS.op rfl (OP.q rfl (v_move (v := .int .i64 x4) rfl ?_))
          refine RS.op rfl (OP.q rfl (v_eql rfl rfl ?_))
          refine RS.op rfl (OP.q rfl (v_move (v := .bool (x4 == 0)) rfl ?_))
          refine RS.yes rfl rfl rfl hb_15 (OP.q rfl (v_move (v := .int .i64 p1) rfl ?_))
          refine RS.yes rfl rfl rfl hb_15 (OP.q rfl (v_lss rfl rfl ?_))
          refine RS.yes rfl rfl rfl hb_15 (OP.q rfl (v_move (v := .bool (decide (p1 < 0))) rfl ?_))
          refine RS.yes rfl rfl rfl hb_16 (OP.q rfl (v_move (v := .int .i64 p1) rfl ?_))
          refine RS.yes rfl rfl rfl hb_16 (OP.q rfl (v_gtr rfl rfl ?_))
          refine RS.yes rfl rfl rfl hb_15 (OP.q rfl (v_pickF (v := .bool (decide (p1 > 200))) rfl hb_16 rfl ?_))
          refine RS.op rfl (OP.q rfl (v_pickT (v := .bool (decide (p1 > 200))) rfl hb_15 rfl ?_))
          refine RS.nil ?_
          exact T.weakR (hK () trivial) (Weak.mkN [] [0, 1] (by decide) (none_kept _) rfl ⟨rn_int rfl, rn_ptr rfl, rn_ref rfl, rn_int rfl, rn_int rfl, rn_int rfl, rn_bool (by simp only [hb_15, hb_16, Bool.true_or, Bool.or_true, Bool.false_or, Bool.or_false, Bool.true_and, Bool.and_true, Bool.false_and, Bool.and_false, Bool.not_true, Bool.not_false, if_true, if_false, Bool.false_eq_true, reduceIte]), trivial⟩ (rw_box (cs := [.sl (List.map encS p0.Sectors), .sl (List.map encWrite p0.Wait)]) (ds := [.sl (List.map encS p0.Sectors), .sl (List.map encWrite p0.Wait)]) rfl ⟨rn_sl encS_p rfl, rn_sl encWrite_p rfl, trivial⟩ (rw_arr rfl encChoice_p rfl (rw_nil))))
      · refine T.region ?_
        refine RS.op rfl (OP.q rfl (v_move (v := .int .i64 x4) rfl ?_))
        refine RS.op rfl (OP.q rfl (v_eql rfl rfl ?_))
        refine RS.op rfl (OP.q rfl (v_move (v := .bool (x4 == 0)) rfl ?_))
        refine RS.no rfl rfl rfl hb_15 ?_
        refine RS.no rfl rfl rfl hb_15 ?_
        refine RS.no rfl rfl rfl hb_15 ?_
        refine RS.nou rfl rfl rfl ?_
        refine RS.nou rfl rfl rfl ?_
        refine RS.no rfl rfl rfl hb_15 ?_
        refine RS.op rfl (OP.q rfl (v_pickF (v := .bool false) rfl hb_15 rfl ?_))
        refine RS.nil ?_
        exact T.weakR (hK () trivial) (Weak.mkN [] [0, 1] (by decide) (none_kept _) rfl ⟨rn_int rfl, rn_ptr rfl, rn_ref rfl, rn_int rfl, rn_int rfl, rn_int rfl, rn_bool (by simp only [hb_15, Bool.true_or, Bool.or_true, Bool.false_or, Bool.or_false, Bool.true_and, Bool.and_true, Bool.false_and, Bool.and_false, Bool.not_true, Bool.not_false, if_true, if_false, Bool.false_eq_true, reduceIte]), trivial⟩ (rw_box (cs := [.sl (List.map encS p0.Sectors), .sl (List.map encWrite p0.Wait)]) (ds := [.sl (List.map encS p0.Sectors), .sl (List.map encWrite p0.Wait)]) rfl ⟨rn_sl encS_p rfl, rn_sl encWrite_p rfl, trivial⟩ (rw_arr rfl encChoice_p rfl (rw_nil))))
end Go.Proofs.Ytegkmfokfakeiaa
