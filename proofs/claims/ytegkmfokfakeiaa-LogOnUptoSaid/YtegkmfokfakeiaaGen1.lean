/-
  The code computes these functions. Printed by a program of ours (wip/gen.py).
-/
import Derived.Test.YtegkmfokfakeiaaOy
import Derived.Test.YtegkmfokfakeiaaEnc
import Derived.Test.YtegkmfokfakeiaaSh
namespace Go.Proofs.Ytegkmfokfakeiaa
open Go.RowKit
set_option linter.unusedVariables false
set_option linter.unusedSimpArgs false
set_option maxRecDepth 100000
theorem disk_Check_c (p0 : Disk) (r : Int) (h : disk_Check p0 = some r) : Fn Try.prog 54 [.agg [.sl (List.map encS p0.Sectors), .sl (List.map encWrite p0.Wait)]] (.int .i64 r) := by
  unfold disk_Check at h
  refine fn_of_T (N := 0) rfl Try.func54 rfl (by kernel_rfl) Try.ntmps54 rfl ?_
  show T _ _ _ _ (mkA 48 [(0, .agg [.sl (List.map encS p0.Sectors), .sl (List.map encWrite p0.Wait)])]) []
  refine T.seq ?_
  refine T.region ?_
  refine RS.op rfl (o_box (cs := [.sl (List.map encS p0.Sectors), .sl (List.map encWrite p0.Wait)]) rfl rfl (aw' := [.box [.sl (List.map encS p0.Sectors), .sl (List.map encWrite p0.Wait)]]) rfl ?_)
  refine RS.op rfl (OP.q rfl (v_assign (v := .int .i64 0) rfl ?_))
  refine RS.nil ?_
  refine T.seq ?_
  refine T.join (Z := Unit) (fun _ => mkA 48 [(1, .ptr 0 0), (16, .bool ((decide (((p0.Sectors).length : Int) > 200)) || decide (((p0.Wait).length : Int) > 300)))]) (fun _ => [.box [.sl (List.map encS p0.Sectors), .sl (List.map encWrite p0.Wait)]]) (fun _ => True) (fun _ _ => ?_) (fun hK => ?_)
  · show T _ _ _ _ (mkA 48 [(1, .ptr 0 0), (16, .bool ((decide (((p0.Sectors).length : Int) > 200)) || decide (((p0.Wait).length : Int) > 300)))]) [.box [.sl (List.map encS p0.Sectors), .sl (List.map encWrite p0.Wait)]]
    refine T.cond (b := ((decide (((p0.Sectors).length : Int) > 200)) || decide (((p0.Wait).length : Int) > 300))) rfl (fun hb_2 => ?_) (fun hb_2 => ?_)
    · replace h := ite_T h hb_2
      refine T.seq ?_
      refine T.region ?_
      refine RS.op rfl (OP.q rfl (v_assign (v := .int .i64 2) rfl ?_))
      refine RS.nil ?_
      refine T.ret' (R := ?R3) ?hq3 ?_
      case hq3 => repeat (first | exact RetIs.base | refine RetIs.thn ?_ | refine RetIs.blk ?_ | refine RetIs.lq ?_)
      refine res_tmpA (v := .int .i64 2) rfl ?_
      refine res_done ?_
      exact ret_data (v := .int .i64 2) rfl (pure_int _ _) ⟨congrArg (fun r : Int => (.int .i64 r : AV)) (Option.some.inj h), rfl⟩
    · replace h := ite_F h hb_2
      refine T.skip ?_
      refine T.seq ?_
      refine T.seq ?_
      refine T.region ?_
      refine RS.op rfl (OP.q rfl (v_fieldAddr_ptr Ty.f25_0 rfl (off' := 0) rfl ?_))
      refine RS.op rfl (o_load_ptr rfl rfl (loadRow1 Ty.k22 (c := .sl (List.map encS p0.Sectors)) rfl ?_))
      refine RS.op rfl (OP.q rfl (v_len_sl Ty.s22 rfl ?_))
      refine RS.op rfl (OP.q rfl (v_move (v := .int .i64 0) rfl ?_))
      refine RS.nil ?_
      refine T.block ?_
      refine T.iter (fun ss_10 : Int => mkA 48 [(1, .ptr 0 0), (18, .sl (List.map encS p0.Sectors)), (19, .int .i64 ((p0.Sectors).length : Int)), (20, .int .i64 ss_10)]) (fun ss_10 => [.box [.sl (List.map encS p0.Sectors), .sl (List.map encWrite p0.Wait)]]) h (Weak.mkN [] [0] (by decide) (none_kept _) rfl ⟨rn_ptr rfl, rn_sl encS_p rfl, rn_int rfl, rn_int rfl, trivial⟩ (rw_box (cs := [.sl (List.map encS p0.Sectors), .sl (List.map encWrite p0.Wait)]) (ds := [.sl (List.map encS p0.Sectors), .sl (List.map encWrite p0.Wait)]) rfl ⟨rn_sl encS_p rfl, rn_sl encWrite_p rfl, trivial⟩ (rw_nil))) (fun ss_10 v_11 h hv_11 => ?_)
      revert hv_11 h; revert ss_10; intro s2 h hv_11
      replace h : disk_Check_l2 p0 s2 = some v_11 := h
      show T _ _ _ _ (mkA 48 [(1, .ptr 0 0), (18, .sl (List.map encS p0.Sectors)), (19, .int .i64 ((p0.Sectors).length : Int)), (20, .int .i64 s2)]) [.box [.sl (List.map encS p0.Sectors), .sl (List.map encWrite p0.Wait)]]
      unfold disk_Check_l2 at h
      refine T.seq ?_
      refine T.region ?_
      refine RS.op rfl (OP.q rfl (v_lss rfl rfl ?_))
      refine RS.nil ?_
      refine T.seq ?_
      refine T.cond (b := decide (s2 < ((p0.Sectors).length : Int))) rfl (fun hb_12 => ?_) (fun hb_12 => ?_)
      · replace h := ite_T h hb_12
        refine T.skip ?_
        refine T.seq ?_
        refine T.block ?_
        refine T.seq ?_
        obtain ⟨x4, hx4, h⟩ := bind_some h
        refine T.region ?_
        refine RS.op rfl (OP.q rfl (v_index_sl Ty.s22 (fun _ => rfl) rfl rfl hx4 ?_))
        refine RS.op rfl (o_load_elt rfl (loadRow1 Ty.k9 (c := .str x4) rfl ?_))
        refine RS.op rfl (OP.q rfl (v_assign (v := .str x4) rfl ?_))
        refine RS.nil ?_
        refine T.seq ?_
        refine T.region ?_
        refine RS.op rfl (OP.q rfl (v_move (v := .str x4) rfl ?_))
        refine RS.op rfl (OP.q rfl (v_len_str Try.underlying9 rfl ?_))
        refine RS.op rfl (OP.q rfl (v_gtr rfl rfl ?_))
        refine RS.nil ?_
        refine T.cond (b := decide (((x4).length : Int) > 64)) rfl (fun hb_13 => ?_) (fun hb_13 => ?_)
        · replace h := ite_T h hb_13
          refine T.seq ?_
          refine T.region ?_
          refine RS.op rfl (OP.q rfl (v_assign (v := .int .i64 2) rfl ?_))
          refine RS.nil ?_
          refine T.ret' (R := ?R14) ?hq14 ?_
          case hq14 => repeat (first | exact RetIs.base | refine RetIs.thn ?_ | refine RetIs.blk ?_ | refine RetIs.lq ?_)
          obtain ⟨w_15, h, hw_15⟩ := map_inr h
          replace h := h.trans (congrArg some (hv_11 _ hw_15))
          refine res_tmpA (v := .int .i64 2) rfl ?_
          refine res_done ?_
          exact ret_data (v := .int .i64 2) rfl (pure_int _ _) ⟨congrArg (fun r : Int => (.int .i64 r : AV)) (Option.some.inj h), rfl⟩
        · replace h := ite_F h hb_13
          refine T.skip ?_
          refine T.region ?_
          refine RS.op rfl (OP.q rfl (v_add rfl rfl ?_))
          refine RS.op rfl (OP.q rfl (v_move (v := .int .i64 (IntKind.i64.wrap (s2 + 1))) rfl ?_))
          refine RS.nil ?_
          exact ⟨IntKind.i64.wrap (s2 + 1), (Option.some.inj h).symm, Weak.mkN [] [0] (by decide) (none_kept _) rfl ⟨rn_ptr rfl, rn_sl encS_p rfl, rn_int rfl, rn_int rfl, trivial⟩ (rw_box (cs := [.sl (List.map encS p0.Sectors), .sl (List.map encWrite p0.Wait)]) (ds := [.sl (List.map encS p0.Sectors), .sl (List.map encWrite p0.Wait)]) rfl ⟨rn_sl encS_p rfl, rn_sl encWrite_p rfl, trivial⟩ (rw_nil))⟩
      · replace h := ite_F h hb_12
        refine T.exit ?_
        obtain ⟨w_16, h, hw_16⟩ := map_inr h
        replace h := h.trans (congrArg some (hv_11 _ hw_16))
        refine T.seq ?_
        refine T.seq ?_
        refine T.region ?_
        refine RS.op rfl (OP.q rfl (v_fieldAddr_ptr Ty.f25_1 rfl (off' := 1) rfl ?_))
        refine RS.op rfl (o_load_ptr rfl rfl (loadRow1 Ty.k23 (c := .sl (List.map encWrite p0.Wait)) rfl ?_))
        refine RS.op rfl (OP.q rfl (v_len_sl Ty.s23 rfl ?_))
        refine RS.op rfl (OP.q rfl (v_move (v := .int .i64 0) rfl ?_))
        refine RS.nil ?_
        refine T.block ?_
        refine T.iter (fun ss_29 : Int => mkA 48 [(29, .sl (List.map encWrite p0.Wait)), (30, .int .i64 ((p0.Wait).length : Int)), (31, .int .i64 ss_29)]) (fun ss_29 => []) h (Weak.mkN [] [] (by decide) (none_kept _) rfl ⟨rn_sl encWrite_p rfl, rn_int rfl, rn_int rfl, trivial⟩ (rw_nil)) (fun ss_29 v_30 h hv_30 => ?_)
        revert hv_30 h; revert ss_29; intro s5 h hv_30
        replace h : disk_Check_l1 p0 s5 = some v_30 := h
        show T _ _ _ _ (mkA 48 [(29, .sl (List.map encWrite p0.Wait)), (30, .int .i64 ((p0.Wait).length : Int)), (31, .int .i64 s5)]) []
        unfold disk_Check_l1 at h
        refine T.seq ?_
        refine T.region ?_
        refine RS.op rfl (OP.q rfl (v_lss rfl rfl ?_))
        refine RS.nil ?_
        refine T.seq ?_
        refine T.cond (b := decide (s5 < ((p0.Wait).length : Int))) rfl (fun hb_31 => ?_) (fun hb_31 => ?_)
        · replace h := ite_T h hb_31
          refine T.skip ?_
          refine T.seq ?_
          refine T.block ?_
          refine T.seq ?_
          obtain ⟨x7, hx7, h⟩ := bind_some h
          refine T.region ?_
          refine RS.op rfl (OP.q rfl (v_index_sl Ty.s23 (fun _ => rfl) rfl rfl hx7 ?_))
          refine RS.op rfl (o_load_elt rfl (loadRowA Ty.k42 Ty.c42 rfl (cs := [.int .i64 x7.At, .str x7.Bytes]) rfl ?_))
          refine RS.op rfl (o_alloc Ty.z42 rfl (aw' := [.box [.int .i64 0, .str []]]) rfl ?_)
          refine RS.op rfl (o_store_ptr Ty.c42 Ty.i42 rfl (vs := [.int .i64 x7.At, .str x7.Bytes]) rfl rfl rfl rfl (cs' := [.int .i64 x7.At, .str x7.Bytes]) rfl (aw' := [.box [.int .i64 x7.At, .str x7.Bytes]]) rfl ?_)
          refine RS.nil ?_
          refine T.seq ?_
          refine T.join (Z := Unit) (fun _ => mkA 48 [(6, .ptr 0 0), (29, .sl (List.map encWrite p0.Wait)), (30, .int .i64 ((p0.Wait).length : Int)), (31, .int .i64 s5), (42, .bool ((decide (x7.At < 0)) || decide (x7.At ≥ 200)))]) (fun _ => [.box [.int .i64 x7.At, .str x7.Bytes]]) (fun _ => True) (fun _ _ => ?_) (fun hK => ?_)
          · show T _ _ _ _ (mkA 48 [(6, .ptr 0 0), (29, .sl (List.map encWrite p0.Wait)), (30, .int .i64 ((p0.Wait).length : Int)), (31, .int .i64 s5), (42, .bool ((decide (x7.At < 0)) || decide (x7.At ≥ 200)))]) [.box [.int .i64 x7.At, .str x7.Bytes]]
            refine T.cond (b := ((decide (x7.At < 0)) || decide (x7.At ≥ 200))) rfl (fun hb_33 => ?_) (fun hb_33 => ?_)
            · replace h := ite_T h hb_33
              refine T.seq ?_
              refine T.region ?_
              refine RS.op rfl (OP.q rfl (v_assign (v := .int .i64 3) rfl ?_))
              refine RS.nil ?_
              refine T.ret' (R := ?R34) ?hq34 ?_
              case hq34 => repeat (first | exact RetIs.base | refine RetIs.thn ?_ | refine RetIs.blk ?_ | refine RetIs.lq ?_)
              obtain ⟨w_35, h, hw_35⟩ := map_inr h
              replace h := h.trans (congrArg some (hv_30 _ hw_35))
              refine res_tmpA (v := .int .i64 3) rfl ?_
              refine res_done ?_
              exact ret_data (v := .int .i64 3) rfl (pure_int _ _) ⟨congrArg (fun r : Int => (.int .i64 r : AV)) (Option.some.inj h), rfl⟩
            · replace h := ite_F h hb_33
              refine T.skip ?_
              refine T.seq ?_
              refine T.region ?_
              refine RS.op rfl (OP.q rfl (v_fieldAddr_ptr Ty.f42_1 rfl (off' := 1) rfl ?_))
              refine RS.op rfl (o_load_ptr rfl rfl (loadRow1 Ty.k9 (c := .str x7.Bytes) rfl ?_))
              refine RS.op rfl (OP.q rfl (v_len_str Try.underlying9 rfl ?_))
              refine RS.op rfl (OP.q rfl (v_gtr rfl rfl ?_))
              refine RS.nil ?_
              refine T.cond (b := decide (((x7.Bytes).length : Int) > 64)) rfl (fun hb_36 => ?_) (fun hb_36 => ?_)
              · replace h := ite_T h hb_36
                refine T.seq ?_
                refine T.region ?_
                refine RS.op rfl (OP.q rfl (v_assign (v := .int .i64 2) rfl ?_))
                refine RS.nil ?_
                refine T.ret' (R := ?R37) ?hq37 ?_
                case hq37 => repeat (first | exact RetIs.base | refine RetIs.thn ?_ | refine RetIs.blk ?_ | refine RetIs.lq ?_)
                obtain ⟨w_38, h, hw_38⟩ := map_inr h
                replace h := h.trans (congrArg some (hv_30 _ hw_38))
                refine res_tmpA (v := .int .i64 2) rfl ?_
                refine res_done ?_
                exact ret_data (v := .int .i64 2) rfl (pure_int _ _) ⟨congrArg (fun r : Int => (.int .i64 r : AV)) (Option.some.inj h), rfl⟩
              · replace h := ite_F h hb_36
                refine T.skip ?_
                refine T.region ?_
                refine RS.op rfl (OP.q rfl (v_add rfl rfl ?_))
                refine RS.op rfl (OP.q rfl (v_move (v := .int .i64 (IntKind.i64.wrap (s5 + 1))) rfl ?_))
                refine RS.nil ?_
                exact ⟨IntKind.i64.wrap (s5 + 1), (Option.some.inj h).symm, Weak.mkN [] [] (by decide) (none_kept _) rfl ⟨rn_sl encWrite_p rfl, rn_int rfl, rn_int rfl, trivial⟩ (rw_nil)⟩
          · rcases bool_cases (decide (x7.At < 0)) with hb_32 | hb_32
            · refine T.region ?_
              refine RS.op rfl (OP.q rfl (v_fieldAddr_ptr Ty.f42_0 rfl (off' := 0) rfl ?_))
              refine RS.op rfl (o_load_ptr rfl rfl (loadRow1 Ty.k3 (c := .int .i64 x7.At) rfl ?_))
              refine RS.op rfl (OP.q rfl (v_lss rfl rfl ?_))
              refine RS.op rfl (OP.q rfl (v_move (v := .bool (decide (x7.At < 0))) rfl ?_))
              refine RS.no rfl rfl rfl hb_32 ?_
              refine RS.no rfl rfl rfl hb_32 ?_
              refine RS.no rfl rfl rfl hb_32 ?_
              refine RS.op rfl (OP.q rfl (v_pickT (v := .bool true) rfl hb_32 rfl ?_))
              refine RS.nil ?_
              exact T.weakR (hK () trivial) (Weak.mkN [] [0] (by decide) (none_kept _) rfl ⟨rn_ptr rfl, rn_sl encWrite_p rfl, rn_int rfl, rn_int rfl, rn_bool (by simp only [hb_32, Bool.true_or, Bool.or_true, Bool.false_or, Bool.or_false, Bool.true_and, Bool.and_true, Bool.false_and, Bool.and_false, Bool.not_true, Bool.not_false, if_true, if_false, Bool.false_eq_true, reduceIte]), trivial⟩ (rw_box (cs := [.int .i64 x7.At, .str x7.Bytes]) (ds := [.int .i64 x7.At, .str x7.Bytes]) rfl ⟨rn_int rfl, rn_str rfl, trivial⟩ (rw_nil)))
            · refine T.region ?_
              refine RS.op rfl (OP.q rfl (v_fieldAddr_ptr Ty.f42_0 rfl (off' := 0) rfl ?_))
              refine RS.op rfl (o_load_ptr rfl rfl (loadRow1 Ty.k3 (c := .int .i64 x7.At) rfl ?_))
              refine RS.op rfl (OP.q rfl (v_lss rfl rfl ?_))
              refine RS.op rfl (OP.q rfl (v_move (v := .bool (decide (x7.At < 0))) rfl ?_))
              refine RS.yes rfl rfl rfl hb_32 (OP.q rfl (v_fieldAddr_ptr Ty.f42_0 rfl (off' := 0) rfl ?_))
              refine RS.yes rfl rfl rfl hb_32 (o_load_ptr rfl rfl (loadRow1 Ty.k3 (c := .int .i64 x7.At) rfl ?_))
              refine RS.yes rfl rfl rfl hb_32 (OP.q rfl (v_geq rfl rfl ?_))
              refine RS.op rfl (OP.q rfl (v_pickF (v := .bool (decide (x7.At ≥ 200))) rfl hb_32 rfl ?_))
              refine RS.nil ?_
              exact T.weakR (hK () trivial) (Weak.mkN [] [0] (by decide) (none_kept _) rfl ⟨rn_ptr rfl, rn_sl encWrite_p rfl, rn_int rfl, rn_int rfl, rn_bool (by simp only [hb_32, Bool.true_or, Bool.or_true, Bool.false_or, Bool.or_false, Bool.true_and, Bool.and_true, Bool.false_and, Bool.and_false, Bool.not_true, Bool.not_false, if_true, if_false, Bool.false_eq_true, reduceIte]), trivial⟩ (rw_box (cs := [.int .i64 x7.At, .str x7.Bytes]) (ds := [.int .i64 x7.At, .str x7.Bytes]) rfl ⟨rn_int rfl, rn_str rfl, trivial⟩ (rw_nil)))
        · replace h := ite_F h hb_31
          refine T.exit ?_
          obtain ⟨w_39, h, hw_39⟩ := map_inr h
          replace h := h.trans (congrArg some (hv_30 _ hw_39))
          refine T.seq ?_
          refine T.region ?_
          refine RS.op rfl (OP.q rfl (v_assign (v := .int .i64 0) rfl ?_))
          refine RS.nil ?_
          refine T.ret' (R := ?R40) ?hq40 ?_
          case hq40 => repeat (first | exact RetIs.base | refine RetIs.thn ?_ | refine RetIs.blk ?_ | refine RetIs.lq ?_)
          refine res_tmpA (v := .int .i64 0) rfl ?_
          refine res_done ?_
          exact ret_data (v := .int .i64 0) rfl (pure_int _ _) ⟨congrArg (fun r : Int => (.int .i64 r : AV)) (Option.some.inj h), rfl⟩
  · rcases bool_cases (decide (((p0.Sectors).length : Int) > 200)) with hb_1 | hb_1
    · refine T.region ?_
      refine RS.op rfl (OP.q rfl (v_fieldAddr_ptr Ty.f25_0 rfl (off' := 0) rfl ?_))
      refine RS.op rfl (o_load_ptr rfl rfl (loadRow1 Ty.k22 (c := .sl (List.map encS p0.Sectors)) rfl ?_))
      refine RS.op rfl (OP.q rfl (v_len_sl Ty.s22 rfl ?_))
      refine RS.op rfl (OP.q rfl (v_gtr rfl rfl ?_))
      refine RS.op rfl (OP.q rfl (v_move (v := .bool (decide (((p0.Sectors).length : Int) > 200))) rfl ?_))
      refine RS.no rfl rfl rfl hb_1 ?_
      refine RS.no rfl rfl rfl hb_1 ?_
      refine RS.no rfl rfl rfl hb_1 ?_
      refine RS.no rfl rfl rfl hb_1 ?_
      refine RS.op rfl (OP.q rfl (v_pickT (v := .bool true) rfl hb_1 rfl ?_))
      refine RS.nil ?_
      exact T.weakR (hK () trivial) (Weak.mkN [] [0] (by decide) (none_kept _) rfl ⟨rn_ptr rfl, rn_bool (by simp only [hb_1, Bool.true_or, Bool.or_true, Bool.false_or, Bool.or_false, Bool.true_and, Bool.and_true, Bool.false_and, Bool.and_false, Bool.not_true, Bool.not_false, if_true, if_false, Bool.false_eq_true, reduceIte]), trivial⟩ (rw_box (cs := [.sl (List.map encS p0.Sectors), .sl (List.map encWrite p0.Wait)]) (ds := [.sl (List.map encS p0.Sectors), .sl (List.map encWrite p0.Wait)]) rfl ⟨rn_sl encS_p rfl, rn_sl encWrite_p rfl, trivial⟩ (rw_nil)))
    · refine T.region ?_
      refine RS.op rfl (OP.q rfl (v_fieldAddr_ptr Ty.f25_0 rfl (off' := 0) rfl ?_))
      refine RS.op rfl (o_load_ptr rfl rfl (loadRow1 Ty.k22 (c := .sl (List.map encS p0.Sectors)) rfl ?_))
      refine RS.op rfl (OP.q rfl (v_len_sl Ty.s22 rfl ?_))
      refine RS.op rfl (OP.q rfl (v_gtr rfl rfl ?_))
      refine RS.op rfl (OP.q rfl (v_move (v := .bool (decide (((p0.Sectors).length : Int) > 200))) rfl ?_))
      refine RS.yes rfl rfl rfl hb_1 (OP.q rfl (v_fieldAddr_ptr Ty.f25_1 rfl (off' := 1) rfl ?_))
      refine RS.yes rfl rfl rfl hb_1 (o_load_ptr rfl rfl (loadRow1 Ty.k23 (c := .sl (List.map encWrite p0.Wait)) rfl ?_))
      refine RS.yes rfl rfl rfl hb_1 (OP.q rfl (v_len_sl Ty.s23 rfl ?_))
      refine RS.yes rfl rfl rfl hb_1 (OP.q rfl (v_gtr rfl rfl ?_))
      refine RS.op rfl (OP.q rfl (v_pickF (v := .bool (decide (((p0.Wait).length : Int) > 300))) rfl hb_1 rfl ?_))
      refine RS.nil ?_
      exact T.weakR (hK () trivial) (Weak.mkN [] [0] (by decide) (none_kept _) rfl ⟨rn_ptr rfl, rn_bool (by simp only [hb_1, Bool.true_or, Bool.or_true, Bool.false_or, Bool.or_false, Bool.true_and, Bool.and_true, Bool.false_and, Bool.and_false, Bool.not_true, Bool.not_false, if_true, if_false, Bool.false_eq_true, reduceIte]), trivial⟩ (rw_box (cs := [.sl (List.map encS p0.Sectors), .sl (List.map encWrite p0.Wait)]) (ds := [.sl (List.map encS p0.Sectors), .sl (List.map encWrite p0.Wait)]) rfl ⟨rn_sl encS_p rfl, rn_sl encWrite_p rfl, trivial⟩ (rw_nil)))
theorem frame_sum_c (p0 : List UInt8) (r : Int) (h : frame_sum p0 = some r) : Fn Try.prog 87 [.str p0] (.int .i64 r) := by
  unfold frame_sum at h
  refine fn_of_T (N := 0) rfl Try.func87 rfl (by kernel_rfl) Try.ntmps87 rfl ?_
  show T _ _ _ _ (mkA 29 [(0, .str p0)]) []
  refine T.seq ?_
  refine T.region ?_
  refine RS.op rfl (OP.q rfl (v_assign (v := .int .i64 0) rfl ?_))
  refine RS.nil ?_
  refine T.seq ?_
  refine T.region ?_
  refine RS.op rfl (OP.q rfl (v_assign (v := .int .i64 65535) rfl ?_))
  refine RS.nil ?_
  refine T.seq ?_
  refine T.seq ?_
  refine T.region ?_
  refine RS.op rfl (OP.q rfl (v_move (v := .str p0) rfl ?_))
  refine RS.op rfl (OP.q rfl (v_len_str Try.underlying9 rfl ?_))
  refine RS.op rfl (OP.q rfl (v_move (v := .int .i64 0) rfl ?_))
  refine RS.nil ?_
  refine T.block ?_
  refine T.iter (fun ss_21 : Int × Int => mkA 29 [(0, .str p0), (3, .int .i64 ss_21.1), (6, .int .i64 ((p0).length : Int)), (7, .int .i64 ss_21.2)]) (fun ss_21 => []) h (Weak.mkN [] [] (by decide) (none_kept _) rfl ⟨rn_str rfl, rn_int rfl, rn_int rfl, rn_int rfl, trivial⟩ (rw_nil)) (fun ss_21 v_22 h hv_22 => ?_)
  obtain ⟨s1, s2⟩ := ss_21
  replace h : frame_sum_l2 p0 s1 s2 = some v_22 := h
  show T _ _ _ _ (mkA 29 [(0, .str p0), (3, .int .i64 s1), (6, .int .i64 ((p0).length : Int)), (7, .int .i64 s2)]) []
  unfold frame_sum_l2 at h
  refine T.seq ?_
  refine T.region ?_
  refine RS.op rfl (OP.q rfl (v_lss rfl rfl ?_))
  refine RS.nil ?_
  refine T.seq ?_
  refine T.cond (b := decide (s2 < ((p0).length : Int))) rfl (fun hb_23 => ?_) (fun hb_23 => ?_)
  · replace h := ite_T h hb_23
    refine T.skip ?_
    refine T.seq ?_
    refine T.block ?_
    refine T.seq ?_
    refine T.region ?_
    refine RS.op rfl (OP.q rfl (v_move (v := .int .i64 s2) rfl ?_))
    refine RS.op rfl (OP.q rfl (v_assign (v := .int .i64 s2) rfl ?_))
    refine RS.nil ?_
    refine T.seq ?_
    obtain ⟨x5, hx5, h⟩ := bind_some h
    obtain ⟨x6, hx6, h⟩ := bind_some h
    refine T.region ?_
    refine RS.op rfl (OP.q rfl (v_move (v := .int .i64 s1) rfl ?_))
    refine RS.op rfl (OP.q rfl (v_move (v := .str p0) rfl ?_))
    refine RS.op rfl (OP.q rfl (v_move (v := .int .i64 s2) rfl ?_))
    refine RS.op rfl (OP.q rfl (v_index_str Try.underlying9 rfl rfl hx5 ?_))
    refine RS.op rfl (o_conv Try.underlying5 Try.underlying3 rfl ?_)
    refine RS.op rfl (OP.q rfl (v_shl rfl rfl hx6 ?_))
    refine RS.op rfl (OP.q rfl (v_xor rfl rfl ?_))
    refine RS.op rfl (OP.q rfl (v_assign (v := .int .i64 (ibits .xor .i64 s1 x6)) rfl ?_))
    refine RS.nil ?_
    refine T.seq ?_
    refine T.region ?_
    refine RS.op rfl (OP.q rfl (v_move (v := .int .i64 0) rfl ?_))
    refine RS.nil ?_
    refine T.block ?_
    refine T.iter (fun ss_28 : Int × Int => mkA 29 [(0, .str p0), (3, .int .i64 ss_28.1), (6, .int .i64 ((p0).length : Int)), (7, .int .i64 s2), (17, .int .i64 ss_28.2)]) (fun ss_28 => []) h (Weak.mkN [] [] (by decide) (none_kept _) rfl ⟨rn_str rfl, rn_int rfl, rn_int rfl, rn_int rfl, rn_int rfl, trivial⟩ (rw_nil)) (fun ss_28 v_29 h hv_29 => ?_)
    obtain ⟨s7, s8⟩ := ss_28
    replace h : frame_sum_l1 s2 s7 s8 = some v_29 := h
    show T _ _ _ _ (mkA 29 [(0, .str p0), (3, .int .i64 s7), (6, .int .i64 ((p0).length : Int)), (7, .int .i64 s2), (17, .int .i64 s8)]) []
    unfold frame_sum_l1 at h
    refine T.seq ?_
    refine T.region ?_
    refine RS.op rfl (OP.q rfl (v_lss rfl rfl ?_))
    refine RS.nil ?_
    refine T.seq ?_
    refine T.cond (b := decide (s8 < 8)) rfl (fun hb_30 => ?_) (fun hb_30 => ?_)
    · replace h := ite_T h hb_30
      refine T.skip ?_
      refine T.seq ?_
      refine T.block ?_
      refine T.seq ?_
      obtain ⟨x10, hx10, h⟩ := bind_some h
      refine T.region ?_
      refine RS.op rfl (OP.q rfl (v_move (v := .int .i64 s7) rfl ?_))
      refine RS.op rfl (OP.q rfl (v_shl rfl rfl hx10 ?_))
      refine RS.op rfl (OP.q rfl (v_assign (v := .int .i64 x10) rfl ?_))
      refine RS.nil ?_
      refine T.seq ?_
      refine T.region ?_
      refine RS.op rfl (OP.q rfl (v_move (v := .int .i64 x10) rfl ?_))
      refine RS.op rfl (OP.q rfl (v_and rfl rfl ?_))
      refine RS.op rfl (OP.q rfl (v_neq rfl rfl ?_))
      refine RS.nil ?_
      refine T.cond (b := (ibits .and .i64 x10 65536) != 0) rfl (fun hb_31 => ?_) (fun hb_31 => ?_)
      · replace h := ite_T h hb_31
        refine T.region ?_
        refine RS.op rfl (OP.q rfl (v_move (v := .int .i64 x10) rfl ?_))
        refine RS.op rfl (OP.q rfl (v_xor rfl rfl ?_))
        refine RS.op rfl (OP.q rfl (v_assign (v := .int .i64 (ibits .xor .i64 x10 69665)) rfl ?_))
        refine RS.nil ?_
        refine T.region ?_
        refine RS.op rfl (OP.q rfl (v_add rfl rfl ?_))
        refine RS.op rfl (OP.q rfl (v_move (v := .int .i64 (IntKind.i64.wrap (s8 + 1))) rfl ?_))
        refine RS.nil ?_
        exact ⟨(ibits .xor .i64 x10 69665, IntKind.i64.wrap (s8 + 1)), (Option.some.inj h).symm, Weak.mkN [] [] (by decide) (none_kept _) rfl ⟨rn_str rfl, rn_int rfl, rn_int rfl, rn_int rfl, rn_int rfl, trivial⟩ (rw_nil)⟩
      · replace h := ite_F h hb_31
        refine T.skip ?_
        refine T.region ?_
        refine RS.op rfl (OP.q rfl (v_add rfl rfl ?_))
        refine RS.op rfl (OP.q rfl (v_move (v := .int .i64 (IntKind.i64.wrap (s8 + 1))) rfl ?_))
        refine RS.nil ?_
        exact ⟨(x10, IntKind.i64.wrap (s8 + 1)), (Option.some.inj h).symm, Weak.mkN [] [] (by decide) (none_kept _) rfl ⟨rn_str rfl, rn_int rfl, rn_int rfl, rn_int rfl, rn_int rfl, trivial⟩ (rw_nil)⟩
    · replace h := ite_F h hb_30
      refine T.exit ?_
      obtain ⟨w_32, h, hw_32⟩ := map_inr h
      replace h := h.trans (congrArg some (hv_29 _ hw_32))
      refine T.region ?_
      refine RS.op rfl (OP.q rfl (v_add rfl rfl ?_))
      refine RS.op rfl (OP.q rfl (v_move (v := .int .i64 (IntKind.i64.wrap (s2 + 1))) rfl ?_))
      refine RS.nil ?_
      exact ⟨(s7, IntKind.i64.wrap (s2 + 1)), (Option.some.inj h).symm, Weak.mkN [] [] (by decide) (none_kept _) rfl ⟨rn_str rfl, rn_int rfl, rn_int rfl, rn_int rfl, trivial⟩ (rw_nil)⟩
  · replace h := ite_F h hb_23
    refine T.exit ?_
    obtain ⟨w_33, h, hw_33⟩ := map_inr h
    replace h := h.trans (congrArg some (hv_22 _ hw_33))
    refine T.seq ?_
    refine T.region ?_
    refine RS.op rfl (OP.q rfl (v_move (v := .int .i64 s1) rfl ?_))
    refine RS.op rfl (OP.q rfl (v_assign (v := .int .i64 s1) rfl ?_))
    refine RS.nil ?_
    refine T.ret' (R := ?R34) ?hq34 ?_
    case hq34 => repeat (first | exact RetIs.base | refine RetIs.thn ?_ | refine RetIs.blk ?_ | refine RetIs.lq ?_)
    refine res_tmpA (v := .int .i64 s1) rfl ?_
    refine res_done ?_
    exact ret_data (v := .int .i64 s1) rfl (pure_int _ _) ⟨congrArg (fun r : Int => (.int .i64 r : AV)) (Option.some.inj h), rfl⟩
theorem frame_Read_c (p0 : List UInt8) (r : (List (List UInt8)) × Int × Int) (h : frame_Read p0 = some r) : FnO Try.prog 56 [.str p0] (.tup [.ref 0, .int .i64 r.2.1, .int .i64 r.2.2]) [.arr 9 1 (List.map encS r.1)] := by
  unfold frame_Read at h
  refine fn_of_T (N := 0) rfl Try.func56 rfl (by kernel_rfl) Try.ntmps56 rfl ?_
  show T _ _ _ _ (mkA 66 [(0, .str p0)]) []
  refine T.seq ?_
  refine T.region ?_
  refine RS.op rfl (OP.q rfl (v_assign (v := .nils) rfl ?_))
  refine RS.op rfl (OP.q rfl (v_assign (v := .int .i64 0) rfl ?_))
  refine RS.op rfl (OP.q rfl (v_assign (v := .int .i64 0) rfl ?_))
  refine RS.nil ?_
  refine T.seq ?_
  refine T.seq ?_
  refine T.region ?_
  refine RS.op rfl (OP.q rfl (v_move (v := .str p0) rfl ?_))
  refine RS.op rfl (OP.q rfl (v_len_str Try.underlying9 rfl ?_))
  refine RS.op rfl (OP.q rfl (v_gtr rfl rfl ?_))
  refine RS.nil ?_
  refine T.cond (b := decide (((p0).length : Int) > 12800)) rfl (fun hb_1 => ?_) (fun hb_1 => ?_)
  · replace h := ite_T h hb_1
    refine T.seq ?_
    refine T.region ?_
    refine RS.op rfl (OP.q rfl (v_assign (v := .nils) rfl ?_))
    refine RS.op rfl (OP.q rfl (v_assign (v := .int .i64 0) rfl ?_))
    refine RS.op rfl (OP.q rfl (v_assign (v := .int .i64 2) rfl ?_))
    refine RS.nil ?_
    refine T.ret' (R := ?R2) ?hq2 ?_
    case hq2 => repeat (first | exact RetIs.base | refine RetIs.thn ?_ | refine RetIs.blk ?_ | refine RetIs.lq ?_)
    refine res_tmpA (v := .nils) rfl ?_
    refine res_tmpA (v := .int .i64 0) rfl ?_
    refine res_tmpA (v := .int .i64 2) rfl ?_
    refine res_done ?_
    exact ret_own (.tup [.ref 0, .int .i64 r.2.1, .int .i64 r.2.2]) [(0, 9, 1)] [0] (by decide) (none_kept _) rfl (rn_tup ⟨rn_ref rfl, rn_int (congrArg (fun r : (List (List UInt8)) × Int × Int => r.2.1) (Option.some.inj h)).symm, rn_int (congrArg (fun r : (List (List UInt8)) × Int × Int => r.2.2) (Option.some.inj h)).symm, trivial⟩) (rw_arr (en := encS) (ys := []) rfl encS_p (congrArg (fun r : (List (List UInt8)) × Int × Int => r.1) (Option.some.inj h)).symm (rw_nil)) ⟨rfl, rfl⟩
  · replace h := ite_F h hb_1
    refine T.skip ?_
    refine T.seq ?_
    refine T.block ?_
    refine T.iter (fun ss_13 : Int × (List (List UInt8)) => mkA 66 [(0, .str p0), (2, .ref 0), (3, .int .i64 ss_13.1)]) (fun ss_13 => [.arr 9 1 (List.map encS ss_13.2)]) h (Weak.mkN [(2, 9, 1)] [0] (by decide) (none_kept _) rfl ⟨rn_str rfl, rn_ref rfl, rn_int rfl, trivial⟩ (rw_arr (en := encS) (ys := []) rfl encS_p rfl (rw_nil))) (fun ss_13 v_14 h hv_14 => ?_)
    obtain ⟨s1, s2⟩ := ss_13
    replace h : frame_Read_l1 p0 s1 s2 = some v_14 := h
    show T _ _ _ _ (mkA 66 [(0, .str p0), (2, .ref 0), (3, .int .i64 s1)]) [.arr 9 1 (List.map encS s2)]
    unfold frame_Read_l1 at h
    refine T.seq ?_
    refine T.seq ?_
    refine T.region ?_
    refine RS.op rfl (OP.q rfl (v_move (v := .int .i64 s1) rfl ?_))
    refine RS.op rfl (OP.q rfl (v_move (v := .str p0) rfl ?_))
    refine RS.op rfl (OP.q rfl (v_len_str Try.underlying9 rfl ?_))
    refine RS.op rfl (OP.q rfl (v_lss rfl rfl ?_))
    refine RS.nil ?_
    refine T.cond (b := decide (s1 < ((p0).length : Int))) rfl (fun hb_15 => ?_) (fun hb_15 => ?_)
    · replace h := ite_T h hb_15
      refine T.skip ?_
      refine T.block ?_
      refine T.seq ?_
      obtain ⟨x4, hx4, h⟩ := bind_some h
      refine T.region ?_
      refine RS.op rfl (OP.q rfl (v_move (v := .str p0) rfl ?_))
      refine RS.op rfl (OP.q rfl (v_move (v := .int .i64 s1) rfl ?_))
      refine RS.op rfl (o_slice_str Try.underlying9 rfl rfl rfl hx4 ?_)
      refine RS.op rfl (OP.q rfl (v_assign (v := .str x4) rfl ?_))
      refine RS.nil ?_
      refine T.seq ?_
      obtain ⟨x6, hx6, h⟩ := bind_some h
      refine T.region ?_
      refine RS.op rfl (OP.q rfl (v_move (v := .str x4) rfl ?_))
      refine RS.op rfl (OP.q rfl (v_index_str Try.underlying9 rfl rfl hx6 ?_))
      refine RS.op rfl (o_conv Try.underlying5 Try.underlying3 rfl ?_)
      refine RS.op rfl (OP.q rfl (v_assign (v := .int .i64 (IntKind.i64.wrap (x6.toNat : Int))) rfl ?_))
      refine RS.nil ?_
      refine T.seq ?_
      refine T.join (Z := Unit) (fun _ => mkA 66 [(0, .str p0), (2, .ref 0), (3, .int .i64 s1), (5, .str x4), (6, .int .i64 (IntKind.i64.wrap (x6.toNat : Int))), (33, .bool ((decide ((IntKind.i64.wrap (x6.toNat : Int)) < 1)) || ((decide ((IntKind.i64.wrap (x6.toNat : Int)) > 60)) || decide (((x4).length : Int) < (IntKind.i64.wrap ((IntKind.i64.wrap (x6.toNat : Int)) + 3))))))]) (fun _ => [.arr 9 1 (List.map encS s2)]) (fun _ => True) (fun _ _ => ?_) (fun hK => ?_)
      · show T _ _ _ _ (mkA 66 [(0, .str p0), (2, .ref 0), (3, .int .i64 s1), (5, .str x4), (6, .int .i64 (IntKind.i64.wrap (x6.toNat : Int))), (33, .bool ((decide ((IntKind.i64.wrap (x6.toNat : Int)) < 1)) || ((decide ((IntKind.i64.wrap (x6.toNat : Int)) > 60)) || decide (((x4).length : Int) < (IntKind.i64.wrap ((IntKind.i64.wrap (x6.toNat : Int)) + 3))))))]) [.arr 9 1 (List.map encS s2)]
        refine T.cond (b := ((decide ((IntKind.i64.wrap (x6.toNat : Int)) < 1)) || ((decide ((IntKind.i64.wrap (x6.toNat : Int)) > 60)) || decide (((x4).length : Int) < (IntKind.i64.wrap ((IntKind.i64.wrap (x6.toNat : Int)) + 3)))))) rfl (fun hb_18 => ?_) (fun hb_18 => ?_)
        · replace h := ite_T h hb_18
          refine T.exit ?_
          obtain ⟨w_19, h, hw_19⟩ := map_inr h
          replace h := h.trans (congrArg some (hv_14 _ hw_19))
          refine T.seq ?_
          refine T.region ?_
          refine RS.op rfl (OP.q rfl (v_move (v := .ref 0) rfl ?_))
          refine RS.op rfl (OP.q rfl (v_move (v := .int .i64 s1) rfl ?_))
          refine RS.op rfl (OP.q rfl (v_assign (v := .ref 0) rfl ?_))
          refine RS.op rfl (OP.q rfl (v_assign (v := .int .i64 s1) rfl ?_))
          refine RS.op rfl (OP.q rfl (v_assign (v := .int .i64 0) rfl ?_))
          refine RS.nil ?_
          refine T.ret' (R := ?R20) ?hq20 ?_
          case hq20 => repeat (first | exact RetIs.base | refine RetIs.thn ?_ | refine RetIs.blk ?_ | refine RetIs.lq ?_)
          refine res_tmpA (v := .ref 0) rfl ?_
          refine res_tmpA (v := .int .i64 s1) rfl ?_
          refine res_tmpA (v := .int .i64 0) rfl ?_
          refine res_done ?_
          exact ret_own (.tup [.ref 0, .int .i64 r.2.1, .int .i64 r.2.2]) [] [0] (by decide) (none_kept _) rfl (rn_tup ⟨rn_ref rfl, rn_int (congrArg (fun r : (List (List UInt8)) × Int × Int => r.2.1) (Option.some.inj h)).symm, rn_int (congrArg (fun r : (List (List UInt8)) × Int × Int => r.2.2) (Option.some.inj h)).symm, trivial⟩) (rw_arr rfl encS_p (congrArg (fun r : (List (List UInt8)) × Int × Int => r.1) (Option.some.inj h)).symm (rw_nil)) ⟨rfl, rfl⟩
        · replace h := ite_F h hb_18
          refine T.skip ?_
          refine T.seq ?_
          obtain ⟨x10, hx10, h⟩ := bind_some h
          obtain ⟨x11, hx11, h⟩ := bind_some h
          refine T.region ?_
          refine RS.op rfl (OP.q rfl (v_move (v := .str x4) rfl ?_))
          refine RS.op rfl (OP.q rfl (v_move (v := .int .i64 (IntKind.i64.wrap (x6.toNat : Int))) rfl ?_))
          refine RS.op rfl (OP.q rfl (v_add rfl rfl ?_))
          refine RS.op rfl (o_slice_str Try.underlying9 rfl rfl rfl hx10 ?_)
          refine RS.op rfl (o_call (as0 := [.str x10]) (as1 := [.str x10]) (caps := []) (aw1 := [.arr 9 1 (List.map encS s2)]) rfl rfl rfl (k_flat (v := .int .i64 x11) (frame_sum_c x10 x11 hx11) (⟨pure_str _, trivial⟩) rfl ?_))
          refine RS.op rfl (OP.q rfl (v_assign (v := .int .i64 x11) rfl ?_))
          refine RS.nil ?_
          refine T.seq ?_
          refine T.seq ?_
          obtain ⟨x15, hx15, h⟩ := bind_some h
          obtain ⟨x16, hx16, h⟩ := bind_some h
          obtain ⟨x17, hx17, h⟩ := bind_some h
          refine T.drawn mixed (k := 14) rfl ?_
          refine RA.t0 (i := 0) (li' := #[true, false, false, false, false, false, false, false, false, false, false, false, false, false]) rfl (by decide +kernel) (by decide +kernel) (by decide +kernel) (by decide +kernel) rfl rfl (v_move (v := .str x4) rfl ?_)
          refine RA.t0 (i := 1) (li' := #[true, true, false, false, false, false, false, false, false, false, false, false, false, false]) rfl (by decide +kernel) (by decide +kernel) (by decide +kernel) (by decide +kernel) rfl rfl (v_move (v := .int .i64 (IntKind.i64.wrap (x6.toNat : Int))) rfl ?_)
          refine RA.t0 (i := 2) (li' := #[true, true, true, false, false, false, false, false, false, false, false, false, false, false]) rfl (by decide +kernel) (by decide +kernel) (by decide +kernel) (by decide +kernel) rfl rfl (v_add rfl rfl ?_)
          refine RA.t0 (i := 3) (li' := #[true, true, true, true, false, false, false, false, false, false, false, false, false, false]) rfl (by decide +kernel) (by decide +kernel) (by decide +kernel) (by decide +kernel) rfl rfl (v_index_str Try.underlying9 rfl rfl hx15 ?_)
          refine RA.t0 (i := 4) (li' := #[true, true, true, true, true, false, false, false, false, false, false, false, false, false]) rfl (by decide +kernel) (by decide +kernel) (by decide +kernel) (by decide +kernel) rfl rfl (v_conv Try.underlying5 Try.underlying3 rfl ?_)
          refine RA.t0 (i := 5) (li' := #[true, true, true, true, true, true, false, false, false, false, false, false, false, false]) rfl (by decide +kernel) (by decide +kernel) (by decide +kernel) (by decide +kernel) rfl rfl (v_shl rfl rfl hx16 ?_)
          refine RA.t0 (i := 6) (li' := #[true, true, true, true, true, true, true, false, false, false, false, false, false, false]) rfl (by decide +kernel) (by decide +kernel) (by decide +kernel) (by decide +kernel) rfl rfl (v_move (v := .str x4) rfl ?_)
          refine RA.t0 (i := 7) (li' := #[true, true, true, true, true, true, true, true, false, false, false, false, false, false]) rfl (by decide +kernel) (by decide +kernel) (by decide +kernel) (by decide +kernel) rfl rfl (v_move (v := .int .i64 (IntKind.i64.wrap (x6.toNat : Int))) rfl ?_)
          refine RA.t0 (i := 8) (li' := #[true, true, true, true, true, true, true, true, true, false, false, false, false, false]) rfl (by decide +kernel) (by decide +kernel) (by decide +kernel) (by decide +kernel) rfl rfl (v_add rfl rfl ?_)
          refine RA.t0 (i := 9) (li' := #[true, true, true, true, true, true, true, true, true, true, false, false, false, false]) rfl (by decide +kernel) (by decide +kernel) (by decide +kernel) (by decide +kernel) rfl rfl (v_index_str Try.underlying9 rfl rfl hx17 ?_)
          refine RA.t0 (i := 10) (li' := #[true, true, true, true, true, true, true, true, true, true, true, false, false, false]) rfl (by decide +kernel) (by decide +kernel) (by decide +kernel) (by decide +kernel) rfl rfl (v_conv Try.underlying5 Try.underlying3 rfl ?_)
          refine RA.t0 (i := 11) (li' := #[true, true, true, true, true, true, true, true, true, true, true, true, false, false]) rfl (by decide +kernel) (by decide +kernel) (by decide +kernel) (by decide +kernel) rfl rfl (v_or rfl rfl ?_)
          refine RA.t0 (i := 12) (li' := #[true, true, true, true, true, true, true, true, true, true, true, true, true, false]) rfl (by decide +kernel) (by decide +kernel) (by decide +kernel) (by decide +kernel) rfl rfl (v_move (v := .int .i64 x11) rfl ?_)
          refine RA.t0 (i := 13) (li' := #[true, true, true, true, true, true, true, true, true, true, true, true, true, true]) rfl (by decide +kernel) (by decide +kernel) (by decide +kernel) (by decide +kernel) rfl rfl (v_neq rfl rfl ?_)
          refine RA.done (by decide +kernel) ?_
          refine T.cond (b := (ibits .or .i64 x16 (IntKind.i64.wrap (x17.toNat : Int))) != x11) rfl (fun hb_21 => ?_) (fun hb_21 => ?_)
          · replace h := ite_T h hb_21
            refine T.exit ?_
            obtain ⟨w_22, h, hw_22⟩ := map_inr h
            replace h := h.trans (congrArg some (hv_14 _ hw_22))
            refine T.seq ?_
            refine T.region ?_
            refine RS.op rfl (OP.q rfl (v_move (v := .ref 0) rfl ?_))
            refine RS.op rfl (OP.q rfl (v_move (v := .int .i64 s1) rfl ?_))
            refine RS.op rfl (OP.q rfl (v_assign (v := .ref 0) rfl ?_))
            refine RS.op rfl (OP.q rfl (v_assign (v := .int .i64 s1) rfl ?_))
            refine RS.op rfl (OP.q rfl (v_assign (v := .int .i64 0) rfl ?_))
            refine RS.nil ?_
            refine T.ret' (R := ?R23) ?hq23 ?_
            case hq23 => repeat (first | exact RetIs.base | refine RetIs.thn ?_ | refine RetIs.blk ?_ | refine RetIs.lq ?_)
            refine res_tmpA (v := .ref 0) rfl ?_
            refine res_tmpA (v := .int .i64 s1) rfl ?_
            refine res_tmpA (v := .int .i64 0) rfl ?_
            refine res_done ?_
            exact ret_own (.tup [.ref 0, .int .i64 r.2.1, .int .i64 r.2.2]) [] [0] (by decide) (none_kept _) rfl (rn_tup ⟨rn_ref rfl, rn_int (congrArg (fun r : (List (List UInt8)) × Int × Int => r.2.1) (Option.some.inj h)).symm, rn_int (congrArg (fun r : (List (List UInt8)) × Int × Int => r.2.2) (Option.some.inj h)).symm, trivial⟩) (rw_arr rfl encS_p (congrArg (fun r : (List (List UInt8)) × Int × Int => r.1) (Option.some.inj h)).symm (rw_nil)) ⟨rfl, rfl⟩
          · replace h := ite_F h hb_21
            refine T.skip ?_
            refine T.seq ?_
            obtain ⟨x20, hx20, h⟩ := bind_some h
            obtain ⟨x21, hx21, h⟩ := bind_some h
            refine T.region ?_
            refine RS.op rfl (OP.q rfl (v_move (v := .ref 0) rfl ?_))
            refine RS.op rfl (OP.q rfl (v_move (v := .str x4) rfl ?_))
            refine RS.op rfl (OP.q rfl (v_move (v := .int .i64 (IntKind.i64.wrap (x6.toNat : Int))) rfl ?_))
            refine RS.op rfl (OP.q rfl (v_add rfl rfl ?_))
            refine RS.op rfl (o_slice_str Try.underlying9 rfl rfl rfl hx20 ?_)
            refine RS.op rfl (o_buildSlice (rows := List.map encS [x20]) (vs := [.str x20]) Ty.s22 Ty.z9 rfl rfl rfl rfl rfl (aw' := [.arr 9 1 (List.map encS s2), .arr 9 1 (List.map encS [x20])]) rfl ?_)
            refine RS.op rfl (o_app_ref (en := encS) (xs := s2) (ys := ([x20] : List (List UInt8))) Ty.s22 (fun _ => rfl) rfl rfl rfl hx21 rfl (aw' := [.dead, .dead, .arr 9 1 (List.map encS x21)]) rfl ?_)
            refine RS.op rfl (OP.q rfl (v_assign (v := .ref 2) rfl ?_))
            refine RS.nil ?_
            refine T.region ?_
            refine RS.op rfl (OP.q rfl (v_move (v := .int .i64 s1) rfl ?_))
            refine RS.op rfl (OP.q rfl (v_move (v := .int .i64 (IntKind.i64.wrap (x6.toNat : Int))) rfl ?_))
            refine RS.op rfl (OP.q rfl (v_add rfl rfl ?_))
            refine RS.op rfl (OP.q rfl (v_add rfl rfl ?_))
            refine RS.op rfl (OP.q rfl (v_assign (v := .int .i64 (IntKind.i64.wrap (s1 + (IntKind.i64.wrap ((IntKind.i64.wrap (x6.toNat : Int)) + 3))))) rfl ?_))
            refine RS.nil ?_
            exact ⟨(IntKind.i64.wrap (s1 + (IntKind.i64.wrap ((IntKind.i64.wrap (x6.toNat : Int)) + 3))), x21), (Option.some.inj h).symm, Weak.mkN [] [2] (by decide) (none_kept _) rfl ⟨rn_str rfl, rn_ref rfl, rn_int rfl, trivial⟩ (rw_arr rfl encS_p rfl (rw_nil))⟩
      · rcases bool_cases (decide ((IntKind.i64.wrap (x6.toNat : Int)) < 1)) with hb_16 | hb_16
        · refine T.region ?_
          refine RS.op rfl (OP.q rfl (v_move (v := .int .i64 (IntKind.i64.wrap (x6.toNat : Int))) rfl ?_))
          refine RS.op rfl (OP.q rfl (v_lss rfl rfl ?_))
          refine RS.op rfl (OP.q rfl (v_move (v := .bool (decide ((IntKind.i64.wrap (x6.toNat : Int)) < 1))) rfl ?_))
          refine RS.no rfl rfl rfl hb_16 ?_
          refine RS.no rfl rfl rfl hb_16 ?_
          refine RS.op rfl (OP.q rfl (v_pickT (v := .bool true) rfl hb_16 rfl ?_))
          refine RS.op rfl (OP.q rfl (v_move (v := .bool true) rfl ?_))
          refine RS.no rfl rfl rfl rfl ?_
          refine RS.no rfl rfl rfl rfl ?_
          refine RS.no rfl rfl rfl rfl ?_
          refine RS.no rfl rfl rfl rfl ?_
          refine RS.no rfl rfl rfl rfl ?_
          refine RS.op rfl (OP.q rfl (v_pickT (v := .bool true) rfl rfl rfl ?_))
          refine RS.nil ?_
          exact T.weakR (hK () trivial) (Weak.mkN [] [0] (by decide) (none_kept _) rfl ⟨rn_str rfl, rn_ref rfl, rn_int rfl, rn_str rfl, rn_int rfl, rn_bool (by simp only [hb_16, Bool.true_or, Bool.or_true, Bool.false_or, Bool.or_false, Bool.true_and, Bool.and_true, Bool.false_and, Bool.and_false, Bool.not_true, Bool.not_false, if_true, if_false, Bool.false_eq_true, reduceIte]), trivial⟩ (rw_arr rfl encS_p rfl (rw_nil)))
        · rcases bool_cases (decide ((IntKind.i64.wrap (x6.toNat : Int)) > 60)) with hb_17 | hb_17
          · refine T.region ?_
            refine RS.op rfl (OP.q rfl (v_move (v := .int .i64 (IntKind.i64.wrap (x6.toNat : Int))) rfl ?_))
            refine RS.op rfl (OP.q rfl (v_lss rfl rfl ?_))
            refine RS.op rfl (OP.q rfl (v_move (v := .bool (decide ((IntKind.i64.wrap (x6.toNat : Int)) < 1))) rfl ?_))
            refine RS.yes rfl rfl rfl hb_16 (OP.q rfl (v_move (v := .int .i64 (IntKind.i64.wrap (x6.toNat : Int))) rfl ?_))
            refine RS.yes rfl rfl rfl hb_16 (OP.q rfl (v_gtr rfl rfl ?_))
            refine RS.op rfl (OP.q rfl (v_pickF (v := .bool (decide ((IntKind.i64.wrap (x6.toNat : Int)) > 60))) rfl hb_16 rfl ?_))
            refine RS.op rfl (OP.q rfl (v_move (v := .bool (decide ((IntKind.i64.wrap (x6.toNat : Int)) > 60))) rfl ?_))
            refine RS.no rfl rfl rfl hb_17 ?_
            refine RS.no rfl rfl rfl hb_17 ?_
            refine RS.no rfl rfl rfl hb_17 ?_
            refine RS.no rfl rfl rfl hb_17 ?_
            refine RS.no rfl rfl rfl hb_17 ?_
            refine RS.op rfl (OP.q rfl (v_pickT (v := .bool true) rfl hb_17 rfl ?_))
            refine RS.nil ?_
            exact T.weakR (hK () trivial) (Weak.mkN [] [0] (by decide) (none_kept _) rfl ⟨rn_str rfl, rn_ref rfl, rn_int rfl, rn_str rfl, rn_int rfl, rn_bool (by simp only [hb_16, hb_17, Bool.true_or, Bool.or_true, Bool.false_or, Bool.or_false, Bool.true_and, Bool.and_true, Bool.false_and, Bool.and_false, Bool.not_true, Bool.not_false, if_true, if_false, Bool.false_eq_true, reduceIte]), trivial⟩ (rw_arr rfl encS_p rfl (rw_nil)))
          · refine T.region ?_
            refine RS.op rfl (OP.q rfl (v_move (v := .int .i64 (IntKind.i64.wrap (x6.toNat : Int))) rfl ?_))
            refine RS.op rfl (OP.q rfl (v_lss rfl rfl ?_))
            refine RS.op rfl (OP.q rfl (v_move (v := .bool (decide ((IntKind.i64.wrap (x6.toNat : Int)) < 1))) rfl ?_))
            refine RS.yes rfl rfl rfl hb_16 (OP.q rfl (v_move (v := .int .i64 (IntKind.i64.wrap (x6.toNat : Int))) rfl ?_))
            refine RS.yes rfl rfl rfl hb_16 (OP.q rfl (v_gtr rfl rfl ?_))
            refine RS.op rfl (OP.q rfl (v_pickF (v := .bool (decide ((IntKind.i64.wrap (x6.toNat : Int)) > 60))) rfl hb_16 rfl ?_))
            refine RS.op rfl (OP.q rfl (v_move (v := .bool (decide ((IntKind.i64.wrap (x6.toNat : Int)) > 60))) rfl ?_))
            refine RS.yes rfl rfl rfl hb_17 (OP.q rfl (v_move (v := .str x4) rfl ?_))
            refine RS.yes rfl rfl rfl hb_17 (OP.q rfl (v_len_str Try.underlying9 rfl ?_))
            refine RS.yes rfl rfl rfl hb_17 (OP.q rfl (v_move (v := .int .i64 (IntKind.i64.wrap (x6.toNat : Int))) rfl ?_))
            refine RS.yes rfl rfl rfl hb_17 (OP.q rfl (v_add rfl rfl ?_))
            refine RS.yes rfl rfl rfl hb_17 (OP.q rfl (v_lss rfl rfl ?_))
            refine RS.op rfl (OP.q rfl (v_pickF (v := .bool (decide (((x4).length : Int) < (IntKind.i64.wrap ((IntKind.i64.wrap (x6.toNat : Int)) + 3))))) rfl hb_17 rfl ?_))
            refine RS.nil ?_
            exact T.weakR (hK () trivial) (Weak.mkN [] [0] (by decide) (none_kept _) rfl ⟨rn_str rfl, rn_ref rfl, rn_int rfl, rn_str rfl, rn_int rfl, rn_bool (by simp only [hb_16, hb_17, Bool.true_or, Bool.or_true, Bool.false_or, Bool.or_false, Bool.true_and, Bool.and_true, Bool.false_and, Bool.and_false, Bool.not_true, Bool.not_false, if_true, if_false, Bool.false_eq_true, reduceIte]), trivial⟩ (rw_arr rfl encS_p rfl (rw_nil)))
    · replace h := ite_F h hb_15
      refine T.exit ?_
      obtain ⟨w_24, h, hw_24⟩ := map_inr h
      replace h := h.trans (congrArg some (hv_14 _ hw_24))
      refine T.seq ?_
      refine T.region ?_
      refine RS.op rfl (OP.q rfl (v_move (v := .ref 0) rfl ?_))
      refine RS.op rfl (OP.q rfl (v_move (v := .int .i64 s1) rfl ?_))
      refine RS.op rfl (OP.q rfl (v_assign (v := .ref 0) rfl ?_))
      refine RS.op rfl (OP.q rfl (v_assign (v := .int .i64 s1) rfl ?_))
      refine RS.op rfl (OP.q rfl (v_assign (v := .int .i64 0) rfl ?_))
      refine RS.nil ?_
      refine T.ret' (R := ?R25) ?hq25 ?_
      case hq25 => repeat (first | exact RetIs.base | refine RetIs.thn ?_ | refine RetIs.blk ?_ | refine RetIs.lq ?_)
      refine res_tmpA (v := .ref 0) rfl ?_
      refine res_tmpA (v := .int .i64 s1) rfl ?_
      refine res_tmpA (v := .int .i64 0) rfl ?_
      refine res_done ?_
      exact ret_own (.tup [.ref 0, .int .i64 r.2.1, .int .i64 r.2.2]) [] [0] (by decide) (none_kept _) rfl (rn_tup ⟨rn_ref rfl, rn_int (congrArg (fun r : (List (List UInt8)) × Int × Int => r.2.1) (Option.some.inj h)).symm, rn_int (congrArg (fun r : (List (List UInt8)) × Int × Int => r.2.2) (Option.some.inj h)).symm, trivial⟩) (rw_arr rfl encS_p (congrArg (fun r : (List (List UInt8)) × Int × Int => r.1) (Option.some.inj h)).symm (rw_nil)) ⟨rfl, rfl⟩
theorem frame_OfChoices_c (p0 : List UInt8) (r : (List Choice) × Int) (h : frame_OfChoices p0 = some r) : FnO Try.prog 57 [.str p0] (.tup [.ref 0, .int .i64 r.2]) [.arr 36 2 (List.map encChoice r.1)] := by
  unfold frame_OfChoices at h
  refine fn_of_T (N := 0) rfl Try.func57 rfl (by kernel_rfl) Try.ntmps57 rfl ?_
  show T _ _ _ _ (mkA 43 [(0, .str p0)]) []
  refine T.seq ?_
  refine T.region ?_
  refine RS.op rfl (OP.q rfl (v_assign (v := .nils) rfl ?_))
  refine RS.op rfl (OP.q rfl (v_assign (v := .int .i64 0) rfl ?_))
  refine RS.nil ?_
  refine T.seq ?_
  refine T.seq ?_
  refine T.region ?_
  refine RS.op rfl (OP.q rfl (v_move (v := .str p0) rfl ?_))
  refine RS.op rfl (OP.q rfl (v_len_str Try.underlying9 rfl ?_))
  refine RS.op rfl (OP.q rfl (v_gtr rfl rfl ?_))
  refine RS.nil ?_
  refine T.cond (b := decide (((p0).length : Int) > 60)) rfl (fun hb_1 => ?_) (fun hb_1 => ?_)
  · replace h := ite_T h hb_1
    refine T.seq ?_
    refine T.region ?_
    refine RS.op rfl (OP.q rfl (v_assign (v := .nils) rfl ?_))
    refine RS.op rfl (OP.q rfl (v_assign (v := .int .i64 2) rfl ?_))
    refine RS.nil ?_
    refine T.ret' (R := ?R2) ?hq2 ?_
    case hq2 => repeat (first | exact RetIs.base | refine RetIs.thn ?_ | refine RetIs.blk ?_ | refine RetIs.lq ?_)
    refine res_tmpA (v := .nils) rfl ?_
    refine res_tmpA (v := .int .i64 2) rfl ?_
    refine res_done ?_
    exact ret_own (.tup [.ref 0, .int .i64 r.2]) [(0, 36, 2)] [0] (by decide) (none_kept _) rfl (rn_tup ⟨rn_ref rfl, rn_int (congrArg (fun r : (List Choice) × Int => r.2) (Option.some.inj h)).symm, trivial⟩) (rw_arr (en := encChoice) (ys := []) rfl encChoice_p (congrArg (fun r : (List Choice) × Int => r.1) (Option.some.inj h)).symm (rw_nil)) ⟨rfl, rfl⟩
  · replace h := ite_F h hb_1
    refine T.skip ?_
    refine T.seq ?_
    refine T.seq ?_
    obtain ⟨x2, hx2, h⟩ := bind_some h
    refine T.region ?_
    refine RS.op rfl (OP.q rfl (v_move (v := .str p0) rfl ?_))
    refine RS.op rfl (OP.q rfl (v_len_str Try.underlying9 rfl ?_))
    refine RS.op rfl (OP.q rfl (v_rem rfl rfl hx2 ?_))
    refine RS.op rfl (OP.q rfl (v_neq rfl rfl ?_))
    refine RS.nil ?_
    refine T.cond (b := x2 != 0) rfl (fun hb_3 => ?_) (fun hb_3 => ?_)
    · replace h := ite_T h hb_3
      refine T.seq ?_
      refine T.region ?_
      refine RS.op rfl (OP.q rfl (v_assign (v := .nils) rfl ?_))
      refine RS.op rfl (OP.q rfl (v_assign (v := .int .i64 12) rfl ?_))
      refine RS.nil ?_
      refine T.ret' (R := ?R4) ?hq4 ?_
      case hq4 => repeat (first | exact RetIs.base | refine RetIs.thn ?_ | refine RetIs.blk ?_ | refine RetIs.lq ?_)
      refine res_tmpA (v := .nils) rfl ?_
      refine res_tmpA (v := .int .i64 12) rfl ?_
      refine res_done ?_
      exact ret_own (.tup [.ref 0, .int .i64 r.2]) [(0, 36, 2)] [0] (by decide) (none_kept _) rfl (rn_tup ⟨rn_ref rfl, rn_int (congrArg (fun r : (List Choice) × Int => r.2) (Option.some.inj h)).symm, trivial⟩) (rw_arr (en := encChoice) (ys := []) rfl encChoice_p (congrArg (fun r : (List Choice) × Int => r.1) (Option.some.inj h)).symm (rw_nil)) ⟨rfl, rfl⟩
    · replace h := ite_F h hb_3
      refine T.skip ?_
      refine T.seq ?_
      refine T.region ?_
      refine RS.op rfl (OP.q rfl (v_assign (v := .nils) rfl ?_))
      refine RS.nil ?_
      refine T.seq ?_
      refine T.seq ?_
      refine T.region ?_
      refine RS.op rfl (OP.q rfl (v_assign (v := .int .i64 0) rfl ?_))
      refine RS.nil ?_
      refine T.block ?_
      refine T.iter (fun ss_13 : Int × (List Choice) => mkA 43 [(0, .str p0), (4, .ref 0), (5, .int .i64 ss_13.1)]) (fun ss_13 => [.arr 36 2 (List.map encChoice ss_13.2)]) h (Weak.mkN [(4, 36, 2)] [0] (by decide) (none_kept _) rfl ⟨rn_str rfl, rn_ref rfl, rn_int rfl, trivial⟩ (rw_arr (en := encChoice) (ys := []) rfl encChoice_p rfl (rw_nil))) (fun ss_13 v_14 h hv_14 => ?_)
      obtain ⟨s3, s4⟩ := ss_13
      replace h : frame_OfChoices_l1 p0 s3 s4 = some v_14 := h
      show T _ _ _ _ (mkA 43 [(0, .str p0), (4, .ref 0), (5, .int .i64 s3)]) [.arr 36 2 (List.map encChoice s4)]
      unfold frame_OfChoices_l1 at h
      refine T.seq ?_
      refine T.seq ?_
      refine T.region ?_
      refine RS.op rfl (OP.q rfl (v_move (v := .int .i64 s3) rfl ?_))
      refine RS.op rfl (OP.q rfl (v_move (v := .str p0) rfl ?_))
      refine RS.op rfl (OP.q rfl (v_len_str Try.underlying9 rfl ?_))
      refine RS.op rfl (OP.q rfl (v_lss rfl rfl ?_))
      refine RS.nil ?_
      refine T.cond (b := decide (s3 < ((p0).length : Int))) rfl (fun hb_15 => ?_) (fun hb_15 => ?_)
      · replace h := ite_T h hb_15
        refine T.skip ?_
        refine T.seq ?_
        refine T.block ?_
        refine T.seq ?_
        obtain ⟨x7, hx7, h⟩ := bind_some h
        obtain ⟨x8, hx8, h⟩ := bind_some h
        refine T.drawn mixed (k := 12) rfl ?_
        refine RA.t0 (i := 0) (li' := #[true, false, false, false, false, false, false, false, false, false, false, false]) rfl (by decide +kernel) (by decide +kernel) (by decide +kernel) (by decide +kernel) rfl rfl (v_move (v := .str p0) rfl ?_)
        refine RA.t0 (i := 1) (li' := #[true, true, false, false, false, false, false, false, false, false, false, false]) rfl (by decide +kernel) (by decide +kernel) (by decide +kernel) (by decide +kernel) rfl rfl (v_move (v := .int .i64 s3) rfl ?_)
        refine RA.t0 (i := 2) (li' := #[true, true, true, false, false, false, false, false, false, false, false, false]) rfl (by decide +kernel) (by decide +kernel) (by decide +kernel) (by decide +kernel) rfl rfl (v_index_str Try.underlying9 rfl rfl hx7 ?_)
        refine RA.t0 (i := 3) (li' := #[true, true, true, true, false, false, false, false, false, false, false, false]) rfl (by decide +kernel) (by decide +kernel) (by decide +kernel) (by decide +kernel) rfl rfl (v_conv Try.underlying5 Try.underlying3 rfl ?_)
        refine RA.t0 (i := 4) (li' := #[true, true, true, true, true, false, false, false, false, false, false, false]) rfl (by decide +kernel) (by decide +kernel) (by decide +kernel) (by decide +kernel) rfl rfl (v_move (v := .str p0) rfl ?_)
        refine RA.t0 (i := 5) (li' := #[true, true, true, true, true, true, false, false, false, false, false, false]) rfl (by decide +kernel) (by decide +kernel) (by decide +kernel) (by decide +kernel) rfl rfl (v_move (v := .int .i64 s3) rfl ?_)
        refine RA.t0 (i := 6) (li' := #[true, true, true, true, true, true, true, false, false, false, false, false]) rfl (by decide +kernel) (by decide +kernel) (by decide +kernel) (by decide +kernel) rfl rfl (v_add rfl rfl ?_)
        refine RA.t0 (i := 7) (li' := #[true, true, true, true, true, true, true, true, false, false, false, false]) rfl (by decide +kernel) (by decide +kernel) (by decide +kernel) (by decide +kernel) rfl rfl (v_index_str Try.underlying9 rfl rfl hx8 ?_)
        refine RA.t0 (i := 8) (li' := #[true, true, true, true, true, true, true, true, true, false, false, false]) rfl (by decide +kernel) (by decide +kernel) (by decide +kernel) (by decide +kernel) rfl rfl (v_conv Try.underlying5 Try.underlying3 rfl ?_)
        refine RA.t0 (i := 9) (li' := #[true, true, true, true, true, true, true, true, true, true, false, false]) rfl (by decide +kernel) (by decide +kernel) (by decide +kernel) (by decide +kernel) rfl rfl (v_build (cs := [.int .i64 (IntKind.i64.wrap (x7.toNat : Int)), .int .i64 (IntKind.i64.wrap (x8.toNat : Int))]) Ty.z36 Ty.p36 rfl ?_)
        refine RA.a1 (i1 := 10) (l1 := #[true, true, true, true, true, true, true, true, true, true, true, false]) (by decide +kernel) (by decide +kernel) ?_
        refine RO.op rfl rfl (o_alloc Ty.z36 rfl (aw' := [.arr 36 2 (List.map encChoice s4), .box [.int .i64 0, .int .i64 0]]) rfl ?_)
        refine RA.a1 (i1 := 11) (l1 := #[true, true, true, true, true, true, true, true, true, true, true, true]) (by decide +kernel) (by decide +kernel) ?_
        refine RO.op rfl rfl (o_store_ptr Ty.c36 Ty.i36 rfl (vs := [.int .i64 (IntKind.i64.wrap (x7.toNat : Int)), .int .i64 (IntKind.i64.wrap (x8.toNat : Int))]) rfl rfl rfl rfl (cs' := [.int .i64 (IntKind.i64.wrap (x7.toNat : Int)), .int .i64 (IntKind.i64.wrap (x8.toNat : Int))]) rfl (aw' := [.arr 36 2 (List.map encChoice s4), .box [.int .i64 (IntKind.i64.wrap (x7.toNat : Int)), .int .i64 (IntKind.i64.wrap (x8.toNat : Int))]]) rfl ?_)
        refine RA.done (by decide +kernel) ?_
        refine T.seq ?_
        refine T.join (Z := Unit) (fun _ => mkA 43 [(0, .str p0), (4, .ref 0), (5, .int .i64 s3), (6, .ptr 1 0), (37, .bool ((decide ((IntKind.i64.wrap (x7.toNat : Int)) ≥ 12)) || decide ((IntKind.i64.wrap (x8.toNat : Int)) ≥ 16)))]) (fun _ => [.arr 36 2 (List.map encChoice s4), .box [.int .i64 (IntKind.i64.wrap (x7.toNat : Int)), .int .i64 (IntKind.i64.wrap (x8.toNat : Int))]]) (fun _ => True) (fun _ _ => ?_) (fun hK => ?_)
        · show T _ _ _ _ (mkA 43 [(0, .str p0), (4, .ref 0), (5, .int .i64 s3), (6, .ptr 1 0), (37, .bool ((decide ((IntKind.i64.wrap (x7.toNat : Int)) ≥ 12)) || decide ((IntKind.i64.wrap (x8.toNat : Int)) ≥ 16)))]) [.arr 36 2 (List.map encChoice s4), .box [.int .i64 (IntKind.i64.wrap (x7.toNat : Int)), .int .i64 (IntKind.i64.wrap (x8.toNat : Int))]]
          refine T.cond (b := ((decide ((IntKind.i64.wrap (x7.toNat : Int)) ≥ 12)) || decide ((IntKind.i64.wrap (x8.toNat : Int)) ≥ 16))) rfl (fun hb_17 => ?_) (fun hb_17 => ?_)
          · replace h := ite_T h hb_17
            refine T.seq ?_
            refine T.region ?_
            refine RS.op rfl (OP.q rfl (v_assign (v := .nils) rfl ?_))
            refine RS.op rfl (OP.q rfl (v_assign (v := .int .i64 12) rfl ?_))
            refine RS.nil ?_
            refine T.ret' (R := ?R18) ?hq18 ?_
            case hq18 => repeat (first | exact RetIs.base | refine RetIs.thn ?_ | refine RetIs.blk ?_ | refine RetIs.lq ?_)
            obtain ⟨w_19, h, hw_19⟩ := map_inr h
            replace h := h.trans (congrArg some (hv_14 _ hw_19))
            refine res_tmpA (v := .nils) rfl ?_
            refine res_tmpA (v := .int .i64 12) rfl ?_
            refine res_done ?_
            exact ret_own (.tup [.ref 0, .int .i64 r.2]) [(0, 36, 2)] [2] (by decide) (none_kept _) rfl (rn_tup ⟨rn_ref rfl, rn_int (congrArg (fun r : (List Choice) × Int => r.2) (Option.some.inj h)).symm, trivial⟩) (rw_arr (en := encChoice) (ys := []) rfl encChoice_p (congrArg (fun r : (List Choice) × Int => r.1) (Option.some.inj h)).symm (rw_nil)) ⟨rfl, rfl⟩
          · replace h := ite_F h hb_17
            refine T.skip ?_
            obtain ⟨x10, hx10, h⟩ := bind_some h
            refine T.region ?_
            refine RS.op rfl (OP.q rfl (v_move (v := .ref 0) rfl ?_))
            refine RS.op rfl (o_load_ptr rfl rfl (loadRowA Ty.k36 Ty.c36 rfl (cs := [.int .i64 (IntKind.i64.wrap (x7.toNat : Int)), .int .i64 (IntKind.i64.wrap (x8.toNat : Int))]) rfl ?_))
            refine RS.op rfl (o_buildSlice (rows := List.map encChoice [(⟨IntKind.i64.wrap (x7.toNat : Int), IntKind.i64.wrap (x8.toNat : Int)⟩ : Choice)]) (vs := [.agg [.int .i64 (IntKind.i64.wrap (x7.toNat : Int)), .int .i64 (IntKind.i64.wrap (x8.toNat : Int))]]) Ty.s26 Ty.z36 rfl rfl rfl rfl rfl (aw' := [.arr 36 2 (List.map encChoice s4), .box [.int .i64 (IntKind.i64.wrap (x7.toNat : Int)), .int .i64 (IntKind.i64.wrap (x8.toNat : Int))], .arr 36 2 (List.map encChoice [(⟨IntKind.i64.wrap (x7.toNat : Int), IntKind.i64.wrap (x8.toNat : Int)⟩ : Choice)])]) rfl ?_)
            refine RS.op rfl (o_app_ref (en := encChoice) (xs := s4) (ys := ([(⟨IntKind.i64.wrap (x7.toNat : Int), IntKind.i64.wrap (x8.toNat : Int)⟩ : Choice)] : List Choice)) Ty.s26 (fun _ => rfl) rfl rfl rfl hx10 rfl (aw' := [.dead, .box [.int .i64 (IntKind.i64.wrap (x7.toNat : Int)), .int .i64 (IntKind.i64.wrap (x8.toNat : Int))], .dead, .arr 36 2 (List.map encChoice x10)]) rfl ?_)
            refine RS.op rfl (OP.q rfl (v_assign (v := .ref 3) rfl ?_))
            refine RS.nil ?_
            refine T.region ?_
            refine RS.op rfl (OP.q rfl (v_move (v := .int .i64 s3) rfl ?_))
            refine RS.op rfl (OP.q rfl (v_add rfl rfl ?_))
            refine RS.op rfl (OP.q rfl (v_assign (v := .int .i64 (IntKind.i64.wrap (s3 + 2))) rfl ?_))
            refine RS.nil ?_
            exact ⟨(IntKind.i64.wrap (s3 + 2), x10), (Option.some.inj h).symm, Weak.mkN [] [3] (by decide) (none_kept _) rfl ⟨rn_str rfl, rn_ref rfl, rn_int rfl, trivial⟩ (rw_arr rfl encChoice_p rfl (rw_nil))⟩
        · rcases bool_cases (decide ((IntKind.i64.wrap (x7.toNat : Int)) ≥ 12)) with hb_16 | hb_16
          · refine T.region ?_
            refine RS.op rfl (OP.q rfl (v_fieldAddr_ptr Ty.f36_0 rfl (off' := 0) rfl ?_))
            refine RS.op rfl (o_load_ptr rfl rfl (loadRow1 Ty.k3 (c := .int .i64 (IntKind.i64.wrap (x7.toNat : Int))) rfl ?_))
            refine RS.op rfl (OP.q rfl (v_geq rfl rfl ?_))
            refine RS.op rfl (OP.q rfl (v_move (v := .bool (decide ((IntKind.i64.wrap (x7.toNat : Int)) ≥ 12))) rfl ?_))
            refine RS.no rfl rfl rfl hb_16 ?_
            refine RS.no rfl rfl rfl hb_16 ?_
            refine RS.no rfl rfl rfl hb_16 ?_
            refine RS.op rfl (OP.q rfl (v_pickT (v := .bool true) rfl hb_16 rfl ?_))
            refine RS.nil ?_
            exact T.weakR (hK () trivial) (Weak.mkN [] [0, 1] (by decide) (none_kept _) rfl ⟨rn_str rfl, rn_ref rfl, rn_int rfl, rn_ptr rfl, rn_bool (by simp only [hb_16, Bool.true_or, Bool.or_true, Bool.false_or, Bool.or_false, Bool.true_and, Bool.and_true, Bool.false_and, Bool.and_false, Bool.not_true, Bool.not_false, if_true, if_false, Bool.false_eq_true, reduceIte]), trivial⟩ (rw_arr rfl encChoice_p rfl (rw_box (cs := [.int .i64 (IntKind.i64.wrap (x7.toNat : Int)), .int .i64 (IntKind.i64.wrap (x8.toNat : Int))]) (ds := [.int .i64 (IntKind.i64.wrap (x7.toNat : Int)), .int .i64 (IntKind.i64.wrap (x8.toNat : Int))]) rfl ⟨rn_int rfl, rn_int rfl, trivial⟩ (rw_nil))))
          · refine T.region ?_
            refine RS.op rfl (OP.q rfl (v_fieldAddr_ptr Ty.f36_0 rfl (off' := 0) rfl ?_))
            refine RS.op rfl (o_load_ptr rfl rfl (loadRow1 Ty.k3 (c := .int .i64 (IntKind.i64.wrap (x7.toNat : Int))) rfl ?_))
            refine RS.op rfl (OP.q rfl (v_geq rfl rfl ?_))
            refine RS.op rfl (OP.q rfl (v_move (v := .bool (decide ((IntKind.i64.wrap (x7.toNat : Int)) ≥ 12))) rfl ?_))
            refine RS.yes rfl rfl rfl hb_16 (OP.q rfl (v_fieldAddr_ptr Ty.f36_1 rfl (off' := 1) rfl ?_))
            refine RS.yes rfl rfl rfl hb_16 (o_load_ptr rfl rfl (loadRow1 Ty.k3 (c := .int .i64 (IntKind.i64.wrap (x8.toNat : Int))) rfl ?_))
            refine RS.yes rfl rfl rfl hb_16 (OP.q rfl (v_geq rfl rfl ?_))
            refine RS.op rfl (OP.q rfl (v_pickF (v := .bool (decide ((IntKind.i64.wrap (x8.toNat : Int)) ≥ 16))) rfl hb_16 rfl ?_))
            refine RS.nil ?_
            exact T.weakR (hK () trivial) (Weak.mkN [] [0, 1] (by decide) (none_kept _) rfl ⟨rn_str rfl, rn_ref rfl, rn_int rfl, rn_ptr rfl, rn_bool (by simp only [hb_16, Bool.true_or, Bool.or_true, Bool.false_or, Bool.or_false, Bool.true_and, Bool.and_true, Bool.false_and, Bool.and_false, Bool.not_true, Bool.not_false, if_true, if_false, Bool.false_eq_true, reduceIte]), trivial⟩ (rw_arr rfl encChoice_p rfl (rw_box (cs := [.int .i64 (IntKind.i64.wrap (x7.toNat : Int)), .int .i64 (IntKind.i64.wrap (x8.toNat : Int))]) (ds := [.int .i64 (IntKind.i64.wrap (x7.toNat : Int)), .int .i64 (IntKind.i64.wrap (x8.toNat : Int))]) rfl ⟨rn_int rfl, rn_int rfl, trivial⟩ (rw_nil))))
      · replace h := ite_F h hb_15
        refine T.exit ?_
        obtain ⟨w_20, h, hw_20⟩ := map_inr h
        replace h := h.trans (congrArg some (hv_14 _ hw_20))
        refine T.seq ?_
        refine T.region ?_
        refine RS.op rfl (OP.q rfl (v_move (v := .ref 0) rfl ?_))
        refine RS.op rfl (OP.q rfl (v_assign (v := .ref 0) rfl ?_))
        refine RS.op rfl (OP.q rfl (v_assign (v := .int .i64 0) rfl ?_))
        refine RS.nil ?_
        refine T.ret' (R := ?R21) ?hq21 ?_
        case hq21 => repeat (first | exact RetIs.base | refine RetIs.thn ?_ | refine RetIs.blk ?_ | refine RetIs.lq ?_)
        refine res_tmpA (v := .ref 0) rfl ?_
        refine res_tmpA (v := .int .i64 0) rfl ?_
        refine res_done ?_
        exact ret_own (.tup [.ref 0, .int .i64 r.2]) [] [0] (by decide) (none_kept _) rfl (rn_tup ⟨rn_ref rfl, rn_int (congrArg (fun r : (List Choice) × Int => r.2) (Option.some.inj h)).symm, trivial⟩) (rw_arr rfl encChoice_p (congrArg (fun r : (List Choice) × Int => r.1) (Option.some.inj h)).symm (rw_nil)) ⟨rfl, rfl⟩
theorem log_Scan_1_x006d_c (p0 : Int) (p1 : List (List UInt8)) (p2 : List Write) (p3 : Int) (r : List Choice) (h : log_Scan_1_x006d p0 p1 p2 p3 = some r) : FnX Try.prog 55 [.int .i64 p0, .ptr 0 0, .ptr 1 0] [.box [.sl (List.map encS p1), .sl (List.map encWrite p2)], .box [.int .i64 p3]] (.ref 2) [.box [.sl (List.map encS p1), .sl (List.map encWrite p2)], .box [.int .i64 p3], .arr 36 2 (List.map encChoice r)] := by
  unfold log_Scan_1_x006d at h
  refine fn_of_T (N := 2) rfl Try.func55 rfl (by kernel_rfl) Try.ntmps55 rfl ?_
  show T _ _ _ _ (mkA 56 [(0, .int .i64 p0), (1, .ptr 0 0), (2, .ptr 1 0)]) [.box [.sl (List.map encS p1), .sl (List.map encWrite p2)], .box [.int .i64 p3]]
  refine T.seq ?_
  refine T.region ?_
  refine RS.op rfl (OP.q rfl (v_assign (v := .nils) rfl ?_))
  refine RS.nil ?_
  refine T.seq ?_
  refine T.seq ?_
  refine T.region ?_
  refine RS.op rfl (OP.q rfl (v_move (v := .int .i64 p0) rfl ?_))
  refine RS.op rfl (OP.q rfl (v_fieldAddr_ptr Ty.f25_0 rfl (off' := 0) rfl ?_))
  refine RS.op rfl (o_load_ptr rfl rfl (loadRow1 Ty.k22 (c := .sl (List.map encS p1)) rfl ?_))
  refine RS.op rfl (OP.q rfl (v_len_sl Ty.s22 rfl ?_))
  refine RS.op rfl (OP.q rfl (v_geq rfl rfl ?_))
  refine RS.nil ?_
  refine T.cond (b := decide (p0 ≥ ((p1).length : Int))) rfl (fun hb_1 => ?_) (fun hb_1 => ?_)
  · replace h := ite_T h hb_1
    refine T.seq ?_
    refine T.region ?_
    refine RS.op rfl (OP.q rfl (v_assign (v := .nils) rfl ?_))
    refine RS.nil ?_
    refine T.ret' (R := ?R2) ?hq2 ?_
    case hq2 => repeat (first | exact RetIs.base | refine RetIs.thn ?_ | refine RetIs.blk ?_ | refine RetIs.lq ?_)
    refine res_tmpA (v := .nils) rfl ?_
    refine res_done ?_
    exact ret_own (.ref 2) [(0, 36, 2)] [0, 1, 2] (by decide) (by decide) rfl (rn_ref rfl) (rw_box (cs := [.sl (List.map encS p1), .sl (List.map encWrite p2)]) (ds := [.sl (List.map encS p1), .sl (List.map encWrite p2)]) rfl ⟨rn_sl encS_p rfl, rn_sl encWrite_p rfl, trivial⟩ (rw_box (cs := [.int .i64 p3]) (ds := [.int .i64 p3]) rfl ⟨rn_int rfl, trivial⟩ (rw_arr (en := encChoice) (ys := []) rfl encChoice_p (congrArg (fun r : List Choice => r) (Option.some.inj h)).symm (rw_nil)))) ⟨rfl, rfl⟩
  · replace h := ite_F h hb_1
    refine T.skip ?_
    refine T.seq ?_
    obtain ⟨x3, hx3, h⟩ := bind_some h
    obtain ⟨x4, hx4, h⟩ := bind_some h
    refine T.region ?_
    refine RS.op rfl (OP.q rfl (v_fieldAddr_ptr Ty.f25_0 rfl (off' := 0) rfl ?_))
    refine RS.op rfl (o_load_ptr rfl rfl (loadRow1 Ty.k22 (c := .sl (List.map encS p1)) rfl ?_))
    refine RS.op rfl (OP.q rfl (v_move (v := .int .i64 p0) rfl ?_))
    refine RS.op rfl (OP.q rfl (v_index_sl Ty.s22 (fun _ => rfl) rfl rfl hx3 ?_))
    refine RS.op rfl (o_load_elt rfl (loadRow1 Ty.k9 (c := .str x3) rfl ?_))
    refine RS.op rfl (o_call (as0 := [.str x3]) (as1 := [.str x3]) (caps := []) (aw1 := [.box [.sl (List.map encS p1), .sl (List.map encWrite p2)], .box [.int .i64 p3]]) rfl rfl rfl (k_own' (v := .tup [.ref 0, .int .i64 x4.2.1, .int .i64 x4.2.2]) (obs := [.arr 9 1 (List.map encS x4.1)]) (v' := .tup [.ref 2, .int .i64 x4.2.1, .int .i64 x4.2.2]) (aw' := [.box [.sl (List.map encS p1), .sl (List.map encWrite p2)], .box [.int .i64 p3], .arr 9 1 (List.map encS x4.1)]) (frame_Read_c x3 x4 hx4) (⟨pure_str _, trivial⟩) rfl (obs_cons (flatOb_map fun _ => rfl) obs_nil) rfl rfl ?_))
    refine RS.op rfl (OP.q rfl (v_move (v := .tup [.ref 2, .int .i64 x4.2.1, .int .i64 x4.2.2]) rfl ?_))
    refine RS.op rfl (OP.q rfl (v_extract (v := .ref 2) rfl rfl ?_))
    refine RS.op rfl (OP.q rfl (v_extract (v := .int .i64 x4.2.1) rfl rfl ?_))
    refine RS.op rfl (OP.q rfl (v_extract (v := .int .i64 x4.2.2) rfl rfl ?_))
    refine RS.op rfl (OP.q rfl (v_assign (v := .ref 2) rfl ?_))
    refine RS.op rfl (OP.q rfl (v_assign (v := .int .i64 x4.2.1) rfl ?_))
    refine RS.op rfl (OP.q rfl (v_assign (v := .int .i64 x4.2.2) rfl ?_))
    refine RS.nil ?_
    refine T.seq ?_
    obtain ⟨zt_5, hz, h⟩ := bind_some h
    revert hz h; revert zt_5; intro c9 hz h
    refine T.join (Z := Unit) (fun _ => mkA 56 [(5, .ref 2), (46, .bool c9)]) (fun _ => [.box [.sl (List.map encS p1), .sl (List.map encWrite p2)], .box [.int .i64 p3], .arr 9 1 (List.map encS x4.1)]) (fun _ => True) (fun _ _ => ?_) (fun hK => ?_)
    · show T _ _ _ _ (mkA 56 [(5, .ref 2), (46, .bool c9)]) [.box [.sl (List.map encS p1), .sl (List.map encWrite p2)], .box [.int .i64 p3], .arr 9 1 (List.map encS x4.1)]
      refine T.cond (b := c9) rfl (fun hb_6 => ?_) (fun hb_6 => ?_)
      · replace h := ite_T h hb_6
        refine T.seq ?_
        refine T.region ?_
        refine RS.op rfl (OP.q rfl (v_assign (v := .nils) rfl ?_))
        refine RS.nil ?_
        refine T.ret' (R := ?R7) ?hq7 ?_
        case hq7 => repeat (first | exact RetIs.base | refine RetIs.thn ?_ | refine RetIs.blk ?_ | refine RetIs.lq ?_)
        refine res_tmpA (v := .nils) rfl ?_
        refine res_done ?_
        exact ret_own (.ref 2) [(0, 36, 2)] [0, 1, 3] (by decide) (by decide) rfl (rn_ref rfl) (rw_box (cs := [.sl (List.map encS p1), .sl (List.map encWrite p2)]) (ds := [.sl (List.map encS p1), .sl (List.map encWrite p2)]) rfl ⟨rn_sl encS_p rfl, rn_sl encWrite_p rfl, trivial⟩ (rw_box (cs := [.int .i64 p3]) (ds := [.int .i64 p3]) rfl ⟨rn_int rfl, trivial⟩ (rw_arr (en := encChoice) (ys := []) rfl encChoice_p (congrArg (fun r : List Choice => r) (Option.some.inj h)).symm (rw_nil)))) ⟨rfl, rfl⟩
      · replace h := ite_F h hb_6
        refine T.skip ?_
        refine T.seq ?_
        obtain ⟨x14, hx14, h⟩ := bind_some h
        obtain ⟨x15, hx15, h⟩ := bind_some h
        obtain ⟨x16, hx16, h⟩ := bind_some h
        obtain ⟨x17, hx17, h⟩ := bind_some h
        refine T.region ?_
        refine RS.op rfl (OP.q rfl (v_move (v := .ref 2) rfl ?_))
        refine RS.op rfl (OP.q rfl (v_index_ref' (en := encS) Ty.s22 rfl rfl rfl hx14 ?_))
        refine RS.op rfl (o_load_aptr' (en := encS) (a := x15) rfl rfl hx15 (loadRow1 Ty.k9 (c := .str x15) rfl ?_))
        refine RS.op rfl (o_slice_str Try.underlying9 rfl rfl rfl hx16 ?_)
        refine RS.op rfl (o_call (as0 := [.str x16]) (as1 := [.str x16]) (caps := []) (aw1 := [.box [.sl (List.map encS p1), .sl (List.map encWrite p2)], .box [.int .i64 p3], .arr 9 1 (List.map encS x4.1)]) rfl rfl rfl (k_own' (v := .tup [.ref 0, .int .i64 x17.2]) (obs := [.arr 36 2 (List.map encChoice x17.1)]) (v' := .tup [.ref 3, .int .i64 x17.2]) (aw' := [.box [.sl (List.map encS p1), .sl (List.map encWrite p2)], .box [.int .i64 p3], .arr 9 1 (List.map encS x4.1), .arr 36 2 (List.map encChoice x17.1)]) (frame_OfChoices_c x16 x17 hx17) (⟨pure_str _, trivial⟩) rfl (obs_cons (flatOb_map fun _ => rfl) obs_nil) rfl rfl ?_))
        refine RS.op rfl (OP.q rfl (v_move (v := .tup [.ref 3, .int .i64 x17.2]) rfl ?_))
        refine RS.op rfl (OP.q rfl (v_extract (v := .ref 3) rfl rfl ?_))
        refine RS.op rfl (OP.q rfl (v_extract (v := .int .i64 x17.2) rfl rfl ?_))
        refine RS.op rfl (OP.q rfl (v_assign (v := .ref 3) rfl ?_))
        refine RS.op rfl (OP.q rfl (v_assign (v := .int .i64 x17.2) rfl ?_))
        refine RS.nil ?_
        refine T.seq ?_
        refine T.region ?_
        refine RS.op rfl (OP.q rfl (v_move (v := .ref 3) rfl ?_))
        refine RS.op rfl (OP.q rfl (v_assign (v := .ref 3) rfl ?_))
        refine RS.nil ?_
        refine T.ret' (R := ?R8) ?hq8 ?_
        case hq8 => repeat (first | exact RetIs.base | refine RetIs.thn ?_ | refine RetIs.blk ?_ | refine RetIs.lq ?_)
        refine res_tmpA (v := .ref 3) rfl ?_
        refine res_done ?_
        exact ret_own (.ref 2) [] [0, 1, 3] (by decide) (by decide) rfl (rn_ref rfl) (rw_box (cs := [.sl (List.map encS p1), .sl (List.map encWrite p2)]) (ds := [.sl (List.map encS p1), .sl (List.map encWrite p2)]) rfl ⟨rn_sl encS_p rfl, rn_sl encWrite_p rfl, trivial⟩ (rw_box (cs := [.int .i64 p3]) (ds := [.int .i64 p3]) rfl ⟨rn_int rfl, trivial⟩ (rw_arr rfl encChoice_p (congrArg (fun r : List Choice => r) (Option.some.inj h)).symm (rw_nil)))) ⟨rfl, rfl⟩
    · rcases bool_cases (((x4.1).length : Int) != 1) with hb_3 | hb_3
      · replace hz := ite_T hz hb_3
        refine T.drawn mixed (k := 22) rfl ?_
        refine RA.t0 (i := 0) (li' := #[true, false, false, false, false, false, false, false, false, false, false, false, false, false, false, false, false, false, false, false, false, false]) rfl (by decide +kernel) (by decide +kernel) (by decide +kernel) (by decide +kernel) rfl rfl (v_move (v := .ref 2) rfl ?_)
        refine RA.t0 (i := 1) (li' := #[true, true, false, false, false, false, false, false, false, false, false, false, false, false, false, false, false, false, false, false, false, false]) rfl (by decide +kernel) (by decide +kernel) (by decide +kernel) (by decide +kernel) rfl rfl (v_len_ref (en := encS) Ty.s22 rfl rfl ?_)
        refine RA.t0 (i := 2) (li' := #[true, true, true, false, false, false, false, false, false, false, false, false, false, false, false, false, false, false, false, false, false, false]) rfl (by decide +kernel) (by decide +kernel) (by decide +kernel) (by decide +kernel) rfl rfl (v_neq rfl rfl ?_)
        refine RA.t0 (i := 3) (li' := #[true, true, true, true, false, false, false, false, false, false, false, false, false, false, false, false, false, false, false, false, false, false]) rfl (by decide +kernel) (by decide +kernel) (by decide +kernel) (by decide +kernel) rfl rfl (v_move (v := .bool (((x4.1).length : Int) != 1)) rfl ?_)
        refine RA.t2 (i := 4) (li' := #[true, true, true, true, true, false, false, false, false, false, false, false, false, false, false, false, false, false, false, false, false, false]) rfl (by decide +kernel) (by decide +kernel) (by decide +kernel) (by decide +kernel) rfl rfl rfl hb_3 ?_
        refine RA.t2 (i := 5) (li' := #[true, true, true, true, true, true, false, false, false, false, false, false, false, false, false, false, false, false, false, false, false, false]) rfl (by decide +kernel) (by decide +kernel) (by decide +kernel) (by decide +kernel) rfl rfl rfl hb_3 ?_
        refine RA.t2 (i := 6) (li' := #[true, true, true, true, true, true, true, false, false, false, false, false, false, false, false, false, false, false, false, false, false, false]) rfl (by decide +kernel) (by decide +kernel) (by decide +kernel) (by decide +kernel) rfl rfl rfl hb_3 ?_
        refine RA.t2 (i := 7) (li' := #[true, true, true, true, true, true, true, true, false, false, false, false, false, false, false, false, false, false, false, false, false, false]) rfl (by decide +kernel) (by decide +kernel) (by decide +kernel) (by decide +kernel) rfl rfl rfl hb_3 ?_
        refine RA.t2 (i := 8) (li' := #[true, true, true, true, true, true, true, true, true, false, false, false, false, false, false, false, false, false, false, false, false, false]) rfl (by decide +kernel) (by decide +kernel) (by decide +kernel) (by decide +kernel) rfl rfl rfl hb_3 ?_
        refine RA.t2 (i := 9) (li' := #[true, true, true, true, true, true, true, true, true, true, false, false, false, false, false, false, false, false, false, false, false, false]) rfl (by decide +kernel) (by decide +kernel) (by decide +kernel) (by decide +kernel) rfl rfl rfl hb_3 ?_
        refine RA.t2 (i := 10) (li' := #[true, true, true, true, true, true, true, true, true, true, true, false, false, false, false, false, false, false, false, false, false, false]) rfl (by decide +kernel) (by decide +kernel) (by decide +kernel) (by decide +kernel) rfl rfl rfl hb_3 ?_
        refine RA.t2 (i := 11) (li' := #[true, true, true, true, true, true, true, true, true, true, true, true, false, false, false, false, false, false, false, false, false, false]) rfl (by decide +kernel) (by decide +kernel) (by decide +kernel) (by decide +kernel) rfl rfl rfl hb_3 ?_
        refine RA.t0 (i := 12) (li' := #[true, true, true, true, true, true, true, true, true, true, true, true, true, false, false, false, false, false, false, false, false, false]) rfl (by decide +kernel) (by decide +kernel) (by decide +kernel) (by decide +kernel) rfl rfl (v_pickT (v := .bool true) rfl hb_3 rfl ?_)
        refine RA.t0 (i := 13) (li' := #[true, true, true, true, true, true, true, true, true, true, true, true, true, true, false, false, false, false, false, false, false, false]) rfl (by decide +kernel) (by decide +kernel) (by decide +kernel) (by decide +kernel) rfl rfl (v_move (v := .bool true) rfl ?_)
        refine RA.t2 (i := 14) (li' := #[true, true, true, true, true, true, true, true, true, true, true, true, true, true, true, false, false, false, false, false, false, false]) rfl (by decide +kernel) (by decide +kernel) (by decide +kernel) (by decide +kernel) rfl rfl rfl rfl ?_
        refine RA.t2 (i := 15) (li' := #[true, true, true, true, true, true, true, true, true, true, true, true, true, true, true, true, false, false, false, false, false, false]) rfl (by decide +kernel) (by decide +kernel) (by decide +kernel) (by decide +kernel) rfl rfl rfl rfl ?_
        refine RA.t2 (i := 16) (li' := #[true, true, true, true, true, true, true, true, true, true, true, true, true, true, true, true, true, false, false, false, false, false]) rfl (by decide +kernel) (by decide +kernel) (by decide +kernel) (by decide +kernel) rfl rfl rfl rfl ?_
        refine RA.t2 (i := 17) (li' := #[true, true, true, true, true, true, true, true, true, true, true, true, true, true, true, true, true, true, false, false, false, false]) rfl (by decide +kernel) (by decide +kernel) (by decide +kernel) (by decide +kernel) rfl rfl rfl rfl ?_
        refine RA.t2 (i := 18) (li' := #[true, true, true, true, true, true, true, true, true, true, true, true, true, true, true, true, true, true, true, false, false, false]) rfl (by decide +kernel) (by decide +kernel) (by decide +kernel) (by decide +kernel) rfl rfl rfl rfl ?_
        refine RA.t2 (i := 19) (li' := #[true, true, true, true, true, true, true, true, true, true, true, true, true, true, true, true, true, true, true, true, false, false]) rfl (by decide +kernel) (by decide +kernel) (by decide +kernel) (by decide +kernel) rfl rfl rfl rfl ?_
        refine RA.t2 (i := 20) (li' := #[true, true, true, true, true, true, true, true, true, true, true, true, true, true, true, true, true, true, true, true, true, false]) rfl (by decide +kernel) (by decide +kernel) (by decide +kernel) (by decide +kernel) rfl rfl rfl rfl ?_
        refine RA.t0 (i := 21) (li' := #[true, true, true, true, true, true, true, true, true, true, true, true, true, true, true, true, true, true, true, true, true, true]) rfl (by decide +kernel) (by decide +kernel) (by decide +kernel) (by decide +kernel) rfl rfl (v_pickT (v := .bool true) rfl rfl rfl ?_)
        refine RA.done (by decide +kernel) ?_
        exact T.weakR (hK () trivial) (Weak.mkN [] [0, 1, 2] (by decide) (by decide) rfl ⟨rn_ref rfl, rn_bool ((congrArg (fun p => p) (Option.some.inj hz)).symm), trivial⟩ (rw_box (cs := [.sl (List.map encS p1), .sl (List.map encWrite p2)]) (ds := [.sl (List.map encS p1), .sl (List.map encWrite p2)]) rfl ⟨rn_sl encS_p rfl, rn_sl encWrite_p rfl, trivial⟩ (rw_box (cs := [.int .i64 p3]) (ds := [.int .i64 p3]) rfl ⟨rn_int rfl, trivial⟩ (rw_arr rfl encS_p rfl (rw_nil)))))
      · replace hz := ite_F hz hb_3
        obtain ⟨x5, hx5, hz⟩ := bind_some hz
        rcases bool_cases (x4.2.1 != ((x5).length : Int)) with hb_4 | hb_4
        · replace hz := ite_T hz hb_4
          refine T.drawn mixed (k := 22) rfl ?_
          refine RA.t0 (i := 0) (li' := #[true, false, false, false, false, false, false, false, false, false, false, false, false, false, false, false, false, false, false, false, false, false]) rfl (by decide +kernel) (by decide +kernel) (by decide +kernel) (by decide +kernel) rfl rfl (v_move (v := .ref 2) rfl ?_)
          refine RA.t0 (i := 1) (li' := #[true, true, false, false, false, false, false, false, false, false, false, false, false, false, false, false, false, false, false, false, false, false]) rfl (by decide +kernel) (by decide +kernel) (by decide +kernel) (by decide +kernel) rfl rfl (v_len_ref (en := encS) Ty.s22 rfl rfl ?_)
          refine RA.t0 (i := 2) (li' := #[true, true, true, false, false, false, false, false, false, false, false, false, false, false, false, false, false, false, false, false, false, false]) rfl (by decide +kernel) (by decide +kernel) (by decide +kernel) (by decide +kernel) rfl rfl (v_neq rfl rfl ?_)
          refine RA.t0 (i := 3) (li' := #[true, true, true, true, false, false, false, false, false, false, false, false, false, false, false, false, false, false, false, false, false, false]) rfl (by decide +kernel) (by decide +kernel) (by decide +kernel) (by decide +kernel) rfl rfl (v_move (v := .bool (((x4.1).length : Int) != 1)) rfl ?_)
          refine RA.t1 (i := 4) (li' := #[true, true, true, true, true, false, false, false, false, false, false, false, false, false, false, false, false, false, false, false, false, false]) rfl (by decide +kernel) (by decide +kernel) (by decide +kernel) (by decide +kernel) rfl rfl rfl hb_3 rfl (v_move (v := .int .i64 x4.2.1) rfl ?_)
          refine RA.t1 (i := 5) (li' := #[true, true, true, true, true, true, false, false, false, false, false, false, false, false, false, false, false, false, false, false, false, false]) rfl (by decide +kernel) (by decide +kernel) (by decide +kernel) (by decide +kernel) rfl rfl rfl hb_3 rfl (v_fieldAddr_ptr Ty.f25_0 rfl (off' := 0) rfl ?_)
          refine RA.t1 (i := 7) (li' := #[true, true, true, true, true, true, false, true, false, false, false, false, false, false, false, false, false, false, false, false, false, false]) rfl (by decide +kernel) (by decide +kernel) (by decide +kernel) (by decide +kernel) rfl rfl rfl hb_3 rfl (v_move (v := .int .i64 p0) rfl ?_)
          refine RA.a1 (i1 := 6) (l1 := #[true, true, true, true, true, true, true, true, false, false, false, false, false, false, false, false, false, false, false, false, false, false]) (by decide +kernel) (by decide +kernel) ?_
          refine RO.yes rfl rfl rfl rfl hb_3 (o_load_ptr rfl rfl (loadRow1 Ty.k22 (c := .sl (List.map encS p1)) rfl ?_))
          refine RA.t1 (i := 8) (li' := #[true, true, true, true, true, true, true, true, true, false, false, false, false, false, false, false, false, false, false, false, false, false]) rfl (by decide +kernel) (by decide +kernel) (by decide +kernel) (by decide +kernel) rfl rfl rfl hb_3 rfl (v_index_sl Ty.s22 (fun _ => rfl) rfl rfl hx5 ?_)
          refine RA.a1 (i1 := 9) (l1 := #[true, true, true, true, true, true, true, true, true, true, false, false, false, false, false, false, false, false, false, false, false, false]) (by decide +kernel) (by decide +kernel) ?_
          refine RO.yes rfl rfl rfl rfl hb_3 (o_load_elt rfl (loadRow1 Ty.k9 (c := .str x5) rfl ?_))
          refine RA.t1 (i := 10) (li' := #[true, true, true, true, true, true, true, true, true, true, true, false, false, false, false, false, false, false, false, false, false, false]) rfl (by decide +kernel) (by decide +kernel) (by decide +kernel) (by decide +kernel) rfl rfl rfl hb_3 rfl (v_len_str Try.underlying9 rfl ?_)
          refine RA.t1 (i := 11) (li' := #[true, true, true, true, true, true, true, true, true, true, true, true, false, false, false, false, false, false, false, false, false, false]) rfl (by decide +kernel) (by decide +kernel) (by decide +kernel) (by decide +kernel) rfl rfl rfl hb_3 rfl (v_neq rfl rfl ?_)
          refine RA.t0 (i := 12) (li' := #[true, true, true, true, true, true, true, true, true, true, true, true, true, false, false, false, false, false, false, false, false, false]) rfl (by decide +kernel) (by decide +kernel) (by decide +kernel) (by decide +kernel) rfl rfl (v_pickF (v := .bool (x4.2.1 != ((x5).length : Int))) rfl hb_3 rfl ?_)
          refine RA.t0 (i := 13) (li' := #[true, true, true, true, true, true, true, true, true, true, true, true, true, true, false, false, false, false, false, false, false, false]) rfl (by decide +kernel) (by decide +kernel) (by decide +kernel) (by decide +kernel) rfl rfl (v_move (v := .bool (x4.2.1 != ((x5).length : Int))) rfl ?_)
          refine RA.t2 (i := 14) (li' := #[true, true, true, true, true, true, true, true, true, true, true, true, true, true, true, false, false, false, false, false, false, false]) rfl (by decide +kernel) (by decide +kernel) (by decide +kernel) (by decide +kernel) rfl rfl rfl hb_4 ?_
          refine RA.t2 (i := 15) (li' := #[true, true, true, true, true, true, true, true, true, true, true, true, true, true, true, true, false, false, false, false, false, false]) rfl (by decide +kernel) (by decide +kernel) (by decide +kernel) (by decide +kernel) rfl rfl rfl hb_4 ?_
          refine RA.t2 (i := 16) (li' := #[true, true, true, true, true, true, true, true, true, true, true, true, true, true, true, true, true, false, false, false, false, false]) rfl (by decide +kernel) (by decide +kernel) (by decide +kernel) (by decide +kernel) rfl rfl rfl hb_4 ?_
          refine RA.t2 (i := 17) (li' := #[true, true, true, true, true, true, true, true, true, true, true, true, true, true, true, true, true, true, false, false, false, false]) rfl (by decide +kernel) (by decide +kernel) (by decide +kernel) (by decide +kernel) rfl rfl rfl hb_4 ?_
          refine RA.t2 (i := 18) (li' := #[true, true, true, true, true, true, true, true, true, true, true, true, true, true, true, true, true, true, true, false, false, false]) rfl (by decide +kernel) (by decide +kernel) (by decide +kernel) (by decide +kernel) rfl rfl rfl hb_4 ?_
          refine RA.t2 (i := 19) (li' := #[true, true, true, true, true, true, true, true, true, true, true, true, true, true, true, true, true, true, true, true, false, false]) rfl (by decide +kernel) (by decide +kernel) (by decide +kernel) (by decide +kernel) rfl rfl rfl hb_4 ?_
          refine RA.t2 (i := 20) (li' := #[true, true, true, true, true, true, true, true, true, true, true, true, true, true, true, true, true, true, true, true, true, false]) rfl (by decide +kernel) (by decide +kernel) (by decide +kernel) (by decide +kernel) rfl rfl rfl hb_4 ?_
          refine RA.t0 (i := 21) (li' := #[true, true, true, true, true, true, true, true, true, true, true, true, true, true, true, true, true, true, true, true, true, true]) rfl (by decide +kernel) (by decide +kernel) (by decide +kernel) (by decide +kernel) rfl rfl (v_pickT (v := .bool true) rfl hb_4 rfl ?_)
          refine RA.done (by decide +kernel) ?_
          exact T.weakR (hK () trivial) (Weak.mkN [] [0, 1, 2] (by decide) (by decide) rfl ⟨rn_ref rfl, rn_bool ((congrArg (fun p => p) (Option.some.inj hz)).symm), trivial⟩ (rw_box (cs := [.sl (List.map encS p1), .sl (List.map encWrite p2)]) (ds := [.sl (List.map encS p1), .sl (List.map encWrite p2)]) rfl ⟨rn_sl encS_p rfl, rn_sl encWrite_p rfl, trivial⟩ (rw_box (cs := [.int .i64 p3]) (ds := [.int .i64 p3]) rfl ⟨rn_int rfl, trivial⟩ (rw_arr rfl encS_p rfl (rw_nil)))))
        · replace hz := ite_F hz hb_4
          obtain ⟨x6, hx6, hz⟩ := bind_some hz
          obtain ⟨x7, hx7, hz⟩ := bind_some hz
          obtain ⟨x8, hx8, hz⟩ := bind_some hz
          refine T.drawn mixed (k := 22) rfl ?_
          refine RA.join 0 #[true, true, true, true, true, true, true, true, true, true, true, true, true, true, true, true, true, true, true, true, true, true] (mkA 56 [(0, .int .i64 p0), (1, .ptr 0 0), (2, .ptr 1 0), (4, .nils), (5, .ref 2), (6, .int .i64 x4.2.1), (7, .int .i64 x4.2.2), (10, .int .i64 p0), (11, .ptr 0 0), (12, .sl (List.map encS p1)), (13, .int .i64 ((p1).length : Int)), (14, .bool (decide (p0 ≥ ((p1).length : Int)))), (15, .tup [.ref 2, .int .i64 x4.2.1, .int .i64 x4.2.2]), (16, .ptr 0 0), (17, .sl (List.map encS p1)), (18, .int .i64 p0), (19, .elt (encS x3) 0), (20, .str x3), (21, .tup [.ref 2, .int .i64 x4.2.1, .int .i64 x4.2.2]), (22, .ref 2), (23, .int .i64 x4.2.1), (24, .int .i64 x4.2.2), (25, .ref 2), (26, .int .i64 ((x4.1).length : Int)), (27, .bool (((x4.1).length : Int) != 1)), (28, .bool (((x4.1).length : Int) != 1)), (29, .int .i64 x4.2.1), (30, .ptr 0 0), (31, .sl (List.map encS p1)), (32, .int .i64 p0), (33, .elt (encS x5) 0), (34, .str x5), (35, .int .i64 ((x5).length : Int)), (36, .bool (x4.2.1 != ((x5).length : Int))), (37, .bool (x4.2.1 != ((x5).length : Int))), (38, .bool (x4.2.1 != ((x5).length : Int))), (39, .ref 2), (40, .aptr 2 1 x6 0), (41, .str x7), (42, .int .u8 (x8.toNat : Int)), (43, .int .i64 (IntKind.i64.wrap (x8.toNat : Int))), (44, .int .i64 p3), (45, .bool ((IntKind.i64.wrap (x8.toNat : Int)) != p3)), (46, .bool ((IntKind.i64.wrap (x8.toNat : Int)) != p3))]) [.box [.sl (List.map encS p1), .sl (List.map encWrite p2)], .box [.int .i64 p3], .arr 9 1 (List.map encS x4.1)] ?_ (fun hS9 => ?_)
          · refine RA.done (by decide +kernel) ?_
            exact T.weakR (hK () trivial) (Weak.mkN [] [0, 1, 2] (by decide) (by decide) rfl ⟨rn_ref rfl, rn_bool ((congrArg (fun p => p) (Option.some.inj hz)).symm), trivial⟩ (rw_box (cs := [.sl (List.map encS p1), .sl (List.map encWrite p2)]) (ds := [.sl (List.map encS p1), .sl (List.map encWrite p2)]) rfl ⟨rn_sl encS_p rfl, rn_sl encWrite_p rfl, trivial⟩ (rw_box (cs := [.int .i64 p3]) (ds := [.int .i64 p3]) rfl ⟨rn_int rfl, trivial⟩ (rw_arr rfl encS_p rfl (rw_nil)))))
          · refine RA.t0 (i := 0) (li' := #[true, false, false, false, false, false, false, false, false, false, false, false, false, false, false, false, false, false, false, false, false, false]) rfl (by decide +kernel) (by decide +kernel) (by decide +kernel) (by decide +kernel) rfl rfl (v_move (v := .ref 2) rfl ?_)
            refine RA.t0 (i := 1) (li' := #[true, true, false, false, false, false, false, false, false, false, false, false, false, false, false, false, false, false, false, false, false, false]) rfl (by decide +kernel) (by decide +kernel) (by decide +kernel) (by decide +kernel) rfl rfl (v_len_ref (en := encS) Ty.s22 rfl rfl ?_)
            refine RA.t0 (i := 2) (li' := #[true, true, true, false, false, false, false, false, false, false, false, false, false, false, false, false, false, false, false, false, false, false]) rfl (by decide +kernel) (by decide +kernel) (by decide +kernel) (by decide +kernel) rfl rfl (v_neq rfl rfl ?_)
            refine RA.t0 (i := 3) (li' := #[true, true, true, true, false, false, false, false, false, false, false, false, false, false, false, false, false, false, false, false, false, false]) rfl (by decide +kernel) (by decide +kernel) (by decide +kernel) (by decide +kernel) rfl rfl (v_move (v := .bool (((x4.1).length : Int) != 1)) rfl ?_)
            refine RA.t1 (i := 4) (li' := #[true, true, true, true, true, false, false, false, false, false, false, false, false, false, false, false, false, false, false, false, false, false]) rfl (by decide +kernel) (by decide +kernel) (by decide +kernel) (by decide +kernel) rfl rfl rfl hb_3 rfl (v_move (v := .int .i64 x4.2.1) rfl ?_)
            refine RA.t1 (i := 5) (li' := #[true, true, true, true, true, true, false, false, false, false, false, false, false, false, false, false, false, false, false, false, false, false]) rfl (by decide +kernel) (by decide +kernel) (by decide +kernel) (by decide +kernel) rfl rfl rfl hb_3 rfl (v_fieldAddr_ptr Ty.f25_0 rfl (off' := 0) rfl ?_)
            refine RA.t1 (i := 7) (li' := #[true, true, true, true, true, true, false, true, false, false, false, false, false, false, false, false, false, false, false, false, false, false]) rfl (by decide +kernel) (by decide +kernel) (by decide +kernel) (by decide +kernel) rfl rfl rfl hb_3 rfl (v_move (v := .int .i64 p0) rfl ?_)
            refine RA.a1 (i1 := 6) (l1 := #[true, true, true, true, true, true, true, true, false, false, false, false, false, false, false, false, false, false, false, false, false, false]) (by decide +kernel) (by decide +kernel) ?_
            refine RO.yes rfl rfl rfl rfl hb_3 (o_load_ptr rfl rfl (loadRow1 Ty.k22 (c := .sl (List.map encS p1)) rfl ?_))
            refine RA.t1 (i := 8) (li' := #[true, true, true, true, true, true, true, true, true, false, false, false, false, false, false, false, false, false, false, false, false, false]) rfl (by decide +kernel) (by decide +kernel) (by decide +kernel) (by decide +kernel) rfl rfl rfl hb_3 rfl (v_index_sl Ty.s22 (fun _ => rfl) rfl rfl hx5 ?_)
            refine RA.a1 (i1 := 9) (l1 := #[true, true, true, true, true, true, true, true, true, true, false, false, false, false, false, false, false, false, false, false, false, false]) (by decide +kernel) (by decide +kernel) ?_
            refine RO.yes rfl rfl rfl rfl hb_3 (o_load_elt rfl (loadRow1 Ty.k9 (c := .str x5) rfl ?_))
            refine RA.t1 (i := 10) (li' := #[true, true, true, true, true, true, true, true, true, true, true, false, false, false, false, false, false, false, false, false, false, false]) rfl (by decide +kernel) (by decide +kernel) (by decide +kernel) (by decide +kernel) rfl rfl rfl hb_3 rfl (v_len_str Try.underlying9 rfl ?_)
            refine RA.t1 (i := 11) (li' := #[true, true, true, true, true, true, true, true, true, true, true, true, false, false, false, false, false, false, false, false, false, false]) rfl (by decide +kernel) (by decide +kernel) (by decide +kernel) (by decide +kernel) rfl rfl rfl hb_3 rfl (v_neq rfl rfl ?_)
            refine RA.t0 (i := 12) (li' := #[true, true, true, true, true, true, true, true, true, true, true, true, true, false, false, false, false, false, false, false, false, false]) rfl (by decide +kernel) (by decide +kernel) (by decide +kernel) (by decide +kernel) rfl rfl (v_pickF (v := .bool (x4.2.1 != ((x5).length : Int))) rfl hb_3 rfl ?_)
            refine RA.t0 (i := 13) (li' := #[true, true, true, true, true, true, true, true, true, true, true, true, true, true, false, false, false, false, false, false, false, false]) rfl (by decide +kernel) (by decide +kernel) (by decide +kernel) (by decide +kernel) rfl rfl (v_move (v := .bool (x4.2.1 != ((x5).length : Int))) rfl ?_)
            refine RA.t1 (i := 14) (li' := #[true, true, true, true, true, true, true, true, true, true, true, true, true, true, true, false, false, false, false, false, false, false]) rfl (by decide +kernel) (by decide +kernel) (by decide +kernel) (by decide +kernel) rfl rfl rfl hb_4 rfl (v_move (v := .ref 2) rfl ?_)
            refine RA.t1 (i := 15) (li' := #[true, true, true, true, true, true, true, true, true, true, true, true, true, true, true, true, false, false, false, false, false, false]) rfl (by decide +kernel) (by decide +kernel) (by decide +kernel) (by decide +kernel) rfl rfl rfl hb_4 rfl (v_index_ref' (en := encS) Ty.s22 rfl rfl rfl hx6 ?_)
            refine RA.a2 (i1 := 16) (l1 := #[true, true, true, true, true, true, true, true, true, true, true, true, true, true, true, true, true, false, false, false, false, false]) (i2 := 19) (l2 := #[true, true, true, true, true, true, true, true, true, true, true, true, true, true, true, true, false, false, false, true, false, false]) (by decide +kernel) (by decide +kernel) (by decide +kernel) ?_ ?_
            · refine RO.yes rfl rfl rfl rfl hb_4 (o_load_aptr' (en := encS) (a := x7) rfl rfl hx7 (loadRow1 Ty.k9 (c := .str x7) rfl ?_))
              refine RA.t1 (i := 17) (li' := #[true, true, true, true, true, true, true, true, true, true, true, true, true, true, true, true, true, true, false, false, false, false]) rfl (by decide +kernel) (by decide +kernel) (by decide +kernel) (by decide +kernel) rfl rfl rfl hb_4 rfl (v_index_str Try.underlying9 rfl rfl hx8 ?_)
              refine RA.t1 (i := 18) (li' := #[true, true, true, true, true, true, true, true, true, true, true, true, true, true, true, true, true, true, true, false, false, false]) rfl (by decide +kernel) (by decide +kernel) (by decide +kernel) (by decide +kernel) rfl rfl rfl hb_4 rfl (v_conv Try.underlying5 Try.underlying3 rfl ?_)
              refine RA.a1 (i1 := 19) (l1 := #[true, true, true, true, true, true, true, true, true, true, true, true, true, true, true, true, true, true, true, true, false, false]) (by decide +kernel) (by decide +kernel) ?_
              refine RO.yes rfl rfl rfl rfl hb_4 (o_load_ptr rfl rfl (loadRow1 Ty.k3 (c := .int .i64 p3) rfl ?_))
              refine RA.t1 (i := 20) (li' := #[true, true, true, true, true, true, true, true, true, true, true, true, true, true, true, true, true, true, true, true, true, false]) rfl (by decide +kernel) (by decide +kernel) (by decide +kernel) (by decide +kernel) rfl rfl rfl hb_4 rfl (v_neq rfl rfl ?_)
              refine RA.t0 (i := 21) (li' := #[true, true, true, true, true, true, true, true, true, true, true, true, true, true, true, true, true, true, true, true, true, true]) rfl (by decide +kernel) (by decide +kernel) (by decide +kernel) (by decide +kernel) rfl rfl (v_pickF (v := .bool ((IntKind.i64.wrap (x8.toNat : Int)) != p3)) rfl hb_4 rfl ?_)
              exact RA.weakR hS9 (Weak.mkN [] [0, 1, 2] (by decide) (by decide) rfl ⟨rn_int rfl, rn_ptr rfl, rn_ptr rfl, rn_same pure_nils, rn_ref rfl, rn_int rfl, rn_int rfl, rn_int rfl, rn_ptr rfl, rn_sl encS_p rfl, rn_int rfl, rn_bool rfl, rn_tup ⟨rn_ref rfl, rn_int rfl, rn_int rfl, trivial⟩, rn_ptr rfl, rn_sl encS_p rfl, rn_int rfl, rn_elt (encS_p _) (congrArg encS rfl), rn_str rfl, rn_tup ⟨rn_ref rfl, rn_int rfl, rn_int rfl, trivial⟩, rn_ref rfl, rn_int rfl, rn_int rfl, rn_ref rfl, rn_int rfl, rn_bool rfl, rn_bool rfl, rn_int rfl, rn_ptr rfl, rn_sl encS_p rfl, rn_int rfl, rn_elt (encS_p _) (congrArg encS rfl), rn_str rfl, rn_int rfl, rn_bool rfl, rn_bool rfl, rn_bool rfl, rn_ref rfl, rn_aptr rfl rfl, rn_str rfl, rn_int rfl, rn_int rfl, rn_int rfl, rn_bool rfl, rn_bool rfl, trivial⟩ (rw_box (cs := [.sl (List.map encS p1), .sl (List.map encWrite p2)]) (ds := [.sl (List.map encS p1), .sl (List.map encWrite p2)]) rfl ⟨rn_sl encS_p rfl, rn_sl encWrite_p rfl, trivial⟩ (rw_box (cs := [.int .i64 p3]) (ds := [.int .i64 p3]) rfl ⟨rn_int rfl, trivial⟩ (rw_arr rfl encS_p rfl (rw_nil)))))
            · refine RO.yes rfl rfl rfl rfl hb_4 (o_load_ptr rfl rfl (loadRow1 Ty.k3 (c := .int .i64 p3) rfl ?_))
              refine RA.a1 (i1 := 16) (l1 := #[true, true, true, true, true, true, true, true, true, true, true, true, true, true, true, true, true, false, false, true, false, false]) (by decide +kernel) (by decide +kernel) ?_
              refine RO.yes rfl rfl rfl rfl hb_4 (o_load_aptr' (en := encS) (a := x7) rfl rfl hx7 (loadRow1 Ty.k9 (c := .str x7) rfl ?_))
              refine RA.t1 (i := 17) (li' := #[true, true, true, true, true, true, true, true, true, true, true, true, true, true, true, true, true, true, false, true, false, false]) rfl (by decide +kernel) (by decide +kernel) (by decide +kernel) (by decide +kernel) rfl rfl rfl hb_4 rfl (v_index_str Try.underlying9 rfl rfl hx8 ?_)
              refine RA.t1 (i := 18) (li' := #[true, true, true, true, true, true, true, true, true, true, true, true, true, true, true, true, true, true, true, true, false, false]) rfl (by decide +kernel) (by decide +kernel) (by decide +kernel) (by decide +kernel) rfl rfl rfl hb_4 rfl (v_conv Try.underlying5 Try.underlying3 rfl ?_)
              refine RA.t1 (i := 20) (li' := #[true, true, true, true, true, true, true, true, true, true, true, true, true, true, true, true, true, true, true, true, true, false]) rfl (by decide +kernel) (by decide +kernel) (by decide +kernel) (by decide +kernel) rfl rfl rfl hb_4 rfl (v_neq rfl rfl ?_)
              refine RA.t0 (i := 21) (li' := #[true, true, true, true, true, true, true, true, true, true, true, true, true, true, true, true, true, true, true, true, true, true]) rfl (by decide +kernel) (by decide +kernel) (by decide +kernel) (by decide +kernel) rfl rfl (v_pickF (v := .bool ((IntKind.i64.wrap (x8.toNat : Int)) != p3)) rfl hb_4 rfl ?_)
              exact RA.weakR hS9 (Weak.mkN [] [0, 1, 2] (by decide) (by decide) rfl ⟨rn_int rfl, rn_ptr rfl, rn_ptr rfl, rn_same pure_nils, rn_ref rfl, rn_int rfl, rn_int rfl, rn_int rfl, rn_ptr rfl, rn_sl encS_p rfl, rn_int rfl, rn_bool rfl, rn_tup ⟨rn_ref rfl, rn_int rfl, rn_int rfl, trivial⟩, rn_ptr rfl, rn_sl encS_p rfl, rn_int rfl, rn_elt (encS_p _) (congrArg encS rfl), rn_str rfl, rn_tup ⟨rn_ref rfl, rn_int rfl, rn_int rfl, trivial⟩, rn_ref rfl, rn_int rfl, rn_int rfl, rn_ref rfl, rn_int rfl, rn_bool rfl, rn_bool rfl, rn_int rfl, rn_ptr rfl, rn_sl encS_p rfl, rn_int rfl, rn_elt (encS_p _) (congrArg encS rfl), rn_str rfl, rn_int rfl, rn_bool rfl, rn_bool rfl, rn_bool rfl, rn_ref rfl, rn_aptr rfl rfl, rn_str rfl, rn_int rfl, rn_int rfl, rn_int rfl, rn_bool rfl, rn_bool rfl, trivial⟩ (rw_box (cs := [.sl (List.map encS p1), .sl (List.map encWrite p2)]) (ds := [.sl (List.map encS p1), .sl (List.map encWrite p2)]) rfl ⟨rn_sl encS_p rfl, rn_sl encWrite_p rfl, trivial⟩ (rw_box (cs := [.int .i64 p3]) (ds := [.int .i64 p3]) rfl ⟨rn_int rfl, trivial⟩ (rw_arr rfl encS_p rfl (rw_nil)))))
theorem log_Scan_c (p0 : Disk) (p1 : Int) (r : (List Choice) × Int × Int) (h : log_Scan p0 p1 = some r) : FnO Try.prog 15 [.agg [.sl (List.map encS p0.Sectors), .sl (List.map encWrite p0.Wait)], .int .i64 p1] (.tup [.ref 0, .int .i64 r.2.1, .int .i64 r.2.2]) [.arr 36 2 (List.map encChoice r.1)] := by
  unfold log_Scan at h
  refine fn_of_T (N := 0) rfl Try.func15 rfl (by kernel_rfl) Try.ntmps15 rfl ?_
  show T _ _ _ _ (mkA 38 [(0, .agg [.sl (List.map encS p0.Sectors), .sl (List.map encWrite p0.Wait)]), (1, .int .i64 p1)]) []
  refine T.seq ?_
  refine T.region ?_
  refine RS.op rfl (o_box (cs := [.sl (List.map encS p0.Sectors), .sl (List.map encWrite p0.Wait)]) rfl rfl (aw' := [.box [.sl (List.map encS p0.Sectors), .sl (List.map encWrite p0.Wait)]]) rfl ?_)
  refine RS.op rfl (o_box (cs := [.int .i64 p1]) rfl rfl (aw' := [.box [.sl (List.map encS p0.Sectors), .sl (List.map encWrite p0.Wait)], .box [.int .i64 p1]]) rfl ?_)
  refine RS.op rfl (OP.q rfl (v_assign (v := .nils) rfl ?_))
  refine RS.op rfl (OP.q rfl (v_assign (v := .int .i64 0) rfl ?_))
  refine RS.op rfl (OP.q rfl (v_assign (v := .int .i64 0) rfl ?_))
  refine RS.nil ?_
  refine T.seq ?_
  refine T.seq ?_
  obtain ⟨x2, hx2, h⟩ := bind_some h
  refine T.region ?_
  refine RS.op rfl (o_load_ptr rfl rfl (loadRowA Ty.k25 Ty.c25 rfl (cs := [.sl (List.map encS p0.Sectors), .sl (List.map encWrite p0.Wait)]) rfl ?_))
  refine RS.op rfl (o_call (as0 := [.agg [.sl (List.map encS p0.Sectors), .sl (List.map encWrite p0.Wait)]]) (as1 := [.agg [.sl (List.map encS p0.Sectors), .sl (List.map encWrite p0.Wait)]]) (caps := []) (aw1 := [.box [.sl (List.map encS p0.Sectors), .sl (List.map encWrite p0.Wait)], .box [.int .i64 p1]]) rfl rfl rfl (k_flat (v := .int .i64 x2) (disk_Check_c p0 x2 hx2) (⟨pure_agg _ (pures_mem (⟨pure_map encS_p _, pure_map encWrite_p _, trivial⟩)), trivial⟩) rfl ?_))
  refine RS.op rfl (OP.q rfl (v_assign (v := .int .i64 x2) rfl ?_))
  refine RS.nil ?_
  refine T.seq ?_
  refine T.region ?_
  refine RS.op rfl (OP.q rfl (v_move (v := .int .i64 x2) rfl ?_))
  refine RS.op rfl (OP.q rfl (v_neq rfl rfl ?_))
  refine RS.nil ?_
  refine T.cond (b := x2 != 0) rfl (fun hb_1 => ?_) (fun hb_1 => ?_)
  · replace h := ite_T h hb_1
    refine T.seq ?_
    refine T.region ?_
    refine RS.op rfl (OP.q rfl (v_move (v := .int .i64 x2) rfl ?_))
    refine RS.op rfl (OP.q rfl (v_assign (v := .nils) rfl ?_))
    refine RS.op rfl (OP.q rfl (v_assign (v := .int .i64 0) rfl ?_))
    refine RS.op rfl (OP.q rfl (v_assign (v := .int .i64 x2) rfl ?_))
    refine RS.nil ?_
    refine T.ret' (R := ?R2) ?hq2 ?_
    case hq2 => repeat (first | exact RetIs.base | refine RetIs.thn ?_ | refine RetIs.blk ?_ | refine RetIs.lq ?_)
    refine res_tmpA (v := .nils) rfl ?_
    refine res_tmpA (v := .int .i64 0) rfl ?_
    refine res_tmpA (v := .int .i64 x2) rfl ?_
    refine res_done ?_
    exact ret_own (.tup [.ref 0, .int .i64 r.2.1, .int .i64 r.2.2]) [(0, 36, 2)] [2] (by decide) (none_kept _) rfl (rn_tup ⟨rn_ref rfl, rn_int (congrArg (fun r : (List Choice) × Int × Int => r.2.1) (Option.some.inj h)).symm, rn_int (congrArg (fun r : (List Choice) × Int × Int => r.2.2) (Option.some.inj h)).symm, trivial⟩) (rw_arr (en := encChoice) (ys := []) rfl encChoice_p (congrArg (fun r : (List Choice) × Int × Int => r.1) (Option.some.inj h)).symm (rw_nil)) ⟨rfl, rfl⟩
  · replace h := ite_F h hb_1
    refine T.skip ?_
    refine T.seq ?_
    refine T.join (Z := Unit) (fun _ => mkA 38 [(2, .ptr 0 0), (3, .ptr 1 0), (4, .nils), (5, .int .i64 0), (20, .bool ((decide (p1 < 0)) || decide (p1 > 200)))]) (fun _ => [.box [.sl (List.map encS p0.Sectors), .sl (List.map encWrite p0.Wait)], .box [.int .i64 p1]]) (fun _ => True) (fun _ _ => ?_) (fun hK => ?_)
    · show T _ _ _ _ (mkA 38 [(2, .ptr 0 0), (3, .ptr 1 0), (4, .nils), (5, .int .i64 0), (20, .bool ((decide (p1 < 0)) || decide (p1 > 200)))]) [.box [.sl (List.map encS p0.Sectors), .sl (List.map encWrite p0.Wait)], .box [.int .i64 p1]]
      refine T.cond (b := ((decide (p1 < 0)) || decide (p1 > 200))) rfl (fun hb_4 => ?_) (fun hb_4 => ?_)
      · replace h := ite_T h hb_4
        refine T.seq ?_
        refine T.region ?_
        refine RS.op rfl (OP.q rfl (v_assign (v := .nils) rfl ?_))
        refine RS.op rfl (OP.q rfl (v_assign (v := .int .i64 0) rfl ?_))
        refine RS.op rfl (OP.q rfl (v_assign (v := .int .i64 3) rfl ?_))
        refine RS.nil ?_
        refine T.ret' (R := ?R5) ?hq5 ?_
        case hq5 => repeat (first | exact RetIs.base | refine RetIs.thn ?_ | refine RetIs.blk ?_ | refine RetIs.lq ?_)
        refine res_tmpA (v := .nils) rfl ?_
        refine res_tmpA (v := .int .i64 0) rfl ?_
        refine res_tmpA (v := .int .i64 3) rfl ?_
        refine res_done ?_
        exact ret_own (.tup [.ref 0, .int .i64 r.2.1, .int .i64 r.2.2]) [(0, 36, 2)] [2] (by decide) (none_kept _) rfl (rn_tup ⟨rn_ref rfl, rn_int (congrArg (fun r : (List Choice) × Int × Int => r.2.1) (Option.some.inj h)).symm, rn_int (congrArg (fun r : (List Choice) × Int × Int => r.2.2) (Option.some.inj h)).symm, trivial⟩) (rw_arr (en := encChoice) (ys := []) rfl encChoice_p (congrArg (fun r : (List Choice) × Int × Int => r.1) (Option.some.inj h)).symm (rw_nil)) ⟨rfl, rfl⟩
      · replace h := ite_F h hb_4
        refine T.skip ?_
        refine T.seq ?_
        refine T.region ?_
        refine RS.op rfl (OP.q rfl (v_makeFunc (cs := [.ptr 0 0, .ptr 1 0]) rfl ?_))
        refine RS.op rfl (OP.q rfl (v_assign (v := .func 55 [.ptr 0 0, .ptr 1 0]) rfl ?_))
        refine RS.nil ?_
        refine T.seq ?_
        refine T.seq ?_
        obtain ⟨x5, hx5, h⟩ := bind_some h
        refine T.region ?_
        refine RS.op rfl (OP.q rfl (v_move (v := .func 55 [.ptr 0 0, .ptr 1 0]) rfl ?_))
        refine RS.op rfl (o_callF (ac := [.int .i64 120, .ptr 0 0, .ptr 1 0]) (as0 := [.int .i64 (120 : Int), .ptr 0 0, .ptr 1 0]) (aw0 := [.box [.sl (List.map encS p0.Sectors), .sl (List.map encWrite p0.Wait)], .box [.int .i64 p1]]) (aw1 := [.box [.sl (List.map encS p0.Sectors), .sl (List.map encWrite p0.Wait)], .box [.int .i64 p1], .arr 36 2 (List.map encChoice x5)]) (aw2 := [.box [.sl (List.map encS p0.Sectors), .sl (List.map encWrite p0.Wait)], .box [.int .i64 p1], .arr 36 2 (List.map encChoice x5)]) (v := .ref 2) (v' := .ref 2) (n0 := 2) (n1 := 3) [0, 1] rfl rfl rfl rfl (by decide) (rw_box (cs := [.sl (List.map encS p0.Sectors), .sl (List.map encWrite p0.Wait)]) (ds := [.sl (List.map encS p0.Sectors), .sl (List.map encWrite p0.Wait)]) rfl ⟨rn_sl encS_p rfl, rn_sl encWrite_p rfl, trivial⟩ (rw_box (cs := [.int .i64 p1]) (ds := [.int .i64 p1]) rfl ⟨rn_int rfl, trivial⟩ (rw_nil))) ⟨rn_int rfl, rn_ptr rfl, rn_ptr rfl, trivial⟩ (log_Scan_1_x006d_c (120 : Int) p0.Sectors p0.Wait p1 x5 hx5) rfl (rm_ref (by decide)) ⟨.inl ⟨0, _, by decide, rfl, rom_box (cs := [.sl (List.map encS p0.Sectors), .sl (List.map encWrite p0.Wait)]) (ds := [.sl (List.map encS p0.Sectors), .sl (List.map encWrite p0.Wait)]) ⟨rm_pure (pure_map encS_p _), rm_pure (pure_map encWrite_p _), trivial⟩⟩, .inl ⟨1, _, by decide, rfl, rom_box (cs := [.int .i64 p1]) (ds := [.int .i64 p1]) ⟨rm_pure (pure_int _ _), trivial⟩⟩, .inl ⟨2, _, by decide, rfl, rom_arr encChoice_p⟩, trivial⟩ ?_)
        refine RS.op rfl (OP.q rfl (v_assign (v := .ref 2) rfl ?_))
        refine RS.nil ?_
        refine T.block ?_
        refine T.iter (fun ss_8 : Int × (List Choice) × (List Choice) => mkA 38 [(4, .ref 0), (5, .int .i64 ss_8.1), (8, .func 55 [.ptr 1 0, .ptr 2 0]), (9, .ref 3)]) (fun ss_8 => [.arr 36 2 (List.map encChoice ss_8.2.1), .box [.sl (List.map encS p0.Sectors), .sl (List.map encWrite p0.Wait)], .box [.int .i64 p1], .arr 36 2 (List.map encChoice ss_8.2.2)]) h (Weak.mkN [(4, 36, 2)] [3, 0, 1, 2] (by decide) (none_kept _) rfl ⟨rn_ref rfl, rn_int rfl, rn_func ⟨rn_ptr rfl, rn_ptr rfl, trivial⟩, rn_ref rfl, trivial⟩ (rw_arr (en := encChoice) (ys := []) rfl encChoice_p rfl (rw_box (cs := [.sl (List.map encS p0.Sectors), .sl (List.map encWrite p0.Wait)]) (ds := [.sl (List.map encS p0.Sectors), .sl (List.map encWrite p0.Wait)]) rfl ⟨rn_sl encS_p rfl, rn_sl encWrite_p rfl, trivial⟩ (rw_box (cs := [.int .i64 p1]) (ds := [.int .i64 p1]) rfl ⟨rn_int rfl, trivial⟩ (rw_arr rfl encChoice_p rfl (rw_nil)))))) (fun ss_8 v_9 h hv_9 => ?_)
        obtain ⟨s6, s7, s8⟩ := ss_8
        replace h : log_Scan_l1 p0 p1 s6 s7 s8 = some v_9 := h
        show T _ _ _ _ (mkA 38 [(4, .ref 0), (5, .int .i64 s6), (8, .func 55 [.ptr 1 0, .ptr 2 0]), (9, .ref 3)]) [.arr 36 2 (List.map encChoice s7), .box [.sl (List.map encS p0.Sectors), .sl (List.map encWrite p0.Wait)], .box [.int .i64 p1], .arr 36 2 (List.map encChoice s8)]
        unfold log_Scan_l1 at h
        refine T.seq ?_
        refine T.seq ?_
        refine T.region ?_
        refine RS.op rfl (OP.q rfl (v_move (v := .ref 3) rfl ?_))
        refine RS.op rfl (OP.q rfl (v_len_ref (en := encChoice) Ty.s26 rfl rfl ?_))
        refine RS.op rfl (OP.q rfl (v_gtr rfl rfl ?_))
        refine RS.nil ?_
        refine T.cond (b := decide (((s8).length : Int) > 0)) rfl (fun hb_10 => ?_) (fun hb_10 => ?_)
        · replace h := ite_T h hb_10
          refine T.skip ?_
          refine T.seq ?_
          refine T.block ?_
          refine T.seq ?_
          obtain ⟨x10, hx10, h⟩ := bind_some h
          refine T.region ?_
          refine RS.op rfl (OP.q rfl (v_move (v := .ref 0) rfl ?_))
          refine RS.op rfl (OP.q rfl (v_move (v := .ref 3) rfl ?_))
          refine RS.op rfl (o_app_ref (en := encChoice) (xs := s7) (ys := s8) Ty.s26 (fun _ => rfl) rfl rfl rfl hx10 rfl (aw' := [.dead, .box [.sl (List.map encS p0.Sectors), .sl (List.map encWrite p0.Wait)], .box [.int .i64 p1], .dead, .arr 36 2 (List.map encChoice x10)]) rfl ?_)
          refine RS.op rfl (OP.q rfl (v_assign (v := .ref 4) rfl ?_))
          refine RS.nil ?_
          refine T.region ?_
          refine RS.op rfl (OP.q rfl (v_move (v := .int .i64 s6) rfl ?_))
          refine RS.op rfl (OP.q rfl (v_add rfl rfl ?_))
          refine RS.op rfl (OP.q rfl (v_assign (v := .int .i64 (IntKind.i64.wrap (s6 + 1))) rfl ?_))
          refine RS.nil ?_
          obtain ⟨x11, hx11, h⟩ := bind_some h
          refine T.region ?_
          refine RS.op rfl (OP.q rfl (v_move (v := .func 55 [.ptr 1 0, .ptr 2 0]) rfl ?_))
          refine RS.op rfl (OP.q rfl (v_move (v := .int .i64 (IntKind.i64.wrap (s6 + 1))) rfl ?_))
          refine RS.op rfl (OP.q rfl (v_add rfl rfl ?_))
          refine RS.op rfl (o_callF (ac := [.int .i64 (IntKind.i64.wrap (120 + (IntKind.i64.wrap (s6 + 1)))), .ptr 1 0, .ptr 2 0]) (as0 := [.int .i64 (IntKind.i64.wrap (120 + (IntKind.i64.wrap (s6 + 1)))), .ptr 0 0, .ptr 1 0]) (aw0 := [.box [.sl (List.map encS p0.Sectors), .sl (List.map encWrite p0.Wait)], .box [.int .i64 p1]]) (aw1 := [.box [.sl (List.map encS p0.Sectors), .sl (List.map encWrite p0.Wait)], .box [.int .i64 p1], .arr 36 2 (List.map encChoice x11)]) (aw2 := [.dead, .box [.sl (List.map encS p0.Sectors), .sl (List.map encWrite p0.Wait)], .box [.int .i64 p1], .dead, .arr 36 2 (List.map encChoice x10), .arr 36 2 (List.map encChoice x11)]) (v := .ref 2) (v' := .ref 5) (n0 := 5) (n1 := 3) [1, 2] rfl rfl rfl rfl (by decide) (rw_box (cs := [.sl (List.map encS p0.Sectors), .sl (List.map encWrite p0.Wait)]) (ds := [.sl (List.map encS p0.Sectors), .sl (List.map encWrite p0.Wait)]) rfl ⟨rn_sl encS_p rfl, rn_sl encWrite_p rfl, trivial⟩ (rw_box (cs := [.int .i64 p1]) (ds := [.int .i64 p1]) rfl ⟨rn_int rfl, trivial⟩ (rw_nil))) ⟨rn_int rfl, rn_ptr rfl, rn_ptr rfl, trivial⟩ (log_Scan_1_x006d_c (IntKind.i64.wrap (120 + (IntKind.i64.wrap (s6 + 1)))) p0.Sectors p0.Wait p1 x11 hx11) rfl (rm_ref (by decide)) ⟨.inr ⟨rfl, rfl⟩, .inl ⟨0, _, by decide, rfl, rom_box (cs := [.sl (List.map encS p0.Sectors), .sl (List.map encWrite p0.Wait)]) (ds := [.sl (List.map encS p0.Sectors), .sl (List.map encWrite p0.Wait)]) ⟨rm_pure (pure_map encS_p _), rm_pure (pure_map encWrite_p _), trivial⟩⟩, .inl ⟨1, _, by decide, rfl, rom_box (cs := [.int .i64 p1]) (ds := [.int .i64 p1]) ⟨rm_pure (pure_int _ _), trivial⟩⟩, .inr ⟨rfl, rfl⟩, .inr ⟨rfl, rfl⟩, .inl ⟨2, _, by decide, rfl, rom_arr encChoice_p⟩, trivial⟩ ?_)
          refine RS.op rfl (OP.q rfl (v_assign (v := .ref 5) rfl ?_))
          refine RS.nil ?_
          exact ⟨(IntKind.i64.wrap (s6 + 1), x10, x11), (Option.some.inj h).symm, Weak.mkN [] [4, 1, 2, 5] (by decide) (none_kept _) rfl ⟨rn_ref rfl, rn_int rfl, rn_func ⟨rn_ptr rfl, rn_ptr rfl, trivial⟩, rn_ref rfl, trivial⟩ (rw_arr rfl encChoice_p rfl (rw_box (cs := [.sl (List.map encS p0.Sectors), .sl (List.map encWrite p0.Wait)]) (ds := [.sl (List.map encS p0.Sectors), .sl (List.map encWrite p0.Wait)]) rfl ⟨rn_sl encS_p rfl, rn_sl encWrite_p rfl, trivial⟩ (rw_box (cs := [.int .i64 p1]) (ds := [.int .i64 p1]) rfl ⟨rn_int rfl, trivial⟩ (rw_arr rfl encChoice_p rfl (rw_nil)))))⟩
        · replace h := ite_F h hb_10
          refine T.exit ?_
          obtain ⟨w_11, h, hw_11⟩ := map_inr h
          replace h := h.trans (congrArg some (hv_9 _ hw_11))
          refine T.seq ?_
          refine T.region ?_
          refine RS.op rfl (OP.q rfl (v_move (v := .ref 0) rfl ?_))
          refine RS.op rfl (OP.q rfl (v_move (v := .int .i64 s6) rfl ?_))
          refine RS.op rfl (OP.q rfl (v_assign (v := .ref 0) rfl ?_))
          refine RS.op rfl (OP.q rfl (v_assign (v := .int .i64 s6) rfl ?_))
          refine RS.op rfl (OP.q rfl (v_assign (v := .int .i64 0) rfl ?_))
          refine RS.nil ?_
          refine T.ret' (R := ?R12) ?hq12 ?_
          case hq12 => repeat (first | exact RetIs.base | refine RetIs.thn ?_ | refine RetIs.blk ?_ | refine RetIs.lq ?_)
          refine res_tmpA (v := .ref 0) rfl ?_
          refine res_tmpA (v := .int .i64 s6) rfl ?_
          refine res_tmpA (v := .int .i64 0) rfl ?_
          refine res_done ?_
          exact ret_own (.tup [.ref 0, .int .i64 r.2.1, .int .i64 r.2.2]) [] [0] (by decide) (none_kept _) rfl (rn_tup ⟨rn_ref rfl, rn_int (congrArg (fun r : (List Choice) × Int × Int => r.2.1) (Option.some.inj h)).symm, rn_int (congrArg (fun r : (List Choice) × Int × Int => r.2.2) (Option.some.inj h)).symm, trivial⟩) (rw_arr rfl encChoice_p (congrArg (fun r : (List Choice) × Int × Int => r.1) (Option.some.inj h)).symm (rw_nil)) ⟨rfl, rfl⟩
    · rcases bool_cases (decide (p1 < 0)) with hb_3 | hb_3
      · refine T.region ?_
        refine RS.op rfl (o_load_ptr rfl rfl (loadRow1 Ty.k3 (c := .int .i64 p1) rfl ?_))
        refine RS.op rfl (OP.q rfl (v_lss rfl rfl ?_))
        refine RS.op rfl (OP.q rfl (v_move (v := .bool (decide (p1 < 0))) rfl ?_))
        refine RS.no rfl rfl rfl hb_3 ?_
        refine RS.no rfl rfl rfl hb_3 ?_
        refine RS.op rfl (OP.q rfl (v_pickT (v := .bool true) rfl hb_3 rfl ?_))
        refine RS.nil ?_
        exact T.weakR (hK () trivial) (Weak.mkN [] [0, 1] (by decide) (none_kept _) rfl ⟨rn_ptr rfl, rn_ptr rfl, rn_same pure_nils, rn_int rfl, rn_bool (by simp only [hb_3, Bool.true_or, Bool.or_true, Bool.false_or, Bool.or_false, Bool.true_and, Bool.and_true, Bool.false_and, Bool.and_false, Bool.not_true, Bool.not_false, if_true, if_false, Bool.false_eq_true, reduceIte]), trivial⟩ (rw_box (cs := [.sl (List.map encS p0.Sectors), .sl (List.map encWrite p0.Wait)]) (ds := [.sl (List.map encS p0.Sectors), .sl (List.map encWrite p0.Wait)]) rfl ⟨rn_sl encS_p rfl, rn_sl encWrite_p rfl, trivial⟩ (rw_box (cs := [.int .i64 p1]) (ds := [.int .i64 p1]) rfl ⟨rn_int rfl, trivial⟩ (rw_nil))))
      · refine T.region ?_
        refine RS.op rfl (o_load_ptr rfl rfl (loadRow1 Ty.k3 (c := .int .i64 p1) rfl ?_))
        refine RS.op rfl (OP.q rfl (v_lss rfl rfl ?_))
        refine RS.op rfl (OP.q rfl (v_move (v := .bool (decide (p1 < 0))) rfl ?_))
        refine RS.yes rfl rfl rfl hb_3 (o_load_ptr rfl rfl (loadRow1 Ty.k3 (c := .int .i64 p1) rfl ?_))
        refine RS.yes rfl rfl rfl hb_3 (OP.q rfl (v_gtr rfl rfl ?_))
        refine RS.op rfl (OP.q rfl (v_pickF (v := .bool (decide (p1 > 200))) rfl hb_3 rfl ?_))
        refine RS.nil ?_
        exact T.weakR (hK () trivial) (Weak.mkN [] [0, 1] (by decide) (none_kept _) rfl ⟨rn_ptr rfl, rn_ptr rfl, rn_same pure_nils, rn_int rfl, rn_bool (by simp only [hb_3, Bool.true_or, Bool.or_true, Bool.false_or, Bool.or_false, Bool.true_and, Bool.and_true, Bool.false_and, Bool.and_false, Bool.not_true, Bool.not_false, if_true, if_false, Bool.false_eq_true, reduceIte]), trivial⟩ (rw_box (cs := [.sl (List.map encS p0.Sectors), .sl (List.map encWrite p0.Wait)]) (ds := [.sl (List.map encS p0.Sectors), .sl (List.map encWrite p0.Wait)]) rfl ⟨rn_sl encS_p rfl, rn_sl encWrite_p rfl, trivial⟩ (rw_box (cs := [.int .i64 p1]) (ds := [.int .i64 p1]) rfl ⟨rn_int rfl, trivial⟩ (rw_nil))))
theorem frame_Choices_c (p0 : List Choice) (r : (List UInt8) × Int) (h : frame_Choices p0 = some r) : Fn Try.prog 60 [.sl (List.map encChoice p0)] (.tup [.str r.1, .int .i64 r.2]) := by
  unfold frame_Choices at h
  refine fn_of_T (N := 0) rfl Try.func60 rfl (by kernel_rfl) Try.ntmps60 rfl ?_
  show T _ _ _ _ (mkA 46 [(0, .sl (List.map encChoice p0))]) []
  refine T.seq ?_
  refine T.region ?_
  refine RS.op rfl (OP.q rfl (v_assign (v := .str []) rfl ?_))
  refine RS.op rfl (OP.q rfl (v_assign (v := .int .i64 0) rfl ?_))
  refine RS.nil ?_
  refine T.seq ?_
  refine T.seq ?_
  refine T.region ?_
  refine RS.op rfl (OP.q rfl (v_move (v := .sl (List.map encChoice p0)) rfl ?_))
  refine RS.op rfl (OP.q rfl (v_len_sl Ty.s26 rfl ?_))
  refine RS.op rfl (OP.q rfl (v_gtr rfl rfl ?_))
  refine RS.nil ?_
  refine T.cond (b := decide (((p0).length : Int) > 30)) rfl (fun hb_1 => ?_) (fun hb_1 => ?_)
  · replace h := ite_T h hb_1
    refine T.seq ?_
    refine T.region ?_
    refine RS.op rfl (OP.q rfl (v_assign (v := .str []) rfl ?_))
    refine RS.op rfl (OP.q rfl (v_assign (v := .int .i64 2) rfl ?_))
    refine RS.nil ?_
    refine T.ret' (R := ?R2) ?hq2 ?_
    case hq2 => repeat (first | exact RetIs.base | refine RetIs.thn ?_ | refine RetIs.blk ?_ | refine RetIs.lq ?_)
    refine res_tmpA (v := .str []) rfl ?_
    refine res_tmpA (v := .int .i64 2) rfl ?_
    refine res_done ?_
    exact ret_data (v := .tup [.str [], .int .i64 2]) rfl (pure_tup _ (pures_mem (⟨pure_str _, pure_int _ _, trivial⟩))) ⟨congrArg (fun r : (List UInt8) × Int => (.tup [.str r.1, .int .i64 r.2] : AV)) (Option.some.inj h), rfl⟩
  · replace h := ite_F h hb_1
    refine T.skip ?_
    refine T.seq ?_
    refine T.region ?_
    refine RS.op rfl (OP.q rfl (v_assign (v := .nils) rfl ?_))
    refine RS.nil ?_
    refine T.seq ?_
    refine T.seq ?_
    refine T.region ?_
    refine RS.op rfl (OP.q rfl (v_move (v := .sl (List.map encChoice p0)) rfl ?_))
    refine RS.op rfl (OP.q rfl (v_len_sl Ty.s26 rfl ?_))
    refine RS.op rfl (OP.q rfl (v_move (v := .int .i64 0) rfl ?_))
    refine RS.nil ?_
    refine T.block ?_
    refine T.iter (fun ss_15 : Int × (List Int) => mkA 46 [(4, .ref 0), (10, .sl (List.map encChoice p0)), (11, .int .i64 ((p0).length : Int)), (12, .int .i64 ss_15.1)]) (fun ss_15 => [.arr 5 1 (List.map enc8 ss_15.2)]) h (Weak.mkN [(4, 5, 1)] [0] (by decide) (none_kept _) rfl ⟨rn_ref rfl, rn_sl encChoice_p rfl, rn_int rfl, rn_int rfl, trivial⟩ (rw_arr (en := enc8) (ys := []) rfl enc8_p rfl (rw_nil))) (fun ss_15 v_16 h hv_16 => ?_)
    obtain ⟨s1, s2⟩ := ss_15
    replace h : frame_Choices_l1 p0 s1 s2 = some v_16 := h
    show T _ _ _ _ (mkA 46 [(4, .ref 0), (10, .sl (List.map encChoice p0)), (11, .int .i64 ((p0).length : Int)), (12, .int .i64 s1)]) [.arr 5 1 (List.map enc8 s2)]
    unfold frame_Choices_l1 at h
    refine T.seq ?_
    refine T.region ?_
    refine RS.op rfl (OP.q rfl (v_lss rfl rfl ?_))
    refine RS.nil ?_
    refine T.seq ?_
    refine T.cond (b := decide (s1 < ((p0).length : Int))) rfl (fun hb_17 => ?_) (fun hb_17 => ?_)
    · replace h := ite_T h hb_17
      refine T.skip ?_
      refine T.seq ?_
      refine T.block ?_
      refine T.seq ?_
      obtain ⟨x4, hx4, h⟩ := bind_some h
      refine T.region ?_
      refine RS.op rfl (OP.q rfl (v_index_sl Ty.s26 (fun _ => rfl) rfl rfl hx4 ?_))
      refine RS.op rfl (o_load_elt rfl (loadRowA Ty.k36 Ty.c36 rfl (cs := [.int .i64 x4.Node, .int .i64 x4.Lane]) rfl ?_))
      refine RS.op rfl (o_alloc Ty.z36 rfl (aw' := [.arr 5 1 (List.map enc8 s2), .box [.int .i64 0, .int .i64 0]]) rfl ?_)
      refine RS.op rfl (o_store_ptr Ty.c36 Ty.i36 rfl (vs := [.int .i64 x4.Node, .int .i64 x4.Lane]) rfl rfl rfl rfl (cs' := [.int .i64 x4.Node, .int .i64 x4.Lane]) rfl (aw' := [.arr 5 1 (List.map enc8 s2), .box [.int .i64 x4.Node, .int .i64 x4.Lane]]) rfl ?_)
      refine RS.nil ?_
      refine T.seq ?_
      refine T.join (Z := Unit) (fun _ => mkA 46 [(4, .ref 0), (6, .ptr 1 0), (10, .sl (List.map encChoice p0)), (11, .int .i64 ((p0).length : Int)), (12, .int .i64 s1), (33, .bool ((decide (x4.Node < 0)) || ((decide (x4.Node ≥ 12)) || ((decide (x4.Lane < 0)) || decide (x4.Lane ≥ 16)))))]) (fun _ => [.arr 5 1 (List.map enc8 s2), .box [.int .i64 x4.Node, .int .i64 x4.Lane]]) (fun _ => True) (fun _ _ => ?_) (fun hK => ?_)
      · show T _ _ _ _ (mkA 46 [(4, .ref 0), (6, .ptr 1 0), (10, .sl (List.map encChoice p0)), (11, .int .i64 ((p0).length : Int)), (12, .int .i64 s1), (33, .bool ((decide (x4.Node < 0)) || ((decide (x4.Node ≥ 12)) || ((decide (x4.Lane < 0)) || decide (x4.Lane ≥ 16)))))]) [.arr 5 1 (List.map enc8 s2), .box [.int .i64 x4.Node, .int .i64 x4.Lane]]
        refine T.cond (b := ((decide (x4.Node < 0)) || ((decide (x4.Node ≥ 12)) || ((decide (x4.Lane < 0)) || decide (x4.Lane ≥ 16))))) rfl (fun hb_21 => ?_) (fun hb_21 => ?_)
        · replace h := ite_T h hb_21
          refine T.seq ?_
          refine T.region ?_
          refine RS.op rfl (OP.q rfl (v_assign (v := .str []) rfl ?_))
          refine RS.op rfl (OP.q rfl (v_assign (v := .int .i64 3) rfl ?_))
          refine RS.nil ?_
          refine T.ret' (R := ?R22) ?hq22 ?_
          case hq22 => repeat (first | exact RetIs.base | refine RetIs.thn ?_ | refine RetIs.blk ?_ | refine RetIs.lq ?_)
          obtain ⟨w_23, h, hw_23⟩ := map_inr h
          replace h := h.trans (congrArg some (hv_16 _ hw_23))
          refine res_tmpA (v := .str []) rfl ?_
          refine res_tmpA (v := .int .i64 3) rfl ?_
          refine res_done ?_
          exact ret_data (v := .tup [.str [], .int .i64 3]) rfl (pure_tup _ (pures_mem (⟨pure_str _, pure_int _ _, trivial⟩))) ⟨congrArg (fun r : (List UInt8) × Int => (.tup [.str r.1, .int .i64 r.2] : AV)) (Option.some.inj h), rfl⟩
        · replace h := ite_F h hb_21
          refine T.skip ?_
          obtain ⟨x6, hx6, h⟩ := bind_some h
          refine T.region ?_
          refine RS.op rfl (OP.q rfl (v_move (v := .ref 0) rfl ?_))
          refine RS.op rfl (OP.q rfl (v_fieldAddr_ptr Ty.f36_0 rfl (off' := 0) rfl ?_))
          refine RS.op rfl (o_load_ptr rfl rfl (loadRow1 Ty.k3 (c := .int .i64 x4.Node) rfl ?_))
          refine RS.op rfl (o_conv Try.underlying3 Try.underlying5 rfl ?_)
          refine RS.op rfl (OP.q rfl (v_fieldAddr_ptr Ty.f36_1 rfl (off' := 1) rfl ?_))
          refine RS.op rfl (o_load_ptr rfl rfl (loadRow1 Ty.k3 (c := .int .i64 x4.Lane) rfl ?_))
          refine RS.op rfl (o_conv Try.underlying3 Try.underlying5 rfl ?_)
          refine RS.op rfl (o_buildSlice (rows := List.map enc8 [IntKind.u8.wrap x4.Node, IntKind.u8.wrap x4.Lane]) (vs := [.int .u8 (IntKind.u8.wrap x4.Node), .int .u8 (IntKind.u8.wrap x4.Lane)]) Ty.s43 Ty.z5 rfl rfl rfl rfl rfl (aw' := [.arr 5 1 (List.map enc8 s2), .box [.int .i64 x4.Node, .int .i64 x4.Lane], .arr 5 1 (List.map enc8 [IntKind.u8.wrap x4.Node, IntKind.u8.wrap x4.Lane])]) rfl ?_)
          refine RS.op rfl (o_app_ref (en := enc8) (xs := s2) (ys := ([IntKind.u8.wrap x4.Node, IntKind.u8.wrap x4.Lane] : List Int)) Ty.s43 (fun _ => rfl) rfl rfl rfl hx6 rfl (aw' := [.dead, .box [.int .i64 x4.Node, .int .i64 x4.Lane], .dead, .arr 5 1 (List.map enc8 x6)]) rfl ?_)
          refine RS.op rfl (OP.q rfl (v_assign (v := .ref 3) rfl ?_))
          refine RS.nil ?_
          refine T.region ?_
          refine RS.op rfl (OP.q rfl (v_add rfl rfl ?_))
          refine RS.op rfl (OP.q rfl (v_move (v := .int .i64 (IntKind.i64.wrap (s1 + 1))) rfl ?_))
          refine RS.nil ?_
          exact ⟨(IntKind.i64.wrap (s1 + 1), x6), (Option.some.inj h).symm, Weak.mkN [] [3] (by decide) (none_kept _) rfl ⟨rn_ref rfl, rn_sl encChoice_p rfl, rn_int rfl, rn_int rfl, trivial⟩ (rw_arr rfl enc8_p rfl (rw_nil))⟩
      · rcases bool_cases (decide (x4.Node < 0)) with hb_18 | hb_18
        · refine T.region ?_
          refine RS.op rfl (OP.q rfl (v_fieldAddr_ptr Ty.f36_0 rfl (off' := 0) rfl ?_))
          refine RS.op rfl (o_load_ptr rfl rfl (loadRow1 Ty.k3 (c := .int .i64 x4.Node) rfl ?_))
          refine RS.op rfl (OP.q rfl (v_lss rfl rfl ?_))
          refine RS.op rfl (OP.q rfl (v_move (v := .bool (decide (x4.Node < 0))) rfl ?_))
          refine RS.no rfl rfl rfl hb_18 ?_
          refine RS.no rfl rfl rfl hb_18 ?_
          refine RS.no rfl rfl rfl hb_18 ?_
          refine RS.op rfl (OP.q rfl (v_pickT (v := .bool true) rfl hb_18 rfl ?_))
          refine RS.op rfl (OP.q rfl (v_move (v := .bool true) rfl ?_))
          refine RS.no rfl rfl rfl rfl ?_
          refine RS.no rfl rfl rfl rfl ?_
          refine RS.no rfl rfl rfl rfl ?_
          refine RS.op rfl (OP.q rfl (v_pickT (v := .bool true) rfl rfl rfl ?_))
          refine RS.op rfl (OP.q rfl (v_move (v := .bool true) rfl ?_))
          refine RS.no rfl rfl rfl rfl ?_
          refine RS.no rfl rfl rfl rfl ?_
          refine RS.no rfl rfl rfl rfl ?_
          refine RS.op rfl (OP.q rfl (v_pickT (v := .bool true) rfl rfl rfl ?_))
          refine RS.nil ?_
          exact T.weakR (hK () trivial) (Weak.mkN [] [0, 1] (by decide) (none_kept _) rfl ⟨rn_ref rfl, rn_ptr rfl, rn_sl encChoice_p rfl, rn_int rfl, rn_int rfl, rn_bool (by simp only [hb_18, Bool.true_or, Bool.or_true, Bool.false_or, Bool.or_false, Bool.true_and, Bool.and_true, Bool.false_and, Bool.and_false, Bool.not_true, Bool.not_false, if_true, if_false, Bool.false_eq_true, reduceIte]), trivial⟩ (rw_arr rfl enc8_p rfl (rw_box (cs := [.int .i64 x4.Node, .int .i64 x4.Lane]) (ds := [.int .i64 x4.Node, .int .i64 x4.Lane]) rfl ⟨rn_int rfl, rn_int rfl, trivial⟩ (rw_nil))))
        · rcases bool_cases (decide (x4.Node ≥ 12)) with hb_19 | hb_19
          · refine T.region ?_
            refine RS.op rfl (OP.q rfl (v_fieldAddr_ptr Ty.f36_0 rfl (off' := 0) rfl ?_))
            refine RS.op rfl (o_load_ptr rfl rfl (loadRow1 Ty.k3 (c := .int .i64 x4.Node) rfl ?_))
            refine RS.op rfl (OP.q rfl (v_lss rfl rfl ?_))
            refine RS.op rfl (OP.q rfl (v_move (v := .bool (decide (x4.Node < 0))) rfl ?_))
            refine RS.yes rfl rfl rfl hb_18 (OP.q rfl (v_fieldAddr_ptr Ty.f36_0 rfl (off' := 0) rfl ?_))
            refine RS.yes rfl rfl rfl hb_18 (o_load_ptr rfl rfl (loadRow1 Ty.k3 (c := .int .i64 x4.Node) rfl ?_))
            refine RS.yes rfl rfl rfl hb_18 (OP.q rfl (v_geq rfl rfl ?_))
            refine RS.op rfl (OP.q rfl (v_pickF (v := .bool (decide (x4.Node ≥ 12))) rfl hb_18 rfl ?_))
            refine RS.op rfl (OP.q rfl (v_move (v := .bool (decide (x4.Node ≥ 12))) rfl ?_))
            refine RS.no rfl rfl rfl hb_19 ?_
            refine RS.no rfl rfl rfl hb_19 ?_
            refine RS.no rfl rfl rfl hb_19 ?_
            refine RS.op rfl (OP.q rfl (v_pickT (v := .bool true) rfl hb_19 rfl ?_))
            refine RS.op rfl (OP.q rfl (v_move (v := .bool true) rfl ?_))
            refine RS.no rfl rfl rfl rfl ?_
            refine RS.no rfl rfl rfl rfl ?_
            refine RS.no rfl rfl rfl rfl ?_
            refine RS.op rfl (OP.q rfl (v_pickT (v := .bool true) rfl rfl rfl ?_))
            refine RS.nil ?_
            exact T.weakR (hK () trivial) (Weak.mkN [] [0, 1] (by decide) (none_kept _) rfl ⟨rn_ref rfl, rn_ptr rfl, rn_sl encChoice_p rfl, rn_int rfl, rn_int rfl, rn_bool (by simp only [hb_18, hb_19, Bool.true_or, Bool.or_true, Bool.false_or, Bool.or_false, Bool.true_and, Bool.and_true, Bool.false_and, Bool.and_false, Bool.not_true, Bool.not_false, if_true, if_false, Bool.false_eq_true, reduceIte]), trivial⟩ (rw_arr rfl enc8_p rfl (rw_box (cs := [.int .i64 x4.Node, .int .i64 x4.Lane]) (ds := [.int .i64 x4.Node, .int .i64 x4.Lane]) rfl ⟨rn_int rfl, rn_int rfl, trivial⟩ (rw_nil))))
          · rcases bool_cases (decide (x4.Lane < 0)) with hb_20 | hb_20
            · refine T.region ?_
              refine RS.op rfl (OP.q rfl (v_fieldAddr_ptr Ty.f36_0 rfl (off' := 0) rfl ?_))
              refine RS.op rfl (o_load_ptr rfl rfl (loadRow1 Ty.k3 (c := .int .i64 x4.Node) rfl ?_))
              refine RS.op rfl (OP.q rfl (v_lss rfl rfl ?_))
              refine RS.op rfl (OP.q rfl (v_move (v := .bool (decide (x4.Node < 0))) rfl ?_))
              refine RS.yes rfl rfl rfl hb_18 (OP.q rfl (v_fieldAddr_ptr Ty.f36_0 rfl (off' := 0) rfl ?_))
              refine RS.yes rfl rfl rfl hb_18 (o_load_ptr rfl rfl (loadRow1 Ty.k3 (c := .int .i64 x4.Node) rfl ?_))
              refine RS.yes rfl rfl rfl hb_18 (OP.q rfl (v_geq rfl rfl ?_))
              refine RS.op rfl (OP.q rfl (v_pickF (v := .bool (decide (x4.Node ≥ 12))) rfl hb_18 rfl ?_))
              refine RS.op rfl (OP.q rfl (v_move (v := .bool (decide (x4.Node ≥ 12))) rfl ?_))
              refine RS.yes rfl rfl rfl hb_19 (OP.q rfl (v_fieldAddr_ptr Ty.f36_1 rfl (off' := 1) rfl ?_))
              refine RS.yes rfl rfl rfl hb_19 (o_load_ptr rfl rfl (loadRow1 Ty.k3 (c := .int .i64 x4.Lane) rfl ?_))
              refine RS.yes rfl rfl rfl hb_19 (OP.q rfl (v_lss rfl rfl ?_))
              refine RS.op rfl (OP.q rfl (v_pickF (v := .bool (decide (x4.Lane < 0))) rfl hb_19 rfl ?_))
              refine RS.op rfl (OP.q rfl (v_move (v := .bool (decide (x4.Lane < 0))) rfl ?_))
              refine RS.no rfl rfl rfl hb_20 ?_
              refine RS.no rfl rfl rfl hb_20 ?_
              refine RS.no rfl rfl rfl hb_20 ?_
              refine RS.op rfl (OP.q rfl (v_pickT (v := .bool true) rfl hb_20 rfl ?_))
              refine RS.nil ?_
              exact T.weakR (hK () trivial) (Weak.mkN [] [0, 1] (by decide) (none_kept _) rfl ⟨rn_ref rfl, rn_ptr rfl, rn_sl encChoice_p rfl, rn_int rfl, rn_int rfl, rn_bool (by simp only [hb_18, hb_19, hb_20, Bool.true_or, Bool.or_true, Bool.false_or, Bool.or_false, Bool.true_and, Bool.and_true, Bool.false_and, Bool.and_false, Bool.not_true, Bool.not_false, if_true, if_false, Bool.false_eq_true, reduceIte]), trivial⟩ (rw_arr rfl enc8_p rfl (rw_box (cs := [.int .i64 x4.Node, .int .i64 x4.Lane]) (ds := [.int .i64 x4.Node, .int .i64 x4.Lane]) rfl ⟨rn_int rfl, rn_int rfl, trivial⟩ (rw_nil))))
            · refine T.region ?_
              refine RS.op rfl (OP.q rfl (v_fieldAddr_ptr Ty.f36_0 rfl (off' := 0) rfl ?_))
              refine RS.op rfl (o_load_ptr rfl rfl (loadRow1 Ty.k3 (c := .int .i64 x4.Node) rfl ?_))
              refine RS.op rfl (OP.q rfl (v_lss rfl rfl ?_))
              refine RS.op rfl (OP.q rfl (v_move (v := .bool (decide (x4.Node < 0))) rfl ?_))
              refine RS.yes rfl rfl rfl hb_18 (OP.q rfl (v_fieldAddr_ptr Ty.f36_0 rfl (off' := 0) rfl ?_))
              refine RS.yes rfl rfl rfl hb_18 (o_load_ptr rfl rfl (loadRow1 Ty.k3 (c := .int .i64 x4.Node) rfl ?_))
              refine RS.yes rfl rfl rfl hb_18 (OP.q rfl (v_geq rfl rfl ?_))
              refine RS.op rfl (OP.q rfl (v_pickF (v := .bool (decide (x4.Node ≥ 12))) rfl hb_18 rfl ?_))
              refine RS.op rfl (OP.q rfl (v_move (v := .bool (decide (x4.Node ≥ 12))) rfl ?_))
              refine RS.yes rfl rfl rfl hb_19 (OP.q rfl (v_fieldAddr_ptr Ty.f36_1 rfl (off' := 1) rfl ?_))
              refine RS.yes rfl rfl rfl hb_19 (o_load_ptr rfl rfl (loadRow1 Ty.k3 (c := .int .i64 x4.Lane) rfl ?_))
              refine RS.yes rfl rfl rfl hb_19 (OP.q rfl (v_lss rfl rfl ?_))
              refine RS.op rfl (OP.q rfl (v_pickF (v := .bool (decide (x4.Lane < 0))) rfl hb_19 rfl ?_))
              refine RS.op rfl (OP.q rfl (v_move (v := .bool (decide (x4.Lane < 0))) rfl ?_))
              refine RS.yes rfl rfl rfl hb_20 (OP.q rfl (v_fieldAddr_ptr Ty.f36_1 rfl (off' := 1) rfl ?_))
              refine RS.yes rfl rfl rfl hb_20 (o_load_ptr rfl rfl (loadRow1 Ty.k3 (c := .int .i64 x4.Lane) rfl ?_))
              refine RS.yes rfl rfl rfl hb_20 (OP.q rfl (v_geq rfl rfl ?_))
              refine RS.op rfl (OP.q rfl (v_pickF (v := .bool (decide (x4.Lane ≥ 16))) rfl hb_20 rfl ?_))
              refine RS.nil ?_
              exact T.weakR (hK () trivial) (Weak.mkN [] [0, 1] (by decide) (none_kept _) rfl ⟨rn_ref rfl, rn_ptr rfl, rn_sl encChoice_p rfl, rn_int rfl, rn_int rfl, rn_bool (by simp only [hb_18, hb_19, hb_20, Bool.true_or, Bool.or_true, Bool.false_or, Bool.or_false, Bool.true_and, Bool.and_true, Bool.false_and, Bool.and_false, Bool.not_true, Bool.not_false, if_true, if_false, Bool.false_eq_true, reduceIte]), trivial⟩ (rw_arr rfl enc8_p rfl (rw_box (cs := [.int .i64 x4.Node, .int .i64 x4.Lane]) (ds := [.int .i64 x4.Node, .int .i64 x4.Lane]) rfl ⟨rn_int rfl, rn_int rfl, trivial⟩ (rw_nil))))
    · replace h := ite_F h hb_17
      refine T.exit ?_
      obtain ⟨w_24, h, hw_24⟩ := map_inr h
      replace h := h.trans (congrArg some (hv_16 _ hw_24))
      refine T.seq ?_
      refine T.region ?_
      refine RS.op rfl (OP.q rfl (v_move (v := .ref 0) rfl ?_))
      refine RS.op rfl (o_conv_bytes (xs := s2) Try.underlying43 Try.underlying5 Try.underlying9 rfl rfl ?_)
      refine RS.op rfl (OP.q rfl (v_assign (v := .str (toStr s2)) rfl ?_))
      refine RS.op rfl (OP.q rfl (v_assign (v := .int .i64 0) rfl ?_))
      refine RS.nil ?_
      refine T.ret' (R := ?R25) ?hq25 ?_
      case hq25 => repeat (first | exact RetIs.base | refine RetIs.thn ?_ | refine RetIs.blk ?_ | refine RetIs.lq ?_)
      refine res_tmpA (v := .str (toStr s2)) rfl ?_
      refine res_tmpA (v := .int .i64 0) rfl ?_
      refine res_done ?_
      exact ret_data (v := .tup [.str (toStr s2), .int .i64 0]) rfl (pure_tup _ (pures_mem (⟨pure_str _, pure_int _ _, trivial⟩))) ⟨congrArg (fun r : (List UInt8) × Int => (.tup [.str r.1, .int .i64 r.2] : AV)) (Option.some.inj h), rfl⟩
theorem frame_Put_c (p0 : List UInt8) (r : (List UInt8) × Int) (h : frame_Put p0 = some r) : Fn Try.prog 61 [.str p0] (.tup [.str r.1, .int .i64 r.2]) := by
  unfold frame_Put at h
  refine fn_of_T (N := 0) rfl Try.func61 rfl (by kernel_rfl) Try.ntmps61 rfl ?_
  show T _ _ _ _ (mkA 33 [(0, .str p0)]) []
  refine T.seq ?_
  refine T.region ?_
  refine RS.op rfl (OP.q rfl (v_assign (v := .str []) rfl ?_))
  refine RS.op rfl (OP.q rfl (v_assign (v := .int .i64 0) rfl ?_))
  refine RS.nil ?_
  refine T.seq ?_
  refine T.seq ?_
  refine T.region ?_
  refine RS.op rfl (OP.q rfl (v_move (v := .str p0) rfl ?_))
  refine RS.op rfl (OP.q rfl (v_seql rfl rfl ?_))
  refine RS.nil ?_
  refine T.cond (b := p0 == []) rfl (fun hb_1 => ?_) (fun hb_1 => ?_)
  · replace h := ite_T h hb_1
    refine T.seq ?_
    refine T.region ?_
    refine RS.op rfl (OP.q rfl (v_assign (v := .str []) rfl ?_))
    refine RS.op rfl (OP.q rfl (v_assign (v := .int .i64 4) rfl ?_))
    refine RS.nil ?_
    refine T.ret' (R := ?R2) ?hq2 ?_
    case hq2 => repeat (first | exact RetIs.base | refine RetIs.thn ?_ | refine RetIs.blk ?_ | refine RetIs.lq ?_)
    refine res_tmpA (v := .str []) rfl ?_
    refine res_tmpA (v := .int .i64 4) rfl ?_
    refine res_done ?_
    exact ret_data (v := .tup [.str [], .int .i64 4]) rfl (pure_tup _ (pures_mem (⟨pure_str _, pure_int _ _, trivial⟩))) ⟨congrArg (fun r : (List UInt8) × Int => (.tup [.str r.1, .int .i64 r.2] : AV)) (Option.some.inj h), rfl⟩
  · replace h := ite_F h hb_1
    refine T.skip ?_
    refine T.seq ?_
    refine T.seq ?_
    refine T.region ?_
    refine RS.op rfl (OP.q rfl (v_move (v := .str p0) rfl ?_))
    refine RS.op rfl (OP.q rfl (v_len_str Try.underlying9 rfl ?_))
    refine RS.op rfl (OP.q rfl (v_gtr rfl rfl ?_))
    refine RS.nil ?_
    refine T.cond (b := decide (((p0).length : Int) > 60)) rfl (fun hb_3 => ?_) (fun hb_3 => ?_)
    · replace h := ite_T h hb_3
      refine T.seq ?_
      refine T.region ?_
      refine RS.op rfl (OP.q rfl (v_assign (v := .str []) rfl ?_))
      refine RS.op rfl (OP.q rfl (v_assign (v := .int .i64 2) rfl ?_))
      refine RS.nil ?_
      refine T.ret' (R := ?R4) ?hq4 ?_
      case hq4 => repeat (first | exact RetIs.base | refine RetIs.thn ?_ | refine RetIs.blk ?_ | refine RetIs.lq ?_)
      refine res_tmpA (v := .str []) rfl ?_
      refine res_tmpA (v := .int .i64 2) rfl ?_
      refine res_done ?_
      exact ret_data (v := .tup [.str [], .int .i64 2]) rfl (pure_tup _ (pures_mem (⟨pure_str _, pure_int _ _, trivial⟩))) ⟨congrArg (fun r : (List UInt8) × Int => (.tup [.str r.1, .int .i64 r.2] : AV)) (Option.some.inj h), rfl⟩
    · replace h := ite_F h hb_3
      refine T.skip ?_
      refine T.seq ?_
      obtain ⟨x3, hx3, h⟩ := bind_some h
      obtain ⟨x4, hx4, h⟩ := bind_some h
      refine T.region ?_
      refine RS.op rfl (OP.q rfl (v_move (v := .str p0) rfl ?_))
      refine RS.op rfl (OP.q rfl (v_len_str Try.underlying9 rfl ?_))
      refine RS.op rfl (o_conv Try.underlying3 Try.underlying5 rfl ?_)
      refine RS.op rfl (o_buildSlice (rows := List.map enc8 [IntKind.u8.wrap ((p0).length : Int)]) (vs := [.int .u8 (IntKind.u8.wrap ((p0).length : Int))]) Ty.s43 Ty.z5 rfl rfl rfl rfl rfl (aw' := [.arr 5 1 (List.map enc8 [IntKind.u8.wrap ((p0).length : Int)])]) rfl ?_)
      refine RS.op rfl (o_conv_bytes (xs := [IntKind.u8.wrap ((p0).length : Int)]) Try.underlying43 Try.underlying5 Try.underlying9 rfl rfl ?_)
      refine RS.op rfl (OP.q rfl (v_move (v := .str p0) rfl ?_))
      refine RS.op rfl (OP.q rfl (v_sadd rfl rfl hx3 ?_))
      refine RS.op rfl (o_call (as0 := [.str x3]) (as1 := [.str x3]) (caps := []) (aw1 := [.dead]) rfl rfl rfl (k_flat (v := .int .i64 x4) (frame_sum_c x3 x4 hx4) (⟨pure_str _, trivial⟩) rfl ?_))
      refine RS.op rfl (OP.q rfl (v_assign (v := .int .i64 x4) rfl ?_))
      refine RS.nil ?_
      refine T.seq ?_
      obtain ⟨x8, hx8, h⟩ := bind_some h
      obtain ⟨x9, hx9, h⟩ := bind_some h
      obtain ⟨x10, hx10, h⟩ := bind_some h
      refine T.region ?_
      refine RS.op rfl (OP.q rfl (v_move (v := .str p0) rfl ?_))
      refine RS.op rfl (OP.q rfl (v_len_str Try.underlying9 rfl ?_))
      refine RS.op rfl (o_conv Try.underlying3 Try.underlying5 rfl ?_)
      refine RS.op rfl (o_buildSlice (rows := List.map enc8 [IntKind.u8.wrap ((p0).length : Int)]) (vs := [.int .u8 (IntKind.u8.wrap ((p0).length : Int))]) Ty.s43 Ty.z5 rfl rfl rfl rfl rfl (aw' := [.dead, .arr 5 1 (List.map enc8 [IntKind.u8.wrap ((p0).length : Int)])]) rfl ?_)
      refine RS.op rfl (o_conv_bytes (xs := [IntKind.u8.wrap ((p0).length : Int)]) Try.underlying43 Try.underlying5 Try.underlying9 rfl rfl ?_)
      refine RS.op rfl (OP.q rfl (v_move (v := .str p0) rfl ?_))
      refine RS.op rfl (OP.q rfl (v_sadd rfl rfl hx8 ?_))
      refine RS.op rfl (OP.q rfl (v_move (v := .int .i64 x4) rfl ?_))
      refine RS.op rfl (OP.q rfl (v_shr rfl rfl hx9 ?_))
      refine RS.op rfl (o_conv Try.underlying3 Try.underlying5 rfl ?_)
      refine RS.op rfl (OP.q rfl (v_move (v := .int .i64 x4) rfl ?_))
      refine RS.op rfl (o_conv Try.underlying3 Try.underlying5 rfl ?_)
      refine RS.op rfl (o_buildSlice (rows := List.map enc8 [IntKind.u8.wrap x9, IntKind.u8.wrap x4]) (vs := [.int .u8 (IntKind.u8.wrap x9), .int .u8 (IntKind.u8.wrap x4)]) Ty.s43 Ty.z5 rfl rfl rfl rfl rfl (aw' := [.dead, .dead, .arr 5 1 (List.map enc8 [IntKind.u8.wrap x9, IntKind.u8.wrap x4])]) rfl ?_)
      refine RS.op rfl (o_conv_bytes (xs := [IntKind.u8.wrap x9, IntKind.u8.wrap x4]) Try.underlying43 Try.underlying5 Try.underlying9 rfl rfl ?_)
      refine RS.op rfl (OP.q rfl (v_sadd rfl rfl hx10 ?_))
      refine RS.op rfl (OP.q rfl (v_assign (v := .str x10) rfl ?_))
      refine RS.op rfl (OP.q rfl (v_assign (v := .int .i64 0) rfl ?_))
      refine RS.nil ?_
      refine T.ret' (R := ?R5) ?hq5 ?_
      case hq5 => repeat (first | exact RetIs.base | refine RetIs.thn ?_ | refine RetIs.blk ?_ | refine RetIs.lq ?_)
      refine res_tmpA (v := .str x10) rfl ?_
      refine res_tmpA (v := .int .i64 0) rfl ?_
      refine res_done ?_
      exact ret_data (v := .tup [.str x10, .int .i64 0]) rfl (pure_tup _ (pures_mem (⟨pure_str _, pure_int _ _, trivial⟩))) ⟨congrArg (fun r : (List UInt8) × Int => (.tup [.str r.1, .int .i64 r.2] : AV)) (Option.some.inj h), rfl⟩
theorem slices_Clone_string_c (p0 r : List (List UInt8)) (h : slices_Clone_string p0 = some r) : FnO Try.prog 66 [.sl (List.map encS p0)] (.ref 0) [.arr 9 1 (List.map encS r)] := by
  have hr : p0 = r := by
    unfold slices_Clone_string app at h
    split at h
    · simpa using h
    · cases h
  refine fn_of_T (N := 0) rfl Try.func66 rfl (by kernel_rfl) Try.ntmps66 rfl ?_
  show T _ _ _ _ (mkA 8 [(0, .sl (List.map encS p0))]) []
  refine T.seq ?_
  refine T.region ?_
  refine RS.op rfl (OP.q rfl (v_assign (v := .nils) rfl ?_))
  refine RS.nil ?_
  refine T.seq ?_
  refine T.seq ?_
  refine T.region ?_
  refine RS.op rfl (OP.q rfl (v_move (v := .sl (List.map encS p0)) rfl ?_))
  refine RS.op rfl (OP.q rfl (v_nileq Ty.s22 rfl rfl (fun z hz => ?_)))
  refine RS.nil ?_
  refine T.cond (b := z) rfl (fun hb => ?_) (fun hb => ?_)
  · refine T.seq ?_
    refine T.region ?_
    refine RS.op rfl (OP.q rfl (v_assign (v := .nils) rfl ?_))
    refine RS.nil ?_
    refine T.ret ?_
    refine res_tmpA (v := .nils) rfl ?_
    refine res_done ?_
    have h0 : p0 = [] := List.map_eq_nil_iff.1 (hz hb)
    exact ret_own (.ref 0) [(0, 9, 1)] [0] (by decide) (none_kept _) rfl (rn_ref rfl) (rw_arr (en := encS) (ys := []) rfl encS_p (by rw [← hr, h0]) (rw_nil)) ⟨rfl, rfl⟩
  · refine T.skip ?_
    refine T.seq ?_
    refine T.region ?_
    refine RS.op rfl (o_buildSlice (rows := List.map encS []) (vs := []) Ty.s22 Ty.z9 rfl rfl rfl rfl rfl (aw' := [.arr 9 1 (List.map encS [])]) rfl ?_)
    refine RS.op rfl (OP.q rfl (v_move (v := .sl (List.map encS p0)) rfl ?_))
    refine RS.op rfl (o_app_ref (en := encS) (xs := ([] : List (List UInt8))) (ys := p0) (r := r) Ty.s22 (fun _ => rfl) rfl rfl rfl h rfl (aw' := [.dead, .arr 9 1 (List.map encS r)]) rfl ?_)
    refine RS.op rfl (OP.q rfl (v_assign (v := .ref 1) rfl ?_))
    refine RS.nil ?_
    refine T.ret ?_
    refine res_tmpA (v := .ref 1) rfl ?_
    refine res_done ?_
    exact ret_own (.ref 0) [] [1] (by decide) (none_kept _) rfl (rn_ref rfl) (rw_arr rfl encS_p rfl (rw_nil)) ⟨rfl, rfl⟩
theorem slices_Clone_Write_c (p0 r : List Write) (h : slices_Clone_Write p0 = some r) : FnO Try.prog 21 [.sl (List.map encWrite p0)] (.ref 0) [.arr 42 2 (List.map encWrite r)] := by
  have hr : p0 = r := by
    unfold slices_Clone_Write app at h
    split at h
    · simpa using h
    · cases h
  refine fn_of_T (N := 0) rfl Try.func21 rfl (by kernel_rfl) Try.ntmps21 rfl ?_
  show T _ _ _ _ (mkA 8 [(0, .sl (List.map encWrite p0))]) []
  refine T.seq ?_
  refine T.region ?_
  refine RS.op rfl (OP.q rfl (v_assign (v := .nils) rfl ?_))
  refine RS.nil ?_
  refine T.seq ?_
  refine T.seq ?_
  refine T.region ?_
  refine RS.op rfl (OP.q rfl (v_move (v := .sl (List.map encWrite p0)) rfl ?_))
  refine RS.op rfl (OP.q rfl (v_nileq Ty.s23 rfl rfl (fun z hz => ?_)))
  refine RS.nil ?_
  refine T.cond (b := z) rfl (fun hb => ?_) (fun hb => ?_)
  · refine T.seq ?_
    refine T.region ?_
    refine RS.op rfl (OP.q rfl (v_assign (v := .nils) rfl ?_))
    refine RS.nil ?_
    refine T.ret ?_
    refine res_tmpA (v := .nils) rfl ?_
    refine res_done ?_
    have h0 : p0 = [] := List.map_eq_nil_iff.1 (hz hb)
    exact ret_own (.ref 0) [(0, 42, 2)] [0] (by decide) (none_kept _) rfl (rn_ref rfl) (rw_arr (en := encWrite) (ys := []) rfl encWrite_p (by rw [← hr, h0]) (rw_nil)) ⟨rfl, rfl⟩
  · refine T.skip ?_
    refine T.seq ?_
    refine T.region ?_
    refine RS.op rfl (o_buildSlice (rows := List.map encWrite []) (vs := []) Ty.s23 Ty.z42 rfl rfl rfl rfl rfl (aw' := [.arr 42 2 (List.map encWrite [])]) rfl ?_)
    refine RS.op rfl (OP.q rfl (v_move (v := .sl (List.map encWrite p0)) rfl ?_))
    refine RS.op rfl (o_app_ref (en := encWrite) (xs := ([] : List Write)) (ys := p0) (r := r) Ty.s23 (fun _ => rfl) rfl rfl rfl h rfl (aw' := [.dead, .arr 42 2 (List.map encWrite r)]) rfl ?_)
    refine RS.op rfl (OP.q rfl (v_assign (v := .ref 1) rfl ?_))
    refine RS.nil ?_
    refine T.ret ?_
    refine res_tmpA (v := .ref 1) rfl ?_
    refine res_done ?_
    exact ret_own (.ref 0) [] [1] (by decide) (none_kept _) rfl (rn_ref rfl) (rw_arr rfl encWrite_p rfl (rw_nil)) ⟨rfl, rfl⟩
theorem disk_Write_c (p0 : Disk) (p1 : Int) (p2 : List UInt8) (r : Disk × Int) (h : disk_Write p0 p1 p2 = some r) : Fn Try.prog 62 [.agg [.sl (List.map encS p0.Sectors), .sl (List.map encWrite p0.Wait)], .int .i64 p1, .str p2] (.tup [.agg [.sl (List.map encS r.1.Sectors), .sl (List.map encWrite r.1.Wait)], .int .i64 r.2]) := by
  unfold disk_Write at h
  refine fn_of_T (N := 0) rfl Try.func62 rfl (by kernel_rfl) Try.ntmps62 rfl ?_
  show T _ _ _ _ (mkA 43 [(0, .agg [.sl (List.map encS p0.Sectors), .sl (List.map encWrite p0.Wait)]), (1, .int .i64 p1), (2, .str p2)]) []
  refine T.seq ?_
  refine T.region ?_
  refine RS.op rfl (o_box (cs := [.sl (List.map encS p0.Sectors), .sl (List.map encWrite p0.Wait)]) rfl rfl (aw' := [.box [.sl (List.map encS p0.Sectors), .sl (List.map encWrite p0.Wait)]]) rfl ?_)
  refine RS.op rfl (o_alloc Ty.z25 rfl (aw' := [.box [.sl (List.map encS p0.Sectors), .sl (List.map encWrite p0.Wait)], .box [.nils, .nils]]) rfl ?_)
  refine RS.op rfl (OP.q rfl (v_assign (v := .int .i64 0) rfl ?_))
  refine RS.nil ?_
  refine T.seq ?_
  refine T.seq ?_
  obtain ⟨x2, hx2, h⟩ := bind_some h
  refine T.region ?_
  refine RS.op rfl (o_load_ptr rfl rfl (loadRowA Ty.k25 Ty.c25 rfl (cs := [.sl (List.map encS p0.Sectors), .sl (List.map encWrite p0.Wait)]) rfl ?_))
  refine RS.op rfl (o_call (as0 := [.agg [.sl (List.map encS p0.Sectors), .sl (List.map encWrite p0.Wait)]]) (as1 := [.agg [.sl (List.map encS p0.Sectors), .sl (List.map encWrite p0.Wait)]]) (caps := []) (aw1 := [.box [.sl (List.map encS p0.Sectors), .sl (List.map encWrite p0.Wait)], .box [.nils, .nils]]) rfl rfl rfl (k_flat (v := .int .i64 x2) (disk_Check_c p0 x2 hx2) (⟨pure_agg _ (pures_mem (⟨pure_map encS_p _, pure_map encWrite_p _, trivial⟩)), trivial⟩) rfl ?_))
  refine RS.op rfl (OP.q rfl (v_assign (v := .int .i64 x2) rfl ?_))
  refine RS.nil ?_
  refine T.seq ?_
  refine T.region ?_
  refine RS.op rfl (OP.q rfl (v_move (v := .int .i64 x2) rfl ?_))
  refine RS.op rfl (OP.q rfl (v_neq rfl rfl ?_))
  refine RS.nil ?_
  refine T.cond (b := x2 != 0) rfl (fun hb_1 => ?_) (fun hb_1 => ?_)
  · replace h := ite_T h hb_1
    refine T.seq ?_
    refine T.region ?_
    refine RS.op rfl (OP.q rfl (v_build (cs := [.nils, .nils]) Ty.z25 Ty.p25 rfl ?_))
    refine RS.op rfl (OP.q rfl (v_move (v := .int .i64 x2) rfl ?_))
    refine RS.op rfl (o_store_ptr Ty.c25 Ty.i25 rfl (vs := [.nils, .nils]) rfl rfl rfl rfl (cs' := [.nils, .nils]) rfl (aw' := [.box [.sl (List.map encS p0.Sectors), .sl (List.map encWrite p0.Wait)], .box [.nils, .nils]]) rfl ?_)
    refine RS.op rfl (OP.q rfl (v_assign (v := .int .i64 x2) rfl ?_))
    refine RS.nil ?_
    refine T.ret' (R := ?R2) ?hq2 ?_
    case hq2 => repeat (first | exact RetIs.base | refine RetIs.thn ?_ | refine RetIs.blk ?_ | refine RetIs.lq ?_)
    refine res_cellA (id := 1) (off := 0) (cs := [.nils, .nils]) (v := .agg [.nils, .nils]) ?_ ?_ ?_ ?_
    · rfl
    · rfl
    · exact fun K h => (loadRowA (row := [.nils, .nils]) (off := 0) Ty.k25 Ty.c25 rfl (cs := [.nils, .nils]) rfl h)
    refine res_tmpA (v := .int .i64 x2) rfl ?_
    refine res_done ?_
    exact ret_data (v := .tup [.agg [.sl (List.map encS []), .sl (List.map encWrite [])], .int .i64 x2]) rfl (pure_tup _ (pures_mem (⟨pure_agg _ (pures_mem (⟨pure_map encS_p _, pure_map encWrite_p _, trivial⟩)), pure_int _ _, trivial⟩))) ⟨congrArg (fun r : Disk × Int => (.tup [.agg [.sl (List.map encS r.1.Sectors), .sl (List.map encWrite r.1.Wait)], .int .i64 r.2] : AV)) (Option.some.inj h), rfl⟩
  · replace h := ite_F h hb_1
    refine T.skip ?_
    refine T.seq ?_
    refine T.join (Z := Unit) (fun _ => mkA 43 [(1, .int .i64 p1), (2, .str p2), (3, .ptr 0 0), (6, .ptr 1 0), (20, .bool ((decide (p1 < 0)) || decide (p1 ≥ 200)))]) (fun _ => [.box [.sl (List.map encS p0.Sectors), .sl (List.map encWrite p0.Wait)], .box [.nils, .nils]]) (fun _ => True) (fun _ _ => ?_) (fun hK => ?_)
    · show T _ _ _ _ (mkA 43 [(1, .int .i64 p1), (2, .str p2), (3, .ptr 0 0), (6, .ptr 1 0), (20, .bool ((decide (p1 < 0)) || decide (p1 ≥ 200)))]) [.box [.sl (List.map encS p0.Sectors), .sl (List.map encWrite p0.Wait)], .box [.nils, .nils]]
      refine T.cond (b := ((decide (p1 < 0)) || decide (p1 ≥ 200))) rfl (fun hb_4 => ?_) (fun hb_4 => ?_)
      · replace h := ite_T h hb_4
        refine T.seq ?_
        refine T.region ?_
        refine RS.op rfl (OP.q rfl (v_build (cs := [.nils, .nils]) Ty.z25 Ty.p25 rfl ?_))
        refine RS.op rfl (o_store_ptr Ty.c25 Ty.i25 rfl (vs := [.nils, .nils]) rfl rfl rfl rfl (cs' := [.nils, .nils]) rfl (aw' := [.box [.sl (List.map encS p0.Sectors), .sl (List.map encWrite p0.Wait)], .box [.nils, .nils]]) rfl ?_)
        refine RS.op rfl (OP.q rfl (v_assign (v := .int .i64 3) rfl ?_))
        refine RS.nil ?_
        refine T.ret' (R := ?R5) ?hq5 ?_
        case hq5 => repeat (first | exact RetIs.base | refine RetIs.thn ?_ | refine RetIs.blk ?_ | refine RetIs.lq ?_)
        refine res_cellA (id := 1) (off := 0) (cs := [.nils, .nils]) (v := .agg [.nils, .nils]) ?_ ?_ ?_ ?_
        · rfl
        · rfl
        · exact fun K h => (loadRowA (row := [.nils, .nils]) (off := 0) Ty.k25 Ty.c25 rfl (cs := [.nils, .nils]) rfl h)
        refine res_tmpA (v := .int .i64 3) rfl ?_
        refine res_done ?_
        exact ret_data (v := .tup [.agg [.sl (List.map encS []), .sl (List.map encWrite [])], .int .i64 3]) rfl (pure_tup _ (pures_mem (⟨pure_agg _ (pures_mem (⟨pure_map encS_p _, pure_map encWrite_p _, trivial⟩)), pure_int _ _, trivial⟩))) ⟨congrArg (fun r : Disk × Int => (.tup [.agg [.sl (List.map encS r.1.Sectors), .sl (List.map encWrite r.1.Wait)], .int .i64 r.2] : AV)) (Option.some.inj h), rfl⟩
      · replace h := ite_F h hb_4
        refine T.skip ?_
        refine T.seq ?_
        refine T.seq ?_
        refine T.region ?_
        refine RS.op rfl (OP.q rfl (v_move (v := .str p2) rfl ?_))
        refine RS.op rfl (OP.q rfl (v_len_str Try.underlying9 rfl ?_))
        refine RS.op rfl (OP.q rfl (v_gtr rfl rfl ?_))
        refine RS.nil ?_
        refine T.cond (b := decide (((p2).length : Int) > 64)) rfl (fun hb_6 => ?_) (fun hb_6 => ?_)
        · replace h := ite_T h hb_6
          refine T.seq ?_
          refine T.region ?_
          refine RS.op rfl (OP.q rfl (v_build (cs := [.nils, .nils]) Ty.z25 Ty.p25 rfl ?_))
          refine RS.op rfl (o_store_ptr Ty.c25 Ty.i25 rfl (vs := [.nils, .nils]) rfl rfl rfl rfl (cs' := [.nils, .nils]) rfl (aw' := [.box [.sl (List.map encS p0.Sectors), .sl (List.map encWrite p0.Wait)], .box [.nils, .nils]]) rfl ?_)
          refine RS.op rfl (OP.q rfl (v_assign (v := .int .i64 2) rfl ?_))
          refine RS.nil ?_
          refine T.ret' (R := ?R7) ?hq7 ?_
          case hq7 => repeat (first | exact RetIs.base | refine RetIs.thn ?_ | refine RetIs.blk ?_ | refine RetIs.lq ?_)
          refine res_cellA (id := 1) (off := 0) (cs := [.nils, .nils]) (v := .agg [.nils, .nils]) ?_ ?_ ?_ ?_
          · rfl
          · rfl
          · exact fun K h => (loadRowA (row := [.nils, .nils]) (off := 0) Ty.k25 Ty.c25 rfl (cs := [.nils, .nils]) rfl h)
          refine res_tmpA (v := .int .i64 2) rfl ?_
          refine res_done ?_
          exact ret_data (v := .tup [.agg [.sl (List.map encS []), .sl (List.map encWrite [])], .int .i64 2]) rfl (pure_tup _ (pures_mem (⟨pure_agg _ (pures_mem (⟨pure_map encS_p _, pure_map encWrite_p _, trivial⟩)), pure_int _ _, trivial⟩))) ⟨congrArg (fun r : Disk × Int => (.tup [.agg [.sl (List.map encS r.1.Sectors), .sl (List.map encWrite r.1.Wait)], .int .i64 r.2] : AV)) (Option.some.inj h), rfl⟩
        · replace h := ite_F h hb_6
          refine T.skip ?_
          refine T.seq ?_
          refine T.seq ?_
          refine T.region ?_
          refine RS.op rfl (OP.q rfl (v_fieldAddr_ptr Ty.f25_1 rfl (off' := 1) rfl ?_))
          refine RS.op rfl (o_load_ptr rfl rfl (loadRow1 Ty.k23 (c := .sl (List.map encWrite p0.Wait)) rfl ?_))
          refine RS.op rfl (OP.q rfl (v_len_sl Ty.s23 rfl ?_))
          refine RS.op rfl (OP.q rfl (v_eql rfl rfl ?_))
          refine RS.nil ?_
          refine T.cond (b := ((p0.Wait).length : Int) == 300) rfl (fun hb_8 => ?_) (fun hb_8 => ?_)
          · replace h := ite_T h hb_8
            refine T.seq ?_
            refine T.region ?_
            refine RS.op rfl (OP.q rfl (v_build (cs := [.nils, .nils]) Ty.z25 Ty.p25 rfl ?_))
            refine RS.op rfl (o_store_ptr Ty.c25 Ty.i25 rfl (vs := [.nils, .nils]) rfl rfl rfl rfl (cs' := [.nils, .nils]) rfl (aw' := [.box [.sl (List.map encS p0.Sectors), .sl (List.map encWrite p0.Wait)], .box [.nils, .nils]]) rfl ?_)
            refine RS.op rfl (OP.q rfl (v_assign (v := .int .i64 8) rfl ?_))
            refine RS.nil ?_
            refine T.ret' (R := ?R9) ?hq9 ?_
            case hq9 => repeat (first | exact RetIs.base | refine RetIs.thn ?_ | refine RetIs.blk ?_ | refine RetIs.lq ?_)
            refine res_cellA (id := 1) (off := 0) (cs := [.nils, .nils]) (v := .agg [.nils, .nils]) ?_ ?_ ?_ ?_
            · rfl
            · rfl
            · exact fun K h => (loadRowA (row := [.nils, .nils]) (off := 0) Ty.k25 Ty.c25 rfl (cs := [.nils, .nils]) rfl h)
            refine res_tmpA (v := .int .i64 8) rfl ?_
            refine res_done ?_
            exact ret_data (v := .tup [.agg [.sl (List.map encS []), .sl (List.map encWrite [])], .int .i64 8]) rfl (pure_tup _ (pures_mem (⟨pure_agg _ (pures_mem (⟨pure_map encS_p _, pure_map encWrite_p _, trivial⟩)), pure_int _ _, trivial⟩))) ⟨congrArg (fun r : Disk × Int => (.tup [.agg [.sl (List.map encS r.1.Sectors), .sl (List.map encWrite r.1.Wait)], .int .i64 r.2] : AV)) (Option.some.inj h), rfl⟩
          · replace h := ite_F h hb_8
            refine T.skip ?_
            refine T.seq ?_
            obtain ⟨x7, hx7, h⟩ := bind_some h
            obtain ⟨x8, hx8, h⟩ := bind_some h
            obtain ⟨x9, hx9, h⟩ := bind_some h
            refine T.drawn mixed (k := 14) rfl ?_
            refine RA.join 4 #[true, true, true, true, true, true, true, true, true, true, false, false, false, false] (mkA 43 [(1, .int .i64 p1), (2, .str p2), (3, .ptr 0 0), (6, .ptr 1 0), (20, .bool ((decide (p1 < 0)) || decide (p1 ≥ 200))), (22, .str p2), (23, .int .i64 ((p2).length : Int)), (24, .bool (decide (((p2).length : Int) > 64))), (26, .ptr 0 1), (27, .sl (List.map encWrite p0.Wait)), (28, .int .i64 ((p0.Wait).length : Int)), (29, .bool (((p0.Wait).length : Int) == 300)), (31, .ptr 0 0), (32, .sl (List.map encS p0.Sectors)), (33, .ref 3), (34, .ptr 0 1), (35, .sl (List.map encWrite p0.Wait)), (36, .ref 4), (37, .int .i64 p1), (38, .str p2), (39, .agg [.int .i64 p1, .str p2]), (40, .ref 2)]) [.box [.sl (List.map encS p0.Sectors), .sl (List.map encWrite p0.Wait)], .box [.nils, .nils], .arr 42 2 (List.map encWrite [(⟨p1, p2⟩ : Write)]), .arr 9 1 (List.map encS x7), .arr 42 2 (List.map encWrite x8)] ?_ (fun hS10 => ?_)
            · refine RA.a1 (i1 := 10) (l1 := #[true, true, true, true, true, true, true, true, true, true, true, false, false, false]) (by decide +kernel) (by decide +kernel) ?_
              refine RO.op rfl rfl (o_app_ref (en := encWrite) (xs := x8) (ys := ([(⟨p1, p2⟩ : Write)] : List Write)) Ty.s23 (fun _ => rfl) rfl rfl rfl hx9 rfl (aw' := [.box [.sl (List.map encS p0.Sectors), .sl (List.map encWrite p0.Wait)], .box [.nils, .nils], .dead, .arr 9 1 (List.map encS x7), .dead, .arr 42 2 (List.map encWrite x9)]) rfl ?_)
              refine RA.t0 (i := 11) (li' := #[true, true, true, true, true, true, true, true, true, true, true, true, false, false]) rfl (by decide +kernel) (by decide +kernel) (by decide +kernel) (by decide +kernel) rfl rfl (v_build (cs := [.ref 3, .ref 5]) Ty.z25 Ty.p25 rfl ?_)
              refine RA.a1 (i1 := 12) (l1 := #[true, true, true, true, true, true, true, true, true, true, true, true, true, false]) (by decide +kernel) (by decide +kernel) ?_
              refine RO.op rfl rfl (o_store_ptr Ty.c25 Ty.i25 rfl (vs := [.ref 3, .ref 5]) rfl rfl rfl rfl (cs' := [.ref 3, .ref 5]) rfl (aw' := [.box [.sl (List.map encS p0.Sectors), .sl (List.map encWrite p0.Wait)], .box [.ref 3, .ref 5], .dead, .arr 9 1 (List.map encS x7), .dead, .arr 42 2 (List.map encWrite x9)]) rfl ?_)
              refine RA.t0 (i := 13) (li' := #[true, true, true, true, true, true, true, true, true, true, true, true, true, true]) rfl (by decide +kernel) (by decide +kernel) (by decide +kernel) (by decide +kernel) rfl rfl (v_assign (v := .int .i64 0) rfl ?_)
              refine RA.done (by decide +kernel) ?_
              refine T.ret' (R := ?R18) ?hq18 ?_
              case hq18 => repeat (first | exact RetIs.base | refine RetIs.thn ?_ | refine RetIs.blk ?_ | refine RetIs.lq ?_)
              refine res_cellA (id := 1) (off := 0) (cs := [.ref 3, .ref 5]) (v := .agg [.ref 3, .ref 5]) ?_ ?_ ?_ ?_
              · rfl
              · rfl
              · exact fun K h => (loadRowA (row := [.ref 3, .ref 5]) (off := 0) Ty.k25 Ty.c25 rfl (cs := [.ref 3, .ref 5]) rfl h)
              refine res_tmpA (v := .int .i64 0) rfl ?_
              refine res_done ?_
              exact ret_data (v := .tup [.agg [.sl (List.map encS x7), .sl (List.map encWrite x9)], .int .i64 0]) rfl (pure_tup _ (pures_mem (⟨pure_agg _ (pures_mem (⟨pure_map encS_p _, pure_map encWrite_p _, trivial⟩)), pure_int _ _, trivial⟩))) ⟨congrArg (fun r : Disk × Int => (.tup [.agg [.sl (List.map encS r.1.Sectors), .sl (List.map encWrite r.1.Wait)], .int .i64 r.2] : AV)) (Option.some.inj h), rfl⟩
            · refine RA.join 5 #[true, true, true, true, true, false, true, true, true, true, false, false, false, false] (mkA 43 [(1, .int .i64 p1), (2, .str p2), (3, .ptr 0 0), (6, .ptr 1 0), (20, .bool ((decide (p1 < 0)) || decide (p1 ≥ 200))), (22, .str p2), (23, .int .i64 ((p2).length : Int)), (24, .bool (decide (((p2).length : Int) > 64))), (26, .ptr 0 1), (27, .sl (List.map encWrite p0.Wait)), (28, .int .i64 ((p0.Wait).length : Int)), (29, .bool (((p0.Wait).length : Int) == 300)), (31, .ptr 0 0), (32, .sl (List.map encS p0.Sectors)), (33, .ref 3), (34, .ptr 0 1), (35, .sl (List.map encWrite p0.Wait)), (37, .int .i64 p1), (38, .str p2), (39, .agg [.int .i64 p1, .str p2]), (40, .ref 2)]) [.box [.sl (List.map encS p0.Sectors), .sl (List.map encWrite p0.Wait)], .box [.nils, .nils], .arr 42 2 (List.map encWrite [(⟨p1, p2⟩ : Write)]), .arr 9 1 (List.map encS x7)] ?_ (fun hS11 => ?_)
              · refine RA.a1 (i1 := 5) (l1 := #[true, true, true, true, true, true, true, true, true, true, false, false, false, false]) (by decide +kernel) (by decide +kernel) ?_
                refine RO.op rfl rfl (o_call (as0 := [.sl (List.map encWrite p0.Wait)]) (as1 := [.sl (List.map encWrite p0.Wait)]) (caps := []) (aw1 := [.box [.sl (List.map encS p0.Sectors), .sl (List.map encWrite p0.Wait)], .box [.nils, .nils], .arr 42 2 (List.map encWrite [(⟨p1, p2⟩ : Write)]), .arr 9 1 (List.map encS x7)]) rfl rfl rfl (k_own' (v := .ref 0) (obs := [.arr 42 2 (List.map encWrite x8)]) (v' := .ref 4) (aw' := [.box [.sl (List.map encS p0.Sectors), .sl (List.map encWrite p0.Wait)], .box [.nils, .nils], .arr 42 2 (List.map encWrite [(⟨p1, p2⟩ : Write)]), .arr 9 1 (List.map encS x7), .arr 42 2 (List.map encWrite x8)]) (slices_Clone_Write_c p0.Wait x8 hx8) (⟨pure_map encWrite_p _, trivial⟩) rfl (obs_cons (flatOb_map fun _ => rfl) obs_nil) rfl rfl ?_))
                exact RA.weakR hS10 (Weak.mkN [] [0, 1, 2, 3, 4] (by decide) (none_kept _) rfl ⟨rn_int rfl, rn_str rfl, rn_ptr rfl, rn_ptr rfl, rn_bool rfl, rn_str rfl, rn_int rfl, rn_bool rfl, rn_ptr rfl, rn_sl encWrite_p rfl, rn_int rfl, rn_bool rfl, rn_ptr rfl, rn_sl encS_p rfl, rn_ref rfl, rn_ptr rfl, rn_sl encWrite_p rfl, rn_ref rfl, rn_int rfl, rn_str rfl, rn_agg ⟨rn_int rfl, rn_str rfl, trivial⟩, rn_ref rfl, trivial⟩ (rw_box (cs := [.sl (List.map encS p0.Sectors), .sl (List.map encWrite p0.Wait)]) (ds := [.sl (List.map encS p0.Sectors), .sl (List.map encWrite p0.Wait)]) rfl ⟨rn_sl encS_p rfl, rn_sl encWrite_p rfl, trivial⟩ (rw_box (cs := [.nils, .nils]) (ds := [.nils, .nils]) rfl ⟨rn_same pure_nils, rn_same pure_nils, trivial⟩ (rw_arr rfl encWrite_p rfl (rw_arr rfl encS_p rfl (rw_arr rfl encWrite_p rfl (rw_nil)))))))
              · refine RA.join 6 #[true, true, false, true, true, false, true, true, true, true, false, false, false, false] (mkA 43 [(1, .int .i64 p1), (2, .str p2), (3, .ptr 0 0), (6, .ptr 1 0), (20, .bool ((decide (p1 < 0)) || decide (p1 ≥ 200))), (22, .str p2), (23, .int .i64 ((p2).length : Int)), (24, .bool (decide (((p2).length : Int) > 64))), (26, .ptr 0 1), (27, .sl (List.map encWrite p0.Wait)), (28, .int .i64 ((p0.Wait).length : Int)), (29, .bool (((p0.Wait).length : Int) == 300)), (31, .ptr 0 0), (32, .sl (List.map encS p0.Sectors)), (34, .ptr 0 1), (35, .sl (List.map encWrite p0.Wait)), (37, .int .i64 p1), (38, .str p2), (39, .agg [.int .i64 p1, .str p2]), (40, .ref 2)]) [.box [.sl (List.map encS p0.Sectors), .sl (List.map encWrite p0.Wait)], .box [.nils, .nils], .arr 42 2 (List.map encWrite [(⟨p1, p2⟩ : Write)])] ?_ (fun hS12 => ?_)
                · refine RA.a1 (i1 := 2) (l1 := #[true, true, true, true, true, false, true, true, true, true, false, false, false, false]) (by decide +kernel) (by decide +kernel) ?_
                  refine RO.op rfl rfl (o_call (as0 := [.sl (List.map encS p0.Sectors)]) (as1 := [.sl (List.map encS p0.Sectors)]) (caps := []) (aw1 := [.box [.sl (List.map encS p0.Sectors), .sl (List.map encWrite p0.Wait)], .box [.nils, .nils], .arr 42 2 (List.map encWrite [(⟨p1, p2⟩ : Write)])]) rfl rfl rfl (k_own' (v := .ref 0) (obs := [.arr 9 1 (List.map encS x7)]) (v' := .ref 3) (aw' := [.box [.sl (List.map encS p0.Sectors), .sl (List.map encWrite p0.Wait)], .box [.nils, .nils], .arr 42 2 (List.map encWrite [(⟨p1, p2⟩ : Write)]), .arr 9 1 (List.map encS x7)]) (slices_Clone_string_c p0.Sectors x7 hx7) (⟨pure_map encS_p _, trivial⟩) rfl (obs_cons (flatOb_map fun _ => rfl) obs_nil) rfl rfl ?_))
                  exact RA.weakR hS11 (Weak.mkN [] [0, 1, 2, 3] (by decide) (none_kept _) rfl ⟨rn_int rfl, rn_str rfl, rn_ptr rfl, rn_ptr rfl, rn_bool rfl, rn_str rfl, rn_int rfl, rn_bool rfl, rn_ptr rfl, rn_sl encWrite_p rfl, rn_int rfl, rn_bool rfl, rn_ptr rfl, rn_sl encS_p rfl, rn_ref rfl, rn_ptr rfl, rn_sl encWrite_p rfl, rn_int rfl, rn_str rfl, rn_agg ⟨rn_int rfl, rn_str rfl, trivial⟩, rn_ref rfl, trivial⟩ (rw_box (cs := [.sl (List.map encS p0.Sectors), .sl (List.map encWrite p0.Wait)]) (ds := [.sl (List.map encS p0.Sectors), .sl (List.map encWrite p0.Wait)]) rfl ⟨rn_sl encS_p rfl, rn_sl encWrite_p rfl, trivial⟩ (rw_box (cs := [.nils, .nils]) (ds := [.nils, .nils]) rfl ⟨rn_same pure_nils, rn_same pure_nils, trivial⟩ (rw_arr rfl encWrite_p rfl (rw_arr rfl encS_p rfl (rw_nil))))))
                · refine RA.join 6 #[true, true, true, true, false, false, true, true, true, true, false, false, false, false] (mkA 43 [(1, .int .i64 p1), (2, .str p2), (3, .ptr 0 0), (6, .ptr 1 0), (20, .bool ((decide (p1 < 0)) || decide (p1 ≥ 200))), (22, .str p2), (23, .int .i64 ((p2).length : Int)), (24, .bool (decide (((p2).length : Int) > 64))), (26, .ptr 0 1), (27, .sl (List.map encWrite p0.Wait)), (28, .int .i64 ((p0.Wait).length : Int)), (29, .bool (((p0.Wait).length : Int) == 300)), (31, .ptr 0 0), (32, .sl (List.map encS p0.Sectors)), (33, .ref 3), (34, .ptr 0 1), (37, .int .i64 p1), (38, .str p2), (39, .agg [.int .i64 p1, .str p2]), (40, .ref 2)]) [.box [.sl (List.map encS p0.Sectors), .sl (List.map encWrite p0.Wait)], .box [.nils, .nils], .arr 42 2 (List.map encWrite [(⟨p1, p2⟩ : Write)]), .arr 9 1 (List.map encS x7)] ?_ (fun hS13 => ?_)
                  · refine RA.a1 (i1 := 4) (l1 := #[true, true, true, true, true, false, true, true, true, true, false, false, false, false]) (by decide +kernel) (by decide +kernel) ?_
                    refine RO.op rfl rfl (o_load_ptr rfl rfl (loadRow1 Ty.k23 (c := .sl (List.map encWrite p0.Wait)) rfl ?_))
                    exact RA.weakR hS11 (Weak.mkN [] [0, 1, 2, 3] (by decide) (none_kept _) rfl ⟨rn_int rfl, rn_str rfl, rn_ptr rfl, rn_ptr rfl, rn_bool rfl, rn_str rfl, rn_int rfl, rn_bool rfl, rn_ptr rfl, rn_sl encWrite_p rfl, rn_int rfl, rn_bool rfl, rn_ptr rfl, rn_sl encS_p rfl, rn_ref rfl, rn_ptr rfl, rn_sl encWrite_p rfl, rn_int rfl, rn_str rfl, rn_agg ⟨rn_int rfl, rn_str rfl, trivial⟩, rn_ref rfl, trivial⟩ (rw_box (cs := [.sl (List.map encS p0.Sectors), .sl (List.map encWrite p0.Wait)]) (ds := [.sl (List.map encS p0.Sectors), .sl (List.map encWrite p0.Wait)]) rfl ⟨rn_sl encS_p rfl, rn_sl encWrite_p rfl, trivial⟩ (rw_box (cs := [.nils, .nils]) (ds := [.nils, .nils]) rfl ⟨rn_same pure_nils, rn_same pure_nils, trivial⟩ (rw_arr rfl encWrite_p rfl (rw_arr rfl encS_p rfl (rw_nil))))))
                  · refine RA.join 6 #[true, true, true, true, true, false, true, true, true, false, false, false, false, false] (mkA 43 [(1, .int .i64 p1), (2, .str p2), (3, .ptr 0 0), (6, .ptr 1 0), (20, .bool ((decide (p1 < 0)) || decide (p1 ≥ 200))), (22, .str p2), (23, .int .i64 ((p2).length : Int)), (24, .bool (decide (((p2).length : Int) > 64))), (26, .ptr 0 1), (27, .sl (List.map encWrite p0.Wait)), (28, .int .i64 ((p0.Wait).length : Int)), (29, .bool (((p0.Wait).length : Int) == 300)), (31, .ptr 0 0), (32, .sl (List.map encS p0.Sectors)), (33, .ref 2), (34, .ptr 0 1), (35, .sl (List.map encWrite p0.Wait)), (37, .int .i64 p1), (38, .str p2), (39, .agg [.int .i64 p1, .str p2])]) [.box [.sl (List.map encS p0.Sectors), .sl (List.map encWrite p0.Wait)], .box [.nils, .nils], .arr 9 1 (List.map encS x7)] ?_ (fun hS14 => ?_)
                    · refine RA.a2 (i1 := 5) (l1 := #[true, true, true, true, true, true, true, true, true, false, false, false, false, false]) (i2 := 9) (l2 := #[true, true, true, true, true, false, true, true, true, true, false, false, false, false]) (by decide +kernel) (by decide +kernel) (by decide +kernel) ?_ ?_
                      · refine RO.op rfl rfl (o_call (as0 := [.sl (List.map encWrite p0.Wait)]) (as1 := [.sl (List.map encWrite p0.Wait)]) (caps := []) (aw1 := [.box [.sl (List.map encS p0.Sectors), .sl (List.map encWrite p0.Wait)], .box [.nils, .nils], .arr 9 1 (List.map encS x7)]) rfl rfl rfl (k_own' (v := .ref 0) (obs := [.arr 42 2 (List.map encWrite x8)]) (v' := .ref 3) (aw' := [.box [.sl (List.map encS p0.Sectors), .sl (List.map encWrite p0.Wait)], .box [.nils, .nils], .arr 9 1 (List.map encS x7), .arr 42 2 (List.map encWrite x8)]) (slices_Clone_Write_c p0.Wait x8 hx8) (⟨pure_map encWrite_p _, trivial⟩) rfl (obs_cons (flatOb_map fun _ => rfl) obs_nil) rfl rfl ?_))
                        refine RA.a1 (i1 := 9) (l1 := #[true, true, true, true, true, true, true, true, true, true, false, false, false, false]) (by decide +kernel) (by decide +kernel) ?_
                        refine RO.op rfl rfl (o_buildSlice (rows := List.map encWrite [(⟨p1, p2⟩ : Write)]) (vs := [.agg [.int .i64 p1, .str p2]]) Ty.s23 Ty.z42 rfl rfl rfl rfl rfl (aw' := [.box [.sl (List.map encS p0.Sectors), .sl (List.map encWrite p0.Wait)], .box [.nils, .nils], .arr 9 1 (List.map encS x7), .arr 42 2 (List.map encWrite x8), .arr 42 2 (List.map encWrite [(⟨p1, p2⟩ : Write)])]) rfl ?_)
                        exact RA.weakR hS10 (Weak.mkN [] [0, 1, 4, 2, 3] (by decide) (none_kept _) rfl ⟨rn_int rfl, rn_str rfl, rn_ptr rfl, rn_ptr rfl, rn_bool rfl, rn_str rfl, rn_int rfl, rn_bool rfl, rn_ptr rfl, rn_sl encWrite_p rfl, rn_int rfl, rn_bool rfl, rn_ptr rfl, rn_sl encS_p rfl, rn_ref rfl, rn_ptr rfl, rn_sl encWrite_p rfl, rn_ref rfl, rn_int rfl, rn_str rfl, rn_agg ⟨rn_int rfl, rn_str rfl, trivial⟩, rn_ref rfl, trivial⟩ (rw_box (cs := [.sl (List.map encS p0.Sectors), .sl (List.map encWrite p0.Wait)]) (ds := [.sl (List.map encS p0.Sectors), .sl (List.map encWrite p0.Wait)]) rfl ⟨rn_sl encS_p rfl, rn_sl encWrite_p rfl, trivial⟩ (rw_box (cs := [.nils, .nils]) (ds := [.nils, .nils]) rfl ⟨rn_same pure_nils, rn_same pure_nils, trivial⟩ (rw_arr rfl encWrite_p rfl (rw_arr rfl encS_p rfl (rw_arr rfl encWrite_p rfl (rw_nil)))))))
                      · refine RO.op rfl rfl (o_buildSlice (rows := List.map encWrite [(⟨p1, p2⟩ : Write)]) (vs := [.agg [.int .i64 p1, .str p2]]) Ty.s23 Ty.z42 rfl rfl rfl rfl rfl (aw' := [.box [.sl (List.map encS p0.Sectors), .sl (List.map encWrite p0.Wait)], .box [.nils, .nils], .arr 9 1 (List.map encS x7), .arr 42 2 (List.map encWrite [(⟨p1, p2⟩ : Write)])]) rfl ?_)
                        exact RA.weakR hS11 (Weak.mkN [] [0, 1, 3, 2] (by decide) (none_kept _) rfl ⟨rn_int rfl, rn_str rfl, rn_ptr rfl, rn_ptr rfl, rn_bool rfl, rn_str rfl, rn_int rfl, rn_bool rfl, rn_ptr rfl, rn_sl encWrite_p rfl, rn_int rfl, rn_bool rfl, rn_ptr rfl, rn_sl encS_p rfl, rn_ref rfl, rn_ptr rfl, rn_sl encWrite_p rfl, rn_int rfl, rn_str rfl, rn_agg ⟨rn_int rfl, rn_str rfl, trivial⟩, rn_ref rfl, trivial⟩ (rw_box (cs := [.sl (List.map encS p0.Sectors), .sl (List.map encWrite p0.Wait)]) (ds := [.sl (List.map encS p0.Sectors), .sl (List.map encWrite p0.Wait)]) rfl ⟨rn_sl encS_p rfl, rn_sl encWrite_p rfl, trivial⟩ (rw_box (cs := [.nils, .nils]) (ds := [.nils, .nils]) rfl ⟨rn_same pure_nils, rn_same pure_nils, trivial⟩ (rw_arr rfl encWrite_p rfl (rw_arr rfl encS_p rfl (rw_nil))))))
                    · refine RA.join 7 #[true, true, false, true, false, false, true, true, true, true, false, false, false, false] (mkA 43 [(1, .int .i64 p1), (2, .str p2), (3, .ptr 0 0), (6, .ptr 1 0), (20, .bool ((decide (p1 < 0)) || decide (p1 ≥ 200))), (22, .str p2), (23, .int .i64 ((p2).length : Int)), (24, .bool (decide (((p2).length : Int) > 64))), (26, .ptr 0 1), (27, .sl (List.map encWrite p0.Wait)), (28, .int .i64 ((p0.Wait).length : Int)), (29, .bool (((p0.Wait).length : Int) == 300)), (31, .ptr 0 0), (32, .sl (List.map encS p0.Sectors)), (34, .ptr 0 1), (37, .int .i64 p1), (38, .str p2), (39, .agg [.int .i64 p1, .str p2]), (40, .ref 2)]) [.box [.sl (List.map encS p0.Sectors), .sl (List.map encWrite p0.Wait)], .box [.nils, .nils], .arr 42 2 (List.map encWrite [(⟨p1, p2⟩ : Write)])] ?_ (fun hS15 => ?_)
                      · refine RA.a2 (i1 := 2) (l1 := #[true, true, true, true, false, false, true, true, true, true, false, false, false, false]) (i2 := 4) (l2 := #[true, true, false, true, true, false, true, true, true, true, false, false, false, false]) (by decide +kernel) (by decide +kernel) (by decide +kernel) ?_ ?_
                        · refine RO.op rfl rfl (o_call (as0 := [.sl (List.map encS p0.Sectors)]) (as1 := [.sl (List.map encS p0.Sectors)]) (caps := []) (aw1 := [.box [.sl (List.map encS p0.Sectors), .sl (List.map encWrite p0.Wait)], .box [.nils, .nils], .arr 42 2 (List.map encWrite [(⟨p1, p2⟩ : Write)])]) rfl rfl rfl (k_own' (v := .ref 0) (obs := [.arr 9 1 (List.map encS x7)]) (v' := .ref 3) (aw' := [.box [.sl (List.map encS p0.Sectors), .sl (List.map encWrite p0.Wait)], .box [.nils, .nils], .arr 42 2 (List.map encWrite [(⟨p1, p2⟩ : Write)]), .arr 9 1 (List.map encS x7)]) (slices_Clone_string_c p0.Sectors x7 hx7) (⟨pure_map encS_p _, trivial⟩) rfl (obs_cons (flatOb_map fun _ => rfl) obs_nil) rfl rfl ?_))
                          exact RA.weakR hS13 (Weak.mkN [] [0, 1, 2, 3] (by decide) (none_kept _) rfl ⟨rn_int rfl, rn_str rfl, rn_ptr rfl, rn_ptr rfl, rn_bool rfl, rn_str rfl, rn_int rfl, rn_bool rfl, rn_ptr rfl, rn_sl encWrite_p rfl, rn_int rfl, rn_bool rfl, rn_ptr rfl, rn_sl encS_p rfl, rn_ref rfl, rn_ptr rfl, rn_int rfl, rn_str rfl, rn_agg ⟨rn_int rfl, rn_str rfl, trivial⟩, rn_ref rfl, trivial⟩ (rw_box (cs := [.sl (List.map encS p0.Sectors), .sl (List.map encWrite p0.Wait)]) (ds := [.sl (List.map encS p0.Sectors), .sl (List.map encWrite p0.Wait)]) rfl ⟨rn_sl encS_p rfl, rn_sl encWrite_p rfl, trivial⟩ (rw_box (cs := [.nils, .nils]) (ds := [.nils, .nils]) rfl ⟨rn_same pure_nils, rn_same pure_nils, trivial⟩ (rw_arr rfl encWrite_p rfl (rw_arr rfl encS_p rfl (rw_nil))))))
                        · refine RO.op rfl rfl (o_load_ptr rfl rfl (loadRow1 Ty.k23 (c := .sl (List.map encWrite p0.Wait)) rfl ?_))
                          exact RA.weakR hS12 (Weak.mkN [] [0, 1, 2] (by decide) (none_kept _) rfl ⟨rn_int rfl, rn_str rfl, rn_ptr rfl, rn_ptr rfl, rn_bool rfl, rn_str rfl, rn_int rfl, rn_bool rfl, rn_ptr rfl, rn_sl encWrite_p rfl, rn_int rfl, rn_bool rfl, rn_ptr rfl, rn_sl encS_p rfl, rn_ptr rfl, rn_sl encWrite_p rfl, rn_int rfl, rn_str rfl, rn_agg ⟨rn_int rfl, rn_str rfl, trivial⟩, rn_ref rfl, trivial⟩ (rw_box (cs := [.sl (List.map encS p0.Sectors), .sl (List.map encWrite p0.Wait)]) (ds := [.sl (List.map encS p0.Sectors), .sl (List.map encWrite p0.Wait)]) rfl ⟨rn_sl encS_p rfl, rn_sl encWrite_p rfl, trivial⟩ (rw_box (cs := [.nils, .nils]) (ds := [.nils, .nils]) rfl ⟨rn_same pure_nils, rn_same pure_nils, trivial⟩ (rw_arr rfl encWrite_p rfl (rw_nil)))))
                      · refine RA.join 7 #[true, false, false, true, true, false, true, true, true, true, false, false, false, false] (mkA 43 [(1, .int .i64 p1), (2, .str p2), (3, .ptr 0 0), (6, .ptr 1 0), (20, .bool ((decide (p1 < 0)) || decide (p1 ≥ 200))), (22, .str p2), (23, .int .i64 ((p2).length : Int)), (24, .bool (decide (((p2).length : Int) > 64))), (26, .ptr 0 1), (27, .sl (List.map encWrite p0.Wait)), (28, .int .i64 ((p0.Wait).length : Int)), (29, .bool (((p0.Wait).length : Int) == 300)), (31, .ptr 0 0), (34, .ptr 0 1), (35, .sl (List.map encWrite p0.Wait)), (37, .int .i64 p1), (38, .str p2), (39, .agg [.int .i64 p1, .str p2]), (40, .ref 2)]) [.box [.sl (List.map encS p0.Sectors), .sl (List.map encWrite p0.Wait)], .box [.nils, .nils], .arr 42 2 (List.map encWrite [(⟨p1, p2⟩ : Write)])] ?_ (fun hS16 => ?_)
                        · refine RA.a1 (i1 := 1) (l1 := #[true, true, false, true, true, false, true, true, true, true, false, false, false, false]) (by decide +kernel) (by decide +kernel) ?_
                          refine RO.op rfl rfl (o_load_ptr rfl rfl (loadRow1 Ty.k22 (c := .sl (List.map encS p0.Sectors)) rfl ?_))
                          exact RA.weakR hS12 (Weak.mkN [] [0, 1, 2] (by decide) (none_kept _) rfl ⟨rn_int rfl, rn_str rfl, rn_ptr rfl, rn_ptr rfl, rn_bool rfl, rn_str rfl, rn_int rfl, rn_bool rfl, rn_ptr rfl, rn_sl encWrite_p rfl, rn_int rfl, rn_bool rfl, rn_ptr rfl, rn_sl encS_p rfl, rn_ptr rfl, rn_sl encWrite_p rfl, rn_int rfl, rn_str rfl, rn_agg ⟨rn_int rfl, rn_str rfl, trivial⟩, rn_ref rfl, trivial⟩ (rw_box (cs := [.sl (List.map encS p0.Sectors), .sl (List.map encWrite p0.Wait)]) (ds := [.sl (List.map encS p0.Sectors), .sl (List.map encWrite p0.Wait)]) rfl ⟨rn_sl encS_p rfl, rn_sl encWrite_p rfl, trivial⟩ (rw_box (cs := [.nils, .nils]) (ds := [.nils, .nils]) rfl ⟨rn_same pure_nils, rn_same pure_nils, trivial⟩ (rw_arr rfl encWrite_p rfl (rw_nil)))))
                        · refine RA.join 7 #[true, true, false, true, true, false, true, true, true, false, false, false, false, false] (mkA 43 [(1, .int .i64 p1), (2, .str p2), (3, .ptr 0 0), (6, .ptr 1 0), (20, .bool ((decide (p1 < 0)) || decide (p1 ≥ 200))), (22, .str p2), (23, .int .i64 ((p2).length : Int)), (24, .bool (decide (((p2).length : Int) > 64))), (26, .ptr 0 1), (27, .sl (List.map encWrite p0.Wait)), (28, .int .i64 ((p0.Wait).length : Int)), (29, .bool (((p0.Wait).length : Int) == 300)), (31, .ptr 0 0), (32, .sl (List.map encS p0.Sectors)), (34, .ptr 0 1), (35, .sl (List.map encWrite p0.Wait)), (37, .int .i64 p1), (38, .str p2), (39, .agg [.int .i64 p1, .str p2])]) [.box [.sl (List.map encS p0.Sectors), .sl (List.map encWrite p0.Wait)], .box [.nils, .nils]] ?_ (fun hS17 => ?_)
                          · refine RA.a2 (i1 := 2) (l1 := #[true, true, true, true, true, false, true, true, true, false, false, false, false, false]) (i2 := 9) (l2 := #[true, true, false, true, true, false, true, true, true, true, false, false, false, false]) (by decide +kernel) (by decide +kernel) (by decide +kernel) ?_ ?_
                            · refine RO.op rfl rfl (o_call (as0 := [.sl (List.map encS p0.Sectors)]) (as1 := [.sl (List.map encS p0.Sectors)]) (caps := []) (aw1 := [.box [.sl (List.map encS p0.Sectors), .sl (List.map encWrite p0.Wait)], .box [.nils, .nils]]) rfl rfl rfl (k_own' (v := .ref 0) (obs := [.arr 9 1 (List.map encS x7)]) (v' := .ref 2) (aw' := [.box [.sl (List.map encS p0.Sectors), .sl (List.map encWrite p0.Wait)], .box [.nils, .nils], .arr 9 1 (List.map encS x7)]) (slices_Clone_string_c p0.Sectors x7 hx7) (⟨pure_map encS_p _, trivial⟩) rfl (obs_cons (flatOb_map fun _ => rfl) obs_nil) rfl rfl ?_))
                              exact RA.weakR hS14 (Weak.mkN [] [0, 1, 2] (by decide) (none_kept _) rfl ⟨rn_int rfl, rn_str rfl, rn_ptr rfl, rn_ptr rfl, rn_bool rfl, rn_str rfl, rn_int rfl, rn_bool rfl, rn_ptr rfl, rn_sl encWrite_p rfl, rn_int rfl, rn_bool rfl, rn_ptr rfl, rn_sl encS_p rfl, rn_ref rfl, rn_ptr rfl, rn_sl encWrite_p rfl, rn_int rfl, rn_str rfl, rn_agg ⟨rn_int rfl, rn_str rfl, trivial⟩, trivial⟩ (rw_box (cs := [.sl (List.map encS p0.Sectors), .sl (List.map encWrite p0.Wait)]) (ds := [.sl (List.map encS p0.Sectors), .sl (List.map encWrite p0.Wait)]) rfl ⟨rn_sl encS_p rfl, rn_sl encWrite_p rfl, trivial⟩ (rw_box (cs := [.nils, .nils]) (ds := [.nils, .nils]) rfl ⟨rn_same pure_nils, rn_same pure_nils, trivial⟩ (rw_arr rfl encS_p rfl (rw_nil)))))
                            · refine RO.op rfl rfl (o_buildSlice (rows := List.map encWrite [(⟨p1, p2⟩ : Write)]) (vs := [.agg [.int .i64 p1, .str p2]]) Ty.s23 Ty.z42 rfl rfl rfl rfl rfl (aw' := [.box [.sl (List.map encS p0.Sectors), .sl (List.map encWrite p0.Wait)], .box [.nils, .nils], .arr 42 2 (List.map encWrite [(⟨p1, p2⟩ : Write)])]) rfl ?_)
                              exact RA.weakR hS12 (Weak.mkN [] [0, 1, 2] (by decide) (none_kept _) rfl ⟨rn_int rfl, rn_str rfl, rn_ptr rfl, rn_ptr rfl, rn_bool rfl, rn_str rfl, rn_int rfl, rn_bool rfl, rn_ptr rfl, rn_sl encWrite_p rfl, rn_int rfl, rn_bool rfl, rn_ptr rfl, rn_sl encS_p rfl, rn_ptr rfl, rn_sl encWrite_p rfl, rn_int rfl, rn_str rfl, rn_agg ⟨rn_int rfl, rn_str rfl, trivial⟩, rn_ref rfl, trivial⟩ (rw_box (cs := [.sl (List.map encS p0.Sectors), .sl (List.map encWrite p0.Wait)]) (ds := [.sl (List.map encS p0.Sectors), .sl (List.map encWrite p0.Wait)]) rfl ⟨rn_sl encS_p rfl, rn_sl encWrite_p rfl, trivial⟩ (rw_box (cs := [.nils, .nils]) (ds := [.nils, .nils]) rfl ⟨rn_same pure_nils, rn_same pure_nils, trivial⟩ (rw_arr rfl encWrite_p rfl (rw_nil)))))
                          · refine RA.t0 (i := 0) (li' := #[true, false, false, false, false, false, false, false, false, false, false, false, false, false]) rfl (by decide +kernel) (by decide +kernel) (by decide +kernel) (by decide +kernel) rfl rfl (v_fieldAddr_ptr Ty.f25_0 rfl (off' := 0) rfl ?_)
                            refine RA.t0 (i := 3) (li' := #[true, false, false, true, false, false, false, false, false, false, false, false, false, false]) rfl (by decide +kernel) (by decide +kernel) (by decide +kernel) (by decide +kernel) rfl rfl (v_fieldAddr_ptr Ty.f25_1 rfl (off' := 1) rfl ?_)
                            refine RA.t0 (i := 6) (li' := #[true, false, false, true, false, false, true, false, false, false, false, false, false, false]) rfl (by decide +kernel) (by decide +kernel) (by decide +kernel) (by decide +kernel) rfl rfl (v_move (v := .int .i64 p1) rfl ?_)
                            refine RA.t0 (i := 7) (li' := #[true, false, false, true, false, false, true, true, false, false, false, false, false, false]) rfl (by decide +kernel) (by decide +kernel) (by decide +kernel) (by decide +kernel) rfl rfl (v_move (v := .str p2) rfl ?_)
                            refine RA.t0 (i := 8) (li' := #[true, false, false, true, false, false, true, true, true, false, false, false, false, false]) rfl (by decide +kernel) (by decide +kernel) (by decide +kernel) (by decide +kernel) rfl rfl (v_build (cs := [.int .i64 p1, .str p2]) Ty.z42 Ty.p42 rfl ?_)
                            refine RA.a3 (i1 := 1) (l1 := #[true, true, false, true, false, false, true, true, true, false, false, false, false, false]) (i2 := 4) (l2 := #[true, false, false, true, true, false, true, true, true, false, false, false, false, false]) (i3 := 9) (l3 := #[true, false, false, true, false, false, true, true, true, true, false, false, false, false]) (by decide +kernel) (by decide +kernel) (by decide +kernel) (by decide +kernel) ?_ ?_ ?_
                            · refine RO.op rfl rfl (o_load_ptr rfl rfl (loadRow1 Ty.k22 (c := .sl (List.map encS p0.Sectors)) rfl ?_))
                              refine RA.a3 (i1 := 2) (l1 := #[true, true, true, true, false, false, true, true, true, false, false, false, false, false]) (i2 := 4) (l2 := #[true, true, false, true, true, false, true, true, true, false, false, false, false, false]) (i3 := 9) (l3 := #[true, true, false, true, false, false, true, true, true, true, false, false, false, false]) (by decide +kernel) (by decide +kernel) (by decide +kernel) (by decide +kernel) ?_ ?_ ?_
                              · refine RO.op rfl rfl (o_call (as0 := [.sl (List.map encS p0.Sectors)]) (as1 := [.sl (List.map encS p0.Sectors)]) (caps := []) (aw1 := [.box [.sl (List.map encS p0.Sectors), .sl (List.map encWrite p0.Wait)], .box [.nils, .nils]]) rfl rfl rfl (k_own' (v := .ref 0) (obs := [.arr 9 1 (List.map encS x7)]) (v' := .ref 2) (aw' := [.box [.sl (List.map encS p0.Sectors), .sl (List.map encWrite p0.Wait)], .box [.nils, .nils], .arr 9 1 (List.map encS x7)]) (slices_Clone_string_c p0.Sectors x7 hx7) (⟨pure_map encS_p _, trivial⟩) rfl (obs_cons (flatOb_map fun _ => rfl) obs_nil) rfl rfl ?_))
                                refine RA.a2 (i1 := 4) (l1 := #[true, true, true, true, true, false, true, true, true, false, false, false, false, false]) (i2 := 9) (l2 := #[true, true, true, true, false, false, true, true, true, true, false, false, false, false]) (by decide +kernel) (by decide +kernel) (by decide +kernel) ?_ ?_
                                · refine RO.op rfl rfl (o_load_ptr rfl rfl (loadRow1 Ty.k23 (c := .sl (List.map encWrite p0.Wait)) rfl ?_))
                                  exact RA.weakR hS14 (Weak.mkN [] [0, 1, 2] (by decide) (none_kept _) rfl ⟨rn_int rfl, rn_str rfl, rn_ptr rfl, rn_ptr rfl, rn_bool rfl, rn_str rfl, rn_int rfl, rn_bool rfl, rn_ptr rfl, rn_sl encWrite_p rfl, rn_int rfl, rn_bool rfl, rn_ptr rfl, rn_sl encS_p rfl, rn_ref rfl, rn_ptr rfl, rn_sl encWrite_p rfl, rn_int rfl, rn_str rfl, rn_agg ⟨rn_int rfl, rn_str rfl, trivial⟩, trivial⟩ (rw_box (cs := [.sl (List.map encS p0.Sectors), .sl (List.map encWrite p0.Wait)]) (ds := [.sl (List.map encS p0.Sectors), .sl (List.map encWrite p0.Wait)]) rfl ⟨rn_sl encS_p rfl, rn_sl encWrite_p rfl, trivial⟩ (rw_box (cs := [.nils, .nils]) (ds := [.nils, .nils]) rfl ⟨rn_same pure_nils, rn_same pure_nils, trivial⟩ (rw_arr rfl encS_p rfl (rw_nil)))))
                                · refine RO.op rfl rfl (o_buildSlice (rows := List.map encWrite [(⟨p1, p2⟩ : Write)]) (vs := [.agg [.int .i64 p1, .str p2]]) Ty.s23 Ty.z42 rfl rfl rfl rfl rfl (aw' := [.box [.sl (List.map encS p0.Sectors), .sl (List.map encWrite p0.Wait)], .box [.nils, .nils], .arr 9 1 (List.map encS x7), .arr 42 2 (List.map encWrite [(⟨p1, p2⟩ : Write)])]) rfl ?_)
                                  exact RA.weakR hS13 (Weak.mkN [] [0, 1, 3, 2] (by decide) (none_kept _) rfl ⟨rn_int rfl, rn_str rfl, rn_ptr rfl, rn_ptr rfl, rn_bool rfl, rn_str rfl, rn_int rfl, rn_bool rfl, rn_ptr rfl, rn_sl encWrite_p rfl, rn_int rfl, rn_bool rfl, rn_ptr rfl, rn_sl encS_p rfl, rn_ref rfl, rn_ptr rfl, rn_int rfl, rn_str rfl, rn_agg ⟨rn_int rfl, rn_str rfl, trivial⟩, rn_ref rfl, trivial⟩ (rw_box (cs := [.sl (List.map encS p0.Sectors), .sl (List.map encWrite p0.Wait)]) (ds := [.sl (List.map encS p0.Sectors), .sl (List.map encWrite p0.Wait)]) rfl ⟨rn_sl encS_p rfl, rn_sl encWrite_p rfl, trivial⟩ (rw_box (cs := [.nils, .nils]) (ds := [.nils, .nils]) rfl ⟨rn_same pure_nils, rn_same pure_nils, trivial⟩ (rw_arr rfl encWrite_p rfl (rw_arr rfl encS_p rfl (rw_nil))))))
                              · refine RO.op rfl rfl (o_load_ptr rfl rfl (loadRow1 Ty.k23 (c := .sl (List.map encWrite p0.Wait)) rfl ?_))
                                exact RA.weakR hS17 (Weak.mkN [] [0, 1] (by decide) (none_kept _) rfl ⟨rn_int rfl, rn_str rfl, rn_ptr rfl, rn_ptr rfl, rn_bool rfl, rn_str rfl, rn_int rfl, rn_bool rfl, rn_ptr rfl, rn_sl encWrite_p rfl, rn_int rfl, rn_bool rfl, rn_ptr rfl, rn_sl encS_p rfl, rn_ptr rfl, rn_sl encWrite_p rfl, rn_int rfl, rn_str rfl, rn_agg ⟨rn_int rfl, rn_str rfl, trivial⟩, trivial⟩ (rw_box (cs := [.sl (List.map encS p0.Sectors), .sl (List.map encWrite p0.Wait)]) (ds := [.sl (List.map encS p0.Sectors), .sl (List.map encWrite p0.Wait)]) rfl ⟨rn_sl encS_p rfl, rn_sl encWrite_p rfl, trivial⟩ (rw_box (cs := [.nils, .nils]) (ds := [.nils, .nils]) rfl ⟨rn_same pure_nils, rn_same pure_nils, trivial⟩ (rw_nil))))
                              · refine RO.op rfl rfl (o_buildSlice (rows := List.map encWrite [(⟨p1, p2⟩ : Write)]) (vs := [.agg [.int .i64 p1, .str p2]]) Ty.s23 Ty.z42 rfl rfl rfl rfl rfl (aw' := [.box [.sl (List.map encS p0.Sectors), .sl (List.map encWrite p0.Wait)], .box [.nils, .nils], .arr 42 2 (List.map encWrite [(⟨p1, p2⟩ : Write)])]) rfl ?_)
                                exact RA.weakR hS15 (Weak.mkN [] [0, 1, 2] (by decide) (none_kept _) rfl ⟨rn_int rfl, rn_str rfl, rn_ptr rfl, rn_ptr rfl, rn_bool rfl, rn_str rfl, rn_int rfl, rn_bool rfl, rn_ptr rfl, rn_sl encWrite_p rfl, rn_int rfl, rn_bool rfl, rn_ptr rfl, rn_sl encS_p rfl, rn_ptr rfl, rn_int rfl, rn_str rfl, rn_agg ⟨rn_int rfl, rn_str rfl, trivial⟩, rn_ref rfl, trivial⟩ (rw_box (cs := [.sl (List.map encS p0.Sectors), .sl (List.map encWrite p0.Wait)]) (ds := [.sl (List.map encS p0.Sectors), .sl (List.map encWrite p0.Wait)]) rfl ⟨rn_sl encS_p rfl, rn_sl encWrite_p rfl, trivial⟩ (rw_box (cs := [.nils, .nils]) (ds := [.nils, .nils]) rfl ⟨rn_same pure_nils, rn_same pure_nils, trivial⟩ (rw_arr rfl encWrite_p rfl (rw_nil)))))
                            · refine RO.op rfl rfl (o_load_ptr rfl rfl (loadRow1 Ty.k23 (c := .sl (List.map encWrite p0.Wait)) rfl ?_))
                              refine RA.a2 (i1 := 1) (l1 := #[true, true, false, true, true, false, true, true, true, false, false, false, false, false]) (i2 := 9) (l2 := #[true, false, false, true, true, false, true, true, true, true, false, false, false, false]) (by decide +kernel) (by decide +kernel) (by decide +kernel) ?_ ?_
                              · refine RO.op rfl rfl (o_load_ptr rfl rfl (loadRow1 Ty.k22 (c := .sl (List.map encS p0.Sectors)) rfl ?_))
                                exact RA.weakR hS17 (Weak.mkN [] [0, 1] (by decide) (none_kept _) rfl ⟨rn_int rfl, rn_str rfl, rn_ptr rfl, rn_ptr rfl, rn_bool rfl, rn_str rfl, rn_int rfl, rn_bool rfl, rn_ptr rfl, rn_sl encWrite_p rfl, rn_int rfl, rn_bool rfl, rn_ptr rfl, rn_sl encS_p rfl, rn_ptr rfl, rn_sl encWrite_p rfl, rn_int rfl, rn_str rfl, rn_agg ⟨rn_int rfl, rn_str rfl, trivial⟩, trivial⟩ (rw_box (cs := [.sl (List.map encS p0.Sectors), .sl (List.map encWrite p0.Wait)]) (ds := [.sl (List.map encS p0.Sectors), .sl (List.map encWrite p0.Wait)]) rfl ⟨rn_sl encS_p rfl, rn_sl encWrite_p rfl, trivial⟩ (rw_box (cs := [.nils, .nils]) (ds := [.nils, .nils]) rfl ⟨rn_same pure_nils, rn_same pure_nils, trivial⟩ (rw_nil))))
                              · refine RO.op rfl rfl (o_buildSlice (rows := List.map encWrite [(⟨p1, p2⟩ : Write)]) (vs := [.agg [.int .i64 p1, .str p2]]) Ty.s23 Ty.z42 rfl rfl rfl rfl rfl (aw' := [.box [.sl (List.map encS p0.Sectors), .sl (List.map encWrite p0.Wait)], .box [.nils, .nils], .arr 42 2 (List.map encWrite [(⟨p1, p2⟩ : Write)])]) rfl ?_)
                                exact RA.weakR hS16 (Weak.mkN [] [0, 1, 2] (by decide) (none_kept _) rfl ⟨rn_int rfl, rn_str rfl, rn_ptr rfl, rn_ptr rfl, rn_bool rfl, rn_str rfl, rn_int rfl, rn_bool rfl, rn_ptr rfl, rn_sl encWrite_p rfl, rn_int rfl, rn_bool rfl, rn_ptr rfl, rn_ptr rfl, rn_sl encWrite_p rfl, rn_int rfl, rn_str rfl, rn_agg ⟨rn_int rfl, rn_str rfl, trivial⟩, rn_ref rfl, trivial⟩ (rw_box (cs := [.sl (List.map encS p0.Sectors), .sl (List.map encWrite p0.Wait)]) (ds := [.sl (List.map encS p0.Sectors), .sl (List.map encWrite p0.Wait)]) rfl ⟨rn_sl encS_p rfl, rn_sl encWrite_p rfl, trivial⟩ (rw_box (cs := [.nils, .nils]) (ds := [.nils, .nils]) rfl ⟨rn_same pure_nils, rn_same pure_nils, trivial⟩ (rw_arr rfl encWrite_p rfl (rw_nil)))))
                            · refine RO.op rfl rfl (o_buildSlice (rows := List.map encWrite [(⟨p1, p2⟩ : Write)]) (vs := [.agg [.int .i64 p1, .str p2]]) Ty.s23 Ty.z42 rfl rfl rfl rfl rfl (aw' := [.box [.sl (List.map encS p0.Sectors), .sl (List.map encWrite p0.Wait)], .box [.nils, .nils], .arr 42 2 (List.map encWrite [(⟨p1, p2⟩ : Write)])]) rfl ?_)
                              refine RA.a2 (i1 := 1) (l1 := #[true, true, false, true, false, false, true, true, true, true, false, false, false, false]) (i2 := 4) (l2 := #[true, false, false, true, true, false, true, true, true, true, false, false, false, false]) (by decide +kernel) (by decide +kernel) (by decide +kernel) ?_ ?_
                              · refine RO.op rfl rfl (o_load_ptr rfl rfl (loadRow1 Ty.k22 (c := .sl (List.map encS p0.Sectors)) rfl ?_))
                                exact RA.weakR hS15 (Weak.mkN [] [0, 1, 2] (by decide) (none_kept _) rfl ⟨rn_int rfl, rn_str rfl, rn_ptr rfl, rn_ptr rfl, rn_bool rfl, rn_str rfl, rn_int rfl, rn_bool rfl, rn_ptr rfl, rn_sl encWrite_p rfl, rn_int rfl, rn_bool rfl, rn_ptr rfl, rn_sl encS_p rfl, rn_ptr rfl, rn_int rfl, rn_str rfl, rn_agg ⟨rn_int rfl, rn_str rfl, trivial⟩, rn_ref rfl, trivial⟩ (rw_box (cs := [.sl (List.map encS p0.Sectors), .sl (List.map encWrite p0.Wait)]) (ds := [.sl (List.map encS p0.Sectors), .sl (List.map encWrite p0.Wait)]) rfl ⟨rn_sl encS_p rfl, rn_sl encWrite_p rfl, trivial⟩ (rw_box (cs := [.nils, .nils]) (ds := [.nils, .nils]) rfl ⟨rn_same pure_nils, rn_same pure_nils, trivial⟩ (rw_arr rfl encWrite_p rfl (rw_nil)))))
                              · refine RO.op rfl rfl (o_load_ptr rfl rfl (loadRow1 Ty.k23 (c := .sl (List.map encWrite p0.Wait)) rfl ?_))
                                exact RA.weakR hS16 (Weak.mkN [] [0, 1, 2] (by decide) (none_kept _) rfl ⟨rn_int rfl, rn_str rfl, rn_ptr rfl, rn_ptr rfl, rn_bool rfl, rn_str rfl, rn_int rfl, rn_bool rfl, rn_ptr rfl, rn_sl encWrite_p rfl, rn_int rfl, rn_bool rfl, rn_ptr rfl, rn_ptr rfl, rn_sl encWrite_p rfl, rn_int rfl, rn_str rfl, rn_agg ⟨rn_int rfl, rn_str rfl, trivial⟩, rn_ref rfl, trivial⟩ (rw_box (cs := [.sl (List.map encS p0.Sectors), .sl (List.map encWrite p0.Wait)]) (ds := [.sl (List.map encS p0.Sectors), .sl (List.map encWrite p0.Wait)]) rfl ⟨rn_sl encS_p rfl, rn_sl encWrite_p rfl, trivial⟩ (rw_box (cs := [.nils, .nils]) (ds := [.nils, .nils]) rfl ⟨rn_same pure_nils, rn_same pure_nils, trivial⟩ (rw_arr rfl encWrite_p rfl (rw_nil)))))
    · rcases bool_cases (decide (p1 < 0)) with hb_3 | hb_3
      · refine T.region ?_
        refine RS.op rfl (OP.q rfl (v_move (v := .int .i64 p1) rfl ?_))
        refine RS.op rfl (OP.q rfl (v_lss rfl rfl ?_))
        refine RS.op rfl (OP.q rfl (v_move (v := .bool (decide (p1 < 0))) rfl ?_))
        refine RS.no rfl rfl rfl hb_3 ?_
        refine RS.no rfl rfl rfl hb_3 ?_
        refine RS.op rfl (OP.q rfl (v_pickT (v := .bool true) rfl hb_3 rfl ?_))
        refine RS.nil ?_
        exact T.weakR (hK () trivial) (Weak.mkN [] [0, 1] (by decide) (none_kept _) rfl ⟨rn_int rfl, rn_str rfl, rn_ptr rfl, rn_ptr rfl, rn_bool (by simp only [hb_3, Bool.true_or, Bool.or_true, Bool.false_or, Bool.or_false, Bool.true_and, Bool.and_true, Bool.false_and, Bool.and_false, Bool.not_true, Bool.not_false, if_true, if_false, Bool.false_eq_true, reduceIte]), trivial⟩ (rw_box (cs := [.sl (List.map encS p0.Sectors), .sl (List.map encWrite p0.Wait)]) (ds := [.sl (List.map encS p0.Sectors), .sl (List.map encWrite p0.Wait)]) rfl ⟨rn_sl encS_p rfl, rn_sl encWrite_p rfl, trivial⟩ (rw_box (cs := [.nils, .nils]) (ds := [.nils, .nils]) rfl ⟨rn_same pure_nils, rn_same pure_nils, trivial⟩ (rw_nil))))
      · refine T.region ?_
        refine RS.op rfl (OP.q rfl (v_move (v := .int .i64 p1) rfl ?_))
        refine RS.op rfl (OP.q rfl (v_lss rfl rfl ?_))
        refine RS.op rfl (OP.q rfl (v_move (v := .bool (decide (p1 < 0))) rfl ?_))
        refine RS.yes rfl rfl rfl hb_3 (OP.q rfl (v_move (v := .int .i64 p1) rfl ?_))
        refine RS.yes rfl rfl rfl hb_3 (OP.q rfl (v_geq rfl rfl ?_))
        refine RS.op rfl (OP.q rfl (v_pickF (v := .bool (decide (p1 ≥ 200))) rfl hb_3 rfl ?_))
        refine RS.nil ?_
        exact T.weakR (hK () trivial) (Weak.mkN [] [0, 1] (by decide) (none_kept _) rfl ⟨rn_int rfl, rn_str rfl, rn_ptr rfl, rn_ptr rfl, rn_bool (by simp only [hb_3, Bool.true_or, Bool.or_true, Bool.false_or, Bool.or_false, Bool.true_and, Bool.and_true, Bool.false_and, Bool.and_false, Bool.not_true, Bool.not_false, if_true, if_false, Bool.false_eq_true, reduceIte]), trivial⟩ (rw_box (cs := [.sl (List.map encS p0.Sectors), .sl (List.map encWrite p0.Wait)]) (ds := [.sl (List.map encS p0.Sectors), .sl (List.map encWrite p0.Wait)]) rfl ⟨rn_sl encS_p rfl, rn_sl encWrite_p rfl, trivial⟩ (rw_box (cs := [.nils, .nils]) (ds := [.nils, .nils]) rfl ⟨rn_same pure_nils, rn_same pure_nils, trivial⟩ (rw_nil))))
theorem log_Append_c (p0 : Disk) (p1 : Int) (p2 : Int) (p3 : List Choice) (r : Disk × Int × Int) (h : log_Append p0 p1 p2 p3 = some r) : Fn Try.prog 20 [.agg [.sl (List.map encS p0.Sectors), .sl (List.map encWrite p0.Wait)], .int .i64 p1, .int .i64 p2, .sl (List.map encChoice p3)] (.tup [.agg [.sl (List.map encS r.1.Sectors), .sl (List.map encWrite r.1.Wait)], .int .i64 r.2.1, .int .i64 r.2.2]) := by
  unfold log_Append at h
  refine fn_of_T (N := 0) rfl Try.func20 rfl (by kernel_rfl) Try.ntmps20 rfl ?_
  show T _ _ _ _ (mkA 88 [(0, .agg [.sl (List.map encS p0.Sectors), .sl (List.map encWrite p0.Wait)]), (1, .int .i64 p1), (2, .int .i64 p2), (3, .sl (List.map encChoice p3))]) []
  refine T.seq ?_
  refine T.region ?_
  refine RS.op rfl (o_box (cs := [.sl (List.map encS p0.Sectors), .sl (List.map encWrite p0.Wait)]) rfl rfl (aw' := [.box [.sl (List.map encS p0.Sectors), .sl (List.map encWrite p0.Wait)]]) rfl ?_)
  refine RS.op rfl (o_alloc Ty.z25 rfl (aw' := [.box [.sl (List.map encS p0.Sectors), .sl (List.map encWrite p0.Wait)], .box [.nils, .nils]]) rfl ?_)
  refine RS.op rfl (OP.q rfl (v_assign (v := .int .i64 0) rfl ?_))
  refine RS.op rfl (OP.q rfl (v_assign (v := .int .i64 0) rfl ?_))
  refine RS.nil ?_
  refine T.seq ?_
  refine T.seq ?_
  obtain ⟨x2, hx2, h⟩ := bind_some h
  refine T.region ?_
  refine RS.op rfl (o_load_ptr rfl rfl (loadRowA Ty.k25 Ty.c25 rfl (cs := [.sl (List.map encS p0.Sectors), .sl (List.map encWrite p0.Wait)]) rfl ?_))
  refine RS.op rfl (o_call (as0 := [.agg [.sl (List.map encS p0.Sectors), .sl (List.map encWrite p0.Wait)]]) (as1 := [.agg [.sl (List.map encS p0.Sectors), .sl (List.map encWrite p0.Wait)]]) (caps := []) (aw1 := [.box [.sl (List.map encS p0.Sectors), .sl (List.map encWrite p0.Wait)], .box [.nils, .nils]]) rfl rfl rfl (k_flat (v := .int .i64 x2) (disk_Check_c p0 x2 hx2) (⟨pure_agg _ (pures_mem (⟨pure_map encS_p _, pure_map encWrite_p _, trivial⟩)), trivial⟩) rfl ?_))
  refine RS.op rfl (OP.q rfl (v_assign (v := .int .i64 x2) rfl ?_))
  refine RS.nil ?_
  refine T.seq ?_
  refine T.region ?_
  refine RS.op rfl (OP.q rfl (v_move (v := .int .i64 x2) rfl ?_))
  refine RS.op rfl (OP.q rfl (v_neq rfl rfl ?_))
  refine RS.nil ?_
  refine T.cond (b := x2 != 0) rfl (fun hb_1 => ?_) (fun hb_1 => ?_)
  · replace h := ite_T h hb_1
    refine T.seq ?_
    refine T.region ?_
    refine RS.op rfl (OP.q rfl (v_build (cs := [.nils, .nils]) Ty.z25 Ty.p25 rfl ?_))
    refine RS.op rfl (OP.q rfl (v_move (v := .int .i64 x2) rfl ?_))
    refine RS.op rfl (o_store_ptr Ty.c25 Ty.i25 rfl (vs := [.nils, .nils]) rfl rfl rfl rfl (cs' := [.nils, .nils]) rfl (aw' := [.box [.sl (List.map encS p0.Sectors), .sl (List.map encWrite p0.Wait)], .box [.nils, .nils]]) rfl ?_)
    refine RS.op rfl (OP.q rfl (v_assign (v := .int .i64 0) rfl ?_))
    refine RS.op rfl (OP.q rfl (v_assign (v := .int .i64 x2) rfl ?_))
    refine RS.nil ?_
    refine T.ret' (R := ?R2) ?hq2 ?_
    case hq2 => repeat (first | exact RetIs.base | refine RetIs.thn ?_ | refine RetIs.blk ?_ | refine RetIs.lq ?_)
    refine res_cellA (id := 1) (off := 0) (cs := [.nils, .nils]) (v := .agg [.nils, .nils]) ?_ ?_ ?_ ?_
    · rfl
    · rfl
    · exact fun K h => (loadRowA (row := [.nils, .nils]) (off := 0) Ty.k25 Ty.c25 rfl (cs := [.nils, .nils]) rfl h)
    refine res_tmpA (v := .int .i64 0) rfl ?_
    refine res_tmpA (v := .int .i64 x2) rfl ?_
    refine res_done ?_
    exact ret_data (v := .tup [.agg [.sl (List.map encS []), .sl (List.map encWrite [])], .int .i64 0, .int .i64 x2]) rfl (pure_tup _ (pures_mem (⟨pure_agg _ (pures_mem (⟨pure_map encS_p _, pure_map encWrite_p _, trivial⟩)), pure_int _ _, pure_int _ _, trivial⟩))) ⟨congrArg (fun r : Disk × Int × Int => (.tup [.agg [.sl (List.map encS r.1.Sectors), .sl (List.map encWrite r.1.Wait)], .int .i64 r.2.1, .int .i64 r.2.2] : AV)) (Option.some.inj h), rfl⟩
  · replace h := ite_F h hb_1
    refine T.skip ?_
    refine T.seq ?_
    refine T.join (Z := Unit) (fun _ => mkA 88 [(1, .int .i64 p1), (2, .int .i64 p2), (3, .sl (List.map encChoice p3)), (4, .ptr 0 0), (8, .ptr 1 0), (36, .bool ((decide (p1 < 0)) || ((decide (p1 > 200)) || ((decide (p2 < 0)) || decide (p2 > 80)))))]) (fun _ => [.box [.sl (List.map encS p0.Sectors), .sl (List.map encWrite p0.Wait)], .box [.nils, .nils]]) (fun _ => True) (fun _ _ => ?_) (fun hK => ?_)
    · show T _ _ _ _ (mkA 88 [(1, .int .i64 p1), (2, .int .i64 p2), (3, .sl (List.map encChoice p3)), (4, .ptr 0 0), (8, .ptr 1 0), (36, .bool ((decide (p1 < 0)) || ((decide (p1 > 200)) || ((decide (p2 < 0)) || decide (p2 > 80)))))]) [.box [.sl (List.map encS p0.Sectors), .sl (List.map encWrite p0.Wait)], .box [.nils, .nils]]
      refine T.cond (b := ((decide (p1 < 0)) || ((decide (p1 > 200)) || ((decide (p2 < 0)) || decide (p2 > 80))))) rfl (fun hb_6 => ?_) (fun hb_6 => ?_)
      · replace h := ite_T h hb_6
        refine T.seq ?_
        refine T.region ?_
        refine RS.op rfl (OP.q rfl (v_build (cs := [.nils, .nils]) Ty.z25 Ty.p25 rfl ?_))
        refine RS.op rfl (o_store_ptr Ty.c25 Ty.i25 rfl (vs := [.nils, .nils]) rfl rfl rfl rfl (cs' := [.nils, .nils]) rfl (aw' := [.box [.sl (List.map encS p0.Sectors), .sl (List.map encWrite p0.Wait)], .box [.nils, .nils]]) rfl ?_)
        refine RS.op rfl (OP.q rfl (v_assign (v := .int .i64 0) rfl ?_))
        refine RS.op rfl (OP.q rfl (v_assign (v := .int .i64 3) rfl ?_))
        refine RS.nil ?_
        refine T.ret' (R := ?R7) ?hq7 ?_
        case hq7 => repeat (first | exact RetIs.base | refine RetIs.thn ?_ | refine RetIs.blk ?_ | refine RetIs.lq ?_)
        refine res_cellA (id := 1) (off := 0) (cs := [.nils, .nils]) (v := .agg [.nils, .nils]) ?_ ?_ ?_ ?_
        · rfl
        · rfl
        · exact fun K h => (loadRowA (row := [.nils, .nils]) (off := 0) Ty.k25 Ty.c25 rfl (cs := [.nils, .nils]) rfl h)
        refine res_tmpA (v := .int .i64 0) rfl ?_
        refine res_tmpA (v := .int .i64 3) rfl ?_
        refine res_done ?_
        exact ret_data (v := .tup [.agg [.sl (List.map encS []), .sl (List.map encWrite [])], .int .i64 0, .int .i64 3]) rfl (pure_tup _ (pures_mem (⟨pure_agg _ (pures_mem (⟨pure_map encS_p _, pure_map encWrite_p _, trivial⟩)), pure_int _ _, pure_int _ _, trivial⟩))) ⟨congrArg (fun r : Disk × Int × Int => (.tup [.agg [.sl (List.map encS r.1.Sectors), .sl (List.map encWrite r.1.Wait)], .int .i64 r.2.1, .int .i64 r.2.2] : AV)) (Option.some.inj h), rfl⟩
      · replace h := ite_F h hb_6
        refine T.skip ?_
        refine T.seq ?_
        refine T.block ?_
        refine T.iter (fun ss_22 : Int × (List Choice) × (List (List UInt8)) × (List Write) => mkA 88 [(1, .int .i64 p1), (2, .int .i64 ss_22.1), (3, .sl (List.map encChoice ss_22.2.1)), (4, .ptr 0 0), (8, .ptr 1 0)]) (fun ss_22 => [.box [.sl (List.map encS ss_22.2.2.1), .sl (List.map encWrite ss_22.2.2.2)], .box [.nils, .nils]]) h (Weak.mkN [] [0, 1] (by decide) (none_kept _) rfl ⟨rn_int rfl, rn_int rfl, rn_sl encChoice_p rfl, rn_ptr rfl, rn_ptr rfl, trivial⟩ (rw_box (cs := [.sl (List.map encS p0.Sectors), .sl (List.map encWrite p0.Wait)]) (ds := [.sl (List.map encS p0.Sectors), .sl (List.map encWrite p0.Wait)]) rfl ⟨rn_sl encS_p rfl, rn_sl encWrite_p rfl, trivial⟩ (rw_box (cs := [.nils, .nils]) (ds := [.nils, .nils]) rfl ⟨rn_same pure_nils, rn_same pure_nils, trivial⟩ (rw_nil)))) (fun ss_22 v_23 h hv_23 => ?_)
        obtain ⟨s4, s5, s6, s7⟩ := ss_22
        replace h : log_Append_l1 p1 s4 s5 s6 s7 = some v_23 := h
        show T _ _ _ _ (mkA 88 [(1, .int .i64 p1), (2, .int .i64 s4), (3, .sl (List.map encChoice s5)), (4, .ptr 0 0), (8, .ptr 1 0)]) [.box [.sl (List.map encS s6), .sl (List.map encWrite s7)], .box [.nils, .nils]]
        unfold log_Append_l1 at h
        refine T.seq ?_
        refine T.seq ?_
        refine T.region ?_
        refine RS.op rfl (OP.q rfl (v_move (v := .sl (List.map encChoice s5)) rfl ?_))
        refine RS.op rfl (OP.q rfl (v_len_sl Ty.s26 rfl ?_))
        refine RS.op rfl (OP.q rfl (v_gtr rfl rfl ?_))
        refine RS.nil ?_
        refine T.cond (b := decide (((s5).length : Int) > 0)) rfl (fun hb_24 => ?_) (fun hb_24 => ?_)
        · replace h := ite_T h hb_24
          refine T.skip ?_
          refine T.block ?_
          refine T.seq ?_
          refine T.region ?_
          refine RS.op rfl (OP.q rfl (v_move (v := .sl (List.map encChoice s5)) rfl ?_))
          refine RS.op rfl (OP.q rfl (v_len_sl Ty.s26 rfl ?_))
          refine RS.op rfl (OP.q rfl (v_min rfl rfl ?_))
          refine RS.op rfl (OP.q rfl (v_assign (v := .int .i64 (if ((s5).length : Int) < 29 then ((s5).length : Int) else 29)) rfl ?_))
          refine RS.nil ?_
          refine T.seq ?_
          obtain ⟨x10, hx10, h⟩ := bind_some h
          obtain ⟨x11, hx11, h⟩ := bind_some h
          refine T.region ?_
          refine RS.op rfl (OP.q rfl (v_move (v := .sl (List.map encChoice s5)) rfl ?_))
          refine RS.op rfl (OP.q rfl (v_move (v := .int .i64 (if ((s5).length : Int) < 29 then ((s5).length : Int) else 29)) rfl ?_))
          refine RS.op rfl (o_slice_sl Ty.s26 (fun _ => rfl) rfl rfl rfl hx10 ?_)
          refine RS.op rfl (o_call (as0 := [.sl (List.map encChoice x10)]) (as1 := [.sl (List.map encChoice x10)]) (caps := []) (aw1 := [.box [.sl (List.map encS s6), .sl (List.map encWrite s7)], .box [.nils, .nils]]) rfl rfl rfl (k_flat (v := .tup [.str x11.1, .int .i64 x11.2]) (frame_Choices_c x10 x11 hx11) (⟨pure_map encChoice_p _, trivial⟩) rfl ?_))
          refine RS.op rfl (OP.q rfl (v_move (v := .tup [.str x11.1, .int .i64 x11.2]) rfl ?_))
          refine RS.op rfl (OP.q rfl (v_extract (v := .str x11.1) rfl rfl ?_))
          refine RS.op rfl (OP.q rfl (v_extract (v := .int .i64 x11.2) rfl rfl ?_))
          refine RS.op rfl (OP.q rfl (v_assign (v := .str x11.1) rfl ?_))
          refine RS.op rfl (OP.q rfl (v_assign (v := .int .i64 x11.2) rfl ?_))
          refine RS.nil ?_
          refine T.seq ?_
          refine T.seq ?_
          refine T.region ?_
          refine RS.op rfl (OP.q rfl (v_move (v := .int .i64 x11.2) rfl ?_))
          refine RS.op rfl (OP.q rfl (v_neq rfl rfl ?_))
          refine RS.nil ?_
          refine T.cond (b := x11.2 != 0) rfl (fun hb_25 => ?_) (fun hb_25 => ?_)
          · replace h := ite_T h hb_25
            refine T.seq ?_
            refine T.region ?_
            refine RS.op rfl (OP.q rfl (v_build (cs := [.nils, .nils]) Ty.z25 Ty.p25 rfl ?_))
            refine RS.op rfl (OP.q rfl (v_move (v := .int .i64 x11.2) rfl ?_))
            refine RS.op rfl (o_store_ptr Ty.c25 Ty.i25 rfl (vs := [.nils, .nils]) rfl rfl rfl rfl (cs' := [.nils, .nils]) rfl (aw' := [.box [.sl (List.map encS s6), .sl (List.map encWrite s7)], .box [.nils, .nils]]) rfl ?_)
            refine RS.op rfl (OP.q rfl (v_assign (v := .int .i64 0) rfl ?_))
            refine RS.op rfl (OP.q rfl (v_assign (v := .int .i64 x11.2) rfl ?_))
            refine RS.nil ?_
            refine T.ret' (R := ?R26) ?hq26 ?_
            case hq26 => repeat (first | exact RetIs.base | refine RetIs.thn ?_ | refine RetIs.blk ?_ | refine RetIs.lq ?_)
            obtain ⟨w_27, h, hw_27⟩ := map_inr h
            replace h := h.trans (congrArg some (hv_23 _ hw_27))
            refine res_cellA (id := 1) (off := 0) (cs := [.nils, .nils]) (v := .agg [.nils, .nils]) ?_ ?_ ?_ ?_
            · rfl
            · rfl
            · exact fun K h => (loadRowA (row := [.nils, .nils]) (off := 0) Ty.k25 Ty.c25 rfl (cs := [.nils, .nils]) rfl h)
            refine res_tmpA (v := .int .i64 0) rfl ?_
            refine res_tmpA (v := .int .i64 x11.2) rfl ?_
            refine res_done ?_
            exact ret_data (v := .tup [.agg [.sl (List.map encS []), .sl (List.map encWrite [])], .int .i64 0, .int .i64 x11.2]) rfl (pure_tup _ (pures_mem (⟨pure_agg _ (pures_mem (⟨pure_map encS_p _, pure_map encWrite_p _, trivial⟩)), pure_int _ _, pure_int _ _, trivial⟩))) ⟨congrArg (fun r : Disk × Int × Int => (.tup [.agg [.sl (List.map encS r.1.Sectors), .sl (List.map encWrite r.1.Wait)], .int .i64 r.2.1, .int .i64 r.2.2] : AV)) (Option.some.inj h), rfl⟩
          · replace h := ite_F h hb_25
            refine T.skip ?_
            refine T.seq ?_
            obtain ⟨x14, hx14, h⟩ := bind_some h
            obtain ⟨x15, hx15, h⟩ := bind_some h
            refine T.region ?_
            refine RS.op rfl (OP.q rfl (v_move (v := .int .i64 p1) rfl ?_))
            refine RS.op rfl (o_conv Try.underlying3 Try.underlying5 rfl ?_)
            refine RS.op rfl (o_buildSlice (rows := List.map enc8 [IntKind.u8.wrap p1]) (vs := [.int .u8 (IntKind.u8.wrap p1)]) Ty.s43 Ty.z5 rfl rfl rfl rfl rfl (aw' := [.box [.sl (List.map encS s6), .sl (List.map encWrite s7)], .box [.nils, .nils], .arr 5 1 (List.map enc8 [IntKind.u8.wrap p1])]) rfl ?_)
            refine RS.op rfl (o_conv_bytes (xs := [IntKind.u8.wrap p1]) Try.underlying43 Try.underlying5 Try.underlying9 rfl rfl ?_)
            refine RS.op rfl (OP.q rfl (v_move (v := .str x11.1) rfl ?_))
            refine RS.op rfl (OP.q rfl (v_sadd rfl rfl hx14 ?_))
            refine RS.op rfl (o_call (as0 := [.str x14]) (as1 := [.str x14]) (caps := []) (aw1 := [.box [.sl (List.map encS s6), .sl (List.map encWrite s7)], .box [.nils, .nils], .dead]) rfl rfl rfl (k_flat (v := .tup [.str x15.1, .int .i64 x15.2]) (frame_Put_c x14 x15 hx15) (⟨pure_str _, trivial⟩) rfl ?_))
            refine RS.op rfl (OP.q rfl (v_move (v := .tup [.str x15.1, .int .i64 x15.2]) rfl ?_))
            refine RS.op rfl (OP.q rfl (v_extract (v := .str x15.1) rfl rfl ?_))
            refine RS.op rfl (OP.q rfl (v_extract (v := .int .i64 x15.2) rfl rfl ?_))
            refine RS.op rfl (OP.q rfl (v_assign (v := .str x15.1) rfl ?_))
            refine RS.op rfl (OP.q rfl (v_assign (v := .int .i64 x15.2) rfl ?_))
            refine RS.nil ?_
            refine T.seq ?_
            refine T.seq ?_
            refine T.region ?_
            refine RS.op rfl (OP.q rfl (v_move (v := .int .i64 s4) rfl ?_))
            refine RS.op rfl (OP.q rfl (v_add rfl rfl ?_))
            refine RS.op rfl (OP.q rfl (v_eql rfl rfl ?_))
            refine RS.nil ?_
            refine T.cond (b := (IntKind.i64.wrap (120 + s4)) == 200) rfl (fun hb_28 => ?_) (fun hb_28 => ?_)
            · replace h := ite_T h hb_28
              refine T.seq ?_
              refine T.region ?_
              refine RS.op rfl (OP.q rfl (v_build (cs := [.nils, .nils]) Ty.z25 Ty.p25 rfl ?_))
              refine RS.op rfl (o_store_ptr Ty.c25 Ty.i25 rfl (vs := [.nils, .nils]) rfl rfl rfl rfl (cs' := [.nils, .nils]) rfl (aw' := [.box [.sl (List.map encS s6), .sl (List.map encWrite s7)], .box [.nils, .nils], .dead]) rfl ?_)
              refine RS.op rfl (OP.q rfl (v_assign (v := .int .i64 0) rfl ?_))
              refine RS.op rfl (OP.q rfl (v_assign (v := .int .i64 8) rfl ?_))
              refine RS.nil ?_
              refine T.ret' (R := ?R29) ?hq29 ?_
              case hq29 => repeat (first | exact RetIs.base | refine RetIs.thn ?_ | refine RetIs.blk ?_ | refine RetIs.lq ?_)
              obtain ⟨w_30, h, hw_30⟩ := map_inr h
              replace h := h.trans (congrArg some (hv_23 _ hw_30))
              refine res_cellA (id := 1) (off := 0) (cs := [.nils, .nils]) (v := .agg [.nils, .nils]) ?_ ?_ ?_ ?_
              · rfl
              · rfl
              · exact fun K h => (loadRowA (row := [.nils, .nils]) (off := 0) Ty.k25 Ty.c25 rfl (cs := [.nils, .nils]) rfl h)
              refine res_tmpA (v := .int .i64 0) rfl ?_
              refine res_tmpA (v := .int .i64 8) rfl ?_
              refine res_done ?_
              exact ret_data (v := .tup [.agg [.sl (List.map encS []), .sl (List.map encWrite [])], .int .i64 0, .int .i64 8]) rfl (pure_tup _ (pures_mem (⟨pure_agg _ (pures_mem (⟨pure_map encS_p _, pure_map encWrite_p _, trivial⟩)), pure_int _ _, pure_int _ _, trivial⟩))) ⟨congrArg (fun r : Disk × Int × Int => (.tup [.agg [.sl (List.map encS r.1.Sectors), .sl (List.map encWrite r.1.Wait)], .int .i64 r.2.1, .int .i64 r.2.2] : AV)) (Option.some.inj h), rfl⟩
            · replace h := ite_F h hb_28
              refine T.skip ?_
              refine T.seq ?_
              refine T.seq ?_
              obtain ⟨x17, hx17, h⟩ := bind_some h
              refine T.region ?_
              refine RS.op rfl (o_load_ptr rfl rfl (loadRowA Ty.k25 Ty.c25 rfl (cs := [.sl (List.map encS s6), .sl (List.map encWrite s7)]) rfl ?_))
              refine RS.op rfl (OP.q rfl (v_move (v := .int .i64 s4) rfl ?_))
              refine RS.op rfl (OP.q rfl (v_add rfl rfl ?_))
              refine RS.op rfl (OP.q rfl (v_move (v := .str x15.1) rfl ?_))
              refine RS.op rfl (o_call (as0 := [.agg [.sl (List.map encS s6), .sl (List.map encWrite s7)], .int .i64 (IntKind.i64.wrap (120 + s4)), .str x15.1]) (as1 := [.agg [.sl (List.map encS ((⟨s6, s7⟩ : Disk).Sectors)), .sl (List.map encWrite ((⟨s6, s7⟩ : Disk).Wait))], .int .i64 (IntKind.i64.wrap (120 + s4)), .str x15.1]) (caps := []) (aw1 := [.box [.sl (List.map encS s6), .sl (List.map encWrite s7)], .box [.nils, .nils], .dead]) rfl rfl rfl (k_fn (v := .tup [.agg [.sl (List.map encS x17.1.Sectors), .sl (List.map encWrite x17.1.Wait)], .int .i64 x17.2]) (disk_Write_c (⟨s6, s7⟩ : Disk) (IntKind.i64.wrap (120 + s4)) x15.1 x17 hx17) (⟨pure_agg _ (pures_mem (⟨pure_map encS_p _, pure_map encWrite_p _, trivial⟩)), pure_int _ _, pure_str _, trivial⟩) (pure_tup _ (pures_mem (⟨pure_agg _ (pures_mem (⟨pure_map encS_p _, pure_map encWrite_p _, trivial⟩)), pure_int _ _, trivial⟩))) ?_))
              refine RS.op rfl (OP.q rfl (v_move (v := .tup [.agg [.sl (List.map encS x17.1.Sectors), .sl (List.map encWrite x17.1.Wait)], .int .i64 x17.2]) rfl ?_))
              refine RS.op rfl (OP.q rfl (v_extract (v := .agg [.sl (List.map encS x17.1.Sectors), .sl (List.map encWrite x17.1.Wait)]) rfl rfl ?_))
              refine RS.op rfl (OP.q rfl (v_extract (v := .int .i64 x17.2) rfl rfl ?_))
              refine RS.op rfl (o_store_ptr Ty.c25 Ty.i25 rfl (vs := [.sl (List.map encS x17.1.Sectors), .sl (List.map encWrite x17.1.Wait)]) rfl rfl rfl rfl (cs' := [.sl (List.map encS x17.1.Sectors), .sl (List.map encWrite x17.1.Wait)]) rfl (aw' := [.box [.sl (List.map encS x17.1.Sectors), .sl (List.map encWrite x17.1.Wait)], .box [.nils, .nils], .dead]) rfl ?_)
              refine RS.op rfl (OP.q rfl (v_assign (v := .int .i64 x17.2) rfl ?_))
              refine RS.nil ?_
              refine T.seq ?_
              refine T.region ?_
              refine RS.op rfl (OP.q rfl (v_move (v := .int .i64 x17.2) rfl ?_))
              refine RS.op rfl (OP.q rfl (v_neq rfl rfl ?_))
              refine RS.nil ?_
              refine T.cond (b := x17.2 != 0) rfl (fun hb_31 => ?_) (fun hb_31 => ?_)
              · replace h := ite_T h hb_31
                refine T.seq ?_
                refine T.region ?_
                refine RS.op rfl (OP.q rfl (v_build (cs := [.nils, .nils]) Ty.z25 Ty.p25 rfl ?_))
                refine RS.op rfl (OP.q rfl (v_move (v := .int .i64 x17.2) rfl ?_))
                refine RS.op rfl (o_store_ptr Ty.c25 Ty.i25 rfl (vs := [.nils, .nils]) rfl rfl rfl rfl (cs' := [.nils, .nils]) rfl (aw' := [.box [.sl (List.map encS x17.1.Sectors), .sl (List.map encWrite x17.1.Wait)], .box [.nils, .nils], .dead]) rfl ?_)
                refine RS.op rfl (OP.q rfl (v_assign (v := .int .i64 0) rfl ?_))
                refine RS.op rfl (OP.q rfl (v_assign (v := .int .i64 x17.2) rfl ?_))
                refine RS.nil ?_
                refine T.ret' (R := ?R32) ?hq32 ?_
                case hq32 => repeat (first | exact RetIs.base | refine RetIs.thn ?_ | refine RetIs.blk ?_ | refine RetIs.lq ?_)
                obtain ⟨w_33, h, hw_33⟩ := map_inr h
                replace h := h.trans (congrArg some (hv_23 _ hw_33))
                refine res_cellA (id := 1) (off := 0) (cs := [.nils, .nils]) (v := .agg [.nils, .nils]) ?_ ?_ ?_ ?_
                · rfl
                · rfl
                · exact fun K h => (loadRowA (row := [.nils, .nils]) (off := 0) Ty.k25 Ty.c25 rfl (cs := [.nils, .nils]) rfl h)
                refine res_tmpA (v := .int .i64 0) rfl ?_
                refine res_tmpA (v := .int .i64 x17.2) rfl ?_
                refine res_done ?_
                exact ret_data (v := .tup [.agg [.sl (List.map encS []), .sl (List.map encWrite [])], .int .i64 0, .int .i64 x17.2]) rfl (pure_tup _ (pures_mem (⟨pure_agg _ (pures_mem (⟨pure_map encS_p _, pure_map encWrite_p _, trivial⟩)), pure_int _ _, pure_int _ _, trivial⟩))) ⟨congrArg (fun r : Disk × Int × Int => (.tup [.agg [.sl (List.map encS r.1.Sectors), .sl (List.map encWrite r.1.Wait)], .int .i64 r.2.1, .int .i64 r.2.2] : AV)) (Option.some.inj h), rfl⟩
              · replace h := ite_F h hb_31
                refine T.skip ?_
                refine T.seq ?_
                refine T.region ?_
                refine RS.op rfl (OP.q rfl (v_move (v := .int .i64 s4) rfl ?_))
                refine RS.op rfl (OP.q rfl (v_add rfl rfl ?_))
                refine RS.op rfl (OP.q rfl (v_assign (v := .int .i64 (IntKind.i64.wrap (s4 + 1))) rfl ?_))
                refine RS.nil ?_
                obtain ⟨x18, hx18, h⟩ := bind_some h
                refine T.region ?_
                refine RS.op rfl (OP.q rfl (v_move (v := .sl (List.map encChoice s5)) rfl ?_))
                refine RS.op rfl (OP.q rfl (v_move (v := .int .i64 (if ((s5).length : Int) < 29 then ((s5).length : Int) else 29)) rfl ?_))
                refine RS.op rfl (o_slice_sl Ty.s26 (fun _ => rfl) rfl rfl rfl hx18 ?_)
                refine RS.op rfl (OP.q rfl (v_assign (v := .sl (List.map encChoice x18)) rfl ?_))
                refine RS.nil ?_
                exact ⟨(IntKind.i64.wrap (s4 + 1), x18, x17.1.Sectors, x17.1.Wait), (Option.some.inj h).symm, Weak.mkN [] [0, 1] (by decide) (none_kept _) rfl ⟨rn_int rfl, rn_int rfl, rn_sl encChoice_p rfl, rn_ptr rfl, rn_ptr rfl, trivial⟩ (rw_box (cs := [.sl (List.map encS x17.1.Sectors), .sl (List.map encWrite x17.1.Wait)]) (ds := [.sl (List.map encS x17.1.Sectors), .sl (List.map encWrite x17.1.Wait)]) rfl ⟨rn_sl encS_p rfl, rn_sl encWrite_p rfl, trivial⟩ (rw_box (cs := [.nils, .nils]) (ds := [.nils, .nils]) rfl ⟨rn_same pure_nils, rn_same pure_nils, trivial⟩ (rw_nil)))⟩
        · replace h := ite_F h hb_24
          refine T.exit ?_
          obtain ⟨w_34, h, hw_34⟩ := map_inr h
          replace h := h.trans (congrArg some (hv_23 _ hw_34))
          refine T.seq ?_
          refine T.region ?_
          refine RS.op rfl (o_load_ptr rfl rfl (loadRowA Ty.k25 Ty.c25 rfl (cs := [.sl (List.map encS s6), .sl (List.map encWrite s7)]) rfl ?_))
          refine RS.op rfl (OP.q rfl (v_move (v := .int .i64 s4) rfl ?_))
          refine RS.op rfl (o_store_ptr Ty.c25 Ty.i25 rfl (vs := [.sl (List.map encS s6), .sl (List.map encWrite s7)]) rfl rfl rfl rfl (cs' := [.sl (List.map encS s6), .sl (List.map encWrite s7)]) rfl (aw' := [.box [.sl (List.map encS s6), .sl (List.map encWrite s7)], .box [.sl (List.map encS s6), .sl (List.map encWrite s7)]]) rfl ?_)
          refine RS.op rfl (OP.q rfl (v_assign (v := .int .i64 s4) rfl ?_))
          refine RS.op rfl (OP.q rfl (v_assign (v := .int .i64 0) rfl ?_))
          refine RS.nil ?_
          refine T.ret' (R := ?R35) ?hq35 ?_
          case hq35 => repeat (first | exact RetIs.base | refine RetIs.thn ?_ | refine RetIs.blk ?_ | refine RetIs.lq ?_)
          refine res_cellA (id := 1) (off := 0) (cs := [.sl (List.map encS s6), .sl (List.map encWrite s7)]) (v := .agg [.sl (List.map encS s6), .sl (List.map encWrite s7)]) ?_ ?_ ?_ ?_
          · rfl
          · rfl
          · exact fun K h => (loadRowA (row := [.sl (List.map encS s6), .sl (List.map encWrite s7)]) (off := 0) Ty.k25 Ty.c25 rfl (cs := [.sl (List.map encS s6), .sl (List.map encWrite s7)]) rfl h)
          refine res_tmpA (v := .int .i64 s4) rfl ?_
          refine res_tmpA (v := .int .i64 0) rfl ?_
          refine res_done ?_
          exact ret_data (v := .tup [.agg [.sl (List.map encS s6), .sl (List.map encWrite s7)], .int .i64 s4, .int .i64 0]) rfl (pure_tup _ (pures_mem (⟨pure_agg _ (pures_mem (⟨pure_map encS_p _, pure_map encWrite_p _, trivial⟩)), pure_int _ _, pure_int _ _, trivial⟩))) ⟨congrArg (fun r : Disk × Int × Int => (.tup [.agg [.sl (List.map encS r.1.Sectors), .sl (List.map encWrite r.1.Wait)], .int .i64 r.2.1, .int .i64 r.2.2] : AV)) (Option.some.inj h), rfl⟩
    · rcases bool_cases (decide (p1 < 0)) with hb_3 | hb_3
      · refine T.region ?_
        refine RS.op rfl (OP.q rfl (v_move (v := .int .i64 p1) rfl ?_))
        refine RS.op rfl (OP.q rfl (v_lss rfl rfl ?_))
        refine RS.op rfl (OP.q rfl (v_move (v := .bool (decide (p1 < 0))) rfl ?_))
        refine RS.no rfl rfl rfl hb_3 ?_
        refine RS.no rfl rfl rfl hb_3 ?_
        refine RS.op rfl (OP.q rfl (v_pickT (v := .bool true) rfl hb_3 rfl ?_))
        refine RS.op rfl (OP.q rfl (v_move (v := .bool true) rfl ?_))
        refine RS.no rfl rfl rfl rfl ?_
        refine RS.no rfl rfl rfl rfl ?_
        refine RS.op rfl (OP.q rfl (v_pickT (v := .bool true) rfl rfl rfl ?_))
        refine RS.op rfl (OP.q rfl (v_move (v := .bool true) rfl ?_))
        refine RS.no rfl rfl rfl rfl ?_
        refine RS.no rfl rfl rfl rfl ?_
        refine RS.op rfl (OP.q rfl (v_pickT (v := .bool true) rfl rfl rfl ?_))
        refine RS.nil ?_
        exact T.weakR (hK () trivial) (Weak.mkN [] [0, 1] (by decide) (none_kept _) rfl ⟨rn_int rfl, rn_int rfl, rn_sl encChoice_p rfl, rn_ptr rfl, rn_ptr rfl, rn_bool (by simp only [hb_3, Bool.true_or, Bool.or_true, Bool.false_or, Bool.or_false, Bool.true_and, Bool.and_true, Bool.false_and, Bool.and_false, Bool.not_true, Bool.not_false, if_true, if_false, Bool.false_eq_true, reduceIte]), trivial⟩ (rw_box (cs := [.sl (List.map encS p0.Sectors), .sl (List.map encWrite p0.Wait)]) (ds := [.sl (List.map encS p0.Sectors), .sl (List.map encWrite p0.Wait)]) rfl ⟨rn_sl encS_p rfl, rn_sl encWrite_p rfl, trivial⟩ (rw_box (cs := [.nils, .nils]) (ds := [.nils, .nils]) rfl ⟨rn_same pure_nils, rn_same pure_nils, trivial⟩ (rw_nil))))
      · rcases bool_cases (decide (p1 > 200)) with hb_4 | hb_4
        · refine T.region ?_
          refine RS.op rfl (OP.q rfl (v_move (v := .int .i64 p1) rfl ?_))
          refine RS.op rfl (OP.q rfl (v_lss rfl rfl ?_))
          refine RS.op rfl (OP.q rfl (v_move (v := .bool (decide (p1 < 0))) rfl ?_))
          refine RS.yes rfl rfl rfl hb_3 (OP.q rfl (v_move (v := .int .i64 p1) rfl ?_))
          refine RS.yes rfl rfl rfl hb_3 (OP.q rfl (v_gtr rfl rfl ?_))
          refine RS.op rfl (OP.q rfl (v_pickF (v := .bool (decide (p1 > 200))) rfl hb_3 rfl ?_))
          refine RS.op rfl (OP.q rfl (v_move (v := .bool (decide (p1 > 200))) rfl ?_))
          refine RS.no rfl rfl rfl hb_4 ?_
          refine RS.no rfl rfl rfl hb_4 ?_
          refine RS.op rfl (OP.q rfl (v_pickT (v := .bool true) rfl hb_4 rfl ?_))
          refine RS.op rfl (OP.q rfl (v_move (v := .bool true) rfl ?_))
          refine RS.no rfl rfl rfl rfl ?_
          refine RS.no rfl rfl rfl rfl ?_
          refine RS.op rfl (OP.q rfl (v_pickT (v := .bool true) rfl rfl rfl ?_))
          refine RS.nil ?_
          exact T.weakR (hK () trivial) (Weak.mkN [] [0, 1] (by decide) (none_kept _) rfl ⟨rn_int rfl, rn_int rfl, rn_sl encChoice_p rfl, rn_ptr rfl, rn_ptr rfl, rn_bool (by simp only [hb_3, hb_4, Bool.true_or, Bool.or_true, Bool.false_or, Bool.or_false, Bool.true_and, Bool.and_true, Bool.false_and, Bool.and_false, Bool.not_true, Bool.not_false, if_true, if_false, Bool.false_eq_true, reduceIte]), trivial⟩ (rw_box (cs := [.sl (List.map encS p0.Sectors), .sl (List.map encWrite p0.Wait)]) (ds := [.sl (List.map encS p0.Sectors), .sl (List.map encWrite p0.Wait)]) rfl ⟨rn_sl encS_p rfl, rn_sl encWrite_p rfl, trivial⟩ (rw_box (cs := [.nils, .nils]) (ds := [.nils, .nils]) rfl ⟨rn_same pure_nils, rn_same pure_nils, trivial⟩ (rw_nil))))
        · rcases bool_cases (decide (p2 < 0)) with hb_5 | hb_5
          · refine T.region ?_
            refine RS.op rfl (OP.q rfl (v_move (v := .int .i64 p1) rfl ?_))
            refine RS.op rfl (OP.q rfl (v_lss rfl rfl ?_))
            refine RS.op rfl (OP.q rfl (v_move (v := .bool (decide (p1 < 0))) rfl ?_))
            refine RS.yes rfl rfl rfl hb_3 (OP.q rfl (v_move (v := .int .i64 p1) rfl ?_))
            refine RS.yes rfl rfl rfl hb_3 (OP.q rfl (v_gtr rfl rfl ?_))
            refine RS.op rfl (OP.q rfl (v_pickF (v := .bool (decide (p1 > 200))) rfl hb_3 rfl ?_))
            refine RS.op rfl (OP.q rfl (v_move (v := .bool (decide (p1 > 200))) rfl ?_))
            refine RS.yes rfl rfl rfl hb_4 (OP.q rfl (v_move (v := .int .i64 p2) rfl ?_))
            refine RS.yes rfl rfl rfl hb_4 (OP.q rfl (v_lss rfl rfl ?_))
            refine RS.op rfl (OP.q rfl (v_pickF (v := .bool (decide (p2 < 0))) rfl hb_4 rfl ?_))
            refine RS.op rfl (OP.q rfl (v_move (v := .bool (decide (p2 < 0))) rfl ?_))
            refine RS.no rfl rfl rfl hb_5 ?_
            refine RS.no rfl rfl rfl hb_5 ?_
            refine RS.op rfl (OP.q rfl (v_pickT (v := .bool true) rfl hb_5 rfl ?_))
            refine RS.nil ?_
            exact T.weakR (hK () trivial) (Weak.mkN [] [0, 1] (by decide) (none_kept _) rfl ⟨rn_int rfl, rn_int rfl, rn_sl encChoice_p rfl, rn_ptr rfl, rn_ptr rfl, rn_bool (by simp only [hb_3, hb_4, hb_5, Bool.true_or, Bool.or_true, Bool.false_or, Bool.or_false, Bool.true_and, Bool.and_true, Bool.false_and, Bool.and_false, Bool.not_true, Bool.not_false, if_true, if_false, Bool.false_eq_true, reduceIte]), trivial⟩ (rw_box (cs := [.sl (List.map encS p0.Sectors), .sl (List.map encWrite p0.Wait)]) (ds := [.sl (List.map encS p0.Sectors), .sl (List.map encWrite p0.Wait)]) rfl ⟨rn_sl encS_p rfl, rn_sl encWrite_p rfl, trivial⟩ (rw_box (cs := [.nils, .nils]) (ds := [.nils, .nils]) rfl ⟨rn_same pure_nils, rn_same pure_nils, trivial⟩ (rw_nil))))
          · refine T.region ?_
            refine RS.op rfl (OP.q rfl (v_move (v := .int .i64 p1) rfl ?_))
            refine RS.op rfl (OP.q rfl (v_lss rfl rfl ?_))
            refine RS.op rfl (OP.q rfl (v_move (v := .bool (decide (p1 < 0))) rfl ?_))
            refine RS.yes rfl rfl rfl hb_3 (OP.q rfl (v_move (v := .int .i64 p1) rfl ?_))
            refine RS.yes rfl rfl rfl hb_3 (OP.q rfl (v_gtr rfl rfl ?_))
            refine RS.op rfl (OP.q rfl (v_pickF (v := .bool (decide (p1 > 200))) rfl hb_3 rfl ?_))
            refine RS.op rfl (OP.q rfl (v_move (v := .bool (decide (p1 > 200))) rfl ?_))
            refine RS.yes rfl rfl rfl hb_4 (OP.q rfl (v_move (v := .int .i64 p2) rfl ?_))
            refine RS.yes rfl rfl rfl hb_4 (OP.q rfl (v_lss rfl rfl ?_))
            refine RS.op rfl (OP.q rfl (v_pickF (v := .bool (decide (p2 < 0))) rfl hb_4 rfl ?_))
            refine RS.op rfl (OP.q rfl (v_move (v := .bool (decide (p2 < 0))) rfl ?_))
            refine RS.yes rfl rfl rfl hb_5 (OP.q rfl (v_move (v := .int .i64 p2) rfl ?_))
            refine RS.yes rfl rfl rfl hb_5 (OP.q rfl (v_gtr rfl rfl ?_))
            refine RS.op rfl (OP.q rfl (v_pickF (v := .bool (decide (p2 > 80))) rfl hb_5 rfl ?_))
            refine RS.nil ?_
            exact T.weakR (hK () trivial) (Weak.mkN [] [0, 1] (by decide) (none_kept _) rfl ⟨rn_int rfl, rn_int rfl, rn_sl encChoice_p rfl, rn_ptr rfl, rn_ptr rfl, rn_bool (by simp only [hb_3, hb_4, hb_5, Bool.true_or, Bool.or_true, Bool.false_or, Bool.or_false, Bool.true_and, Bool.and_true, Bool.false_and, Bool.and_false, Bool.not_true, Bool.not_false, if_true, if_false, Bool.false_eq_true, reduceIte]), trivial⟩ (rw_box (cs := [.sl (List.map encS p0.Sectors), .sl (List.map encWrite p0.Wait)]) (ds := [.sl (List.map encS p0.Sectors), .sl (List.map encWrite p0.Wait)]) rfl ⟨rn_sl encS_p rfl, rn_sl encWrite_p rfl, trivial⟩ (rw_box (cs := [.nils, .nils]) (ds := [.nils, .nils]) rfl ⟨rn_same pure_nils, rn_same pure_nils, trivial⟩ (rw_nil))))
end Go.Proofs.Ytegkmfokfakeiaa
