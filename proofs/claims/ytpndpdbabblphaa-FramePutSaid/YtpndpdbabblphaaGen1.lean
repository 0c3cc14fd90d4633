/-
  The code computes these functions. Printed by a program of ours (wip/gen.py).
-/
import Derived.Test.YtpndpdbabblphaaOz
import Derived.Test.YtpndpdbabblphaaEnc
import Derived.Test.YtpndpdbabblphaaSh
namespace Go.Proofs.Ytpndpdbabblphaa
open Go.RowKit
set_option linter.unusedVariables false
set_option linter.unusedSimpArgs false
set_option maxRecDepth 100000
theorem frame_sum_c (p0 : List UInt8) (r : Int) (h : frame_sum p0 = some r) : Fn Try.prog 57 [.str p0] (.int .i64 r) := by
  unfold frame_sum at h
  refine fn_of_T (N := 0) rfl Try.func57 rfl (by kernel_rfl) Try.ntmps57 rfl ?_
  show T _ _ _ _ (mkA 29 [(0, .str p0)]) []
  refine T.seq ?_
  refine T.region ?_
  refine RS.op rfl (OP.q rfl (v_assign (v := .int .i64 0) rfl ?_))
  refine RS.nil ?_
  refine T.seq ?_
  refine T.region ?_
  refine RS.op rfl (OP.q rfl (v_assign (v := .int .i64 65535) rfl ?_))
  refine RS.nil ?_
  refine T.seq ?_
  refine T.seq ?_
  refine T.region ?_
  refine RS.op rfl (OP.q rfl (v_move (v := .str p0) rfl ?_))
  refine RS.op rfl (OP.q rfl (v_len_str Try.underlying9 rfl ?_))
  refine RS.op rfl (OP.q rfl (v_move (v := .int .i64 0) rfl ?_))
  refine RS.nil ?_
  refine T.block ?_
  refine T.iter (fun ss_21 : Int × Int => mkA 29 [(0, .str p0), (3, .int .i64 ss_21.1), (6, .int .i64 ((p0).length : Int)), (7, .int .i64 ss_21.2)]) (fun ss_21 => []) h (Weak.mkN [] [] (by decide) (none_kept _) rfl ⟨rn_str rfl, rn_int rfl, rn_int rfl, rn_int rfl, trivial⟩ (rw_nil)) (fun ss_21 v_22 h hv_22 => ?_)
  obtain ⟨s1, s2⟩ := ss_21
  replace h : frame_sum_l2 p0 s1 s2 = some v_22 := h
  show T _ _ _ _ (mkA 29 [(0, .str p0), (3, .int .i64 s1), (6, .int .i64 ((p0).length : Int)), (7, .int .i64 s2)]) []
  unfold frame_sum_l2 at h
  refine T.seq ?_
  refine T.region ?_
  refine RS.op rfl (OP.q rfl (v_lss rfl rfl ?_))
  refine RS.nil ?_
  refine T.seq ?_
  refine T.cond (b := decide (s2 < ((p0).length : Int))) rfl (fun hb_23 => ?_) (fun hb_23 => ?_)
  · replace h := ite_T h hb_23
    refine T.skip ?_
    refine T.seq ?_
    refine T.block ?_
    refine T.seq ?_
    refine T.region ?_
    refine RS.op rfl (OP.q rfl (v_move (v := .int .i64 s2) rfl ?_))
    refine RS.op rfl (OP.q rfl (v_assign (v := .int .i64 s2) rfl ?_))
    refine RS.nil ?_
    refine T.seq ?_
    obtain ⟨x5, hx5, h⟩ := bind_some h
    obtain ⟨x6, hx6, h⟩ := bind_some h
    refine T.region ?_
    refine RS.op rfl (OP.q rfl (v_move (v := .int .i64 s1) rfl ?_))
    refine RS.op rfl (OP.q rfl (v_move (v := .str p0) rfl ?_))
    refine RS.op rfl (OP.q rfl (v_move (v := .int .i64 s2) rfl ?_))
    refine RS.op rfl (OP.q rfl (v_index_str Try.underlying9 rfl rfl hx5 ?_))
    refine RS.op rfl (o_conv Try.underlying5 Try.underlying3 rfl ?_)
    refine RS.op rfl (OP.q rfl (v_shl rfl rfl hx6 ?_))
    refine RS.op rfl (OP.q rfl (v_xor rfl rfl ?_))
    refine RS.op rfl (OP.q rfl (v_assign (v := .int .i64 (ibits .xor .i64 s1 x6)) rfl ?_))
    refine RS.nil ?_
    refine T.seq ?_
    refine T.region ?_
    refine RS.op rfl (OP.q rfl (v_move (v := .int .i64 0) rfl ?_))
    refine RS.nil ?_
    refine T.block ?_
    refine T.iter (fun ss_28 : Int × Int => mkA 29 [(0, .str p0), (3, .int .i64 ss_28.1), (6, .int .i64 ((p0).length : Int)), (7, .int .i64 s2), (17, .int .i64 ss_28.2)]) (fun ss_28 => []) h (Weak.mkN [] [] (by decide) (none_kept _) rfl ⟨rn_str rfl, rn_int rfl, rn_int rfl, rn_int rfl, rn_int rfl, trivial⟩ (rw_nil)) (fun ss_28 v_29 h hv_29 => ?_)
    obtain ⟨s7, s8⟩ := ss_28
    replace h : frame_sum_l1 s2 s7 s8 = some v_29 := h
    show T _ _ _ _ (mkA 29 [(0, .str p0), (3, .int .i64 s7), (6, .int .i64 ((p0).length : Int)), (7, .int .i64 s2), (17, .int .i64 s8)]) []
    unfold frame_sum_l1 at h
    refine T.seq ?_
    refine T.region ?_
    refine RS.op rfl (OP.q rfl (v_lss rfl rfl ?_))
    refine RS.nil ?_
    refine T.seq ?_
    refine T.cond (b := decide (s8 < 8)) rfl (fun hb_30 => ?_) (fun hb_30 => ?_)
    · replace h := ite_T h hb_30
      refine T.skip ?_
      refine T.seq ?_
      refine T.block ?_
      refine T.seq ?_
      obtain ⟨x10, hx10, h⟩ := bind_some h
      refine T.region ?_
      refine RS.op rfl (OP.q rfl (v_move (v := .int .i64 s7) rfl ?_))
      refine RS.op rfl (OP.q rfl (v_shl rfl rfl hx10 ?_))
      refine RS.op rfl (OP.q rfl (v_assign (v := .int .i64 x10) rfl ?_))
      refine RS.nil ?_
      refine T.seq ?_
      refine T.region ?_
      refine RS.op rfl (OP.q rfl (v_move (v := .int .i64 x10) rfl ?_))
      refine RS.op rfl (OP.q rfl (v_and rfl rfl ?_))
      refine RS.op rfl (OP.q rfl (v_neq rfl rfl ?_))
      refine RS.nil ?_
      refine T.cond (b := (ibits .and .i64 x10 65536) != 0) rfl (fun hb_31 => ?_) (fun hb_31 => ?_)
      · replace h := ite_T h hb_31
        refine T.region ?_
        refine RS.op rfl (OP.q rfl (v_move (v := .int .i64 x10) rfl ?_))
        refine RS.op rfl (OP.q rfl (v_xor rfl rfl ?_))
        refine RS.op rfl (OP.q rfl (v_assign (v := .int .i64 (ibits .xor .i64 x10 69665)) rfl ?_))
        refine RS.nil ?_
        refine T.region ?_
        refine RS.op rfl (OP.q rfl (v_add rfl rfl ?_))
        refine RS.op rfl (OP.q rfl (v_move (v := .int .i64 (IntKind.i64.wrap (s8 + 1))) rfl ?_))
        refine RS.nil ?_
        exact ⟨(ibits .xor .i64 x10 69665, IntKind.i64.wrap (s8 + 1)), (Option.some.inj h).symm, Weak.mkN [] [] (by decide) (none_kept _) rfl ⟨rn_str rfl, rn_int rfl, rn_int rfl, rn_int rfl, rn_int rfl, trivial⟩ (rw_nil)⟩
      · replace h := ite_F h hb_31
        refine T.skip ?_
        refine T.region ?_
        refine RS.op rfl (OP.q rfl (v_add rfl rfl ?_))
        refine RS.op rfl (OP.q rfl (v_move (v := .int .i64 (IntKind.i64.wrap (s8 + 1))) rfl ?_))
        refine RS.nil ?_
        exact ⟨(x10, IntKind.i64.wrap (s8 + 1)), (Option.some.inj h).symm, Weak.mkN [] [] (by decide) (none_kept _) rfl ⟨rn_str rfl, rn_int rfl, rn_int rfl, rn_int rfl, rn_int rfl, trivial⟩ (rw_nil)⟩
    · replace h := ite_F h hb_30
      refine T.exit ?_
      obtain ⟨w_32, h, hw_32⟩ := map_inr h
      replace h := h.trans (congrArg some (hv_29 _ hw_32))
      refine T.region ?_
      refine RS.op rfl (OP.q rfl (v_add rfl rfl ?_))
      refine RS.op rfl (OP.q rfl (v_move (v := .int .i64 (IntKind.i64.wrap (s2 + 1))) rfl ?_))
      refine RS.nil ?_
      exact ⟨(s7, IntKind.i64.wrap (s2 + 1)), (Option.some.inj h).symm, Weak.mkN [] [] (by decide) (none_kept _) rfl ⟨rn_str rfl, rn_int rfl, rn_int rfl, rn_int rfl, trivial⟩ (rw_nil)⟩
  · replace h := ite_F h hb_23
    refine T.exit ?_
    obtain ⟨w_33, h, hw_33⟩ := map_inr h
    replace h := h.trans (congrArg some (hv_22 _ hw_33))
    refine T.seq ?_
    refine T.region ?_
    refine RS.op rfl (OP.q rfl (v_move (v := .int .i64 s1) rfl ?_))
    refine RS.op rfl (OP.q rfl (v_assign (v := .int .i64 s1) rfl ?_))
    refine RS.nil ?_
    refine T.ret' (R := ?R34) ?hq34 ?_
    case hq34 => repeat (first | exact RetIs.base | refine RetIs.thn ?_ | refine RetIs.blk ?_ | refine RetIs.lq ?_)
    refine res_tmpA (v := .int .i64 s1) rfl ?_
    refine res_done ?_
    exact ret_data (v := .int .i64 s1) rfl (pure_int _ _) ⟨congrArg (fun r : Int => (.int .i64 r : AV)) (Option.some.inj h), rfl⟩
theorem frame_Put_c (p0 : List UInt8) (r : (List UInt8) × Int) (h : frame_Put p0 = some r) : Fn Try.prog 19 [.str p0] (.tup [.str r.1, .int .i64 r.2]) := by
  unfold frame_Put at h
  refine fn_of_T (N := 0) rfl Try.func19 rfl (by kernel_rfl) Try.ntmps19 rfl ?_
  show T _ _ _ _ (mkA 33 [(0, .str p0)]) []
  refine T.seq ?_
  refine T.region ?_
  refine RS.op rfl (OP.q rfl (v_assign (v := .str []) rfl ?_))
  refine RS.op rfl (OP.q rfl (v_assign (v := .int .i64 0) rfl ?_))
  refine RS.nil ?_
  refine T.seq ?_
  refine T.seq ?_
  refine T.region ?_
  refine RS.op rfl (OP.q rfl (v_move (v := .str p0) rfl ?_))
  refine RS.op rfl (OP.q rfl (v_seql rfl rfl ?_))
  refine RS.nil ?_
  refine T.cond (b := p0 == []) rfl (fun hb_1 => ?_) (fun hb_1 => ?_)
  · replace h := ite_T h hb_1
    refine T.seq ?_
    refine T.region ?_
    refine RS.op rfl (OP.q rfl (v_assign (v := .str []) rfl ?_))
    refine RS.op rfl (OP.q rfl (v_assign (v := .int .i64 4) rfl ?_))
    refine RS.nil ?_
    refine T.ret' (R := ?R2) ?hq2 ?_
    case hq2 => repeat (first | exact RetIs.base | refine RetIs.thn ?_ | refine RetIs.blk ?_ | refine RetIs.lq ?_)
    refine res_tmpA (v := .str []) rfl ?_
    refine res_tmpA (v := .int .i64 4) rfl ?_
    refine res_done ?_
    exact ret_data (v := .tup [.str [], .int .i64 4]) rfl (pure_tup _ (pures_mem (⟨pure_str _, pure_int _ _, trivial⟩))) ⟨congrArg (fun r : (List UInt8) × Int => (.tup [.str r.1, .int .i64 r.2] : AV)) (Option.some.inj h), rfl⟩
  · replace h := ite_F h hb_1
    refine T.skip ?_
    refine T.seq ?_
    refine T.seq ?_
    refine T.region ?_
    refine RS.op rfl (OP.q rfl (v_move (v := .str p0) rfl ?_))
    refine RS.op rfl (OP.q rfl (v_len_str Try.underlying9 rfl ?_))
    refine RS.op rfl (OP.q rfl (v_gtr rfl rfl ?_))
    refine RS.nil ?_
    refine T.cond (b := decide (((p0).length : Int) > 60)) rfl (fun hb_3 => ?_) (fun hb_3 => ?_)
    · replace h := ite_T h hb_3
      refine T.seq ?_
      refine T.region ?_
      refine RS.op rfl (OP.q rfl (v_assign (v := .str []) rfl ?_))
      refine RS.op rfl (OP.q rfl (v_assign (v := .int .i64 2) rfl ?_))
      refine RS.nil ?_
      refine T.ret' (R := ?R4) ?hq4 ?_
      case hq4 => repeat (first | exact RetIs.base | refine RetIs.thn ?_ | refine RetIs.blk ?_ | refine RetIs.lq ?_)
      refine res_tmpA (v := .str []) rfl ?_
      refine res_tmpA (v := .int .i64 2) rfl ?_
      refine res_done ?_
      exact ret_data (v := .tup [.str [], .int .i64 2]) rfl (pure_tup _ (pures_mem (⟨pure_str _, pure_int _ _, trivial⟩))) ⟨congrArg (fun r : (List UInt8) × Int => (.tup [.str r.1, .int .i64 r.2] : AV)) (Option.some.inj h), rfl⟩
    · replace h := ite_F h hb_3
      refine T.skip ?_
      refine T.seq ?_
      obtain ⟨x3, hx3, h⟩ := bind_some h
      obtain ⟨x4, hx4, h⟩ := bind_some h
      refine T.region ?_
      refine RS.op rfl (OP.q rfl (v_move (v := .str p0) rfl ?_))
      refine RS.op rfl (OP.q rfl (v_len_str Try.underlying9 rfl ?_))
      refine RS.op rfl (o_conv Try.underlying3 Try.underlying5 rfl ?_)
      refine RS.op rfl (o_buildSlice (rows := List.map enc8 [IntKind.u8.wrap ((p0).length : Int)]) (vs := [.int .u8 (IntKind.u8.wrap ((p0).length : Int))]) Ty.s67 Ty.z5 rfl rfl rfl rfl rfl (aw' := [.arr 5 1 (List.map enc8 [IntKind.u8.wrap ((p0).length : Int)])]) rfl ?_)
      refine RS.op rfl (o_conv_bytes (xs := [IntKind.u8.wrap ((p0).length : Int)]) Try.underlying67 Try.underlying5 Try.underlying9 rfl rfl ?_)
      refine RS.op rfl (OP.q rfl (v_move (v := .str p0) rfl ?_))
      refine RS.op rfl (OP.q rfl (v_sadd rfl rfl hx3 ?_))
      refine RS.op rfl (o_call (as0 := [.str x3]) (as1 := [.str x3]) (caps := []) (aw1 := [.dead]) rfl rfl rfl (k_flat (v := .int .i64 x4) (frame_sum_c x3 x4 hx4) (⟨pure_str _, trivial⟩) rfl ?_))
      refine RS.op rfl (OP.q rfl (v_assign (v := .int .i64 x4) rfl ?_))
      refine RS.nil ?_
      refine T.seq ?_
      obtain ⟨x8, hx8, h⟩ := bind_some h
      obtain ⟨x9, hx9, h⟩ := bind_some h
      obtain ⟨x10, hx10, h⟩ := bind_some h
      refine T.region ?_
      refine RS.op rfl (OP.q rfl (v_move (v := .str p0) rfl ?_))
      refine RS.op rfl (OP.q rfl (v_len_str Try.underlying9 rfl ?_))
      refine RS.op rfl (o_conv Try.underlying3 Try.underlying5 rfl ?_)
      refine RS.op rfl (o_buildSlice (rows := List.map enc8 [IntKind.u8.wrap ((p0).length : Int)]) (vs := [.int .u8 (IntKind.u8.wrap ((p0).length : Int))]) Ty.s67 Ty.z5 rfl rfl rfl rfl rfl (aw' := [.dead, .arr 5 1 (List.map enc8 [IntKind.u8.wrap ((p0).length : Int)])]) rfl ?_)
      refine RS.op rfl (o_conv_bytes (xs := [IntKind.u8.wrap ((p0).length : Int)]) Try.underlying67 Try.underlying5 Try.underlying9 rfl rfl ?_)
      refine RS.op rfl (OP.q rfl (v_move (v := .str p0) rfl ?_))
      refine RS.op rfl (OP.q rfl (v_sadd rfl rfl hx8 ?_))
      refine RS.op rfl (OP.q rfl (v_move (v := .int .i64 x4) rfl ?_))
      refine RS.op rfl (OP.q rfl (v_shr rfl rfl hx9 ?_))
      refine RS.op rfl (o_conv Try.underlying3 Try.underlying5 rfl ?_)
      refine RS.op rfl (OP.q rfl (v_move (v := .int .i64 x4) rfl ?_))
      refine RS.op rfl (o_conv Try.underlying3 Try.underlying5 rfl ?_)
      refine RS.op rfl (o_buildSlice (rows := List.map enc8 [IntKind.u8.wrap x9, IntKind.u8.wrap x4]) (vs := [.int .u8 (IntKind.u8.wrap x9), .int .u8 (IntKind.u8.wrap x4)]) Ty.s67 Ty.z5 rfl rfl rfl rfl rfl (aw' := [.dead, .dead, .arr 5 1 (List.map enc8 [IntKind.u8.wrap x9, IntKind.u8.wrap x4])]) rfl ?_)
      refine RS.op rfl (o_conv_bytes (xs := [IntKind.u8.wrap x9, IntKind.u8.wrap x4]) Try.underlying67 Try.underlying5 Try.underlying9 rfl rfl ?_)
      refine RS.op rfl (OP.q rfl (v_sadd rfl rfl hx10 ?_))
      refine RS.op rfl (OP.q rfl (v_assign (v := .str x10) rfl ?_))
      refine RS.op rfl (OP.q rfl (v_assign (v := .int .i64 0) rfl ?_))
      refine RS.nil ?_
      refine T.ret' (R := ?R5) ?hq5 ?_
      case hq5 => repeat (first | exact RetIs.base | refine RetIs.thn ?_ | refine RetIs.blk ?_ | refine RetIs.lq ?_)
      refine res_tmpA (v := .str x10) rfl ?_
      refine res_tmpA (v := .int .i64 0) rfl ?_
      refine res_done ?_
      exact ret_data (v := .tup [.str x10, .int .i64 0]) rfl (pure_tup _ (pures_mem (⟨pure_str _, pure_int _ _, trivial⟩))) ⟨congrArg (fun r : (List UInt8) × Int => (.tup [.str r.1, .int .i64 r.2] : AV)) (Option.some.inj h), rfl⟩
theorem frame_Read_c (p0 : List UInt8) (r : (List (List UInt8)) × Int × Int) (h : frame_Read p0 = some r) : FnO Try.prog 20 [.str p0] (.tup [.ref 0, .int .i64 r.2.1, .int .i64 r.2.2]) [.arr 9 1 (List.map encS r.1)] := by
  unfold frame_Read at h
  refine fn_of_T (N := 0) rfl Try.func20 rfl (by kernel_rfl) Try.ntmps20 rfl ?_
  show T _ _ _ _ (mkA 66 [(0, .str p0)]) []
  refine T.seq ?_
  refine T.region ?_
  refine RS.op rfl (OP.q rfl (v_assign (v := .nils) rfl ?_))
  refine RS.op rfl (OP.q rfl (v_assign (v := .int .i64 0) rfl ?_))
  refine RS.op rfl (OP.q rfl (v_assign (v := .int .i64 0) rfl ?_))
  refine RS.nil ?_
  refine T.seq ?_
  refine T.seq ?_
  refine T.region ?_
  refine RS.op rfl (OP.q rfl (v_move (v := .str p0) rfl ?_))
  refine RS.op rfl (OP.q rfl (v_len_str Try.underlying9 rfl ?_))
  refine RS.op rfl (OP.q rfl (v_gtr rfl rfl ?_))
  refine RS.nil ?_
  refine T.cond (b := decide (((p0).length : Int) > 12800)) rfl (fun hb_1 => ?_) (fun hb_1 => ?_)
  · replace h := ite_T h hb_1
    refine T.seq ?_
    refine T.region ?_
    refine RS.op rfl (OP.q rfl (v_assign (v := .nils) rfl ?_))
    refine RS.op rfl (OP.q rfl (v_assign (v := .int .i64 0) rfl ?_))
    refine RS.op rfl (OP.q rfl (v_assign (v := .int .i64 2) rfl ?_))
    refine RS.nil ?_
    refine T.ret' (R := ?R2) ?hq2 ?_
    case hq2 => repeat (first | exact RetIs.base | refine RetIs.thn ?_ | refine RetIs.blk ?_ | refine RetIs.lq ?_)
    refine res_tmpA (v := .nils) rfl ?_
    refine res_tmpA (v := .int .i64 0) rfl ?_
    refine res_tmpA (v := .int .i64 2) rfl ?_
    refine res_done ?_
    exact ret_own (.tup [.ref 0, .int .i64 r.2.1, .int .i64 r.2.2]) [(0, 9, 1)] [0] (by decide) (none_kept _) rfl (rn_tup ⟨rn_ref rfl, rn_int (congrArg (fun r : (List (List UInt8)) × Int × Int => r.2.1) (Option.some.inj h)).symm, rn_int (congrArg (fun r : (List (List UInt8)) × Int × Int => r.2.2) (Option.some.inj h)).symm, trivial⟩) (rw_arr (en := encS) (ys := []) rfl encS_p (congrArg (fun r : (List (List UInt8)) × Int × Int => r.1) (Option.some.inj h)).symm (rw_nil)) ⟨rfl, rfl⟩
  · replace h := ite_F h hb_1
    refine T.skip ?_
    refine T.seq ?_
    refine T.block ?_
    refine T.iter (fun ss_13 : Int × (List (List UInt8)) => mkA 66 [(0, .str p0), (2, .ref 0), (3, .int .i64 ss_13.1)]) (fun ss_13 => [.arr 9 1 (List.map encS ss_13.2)]) h (Weak.mkN [(2, 9, 1)] [0] (by decide) (none_kept _) rfl ⟨rn_str rfl, rn_ref rfl, rn_int rfl, trivial⟩ (rw_arr (en := encS) (ys := []) rfl encS_p rfl (rw_nil))) (fun ss_13 v_14 h hv_14 => ?_)
    obtain ⟨s1, s2⟩ := ss_13
    replace h : frame_Read_l1 p0 s1 s2 = some v_14 := h
    show T _ _ _ _ (mkA 66 [(0, .str p0), (2, .ref 0), (3, .int .i64 s1)]) [.arr 9 1 (List.map encS s2)]
    unfold frame_Read_l1 at h
    refine T.seq ?_
    refine T.seq ?_
    refine T.region ?_
    refine RS.op rfl (OP.q rfl (v_move (v := .int .i64 s1) rfl ?_))
    refine RS.op rfl (OP.q rfl (v_move (v := .str p0) rfl ?_))
    refine RS.op rfl (OP.q rfl (v_len_str Try.underlying9 rfl ?_))
    refine RS.op rfl (OP.q rfl (v_lss rfl rfl ?_))
    refine RS.nil ?_
    refine T.cond (b := decide (s1 < ((p0).length : Int))) rfl (fun hb_15 => ?_) (fun hb_15 => ?_)
    · replace h := ite_T h hb_15
      refine T.skip ?_
      refine T.block ?_
      refine T.seq ?_
      obtain ⟨x4, hx4, h⟩ := bind_some h
      refine T.region ?_
      refine RS.op rfl (OP.q rfl (v_move (v := .str p0) rfl ?_))
      refine RS.op rfl (OP.q rfl (v_move (v := .int .i64 s1) rfl ?_))
      refine RS.op rfl (o_slice_str Try.underlying9 rfl rfl rfl hx4 ?_)
      refine RS.op rfl (OP.q rfl (v_assign (v := .str x4) rfl ?_))
      refine RS.nil ?_
      refine T.seq ?_
      obtain ⟨x6, hx6, h⟩ := bind_some h
      refine T.region ?_
      refine RS.op rfl (OP.q rfl (v_move (v := .str x4) rfl ?_))
      refine RS.op rfl (OP.q rfl (v_index_str Try.underlying9 rfl rfl hx6 ?_))
      refine RS.op rfl (o_conv Try.underlying5 Try.underlying3 rfl ?_)
      refine RS.op rfl (OP.q rfl (v_assign (v := .int .i64 (IntKind.i64.wrap (x6.toNat : Int))) rfl ?_))
      refine RS.nil ?_
      refine T.seq ?_
      refine T.join (Z := Unit) (fun _ => mkA 66 [(0, .str p0), (2, .ref 0), (3, .int .i64 s1), (5, .str x4), (6, .int .i64 (IntKind.i64.wrap (x6.toNat : Int))), (33, .bool ((decide ((IntKind.i64.wrap (x6.toNat : Int)) < 1)) || ((decide ((IntKind.i64.wrap (x6.toNat : Int)) > 60)) || decide (((x4).length : Int) < (IntKind.i64.wrap ((IntKind.i64.wrap (x6.toNat : Int)) + 3))))))]) (fun _ => [.arr 9 1 (List.map encS s2)]) (fun _ => True) (fun _ _ => ?_) (fun hK => ?_)
      · show T _ _ _ _ (mkA 66 [(0, .str p0), (2, .ref 0), (3, .int .i64 s1), (5, .str x4), (6, .int .i64 (IntKind.i64.wrap (x6.toNat : Int))), (33, .bool ((decide ((IntKind.i64.wrap (x6.toNat : Int)) < 1)) || ((decide ((IntKind.i64.wrap (x6.toNat : Int)) > 60)) || decide (((x4).length : Int) < (IntKind.i64.wrap ((IntKind.i64.wrap (x6.toNat : Int)) + 3))))))]) [.arr 9 1 (List.map encS s2)]
        refine T.cond (b := ((decide ((IntKind.i64.wrap (x6.toNat : Int)) < 1)) || ((decide ((IntKind.i64.wrap (x6.toNat : Int)) > 60)) || decide (((x4).length : Int) < (IntKind.i64.wrap ((IntKind.i64.wrap (x6.toNat : Int)) + 3)))))) rfl (fun hb_18 => ?_) (fun hb_18 => ?_)
        · replace h := ite_T h hb_18
          refine T.exit ?_
          obtain ⟨w_19, h, hw_19⟩ := map_inr h
          replace h := h.trans (congrArg some (hv_14 _ hw_19))
          refine T.seq ?_
          refine T.region ?_
          refine RS.op rfl (OP.q rfl (v_move (v := .ref 0) rfl ?_))
          refine RS.op rfl (OP.q rfl (v_move (v := .int .i64 s1) rfl ?_))
          refine RS.op rfl (OP.q rfl (v_assign (v := .ref 0) rfl ?_))
          refine RS.op rfl (OP.q rfl (v_assign (v := .int .i64 s1) rfl ?_))
          refine RS.op rfl (OP.q rfl (v_assign (v := .int .i64 0) rfl ?_))
          refine RS.nil ?_
          refine T.ret' (R := ?R20) ?hq20 ?_
          case hq20 => repeat (first | exact RetIs.base | refine RetIs.thn ?_ | refine RetIs.blk ?_ | refine RetIs.lq ?_)
          refine res_tmpA (v := .ref 0) rfl ?_
          refine res_tmpA (v := .int .i64 s1) rfl ?_
          refine res_tmpA (v := .int .i64 0) rfl ?_
          refine res_done ?_
          exact ret_own (.tup [.ref 0, .int .i64 r.2.1, .int .i64 r.2.2]) [] [0] (by decide) (none_kept _) rfl (rn_tup ⟨rn_ref rfl, rn_int (congrArg (fun r : (List (List UInt8)) × Int × Int => r.2.1) (Option.some.inj h)).symm, rn_int (congrArg (fun r : (List (List UInt8)) × Int × Int => r.2.2) (Option.some.inj h)).symm, trivial⟩) (rw_arr rfl encS_p (congrArg (fun r : (List (List UInt8)) × Int × Int => r.1) (Option.some.inj h)).symm (rw_nil)) ⟨rfl, rfl⟩
        · replace h := ite_F h hb_18
          refine T.skip ?_
          refine T.seq ?_
          obtain ⟨x10, hx10, h⟩ := bind_some h
          obtain ⟨x11, hx11, h⟩ := bind_some h
          refine T.region ?_
          refine RS.op rfl (OP.q rfl (v_move (v := .str x4) rfl ?_))
          refine RS.op rfl (OP.q rfl (v_move (v := .int .i64 (IntKind.i64.wrap (x6.toNat : Int))) rfl ?_))
          refine RS.op rfl (OP.q rfl (v_add rfl rfl ?_))
          refine RS.op rfl (o_slice_str Try.underlying9 rfl rfl rfl hx10 ?_)
          refine RS.op rfl (o_call (as0 := [.str x10]) (as1 := [.str x10]) (caps := []) (aw1 := [.arr 9 1 (List.map encS s2)]) rfl rfl rfl (k_flat (v := .int .i64 x11) (frame_sum_c x10 x11 hx11) (⟨pure_str _, trivial⟩) rfl ?_))
          refine RS.op rfl (OP.q rfl (v_assign (v := .int .i64 x11) rfl ?_))
          refine RS.nil ?_
          refine T.seq ?_
          refine T.seq ?_
          obtain ⟨x15, hx15, h⟩ := bind_some h
          obtain ⟨x16, hx16, h⟩ := bind_some h
          obtain ⟨x17, hx17, h⟩ := bind_some h
          refine T.drawn mixed (k := 14) rfl ?_
          refine RA.t0 (i := 0) (li' := #[true, false, false, false, false, false, false, false, false, false, false, false, false, false]) rfl (by decide +kernel) (by decide +kernel) (by decide +kernel) (by decide +kernel) rfl rfl (v_move (v := .str x4) rfl ?_)
          refine RA.t0 (i := 1) (li' := #[true, true, false, false, false, false, false, false, false, false, false, false, false, false]) rfl (by decide +kernel) (by decide +kernel) (by decide +kernel) (by decide +kernel) rfl rfl (v_move (v := .int .i64 (IntKind.i64.wrap (x6.toNat : Int))) rfl ?_)
          refine RA.t0 (i := 2) (li' := #[true, true, true, false, false, false, false, false, false, false, false, false, false, false]) rfl (by decide +kernel) (by decide +kernel) (by decide +kernel) (by decide +kernel) rfl rfl (v_add rfl rfl ?_)
          refine RA.t0 (i := 3) (li' := #[true, true, true, true, false, false, false, false, false, false, false, false, false, false]) rfl (by decide +kernel) (by decide +kernel) (by decide +kernel) (by decide +kernel) rfl rfl (v_index_str Try.underlying9 rfl rfl hx15 ?_)
          refine RA.t0 (i := 4) (li' := #[true, true, true, true, true, false, false, false, false, false, false, false, false, false]) rfl (by decide +kernel) (by decide +kernel) (by decide +kernel) (by decide +kernel) rfl rfl (v_conv Try.underlying5 Try.underlying3 rfl ?_)
          refine RA.t0 (i := 5) (li' := #[true, true, true, true, true, true, false, false, false, false, false, false, false, false]) rfl (by decide +kernel) (by decide +kernel) (by decide +kernel) (by decide +kernel) rfl rfl (v_shl rfl rfl hx16 ?_)
          refine RA.t0 (i := 6) (li' := #[true, true, true, true, true, true, true, false, false, false, false, false, false, false]) rfl (by decide +kernel) (by decide +kernel) (by decide +kernel) (by decide +kernel) rfl rfl (v_move (v := .str x4) rfl ?_)
          refine RA.t0 (i := 7) (li' := #[true, true, true, true, true, true, true, true, false, false, false, false, false, false]) rfl (by decide +kernel) (by decide +kernel) (by decide +kernel) (by decide +kernel) rfl rfl (v_move (v := .int .i64 (IntKind.i64.wrap (x6.toNat : Int))) rfl ?_)
          refine RA.t0 (i := 8) (li' := #[true, true, true, true, true, true, true, true, true, false, false, false, false, false]) rfl (by decide +kernel) (by decide +kernel) (by decide +kernel) (by decide +kernel) rfl rfl (v_add rfl rfl ?_)
          refine RA.t0 (i := 9) (li' := #[true, true, true, true, true, true, true, true, true, true, false, false, false, false]) rfl (by decide +kernel) (by decide +kernel) (by decide +kernel) (by decide +kernel) rfl rfl (v_index_str Try.underlying9 rfl rfl hx17 ?_)
          refine RA.t0 (i := 10) (li' := #[true, true, true, true, true, true, true, true, true, true, true, false, false, false]) rfl (by decide +kernel) (by decide +kernel) (by decide +kernel) (by decide +kernel) rfl rfl (v_conv Try.underlying5 Try.underlying3 rfl ?_)
          refine RA.t0 (i := 11) (li' := #[true, true, true, true, true, true, true, true, true, true, true, true, false, false]) rfl (by decide +kernel) (by decide +kernel) (by decide +kernel) (by decide +kernel) rfl rfl (v_or rfl rfl ?_)
          refine RA.t0 (i := 12) (li' := #[true, true, true, true, true, true, true, true, true, true, true, true, true, false]) rfl (by decide +kernel) (by decide +kernel) (by decide +kernel) (by decide +kernel) rfl rfl (v_move (v := .int .i64 x11) rfl ?_)
          refine RA.t0 (i := 13) (li' := #[true, true, true, true, true, true, true, true, true, true, true, true, true, true]) rfl (by decide +kernel) (by decide +kernel) (by decide +kernel) (by decide +kernel) rfl rfl (v_neq rfl rfl ?_)
          refine RA.done (by decide +kernel) ?_
          refine T.cond (b := (ibits .or .i64 x16 (IntKind.i64.wrap (x17.toNat : Int))) != x11) rfl (fun hb_21 => ?_) (fun hb_21 => ?_)
          · replace h := ite_T h hb_21
            refine T.exit ?_
            obtain ⟨w_22, h, hw_22⟩ := map_inr h
            replace h := h.trans (congrArg some (hv_14 _ hw_22))
            refine T.seq ?_
            refine T.region ?_
            refine RS.op rfl (OP.q rfl (v_move (v := .ref 0) rfl ?_))
            refine RS.op rfl (OP.q rfl (v_move (v := .int .i64 s1) rfl ?_))
            refine RS.op rfl (OP.q rfl (v_assign (v := .ref 0) rfl ?_))
            refine RS.op rfl (OP.q rfl (v_assign (v := .int .i64 s1) rfl ?_))
            refine RS.op rfl (OP.q rfl (v_assign (v := .int .i64 0) rfl ?_))
            refine RS.nil ?_
            refine T.ret' (R := ?R23) ?hq23 ?_
            case hq23 => repeat (first | exact RetIs.base | refine RetIs.thn ?_ | refine RetIs.blk ?_ | refine RetIs.lq ?_)
            refine res_tmpA (v := .ref 0) rfl ?_
            refine res_tmpA (v := .int .i64 s1) rfl ?_
            refine res_tmpA (v := .int .i64 0) rfl ?_
            refine res_done ?_
            exact ret_own (.tup [.ref 0, .int .i64 r.2.1, .int .i64 r.2.2]) [] [0] (by decide) (none_kept _) rfl (rn_tup ⟨rn_ref rfl, rn_int (congrArg (fun r : (List (List UInt8)) × Int × Int => r.2.1) (Option.some.inj h)).symm, rn_int (congrArg (fun r : (List (List UInt8)) × Int × Int => r.2.2) (Option.some.inj h)).symm, trivial⟩) (rw_arr rfl encS_p (congrArg (fun r : (List (List UInt8)) × Int × Int => r.1) (Option.some.inj h)).symm (rw_nil)) ⟨rfl, rfl⟩
          · replace h := ite_F h hb_21
            refine T.skip ?_
            refine T.seq ?_
            obtain ⟨x20, hx20, h⟩ := bind_some h
            obtain ⟨x21, hx21, h⟩ := bind_some h
            refine T.region ?_
            refine RS.op rfl (OP.q rfl (v_move (v := .ref 0) rfl ?_))
            refine RS.op rfl (OP.q rfl (v_move (v := .str x4) rfl ?_))
            refine RS.op rfl (OP.q rfl (v_move (v := .int .i64 (IntKind.i64.wrap (x6.toNat : Int))) rfl ?_))
            refine RS.op rfl (OP.q rfl (v_add rfl rfl ?_))
            refine RS.op rfl (o_slice_str Try.underlying9 rfl rfl rfl hx20 ?_)
            refine RS.op rfl (o_buildSlice (rows := List.map encS [x20]) (vs := [.str x20]) Ty.s29 Ty.z9 rfl rfl rfl rfl rfl (aw' := [.arr 9 1 (List.map encS s2), .arr 9 1 (List.map encS [x20])]) rfl ?_)
            refine RS.op rfl (o_app_ref (en := encS) (xs := s2) (ys := ([x20] : List (List UInt8))) Ty.s29 (fun _ => rfl) rfl rfl rfl hx21 rfl (aw' := [.dead, .dead, .arr 9 1 (List.map encS x21)]) rfl ?_)
            refine RS.op rfl (OP.q rfl (v_assign (v := .ref 2) rfl ?_))
            refine RS.nil ?_
            refine T.region ?_
            refine RS.op rfl (OP.q rfl (v_move (v := .int .i64 s1) rfl ?_))
            refine RS.op rfl (OP.q rfl (v_move (v := .int .i64 (IntKind.i64.wrap (x6.toNat : Int))) rfl ?_))
            refine RS.op rfl (OP.q rfl (v_add rfl rfl ?_))
            refine RS.op rfl (OP.q rfl (v_add rfl rfl ?_))
            refine RS.op rfl (OP.q rfl (v_assign (v := .int .i64 (IntKind.i64.wrap (s1 + (IntKind.i64.wrap ((IntKind.i64.wrap (x6.toNat : Int)) + 3))))) rfl ?_))
            refine RS.nil ?_
            exact ⟨(IntKind.i64.wrap (s1 + (IntKind.i64.wrap ((IntKind.i64.wrap (x6.toNat : Int)) + 3))), x21), (Option.some.inj h).symm, Weak.mkN [] [2] (by decide) (none_kept _) rfl ⟨rn_str rfl, rn_ref rfl, rn_int rfl, trivial⟩ (rw_arr rfl encS_p rfl (rw_nil))⟩
      · rcases bool_cases (decide ((IntKind.i64.wrap (x6.toNat : Int)) < 1)) with hb_16 | hb_16
        · refine T.region ?_
          refine RS.op rfl (OP.q rfl (v_move (v := .int .i64 (IntKind.i64.wrap (x6.toNat : Int))) rfl ?_))
          refine RS.op rfl (OP.q rfl (v_lss rfl rfl ?_))
          refine RS.op rfl (OP.q rfl (v_move (v := .bool (decide ((IntKind.i64.wrap (x6.toNat : Int)) < 1))) rfl ?_))
          refine RS.no rfl rfl rfl hb_16 ?_
          refine RS.no rfl rfl rfl hb_16 ?_
          refine RS.op rfl (OP.q rfl (v_pickT (v := .bool true) rfl hb_16 rfl ?_))
          refine RS.op rfl (OP.q rfl (v_move (v := .bool true) rfl ?_))
          refine RS.no rfl rfl rfl rfl ?_
          refine RS.no rfl rfl rfl rfl ?_
          refine RS.no rfl rfl rfl rfl ?_
          refine RS.no rfl rfl rfl rfl ?_
          refine RS.no rfl rfl rfl rfl ?_
          refine RS.op rfl (OP.q rfl (v_pickT (v := .bool true) rfl rfl rfl ?_))
          refine RS.nil ?_
          exact T.weakR (hK () trivial) (Weak.mkN [] [0] (by decide) (none_kept _) rfl ⟨rn_str rfl, rn_ref rfl, rn_int rfl, rn_str rfl, rn_int rfl, rn_bool (by simp only [hb_16, Bool.true_or, Bool.or_true, Bool.false_or, Bool.or_false, Bool.true_and, Bool.and_true, Bool.false_and, Bool.and_false, Bool.not_true, Bool.not_false, if_true, if_false, Bool.false_eq_true, reduceIte]), trivial⟩ (rw_arr rfl encS_p rfl (rw_nil)))
        · rcases bool_cases (decide ((IntKind.i64.wrap (x6.toNat : Int)) > 60)) with hb_17 | hb_17
          · refine T.region ?_
            refine RS.op rfl (OP.q rfl (v_move (v := .int .i64 (IntKind.i64.wrap (x6.toNat : Int))) rfl ?_))
            refine RS.op rfl (OP.q rfl (v_lss rfl rfl ?_))
            refine RS.op rfl (OP.q rfl (v_move (v := .bool (decide ((IntKind.i64.wrap (x6.toNat : Int)) < 1))) rfl ?_))
            refine RS.yes rfl rfl rfl hb_16 (OP.q rfl (v_move (v := .int .i64 (IntKind.i64.wrap (x6.toNat : Int))) rfl ?_))
            refine RS.yes rfl rfl rfl hb_16 (OP.q rfl (v_gtr rfl rfl ?_))
            refine RS.op rfl (OP.q rfl (v_pickF (v := .bool (decide ((IntKind.i64.wrap (x6.toNat : Int)) > 60))) rfl hb_16 rfl ?_))
            refine RS.op rfl (OP.q rfl (v_move (v := .bool (decide ((IntKind.i64.wrap (x6.toNat : Int)) > 60))) rfl ?_))
            refine RS.no rfl rfl rfl hb_17 ?_
            refine RS.no rfl rfl rfl hb_17 ?_
            refine RS.no rfl rfl rfl hb_17 ?_
            refine RS.no rfl rfl rfl hb_17 ?_
            refine RS.no rfl rfl rfl hb_17 ?_
            refine RS.op rfl (OP.q rfl (v_pickT (v := .bool true) rfl hb_17 rfl ?_))
            refine RS.nil ?_
            exact T.weakR (hK () trivial) (Weak.mkN [] [0] (by decide) (none_kept _) rfl ⟨rn_str rfl, rn_ref rfl, rn_int rfl, rn_str rfl, rn_int rfl, rn_bool (by simp only [hb_16, hb_17, Bool.true_or, Bool.or_true, Bool.false_or, Bool.or_false, Bool.true_and, Bool.and_true, Bool.false_and, Bool.and_false, Bool.not_true, Bool.not_false, if_true, if_false, Bool.false_eq_true, reduceIte]), trivial⟩ (rw_arr rfl encS_p rfl (rw_nil)))
          · refine T.region ?_
            refine RS.op rfl (OP.q rfl (v_move (v := .int .i64 (IntKind.i64.wrap (x6.toNat : Int))) rfl ?_))
            refine RS.op rfl (OP.q rfl (v_lss rfl rfl ?_))
            refine RS.op rfl (OP.q rfl (v_move (v := .bool (decide ((IntKind.i64.wrap (x6.toNat : Int)) < 1))) rfl ?_))
            refine RS.yes rfl rfl rfl hb_16 (OP.q rfl (v_move (v := .int .i64 (IntKind.i64.wrap (x6.toNat : Int))) rfl ?_))
            refine RS.yes rfl rfl rfl hb_16 (OP.q rfl (v_gtr rfl rfl ?_))
            refine RS.op rfl (OP.q rfl (v_pickF (v := .bool (decide ((IntKind.i64.wrap (x6.toNat : Int)) > 60))) rfl hb_16 rfl ?_))
            refine RS.op rfl (OP.q rfl (v_move (v := .bool (decide ((IntKind.i64.wrap (x6.toNat : Int)) > 60))) rfl ?_))
            refine RS.yes rfl rfl rfl hb_17 (OP.q rfl (v_move (v := .str x4) rfl ?_))
            refine RS.yes rfl rfl rfl hb_17 (OP.q rfl (v_len_str Try.underlying9 rfl ?_))
            refine RS.yes rfl rfl rfl hb_17 (OP.q rfl (v_move (v := .int .i64 (IntKind.i64.wrap (x6.toNat : Int))) rfl ?_))
            refine RS.yes rfl rfl rfl hb_17 (OP.q rfl (v_add rfl rfl ?_))
            refine RS.yes rfl rfl rfl hb_17 (OP.q rfl (v_lss rfl rfl ?_))
            refine RS.op rfl (OP.q rfl (v_pickF (v := .bool (decide (((x4).length : Int) < (IntKind.i64.wrap ((IntKind.i64.wrap (x6.toNat : Int)) + 3))))) rfl hb_17 rfl ?_))
            refine RS.nil ?_
            exact T.weakR (hK () trivial) (Weak.mkN [] [0] (by decide) (none_kept _) rfl ⟨rn_str rfl, rn_ref rfl, rn_int rfl, rn_str rfl, rn_int rfl, rn_bool (by simp only [hb_16, hb_17, Bool.true_or, Bool.or_true, Bool.false_or, Bool.or_false, Bool.true_and, Bool.and_true, Bool.false_and, Bool.and_false, Bool.not_true, Bool.not_false, if_true, if_false, Bool.false_eq_true, reduceIte]), trivial⟩ (rw_arr rfl encS_p rfl (rw_nil)))
    · replace h := ite_F h hb_15
      refine T.exit ?_
      obtain ⟨w_24, h, hw_24⟩ := map_inr h
      replace h := h.trans (congrArg some (hv_14 _ hw_24))
      refine T.seq ?_
      refine T.region ?_
      refine RS.op rfl (OP.q rfl (v_move (v := .ref 0) rfl ?_))
      refine RS.op rfl (OP.q rfl (v_move (v := .int .i64 s1) rfl ?_))
      refine RS.op rfl (OP.q rfl (v_assign (v := .ref 0) rfl ?_))
      refine RS.op rfl (OP.q rfl (v_assign (v := .int .i64 s1) rfl ?_))
      refine RS.op rfl (OP.q rfl (v_assign (v := .int .i64 0) rfl ?_))
      refine RS.nil ?_
      refine T.ret' (R := ?R25) ?hq25 ?_
      case hq25 => repeat (first | exact RetIs.base | refine RetIs.thn ?_ | refine RetIs.blk ?_ | refine RetIs.lq ?_)
      refine res_tmpA (v := .ref 0) rfl ?_
      refine res_tmpA (v := .int .i64 s1) rfl ?_
      refine res_tmpA (v := .int .i64 0) rfl ?_
      refine res_done ?_
      exact ret_own (.tup [.ref 0, .int .i64 r.2.1, .int .i64 r.2.2]) [] [0] (by decide) (none_kept _) rfl (rn_tup ⟨rn_ref rfl, rn_int (congrArg (fun r : (List (List UInt8)) × Int × Int => r.2.1) (Option.some.inj h)).symm, rn_int (congrArg (fun r : (List (List UInt8)) × Int × Int => r.2.2) (Option.some.inj h)).symm, trivial⟩) (rw_arr rfl encS_p (congrArg (fun r : (List (List UInt8)) × Int × Int => r.1) (Option.some.inj h)).symm (rw_nil)) ⟨rfl, rfl⟩
theorem slices_Equal_string_c (p0 : List (List UInt8)) (p1 : List (List UInt8)) (r : Bool) (h : slices_Equal_string p0 p1 = some r) : Fn Try.prog 24 [.sl (List.map encS p0), .sl (List.map encS p1)] (.bool r) := by
  unfold slices_Equal_string at h
  refine fn_of_T (N := 0) rfl Try.func24 rfl (by kernel_rfl) Try.ntmps24 rfl ?_
  show T _ _ _ _ (mkA 26 [(0, .sl (List.map encS p0)), (1, .sl (List.map encS p1))]) []
  refine T.seq ?_
  refine T.region ?_
  refine RS.op rfl (OP.q rfl (v_assign (v := .bool false) rfl ?_))
  refine RS.nil ?_
  refine T.seq ?_
  refine T.seq ?_
  refine T.region ?_
  refine RS.op rfl (OP.q rfl (v_move (v := .sl (List.map encS p0)) rfl ?_))
  refine RS.op rfl (OP.q rfl (v_len_sl Ty.s29 rfl ?_))
  refine RS.op rfl (OP.q rfl (v_move (v := .sl (List.map encS p1)) rfl ?_))
  refine RS.op rfl (OP.q rfl (v_len_sl Ty.s29 rfl ?_))
  refine RS.op rfl (OP.q rfl (v_neq rfl rfl ?_))
  refine RS.nil ?_
  refine T.cond (b := ((p0).length : Int) != ((p1).length : Int)) rfl (fun hb_1 => ?_) (fun hb_1 => ?_)
  · replace h := ite_T h hb_1
    refine T.seq ?_
    refine T.region ?_
    refine RS.op rfl (OP.q rfl (v_assign (v := .bool false) rfl ?_))
    refine RS.nil ?_
    refine T.ret' (R := ?R2) ?hq2 ?_
    case hq2 => repeat (first | exact RetIs.base | refine RetIs.thn ?_ | refine RetIs.blk ?_ | refine RetIs.lq ?_)
    refine res_tmpA (v := .bool false) rfl ?_
    refine res_done ?_
    exact ret_data (v := .bool false) rfl (pure_bool _) ⟨congrArg (fun r : Bool => (.bool r : AV)) (Option.some.inj h), rfl⟩
  · replace h := ite_F h hb_1
    refine T.skip ?_
    refine T.seq ?_
    refine T.seq ?_
    refine T.region ?_
    refine RS.op rfl (OP.q rfl (v_move (v := .sl (List.map encS p0)) rfl ?_))
    refine RS.op rfl (OP.q rfl (v_len_sl Ty.s29 rfl ?_))
    refine RS.op rfl (OP.q rfl (v_move (v := .int .i64 0) rfl ?_))
    refine RS.nil ?_
    refine T.block ?_
    refine T.iter (fun ss_11 : Int => mkA 26 [(0, .sl (List.map encS p0)), (1, .sl (List.map encS p1)), (12, .int .i64 ((p0).length : Int)), (13, .int .i64 ss_11)]) (fun ss_11 => []) h (Weak.mkN [] [] (by decide) (none_kept _) rfl ⟨rn_sl encS_p rfl, rn_sl encS_p rfl, rn_int rfl, rn_int rfl, trivial⟩ (rw_nil)) (fun ss_11 v_12 h hv_12 => ?_)
    revert hv_12 h; revert ss_11; intro s1 h hv_12
    replace h : slices_Equal_string_l1 p0 p1 s1 = some v_12 := h
    show T _ _ _ _ (mkA 26 [(0, .sl (List.map encS p0)), (1, .sl (List.map encS p1)), (12, .int .i64 ((p0).length : Int)), (13, .int .i64 s1)]) []
    unfold slices_Equal_string_l1 at h
    refine T.seq ?_
    refine T.region ?_
    refine RS.op rfl (OP.q rfl (v_lss rfl rfl ?_))
    refine RS.nil ?_
    refine T.seq ?_
    refine T.cond (b := decide (s1 < ((p0).length : Int))) rfl (fun hb_13 => ?_) (fun hb_13 => ?_)
    · replace h := ite_T h hb_13
      refine T.skip ?_
      refine T.seq ?_
      refine T.block ?_
      refine T.seq ?_
      refine T.region ?_
      refine RS.op rfl (OP.q rfl (v_move (v := .int .i64 s1) rfl ?_))
      refine RS.op rfl (OP.q rfl (v_assign (v := .int .i64 s1) rfl ?_))
      refine RS.nil ?_
      refine T.seq ?_
      obtain ⟨x4, hx4, h⟩ := bind_some h
      obtain ⟨x5, hx5, h⟩ := bind_some h
      refine T.drawn mixed (k := 9) rfl ?_
      refine RA.join 0 #[true, true, true, true, true, true, true, true, true] (mkA 26 [(0, .sl (List.map encS p0)), (1, .sl (List.map encS p1)), (5, .int .i64 s1), (12, .int .i64 ((p0).length : Int)), (13, .int .i64 s1), (14, .bool (decide (s1 < ((p0).length : Int)))), (15, .int .i64 s1), (16, .sl (List.map encS p0)), (17, .int .i64 s1), (18, .elt (encS x4) 0), (19, .str x4), (20, .sl (List.map encS p1)), (21, .int .i64 s1), (22, .elt (encS x5) 0), (23, .str x5), (24, .bool (!(x4 == x5)))]) [] ?_ (fun hS14 => ?_)
      · refine RA.done (by decide +kernel) ?_
        refine T.cond (b := !(x4 == x5)) rfl (fun hb_15 => ?_) (fun hb_15 => ?_)
        · replace h := ite_T h hb_15
          refine T.seq ?_
          refine T.region ?_
          refine RS.op rfl (OP.q rfl (v_assign (v := .bool false) rfl ?_))
          refine RS.nil ?_
          refine T.ret' (R := ?R16) ?hq16 ?_
          case hq16 => repeat (first | exact RetIs.base | refine RetIs.thn ?_ | refine RetIs.blk ?_ | refine RetIs.lq ?_)
          obtain ⟨w_17, h, hw_17⟩ := map_inr h
          replace h := h.trans (congrArg some (hv_12 _ hw_17))
          refine res_tmpA (v := .bool false) rfl ?_
          refine res_done ?_
          exact ret_data (v := .bool false) rfl (pure_bool _) ⟨congrArg (fun r : Bool => (.bool r : AV)) (Option.some.inj h), rfl⟩
        · replace h := ite_F h hb_15
          refine T.skip ?_
          refine T.region ?_
          refine RS.op rfl (OP.q rfl (v_add rfl rfl ?_))
          refine RS.op rfl (OP.q rfl (v_move (v := .int .i64 (IntKind.i64.wrap (s1 + 1))) rfl ?_))
          refine RS.nil ?_
          exact ⟨IntKind.i64.wrap (s1 + 1), (Option.some.inj h).symm, Weak.mkN [] [] (by decide) (none_kept _) rfl ⟨rn_sl encS_p rfl, rn_sl encS_p rfl, rn_int rfl, rn_int rfl, trivial⟩ (rw_nil)⟩
      · refine RA.t0 (i := 0) (li' := #[true, false, false, false, false, false, false, false, false]) rfl (by decide +kernel) (by decide +kernel) (by decide +kernel) (by decide +kernel) rfl rfl (v_move (v := .sl (List.map encS p0)) rfl ?_)
        refine RA.t0 (i := 1) (li' := #[true, true, false, false, false, false, false, false, false]) rfl (by decide +kernel) (by decide +kernel) (by decide +kernel) (by decide +kernel) rfl rfl (v_move (v := .int .i64 s1) rfl ?_)
        refine RA.t0 (i := 2) (li' := #[true, true, true, false, false, false, false, false, false]) rfl (by decide +kernel) (by decide +kernel) (by decide +kernel) (by decide +kernel) rfl rfl (v_index_sl Ty.s29 (fun _ => rfl) rfl rfl hx4 ?_)
        refine RA.t0 (i := 4) (li' := #[true, true, true, false, true, false, false, false, false]) rfl (by decide +kernel) (by decide +kernel) (by decide +kernel) (by decide +kernel) rfl rfl (v_move (v := .sl (List.map encS p1)) rfl ?_)
        refine RA.t0 (i := 5) (li' := #[true, true, true, false, true, true, false, false, false]) rfl (by decide +kernel) (by decide +kernel) (by decide +kernel) (by decide +kernel) rfl rfl (v_move (v := .int .i64 s1) rfl ?_)
        refine RA.t0 (i := 6) (li' := #[true, true, true, false, true, true, true, false, false]) rfl (by decide +kernel) (by decide +kernel) (by decide +kernel) (by decide +kernel) rfl rfl (v_index_sl Ty.s29 (fun _ => rfl) rfl rfl hx5 ?_)
        refine RA.a2 (i1 := 3) (l1 := #[true, true, true, true, true, true, true, false, false]) (i2 := 7) (l2 := #[true, true, true, false, true, true, true, true, false]) (by decide +kernel) (by decide +kernel) (by decide +kernel) ?_ ?_
        · refine RO.op rfl rfl (o_load_elt rfl (loadRow1 Ty.k9 (c := .str x4) rfl ?_))
          refine RA.a1 (i1 := 7) (l1 := #[true, true, true, true, true, true, true, true, false]) (by decide +kernel) (by decide +kernel) ?_
          refine RO.op rfl rfl (o_load_elt rfl (loadRow1 Ty.k9 (c := .str x5) rfl ?_))
          refine RA.t0 (i := 8) (li' := #[true, true, true, true, true, true, true, true, true]) rfl (by decide +kernel) (by decide +kernel) (by decide +kernel) (by decide +kernel) rfl rfl (v_sneq rfl rfl ?_)
          exact RA.weakR hS14 (Weak.mkN [] [] (by decide) (none_kept _) rfl ⟨rn_sl encS_p rfl, rn_sl encS_p rfl, rn_int rfl, rn_int rfl, rn_int rfl, rn_bool rfl, rn_int rfl, rn_sl encS_p rfl, rn_int rfl, rn_elt (encS_p _) (congrArg encS rfl), rn_str rfl, rn_sl encS_p rfl, rn_int rfl, rn_elt (encS_p _) (congrArg encS rfl), rn_str rfl, rn_bool rfl, trivial⟩ (rw_nil))
        · refine RO.op rfl rfl (o_load_elt rfl (loadRow1 Ty.k9 (c := .str x5) rfl ?_))
          refine RA.a1 (i1 := 3) (l1 := #[true, true, true, true, true, true, true, true, false]) (by decide +kernel) (by decide +kernel) ?_
          refine RO.op rfl rfl (o_load_elt rfl (loadRow1 Ty.k9 (c := .str x4) rfl ?_))
          refine RA.t0 (i := 8) (li' := #[true, true, true, true, true, true, true, true, true]) rfl (by decide +kernel) (by decide +kernel) (by decide +kernel) (by decide +kernel) rfl rfl (v_sneq rfl rfl ?_)
          exact RA.weakR hS14 (Weak.mkN [] [] (by decide) (none_kept _) rfl ⟨rn_sl encS_p rfl, rn_sl encS_p rfl, rn_int rfl, rn_int rfl, rn_int rfl, rn_bool rfl, rn_int rfl, rn_sl encS_p rfl, rn_int rfl, rn_elt (encS_p _) (congrArg encS rfl), rn_str rfl, rn_sl encS_p rfl, rn_int rfl, rn_elt (encS_p _) (congrArg encS rfl), rn_str rfl, rn_bool rfl, trivial⟩ (rw_nil))
    · replace h := ite_F h hb_13
      refine T.exit ?_
      obtain ⟨w_18, h, hw_18⟩ := map_inr h
      replace h := h.trans (congrArg some (hv_12 _ hw_18))
      refine T.seq ?_
      refine T.region ?_
      refine RS.op rfl (OP.q rfl (v_assign (v := .bool true) rfl ?_))
      refine RS.nil ?_
      refine T.ret' (R := ?R19) ?hq19 ?_
      case hq19 => repeat (first | exact RetIs.base | refine RetIs.thn ?_ | refine RetIs.blk ?_ | refine RetIs.lq ?_)
      refine res_tmpA (v := .bool true) rfl ?_
      refine res_done ?_
      exact ret_data (v := .bool true) rfl (pure_bool _) ⟨congrArg (fun r : Bool => (.bool r : AV)) (Option.some.inj h), rfl⟩
theorem crosslaw_framed_c (r : Bool) (h : crosslaw_framed = some r) : Fn Try.prog 21 [] (.bool r) := by
  unfold crosslaw_framed at h
  refine fn_of_T (N := 0) rfl Try.func21 rfl (by kernel_rfl) Try.ntmps21 rfl ?_
  show T _ _ _ _ (mkA 42 []) []
  refine T.seq ?_
  refine T.region ?_
  refine RS.op rfl (OP.q rfl (v_assign (v := .bool false) rfl ?_))
  refine RS.nil ?_
  refine T.seq ?_
  obtain ⟨x2, hx2, h⟩ := bind_some h
  refine T.region ?_
  refine RS.op rfl (o_call (as0 := [.str [49, 50, 51, 52, 53, 54, 55, 56]]) (as1 := [.str ([49, 50, 51, 52, 53, 54, 55, 56] : List UInt8)]) (caps := []) (aw1 := []) rfl rfl rfl (k_flat (v := .tup [.str x2.1, .int .i64 x2.2]) (frame_Put_c ([49, 50, 51, 52, 53, 54, 55, 56] : List UInt8) x2 hx2) (⟨pure_str _, trivial⟩) rfl ?_))
  refine RS.op rfl (OP.q rfl (v_move (v := .tup [.str x2.1, .int .i64 x2.2]) rfl ?_))
  refine RS.op rfl (OP.q rfl (v_extract (v := .str x2.1) rfl rfl ?_))
  refine RS.op rfl (OP.q rfl (v_extract (v := .int .i64 x2.2) rfl rfl ?_))
  refine RS.op rfl (OP.q rfl (v_assign (v := .str x2.1) rfl ?_))
  refine RS.op rfl (OP.q rfl (v_assign (v := .int .i64 x2.2) rfl ?_))
  refine RS.nil ?_
  refine T.seq ?_
  obtain ⟨x5, hx5, h⟩ := bind_some h
  obtain ⟨x6, hx6, h⟩ := bind_some h
  refine T.region ?_
  refine RS.op rfl (OP.q rfl (v_move (v := .str x2.1) rfl ?_))
  refine RS.op rfl (OP.q rfl (v_sadd rfl rfl hx5 ?_))
  refine RS.op rfl (o_call (as0 := [.str x5]) (as1 := [.str x5]) (caps := []) (aw1 := []) rfl rfl rfl (k_own' (v := .tup [.ref 0, .int .i64 x6.2.1, .int .i64 x6.2.2]) (obs := [.arr 9 1 (List.map encS x6.1)]) (v' := .tup [.ref 0, .int .i64 x6.2.1, .int .i64 x6.2.2]) (aw' := [.arr 9 1 (List.map encS x6.1)]) (frame_Read_c x5 x6 hx6) (⟨pure_str _, trivial⟩) rfl (obs_cons (flatOb_map fun _ => rfl) obs_nil) rfl rfl ?_))
  refine RS.op rfl (OP.q rfl (v_move (v := .tup [.ref 0, .int .i64 x6.2.1, .int .i64 x6.2.2]) rfl ?_))
  refine RS.op rfl (OP.q rfl (v_extract (v := .ref 0) rfl rfl ?_))
  refine RS.op rfl (OP.q rfl (v_extract (v := .int .i64 x6.2.1) rfl rfl ?_))
  refine RS.op rfl (OP.q rfl (v_extract (v := .int .i64 x6.2.2) rfl rfl ?_))
  refine RS.op rfl (OP.q rfl (v_assign (v := .ref 0) rfl ?_))
  refine RS.op rfl (OP.q rfl (v_assign (v := .int .i64 x6.2.1) rfl ?_))
  refine RS.op rfl (OP.q rfl (v_assign (v := .int .i64 x6.2.2) rfl ?_))
  refine RS.nil ?_
  obtain ⟨zt_6, hz, h⟩ := bind_some h
  revert hz h; revert zt_6; intro c9 hz h
  refine T.join (Z := Unit) (fun _ => mkA 42 [(0, .bool c9)]) (fun _ => []) (fun _ => True) (fun _ _ => ?_) (fun hK => ?_)
  · show T _ _ _ _ (mkA 42 [(0, .bool c9)]) []
    refine T.ret' (R := ?R7) ?hq7 ?_
    case hq7 => repeat (first | exact RetIs.base | refine RetIs.thn ?_ | refine RetIs.blk ?_ | refine RetIs.lq ?_)
    refine res_tmpA (v := .bool c9) rfl ?_
    refine res_done ?_
    exact ret_data (v := .bool c9) rfl (pure_bool _) ⟨congrArg (fun r : Bool => (.bool r : AV)) (Option.some.inj h), rfl⟩
  · rcases bool_cases (x2.2 == 0) with hb_1 | hb_1
    · replace hz := ite_T hz hb_1
      rcases bool_cases (x6.2.2 == 0) with hb_2 | hb_2
      · replace hz := ite_T hz hb_2
        rcases bool_cases (((x2.1).length : Int) == 11) with hb_3 | hb_3
        · replace hz := ite_T hz hb_3
          rcases bool_cases (x6.2.1 == 11) with hb_4 | hb_4
          · replace hz := ite_T hz hb_4
            obtain ⟨x7, hx7, hz⟩ := bind_some hz
            rcases bool_cases x7 with hb_5 | hb_5
            · replace hz := ite_T hz hb_5
              obtain ⟨x8, hx8, hz⟩ := bind_some hz
              refine T.region ?_
              refine RS.op rfl (OP.q rfl (v_move (v := .int .i64 x2.2) rfl ?_))
              refine RS.op rfl (OP.q rfl (v_eql rfl rfl ?_))
              refine RS.op rfl (OP.q rfl (v_move (v := .bool (x2.2 == 0)) rfl ?_))
              refine RS.yes rfl rfl rfl hb_1 (OP.q rfl (v_move (v := .int .i64 x6.2.2) rfl ?_))
              refine RS.yes rfl rfl rfl hb_1 (OP.q rfl (v_eql rfl rfl ?_))
              refine RS.op rfl (OP.q rfl (v_pickT (v := .bool (x6.2.2 == 0)) rfl hb_1 rfl ?_))
              refine RS.op rfl (OP.q rfl (v_move (v := .bool (x6.2.2 == 0)) rfl ?_))
              refine RS.yes rfl rfl rfl hb_2 (OP.q rfl (v_move (v := .str x2.1) rfl ?_))
              refine RS.yes rfl rfl rfl hb_2 (OP.q rfl (v_len_str Try.underlying9 rfl ?_))
              refine RS.yes rfl rfl rfl hb_2 (OP.q rfl (v_eql rfl rfl ?_))
              refine RS.op rfl (OP.q rfl (v_pickT (v := .bool (((x2.1).length : Int) == 11)) rfl hb_2 rfl ?_))
              refine RS.op rfl (OP.q rfl (v_move (v := .bool (((x2.1).length : Int) == 11)) rfl ?_))
              refine RS.yes rfl rfl rfl hb_3 (OP.q rfl (v_move (v := .int .i64 x6.2.1) rfl ?_))
              refine RS.yes rfl rfl rfl hb_3 (OP.q rfl (v_eql rfl rfl ?_))
              refine RS.op rfl (OP.q rfl (v_pickT (v := .bool (x6.2.1 == 11)) rfl hb_3 rfl ?_))
              refine RS.op rfl (OP.q rfl (v_move (v := .bool (x6.2.1 == 11)) rfl ?_))
              refine RS.yes rfl rfl rfl hb_4 (OP.q rfl (v_move (v := .ref 0) rfl ?_))
              refine RS.yes rfl rfl rfl hb_4 (o_buildSlice (rows := List.map encS [[49, 50, 51, 52, 53, 54, 55, 56]]) (vs := [.str [49, 50, 51, 52, 53, 54, 55, 56]]) Ty.s29 Ty.z9 rfl rfl rfl rfl rfl (aw' := [.arr 9 1 (List.map encS x6.1), .arr 9 1 (List.map encS [[49, 50, 51, 52, 53, 54, 55, 56]])]) rfl ?_)
              refine RS.yes rfl rfl rfl hb_4 (o_call (as0 := [.ref 0, .ref 1]) (as1 := [.sl (List.map encS x6.1), .sl (List.map encS ([[49, 50, 51, 52, 53, 54, 55, 56]] : List (List UInt8)))]) (caps := []) (aw1 := [.dead, .dead]) rfl rfl rfl (k_flat (v := .bool x7) (slices_Equal_string_c x6.1 ([[49, 50, 51, 52, 53, 54, 55, 56]] : List (List UInt8)) x7 hx7) (⟨pure_map encS_p _, pure_map encS_p _, trivial⟩) rfl ?_))
              refine RS.op rfl (OP.q rfl (v_pickT (v := .bool x7) rfl hb_4 rfl ?_))
              refine RS.op rfl (OP.q rfl (v_move (v := .bool x7) rfl ?_))
              refine RS.yes rfl rfl rfl hb_5 (OP.q rfl (v_move (v := .str x2.1) rfl ?_))
              refine RS.yes rfl rfl rfl hb_5 (OP.q rfl (v_index_str Try.underlying9 rfl rfl hx8 ?_))
              refine RS.yes rfl rfl rfl hb_5 (OP.q rfl (v_eql rfl rfl ?_))
              refine RS.op rfl (OP.q rfl (v_pickT (v := .bool ((x8.toNat : Int) == 8)) rfl hb_5 rfl ?_))
              refine RS.op rfl (OP.q rfl (v_assign (v := .bool ((x8.toNat : Int) == 8)) rfl ?_))
              refine RS.nil ?_
              exact T.weakR (hK () trivial) (Weak.mkN [] [] (by decide) (none_kept _) rfl ⟨rn_bool ((congrArg (fun p => p) (Option.some.inj hz)).symm), trivial⟩ (rw_nil))
            · replace hz := ite_F hz hb_5
              refine T.region ?_
              refine RS.op rfl (OP.q rfl (v_move (v := .int .i64 x2.2) rfl ?_))
              refine RS.op rfl (OP.q rfl (v_eql rfl rfl ?_))
              refine RS.op rfl (OP.q rfl (v_move (v := .bool (x2.2 == 0)) rfl ?_))
              refine RS.yes rfl rfl rfl hb_1 (OP.q rfl (v_move (v := .int .i64 x6.2.2) rfl ?_))
              refine RS.yes rfl rfl rfl hb_1 (OP.q rfl (v_eql rfl rfl ?_))
              refine RS.op rfl (OP.q rfl (v_pickT (v := .bool (x6.2.2 == 0)) rfl hb_1 rfl ?_))
              refine RS.op rfl (OP.q rfl (v_move (v := .bool (x6.2.2 == 0)) rfl ?_))
              refine RS.yes rfl rfl rfl hb_2 (OP.q rfl (v_move (v := .str x2.1) rfl ?_))
              refine RS.yes rfl rfl rfl hb_2 (OP.q rfl (v_len_str Try.underlying9 rfl ?_))
              refine RS.yes rfl rfl rfl hb_2 (OP.q rfl (v_eql rfl rfl ?_))
              refine RS.op rfl (OP.q rfl (v_pickT (v := .bool (((x2.1).length : Int) == 11)) rfl hb_2 rfl ?_))
              refine RS.op rfl (OP.q rfl (v_move (v := .bool (((x2.1).length : Int) == 11)) rfl ?_))
              refine RS.yes rfl rfl rfl hb_3 (OP.q rfl (v_move (v := .int .i64 x6.2.1) rfl ?_))
              refine RS.yes rfl rfl rfl hb_3 (OP.q rfl (v_eql rfl rfl ?_))
              refine RS.op rfl (OP.q rfl (v_pickT (v := .bool (x6.2.1 == 11)) rfl hb_3 rfl ?_))
              refine RS.op rfl (OP.q rfl (v_move (v := .bool (x6.2.1 == 11)) rfl ?_))
              refine RS.yes rfl rfl rfl hb_4 (OP.q rfl (v_move (v := .ref 0) rfl ?_))
              refine RS.yes rfl rfl rfl hb_4 (o_buildSlice (rows := List.map encS [[49, 50, 51, 52, 53, 54, 55, 56]]) (vs := [.str [49, 50, 51, 52, 53, 54, 55, 56]]) Ty.s29 Ty.z9 rfl rfl rfl rfl rfl (aw' := [.arr 9 1 (List.map encS x6.1), .arr 9 1 (List.map encS [[49, 50, 51, 52, 53, 54, 55, 56]])]) rfl ?_)
              refine RS.yes rfl rfl rfl hb_4 (o_call (as0 := [.ref 0, .ref 1]) (as1 := [.sl (List.map encS x6.1), .sl (List.map encS ([[49, 50, 51, 52, 53, 54, 55, 56]] : List (List UInt8)))]) (caps := []) (aw1 := [.dead, .dead]) rfl rfl rfl (k_flat (v := .bool x7) (slices_Equal_string_c x6.1 ([[49, 50, 51, 52, 53, 54, 55, 56]] : List (List UInt8)) x7 hx7) (⟨pure_map encS_p _, pure_map encS_p _, trivial⟩) rfl ?_))
              refine RS.op rfl (OP.q rfl (v_pickT (v := .bool x7) rfl hb_4 rfl ?_))
              refine RS.op rfl (OP.q rfl (v_move (v := .bool x7) rfl ?_))
              refine RS.no rfl rfl rfl hb_5 ?_
              refine RS.no rfl rfl rfl hb_5 ?_
              refine RS.no rfl rfl rfl hb_5 ?_
              refine RS.op rfl (OP.q rfl (v_pickF (v := .bool false) rfl hb_5 rfl ?_))
              refine RS.op rfl (OP.q rfl (v_assign (v := .bool false) rfl ?_))
              refine RS.nil ?_
              exact T.weakR (hK () trivial) (Weak.mkN [] [] (by decide) (none_kept _) rfl ⟨rn_bool ((congrArg (fun p => p) (Option.some.inj hz)).symm), trivial⟩ (rw_nil))
          · replace hz := ite_F hz hb_4
            refine T.region ?_
            refine RS.op rfl (OP.q rfl (v_move (v := .int .i64 x2.2) rfl ?_))
            refine RS.op rfl (OP.q rfl (v_eql rfl rfl ?_))
            refine RS.op rfl (OP.q rfl (v_move (v := .bool (x2.2 == 0)) rfl ?_))
            refine RS.yes rfl rfl rfl hb_1 (OP.q rfl (v_move (v := .int .i64 x6.2.2) rfl ?_))
            refine RS.yes rfl rfl rfl hb_1 (OP.q rfl (v_eql rfl rfl ?_))
            refine RS.op rfl (OP.q rfl (v_pickT (v := .bool (x6.2.2 == 0)) rfl hb_1 rfl ?_))
            refine RS.op rfl (OP.q rfl (v_move (v := .bool (x6.2.2 == 0)) rfl ?_))
            refine RS.yes rfl rfl rfl hb_2 (OP.q rfl (v_move (v := .str x2.1) rfl ?_))
            refine RS.yes rfl rfl rfl hb_2 (OP.q rfl (v_len_str Try.underlying9 rfl ?_))
            refine RS.yes rfl rfl rfl hb_2 (OP.q rfl (v_eql rfl rfl ?_))
            refine RS.op rfl (OP.q rfl (v_pickT (v := .bool (((x2.1).length : Int) == 11)) rfl hb_2 rfl ?_))
            refine RS.op rfl (OP.q rfl (v_move (v := .bool (((x2.1).length : Int) == 11)) rfl ?_))
            refine RS.yes rfl rfl rfl hb_3 (OP.q rfl (v_move (v := .int .i64 x6.2.1) rfl ?_))
            refine RS.yes rfl rfl rfl hb_3 (OP.q rfl (v_eql rfl rfl ?_))
            refine RS.op rfl (OP.q rfl (v_pickT (v := .bool (x6.2.1 == 11)) rfl hb_3 rfl ?_))
            refine RS.op rfl (OP.q rfl (v_move (v := .bool (x6.2.1 == 11)) rfl ?_))
            refine RS.no rfl rfl rfl hb_4 ?_
            refine RS.no rfl rfl rfl hb_4 ?_
            refine RS.no rfl rfl rfl hb_4 ?_
            refine RS.op rfl (OP.q rfl (v_pickF (v := .bool false) rfl hb_4 rfl ?_))
            refine RS.op rfl (OP.q rfl (v_move (v := .bool false) rfl ?_))
            refine RS.no rfl rfl rfl rfl ?_
            refine RS.no rfl rfl rfl rfl ?_
            refine RS.no rfl rfl rfl rfl ?_
            refine RS.op rfl (OP.q rfl (v_pickF (v := .bool false) rfl rfl rfl ?_))
            refine RS.op rfl (OP.q rfl (v_assign (v := .bool false) rfl ?_))
            refine RS.nil ?_
            exact T.weakR (hK () trivial) (Weak.mkN [] [] (by decide) (none_kept _) rfl ⟨rn_bool ((congrArg (fun p => p) (Option.some.inj hz)).symm), trivial⟩ (rw_nil))
        · replace hz := ite_F hz hb_3
          refine T.region ?_
          refine RS.op rfl (OP.q rfl (v_move (v := .int .i64 x2.2) rfl ?_))
          refine RS.op rfl (OP.q rfl (v_eql rfl rfl ?_))
          refine RS.op rfl (OP.q rfl (v_move (v := .bool (x2.2 == 0)) rfl ?_))
          refine RS.yes rfl rfl rfl hb_1 (OP.q rfl (v_move (v := .int .i64 x6.2.2) rfl ?_))
          refine RS.yes rfl rfl rfl hb_1 (OP.q rfl (v_eql rfl rfl ?_))
          refine RS.op rfl (OP.q rfl (v_pickT (v := .bool (x6.2.2 == 0)) rfl hb_1 rfl ?_))
          refine RS.op rfl (OP.q rfl (v_move (v := .bool (x6.2.2 == 0)) rfl ?_))
          refine RS.yes rfl rfl rfl hb_2 (OP.q rfl (v_move (v := .str x2.1) rfl ?_))
          refine RS.yes rfl rfl rfl hb_2 (OP.q rfl (v_len_str Try.underlying9 rfl ?_))
          refine RS.yes rfl rfl rfl hb_2 (OP.q rfl (v_eql rfl rfl ?_))
          refine RS.op rfl (OP.q rfl (v_pickT (v := .bool (((x2.1).length : Int) == 11)) rfl hb_2 rfl ?_))
          refine RS.op rfl (OP.q rfl (v_move (v := .bool (((x2.1).length : Int) == 11)) rfl ?_))
          refine RS.no rfl rfl rfl hb_3 ?_
          refine RS.no rfl rfl rfl hb_3 ?_
          refine RS.op rfl (OP.q rfl (v_pickF (v := .bool false) rfl hb_3 rfl ?_))
          refine RS.op rfl (OP.q rfl (v_move (v := .bool false) rfl ?_))
          refine RS.no rfl rfl rfl rfl ?_
          refine RS.no rfl rfl rfl rfl ?_
          refine RS.no rfl rfl rfl rfl ?_
          refine RS.op rfl (OP.q rfl (v_pickF (v := .bool false) rfl rfl rfl ?_))
          refine RS.op rfl (OP.q rfl (v_move (v := .bool false) rfl ?_))
          refine RS.no rfl rfl rfl rfl ?_
          refine RS.no rfl rfl rfl rfl ?_
          refine RS.no rfl rfl rfl rfl ?_
          refine RS.op rfl (OP.q rfl (v_pickF (v := .bool false) rfl rfl rfl ?_))
          refine RS.op rfl (OP.q rfl (v_assign (v := .bool false) rfl ?_))
          refine RS.nil ?_
          exact T.weakR (hK () trivial) (Weak.mkN [] [] (by decide) (none_kept _) rfl ⟨rn_bool ((congrArg (fun p => p) (Option.some.inj hz)).symm), trivial⟩ (rw_nil))
      · replace hz := ite_F hz hb_2
        refine T.region ?_
        refine RS.op rfl (OP.q rfl (v_move (v := .int .i64 x2.2) rfl ?_))
        refine RS.op rfl (OP.q rfl (v_eql rfl rfl ?_))
        refine RS.op rfl (OP.q rfl (v_move (v := .bool (x2.2 == 0)) rfl ?_))
        refine RS.yes rfl rfl rfl hb_1 (OP.q rfl (v_move (v := .int .i64 x6.2.2) rfl ?_))
        refine RS.yes rfl rfl rfl hb_1 (OP.q rfl (v_eql rfl rfl ?_))
        refine RS.op rfl (OP.q rfl (v_pickT (v := .bool (x6.2.2 == 0)) rfl hb_1 rfl ?_))
        refine RS.op rfl (OP.q rfl (v_move (v := .bool (x6.2.2 == 0)) rfl ?_))
        refine RS.no rfl rfl rfl hb_2 ?_
        refine RS.no rfl rfl rfl hb_2 ?_
        refine RS.no rfl rfl rfl hb_2 ?_
        refine RS.op rfl (OP.q rfl (v_pickF (v := .bool false) rfl hb_2 rfl ?_))
        refine RS.op rfl (OP.q rfl (v_move (v := .bool false) rfl ?_))
        refine RS.no rfl rfl rfl rfl ?_
        refine RS.no rfl rfl rfl rfl ?_
        refine RS.op rfl (OP.q rfl (v_pickF (v := .bool false) rfl rfl rfl ?_))
        refine RS.op rfl (OP.q rfl (v_move (v := .bool false) rfl ?_))
        refine RS.no rfl rfl rfl rfl ?_
        refine RS.no rfl rfl rfl rfl ?_
        refine RS.no rfl rfl rfl rfl ?_
        refine RS.op rfl (OP.q rfl (v_pickF (v := .bool false) rfl rfl rfl ?_))
        refine RS.op rfl (OP.q rfl (v_move (v := .bool false) rfl ?_))
        refine RS.no rfl rfl rfl rfl ?_
        refine RS.no rfl rfl rfl rfl ?_
        refine RS.no rfl rfl rfl rfl ?_
        refine RS.op rfl (OP.q rfl (v_pickF (v := .bool false) rfl rfl rfl ?_))
        refine RS.op rfl (OP.q rfl (v_assign (v := .bool false) rfl ?_))
        refine RS.nil ?_
        exact T.weakR (hK () trivial) (Weak.mkN [] [] (by decide) (none_kept _) rfl ⟨rn_bool ((congrArg (fun p => p) (Option.some.inj hz)).symm), trivial⟩ (rw_nil))
    · replace hz := ite_F hz hb_1
      refine T.region ?_
      refine RS.op rfl (OP.q rfl (v_move (v := .int .i64 x2.2) rfl ?_))
      refine RS.op rfl (OP.q rfl (v_eql rfl rfl ?_))
      refine RS.op rfl (OP.q rfl (v_move (v := .bool (x2.2 == 0)) rfl ?_))
      refine RS.no rfl rfl rfl hb_1 ?_
      refine RS.no rfl rfl rfl hb_1 ?_
      refine RS.op rfl (OP.q rfl (v_pickF (v := .bool false) rfl hb_1 rfl ?_))
      refine RS.op rfl (OP.q rfl (v_move (v := .bool false) rfl ?_))
      refine RS.no rfl rfl rfl rfl ?_
      refine RS.no rfl rfl rfl rfl ?_
      refine RS.no rfl rfl rfl rfl ?_
      refine RS.op rfl (OP.q rfl (v_pickF (v := .bool false) rfl rfl rfl ?_))
      refine RS.op rfl (OP.q rfl (v_move (v := .bool false) rfl ?_))
      refine RS.no rfl rfl rfl rfl ?_
      refine RS.no rfl rfl rfl rfl ?_
      refine RS.op rfl (OP.q rfl (v_pickF (v := .bool false) rfl rfl rfl ?_))
      refine RS.op rfl (OP.q rfl (v_move (v := .bool false) rfl ?_))
      refine RS.no rfl rfl rfl rfl ?_
      refine RS.no rfl rfl rfl rfl ?_
      refine RS.no rfl rfl rfl rfl ?_
      refine RS.op rfl (OP.q rfl (v_pickF (v := .bool false) rfl rfl rfl ?_))
      refine RS.op rfl (OP.q rfl (v_move (v := .bool false) rfl ?_))
      refine RS.no rfl rfl rfl rfl ?_
      refine RS.no rfl rfl rfl rfl ?_
      refine RS.no rfl rfl rfl rfl ?_
      refine RS.op rfl (OP.q rfl (v_pickF (v := .bool false) rfl rfl rfl ?_))
      refine RS.op rfl (OP.q rfl (v_assign (v := .bool false) rfl ?_))
      refine RS.nil ?_
      exact T.weakR (hK () trivial) (Weak.mkN [] [] (by decide) (none_kept _) rfl ⟨rn_bool ((congrArg (fun p => p) (Option.some.inj hz)).symm), trivial⟩ (rw_nil))
theorem crossref_SumOf_c (p0 : List UInt8) (r : Int) (h : crossref_SumOf p0 = some r) : Fn Try.prog 58 [.str p0] (.int .i64 r) := by
  unfold crossref_SumOf at h
  refine fn_of_T (N := 0) rfl Try.func58 rfl (by kernel_rfl) Try.ntmps58 rfl ?_
  show T _ _ _ _ (mkA 97 [(0, .str p0)]) []
  refine T.seq ?_
  refine T.region ?_
  refine RS.op rfl (OP.q rfl (v_assign (v := .int .i64 0) rfl ?_))
  refine RS.nil ?_
  refine T.seq ?_
  obtain ⟨x2, hx2, h⟩ := bind_some h
  refine T.region ?_
  refine RS.op rfl (OP.q rfl (v_move (v := .str p0) rfl ?_))
  refine RS.op rfl (OP.q rfl (v_len_str Try.underlying9 rfl ?_))
  refine RS.op rfl (OP.q rfl (v_mul rfl rfl ?_))
  refine RS.op rfl (OP.q rfl (v_add rfl rfl ?_))
  refine RS.op rfl (o_mk0 (en := enc8) Ty.s67 Ty.z5 rfl rfl hx2 rfl (aw' := [.arr 5 1 (List.map enc8 x2)]) rfl ?_)
  refine RS.op rfl (OP.q rfl (v_assign (v := .ref 0) rfl ?_))
  refine RS.nil ?_
  refine T.seq ?_
  refine T.seq ?_
  refine T.region ?_
  refine RS.op rfl (OP.q rfl (v_move (v := .str p0) rfl ?_))
  refine RS.op rfl (OP.q rfl (v_len_str Try.underlying9 rfl ?_))
  refine RS.op rfl (OP.q rfl (v_move (v := .int .i64 0) rfl ?_))
  refine RS.nil ?_
  refine T.block ?_
  refine T.iter (fun ss_15 : Int × (List Int) => mkA 97 [(0, .str p0), (3, .ref 0), (20, .int .i64 ((p0).length : Int)), (21, .int .i64 ss_15.1)]) (fun ss_15 => [.arr 5 1 (List.map enc8 ss_15.2)]) h (Weak.mkN [] [0] (by decide) (none_kept _) rfl ⟨rn_str rfl, rn_ref rfl, rn_int rfl, rn_int rfl, trivial⟩ (rw_arr rfl enc8_p rfl (rw_nil))) (fun ss_15 v_16 h hv_16 => ?_)
  obtain ⟨s3, s4⟩ := ss_15
  replace h : crossref_SumOf_l6 p0 s3 s4 = some v_16 := h
  show T _ _ _ _ (mkA 97 [(0, .str p0), (3, .ref 0), (20, .int .i64 ((p0).length : Int)), (21, .int .i64 s3)]) [.arr 5 1 (List.map enc8 s4)]
  unfold crossref_SumOf_l6 at h
  refine T.seq ?_
  refine T.region ?_
  refine RS.op rfl (OP.q rfl (v_lss rfl rfl ?_))
  refine RS.nil ?_
  refine T.seq ?_
  refine T.cond (b := decide (s3 < ((p0).length : Int))) rfl (fun hb_17 => ?_) (fun hb_17 => ?_)
  · replace h := ite_T h hb_17
    refine T.skip ?_
    refine T.seq ?_
    refine T.block ?_
    refine T.seq ?_
    refine T.region ?_
    refine RS.op rfl (OP.q rfl (v_move (v := .int .i64 s3) rfl ?_))
    refine RS.op rfl (OP.q rfl (v_assign (v := .int .i64 s3) rfl ?_))
    refine RS.nil ?_
    refine T.seq ?_
    refine T.region ?_
    refine RS.op rfl (OP.q rfl (v_assign (v := .int .i64 7) rfl ?_))
    refine RS.nil ?_
    refine T.block ?_
    refine T.iter (fun ss_20 : Int × (List Int) => mkA 97 [(0, .str p0), (3, .ref 0), (4, .int .i64 s3), (5, .int .i64 ss_20.1), (20, .int .i64 ((p0).length : Int)), (21, .int .i64 s3)]) (fun ss_20 => [.arr 5 1 (List.map enc8 ss_20.2)]) h (Weak.mkN [] [0] (by decide) (none_kept _) rfl ⟨rn_str rfl, rn_ref rfl, rn_int rfl, rn_int rfl, rn_int rfl, rn_int rfl, trivial⟩ (rw_arr rfl enc8_p rfl (rw_nil))) (fun ss_20 v_21 h hv_21 => ?_)
    obtain ⟨s5, s6⟩ := ss_20
    replace h : crossref_SumOf_l1 p0 s3 s5 s6 = some v_21 := h
    show T _ _ _ _ (mkA 97 [(0, .str p0), (3, .ref 0), (4, .int .i64 s3), (5, .int .i64 s5), (20, .int .i64 ((p0).length : Int)), (21, .int .i64 s3)]) [.arr 5 1 (List.map enc8 s6)]
    unfold crossref_SumOf_l1 at h
    refine T.seq ?_
    refine T.seq ?_
    refine T.region ?_
    refine RS.op rfl (OP.q rfl (v_move (v := .int .i64 s5) rfl ?_))
    refine RS.op rfl (OP.q rfl (v_geq rfl rfl ?_))
    refine RS.nil ?_
    refine T.cond (b := decide (s5 ≥ 0)) rfl (fun hb_22 => ?_) (fun hb_22 => ?_)
    · replace h := ite_T h hb_22
      refine T.skip ?_
      refine T.seq ?_
      refine T.block ?_
      obtain ⟨x7, hx7, h⟩ := bind_some h
      obtain ⟨x8, hx8, h⟩ := bind_some h
      obtain ⟨x9, hx9, h⟩ := bind_some h
      refine T.region ?_
      refine RS.op rfl (OP.q rfl (v_move (v := .ref 0) rfl ?_))
      refine RS.op rfl (OP.q rfl (v_move (v := .str p0) rfl ?_))
      refine RS.op rfl (OP.q rfl (v_move (v := .int .i64 s3) rfl ?_))
      refine RS.op rfl (OP.q rfl (v_index_str Try.underlying9 rfl rfl hx7 ?_))
      refine RS.op rfl (OP.q rfl (v_move (v := .int .i64 s5) rfl ?_))
      refine RS.op rfl (OP.q rfl (v_shr rfl rfl hx8 ?_))
      refine RS.op rfl (OP.q rfl (v_and rfl rfl ?_))
      refine RS.op rfl (o_buildSlice (rows := List.map enc8 [ibits .and .u8 x8 1]) (vs := [.int .u8 (ibits .and .u8 x8 1)]) Ty.s67 Ty.z5 rfl rfl rfl rfl rfl (aw' := [.arr 5 1 (List.map enc8 s6), .arr 5 1 (List.map enc8 [ibits .and .u8 x8 1])]) rfl ?_)
      refine RS.op rfl (o_app_ref (en := enc8) (xs := s6) (ys := ([ibits .and .u8 x8 1] : List Int)) Ty.s67 (fun _ => rfl) rfl rfl rfl hx9 rfl (aw' := [.dead, .dead, .arr 5 1 (List.map enc8 x9)]) rfl ?_)
      refine RS.op rfl (OP.q rfl (v_assign (v := .ref 2) rfl ?_))
      refine RS.nil ?_
      refine T.region ?_
      refine RS.op rfl (OP.q rfl (v_move (v := .int .i64 s5) rfl ?_))
      refine RS.op rfl (OP.q rfl (v_sub rfl rfl ?_))
      refine RS.op rfl (OP.q rfl (v_assign (v := .int .i64 (IntKind.i64.wrap (s5 - 1))) rfl ?_))
      refine RS.nil ?_
      exact ⟨(IntKind.i64.wrap (s5 - 1), x9), (Option.some.inj h).symm, Weak.mkN [] [2] (by decide) (none_kept _) rfl ⟨rn_str rfl, rn_ref rfl, rn_int rfl, rn_int rfl, rn_int rfl, rn_int rfl, trivial⟩ (rw_arr rfl enc8_p rfl (rw_nil))⟩
    · replace h := ite_F h hb_22
      refine T.exit ?_
      obtain ⟨w_23, h, hw_23⟩ := map_inr h
      replace h := h.trans (congrArg some (hv_21 _ hw_23))
      refine T.region ?_
      refine RS.op rfl (OP.q rfl (v_add rfl rfl ?_))
      refine RS.op rfl (OP.q rfl (v_move (v := .int .i64 (IntKind.i64.wrap (s3 + 1))) rfl ?_))
      refine RS.nil ?_
      exact ⟨(IntKind.i64.wrap (s3 + 1), s6), (Option.some.inj h).symm, Weak.mkN [] [0] (by decide) (none_kept _) rfl ⟨rn_str rfl, rn_ref rfl, rn_int rfl, rn_int rfl, trivial⟩ (rw_arr rfl enc8_p rfl (rw_nil))⟩
  · replace h := ite_F h hb_17
    refine T.exit ?_
    obtain ⟨w_24, h, hw_24⟩ := map_inr h
    replace h := h.trans (congrArg some (hv_16 _ hw_24))
    refine T.seq ?_
    obtain ⟨x11, hx11, h⟩ := bind_some h
    refine T.region ?_
    refine RS.op rfl (OP.q rfl (v_move (v := .ref 0) rfl ?_))
    refine RS.op rfl (o_app_z (en := enc8) (z0 := 0) (xs := s4) Ty.s67 Try.underlying3 Ty.z5 (fun _ => rfl) rfl rfl rfl hx11 rfl (aw' := [.dead, .arr 5 1 (List.map enc8 x11)]) rfl ?_)
    refine RS.op rfl (OP.q rfl (v_assign (v := .ref 1) rfl ?_))
    refine RS.nil ?_
    refine T.seq ?_
    refine T.seq ?_
    refine T.region ?_
    refine RS.op rfl (OP.q rfl (v_move (v := .int .i64 0) rfl ?_))
    refine RS.nil ?_
    refine T.block ?_
    refine T.iter (fun ss_27 : Int × (List Int) => mkA 97 [(3, .ref 0), (40, .int .i64 ss_27.1)]) (fun ss_27 => [.arr 5 1 (List.map enc8 ss_27.2)]) h (Weak.mkN [] [1] (by decide) (none_kept _) rfl ⟨rn_ref rfl, rn_int rfl, trivial⟩ (rw_arr rfl enc8_p rfl (rw_nil))) (fun ss_27 v_28 h hv_28 => ?_)
    obtain ⟨s12, s13⟩ := ss_27
    replace h : crossref_SumOf_l5 s12 s13 = some v_28 := h
    show T _ _ _ _ (mkA 97 [(3, .ref 0), (40, .int .i64 s12)]) [.arr 5 1 (List.map enc8 s13)]
    unfold crossref_SumOf_l5 at h
    refine T.seq ?_
    refine T.region ?_
    refine RS.op rfl (OP.q rfl (v_lss rfl rfl ?_))
    refine RS.nil ?_
    refine T.seq ?_
    refine T.cond (b := decide (s12 < 16)) rfl (fun hb_29 => ?_) (fun hb_29 => ?_)
    · replace h := ite_T h hb_29
      refine T.skip ?_
      refine T.seq ?_
      refine T.block ?_
      refine T.seq ?_
      refine T.region ?_
      refine RS.op rfl (OP.q rfl (v_move (v := .int .i64 s12) rfl ?_))
      refine RS.op rfl (OP.q rfl (v_assign (v := .int .i64 s12) rfl ?_))
      refine RS.nil ?_
      obtain ⟨x14, hx14, h⟩ := bind_some h
      obtain ⟨x15, hx15, h⟩ := bind_some h
      obtain ⟨x16, hx16, h⟩ := bind_some h
      obtain ⟨x17, hx17, h⟩ := bind_some h
      refine T.region ?_
      refine RS.op rfl (OP.q rfl (v_move (v := .ref 0) rfl ?_))
      refine RS.op rfl (OP.q rfl (v_move (v := .int .i64 s12) rfl ?_))
      refine RS.op rfl (OP.q rfl (v_index_ref' (en := enc8) Ty.s67 rfl rfl rfl hx14 ?_))
      refine RS.op rfl (o_load_aptr' (en := enc8) (a := x15) rfl rfl hx15 (loadRow1 Ty.k5 (c := .int .u8 x15) rfl ?_))
      refine RS.op rfl (OP.q rfl (v_xor rfl rfl ?_))
      refine RS.op rfl (OP.q rfl (v_index_ref' (en := enc8) Ty.s67 rfl rfl rfl hx16 ?_))
      refine RS.op rfl (o_store_aptr' (en := enc8) (a := x17) (a' := ibits .xor .u8 x15 1) Ty.c5 Ty.i5 rfl (vs := [.int .u8 (ibits .xor .u8 x15 1)]) rfl rfl rfl hx17 rfl rfl (aw' := [.arr 5 1 (List.map enc8 (List.set s13 x16 (ibits .xor .u8 x15 1)))]) rfl ?_)
      refine RS.nil ?_
      refine T.region ?_
      refine RS.op rfl (OP.q rfl (v_add rfl rfl ?_))
      refine RS.op rfl (OP.q rfl (v_move (v := .int .i64 (IntKind.i64.wrap (s12 + 1))) rfl ?_))
      refine RS.nil ?_
      exact ⟨(IntKind.i64.wrap (s12 + 1), (List.set s13 x16 (ibits .xor .u8 x15 1))), (Option.some.inj h).symm, Weak.mkN [] [0] (by decide) (none_kept _) rfl ⟨rn_ref rfl, rn_int rfl, trivial⟩ (rw_arr rfl enc8_p rfl (rw_nil))⟩
    · replace h := ite_F h hb_29
      refine T.exit ?_
      obtain ⟨w_30, h, hw_30⟩ := map_inr h
      replace h := h.trans (congrArg some (hv_28 _ hw_30))
      refine T.seq ?_
      refine T.region ?_
      refine RS.op rfl (o_buildSlice (rows := List.map enc8 [1, 0, 0, 0, 1, 0, 0, 0, 0, 0, 0, 1, 0, 0, 0, 0, 1]) (vs := [.int .u8 1, .int .u8 0, .int .u8 0, .int .u8 0, .int .u8 1, .int .u8 0, .int .u8 0, .int .u8 0, .int .u8 0, .int .u8 0, .int .u8 0, .int .u8 1, .int .u8 0, .int .u8 0, .int .u8 0, .int .u8 0, .int .u8 1]) Ty.s67 Ty.z5 rfl rfl rfl rfl rfl (aw' := [.arr 5 1 (List.map enc8 s13), .arr 5 1 (List.map enc8 [1, 0, 0, 0, 1, 0, 0, 0, 0, 0, 0, 1, 0, 0, 0, 0, 1])]) rfl ?_)
      refine RS.op rfl (OP.q rfl (v_assign (v := .ref 1) rfl ?_))
      refine RS.nil ?_
      refine T.seq ?_
      refine T.seq ?_
      refine T.region ?_
      refine RS.op rfl (OP.q rfl (v_assign (v := .int .i64 0) rfl ?_))
      refine RS.nil ?_
      refine T.block ?_
      refine T.iter (fun ss_47 : Int × (List Int) => mkA 97 [(3, .ref 0), (7, .ref 1), (8, .int .i64 ss_47.1)]) (fun ss_47 => [.arr 5 1 (List.map enc8 ss_47.2), .arr 5 1 (List.map enc8 [1, 0, 0, 0, 1, 0, 0, 0, 0, 0, 0, 1, 0, 0, 0, 0, 1])]) h (Weak.mkN [] [0, 1] (by decide) (none_kept _) rfl ⟨rn_ref rfl, rn_ref rfl, rn_int rfl, trivial⟩ (rw_arr rfl enc8_p rfl (rw_arr rfl enc8_p rfl (rw_nil)))) (fun ss_47 v_48 h hv_48 => ?_)
      obtain ⟨s18, s19⟩ := ss_47
      replace h : crossref_SumOf_l4 s18 s19 = some v_48 := h
      show T _ _ _ _ (mkA 97 [(3, .ref 0), (7, .ref 1), (8, .int .i64 s18)]) [.arr 5 1 (List.map enc8 s19), .arr 5 1 (List.map enc8 [1, 0, 0, 0, 1, 0, 0, 0, 0, 0, 0, 1, 0, 0, 0, 0, 1])]
      unfold crossref_SumOf_l4 at h
      refine T.seq ?_
      refine T.seq ?_
      refine T.region ?_
      refine RS.op rfl (OP.q rfl (v_move (v := .int .i64 s18) rfl ?_))
      refine RS.op rfl (OP.q rfl (v_add rfl rfl ?_))
      refine RS.op rfl (OP.q rfl (v_move (v := .ref 0) rfl ?_))
      refine RS.op rfl (OP.q rfl (v_len_ref (en := enc8) Ty.s67 rfl rfl ?_))
      refine RS.op rfl (OP.q rfl (v_lss rfl rfl ?_))
      refine RS.nil ?_
      refine T.cond (b := decide ((IntKind.i64.wrap (s18 + 16)) < ((s19).length : Int))) rfl (fun hb_49 => ?_) (fun hb_49 => ?_)
      · replace h := ite_T h hb_49
        refine T.skip ?_
        refine T.seq ?_
        refine T.block ?_
        refine T.seq ?_
        obtain ⟨x22, hx22, h⟩ := bind_some h
        obtain ⟨x23, hx23, h⟩ := bind_some h
        refine T.region ?_
        refine RS.op rfl (OP.q rfl (v_move (v := .ref 0) rfl ?_))
        refine RS.op rfl (OP.q rfl (v_move (v := .int .i64 s18) rfl ?_))
        refine RS.op rfl (OP.q rfl (v_index_ref' (en := enc8) Ty.s67 rfl rfl rfl hx22 ?_))
        refine RS.op rfl (o_load_aptr' (en := enc8) (a := x23) rfl rfl hx23 (loadRow1 Ty.k5 (c := .int .u8 x23) rfl ?_))
        refine RS.op rfl (OP.q rfl (v_eql rfl rfl ?_))
        refine RS.nil ?_
        refine T.cond (b := x23 == 1) rfl (fun hb_50 => ?_) (fun hb_50 => ?_)
        · replace h := ite_T h hb_50
          refine T.seq ?_
          refine T.region ?_
          refine RS.op rfl (OP.q rfl (v_move (v := .ref 1) rfl ?_))
          refine RS.op rfl (OP.q rfl (v_len_ref (en := enc8) Ty.s67 rfl rfl ?_))
          refine RS.op rfl (OP.q rfl (v_move (v := .int .i64 0) rfl ?_))
          refine RS.nil ?_
          refine T.block ?_
          refine T.iter (fun ss_53 : Int × (List Int) => mkA 97 [(3, .ref 0), (7, .ref 1), (8, .int .i64 s18), (63, .ref 1), (64, .int .i64 (([1, 0, 0, 0, 1, 0, 0, 0, 0, 0, 0, 1, 0, 0, 0, 0, 1]).length : Int)), (65, .int .i64 ss_53.1)]) (fun ss_53 => [.arr 5 1 (List.map enc8 ss_53.2), .arr 5 1 (List.map enc8 [1, 0, 0, 0, 1, 0, 0, 0, 0, 0, 0, 1, 0, 0, 0, 0, 1])]) h (Weak.mkN [] [0, 1] (by decide) (none_kept _) rfl ⟨rn_ref rfl, rn_ref rfl, rn_int rfl, rn_ref rfl, rn_int rfl, rn_int rfl, trivial⟩ (rw_arr rfl enc8_p rfl (rw_arr rfl enc8_p rfl (rw_nil)))) (fun ss_53 v_54 h hv_54 => ?_)
          obtain ⟨s24, s25⟩ := ss_53
          replace h : crossref_SumOf_l2 s18 s24 s25 = some v_54 := h
          show T _ _ _ _ (mkA 97 [(3, .ref 0), (7, .ref 1), (8, .int .i64 s18), (63, .ref 1), (64, .int .i64 (([1, 0, 0, 0, 1, 0, 0, 0, 0, 0, 0, 1, 0, 0, 0, 0, 1]).length : Int)), (65, .int .i64 s24)]) [.arr 5 1 (List.map enc8 s25), .arr 5 1 (List.map enc8 [1, 0, 0, 0, 1, 0, 0, 0, 0, 0, 0, 1, 0, 0, 0, 0, 1])]
          unfold crossref_SumOf_l2 at h
          refine T.seq ?_
          refine T.region ?_
          refine RS.op rfl (OP.q rfl (v_lss rfl rfl ?_))
          refine RS.nil ?_
          refine T.seq ?_
          refine T.cond (b := decide (s24 < (([1, 0, 0, 0, 1, 0, 0, 0, 0, 0, 0, 1, 0, 0, 0, 0, 1]).length : Int))) rfl (fun hb_55 => ?_) (fun hb_55 => ?_)
          · replace h := ite_T h hb_55
            refine T.skip ?_
            refine T.seq ?_
            refine T.block ?_
            refine T.seq ?_
            obtain ⟨x28, hx28, h⟩ := bind_some h
            obtain ⟨x29, hx29, h⟩ := bind_some h
            refine T.region ?_
            refine RS.op rfl (OP.q rfl (v_move (v := .int .i64 s24) rfl ?_))
            refine RS.op rfl (OP.q rfl (v_index_ref' (en := enc8) Ty.s67 rfl rfl rfl hx28 ?_))
            refine RS.op rfl (o_load_aptr' (en := enc8) (a := x29) rfl rfl hx29 (loadRow1 Ty.k5 (c := .int .u8 x29) rfl ?_))
            refine RS.op rfl (OP.q rfl (v_assign (v := .int .i64 s24) rfl ?_))
            refine RS.op rfl (OP.q rfl (v_assign (v := .int .u8 x29) rfl ?_))
            refine RS.nil ?_
            obtain ⟨x30, hx30, h⟩ := bind_some h
            obtain ⟨x31, hx31, h⟩ := bind_some h
            obtain ⟨x32, hx32, h⟩ := bind_some h
            obtain ⟨x33, hx33, h⟩ := bind_some h
            refine T.region ?_
            refine RS.op rfl (OP.q rfl (v_move (v := .ref 0) rfl ?_))
            refine RS.op rfl (OP.q rfl (v_move (v := .int .i64 s18) rfl ?_))
            refine RS.op rfl (OP.q rfl (v_move (v := .int .i64 s24) rfl ?_))
            refine RS.op rfl (OP.q rfl (v_add rfl rfl ?_))
            refine RS.op rfl (OP.q rfl (v_index_ref' (en := enc8) Ty.s67 rfl rfl rfl hx30 ?_))
            refine RS.op rfl (o_load_aptr' (en := enc8) (a := x31) rfl rfl hx31 (loadRow1 Ty.k5 (c := .int .u8 x31) rfl ?_))
            refine RS.op rfl (OP.q rfl (v_move (v := .int .u8 x29) rfl ?_))
            refine RS.op rfl (OP.q rfl (v_xor rfl rfl ?_))
            refine RS.op rfl (OP.q rfl (v_index_ref' (en := enc8) Ty.s67 rfl rfl rfl hx32 ?_))
            refine RS.op rfl (o_store_aptr' (en := enc8) (a := x33) (a' := ibits .xor .u8 x31 x29) Ty.c5 Ty.i5 rfl (vs := [.int .u8 (ibits .xor .u8 x31 x29)]) rfl rfl rfl hx33 rfl rfl (aw' := [.arr 5 1 (List.map enc8 (List.set s25 x32 (ibits .xor .u8 x31 x29))), .arr 5 1 (List.map enc8 [1, 0, 0, 0, 1, 0, 0, 0, 0, 0, 0, 1, 0, 0, 0, 0, 1])]) rfl ?_)
            refine RS.nil ?_
            refine T.region ?_
            refine RS.op rfl (OP.q rfl (v_add rfl rfl ?_))
            refine RS.op rfl (OP.q rfl (v_move (v := .int .i64 (IntKind.i64.wrap (s24 + 1))) rfl ?_))
            refine RS.nil ?_
            exact ⟨(IntKind.i64.wrap (s24 + 1), (List.set s25 x32 (ibits .xor .u8 x31 x29))), (Option.some.inj h).symm, Weak.mkN [] [0, 1] (by decide) (none_kept _) rfl ⟨rn_ref rfl, rn_ref rfl, rn_int rfl, rn_ref rfl, rn_int rfl, rn_int rfl, trivial⟩ (rw_arr rfl enc8_p rfl (rw_arr rfl enc8_p rfl (rw_nil)))⟩
          · replace h := ite_F h hb_55
            refine T.exit ?_
            obtain ⟨w_56, h, hw_56⟩ := map_inr h
            replace h := h.trans (congrArg some (hv_54 _ hw_56))
            refine T.region ?_
            refine RS.op rfl (OP.q rfl (v_move (v := .int .i64 s18) rfl ?_))
            refine RS.op rfl (OP.q rfl (v_add rfl rfl ?_))
            refine RS.op rfl (OP.q rfl (v_assign (v := .int .i64 (IntKind.i64.wrap (s18 + 1))) rfl ?_))
            refine RS.nil ?_
            exact ⟨(IntKind.i64.wrap (s18 + 1), s25), (Option.some.inj h).symm, Weak.mkN [] [0, 1] (by decide) (none_kept _) rfl ⟨rn_ref rfl, rn_ref rfl, rn_int rfl, trivial⟩ (rw_arr rfl enc8_p rfl (rw_arr rfl enc8_p rfl (rw_nil)))⟩
        · replace h := ite_F h hb_50
          refine T.skip ?_
          refine T.region ?_
          refine RS.op rfl (OP.q rfl (v_move (v := .int .i64 s18) rfl ?_))
          refine RS.op rfl (OP.q rfl (v_add rfl rfl ?_))
          refine RS.op rfl (OP.q rfl (v_assign (v := .int .i64 (IntKind.i64.wrap (s18 + 1))) rfl ?_))
          refine RS.nil ?_
          exact ⟨(IntKind.i64.wrap (s18 + 1), s19), (Option.some.inj h).symm, Weak.mkN [] [0, 1] (by decide) (none_kept _) rfl ⟨rn_ref rfl, rn_ref rfl, rn_int rfl, trivial⟩ (rw_arr rfl enc8_p rfl (rw_arr rfl enc8_p rfl (rw_nil)))⟩
      · replace h := ite_F h hb_49
        refine T.exit ?_
        obtain ⟨w_57, h, hw_57⟩ := map_inr h
        replace h := h.trans (congrArg some (hv_48 _ hw_57))
        refine T.seq ?_
        refine T.region ?_
        refine RS.op rfl (OP.q rfl (v_assign (v := .int .i64 0) rfl ?_))
        refine RS.nil ?_
        refine T.seq ?_
        refine T.seq ?_
        obtain ⟨x35, hx35, h⟩ := bind_some h
        refine T.region ?_
        refine RS.op rfl (OP.q rfl (v_move (v := .ref 0) rfl ?_))
        refine RS.op rfl (OP.q rfl (v_move (v := .ref 0) rfl ?_))
        refine RS.op rfl (OP.q rfl (v_len_ref (en := enc8) Ty.s67 rfl rfl ?_))
        refine RS.op rfl (OP.q rfl (v_sub rfl rfl ?_))
        refine RS.fz 0 rfl rfl (aw' := [.dead, .arr 5 1 (List.map enc8 [1, 0, 0, 0, 1, 0, 0, 0, 0, 0, 0, 1, 0, 0, 0, 0, 1])]) rfl ?_
        refine RS.op rfl (o_slice_sl Ty.s67 (fun _ => rfl) rfl rfl rfl hx35 ?_)
        refine RS.op rfl (OP.q rfl (v_len_sl Ty.s67 rfl ?_))
        refine RS.op rfl (OP.q rfl (v_move (v := .int .i64 0) rfl ?_))
        refine RS.nil ?_
        refine T.block ?_
        refine T.iter (fun ss_60 : Int × Int => mkA 97 [(11, .int .i64 ss_60.1), (84, .sl (List.map enc8 x35)), (85, .int .i64 ((x35).length : Int)), (86, .int .i64 ss_60.2)]) (fun ss_60 => []) h (Weak.mkN [] [] (by decide) (none_kept _) rfl ⟨rn_int rfl, rn_sl enc8_p rfl, rn_int rfl, rn_int rfl, trivial⟩ (rw_nil)) (fun ss_60 v_61 h hv_61 => ?_)
        obtain ⟨s36, s37⟩ := ss_60
        replace h : crossref_SumOf_l3 x35 s36 s37 = some v_61 := h
        show T _ _ _ _ (mkA 97 [(11, .int .i64 s36), (84, .sl (List.map enc8 x35)), (85, .int .i64 ((x35).length : Int)), (86, .int .i64 s37)]) []
        unfold crossref_SumOf_l3 at h
        refine T.seq ?_
        refine T.region ?_
        refine RS.op rfl (OP.q rfl (v_lss rfl rfl ?_))
        refine RS.nil ?_
        refine T.seq ?_
        refine T.cond (b := decide (s37 < ((x35).length : Int))) rfl (fun hb_62 => ?_) (fun hb_62 => ?_)
        · replace h := ite_T h hb_62
          refine T.skip ?_
          refine T.seq ?_
          refine T.block ?_
          refine T.seq ?_
          obtain ⟨x39, hx39, h⟩ := bind_some h
          refine T.region ?_
          refine RS.op rfl (OP.q rfl (v_index_sl Ty.s67 (fun _ => rfl) rfl rfl hx39 ?_))
          refine RS.op rfl (o_load_elt rfl (loadRow1 Ty.k5 (c := .int .u8 x39) rfl ?_))
          refine RS.op rfl (OP.q rfl (v_assign (v := .int .u8 x39) rfl ?_))
          refine RS.nil ?_
          refine T.region ?_
          refine RS.op rfl (OP.q rfl (v_move (v := .int .i64 s36) rfl ?_))
          refine RS.op rfl (OP.q rfl (v_mul rfl rfl ?_))
          refine RS.op rfl (OP.q rfl (v_move (v := .int .u8 x39) rfl ?_))
          refine RS.op rfl (o_conv Try.underlying5 Try.underlying3 rfl ?_)
          refine RS.op rfl (OP.q rfl (v_add rfl rfl ?_))
          refine RS.op rfl (OP.q rfl (v_assign (v := .int .i64 (IntKind.i64.wrap ((IntKind.i64.wrap (2 * s36)) + (IntKind.i64.wrap x39)))) rfl ?_))
          refine RS.nil ?_
          refine T.region ?_
          refine RS.op rfl (OP.q rfl (v_add rfl rfl ?_))
          refine RS.op rfl (OP.q rfl (v_move (v := .int .i64 (IntKind.i64.wrap (s37 + 1))) rfl ?_))
          refine RS.nil ?_
          exact ⟨(IntKind.i64.wrap ((IntKind.i64.wrap (2 * s36)) + (IntKind.i64.wrap x39)), IntKind.i64.wrap (s37 + 1)), (Option.some.inj h).symm, Weak.mkN [] [] (by decide) (none_kept _) rfl ⟨rn_int rfl, rn_sl enc8_p rfl, rn_int rfl, rn_int rfl, trivial⟩ (rw_nil)⟩
        · replace h := ite_F h hb_62
          refine T.exit ?_
          obtain ⟨w_63, h, hw_63⟩ := map_inr h
          replace h := h.trans (congrArg some (hv_61 _ hw_63))
          refine T.seq ?_
          refine T.region ?_
          refine RS.op rfl (OP.q rfl (v_move (v := .int .i64 s36) rfl ?_))
          refine RS.op rfl (OP.q rfl (v_assign (v := .int .i64 s36) rfl ?_))
          refine RS.nil ?_
          refine T.ret' (R := ?R64) ?hq64 ?_
          case hq64 => repeat (first | exact RetIs.base | refine RetIs.thn ?_ | refine RetIs.blk ?_ | refine RetIs.lq ?_)
          refine res_tmpA (v := .int .i64 s36) rfl ?_
          refine res_done ?_
          exact ret_data (v := .int .i64 s36) rfl (pure_int _ _) ⟨congrArg (fun r : Int => (.int .i64 r : AV)) (Option.some.inj h), rfl⟩
theorem crossref_Framed_c (p0 : List UInt8) (r : List UInt8) (h : crossref_Framed p0 = some r) : Fn Try.prog 22 [.str p0] (.str r) := by
  unfold crossref_Framed at h
  refine fn_of_T (N := 0) rfl Try.func22 rfl (by kernel_rfl) Try.ntmps22 rfl ?_
  show T _ _ _ _ (mkA 24 [(0, .str p0)]) []
  refine T.seq ?_
  refine T.region ?_
  refine RS.op rfl (OP.q rfl (v_assign (v := .str []) rfl ?_))
  refine RS.nil ?_
  refine T.seq ?_
  obtain ⟨x2, hx2, h⟩ := bind_some h
  refine T.region ?_
  refine RS.op rfl (OP.q rfl (v_move (v := .str p0) rfl ?_))
  refine RS.op rfl (OP.q rfl (v_len_str Try.underlying9 rfl ?_))
  refine RS.op rfl (o_conv Try.underlying3 Try.underlying5 rfl ?_)
  refine RS.op rfl (o_buildSlice (rows := List.map enc8 [IntKind.u8.wrap ((p0).length : Int)]) (vs := [.int .u8 (IntKind.u8.wrap ((p0).length : Int))]) Ty.s67 Ty.z5 rfl rfl rfl rfl rfl (aw' := [.arr 5 1 (List.map enc8 [IntKind.u8.wrap ((p0).length : Int)])]) rfl ?_)
  refine RS.op rfl (o_conv_bytes (xs := [IntKind.u8.wrap ((p0).length : Int)]) Try.underlying67 Try.underlying5 Try.underlying9 rfl rfl ?_)
  refine RS.op rfl (OP.q rfl (v_move (v := .str p0) rfl ?_))
  refine RS.op rfl (OP.q rfl (v_sadd rfl rfl hx2 ?_))
  refine RS.op rfl (OP.q rfl (v_assign (v := .str x2) rfl ?_))
  refine RS.nil ?_
  refine T.seq ?_
  obtain ⟨x4, hx4, h⟩ := bind_some h
  refine T.region ?_
  refine RS.op rfl (OP.q rfl (v_move (v := .str x2) rfl ?_))
  refine RS.op rfl (o_call (as0 := [.str x2]) (as1 := [.str x2]) (caps := []) (aw1 := [.dead]) rfl rfl rfl (k_flat (v := .int .i64 x4) (crossref_SumOf_c x2 x4 hx4) (⟨pure_str _, trivial⟩) rfl ?_))
  refine RS.op rfl (OP.q rfl (v_assign (v := .int .i64 x4) rfl ?_))
  refine RS.nil ?_
  refine T.seq ?_
  obtain ⟨x8, hx8, h⟩ := bind_some h
  obtain ⟨x9, hx9, h⟩ := bind_some h
  obtain ⟨x10, hx10, h⟩ := bind_some h
  refine T.region ?_
  refine RS.op rfl (OP.q rfl (v_move (v := .str x2) rfl ?_))
  refine RS.op rfl (OP.q rfl (v_move (v := .int .i64 x4) rfl ?_))
  refine RS.op rfl (OP.q rfl (v_quo rfl rfl hx8 ?_))
  refine RS.op rfl (o_conv Try.underlying3 Try.underlying5 rfl ?_)
  refine RS.op rfl (OP.q rfl (v_move (v := .int .i64 x4) rfl ?_))
  refine RS.op rfl (OP.q rfl (v_rem rfl rfl hx9 ?_))
  refine RS.op rfl (o_conv Try.underlying3 Try.underlying5 rfl ?_)
  refine RS.op rfl (o_buildSlice (rows := List.map enc8 [IntKind.u8.wrap x8, IntKind.u8.wrap x9]) (vs := [.int .u8 (IntKind.u8.wrap x8), .int .u8 (IntKind.u8.wrap x9)]) Ty.s67 Ty.z5 rfl rfl rfl rfl rfl (aw' := [.dead, .arr 5 1 (List.map enc8 [IntKind.u8.wrap x8, IntKind.u8.wrap x9])]) rfl ?_)
  refine RS.op rfl (o_conv_bytes (xs := [IntKind.u8.wrap x8, IntKind.u8.wrap x9]) Try.underlying67 Try.underlying5 Try.underlying9 rfl rfl ?_)
  refine RS.op rfl (OP.q rfl (v_sadd rfl rfl hx10 ?_))
  refine RS.op rfl (OP.q rfl (v_assign (v := .str x10) rfl ?_))
  refine RS.nil ?_
  refine T.ret' (R := ?R1) ?hq1 ?_
  case hq1 => repeat (first | exact RetIs.base | refine RetIs.thn ?_ | refine RetIs.blk ?_ | refine RetIs.lq ?_)
  refine res_tmpA (v := .str x10) rfl ?_
  refine res_done ?_
  exact ret_data (v := .str x10) rfl (pure_str _) ⟨congrArg (fun r : List UInt8 => (.str r : AV)) (Option.some.inj h), rfl⟩
theorem crossref_Unframe_c (p0 : List UInt8) (r : (List (List UInt8)) × Int) (h : crossref_Unframe p0 = some r) : FnO Try.prog 23 [.str p0] (.tup [.ref 0, .int .i64 r.2]) [.arr 9 1 (List.map encS r.1)] := by
  unfold crossref_Unframe at h
  refine fn_of_T (N := 0) rfl Try.func23 rfl (by kernel_rfl) Try.ntmps23 rfl ?_
  show T _ _ _ _ (mkA 55 [(0, .str p0)]) []
  refine T.seq ?_
  refine T.region ?_
  refine RS.op rfl (OP.q rfl (v_assign (v := .nils) rfl ?_))
  refine RS.op rfl (OP.q rfl (v_assign (v := .int .i64 0) rfl ?_))
  refine RS.nil ?_
  refine T.block ?_
  refine T.iter (fun ss_17 : Int × (List (List UInt8)) => mkA 55 [(0, .str p0), (2, .ref 0), (3, .int .i64 ss_17.1)]) (fun ss_17 => [.arr 9 1 (List.map encS ss_17.2)]) h (Weak.mkN [(2, 9, 1)] [0] (by decide) (none_kept _) rfl ⟨rn_str rfl, rn_ref rfl, rn_int rfl, trivial⟩ (rw_arr (en := encS) (ys := []) rfl encS_p rfl (rw_nil))) (fun ss_17 v_18 h hv_18 => ?_)
  obtain ⟨s1, s2⟩ := ss_17
  replace h : crossref_Unframe_l1 p0 s1 s2 = some v_18 := h
  show T _ _ _ _ (mkA 55 [(0, .str p0), (2, .ref 0), (3, .int .i64 s1)]) [.arr 9 1 (List.map encS s2)]
  unfold crossref_Unframe_l1 at h
  refine T.block ?_
  refine T.seq ?_
  obtain ⟨x4, hx4, h⟩ := bind_some h
  refine T.region ?_
  refine RS.op rfl (OP.q rfl (v_move (v := .str p0) rfl ?_))
  refine RS.op rfl (OP.q rfl (v_move (v := .int .i64 s1) rfl ?_))
  refine RS.op rfl (o_slice_str Try.underlying9 rfl rfl rfl hx4 ?_)
  refine RS.op rfl (OP.q rfl (v_assign (v := .str x4) rfl ?_))
  refine RS.nil ?_
  refine T.seq ?_
  refine T.seq ?_
  refine T.region ?_
  refine RS.op rfl (OP.q rfl (v_move (v := .str x4) rfl ?_))
  refine RS.op rfl (OP.q rfl (v_len_str Try.underlying9 rfl ?_))
  refine RS.op rfl (OP.q rfl (v_lss rfl rfl ?_))
  refine RS.nil ?_
  refine T.cond (b := decide (((x4).length : Int) < 4)) rfl (fun hb_19 => ?_) (fun hb_19 => ?_)
  · replace h := ite_T h hb_19
    refine T.seq ?_
    refine T.region ?_
    refine RS.op rfl (OP.q rfl (v_move (v := .ref 0) rfl ?_))
    refine RS.op rfl (OP.q rfl (v_move (v := .int .i64 s1) rfl ?_))
    refine RS.op rfl (OP.q rfl (v_assign (v := .ref 0) rfl ?_))
    refine RS.op rfl (OP.q rfl (v_assign (v := .int .i64 s1) rfl ?_))
    refine RS.nil ?_
    refine T.ret' (R := ?R20) ?hq20 ?_
    case hq20 => repeat (first | exact RetIs.base | refine RetIs.thn ?_ | refine RetIs.blk ?_ | refine RetIs.lq ?_)
    obtain ⟨w_21, h, hw_21⟩ := map_inr h
    replace h := h.trans (congrArg some (hv_18 _ hw_21))
    refine res_tmpA (v := .ref 0) rfl ?_
    refine res_tmpA (v := .int .i64 s1) rfl ?_
    refine res_done ?_
    exact ret_own (.tup [.ref 0, .int .i64 r.2]) [] [0] (by decide) (none_kept _) rfl (rn_tup ⟨rn_ref rfl, rn_int (congrArg (fun r : (List (List UInt8)) × Int => r.2) (Option.some.inj h)).symm, trivial⟩) (rw_arr rfl encS_p (congrArg (fun r : (List (List UInt8)) × Int => r.1) (Option.some.inj h)).symm (rw_nil)) ⟨rfl, rfl⟩
  · replace h := ite_F h hb_19
    refine T.skip ?_
    refine T.seq ?_
    obtain ⟨x6, hx6, h⟩ := bind_some h
    refine T.region ?_
    refine RS.op rfl (OP.q rfl (v_move (v := .str x4) rfl ?_))
    refine RS.op rfl (OP.q rfl (v_index_str Try.underlying9 rfl rfl hx6 ?_))
    refine RS.op rfl (o_conv Try.underlying5 Try.underlying3 rfl ?_)
    refine RS.op rfl (OP.q rfl (v_assign (v := .int .i64 (IntKind.i64.wrap (x6.toNat : Int))) rfl ?_))
    refine RS.nil ?_
    refine T.seq ?_
    obtain ⟨zt_25, hz, h⟩ := bind_some h
    revert hz h; revert zt_25; intro c10 hz h
    refine T.join (Z := Unit) (fun _ => mkA 55 [(0, .str p0), (2, .ref 0), (3, .int .i64 s1), (4, .str x4), (5, .int .i64 (IntKind.i64.wrap (x6.toNat : Int))), (41, .bool c10)]) (fun _ => [.arr 9 1 (List.map encS s2)]) (fun _ => True) (fun _ _ => ?_) (fun hK => ?_)
    · show T _ _ _ _ (mkA 55 [(0, .str p0), (2, .ref 0), (3, .int .i64 s1), (4, .str x4), (5, .int .i64 (IntKind.i64.wrap (x6.toNat : Int))), (41, .bool c10)]) [.arr 9 1 (List.map encS s2)]
      refine T.cond (b := c10) rfl (fun hb_26 => ?_) (fun hb_26 => ?_)
      · replace h := ite_T h hb_26
        refine T.seq ?_
        refine T.region ?_
        refine RS.op rfl (OP.q rfl (v_move (v := .ref 0) rfl ?_))
        refine RS.op rfl (OP.q rfl (v_move (v := .int .i64 s1) rfl ?_))
        refine RS.op rfl (OP.q rfl (v_assign (v := .ref 0) rfl ?_))
        refine RS.op rfl (OP.q rfl (v_assign (v := .int .i64 s1) rfl ?_))
        refine RS.nil ?_
        refine T.ret' (R := ?R27) ?hq27 ?_
        case hq27 => repeat (first | exact RetIs.base | refine RetIs.thn ?_ | refine RetIs.blk ?_ | refine RetIs.lq ?_)
        obtain ⟨w_28, h, hw_28⟩ := map_inr h
        replace h := h.trans (congrArg some (hv_18 _ hw_28))
        refine res_tmpA (v := .ref 0) rfl ?_
        refine res_tmpA (v := .int .i64 s1) rfl ?_
        refine res_done ?_
        exact ret_own (.tup [.ref 0, .int .i64 r.2]) [] [0] (by decide) (none_kept _) rfl (rn_tup ⟨rn_ref rfl, rn_int (congrArg (fun r : (List (List UInt8)) × Int => r.2) (Option.some.inj h)).symm, trivial⟩) (rw_arr rfl encS_p (congrArg (fun r : (List (List UInt8)) × Int => r.1) (Option.some.inj h)).symm (rw_nil)) ⟨rfl, rfl⟩
      · replace h := ite_F h hb_26
        refine T.skip ?_
        refine T.seq ?_
        obtain ⟨x13, hx13, h⟩ := bind_some h
        obtain ⟨x14, hx14, h⟩ := bind_some h
        refine T.region ?_
        refine RS.op rfl (OP.q rfl (v_move (v := .ref 0) rfl ?_))
        refine RS.op rfl (OP.q rfl (v_move (v := .str x4) rfl ?_))
        refine RS.op rfl (OP.q rfl (v_move (v := .int .i64 (IntKind.i64.wrap (x6.toNat : Int))) rfl ?_))
        refine RS.op rfl (OP.q rfl (v_add rfl rfl ?_))
        refine RS.op rfl (o_slice_str Try.underlying9 rfl rfl rfl hx13 ?_)
        refine RS.op rfl (o_buildSlice (rows := List.map encS [x13]) (vs := [.str x13]) Ty.s29 Ty.z9 rfl rfl rfl rfl rfl (aw' := [.arr 9 1 (List.map encS s2), .arr 9 1 (List.map encS [x13])]) rfl ?_)
        refine RS.op rfl (o_app_ref (en := encS) (xs := s2) (ys := ([x13] : List (List UInt8))) Ty.s29 (fun _ => rfl) rfl rfl rfl hx14 rfl (aw' := [.dead, .dead, .arr 9 1 (List.map encS x14)]) rfl ?_)
        refine RS.op rfl (OP.q rfl (v_assign (v := .ref 2) rfl ?_))
        refine RS.nil ?_
        refine T.region ?_
        refine RS.op rfl (OP.q rfl (v_move (v := .int .i64 s1) rfl ?_))
        refine RS.op rfl (OP.q rfl (v_move (v := .int .i64 (IntKind.i64.wrap (x6.toNat : Int))) rfl ?_))
        refine RS.op rfl (OP.q rfl (v_add rfl rfl ?_))
        refine RS.op rfl (OP.q rfl (v_add rfl rfl ?_))
        refine RS.op rfl (OP.q rfl (v_assign (v := .int .i64 (IntKind.i64.wrap (s1 + (IntKind.i64.wrap ((IntKind.i64.wrap (x6.toNat : Int)) + 3))))) rfl ?_))
        refine RS.nil ?_
        exact ⟨(IntKind.i64.wrap (s1 + (IntKind.i64.wrap ((IntKind.i64.wrap (x6.toNat : Int)) + 3))), x14), (Option.some.inj h).symm, Weak.mkN [] [2] (by decide) (none_kept _) rfl ⟨rn_str rfl, rn_ref rfl, rn_int rfl, trivial⟩ (rw_arr rfl encS_p rfl (rw_nil))⟩
    · rcases bool_cases (decide ((IntKind.i64.wrap (x6.toNat : Int)) < 1)) with hb_22 | hb_22
      · replace hz := ite_T hz hb_22
        refine T.drawn mixed (k := 25) rfl ?_
        refine RA.t0 (i := 0) (li' := #[true, false, false, false, false, false, false, false, false, false, false, false, false, false, false, false, false, false, false, false, false, false, false, false, false]) rfl (by decide +kernel) (by decide +kernel) (by decide +kernel) (by decide +kernel) rfl rfl (v_move (v := .int .i64 (IntKind.i64.wrap (x6.toNat : Int))) rfl ?_)
        refine RA.t0 (i := 1) (li' := #[true, true, false, false, false, false, false, false, false, false, false, false, false, false, false, false, false, false, false, false, false, false, false, false, false]) rfl (by decide +kernel) (by decide +kernel) (by decide +kernel) (by decide +kernel) rfl rfl (v_lss rfl rfl ?_)
        refine RA.t0 (i := 2) (li' := #[true, true, true, false, false, false, false, false, false, false, false, false, false, false, false, false, false, false, false, false, false, false, false, false, false]) rfl (by decide +kernel) (by decide +kernel) (by decide +kernel) (by decide +kernel) rfl rfl (v_move (v := .bool (decide ((IntKind.i64.wrap (x6.toNat : Int)) < 1))) rfl ?_)
        refine RA.t2 (i := 3) (li' := #[true, true, true, true, false, false, false, false, false, false, false, false, false, false, false, false, false, false, false, false, false, false, false, false, false]) rfl (by decide +kernel) (by decide +kernel) (by decide +kernel) (by decide +kernel) rfl rfl rfl hb_22 ?_
        refine RA.t2 (i := 4) (li' := #[true, true, true, true, true, false, false, false, false, false, false, false, false, false, false, false, false, false, false, false, false, false, false, false, false]) rfl (by decide +kernel) (by decide +kernel) (by decide +kernel) (by decide +kernel) rfl rfl rfl hb_22 ?_
        refine RA.t0 (i := 5) (li' := #[true, true, true, true, true, true, false, false, false, false, false, false, false, false, false, false, false, false, false, false, false, false, false, false, false]) rfl (by decide +kernel) (by decide +kernel) (by decide +kernel) (by decide +kernel) rfl rfl (v_pickT (v := .bool true) rfl hb_22 rfl ?_)
        refine RA.t0 (i := 6) (li' := #[true, true, true, true, true, true, true, false, false, false, false, false, false, false, false, false, false, false, false, false, false, false, false, false, false]) rfl (by decide +kernel) (by decide +kernel) (by decide +kernel) (by decide +kernel) rfl rfl (v_move (v := .bool true) rfl ?_)
        refine RA.t2 (i := 7) (li' := #[true, true, true, true, true, true, true, true, false, false, false, false, false, false, false, false, false, false, false, false, false, false, false, false, false]) rfl (by decide +kernel) (by decide +kernel) (by decide +kernel) (by decide +kernel) rfl rfl rfl rfl ?_
        refine RA.t2 (i := 8) (li' := #[true, true, true, true, true, true, true, true, true, false, false, false, false, false, false, false, false, false, false, false, false, false, false, false, false]) rfl (by decide +kernel) (by decide +kernel) (by decide +kernel) (by decide +kernel) rfl rfl rfl rfl ?_
        refine RA.t2 (i := 9) (li' := #[true, true, true, true, true, true, true, true, true, true, false, false, false, false, false, false, false, false, false, false, false, false, false, false, false]) rfl (by decide +kernel) (by decide +kernel) (by decide +kernel) (by decide +kernel) rfl rfl rfl rfl ?_
        refine RA.t2 (i := 10) (li' := #[true, true, true, true, true, true, true, true, true, true, true, false, false, false, false, false, false, false, false, false, false, false, false, false, false]) rfl (by decide +kernel) (by decide +kernel) (by decide +kernel) (by decide +kernel) rfl rfl rfl rfl ?_
        refine RA.t2 (i := 11) (li' := #[true, true, true, true, true, true, true, true, true, true, true, true, false, false, false, false, false, false, false, false, false, false, false, false, false]) rfl (by decide +kernel) (by decide +kernel) (by decide +kernel) (by decide +kernel) rfl rfl rfl rfl ?_
        refine RA.t0 (i := 12) (li' := #[true, true, true, true, true, true, true, true, true, true, true, true, true, false, false, false, false, false, false, false, false, false, false, false, false]) rfl (by decide +kernel) (by decide +kernel) (by decide +kernel) (by decide +kernel) rfl rfl (v_pickT (v := .bool true) rfl rfl rfl ?_)
        refine RA.t0 (i := 13) (li' := #[true, true, true, true, true, true, true, true, true, true, true, true, true, true, false, false, false, false, false, false, false, false, false, false, false]) rfl (by decide +kernel) (by decide +kernel) (by decide +kernel) (by decide +kernel) rfl rfl (v_move (v := .bool true) rfl ?_)
        refine RA.t2 (i := 14) (li' := #[true, true, true, true, true, true, true, true, true, true, true, true, true, true, true, false, false, false, false, false, false, false, false, false, false]) rfl (by decide +kernel) (by decide +kernel) (by decide +kernel) (by decide +kernel) rfl rfl rfl rfl ?_
        refine RA.t2 (i := 15) (li' := #[true, true, true, true, true, true, true, true, true, true, true, true, true, true, true, true, false, false, false, false, false, false, false, false, false]) rfl (by decide +kernel) (by decide +kernel) (by decide +kernel) (by decide +kernel) rfl rfl rfl rfl ?_
        refine RA.t2 (i := 16) (li' := #[true, true, true, true, true, true, true, true, true, true, true, true, true, true, true, true, true, false, false, false, false, false, false, false, false]) rfl (by decide +kernel) (by decide +kernel) (by decide +kernel) (by decide +kernel) rfl rfl rfl rfl ?_
        refine RA.t2 (i := 17) (li' := #[true, true, true, true, true, true, true, true, true, true, true, true, true, true, true, true, true, true, false, false, false, false, false, false, false]) rfl (by decide +kernel) (by decide +kernel) (by decide +kernel) (by decide +kernel) rfl rfl rfl rfl ?_
        refine RA.t2 (i := 18) (li' := #[true, true, true, true, true, true, true, true, true, true, true, true, true, true, true, true, true, true, true, false, false, false, false, false, false]) rfl (by decide +kernel) (by decide +kernel) (by decide +kernel) (by decide +kernel) rfl rfl rfl rfl ?_
        refine RA.t2 (i := 19) (li' := #[true, true, true, true, true, true, true, true, true, true, true, true, true, true, true, true, true, true, true, true, false, false, false, false, false]) rfl (by decide +kernel) (by decide +kernel) (by decide +kernel) (by decide +kernel) rfl rfl rfl rfl ?_
        refine RA.t2 (i := 20) (li' := #[true, true, true, true, true, true, true, true, true, true, true, true, true, true, true, true, true, true, true, true, true, false, false, false, false]) rfl (by decide +kernel) (by decide +kernel) (by decide +kernel) (by decide +kernel) rfl rfl rfl rfl ?_
        refine RA.t2 (i := 21) (li' := #[true, true, true, true, true, true, true, true, true, true, true, true, true, true, true, true, true, true, true, true, true, true, false, false, false]) rfl (by decide +kernel) (by decide +kernel) (by decide +kernel) (by decide +kernel) rfl rfl rfl rfl ?_
        refine RA.t2 (i := 22) (li' := #[true, true, true, true, true, true, true, true, true, true, true, true, true, true, true, true, true, true, true, true, true, true, true, false, false]) rfl (by decide +kernel) (by decide +kernel) (by decide +kernel) (by decide +kernel) rfl rfl rfl rfl ?_
        refine RA.t2 (i := 23) (li' := #[true, true, true, true, true, true, true, true, true, true, true, true, true, true, true, true, true, true, true, true, true, true, true, true, false]) rfl (by decide +kernel) (by decide +kernel) (by decide +kernel) (by decide +kernel) rfl rfl rfl rfl ?_
        refine RA.t0 (i := 24) (li' := #[true, true, true, true, true, true, true, true, true, true, true, true, true, true, true, true, true, true, true, true, true, true, true, true, true]) rfl (by decide +kernel) (by decide +kernel) (by decide +kernel) (by decide +kernel) rfl rfl (v_pickT (v := .bool true) rfl rfl rfl ?_)
        refine RA.done (by decide +kernel) ?_
        exact T.weakR (hK () trivial) (Weak.mkN [] [0] (by decide) (none_kept _) rfl ⟨rn_str rfl, rn_ref rfl, rn_int rfl, rn_str rfl, rn_int rfl, rn_bool ((congrArg (fun p => p) (Option.some.inj hz)).symm), trivial⟩ (rw_arr rfl encS_p rfl (rw_nil)))
      · replace hz := ite_F hz hb_22
        rcases bool_cases (decide ((IntKind.i64.wrap (x6.toNat : Int)) > 60)) with hb_23 | hb_23
        · replace hz := ite_T hz hb_23
          refine T.drawn mixed (k := 25) rfl ?_
          refine RA.t0 (i := 0) (li' := #[true, false, false, false, false, false, false, false, false, false, false, false, false, false, false, false, false, false, false, false, false, false, false, false, false]) rfl (by decide +kernel) (by decide +kernel) (by decide +kernel) (by decide +kernel) rfl rfl (v_move (v := .int .i64 (IntKind.i64.wrap (x6.toNat : Int))) rfl ?_)
          refine RA.t0 (i := 1) (li' := #[true, true, false, false, false, false, false, false, false, false, false, false, false, false, false, false, false, false, false, false, false, false, false, false, false]) rfl (by decide +kernel) (by decide +kernel) (by decide +kernel) (by decide +kernel) rfl rfl (v_lss rfl rfl ?_)
          refine RA.t0 (i := 2) (li' := #[true, true, true, false, false, false, false, false, false, false, false, false, false, false, false, false, false, false, false, false, false, false, false, false, false]) rfl (by decide +kernel) (by decide +kernel) (by decide +kernel) (by decide +kernel) rfl rfl (v_move (v := .bool (decide ((IntKind.i64.wrap (x6.toNat : Int)) < 1))) rfl ?_)
          refine RA.t1 (i := 3) (li' := #[true, true, true, true, false, false, false, false, false, false, false, false, false, false, false, false, false, false, false, false, false, false, false, false, false]) rfl (by decide +kernel) (by decide +kernel) (by decide +kernel) (by decide +kernel) rfl rfl rfl hb_22 rfl (v_move (v := .int .i64 (IntKind.i64.wrap (x6.toNat : Int))) rfl ?_)
          refine RA.t1 (i := 4) (li' := #[true, true, true, true, true, false, false, false, false, false, false, false, false, false, false, false, false, false, false, false, false, false, false, false, false]) rfl (by decide +kernel) (by decide +kernel) (by decide +kernel) (by decide +kernel) rfl rfl rfl hb_22 rfl (v_gtr rfl rfl ?_)
          refine RA.t0 (i := 5) (li' := #[true, true, true, true, true, true, false, false, false, false, false, false, false, false, false, false, false, false, false, false, false, false, false, false, false]) rfl (by decide +kernel) (by decide +kernel) (by decide +kernel) (by decide +kernel) rfl rfl (v_pickF (v := .bool (decide ((IntKind.i64.wrap (x6.toNat : Int)) > 60))) rfl hb_22 rfl ?_)
          refine RA.t0 (i := 6) (li' := #[true, true, true, true, true, true, true, false, false, false, false, false, false, false, false, false, false, false, false, false, false, false, false, false, false]) rfl (by decide +kernel) (by decide +kernel) (by decide +kernel) (by decide +kernel) rfl rfl (v_move (v := .bool (decide ((IntKind.i64.wrap (x6.toNat : Int)) > 60))) rfl ?_)
          refine RA.t2 (i := 7) (li' := #[true, true, true, true, true, true, true, true, false, false, false, false, false, false, false, false, false, false, false, false, false, false, false, false, false]) rfl (by decide +kernel) (by decide +kernel) (by decide +kernel) (by decide +kernel) rfl rfl rfl hb_23 ?_
          refine RA.t2 (i := 8) (li' := #[true, true, true, true, true, true, true, true, true, false, false, false, false, false, false, false, false, false, false, false, false, false, false, false, false]) rfl (by decide +kernel) (by decide +kernel) (by decide +kernel) (by decide +kernel) rfl rfl rfl hb_23 ?_
          refine RA.t2 (i := 9) (li' := #[true, true, true, true, true, true, true, true, true, true, false, false, false, false, false, false, false, false, false, false, false, false, false, false, false]) rfl (by decide +kernel) (by decide +kernel) (by decide +kernel) (by decide +kernel) rfl rfl rfl hb_23 ?_
          refine RA.t2 (i := 10) (li' := #[true, true, true, true, true, true, true, true, true, true, true, false, false, false, false, false, false, false, false, false, false, false, false, false, false]) rfl (by decide +kernel) (by decide +kernel) (by decide +kernel) (by decide +kernel) rfl rfl rfl hb_23 ?_
          refine RA.t2 (i := 11) (li' := #[true, true, true, true, true, true, true, true, true, true, true, true, false, false, false, false, false, false, false, false, false, false, false, false, false]) rfl (by decide +kernel) (by decide +kernel) (by decide +kernel) (by decide +kernel) rfl rfl rfl hb_23 ?_
          refine RA.t0 (i := 12) (li' := #[true, true, true, true, true, true, true, true, true, true, true, true, true, false, false, false, false, false, false, false, false, false, false, false, false]) rfl (by decide +kernel) (by decide +kernel) (by decide +kernel) (by decide +kernel) rfl rfl (v_pickT (v := .bool true) rfl hb_23 rfl ?_)
          refine RA.t0 (i := 13) (li' := #[true, true, true, true, true, true, true, true, true, true, true, true, true, true, false, false, false, false, false, false, false, false, false, false, false]) rfl (by decide +kernel) (by decide +kernel) (by decide +kernel) (by decide +kernel) rfl rfl (v_move (v := .bool true) rfl ?_)
          refine RA.t2 (i := 14) (li' := #[true, true, true, true, true, true, true, true, true, true, true, true, true, true, true, false, false, false, false, false, false, false, false, false, false]) rfl (by decide +kernel) (by decide +kernel) (by decide +kernel) (by decide +kernel) rfl rfl rfl rfl ?_
          refine RA.t2 (i := 15) (li' := #[true, true, true, true, true, true, true, true, true, true, true, true, true, true, true, true, false, false, false, false, false, false, false, false, false]) rfl (by decide +kernel) (by decide +kernel) (by decide +kernel) (by decide +kernel) rfl rfl rfl rfl ?_
          refine RA.t2 (i := 16) (li' := #[true, true, true, true, true, true, true, true, true, true, true, true, true, true, true, true, true, false, false, false, false, false, false, false, false]) rfl (by decide +kernel) (by decide +kernel) (by decide +kernel) (by decide +kernel) rfl rfl rfl rfl ?_
          refine RA.t2 (i := 17) (li' := #[true, true, true, true, true, true, true, true, true, true, true, true, true, true, true, true, true, true, false, false, false, false, false, false, false]) rfl (by decide +kernel) (by decide +kernel) (by decide +kernel) (by decide +kernel) rfl rfl rfl rfl ?_
          refine RA.t2 (i := 18) (li' := #[true, true, true, true, true, true, true, true, true, true, true, true, true, true, true, true, true, true, true, false, false, false, false, false, false]) rfl (by decide +kernel) (by decide +kernel) (by decide +kernel) (by decide +kernel) rfl rfl rfl rfl ?_
          refine RA.t2 (i := 19) (li' := #[true, true, true, true, true, true, true, true, true, true, true, true, true, true, true, true, true, true, true, true, false, false, false, false, false]) rfl (by decide +kernel) (by decide +kernel) (by decide +kernel) (by decide +kernel) rfl rfl rfl rfl ?_
          refine RA.t2 (i := 20) (li' := #[true, true, true, true, true, true, true, true, true, true, true, true, true, true, true, true, true, true, true, true, true, false, false, false, false]) rfl (by decide +kernel) (by decide +kernel) (by decide +kernel) (by decide +kernel) rfl rfl rfl rfl ?_
          refine RA.t2 (i := 21) (li' := #[true, true, true, true, true, true, true, true, true, true, true, true, true, true, true, true, true, true, true, true, true, true, false, false, false]) rfl (by decide +kernel) (by decide +kernel) (by decide +kernel) (by decide +kernel) rfl rfl rfl rfl ?_
          refine RA.t2 (i := 22) (li' := #[true, true, true, true, true, true, true, true, true, true, true, true, true, true, true, true, true, true, true, true, true, true, true, false, false]) rfl (by decide +kernel) (by decide +kernel) (by decide +kernel) (by decide +kernel) rfl rfl rfl rfl ?_
          refine RA.t2 (i := 23) (li' := #[true, true, true, true, true, true, true, true, true, true, true, true, true, true, true, true, true, true, true, true, true, true, true, true, false]) rfl (by decide +kernel) (by decide +kernel) (by decide +kernel) (by decide +kernel) rfl rfl rfl rfl ?_
          refine RA.t0 (i := 24) (li' := #[true, true, true, true, true, true, true, true, true, true, true, true, true, true, true, true, true, true, true, true, true, true, true, true, true]) rfl (by decide +kernel) (by decide +kernel) (by decide +kernel) (by decide +kernel) rfl rfl (v_pickT (v := .bool true) rfl rfl rfl ?_)
          refine RA.done (by decide +kernel) ?_
          exact T.weakR (hK () trivial) (Weak.mkN [] [0] (by decide) (none_kept _) rfl ⟨rn_str rfl, rn_ref rfl, rn_int rfl, rn_str rfl, rn_int rfl, rn_bool ((congrArg (fun p => p) (Option.some.inj hz)).symm), trivial⟩ (rw_arr rfl encS_p rfl (rw_nil)))
        · replace hz := ite_F hz hb_23
          rcases bool_cases (decide ((IntKind.i64.wrap ((IntKind.i64.wrap (x6.toNat : Int)) + 3)) > ((x4).length : Int))) with hb_24 | hb_24
          · replace hz := ite_T hz hb_24
            refine T.drawn mixed (k := 25) rfl ?_
            refine RA.t0 (i := 0) (li' := #[true, false, false, false, false, false, false, false, false, false, false, false, false, false, false, false, false, false, false, false, false, false, false, false, false]) rfl (by decide +kernel) (by decide +kernel) (by decide +kernel) (by decide +kernel) rfl rfl (v_move (v := .int .i64 (IntKind.i64.wrap (x6.toNat : Int))) rfl ?_)
            refine RA.t0 (i := 1) (li' := #[true, true, false, false, false, false, false, false, false, false, false, false, false, false, false, false, false, false, false, false, false, false, false, false, false]) rfl (by decide +kernel) (by decide +kernel) (by decide +kernel) (by decide +kernel) rfl rfl (v_lss rfl rfl ?_)
            refine RA.t0 (i := 2) (li' := #[true, true, true, false, false, false, false, false, false, false, false, false, false, false, false, false, false, false, false, false, false, false, false, false, false]) rfl (by decide +kernel) (by decide +kernel) (by decide +kernel) (by decide +kernel) rfl rfl (v_move (v := .bool (decide ((IntKind.i64.wrap (x6.toNat : Int)) < 1))) rfl ?_)
            refine RA.t1 (i := 3) (li' := #[true, true, true, true, false, false, false, false, false, false, false, false, false, false, false, false, false, false, false, false, false, false, false, false, false]) rfl (by decide +kernel) (by decide +kernel) (by decide +kernel) (by decide +kernel) rfl rfl rfl hb_22 rfl (v_move (v := .int .i64 (IntKind.i64.wrap (x6.toNat : Int))) rfl ?_)
            refine RA.t1 (i := 4) (li' := #[true, true, true, true, true, false, false, false, false, false, false, false, false, false, false, false, false, false, false, false, false, false, false, false, false]) rfl (by decide +kernel) (by decide +kernel) (by decide +kernel) (by decide +kernel) rfl rfl rfl hb_22 rfl (v_gtr rfl rfl ?_)
            refine RA.t0 (i := 5) (li' := #[true, true, true, true, true, true, false, false, false, false, false, false, false, false, false, false, false, false, false, false, false, false, false, false, false]) rfl (by decide +kernel) (by decide +kernel) (by decide +kernel) (by decide +kernel) rfl rfl (v_pickF (v := .bool (decide ((IntKind.i64.wrap (x6.toNat : Int)) > 60))) rfl hb_22 rfl ?_)
            refine RA.t0 (i := 6) (li' := #[true, true, true, true, true, true, true, false, false, false, false, false, false, false, false, false, false, false, false, false, false, false, false, false, false]) rfl (by decide +kernel) (by decide +kernel) (by decide +kernel) (by decide +kernel) rfl rfl (v_move (v := .bool (decide ((IntKind.i64.wrap (x6.toNat : Int)) > 60))) rfl ?_)
            refine RA.t1 (i := 7) (li' := #[true, true, true, true, true, true, true, true, false, false, false, false, false, false, false, false, false, false, false, false, false, false, false, false, false]) rfl (by decide +kernel) (by decide +kernel) (by decide +kernel) (by decide +kernel) rfl rfl rfl hb_23 rfl (v_move (v := .int .i64 (IntKind.i64.wrap (x6.toNat : Int))) rfl ?_)
            refine RA.t1 (i := 8) (li' := #[true, true, true, true, true, true, true, true, true, false, false, false, false, false, false, false, false, false, false, false, false, false, false, false, false]) rfl (by decide +kernel) (by decide +kernel) (by decide +kernel) (by decide +kernel) rfl rfl rfl hb_23 rfl (v_add rfl rfl ?_)
            refine RA.t1 (i := 9) (li' := #[true, true, true, true, true, true, true, true, true, true, false, false, false, false, false, false, false, false, false, false, false, false, false, false, false]) rfl (by decide +kernel) (by decide +kernel) (by decide +kernel) (by decide +kernel) rfl rfl rfl hb_23 rfl (v_move (v := .str x4) rfl ?_)
            refine RA.t1 (i := 10) (li' := #[true, true, true, true, true, true, true, true, true, true, true, false, false, false, false, false, false, false, false, false, false, false, false, false, false]) rfl (by decide +kernel) (by decide +kernel) (by decide +kernel) (by decide +kernel) rfl rfl rfl hb_23 rfl (v_len_str Try.underlying9 rfl ?_)
            refine RA.t1 (i := 11) (li' := #[true, true, true, true, true, true, true, true, true, true, true, true, false, false, false, false, false, false, false, false, false, false, false, false, false]) rfl (by decide +kernel) (by decide +kernel) (by decide +kernel) (by decide +kernel) rfl rfl rfl hb_23 rfl (v_gtr rfl rfl ?_)
            refine RA.t0 (i := 12) (li' := #[true, true, true, true, true, true, true, true, true, true, true, true, true, false, false, false, false, false, false, false, false, false, false, false, false]) rfl (by decide +kernel) (by decide +kernel) (by decide +kernel) (by decide +kernel) rfl rfl (v_pickF (v := .bool (decide ((IntKind.i64.wrap ((IntKind.i64.wrap (x6.toNat : Int)) + 3)) > ((x4).length : Int)))) rfl hb_23 rfl ?_)
            refine RA.t0 (i := 13) (li' := #[true, true, true, true, true, true, true, true, true, true, true, true, true, true, false, false, false, false, false, false, false, false, false, false, false]) rfl (by decide +kernel) (by decide +kernel) (by decide +kernel) (by decide +kernel) rfl rfl (v_move (v := .bool (decide ((IntKind.i64.wrap ((IntKind.i64.wrap (x6.toNat : Int)) + 3)) > ((x4).length : Int)))) rfl ?_)
            refine RA.t2 (i := 14) (li' := #[true, true, true, true, true, true, true, true, true, true, true, true, true, true, true, false, false, false, false, false, false, false, false, false, false]) rfl (by decide +kernel) (by decide +kernel) (by decide +kernel) (by decide +kernel) rfl rfl rfl hb_24 ?_
            refine RA.t2 (i := 15) (li' := #[true, true, true, true, true, true, true, true, true, true, true, true, true, true, true, true, false, false, false, false, false, false, false, false, false]) rfl (by decide +kernel) (by decide +kernel) (by decide +kernel) (by decide +kernel) rfl rfl rfl hb_24 ?_
            refine RA.t2 (i := 16) (li' := #[true, true, true, true, true, true, true, true, true, true, true, true, true, true, true, true, true, false, false, false, false, false, false, false, false]) rfl (by decide +kernel) (by decide +kernel) (by decide +kernel) (by decide +kernel) rfl rfl rfl hb_24 ?_
            refine RA.t2 (i := 17) (li' := #[true, true, true, true, true, true, true, true, true, true, true, true, true, true, true, true, true, true, false, false, false, false, false, false, false]) rfl (by decide +kernel) (by decide +kernel) (by decide +kernel) (by decide +kernel) rfl rfl rfl hb_24 ?_
            refine RA.t2 (i := 18) (li' := #[true, true, true, true, true, true, true, true, true, true, true, true, true, true, true, true, true, true, true, false, false, false, false, false, false]) rfl (by decide +kernel) (by decide +kernel) (by decide +kernel) (by decide +kernel) rfl rfl rfl hb_24 ?_
            refine RA.t2 (i := 19) (li' := #[true, true, true, true, true, true, true, true, true, true, true, true, true, true, true, true, true, true, true, true, false, false, false, false, false]) rfl (by decide +kernel) (by decide +kernel) (by decide +kernel) (by decide +kernel) rfl rfl rfl hb_24 ?_
            refine RA.t2 (i := 20) (li' := #[true, true, true, true, true, true, true, true, true, true, true, true, true, true, true, true, true, true, true, true, true, false, false, false, false]) rfl (by decide +kernel) (by decide +kernel) (by decide +kernel) (by decide +kernel) rfl rfl rfl hb_24 ?_
            refine RA.t2 (i := 21) (li' := #[true, true, true, true, true, true, true, true, true, true, true, true, true, true, true, true, true, true, true, true, true, true, false, false, false]) rfl (by decide +kernel) (by decide +kernel) (by decide +kernel) (by decide +kernel) rfl rfl rfl hb_24 ?_
            refine RA.t2 (i := 22) (li' := #[true, true, true, true, true, true, true, true, true, true, true, true, true, true, true, true, true, true, true, true, true, true, true, false, false]) rfl (by decide +kernel) (by decide +kernel) (by decide +kernel) (by decide +kernel) rfl rfl rfl hb_24 ?_
            refine RA.t2 (i := 23) (li' := #[true, true, true, true, true, true, true, true, true, true, true, true, true, true, true, true, true, true, true, true, true, true, true, true, false]) rfl (by decide +kernel) (by decide +kernel) (by decide +kernel) (by decide +kernel) rfl rfl rfl hb_24 ?_
            refine RA.t0 (i := 24) (li' := #[true, true, true, true, true, true, true, true, true, true, true, true, true, true, true, true, true, true, true, true, true, true, true, true, true]) rfl (by decide +kernel) (by decide +kernel) (by decide +kernel) (by decide +kernel) rfl rfl (v_pickT (v := .bool true) rfl hb_24 rfl ?_)
            refine RA.done (by decide +kernel) ?_
            exact T.weakR (hK () trivial) (Weak.mkN [] [0] (by decide) (none_kept _) rfl ⟨rn_str rfl, rn_ref rfl, rn_int rfl, rn_str rfl, rn_int rfl, rn_bool ((congrArg (fun p => p) (Option.some.inj hz)).symm), trivial⟩ (rw_arr rfl encS_p rfl (rw_nil)))
          · replace hz := ite_F hz hb_24
            obtain ⟨x7, hx7, hz⟩ := bind_some hz
            obtain ⟨x8, hx8, hz⟩ := bind_some hz
            obtain ⟨x9, hx9, hz⟩ := bind_some hz
            refine T.drawn mixed (k := 25) rfl ?_
            refine RA.t0 (i := 0) (li' := #[true, false, false, false, false, false, false, false, false, false, false, false, false, false, false, false, false, false, false, false, false, false, false, false, false]) rfl (by decide +kernel) (by decide +kernel) (by decide +kernel) (by decide +kernel) rfl rfl (v_move (v := .int .i64 (IntKind.i64.wrap (x6.toNat : Int))) rfl ?_)
            refine RA.t0 (i := 1) (li' := #[true, true, false, false, false, false, false, false, false, false, false, false, false, false, false, false, false, false, false, false, false, false, false, false, false]) rfl (by decide +kernel) (by decide +kernel) (by decide +kernel) (by decide +kernel) rfl rfl (v_lss rfl rfl ?_)
            refine RA.t0 (i := 2) (li' := #[true, true, true, false, false, false, false, false, false, false, false, false, false, false, false, false, false, false, false, false, false, false, false, false, false]) rfl (by decide +kernel) (by decide +kernel) (by decide +kernel) (by decide +kernel) rfl rfl (v_move (v := .bool (decide ((IntKind.i64.wrap (x6.toNat : Int)) < 1))) rfl ?_)
            refine RA.t1 (i := 3) (li' := #[true, true, true, true, false, false, false, false, false, false, false, false, false, false, false, false, false, false, false, false, false, false, false, false, false]) rfl (by decide +kernel) (by decide +kernel) (by decide +kernel) (by decide +kernel) rfl rfl rfl hb_22 rfl (v_move (v := .int .i64 (IntKind.i64.wrap (x6.toNat : Int))) rfl ?_)
            refine RA.t1 (i := 4) (li' := #[true, true, true, true, true, false, false, false, false, false, false, false, false, false, false, false, false, false, false, false, false, false, false, false, false]) rfl (by decide +kernel) (by decide +kernel) (by decide +kernel) (by decide +kernel) rfl rfl rfl hb_22 rfl (v_gtr rfl rfl ?_)
            refine RA.t0 (i := 5) (li' := #[true, true, true, true, true, true, false, false, false, false, false, false, false, false, false, false, false, false, false, false, false, false, false, false, false]) rfl (by decide +kernel) (by decide +kernel) (by decide +kernel) (by decide +kernel) rfl rfl (v_pickF (v := .bool (decide ((IntKind.i64.wrap (x6.toNat : Int)) > 60))) rfl hb_22 rfl ?_)
            refine RA.t0 (i := 6) (li' := #[true, true, true, true, true, true, true, false, false, false, false, false, false, false, false, false, false, false, false, false, false, false, false, false, false]) rfl (by decide +kernel) (by decide +kernel) (by decide +kernel) (by decide +kernel) rfl rfl (v_move (v := .bool (decide ((IntKind.i64.wrap (x6.toNat : Int)) > 60))) rfl ?_)
            refine RA.t1 (i := 7) (li' := #[true, true, true, true, true, true, true, true, false, false, false, false, false, false, false, false, false, false, false, false, false, false, false, false, false]) rfl (by decide +kernel) (by decide +kernel) (by decide +kernel) (by decide +kernel) rfl rfl rfl hb_23 rfl (v_move (v := .int .i64 (IntKind.i64.wrap (x6.toNat : Int))) rfl ?_)
            refine RA.t1 (i := 8) (li' := #[true, true, true, true, true, true, true, true, true, false, false, false, false, false, false, false, false, false, false, false, false, false, false, false, false]) rfl (by decide +kernel) (by decide +kernel) (by decide +kernel) (by decide +kernel) rfl rfl rfl hb_23 rfl (v_add rfl rfl ?_)
            refine RA.t1 (i := 9) (li' := #[true, true, true, true, true, true, true, true, true, true, false, false, false, false, false, false, false, false, false, false, false, false, false, false, false]) rfl (by decide +kernel) (by decide +kernel) (by decide +kernel) (by decide +kernel) rfl rfl rfl hb_23 rfl (v_move (v := .str x4) rfl ?_)
            refine RA.t1 (i := 10) (li' := #[true, true, true, true, true, true, true, true, true, true, true, false, false, false, false, false, false, false, false, false, false, false, false, false, false]) rfl (by decide +kernel) (by decide +kernel) (by decide +kernel) (by decide +kernel) rfl rfl rfl hb_23 rfl (v_len_str Try.underlying9 rfl ?_)
            refine RA.t1 (i := 11) (li' := #[true, true, true, true, true, true, true, true, true, true, true, true, false, false, false, false, false, false, false, false, false, false, false, false, false]) rfl (by decide +kernel) (by decide +kernel) (by decide +kernel) (by decide +kernel) rfl rfl rfl hb_23 rfl (v_gtr rfl rfl ?_)
            refine RA.t0 (i := 12) (li' := #[true, true, true, true, true, true, true, true, true, true, true, true, true, false, false, false, false, false, false, false, false, false, false, false, false]) rfl (by decide +kernel) (by decide +kernel) (by decide +kernel) (by decide +kernel) rfl rfl (v_pickF (v := .bool (decide ((IntKind.i64.wrap ((IntKind.i64.wrap (x6.toNat : Int)) + 3)) > ((x4).length : Int)))) rfl hb_23 rfl ?_)
            refine RA.t0 (i := 13) (li' := #[true, true, true, true, true, true, true, true, true, true, true, true, true, true, false, false, false, false, false, false, false, false, false, false, false]) rfl (by decide +kernel) (by decide +kernel) (by decide +kernel) (by decide +kernel) rfl rfl (v_move (v := .bool (decide ((IntKind.i64.wrap ((IntKind.i64.wrap (x6.toNat : Int)) + 3)) > ((x4).length : Int)))) rfl ?_)
            refine RA.t1 (i := 14) (li' := #[true, true, true, true, true, true, true, true, true, true, true, true, true, true, true, false, false, false, false, false, false, false, false, false, false]) rfl (by decide +kernel) (by decide +kernel) (by decide +kernel) (by decide +kernel) rfl rfl rfl hb_24 rfl (v_move (v := .str x4) rfl ?_)
            refine RA.t1 (i := 15) (li' := #[true, true, true, true, true, true, true, true, true, true, true, true, true, true, true, true, false, false, false, false, false, false, false, false, false]) rfl (by decide +kernel) (by decide +kernel) (by decide +kernel) (by decide +kernel) rfl rfl rfl hb_24 rfl (v_move (v := .int .i64 (IntKind.i64.wrap (x6.toNat : Int))) rfl ?_)
            refine RA.t1 (i := 16) (li' := #[true, true, true, true, true, true, true, true, true, true, true, true, true, true, true, true, true, false, false, false, false, false, false, false, false]) rfl (by decide +kernel) (by decide +kernel) (by decide +kernel) (by decide +kernel) rfl rfl rfl hb_24 rfl (v_add rfl rfl ?_)
            refine RA.t1 (i := 17) (li' := #[true, true, true, true, true, true, true, true, true, true, true, true, true, true, true, true, true, true, false, false, false, false, false, false, false]) rfl (by decide +kernel) (by decide +kernel) (by decide +kernel) (by decide +kernel) rfl rfl rfl hb_24 rfl (v_slice_str Try.underlying9 rfl rfl rfl hx7 ?_)
            refine RA.t1 (i := 19) (li' := #[true, true, true, true, true, true, true, true, true, true, true, true, true, true, true, true, true, true, false, true, false, false, false, false, false]) rfl (by decide +kernel) (by decide +kernel) (by decide +kernel) (by decide +kernel) rfl rfl rfl hb_24 rfl (v_move (v := .str x4) rfl ?_)
            refine RA.t1 (i := 20) (li' := #[true, true, true, true, true, true, true, true, true, true, true, true, true, true, true, true, true, true, false, true, true, false, false, false, false]) rfl (by decide +kernel) (by decide +kernel) (by decide +kernel) (by decide +kernel) rfl rfl rfl hb_24 rfl (v_move (v := .int .i64 (IntKind.i64.wrap (x6.toNat : Int))) rfl ?_)
            refine RA.t1 (i := 21) (li' := #[true, true, true, true, true, true, true, true, true, true, true, true, true, true, true, true, true, true, false, true, true, true, false, false, false]) rfl (by decide +kernel) (by decide +kernel) (by decide +kernel) (by decide +kernel) rfl rfl rfl hb_24 rfl (v_add rfl rfl ?_)
            refine RA.t1 (i := 22) (li' := #[true, true, true, true, true, true, true, true, true, true, true, true, true, true, true, true, true, true, false, true, true, true, true, false, false]) rfl (by decide +kernel) (by decide +kernel) (by decide +kernel) (by decide +kernel) rfl rfl rfl hb_24 rfl (v_slice_str Try.underlying9 rfl rfl rfl hx9 ?_)
            refine RA.a1 (i1 := 18) (l1 := #[true, true, true, true, true, true, true, true, true, true, true, true, true, true, true, true, true, true, true, true, true, true, true, false, false]) (by decide +kernel) (by decide +kernel) ?_
            refine RO.yes rfl rfl rfl rfl hb_24 (o_call (as0 := [.str x7]) (as1 := [.str x7]) (caps := []) (aw1 := [.arr 9 1 (List.map encS s2)]) rfl rfl rfl (k_flat (v := .str x8) (crossref_Framed_c x7 x8 hx8) (⟨pure_str _, trivial⟩) rfl ?_))
            refine RA.t1 (i := 23) (li' := #[true, true, true, true, true, true, true, true, true, true, true, true, true, true, true, true, true, true, true, true, true, true, true, true, false]) rfl (by decide +kernel) (by decide +kernel) (by decide +kernel) (by decide +kernel) rfl rfl rfl hb_24 rfl (v_sneq rfl rfl ?_)
            refine RA.t0 (i := 24) (li' := #[true, true, true, true, true, true, true, true, true, true, true, true, true, true, true, true, true, true, true, true, true, true, true, true, true]) rfl (by decide +kernel) (by decide +kernel) (by decide +kernel) (by decide +kernel) rfl rfl (v_pickF (v := .bool (!(x8 == x9))) rfl hb_24 rfl ?_)
            refine RA.done (by decide +kernel) ?_
            exact T.weakR (hK () trivial) (Weak.mkN [] [0] (by decide) (none_kept _) rfl ⟨rn_str rfl, rn_ref rfl, rn_int rfl, rn_str rfl, rn_int rfl, rn_bool ((congrArg (fun p => p) (Option.some.inj hz)).symm), trivial⟩ (rw_arr rfl encS_p rfl (rw_nil)))
theorem crosslaw_FramePut_c (p0 : List UInt8) (p1 : List UInt8) (r : Bool) (h : crosslaw_FramePut p0 p1 = some r) : Fn Try.prog 4 [.str p0, .str p1] (.bool r) := by
  unfold crosslaw_FramePut at h
  refine fn_of_T (N := 0) rfl Try.func4 rfl (by kernel_rfl) Try.ntmps4 rfl ?_
  show T _ _ _ _ (mkA 83 [(0, .str p0), (1, .str p1)]) []
  refine T.seq ?_
  refine T.region ?_
  refine RS.op rfl (OP.q rfl (v_assign (v := .bool false) rfl ?_))
  refine RS.nil ?_
  refine T.seq ?_
  obtain ⟨x2, hx2, h⟩ := bind_some h
  refine T.region ?_
  refine RS.op rfl (OP.q rfl (v_move (v := .str p0) rfl ?_))
  refine RS.op rfl (o_call (as0 := [.str p0]) (as1 := [.str p0]) (caps := []) (aw1 := []) rfl rfl rfl (k_flat (v := .tup [.str x2.1, .int .i64 x2.2]) (frame_Put_c p0 x2 hx2) (⟨pure_str _, trivial⟩) rfl ?_))
  refine RS.op rfl (OP.q rfl (v_move (v := .tup [.str x2.1, .int .i64 x2.2]) rfl ?_))
  refine RS.op rfl (OP.q rfl (v_extract (v := .str x2.1) rfl rfl ?_))
  refine RS.op rfl (OP.q rfl (v_extract (v := .int .i64 x2.2) rfl rfl ?_))
  refine RS.op rfl (OP.q rfl (v_assign (v := .str x2.1) rfl ?_))
  refine RS.op rfl (OP.q rfl (v_assign (v := .int .i64 x2.2) rfl ?_))
  refine RS.nil ?_
  refine T.seq ?_
  obtain ⟨x4, hx4, h⟩ := bind_some h
  refine T.region ?_
  refine RS.op rfl (OP.q rfl (v_move (v := .str p1) rfl ?_))
  refine RS.op rfl (o_call (as0 := [.str p1]) (as1 := [.str p1]) (caps := []) (aw1 := []) rfl rfl rfl (k_own' (v := .tup [.ref 0, .int .i64 x4.2.1, .int .i64 x4.2.2]) (obs := [.arr 9 1 (List.map encS x4.1)]) (v' := .tup [.ref 0, .int .i64 x4.2.1, .int .i64 x4.2.2]) (aw' := [.arr 9 1 (List.map encS x4.1)]) (frame_Read_c p1 x4 hx4) (⟨pure_str _, trivial⟩) rfl (obs_cons (flatOb_map fun _ => rfl) obs_nil) rfl rfl ?_))
  refine RS.op rfl (OP.q rfl (v_move (v := .tup [.ref 0, .int .i64 x4.2.1, .int .i64 x4.2.2]) rfl ?_))
  refine RS.op rfl (OP.q rfl (v_extract (v := .ref 0) rfl rfl ?_))
  refine RS.op rfl (OP.q rfl (v_extract (v := .int .i64 x4.2.1) rfl rfl ?_))
  refine RS.op rfl (OP.q rfl (v_extract (v := .int .i64 x4.2.2) rfl rfl ?_))
  refine RS.op rfl (OP.q rfl (v_assign (v := .ref 0) rfl ?_))
  refine RS.op rfl (OP.q rfl (v_assign (v := .int .i64 x4.2.1) rfl ?_))
  refine RS.op rfl (OP.q rfl (v_assign (v := .int .i64 x4.2.2) rfl ?_))
  refine RS.nil ?_
  refine T.seq ?_
  refine T.seq ?_
  obtain ⟨x6, hx6, h⟩ := bind_some h
  refine T.region ?_
  refine RS.op rfl (o_call (as0 := []) (as1 := []) (caps := []) (aw1 := [.arr 9 1 (List.map encS x4.1)]) rfl rfl rfl (k_flat (v := .bool x6) (crosslaw_framed_c x6 hx6) (trivial) rfl ?_))
  refine RS.op rfl (OP.q rfl (v_not rfl ?_))
  refine RS.nil ?_
  refine T.cond (b := !x6) rfl (fun hb_1 => ?_) (fun hb_1 => ?_)
  · replace h := ite_T h hb_1
    refine T.seq ?_
    refine T.region ?_
    refine RS.op rfl (OP.q rfl (v_assign (v := .bool false) rfl ?_))
    refine RS.nil ?_
    refine T.ret' (R := ?R2) ?hq2 ?_
    case hq2 => repeat (first | exact RetIs.base | refine RetIs.thn ?_ | refine RetIs.blk ?_ | refine RetIs.lq ?_)
    refine res_tmpA (v := .bool false) rfl ?_
    refine res_done ?_
    exact ret_data (v := .bool false) rfl (pure_bool _) ⟨congrArg (fun r : Bool => (.bool r : AV)) (Option.some.inj h), rfl⟩
  · replace h := ite_F h hb_1
    refine T.skip ?_
    refine T.join (Z := Unit) (fun zz_15 => mkA 83 [(1, .str p1), (7, .ref 0), (8, .int .i64 x4.2.1), (9, .int .i64 x4.2.2)]) (fun zz_15 => [.arr 9 1 (List.map encS x4.1)]) (fun zz_15 => crosslaw_FramePut_k1 p1 x4 = some r) (fun zz_15 h => ?_) (fun hK1 => ?_)
    · replace h : crosslaw_FramePut_k1 p1 x4 = some r := h
      show T _ _ _ _ (mkA 83 [(1, .str p1), (7, .ref 0), (8, .int .i64 x4.2.1), (9, .int .i64 x4.2.2)]) [.arr 9 1 (List.map encS x4.1)]
      unfold crosslaw_FramePut_k1 at h
      refine T.seq ?_
      refine T.seq ?_
      refine T.region ?_
      refine RS.op rfl (OP.q rfl (v_move (v := .str p1) rfl ?_))
      refine RS.op rfl (OP.q rfl (v_len_str Try.underlying9 rfl ?_))
      refine RS.op rfl (OP.q rfl (v_gtr rfl rfl ?_))
      refine RS.nil ?_
      refine T.cond (b := decide (((p1).length : Int) > 12800)) rfl (fun hb_16 => ?_) (fun hb_16 => ?_)
      · replace h := ite_T h hb_16
        refine T.join (Z := Unit) (fun _ => mkA 83 [(4, .bool ((x4.2.2 == 2) && ((((x4.1).length : Int) == 0) && x4.2.1 == 0)))]) (fun _ => []) (fun _ => True) (fun _ _ => ?_) (fun hK => ?_)
        · show T _ _ _ _ (mkA 83 [(4, .bool ((x4.2.2 == 2) && ((((x4.1).length : Int) == 0) && x4.2.1 == 0)))]) []
          refine T.ret' (R := ?R19) ?hq19 ?_
          case hq19 => repeat (first | exact RetIs.base | refine RetIs.thn ?_ | refine RetIs.blk ?_ | refine RetIs.lq ?_)
          refine res_tmpA (v := .bool ((x4.2.2 == 2) && ((((x4.1).length : Int) == 0) && x4.2.1 == 0))) rfl ?_
          refine res_done ?_
          exact ret_data (v := .bool ((x4.2.2 == 2) && ((((x4.1).length : Int) == 0) && x4.2.1 == 0))) rfl (pure_bool _) ⟨congrArg (fun r : Bool => (.bool r : AV)) (Option.some.inj h), rfl⟩
        · rcases bool_cases (x4.2.2 == 2) with hb_17 | hb_17
          · rcases bool_cases (((x4.1).length : Int) == 0) with hb_18 | hb_18
            · refine T.region ?_
              refine RS.op rfl (OP.q rfl (v_move (v := .int .i64 x4.2.2) rfl ?_))
              refine RS.op rfl (OP.q rfl (v_eql rfl rfl ?_))
              refine RS.op rfl (OP.q rfl (v_move (v := .bool (x4.2.2 == 2)) rfl ?_))
              refine RS.yes rfl rfl rfl hb_17 (OP.q rfl (v_move (v := .ref 0) rfl ?_))
              refine RS.yes rfl rfl rfl hb_17 (OP.q rfl (v_len_ref (en := encS) Ty.s29 rfl rfl ?_))
              refine RS.yes rfl rfl rfl hb_17 (OP.q rfl (v_eql rfl rfl ?_))
              refine RS.op rfl (OP.q rfl (v_pickT (v := .bool (((x4.1).length : Int) == 0)) rfl hb_17 rfl ?_))
              refine RS.op rfl (OP.q rfl (v_move (v := .bool (((x4.1).length : Int) == 0)) rfl ?_))
              refine RS.yes rfl rfl rfl hb_18 (OP.q rfl (v_move (v := .int .i64 x4.2.1) rfl ?_))
              refine RS.yes rfl rfl rfl hb_18 (OP.q rfl (v_eql rfl rfl ?_))
              refine RS.op rfl (OP.q rfl (v_pickT (v := .bool (x4.2.1 == 0)) rfl hb_18 rfl ?_))
              refine RS.op rfl (OP.q rfl (v_assign (v := .bool (x4.2.1 == 0)) rfl ?_))
              refine RS.nil ?_
              exact T.weakR (hK () trivial) (Weak.mkN [] [] (by decide) (none_kept _) rfl ⟨rn_bool (by simp only [hb_17, hb_18, Bool.true_or, Bool.or_true, Bool.false_or, Bool.or_false, Bool.true_and, Bool.and_true, Bool.false_and, Bool.and_false, Bool.not_true, Bool.not_false, if_true, if_false, Bool.false_eq_true, reduceIte]), trivial⟩ (rw_nil))
            · refine T.region ?_
              refine RS.op rfl (OP.q rfl (v_move (v := .int .i64 x4.2.2) rfl ?_))
              refine RS.op rfl (OP.q rfl (v_eql rfl rfl ?_))
              refine RS.op rfl (OP.q rfl (v_move (v := .bool (x4.2.2 == 2)) rfl ?_))
              refine RS.yes rfl rfl rfl hb_17 (OP.q rfl (v_move (v := .ref 0) rfl ?_))
              refine RS.yes rfl rfl rfl hb_17 (OP.q rfl (v_len_ref (en := encS) Ty.s29 rfl rfl ?_))
              refine RS.yes rfl rfl rfl hb_17 (OP.q rfl (v_eql rfl rfl ?_))
              refine RS.op rfl (OP.q rfl (v_pickT (v := .bool (((x4.1).length : Int) == 0)) rfl hb_17 rfl ?_))
              refine RS.op rfl (OP.q rfl (v_move (v := .bool (((x4.1).length : Int) == 0)) rfl ?_))
              refine RS.no rfl rfl rfl hb_18 ?_
              refine RS.no rfl rfl rfl hb_18 ?_
              refine RS.op rfl (OP.q rfl (v_pickF (v := .bool false) rfl hb_18 rfl ?_))
              refine RS.op rfl (OP.q rfl (v_assign (v := .bool false) rfl ?_))
              refine RS.nil ?_
              exact T.weakR (hK () trivial) (Weak.mkN [] [] (by decide) (none_kept _) rfl ⟨rn_bool (by simp only [hb_17, hb_18, Bool.true_or, Bool.or_true, Bool.false_or, Bool.or_false, Bool.true_and, Bool.and_true, Bool.false_and, Bool.and_false, Bool.not_true, Bool.not_false, if_true, if_false, Bool.false_eq_true, reduceIte]), trivial⟩ (rw_nil))
          · refine T.region ?_
            refine RS.op rfl (OP.q rfl (v_move (v := .int .i64 x4.2.2) rfl ?_))
            refine RS.op rfl (OP.q rfl (v_eql rfl rfl ?_))
            refine RS.op rfl (OP.q rfl (v_move (v := .bool (x4.2.2 == 2)) rfl ?_))
            refine RS.no rfl rfl rfl hb_17 ?_
            refine RS.no rfl rfl rfl hb_17 ?_
            refine RS.no rfl rfl rfl hb_17 ?_
            refine RS.op rfl (OP.q rfl (v_pickF (v := .bool false) rfl hb_17 rfl ?_))
            refine RS.op rfl (OP.q rfl (v_move (v := .bool false) rfl ?_))
            refine RS.no rfl rfl rfl rfl ?_
            refine RS.no rfl rfl rfl rfl ?_
            refine RS.op rfl (OP.q rfl (v_pickF (v := .bool false) rfl rfl rfl ?_))
            refine RS.op rfl (OP.q rfl (v_assign (v := .bool false) rfl ?_))
            refine RS.nil ?_
            exact T.weakR (hK () trivial) (Weak.mkN [] [] (by decide) (none_kept _) rfl ⟨rn_bool (by simp only [hb_17, Bool.true_or, Bool.or_true, Bool.false_or, Bool.or_false, Bool.true_and, Bool.and_true, Bool.false_and, Bool.and_false, Bool.not_true, Bool.not_false, if_true, if_false, Bool.false_eq_true, reduceIte]), trivial⟩ (rw_nil))
      · replace h := ite_F h hb_16
        refine T.skip ?_
        refine T.seq ?_
        obtain ⟨x13, hx13, h⟩ := bind_some h
        refine T.region ?_
        refine RS.op rfl (OP.q rfl (v_move (v := .str p1) rfl ?_))
        refine RS.op rfl (o_call (as0 := [.str p1]) (as1 := [.str p1]) (caps := []) (aw1 := [.arr 9 1 (List.map encS x4.1)]) rfl rfl rfl (k_own' (v := .tup [.ref 0, .int .i64 x13.2]) (obs := [.arr 9 1 (List.map encS x13.1)]) (v' := .tup [.ref 1, .int .i64 x13.2]) (aw' := [.arr 9 1 (List.map encS x4.1), .arr 9 1 (List.map encS x13.1)]) (crossref_Unframe_c p1 x13 hx13) (⟨pure_str _, trivial⟩) rfl (obs_cons (flatOb_map fun _ => rfl) obs_nil) rfl rfl ?_))
        refine RS.op rfl (OP.q rfl (v_move (v := .tup [.ref 1, .int .i64 x13.2]) rfl ?_))
        refine RS.op rfl (OP.q rfl (v_extract (v := .ref 1) rfl rfl ?_))
        refine RS.op rfl (OP.q rfl (v_extract (v := .int .i64 x13.2) rfl rfl ?_))
        refine RS.op rfl (OP.q rfl (v_assign (v := .ref 1) rfl ?_))
        refine RS.op rfl (OP.q rfl (v_assign (v := .int .i64 x13.2) rfl ?_))
        refine RS.nil ?_
        obtain ⟨zt_22, hz, h⟩ := bind_some h
        revert hz h; revert zt_22; intro c15 hz h
        refine T.join (Z := Unit) (fun _ => mkA 83 [(4, .bool c15)]) (fun _ => []) (fun _ => True) (fun _ _ => ?_) (fun hK => ?_)
        · show T _ _ _ _ (mkA 83 [(4, .bool c15)]) []
          refine T.ret' (R := ?R23) ?hq23 ?_
          case hq23 => repeat (first | exact RetIs.base | refine RetIs.thn ?_ | refine RetIs.blk ?_ | refine RetIs.lq ?_)
          refine res_tmpA (v := .bool c15) rfl ?_
          refine res_done ?_
          exact ret_data (v := .bool c15) rfl (pure_bool _) ⟨congrArg (fun r : Bool => (.bool r : AV)) (Option.some.inj h), rfl⟩
        · rcases bool_cases (x4.2.2 == 0) with hb_20 | hb_20
          · replace hz := ite_T hz hb_20
            rcases bool_cases (x4.2.1 == x13.2) with hb_21 | hb_21
            · replace hz := ite_T hz hb_21
              obtain ⟨x14, hx14, hz⟩ := bind_some hz
              refine T.region ?_
              refine RS.op rfl (OP.q rfl (v_move (v := .int .i64 x4.2.2) rfl ?_))
              refine RS.op rfl (OP.q rfl (v_eql rfl rfl ?_))
              refine RS.op rfl (OP.q rfl (v_move (v := .bool (x4.2.2 == 0)) rfl ?_))
              refine RS.yes rfl rfl rfl hb_20 (OP.q rfl (v_move (v := .int .i64 x4.2.1) rfl ?_))
              refine RS.yes rfl rfl rfl hb_20 (OP.q rfl (v_move (v := .int .i64 x13.2) rfl ?_))
              refine RS.yes rfl rfl rfl hb_20 (OP.q rfl (v_eql rfl rfl ?_))
              refine RS.op rfl (OP.q rfl (v_pickT (v := .bool (x4.2.1 == x13.2)) rfl hb_20 rfl ?_))
              refine RS.op rfl (OP.q rfl (v_move (v := .bool (x4.2.1 == x13.2)) rfl ?_))
              refine RS.yes rfl rfl rfl hb_21 (OP.q rfl (v_move (v := .ref 0) rfl ?_))
              refine RS.yes rfl rfl rfl hb_21 (OP.q rfl (v_move (v := .ref 1) rfl ?_))
              refine RS.yes rfl rfl rfl hb_21 (o_call (as0 := [.ref 0, .ref 1]) (as1 := [.sl (List.map encS x4.1), .sl (List.map encS x13.1)]) (caps := []) (aw1 := [.dead, .dead]) rfl rfl rfl (k_flat (v := .bool x14) (slices_Equal_string_c x4.1 x13.1 x14 hx14) (⟨pure_map encS_p _, pure_map encS_p _, trivial⟩) rfl ?_))
              refine RS.op rfl (OP.q rfl (v_pickT (v := .bool x14) rfl hb_21 rfl ?_))
              refine RS.op rfl (OP.q rfl (v_assign (v := .bool x14) rfl ?_))
              refine RS.nil ?_
              exact T.weakR (hK () trivial) (Weak.mkN [] [] (by decide) (none_kept _) rfl ⟨rn_bool ((congrArg (fun p => p) (Option.some.inj hz)).symm), trivial⟩ (rw_nil))
            · replace hz := ite_F hz hb_21
              refine T.region ?_
              refine RS.op rfl (OP.q rfl (v_move (v := .int .i64 x4.2.2) rfl ?_))
              refine RS.op rfl (OP.q rfl (v_eql rfl rfl ?_))
              refine RS.op rfl (OP.q rfl (v_move (v := .bool (x4.2.2 == 0)) rfl ?_))
              refine RS.yes rfl rfl rfl hb_20 (OP.q rfl (v_move (v := .int .i64 x4.2.1) rfl ?_))
              refine RS.yes rfl rfl rfl hb_20 (OP.q rfl (v_move (v := .int .i64 x13.2) rfl ?_))
              refine RS.yes rfl rfl rfl hb_20 (OP.q rfl (v_eql rfl rfl ?_))
              refine RS.op rfl (OP.q rfl (v_pickT (v := .bool (x4.2.1 == x13.2)) rfl hb_20 rfl ?_))
              refine RS.op rfl (OP.q rfl (v_move (v := .bool (x4.2.1 == x13.2)) rfl ?_))
              refine RS.no rfl rfl rfl hb_21 ?_
              refine RS.no rfl rfl rfl hb_21 ?_
              refine RS.no rfl rfl rfl hb_21 ?_
              refine RS.op rfl (OP.q rfl (v_pickF (v := .bool false) rfl hb_21 rfl ?_))
              refine RS.op rfl (OP.q rfl (v_assign (v := .bool false) rfl ?_))
              refine RS.nil ?_
              exact T.weakR (hK () trivial) (Weak.mkN [] [] (by decide) (none_kept _) rfl ⟨rn_bool ((congrArg (fun p => p) (Option.some.inj hz)).symm), trivial⟩ (rw_nil))
          · replace hz := ite_F hz hb_20
            refine T.region ?_
            refine RS.op rfl (OP.q rfl (v_move (v := .int .i64 x4.2.2) rfl ?_))
            refine RS.op rfl (OP.q rfl (v_eql rfl rfl ?_))
            refine RS.op rfl (OP.q rfl (v_move (v := .bool (x4.2.2 == 0)) rfl ?_))
            refine RS.no rfl rfl rfl hb_20 ?_
            refine RS.no rfl rfl rfl hb_20 ?_
            refine RS.no rfl rfl rfl hb_20 ?_
            refine RS.op rfl (OP.q rfl (v_pickF (v := .bool false) rfl hb_20 rfl ?_))
            refine RS.op rfl (OP.q rfl (v_move (v := .bool false) rfl ?_))
            refine RS.no rfl rfl rfl rfl ?_
            refine RS.no rfl rfl rfl rfl ?_
            refine RS.no rfl rfl rfl rfl ?_
            refine RS.op rfl (OP.q rfl (v_pickF (v := .bool false) rfl rfl rfl ?_))
            refine RS.op rfl (OP.q rfl (v_assign (v := .bool false) rfl ?_))
            refine RS.nil ?_
            exact T.weakR (hK () trivial) (Weak.mkN [] [] (by decide) (none_kept _) rfl ⟨rn_bool ((congrArg (fun p => p) (Option.some.inj hz)).symm), trivial⟩ (rw_nil))
    · refine T.block ?_
      refine T.seq ?_
      refine T.region ?_
      refine RS.op rfl (OP.q rfl (v_move (v := .str p0) rfl ?_))
      refine RS.op rfl (OP.q rfl (v_seql rfl rfl ?_))
      refine RS.op rfl (OP.q rfl (v_assign (v := .bool (p0 == [])) rfl ?_))
      refine RS.nil ?_
      refine T.cond (b := p0 == []) rfl (fun hb_24 => ?_) (fun hb_24 => ?_)
      · replace h := ite_T h hb_24
        refine T.join (Z := Unit) (fun _ => mkA 83 [(1, .str p1), (7, .ref 0), (8, .int .i64 x4.2.1), (9, .int .i64 x4.2.2), (41, .bool ((x2.2 != 4) || !(x2.1 == [])))]) (fun _ => [.arr 9 1 (List.map encS x4.1)]) (fun _ => True) (fun _ _ => ?_) (fun hK => ?_)
        · show T _ _ _ _ (mkA 83 [(1, .str p1), (7, .ref 0), (8, .int .i64 x4.2.1), (9, .int .i64 x4.2.2), (41, .bool ((x2.2 != 4) || !(x2.1 == [])))]) [.arr 9 1 (List.map encS x4.1)]
          refine T.cond (b := ((x2.2 != 4) || !(x2.1 == []))) rfl (fun hb_26 => ?_) (fun hb_26 => ?_)
          · replace h := ite_T h hb_26
            refine T.seq ?_
            refine T.region ?_
            refine RS.op rfl (OP.q rfl (v_assign (v := .bool false) rfl ?_))
            refine RS.nil ?_
            refine T.ret' (R := ?R27) ?hq27 ?_
            case hq27 => repeat (first | exact RetIs.base | refine RetIs.thn ?_ | refine RetIs.blk ?_ | refine RetIs.lq ?_)
            refine res_tmpA (v := .bool false) rfl ?_
            refine res_done ?_
            exact ret_data (v := .bool false) rfl (pure_bool _) ⟨congrArg (fun r : Bool => (.bool r : AV)) (Option.some.inj h), rfl⟩
          · replace h := ite_F h hb_26
            refine T.skip ?_
            exact T.weakR (hK1 () h) (Weak.mkN [] [0] (by decide) (none_kept _) rfl ⟨rn_str rfl, rn_ref rfl, rn_int rfl, rn_int rfl, trivial⟩ (rw_arr rfl encS_p rfl (rw_nil)))
        · rcases bool_cases (x2.2 != 4) with hb_25 | hb_25
          · refine T.region ?_
            refine RS.op rfl (OP.q rfl (v_move (v := .int .i64 x2.2) rfl ?_))
            refine RS.op rfl (OP.q rfl (v_neq rfl rfl ?_))
            refine RS.op rfl (OP.q rfl (v_move (v := .bool (x2.2 != 4)) rfl ?_))
            refine RS.no rfl rfl rfl hb_25 ?_
            refine RS.no rfl rfl rfl hb_25 ?_
            refine RS.op rfl (OP.q rfl (v_pickT (v := .bool true) rfl hb_25 rfl ?_))
            refine RS.nil ?_
            exact T.weakR (hK () trivial) (Weak.mkN [] [0] (by decide) (none_kept _) rfl ⟨rn_str rfl, rn_ref rfl, rn_int rfl, rn_int rfl, rn_bool (by simp only [hb_25, Bool.true_or, Bool.or_true, Bool.false_or, Bool.or_false, Bool.true_and, Bool.and_true, Bool.false_and, Bool.and_false, Bool.not_true, Bool.not_false, if_true, if_false, Bool.false_eq_true, reduceIte]), trivial⟩ (rw_arr rfl encS_p rfl (rw_nil)))
          · refine T.region ?_
            refine RS.op rfl (OP.q rfl (v_move (v := .int .i64 x2.2) rfl ?_))
            refine RS.op rfl (OP.q rfl (v_neq rfl rfl ?_))
            refine RS.op rfl (OP.q rfl (v_move (v := .bool (x2.2 != 4)) rfl ?_))
            refine RS.yes rfl rfl rfl hb_25 (OP.q rfl (v_move (v := .str x2.1) rfl ?_))
            refine RS.yes rfl rfl rfl hb_25 (OP.q rfl (v_sneq rfl rfl ?_))
            refine RS.op rfl (OP.q rfl (v_pickF (v := .bool (!(x2.1 == []))) rfl hb_25 rfl ?_))
            refine RS.nil ?_
            exact T.weakR (hK () trivial) (Weak.mkN [] [0] (by decide) (none_kept _) rfl ⟨rn_str rfl, rn_ref rfl, rn_int rfl, rn_int rfl, rn_bool (by simp only [hb_25, Bool.true_or, Bool.or_true, Bool.false_or, Bool.or_false, Bool.true_and, Bool.and_true, Bool.false_and, Bool.and_false, Bool.not_true, Bool.not_false, if_true, if_false, Bool.false_eq_true, reduceIte]), trivial⟩ (rw_arr rfl encS_p rfl (rw_nil)))
      · replace h := ite_F h hb_24
        refine T.seq ?_
        refine T.region ?_
        refine RS.op rfl (OP.q rfl (v_move (v := .str p0) rfl ?_))
        refine RS.op rfl (OP.q rfl (v_len_str Try.underlying9 rfl ?_))
        refine RS.op rfl (OP.q rfl (v_gtr rfl rfl ?_))
        refine RS.op rfl (OP.q rfl (v_assign (v := .bool (decide (((p0).length : Int) > 60))) rfl ?_))
        refine RS.nil ?_
        refine T.cond (b := decide (((p0).length : Int) > 60)) rfl (fun hb_28 => ?_) (fun hb_28 => ?_)
        · replace h := ite_T h hb_28
          refine T.join (Z := Unit) (fun _ => mkA 83 [(1, .str p1), (7, .ref 0), (8, .int .i64 x4.2.1), (9, .int .i64 x4.2.2), (51, .bool ((x2.2 != 2) || !(x2.1 == [])))]) (fun _ => [.arr 9 1 (List.map encS x4.1)]) (fun _ => True) (fun _ _ => ?_) (fun hK => ?_)
          · show T _ _ _ _ (mkA 83 [(1, .str p1), (7, .ref 0), (8, .int .i64 x4.2.1), (9, .int .i64 x4.2.2), (51, .bool ((x2.2 != 2) || !(x2.1 == [])))]) [.arr 9 1 (List.map encS x4.1)]
            refine T.cond (b := ((x2.2 != 2) || !(x2.1 == []))) rfl (fun hb_30 => ?_) (fun hb_30 => ?_)
            · replace h := ite_T h hb_30
              refine T.seq ?_
              refine T.region ?_
              refine RS.op rfl (OP.q rfl (v_assign (v := .bool false) rfl ?_))
              refine RS.nil ?_
              refine T.ret' (R := ?R31) ?hq31 ?_
              case hq31 => repeat (first | exact RetIs.base | refine RetIs.thn ?_ | refine RetIs.blk ?_ | refine RetIs.lq ?_)
              refine res_tmpA (v := .bool false) rfl ?_
              refine res_done ?_
              exact ret_data (v := .bool false) rfl (pure_bool _) ⟨congrArg (fun r : Bool => (.bool r : AV)) (Option.some.inj h), rfl⟩
            · replace h := ite_F h hb_30
              refine T.skip ?_
              exact T.weakR (hK1 () h) (Weak.mkN [] [0] (by decide) (none_kept _) rfl ⟨rn_str rfl, rn_ref rfl, rn_int rfl, rn_int rfl, trivial⟩ (rw_arr rfl encS_p rfl (rw_nil)))
          · rcases bool_cases (x2.2 != 2) with hb_29 | hb_29
            · refine T.region ?_
              refine RS.op rfl (OP.q rfl (v_move (v := .int .i64 x2.2) rfl ?_))
              refine RS.op rfl (OP.q rfl (v_neq rfl rfl ?_))
              refine RS.op rfl (OP.q rfl (v_move (v := .bool (x2.2 != 2)) rfl ?_))
              refine RS.no rfl rfl rfl hb_29 ?_
              refine RS.no rfl rfl rfl hb_29 ?_
              refine RS.op rfl (OP.q rfl (v_pickT (v := .bool true) rfl hb_29 rfl ?_))
              refine RS.nil ?_
              exact T.weakR (hK () trivial) (Weak.mkN [] [0] (by decide) (none_kept _) rfl ⟨rn_str rfl, rn_ref rfl, rn_int rfl, rn_int rfl, rn_bool (by simp only [hb_29, Bool.true_or, Bool.or_true, Bool.false_or, Bool.or_false, Bool.true_and, Bool.and_true, Bool.false_and, Bool.and_false, Bool.not_true, Bool.not_false, if_true, if_false, Bool.false_eq_true, reduceIte]), trivial⟩ (rw_arr rfl encS_p rfl (rw_nil)))
            · refine T.region ?_
              refine RS.op rfl (OP.q rfl (v_move (v := .int .i64 x2.2) rfl ?_))
              refine RS.op rfl (OP.q rfl (v_neq rfl rfl ?_))
              refine RS.op rfl (OP.q rfl (v_move (v := .bool (x2.2 != 2)) rfl ?_))
              refine RS.yes rfl rfl rfl hb_29 (OP.q rfl (v_move (v := .str x2.1) rfl ?_))
              refine RS.yes rfl rfl rfl hb_29 (OP.q rfl (v_sneq rfl rfl ?_))
              refine RS.op rfl (OP.q rfl (v_pickF (v := .bool (!(x2.1 == []))) rfl hb_29 rfl ?_))
              refine RS.nil ?_
              exact T.weakR (hK () trivial) (Weak.mkN [] [0] (by decide) (none_kept _) rfl ⟨rn_str rfl, rn_ref rfl, rn_int rfl, rn_int rfl, rn_bool (by simp only [hb_29, Bool.true_or, Bool.or_true, Bool.false_or, Bool.or_false, Bool.true_and, Bool.and_true, Bool.false_and, Bool.and_false, Bool.not_true, Bool.not_false, if_true, if_false, Bool.false_eq_true, reduceIte]), trivial⟩ (rw_arr rfl encS_p rfl (rw_nil)))
        · replace h := ite_F h hb_28
          obtain ⟨zt_33, hz, h⟩ := bind_some h
          revert hz h; revert zt_33; intro c10 hz h
          refine T.join (Z := Unit) (fun _ => mkA 83 [(1, .str p1), (7, .ref 0), (8, .int .i64 x4.2.1), (9, .int .i64 x4.2.2), (32, .bool c10)]) (fun _ => [.arr 9 1 (List.map encS x4.1)]) (fun _ => True) (fun _ _ => ?_) (fun hK => ?_)
          · show T _ _ _ _ (mkA 83 [(1, .str p1), (7, .ref 0), (8, .int .i64 x4.2.1), (9, .int .i64 x4.2.2), (32, .bool c10)]) [.arr 9 1 (List.map encS x4.1)]
            refine T.cond (b := c10) rfl (fun hb_34 => ?_) (fun hb_34 => ?_)
            · replace h := ite_T h hb_34
              refine T.seq ?_
              refine T.region ?_
              refine RS.op rfl (OP.q rfl (v_assign (v := .bool false) rfl ?_))
              refine RS.nil ?_
              refine T.ret' (R := ?R35) ?hq35 ?_
              case hq35 => repeat (first | exact RetIs.base | refine RetIs.thn ?_ | refine RetIs.blk ?_ | refine RetIs.lq ?_)
              refine res_tmpA (v := .bool false) rfl ?_
              refine res_done ?_
              exact ret_data (v := .bool false) rfl (pure_bool _) ⟨congrArg (fun r : Bool => (.bool r : AV)) (Option.some.inj h), rfl⟩
            · replace h := ite_F h hb_34
              refine T.skip ?_
              exact T.weakR (hK1 () h) (Weak.mkN [] [0] (by decide) (none_kept _) rfl ⟨rn_str rfl, rn_ref rfl, rn_int rfl, rn_int rfl, trivial⟩ (rw_arr rfl encS_p rfl (rw_nil)))
          · rcases bool_cases (x2.2 != 0) with hb_32 | hb_32
            · replace hz := ite_T hz hb_32
              refine T.region ?_
              refine RS.op rfl (OP.q rfl (v_move (v := .int .i64 x2.2) rfl ?_))
              refine RS.op rfl (OP.q rfl (v_neq rfl rfl ?_))
              refine RS.op rfl (OP.q rfl (v_move (v := .bool (x2.2 != 0)) rfl ?_))
              refine RS.no rfl rfl rfl hb_32 ?_
              refine RS.no rfl rfl rfl hb_32 ?_
              refine RS.no rfl rfl rfl hb_32 ?_
              refine RS.no rfl rfl rfl hb_32 ?_
              refine RS.op rfl (OP.q rfl (v_pickT (v := .bool true) rfl hb_32 rfl ?_))
              refine RS.nil ?_
              exact T.weakR (hK () trivial) (Weak.mkN [] [0] (by decide) (none_kept _) rfl ⟨rn_str rfl, rn_ref rfl, rn_int rfl, rn_int rfl, rn_bool ((congrArg (fun p => p) (Option.some.inj hz)).symm), trivial⟩ (rw_arr rfl encS_p rfl (rw_nil)))
            · replace hz := ite_F hz hb_32
              obtain ⟨x9, hx9, hz⟩ := bind_some hz
              refine T.region ?_
              refine RS.op rfl (OP.q rfl (v_move (v := .int .i64 x2.2) rfl ?_))
              refine RS.op rfl (OP.q rfl (v_neq rfl rfl ?_))
              refine RS.op rfl (OP.q rfl (v_move (v := .bool (x2.2 != 0)) rfl ?_))
              refine RS.yes rfl rfl rfl hb_32 (OP.q rfl (v_move (v := .str x2.1) rfl ?_))
              refine RS.yes rfl rfl rfl hb_32 (OP.q rfl (v_move (v := .str p0) rfl ?_))
              refine RS.yes rfl rfl rfl hb_32 (o_call (as0 := [.str p0]) (as1 := [.str p0]) (caps := []) (aw1 := [.arr 9 1 (List.map encS x4.1)]) rfl rfl rfl (k_flat (v := .str x9) (crossref_Framed_c p0 x9 hx9) (⟨pure_str _, trivial⟩) rfl ?_))
              refine RS.yes rfl rfl rfl hb_32 (OP.q rfl (v_sneq rfl rfl ?_))
              refine RS.op rfl (OP.q rfl (v_pickF (v := .bool (!(x2.1 == x9))) rfl hb_32 rfl ?_))
              refine RS.nil ?_
              exact T.weakR (hK () trivial) (Weak.mkN [] [0] (by decide) (none_kept _) rfl ⟨rn_str rfl, rn_ref rfl, rn_int rfl, rn_int rfl, rn_bool ((congrArg (fun p => p) (Option.some.inj hz)).symm), trivial⟩ (rw_arr rfl encS_p rfl (rw_nil)))
end Go.Proofs.Ytpndpdbabblphaa
