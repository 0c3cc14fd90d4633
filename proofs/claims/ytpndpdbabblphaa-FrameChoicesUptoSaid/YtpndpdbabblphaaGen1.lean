/-
  The code computes these functions. Printed by a program of ours (wip/gen.py).
-/
import Derived.Test.YtpndpdbabblphaaFr
import Derived.Test.YtpndpdbabblphaaEnc
import Derived.Test.YtpndpdbabblphaaSh
namespace Go.Proofs.Ytpndpdbabblphaa
open Go.RowKit
set_option linter.unusedVariables false
set_option linter.unusedSimpArgs false
set_option maxRecDepth 100000
theorem frame_sum_c (p0 : List UInt8) (r : Int) (h : frame_sum p0 = some r) : Fn Try.prog 57 [.str p0] (.int .i64 r) := by
  unfold frame_sum at h
  refine fn_of_T (N := 0) rfl Try.func57 rfl (by kernel_rfl) Try.ntmps57 rfl ?_
  show T _ _ _ _ (mkA 29 [(0, .str p0)]) []
  refine T.seq ?_
  refine T.region ?_
  refine RS.op rfl (OP.q rfl (v_assign (v := .int .i64 0) rfl ?_))
  refine RS.nil ?_
  refine T.seq ?_
  refine T.region ?_
  refine RS.op rfl (OP.q rfl (v_assign (v := .int .i64 65535) rfl ?_))
  refine RS.nil ?_
  refine T.seq ?_
  refine T.seq ?_
  refine T.region ?_
  refine RS.op rfl (OP.q rfl (v_move (v := .str p0) rfl ?_))
  refine RS.op rfl (OP.q rfl (v_len_str Try.underlying9 rfl ?_))
  refine RS.op rfl (OP.q rfl (v_move (v := .int .i64 0) rfl ?_))
  refine RS.nil ?_
  refine T.block ?_
  refine T.iter (fun ss_21 : Int × Int => mkA 29 [(0, .str p0), (3, .int .i64 ss_21.1), (6, .int .i64 ((p0).length : Int)), (7, .int .i64 ss_21.2)]) (fun ss_21 => []) h (Weak.mkN [] [] (by decide) (none_kept _) rfl ⟨rn_str rfl, rn_int rfl, rn_int rfl, rn_int rfl, trivial⟩ (rw_nil)) (fun ss_21 v_22 h hv_22 => ?_)
  obtain ⟨s1, s2⟩ := ss_21
  replace h : frame_sum_l2 p0 s1 s2 = some v_22 := h
  show T _ _ _ _ (mkA 29 [(0, .str p0), (3, .int .i64 s1), (6, .int .i64 ((p0).length : Int)), (7, .int .i64 s2)]) []
  unfold frame_sum_l2 at h
  refine T.seq ?_
  refine T.region ?_
  refine RS.op rfl (OP.q rfl (v_lss rfl rfl ?_))
  refine RS.nil ?_
  refine T.seq ?_
  refine T.cond (b := decide (s2 < ((p0).length : Int))) rfl (fun hb_23 => ?_) (fun hb_23 => ?_)
  · replace h := ite_T h hb_23
    refine T.skip ?_
    refine T.seq ?_
    refine T.block ?_
    refine T.seq ?_
    refine T.region ?_
    refine RS.op rfl (OP.q rfl (v_move (v := .int .i64 s2) rfl ?_))
    refine RS.op rfl (OP.q rfl (v_assign (v := .int .i64 s2) rfl ?_))
    refine RS.nil ?_
    refine T.seq ?_
    obtain ⟨x5, hx5, h⟩ := bind_some h
    obtain ⟨x6, hx6, h⟩ := bind_some h
    refine T.region ?_
    refine RS.op rfl (OP.q rfl (v_move (v := .int .i64 s1) rfl ?_))
    refine RS.op rfl (OP.q rfl (v_move (v := .str p0) rfl ?_))
    refine RS.op rfl (OP.q rfl (v_move (v := .int .i64 s2) rfl ?_))
    refine RS.op rfl (OP.q rfl (v_index_str Try.underlying9 rfl rfl hx5 ?_))
    refine RS.op rfl (o_conv Try.underlying5 Try.underlying3 rfl ?_)
    refine RS.op rfl (OP.q rfl (v_shl rfl rfl hx6 ?_))
    refine RS.op rfl (OP.q rfl (v_xor rfl rfl ?_))
    refine RS.op rfl (OP.q rfl (v_assign (v := .int .i64 (ibits .xor .i64 s1 x6)) rfl ?_))
    refine RS.nil ?_
    refine T.seq ?_
    refine T.region ?_
    refine RS.op rfl (OP.q rfl (v_move (v := .int .i64 0) rfl ?_))
    refine RS.nil ?_
    refine T.block ?_
    refine T.iter (fun ss_28 : Int × Int => mkA 29 [(0, .str p0), (3, .int .i64 ss_28.1), (6, .int .i64 ((p0).length : Int)), (7, .int .i64 s2), (17, .int .i64 ss_28.2)]) (fun ss_28 => []) h (Weak.mkN [] [] (by decide) (none_kept _) rfl ⟨rn_str rfl, rn_int rfl, rn_int rfl, rn_int rfl, rn_int rfl, trivial⟩ (rw_nil)) (fun ss_28 v_29 h hv_29 => ?_)
    obtain ⟨s7, s8⟩ := ss_28
    replace h : frame_sum_l1 s2 s7 s8 = some v_29 := h
    show T _ _ _ _ (mkA 29 [(0, .str p0), (3, .int .i64 s7), (6, .int .i64 ((p0).length : Int)), (7, .int .i64 s2), (17, .int .i64 s8)]) []
    unfold frame_sum_l1 at h
    refine T.seq ?_
    refine T.region ?_
    refine RS.op rfl (OP.q rfl (v_lss rfl rfl ?_))
    refine RS.nil ?_
    refine T.seq ?_
    refine T.cond (b := decide (s8 < 8)) rfl (fun hb_30 => ?_) (fun hb_30 => ?_)
    · replace h := ite_T h hb_30
      refine T.skip ?_
      refine T.seq ?_
      refine T.block ?_
      refine T.seq ?_
      obtain ⟨x10, hx10, h⟩ := bind_some h
      refine T.region ?_
      refine RS.op rfl (OP.q rfl (v_move (v := .int .i64 s7) rfl ?_))
      refine RS.op rfl (OP.q rfl (v_shl rfl rfl hx10 ?_))
      refine RS.op rfl (OP.q rfl (v_assign (v := .int .i64 x10) rfl ?_))
      refine RS.nil ?_
      refine T.seq ?_
      refine T.region ?_
      refine RS.op rfl (OP.q rfl (v_move (v := .int .i64 x10) rfl ?_))
      refine RS.op rfl (OP.q rfl (v_and rfl rfl ?_))
      refine RS.op rfl (OP.q rfl (v_neq rfl rfl ?_))
      refine RS.nil ?_
      refine T.cond (b := (ibits .and .i64 x10 65536) != 0) rfl (fun hb_31 => ?_) (fun hb_31 => ?_)
      · replace h := ite_T h hb_31
        refine T.region ?_
        refine RS.op rfl (OP.q rfl (v_move (v := .int .i64 x10) rfl ?_))
        refine RS.op rfl (OP.q rfl (v_xor rfl rfl ?_))
        refine RS.op rfl (OP.q rfl (v_assign (v := .int .i64 (ibits .xor .i64 x10 69665)) rfl ?_))
        refine RS.nil ?_
        refine T.region ?_
        refine RS.op rfl (OP.q rfl (v_add rfl rfl ?_))
        refine RS.op rfl (OP.q rfl (v_move (v := .int .i64 (IntKind.i64.wrap (s8 + 1))) rfl ?_))
        refine RS.nil ?_
        exact ⟨(ibits .xor .i64 x10 69665, IntKind.i64.wrap (s8 + 1)), (Option.some.inj h).symm, Weak.mkN [] [] (by decide) (none_kept _) rfl ⟨rn_str rfl, rn_int rfl, rn_int rfl, rn_int rfl, rn_int rfl, trivial⟩ (rw_nil)⟩
      · replace h := ite_F h hb_31
        refine T.skip ?_
        refine T.region ?_
        refine RS.op rfl (OP.q rfl (v_add rfl rfl ?_))
        refine RS.op rfl (OP.q rfl (v_move (v := .int .i64 (IntKind.i64.wrap (s8 + 1))) rfl ?_))
        refine RS.nil ?_
        exact ⟨(x10, IntKind.i64.wrap (s8 + 1)), (Option.some.inj h).symm, Weak.mkN [] [] (by decide) (none_kept _) rfl ⟨rn_str rfl, rn_int rfl, rn_int rfl, rn_int rfl, rn_int rfl, trivial⟩ (rw_nil)⟩
    · replace h := ite_F h hb_30
      refine T.exit ?_
      obtain ⟨w_32, h, hw_32⟩ := map_inr h
      replace h := h.trans (congrArg some (hv_29 _ hw_32))
      refine T.region ?_
      refine RS.op rfl (OP.q rfl (v_add rfl rfl ?_))
      refine RS.op rfl (OP.q rfl (v_move (v := .int .i64 (IntKind.i64.wrap (s2 + 1))) rfl ?_))
      refine RS.nil ?_
      exact ⟨(s7, IntKind.i64.wrap (s2 + 1)), (Option.some.inj h).symm, Weak.mkN [] [] (by decide) (none_kept _) rfl ⟨rn_str rfl, rn_int rfl, rn_int rfl, rn_int rfl, trivial⟩ (rw_nil)⟩
  · replace h := ite_F h hb_23
    refine T.exit ?_
    obtain ⟨w_33, h, hw_33⟩ := map_inr h
    replace h := h.trans (congrArg some (hv_22 _ hw_33))
    refine T.seq ?_
    refine T.region ?_
    refine RS.op rfl (OP.q rfl (v_move (v := .int .i64 s1) rfl ?_))
    refine RS.op rfl (OP.q rfl (v_assign (v := .int .i64 s1) rfl ?_))
    refine RS.nil ?_
    refine T.ret' (R := ?R34) ?hq34 ?_
    case hq34 => repeat (first | exact RetIs.base | refine RetIs.thn ?_ | refine RetIs.blk ?_ | refine RetIs.lq ?_)
    refine res_tmpA (v := .int .i64 s1) rfl ?_
    refine res_done ?_
    exact ret_data (v := .int .i64 s1) rfl (pure_int _ _) ⟨congrArg (fun r : Int => (.int .i64 r : AV)) (Option.some.inj h), rfl⟩
theorem frame_Put_c (p0 : List UInt8) (r : (List UInt8) × Int) (h : frame_Put p0 = some r) : Fn Try.prog 19 [.str p0] (.tup [.str r.1, .int .i64 r.2]) := by
  unfold frame_Put at h
  refine fn_of_T (N := 0) rfl Try.func19 rfl (by kernel_rfl) Try.ntmps19 rfl ?_
  show T _ _ _ _ (mkA 33 [(0, .str p0)]) []
  refine T.seq ?_
  refine T.region ?_
  refine RS.op rfl (OP.q rfl (v_assign (v := .str []) rfl ?_))
  refine RS.op rfl (OP.q rfl (v_assign (v := .int .i64 0) rfl ?_))
  refine RS.nil ?_
  refine T.seq ?_
  refine T.seq ?_
  refine T.region ?_
  refine RS.op rfl (OP.q rfl (v_move (v := .str p0) rfl ?_))
  refine RS.op rfl (OP.q rfl (v_seql rfl rfl ?_))
  refine RS.nil ?_
  refine T.cond (b := p0 == []) rfl (fun hb_1 => ?_) (fun hb_1 => ?_)
  · replace h := ite_T h hb_1
    refine T.seq ?_
    refine T.region ?_
    refine RS.op rfl (OP.q rfl (v_assign (v := .str []) rfl ?_))
    refine RS.op rfl (OP.q rfl (v_assign (v := .int .i64 4) rfl ?_))
    refine RS.nil ?_
    refine T.ret' (R := ?R2) ?hq2 ?_
    case hq2 => repeat (first | exact RetIs.base | refine RetIs.thn ?_ | refine RetIs.blk ?_ | refine RetIs.lq ?_)
    refine res_tmpA (v := .str []) rfl ?_
    refine res_tmpA (v := .int .i64 4) rfl ?_
    refine res_done ?_
    exact ret_data (v := .tup [.str [], .int .i64 4]) rfl (pure_tup _ (pures_mem (⟨pure_str _, pure_int _ _, trivial⟩))) ⟨congrArg (fun r : (List UInt8) × Int => (.tup [.str r.1, .int .i64 r.2] : AV)) (Option.some.inj h), rfl⟩
  · replace h := ite_F h hb_1
    refine T.skip ?_
    refine T.seq ?_
    refine T.seq ?_
    refine T.region ?_
    refine RS.op rfl (OP.q rfl (v_move (v := .str p0) rfl ?_))
    refine RS.op rfl (OP.q rfl (v_len_str Try.underlying9 rfl ?_))
    refine RS.op rfl (OP.q rfl (v_gtr rfl rfl ?_))
    refine RS.nil ?_
    refine T.cond (b := decide (((p0).length : Int) > 60)) rfl (fun hb_3 => ?_) (fun hb_3 => ?_)
    · replace h := ite_T h hb_3
      refine T.seq ?_
      refine T.region ?_
      refine RS.op rfl (OP.q rfl (v_assign (v := .str []) rfl ?_))
      refine RS.op rfl (OP.q rfl (v_assign (v := .int .i64 2) rfl ?_))
      refine RS.nil ?_
      refine T.ret' (R := ?R4) ?hq4 ?_
      case hq4 => repeat (first | exact RetIs.base | refine RetIs.thn ?_ | refine RetIs.blk ?_ | refine RetIs.lq ?_)
      refine res_tmpA (v := .str []) rfl ?_
      refine res_tmpA (v := .int .i64 2) rfl ?_
      refine res_done ?_
      exact ret_data (v := .tup [.str [], .int .i64 2]) rfl (pure_tup _ (pures_mem (⟨pure_str _, pure_int _ _, trivial⟩))) ⟨congrArg (fun r : (List UInt8) × Int => (.tup [.str r.1, .int .i64 r.2] : AV)) (Option.some.inj h), rfl⟩
    · replace h := ite_F h hb_3
      refine T.skip ?_
      refine T.seq ?_
      obtain ⟨x3, hx3, h⟩ := bind_some h
      obtain ⟨x4, hx4, h⟩ := bind_some h
      refine T.region ?_
      refine RS.op rfl (OP.q rfl (v_move (v := .str p0) rfl ?_))
      refine RS.op rfl (OP.q rfl (v_len_str Try.underlying9 rfl ?_))
      refine RS.op rfl (o_conv Try.underlying3 Try.underlying5 rfl ?_)
      refine RS.op rfl (o_buildSlice (rows := List.map enc8 [IntKind.u8.wrap ((p0).length : Int)]) (vs := [.int .u8 (IntKind.u8.wrap ((p0).length : Int))]) Ty.s67 Ty.z5 rfl rfl rfl rfl rfl (aw' := [.arr 5 1 (List.map enc8 [IntKind.u8.wrap ((p0).length : Int)])]) rfl ?_)
      refine RS.op rfl (o_conv_bytes (xs := [IntKind.u8.wrap ((p0).length : Int)]) Try.underlying67 Try.underlying5 Try.underlying9 rfl rfl ?_)
      refine RS.op rfl (OP.q rfl (v_move (v := .str p0) rfl ?_))
      refine RS.op rfl (OP.q rfl (v_sadd rfl rfl hx3 ?_))
      refine RS.op rfl (o_call (as0 := [.str x3]) (as1 := [.str x3]) (caps := []) (aw1 := [.dead]) rfl rfl rfl (k_flat (v := .int .i64 x4) (frame_sum_c x3 x4 hx4) (⟨pure_str _, trivial⟩) rfl ?_))
      refine RS.op rfl (OP.q rfl (v_assign (v := .int .i64 x4) rfl ?_))
      refine RS.nil ?_
      refine T.seq ?_
      obtain ⟨x8, hx8, h⟩ := bind_some h
      obtain ⟨x9, hx9, h⟩ := bind_some h
      obtain ⟨x10, hx10, h⟩ := bind_some h
      refine T.region ?_
      refine RS.op rfl (OP.q rfl (v_move (v := .str p0) rfl ?_))
      refine RS.op rfl (OP.q rfl (v_len_str Try.underlying9 rfl ?_))
      refine RS.op rfl (o_conv Try.underlying3 Try.underlying5 rfl ?_)
      refine RS.op rfl (o_buildSlice (rows := List.map enc8 [IntKind.u8.wrap ((p0).length : Int)]) (vs := [.int .u8 (IntKind.u8.wrap ((p0).length : Int))]) Ty.s67 Ty.z5 rfl rfl rfl rfl rfl (aw' := [.dead, .arr 5 1 (List.map enc8 [IntKind.u8.wrap ((p0).length : Int)])]) rfl ?_)
      refine RS.op rfl (o_conv_bytes (xs := [IntKind.u8.wrap ((p0).length : Int)]) Try.underlying67 Try.underlying5 Try.underlying9 rfl rfl ?_)
      refine RS.op rfl (OP.q rfl (v_move (v := .str p0) rfl ?_))
      refine RS.op rfl (OP.q rfl (v_sadd rfl rfl hx8 ?_))
      refine RS.op rfl (OP.q rfl (v_move (v := .int .i64 x4) rfl ?_))
      refine RS.op rfl (OP.q rfl (v_shr rfl rfl hx9 ?_))
      refine RS.op rfl (o_conv Try.underlying3 Try.underlying5 rfl ?_)
      refine RS.op rfl (OP.q rfl (v_move (v := .int .i64 x4) rfl ?_))
      refine RS.op rfl (o_conv Try.underlying3 Try.underlying5 rfl ?_)
      refine RS.op rfl (o_buildSlice (rows := List.map enc8 [IntKind.u8.wrap x9, IntKind.u8.wrap x4]) (vs := [.int .u8 (IntKind.u8.wrap x9), .int .u8 (IntKind.u8.wrap x4)]) Ty.s67 Ty.z5 rfl rfl rfl rfl rfl (aw' := [.dead, .dead, .arr 5 1 (List.map enc8 [IntKind.u8.wrap x9, IntKind.u8.wrap x4])]) rfl ?_)
      refine RS.op rfl (o_conv_bytes (xs := [IntKind.u8.wrap x9, IntKind.u8.wrap x4]) Try.underlying67 Try.underlying5 Try.underlying9 rfl rfl ?_)
      refine RS.op rfl (OP.q rfl (v_sadd rfl rfl hx10 ?_))
      refine RS.op rfl (OP.q rfl (v_assign (v := .str x10) rfl ?_))
      refine RS.op rfl (OP.q rfl (v_assign (v := .int .i64 0) rfl ?_))
      refine RS.nil ?_
      refine T.ret' (R := ?R5) ?hq5 ?_
      case hq5 => repeat (first | exact RetIs.base | refine RetIs.thn ?_ | refine RetIs.blk ?_ | refine RetIs.lq ?_)
      refine res_tmpA (v := .str x10) rfl ?_
      refine res_tmpA (v := .int .i64 0) rfl ?_
      refine res_done ?_
      exact ret_data (v := .tup [.str x10, .int .i64 0]) rfl (pure_tup _ (pures_mem (⟨pure_str _, pure_int _ _, trivial⟩))) ⟨congrArg (fun r : (List UInt8) × Int => (.tup [.str r.1, .int .i64 r.2] : AV)) (Option.some.inj h), rfl⟩
theorem frame_Read_c (p0 : List UInt8) (r : (List (List UInt8)) × Int × Int) (h : frame_Read p0 = some r) : FnO Try.prog 20 [.str p0] (.tup [.ref 0, .int .i64 r.2.1, .int .i64 r.2.2]) [.arr 9 1 (List.map encS r.1)] := by
  unfold frame_Read at h
  refine fn_of_T (N := 0) rfl Try.func20 rfl (by kernel_rfl) Try.ntmps20 rfl ?_
  show T _ _ _ _ (mkA 66 [(0, .str p0)]) []
  refine T.seq ?_
  refine T.region ?_
  refine RS.op rfl (OP.q rfl (v_assign (v := .nils) rfl ?_))
  refine RS.op rfl (OP.q rfl (v_assign (v := .int .i64 0) rfl ?_))
  refine RS.op rfl (OP.q rfl (v_assign (v := .int .i64 0) rfl ?_))
  refine RS.nil ?_
  refine T.seq ?_
  refine T.seq ?_
  refine T.region ?_
  refine RS.op rfl (OP.q rfl (v_move (v := .str p0) rfl ?_))
  refine RS.op rfl (OP.q rfl (v_len_str Try.underlying9 rfl ?_))
  refine RS.op rfl (OP.q rfl (v_gtr rfl rfl ?_))
  refine RS.nil ?_
  refine T.cond (b := decide (((p0).length : Int) > 12800)) rfl (fun hb_1 => ?_) (fun hb_1 => ?_)
  · replace h := ite_T h hb_1
    refine T.seq ?_
    refine T.region ?_
    refine RS.op rfl (OP.q rfl (v_assign (v := .nils) rfl ?_))
    refine RS.op rfl (OP.q rfl (v_assign (v := .int .i64 0) rfl ?_))
    refine RS.op rfl (OP.q rfl (v_assign (v := .int .i64 2) rfl ?_))
    refine RS.nil ?_
    refine T.ret' (R := ?R2) ?hq2 ?_
    case hq2 => repeat (first | exact RetIs.base | refine RetIs.thn ?_ | refine RetIs.blk ?_ | refine RetIs.lq ?_)
    refine res_tmpA (v := .nils) rfl ?_
    refine res_tmpA (v := .int .i64 0) rfl ?_
    refine res_tmpA (v := .int .i64 2) rfl ?_
    refine res_done ?_
    exact ret_own (.tup [.ref 0, .int .i64 r.2.1, .int .i64 r.2.2]) [(0, 9, 1)] [0] (by decide) (none_kept _) rfl (rn_tup ⟨rn_ref rfl, rn_int (congrArg (fun r : (List (List UInt8)) × Int × Int => r.2.1) (Option.some.inj h)).symm, rn_int (congrArg (fun r : (List (List UInt8)) × Int × Int => r.2.2) (Option.some.inj h)).symm, trivial⟩) (rw_arr (en := encS) (ys := []) rfl encS_p (congrArg (fun r : (List (List UInt8)) × Int × Int => r.1) (Option.some.inj h)).symm (rw_nil)) ⟨rfl, rfl⟩
  · replace h := ite_F h hb_1
    refine T.skip ?_
    refine T.seq ?_
    refine T.block ?_
    refine T.iter (fun ss_13 : Int × (List (List UInt8)) => mkA 66 [(0, .str p0), (2, .ref 0), (3, .int .i64 ss_13.1)]) (fun ss_13 => [.arr 9 1 (List.map encS ss_13.2)]) h (Weak.mkN [(2, 9, 1)] [0] (by decide) (none_kept _) rfl ⟨rn_str rfl, rn_ref rfl, rn_int rfl, trivial⟩ (rw_arr (en := encS) (ys := []) rfl encS_p rfl (rw_nil))) (fun ss_13 v_14 h hv_14 => ?_)
    obtain ⟨s1, s2⟩ := ss_13
    replace h : frame_Read_l1 p0 s1 s2 = some v_14 := h
    show T _ _ _ _ (mkA 66 [(0, .str p0), (2, .ref 0), (3, .int .i64 s1)]) [.arr 9 1 (List.map encS s2)]
    unfold frame_Read_l1 at h
    refine T.seq ?_
    refine T.seq ?_
    refine T.region ?_
    refine RS.op rfl (OP.q rfl (v_move (v := .int .i64 s1) rfl ?_))
    refine RS.op rfl (OP.q rfl (v_move (v := .str p0) rfl ?_))
    refine RS.op rfl (OP.q rfl (v_len_str Try.underlying9 rfl ?_))
    refine RS.op rfl (OP.q rfl (v_lss rfl rfl ?_))
    refine RS.nil ?_
    refine T.cond (b := decide (s1 < ((p0).length : Int))) rfl (fun hb_15 => ?_) (fun hb_15 => ?_)
    · replace h := ite_T h hb_15
      refine T.skip ?_
      refine T.block ?_
      refine T.seq ?_
      obtain ⟨x4, hx4, h⟩ := bind_some h
      refine T.region ?_
      refine RS.op rfl (OP.q rfl (v_move (v := .str p0) rfl ?_))
      refine RS.op rfl (OP.q rfl (v_move (v := .int .i64 s1) rfl ?_))
      refine RS.op rfl (o_slice_str Try.underlying9 rfl rfl rfl hx4 ?_)
      refine RS.op rfl (OP.q rfl (v_assign (v := .str x4) rfl ?_))
      refine RS.nil ?_
      refine T.seq ?_
      obtain ⟨x6, hx6, h⟩ := bind_some h
      refine T.region ?_
      refine RS.op rfl (OP.q rfl (v_move (v := .str x4) rfl ?_))
      refine RS.op rfl (OP.q rfl (v_index_str Try.underlying9 rfl rfl hx6 ?_))
      refine RS.op rfl (o_conv Try.underlying5 Try.underlying3 rfl ?_)
      refine RS.op rfl (OP.q rfl (v_assign (v := .int .i64 (IntKind.i64.wrap (x6.toNat : Int))) rfl ?_))
      refine RS.nil ?_
      refine T.seq ?_
      refine T.join (Z := Unit) (fun _ => mkA 66 [(0, .str p0), (2, .ref 0), (3, .int .i64 s1), (5, .str x4), (6, .int .i64 (IntKind.i64.wrap (x6.toNat : Int))), (33, .bool ((decide ((IntKind.i64.wrap (x6.toNat : Int)) < 1)) || ((decide ((IntKind.i64.wrap (x6.toNat : Int)) > 60)) || decide (((x4).length : Int) < (IntKind.i64.wrap ((IntKind.i64.wrap (x6.toNat : Int)) + 3))))))]) (fun _ => [.arr 9 1 (List.map encS s2)]) (fun _ => True) (fun _ _ => ?_) (fun hK => ?_)
      · show T _ _ _ _ (mkA 66 [(0, .str p0), (2, .ref 0), (3, .int .i64 s1), (5, .str x4), (6, .int .i64 (IntKind.i64.wrap (x6.toNat : Int))), (33, .bool ((decide ((IntKind.i64.wrap (x6.toNat : Int)) < 1)) || ((decide ((IntKind.i64.wrap (x6.toNat : Int)) > 60)) || decide (((x4).length : Int) < (IntKind.i64.wrap ((IntKind.i64.wrap (x6.toNat : Int)) + 3))))))]) [.arr 9 1 (List.map encS s2)]
        refine T.cond (b := ((decide ((IntKind.i64.wrap (x6.toNat : Int)) < 1)) || ((decide ((IntKind.i64.wrap (x6.toNat : Int)) > 60)) || decide (((x4).length : Int) < (IntKind.i64.wrap ((IntKind.i64.wrap (x6.toNat : Int)) + 3)))))) rfl (fun hb_18 => ?_) (fun hb_18 => ?_)
        · replace h := ite_T h hb_18
          refine T.exit ?_
          obtain ⟨w_19, h, hw_19⟩ := map_inr h
          replace h := h.trans (congrArg some (hv_14 _ hw_19))
          refine T.seq ?_
          refine T.region ?_
          refine RS.op rfl (OP.q rfl (v_move (v := .ref 0) rfl ?_))
          refine RS.op rfl (OP.q rfl (v_move (v := .int .i64 s1) rfl ?_))
          refine RS.op rfl (OP.q rfl (v_assign (v := .ref 0) rfl ?_))
          refine RS.op rfl (OP.q rfl (v_assign (v := .int .i64 s1) rfl ?_))
          refine RS.op rfl (OP.q rfl (v_assign (v := .int .i64 0) rfl ?_))
          refine RS.nil ?_
          refine T.ret' (R := ?R20) ?hq20 ?_
          case hq20 => repeat (first | exact RetIs.base | refine RetIs.thn ?_ | refine RetIs.blk ?_ | refine RetIs.lq ?_)
          refine res_tmpA (v := .ref 0) rfl ?_
          refine res_tmpA (v := .int .i64 s1) rfl ?_
          refine res_tmpA (v := .int .i64 0) rfl ?_
          refine res_done ?_
          exact ret_own (.tup [.ref 0, .int .i64 r.2.1, .int .i64 r.2.2]) [] [0] (by decide) (none_kept _) rfl (rn_tup ⟨rn_ref rfl, rn_int (congrArg (fun r : (List (List UInt8)) × Int × Int => r.2.1) (Option.some.inj h)).symm, rn_int (congrArg (fun r : (List (List UInt8)) × Int × Int => r.2.2) (Option.some.inj h)).symm, trivial⟩) (rw_arr rfl encS_p (congrArg (fun r : (List (List UInt8)) × Int × Int => r.1) (Option.some.inj h)).symm (rw_nil)) ⟨rfl, rfl⟩
        · replace h := ite_F h hb_18
          refine T.skip ?_
          refine T.seq ?_
          obtain ⟨x10, hx10, h⟩ := bind_some h
          obtain ⟨x11, hx11, h⟩ := bind_some h
          refine T.region ?_
          refine RS.op rfl (OP.q rfl (v_move (v := .str x4) rfl ?_))
          refine RS.op rfl (OP.q rfl (v_move (v := .int .i64 (IntKind.i64.wrap (x6.toNat : Int))) rfl ?_))
          refine RS.op rfl (OP.q rfl (v_add rfl rfl ?_))
          refine RS.op rfl (o_slice_str Try.underlying9 rfl rfl rfl hx10 ?_)
          refine RS.op rfl (o_call (as0 := [.str x10]) (as1 := [.str x10]) (caps := []) (aw1 := [.arr 9 1 (List.map encS s2)]) rfl rfl rfl (k_flat (v := .int .i64 x11) (frame_sum_c x10 x11 hx11) (⟨pure_str _, trivial⟩) rfl ?_))
          refine RS.op rfl (OP.q rfl (v_assign (v := .int .i64 x11) rfl ?_))
          refine RS.nil ?_
          refine T.seq ?_
          refine T.seq ?_
          obtain ⟨x15, hx15, h⟩ := bind_some h
          obtain ⟨x16, hx16, h⟩ := bind_some h
          obtain ⟨x17, hx17, h⟩ := bind_some h
          refine T.drawn mixed (k := 14) rfl ?_
          refine RA.t0 (i := 0) (li' := #[true, false, false, false, false, false, false, false, false, false, false, false, false, false]) rfl (by decide +kernel) (by decide +kernel) (by decide +kernel) (by decide +kernel) rfl rfl (v_move (v := .str x4) rfl ?_)
          refine RA.t0 (i := 1) (li' := #[true, true, false, false, false, false, false, false, false, false, false, false, false, false]) rfl (by decide +kernel) (by decide +kernel) (by decide +kernel) (by decide +kernel) rfl rfl (v_move (v := .int .i64 (IntKind.i64.wrap (x6.toNat : Int))) rfl ?_)
          refine RA.t0 (i := 2) (li' := #[true, true, true, false, false, false, false, false, false, false, false, false, false, false]) rfl (by decide +kernel) (by decide +kernel) (by decide +kernel) (by decide +kernel) rfl rfl (v_add rfl rfl ?_)
          refine RA.t0 (i := 3) (li' := #[true, true, true, true, false, false, false, false, false, false, false, false, false, false]) rfl (by decide +kernel) (by decide +kernel) (by decide +kernel) (by decide +kernel) rfl rfl (v_index_str Try.underlying9 rfl rfl hx15 ?_)
          refine RA.t0 (i := 4) (li' := #[true, true, true, true, true, false, false, false, false, false, false, false, false, false]) rfl (by decide +kernel) (by decide +kernel) (by decide +kernel) (by decide +kernel) rfl rfl (v_conv Try.underlying5 Try.underlying3 rfl ?_)
          refine RA.t0 (i := 5) (li' := #[true, true, true, true, true, true, false, false, false, false, false, false, false, false]) rfl (by decide +kernel) (by decide +kernel) (by decide +kernel) (by decide +kernel) rfl rfl (v_shl rfl rfl hx16 ?_)
          refine RA.t0 (i := 6) (li' := #[true, true, true, true, true, true, true, false, false, false, false, false, false, false]) rfl (by decide +kernel) (by decide +kernel) (by decide +kernel) (by decide +kernel) rfl rfl (v_move (v := .str x4) rfl ?_)
          refine RA.t0 (i := 7) (li' := #[true, true, true, true, true, true, true, true, false, false, false, false, false, false]) rfl (by decide +kernel) (by decide +kernel) (by decide +kernel) (by decide +kernel) rfl rfl (v_move (v := .int .i64 (IntKind.i64.wrap (x6.toNat : Int))) rfl ?_)
          refine RA.t0 (i := 8) (li' := #[true, true, true, true, true, true, true, true, true, false, false, false, false, false]) rfl (by decide +kernel) (by decide +kernel) (by decide +kernel) (by decide +kernel) rfl rfl (v_add rfl rfl ?_)
          refine RA.t0 (i := 9) (li' := #[true, true, true, true, true, true, true, true, true, true, false, false, false, false]) rfl (by decide +kernel) (by decide +kernel) (by decide +kernel) (by decide +kernel) rfl rfl (v_index_str Try.underlying9 rfl rfl hx17 ?_)
          refine RA.t0 (i := 10) (li' := #[true, true, true, true, true, true, true, true, true, true, true, false, false, false]) rfl (by decide +kernel) (by decide +kernel) (by decide +kernel) (by decide +kernel) rfl rfl (v_conv Try.underlying5 Try.underlying3 rfl ?_)
          refine RA.t0 (i := 11) (li' := #[true, true, true, true, true, true, true, true, true, true, true, true, false, false]) rfl (by decide +kernel) (by decide +kernel) (by decide +kernel) (by decide +kernel) rfl rfl (v_or rfl rfl ?_)
          refine RA.t0 (i := 12) (li' := #[true, true, true, true, true, true, true, true, true, true, true, true, true, false]) rfl (by decide +kernel) (by decide +kernel) (by decide +kernel) (by decide +kernel) rfl rfl (v_move (v := .int .i64 x11) rfl ?_)
          refine RA.t0 (i := 13) (li' := #[true, true, true, true, true, true, true, true, true, true, true, true, true, true]) rfl (by decide +kernel) (by decide +kernel) (by decide +kernel) (by decide +kernel) rfl rfl (v_neq rfl rfl ?_)
          refine RA.done (by decide +kernel) ?_
          refine T.cond (b := (ibits .or .i64 x16 (IntKind.i64.wrap (x17.toNat : Int))) != x11) rfl (fun hb_21 => ?_) (fun hb_21 => ?_)
          · replace h := ite_T h hb_21
            refine T.exit ?_
            obtain ⟨w_22, h, hw_22⟩ := map_inr h
            replace h := h.trans (congrArg some (hv_14 _ hw_22))
            refine T.seq ?_
            refine T.region ?_
            refine RS.op rfl (OP.q rfl (v_move (v := .ref 0) rfl ?_))
            refine RS.op rfl (OP.q rfl (v_move (v := .int .i64 s1) rfl ?_))
            refine RS.op rfl (OP.q rfl (v_assign (v := .ref 0) rfl ?_))
            refine RS.op rfl (OP.q rfl (v_assign (v := .int .i64 s1) rfl ?_))
            refine RS.op rfl (OP.q rfl (v_assign (v := .int .i64 0) rfl ?_))
            refine RS.nil ?_
            refine T.ret' (R := ?R23) ?hq23 ?_
            case hq23 => repeat (first | exact RetIs.base | refine RetIs.thn ?_ | refine RetIs.blk ?_ | refine RetIs.lq ?_)
            refine res_tmpA (v := .ref 0) rfl ?_
            refine res_tmpA (v := .int .i64 s1) rfl ?_
            refine res_tmpA (v := .int .i64 0) rfl ?_
            refine res_done ?_
            exact ret_own (.tup [.ref 0, .int .i64 r.2.1, .int .i64 r.2.2]) [] [0] (by decide) (none_kept _) rfl (rn_tup ⟨rn_ref rfl, rn_int (congrArg (fun r : (List (List UInt8)) × Int × Int => r.2.1) (Option.some.inj h)).symm, rn_int (congrArg (fun r : (List (List UInt8)) × Int × Int => r.2.2) (Option.some.inj h)).symm, trivial⟩) (rw_arr rfl encS_p (congrArg (fun r : (List (List UInt8)) × Int × Int => r.1) (Option.some.inj h)).symm (rw_nil)) ⟨rfl, rfl⟩
          · replace h := ite_F h hb_21
            refine T.skip ?_
            refine T.seq ?_
            obtain ⟨x20, hx20, h⟩ := bind_some h
            obtain ⟨x21, hx21, h⟩ := bind_some h
            refine T.region ?_
            refine RS.op rfl (OP.q rfl (v_move (v := .ref 0) rfl ?_))
            refine RS.op rfl (OP.q rfl (v_move (v := .str x4) rfl ?_))
            refine RS.op rfl (OP.q rfl (v_move (v := .int .i64 (IntKind.i64.wrap (x6.toNat : Int))) rfl ?_))
            refine RS.op rfl (OP.q rfl (v_add rfl rfl ?_))
            refine RS.op rfl (o_slice_str Try.underlying9 rfl rfl rfl hx20 ?_)
            refine RS.op rfl (o_buildSlice (rows := List.map encS [x20]) (vs := [.str x20]) Ty.s29 Ty.z9 rfl rfl rfl rfl rfl (aw' := [.arr 9 1 (List.map encS s2), .arr 9 1 (List.map encS [x20])]) rfl ?_)
            refine RS.op rfl (o_app_ref (en := encS) (xs := s2) (ys := ([x20] : List (List UInt8))) Ty.s29 (fun _ => rfl) rfl rfl rfl hx21 rfl (aw' := [.dead, .dead, .arr 9 1 (List.map encS x21)]) rfl ?_)
            refine RS.op rfl (OP.q rfl (v_assign (v := .ref 2) rfl ?_))
            refine RS.nil ?_
            refine T.region ?_
            refine RS.op rfl (OP.q rfl (v_move (v := .int .i64 s1) rfl ?_))
            refine RS.op rfl (OP.q rfl (v_move (v := .int .i64 (IntKind.i64.wrap (x6.toNat : Int))) rfl ?_))
            refine RS.op rfl (OP.q rfl (v_add rfl rfl ?_))
            refine RS.op rfl (OP.q rfl (v_add rfl rfl ?_))
            refine RS.op rfl (OP.q rfl (v_assign (v := .int .i64 (IntKind.i64.wrap (s1 + (IntKind.i64.wrap ((IntKind.i64.wrap (x6.toNat : Int)) + 3))))) rfl ?_))
            refine RS.nil ?_
            exact ⟨(IntKind.i64.wrap (s1 + (IntKind.i64.wrap ((IntKind.i64.wrap (x6.toNat : Int)) + 3))), x21), (Option.some.inj h).symm, Weak.mkN [] [2] (by decide) (none_kept _) rfl ⟨rn_str rfl, rn_ref rfl, rn_int rfl, trivial⟩ (rw_arr rfl encS_p rfl (rw_nil))⟩
      · rcases bool_cases (decide ((IntKind.i64.wrap (x6.toNat : Int)) < 1)) with hb_16 | hb_16
        · refine T.region ?_
          refine RS.op rfl (OP.q rfl (v_move (v := .int .i64 (IntKind.i64.wrap (x6.toNat : Int))) rfl ?_))
          refine RS.op rfl (OP.q rfl (v_lss rfl rfl ?_))
          refine RS.op rfl (OP.q rfl (v_move (v := .bool (decide ((IntKind.i64.wrap (x6.toNat : Int)) < 1))) rfl ?_))
          refine RS.no rfl rfl rfl hb_16 ?_
          refine RS.no rfl rfl rfl hb_16 ?_
          refine RS.op rfl (OP.q rfl (v_pickT (v := .bool true) rfl hb_16 rfl ?_))
          refine RS.op rfl (OP.q rfl (v_move (v := .bool true) rfl ?_))
          refine RS.no rfl rfl rfl rfl ?_
          refine RS.no rfl rfl rfl rfl ?_
          refine RS.no rfl rfl rfl rfl ?_
          refine RS.no rfl rfl rfl rfl ?_
          refine RS.no rfl rfl rfl rfl ?_
          refine RS.op rfl (OP.q rfl (v_pickT (v := .bool true) rfl rfl rfl ?_))
          refine RS.nil ?_
          exact T.weakR (hK () trivial) (Weak.mkN [] [0] (by decide) (none_kept _) rfl ⟨rn_str rfl, rn_ref rfl, rn_int rfl, rn_str rfl, rn_int rfl, rn_bool (by simp only [hb_16, Bool.true_or, Bool.or_true, Bool.false_or, Bool.or_false, Bool.true_and, Bool.and_true, Bool.false_and, Bool.and_false, Bool.not_true, Bool.not_false, if_true, if_false, Bool.false_eq_true, reduceIte]), trivial⟩ (rw_arr rfl encS_p rfl (rw_nil)))
        · rcases bool_cases (decide ((IntKind.i64.wrap (x6.toNat : Int)) > 60)) with hb_17 | hb_17
          · refine T.region ?_
            refine RS.op rfl (OP.q rfl (v_move (v := .int .i64 (IntKind.i64.wrap (x6.toNat : Int))) rfl ?_))
            refine RS.op rfl (OP.q rfl (v_lss rfl rfl ?_))
            refine RS.op rfl (OP.q rfl (v_move (v := .bool (decide ((IntKind.i64.wrap (x6.toNat : Int)) < 1))) rfl ?_))
            refine RS.yes rfl rfl rfl hb_16 (OP.q rfl (v_move (v := .int .i64 (IntKind.i64.wrap (x6.toNat : Int))) rfl ?_))
            refine RS.yes rfl rfl rfl hb_16 (OP.q rfl (v_gtr rfl rfl ?_))
            refine RS.op rfl (OP.q rfl (v_pickF (v := .bool (decide ((IntKind.i64.wrap (x6.toNat : Int)) > 60))) rfl hb_16 rfl ?_))
            refine RS.op rfl (OP.q rfl (v_move (v := .bool (decide ((IntKind.i64.wrap (x6.toNat : Int)) > 60))) rfl ?_))
            refine RS.no rfl rfl rfl hb_17 ?_
            refine RS.no rfl rfl rfl hb_17 ?_
            refine RS.no rfl rfl rfl hb_17 ?_
            refine RS.no rfl rfl rfl hb_17 ?_
            refine RS.no rfl rfl rfl hb_17 ?_
            refine RS.op rfl (OP.q rfl (v_pickT (v := .bool true) rfl hb_17 rfl ?_))
            refine RS.nil ?_
            exact T.weakR (hK () trivial) (Weak.mkN [] [0] (by decide) (none_kept _) rfl ⟨rn_str rfl, rn_ref rfl, rn_int rfl, rn_str rfl, rn_int rfl, rn_bool (by simp only [hb_16, hb_17, Bool.true_or, Bool.or_true, Bool.false_or, Bool.or_false, Bool.true_and, Bool.and_true, Bool.false_and, Bool.and_false, Bool.not_true, Bool.not_false, if_true, if_false, Bool.false_eq_true, reduceIte]), trivial⟩ (rw_arr rfl encS_p rfl (rw_nil)))
          · refine T.region ?_
            refine RS.op rfl (OP.q rfl (v_move (v := .int .i64 (IntKind.i64.wrap (x6.toNat : Int))) rfl ?_))
            refine RS.op rfl (OP.q rfl (v_lss rfl rfl ?_))
            refine RS.op rfl (OP.q rfl (v_move (v := .bool (decide ((IntKind.i64.wrap (x6.toNat : Int)) < 1))) rfl ?_))
            refine RS.yes rfl rfl rfl hb_16 (OP.q rfl (v_move (v := .int .i64 (IntKind.i64.wrap (x6.toNat : Int))) rfl ?_))
            refine RS.yes rfl rfl rfl hb_16 (OP.q rfl (v_gtr rfl rfl ?_))
            refine RS.op rfl (OP.q rfl (v_pickF (v := .bool (decide ((IntKind.i64.wrap (x6.toNat : Int)) > 60))) rfl hb_16 rfl ?_))
            refine RS.op rfl (OP.q rfl (v_move (v := .bool (decide ((IntKind.i64.wrap (x6.toNat : Int)) > 60))) rfl ?_))
            refine RS.yes rfl rfl rfl hb_17 (OP.q rfl (v_move (v := .str x4) rfl ?_))
            refine RS.yes rfl rfl rfl hb_17 (OP.q rfl (v_len_str Try.underlying9 rfl ?_))
            refine RS.yes rfl rfl rfl hb_17 (OP.q rfl (v_move (v := .int .i64 (IntKind.i64.wrap (x6.toNat : Int))) rfl ?_))
            refine RS.yes rfl rfl rfl hb_17 (OP.q rfl (v_add rfl rfl ?_))
            refine RS.yes rfl rfl rfl hb_17 (OP.q rfl (v_lss rfl rfl ?_))
            refine RS.op rfl (OP.q rfl (v_pickF (v := .bool (decide (((x4).length : Int) < (IntKind.i64.wrap ((IntKind.i64.wrap (x6.toNat : Int)) + 3))))) rfl hb_17 rfl ?_))
            refine RS.nil ?_
            exact T.weakR (hK () trivial) (Weak.mkN [] [0] (by decide) (none_kept _) rfl ⟨rn_str rfl, rn_ref rfl, rn_int rfl, rn_str rfl, rn_int rfl, rn_bool (by simp only [hb_16, hb_17, Bool.true_or, Bool.or_true, Bool.false_or, Bool.or_false, Bool.true_and, Bool.and_true, Bool.false_and, Bool.and_false, Bool.not_true, Bool.not_false, if_true, if_false, Bool.false_eq_true, reduceIte]), trivial⟩ (rw_arr rfl encS_p rfl (rw_nil)))
    · replace h := ite_F h hb_15
      refine T.exit ?_
      obtain ⟨w_24, h, hw_24⟩ := map_inr h
      replace h := h.trans (congrArg some (hv_14 _ hw_24))
      refine T.seq ?_
      refine T.region ?_
      refine RS.op rfl (OP.q rfl (v_move (v := .ref 0) rfl ?_))
      refine RS.op rfl (OP.q rfl (v_move (v := .int .i64 s1) rfl ?_))
      refine RS.op rfl (OP.q rfl (v_assign (v := .ref 0) rfl ?_))
      refine RS.op rfl (OP.q rfl (v_assign (v := .int .i64 s1) rfl ?_))
      refine RS.op rfl (OP.q rfl (v_assign (v := .int .i64 0) rfl ?_))
      refine RS.nil ?_
      refine T.ret' (R := ?R25) ?hq25 ?_
      case hq25 => repeat (first | exact RetIs.base | refine RetIs.thn ?_ | refine RetIs.blk ?_ | refine RetIs.lq ?_)
      refine res_tmpA (v := .ref 0) rfl ?_
      refine res_tmpA (v := .int .i64 s1) rfl ?_
      refine res_tmpA (v := .int .i64 0) rfl ?_
      refine res_done ?_
      exact ret_own (.tup [.ref 0, .int .i64 r.2.1, .int .i64 r.2.2]) [] [0] (by decide) (none_kept _) rfl (rn_tup ⟨rn_ref rfl, rn_int (congrArg (fun r : (List (List UInt8)) × Int × Int => r.2.1) (Option.some.inj h)).symm, rn_int (congrArg (fun r : (List (List UInt8)) × Int × Int => r.2.2) (Option.some.inj h)).symm, trivial⟩) (rw_arr rfl encS_p (congrArg (fun r : (List (List UInt8)) × Int × Int => r.1) (Option.some.inj h)).symm (rw_nil)) ⟨rfl, rfl⟩
theorem slices_Equal_string_c (p0 : List (List UInt8)) (p1 : List (List UInt8)) (r : Bool) (h : slices_Equal_string p0 p1 = some r) : Fn Try.prog 24 [.sl (List.map encS p0), .sl (List.map encS p1)] (.bool r) := by
  unfold slices_Equal_string at h
  refine fn_of_T (N := 0) rfl Try.func24 rfl (by kernel_rfl) Try.ntmps24 rfl ?_
  show T _ _ _ _ (mkA 26 [(0, .sl (List.map encS p0)), (1, .sl (List.map encS p1))]) []
  refine T.seq ?_
  refine T.region ?_
  refine RS.op rfl (OP.q rfl (v_assign (v := .bool false) rfl ?_))
  refine RS.nil ?_
  refine T.seq ?_
  refine T.seq ?_
  refine T.region ?_
  refine RS.op rfl (OP.q rfl (v_move (v := .sl (List.map encS p0)) rfl ?_))
  refine RS.op rfl (OP.q rfl (v_len_sl Ty.s29 rfl ?_))
  refine RS.op rfl (OP.q rfl (v_move (v := .sl (List.map encS p1)) rfl ?_))
  refine RS.op rfl (OP.q rfl (v_len_sl Ty.s29 rfl ?_))
  refine RS.op rfl (OP.q rfl (v_neq rfl rfl ?_))
  refine RS.nil ?_
  refine T.cond (b := ((p0).length : Int) != ((p1).length : Int)) rfl (fun hb_1 => ?_) (fun hb_1 => ?_)
  · replace h := ite_T h hb_1
    refine T.seq ?_
    refine T.region ?_
    refine RS.op rfl (OP.q rfl (v_assign (v := .bool false) rfl ?_))
    refine RS.nil ?_
    refine T.ret' (R := ?R2) ?hq2 ?_
    case hq2 => repeat (first | exact RetIs.base | refine RetIs.thn ?_ | refine RetIs.blk ?_ | refine RetIs.lq ?_)
    refine res_tmpA (v := .bool false) rfl ?_
    refine res_done ?_
    exact ret_data (v := .bool false) rfl (pure_bool _) ⟨congrArg (fun r : Bool => (.bool r : AV)) (Option.some.inj h), rfl⟩
  · replace h := ite_F h hb_1
    refine T.skip ?_
    refine T.seq ?_
    refine T.seq ?_
    refine T.region ?_
    refine RS.op rfl (OP.q rfl (v_move (v := .sl (List.map encS p0)) rfl ?_))
    refine RS.op rfl (OP.q rfl (v_len_sl Ty.s29 rfl ?_))
    refine RS.op rfl (OP.q rfl (v_move (v := .int .i64 0) rfl ?_))
    refine RS.nil ?_
    refine T.block ?_
    refine T.iter (fun ss_11 : Int => mkA 26 [(0, .sl (List.map encS p0)), (1, .sl (List.map encS p1)), (12, .int .i64 ((p0).length : Int)), (13, .int .i64 ss_11)]) (fun ss_11 => []) h (Weak.mkN [] [] (by decide) (none_kept _) rfl ⟨rn_sl encS_p rfl, rn_sl encS_p rfl, rn_int rfl, rn_int rfl, trivial⟩ (rw_nil)) (fun ss_11 v_12 h hv_12 => ?_)
    revert hv_12 h; revert ss_11; intro s1 h hv_12
    replace h : slices_Equal_string_l1 p0 p1 s1 = some v_12 := h
    show T _ _ _ _ (mkA 26 [(0, .sl (List.map encS p0)), (1, .sl (List.map encS p1)), (12, .int .i64 ((p0).length : Int)), (13, .int .i64 s1)]) []
    unfold slices_Equal_string_l1 at h
    refine T.seq ?_
    refine T.region ?_
    refine RS.op rfl (OP.q rfl (v_lss rfl rfl ?_))
    refine RS.nil ?_
    refine T.seq ?_
    refine T.cond (b := decide (s1 < ((p0).length : Int))) rfl (fun hb_13 => ?_) (fun hb_13 => ?_)
    · replace h := ite_T h hb_13
      refine T.skip ?_
      refine T.seq ?_
      refine T.block ?_
      refine T.seq ?_
      refine T.region ?_
      refine RS.op rfl (OP.q rfl (v_move (v := .int .i64 s1) rfl ?_))
      refine RS.op rfl (OP.q rfl (v_assign (v := .int .i64 s1) rfl ?_))
      refine RS.nil ?_
      refine T.seq ?_
      obtain ⟨x4, hx4, h⟩ := bind_some h
      obtain ⟨x5, hx5, h⟩ := bind_some h
      refine T.drawn mixed (k := 9) rfl ?_
      refine RA.join 0 #[true, true, true, true, true, true, true, true, true] (mkA 26 [(0, .sl (List.map encS p0)), (1, .sl (List.map encS p1)), (5, .int .i64 s1), (12, .int .i64 ((p0).length : Int)), (13, .int .i64 s1), (14, .bool (decide (s1 < ((p0).length : Int)))), (15, .int .i64 s1), (16, .sl (List.map encS p0)), (17, .int .i64 s1), (18, .elt (encS x4) 0), (19, .str x4), (20, .sl (List.map encS p1)), (21, .int .i64 s1), (22, .elt (encS x5) 0), (23, .str x5), (24, .bool (!(x4 == x5)))]) [] ?_ (fun hS14 => ?_)
      · refine RA.done (by decide +kernel) ?_
        refine T.cond (b := !(x4 == x5)) rfl (fun hb_15 => ?_) (fun hb_15 => ?_)
        · replace h := ite_T h hb_15
          refine T.seq ?_
          refine T.region ?_
          refine RS.op rfl (OP.q rfl (v_assign (v := .bool false) rfl ?_))
          refine RS.nil ?_
          refine T.ret' (R := ?R16) ?hq16 ?_
          case hq16 => repeat (first | exact RetIs.base | refine RetIs.thn ?_ | refine RetIs.blk ?_ | refine RetIs.lq ?_)
          obtain ⟨w_17, h, hw_17⟩ := map_inr h
          replace h := h.trans (congrArg some (hv_12 _ hw_17))
          refine res_tmpA (v := .bool false) rfl ?_
          refine res_done ?_
          exact ret_data (v := .bool false) rfl (pure_bool _) ⟨congrArg (fun r : Bool => (.bool r : AV)) (Option.some.inj h), rfl⟩
        · replace h := ite_F h hb_15
          refine T.skip ?_
          refine T.region ?_
          refine RS.op rfl (OP.q rfl (v_add rfl rfl ?_))
          refine RS.op rfl (OP.q rfl (v_move (v := .int .i64 (IntKind.i64.wrap (s1 + 1))) rfl ?_))
          refine RS.nil ?_
          exact ⟨IntKind.i64.wrap (s1 + 1), (Option.some.inj h).symm, Weak.mkN [] [] (by decide) (none_kept _) rfl ⟨rn_sl encS_p rfl, rn_sl encS_p rfl, rn_int rfl, rn_int rfl, trivial⟩ (rw_nil)⟩
      · refine RA.t0 (i := 0) (li' := #[true, false, false, false, false, false, false, false, false]) rfl (by decide +kernel) (by decide +kernel) (by decide +kernel) (by decide +kernel) rfl rfl (v_move (v := .sl (List.map encS p0)) rfl ?_)
        refine RA.t0 (i := 1) (li' := #[true, true, false, false, false, false, false, false, false]) rfl (by decide +kernel) (by decide +kernel) (by decide +kernel) (by decide +kernel) rfl rfl (v_move (v := .int .i64 s1) rfl ?_)
        refine RA.t0 (i := 2) (li' := #[true, true, true, false, false, false, false, false, false]) rfl (by decide +kernel) (by decide +kernel) (by decide +kernel) (by decide +kernel) rfl rfl (v_index_sl Ty.s29 (fun _ => rfl) rfl rfl hx4 ?_)
        refine RA.t0 (i := 4) (li' := #[true, true, true, false, true, false, false, false, false]) rfl (by decide +kernel) (by decide +kernel) (by decide +kernel) (by decide +kernel) rfl rfl (v_move (v := .sl (List.map encS p1)) rfl ?_)
        refine RA.t0 (i := 5) (li' := #[true, true, true, false, true, true, false, false, false]) rfl (by decide +kernel) (by decide +kernel) (by decide +kernel) (by decide +kernel) rfl rfl (v_move (v := .int .i64 s1) rfl ?_)
        refine RA.t0 (i := 6) (li' := #[true, true, true, false, true, true, true, false, false]) rfl (by decide +kernel) (by decide +kernel) (by decide +kernel) (by decide +kernel) rfl rfl (v_index_sl Ty.s29 (fun _ => rfl) rfl rfl hx5 ?_)
        refine RA.a2 (i1 := 3) (l1 := #[true, true, true, true, true, true, true, false, false]) (i2 := 7) (l2 := #[true, true, true, false, true, true, true, true, false]) (by decide +kernel) (by decide +kernel) (by decide +kernel) ?_ ?_
        · refine RO.op rfl rfl (o_load_elt rfl (loadRow1 Ty.k9 (c := .str x4) rfl ?_))
          refine RA.a1 (i1 := 7) (l1 := #[true, true, true, true, true, true, true, true, false]) (by decide +kernel) (by decide +kernel) ?_
          refine RO.op rfl rfl (o_load_elt rfl (loadRow1 Ty.k9 (c := .str x5) rfl ?_))
          refine RA.t0 (i := 8) (li' := #[true, true, true, true, true, true, true, true, true]) rfl (by decide +kernel) (by decide +kernel) (by decide +kernel) (by decide +kernel) rfl rfl (v_sneq rfl rfl ?_)
          exact RA.weakR hS14 (Weak.mkN [] [] (by decide) (none_kept _) rfl ⟨rn_sl encS_p rfl, rn_sl encS_p rfl, rn_int rfl, rn_int rfl, rn_int rfl, rn_bool rfl, rn_int rfl, rn_sl encS_p rfl, rn_int rfl, rn_elt (encS_p _) (congrArg encS rfl), rn_str rfl, rn_sl encS_p rfl, rn_int rfl, rn_elt (encS_p _) (congrArg encS rfl), rn_str rfl, rn_bool rfl, trivial⟩ (rw_nil))
        · refine RO.op rfl rfl (o_load_elt rfl (loadRow1 Ty.k9 (c := .str x5) rfl ?_))
          refine RA.a1 (i1 := 3) (l1 := #[true, true, true, true, true, true, true, true, false]) (by decide +kernel) (by decide +kernel) ?_
          refine RO.op rfl rfl (o_load_elt rfl (loadRow1 Ty.k9 (c := .str x4) rfl ?_))
          refine RA.t0 (i := 8) (li' := #[true, true, true, true, true, true, true, true, true]) rfl (by decide +kernel) (by decide +kernel) (by decide +kernel) (by decide +kernel) rfl rfl (v_sneq rfl rfl ?_)
          exact RA.weakR hS14 (Weak.mkN [] [] (by decide) (none_kept _) rfl ⟨rn_sl encS_p rfl, rn_sl encS_p rfl, rn_int rfl, rn_int rfl, rn_int rfl, rn_bool rfl, rn_int rfl, rn_sl encS_p rfl, rn_int rfl, rn_elt (encS_p _) (congrArg encS rfl), rn_str rfl, rn_sl encS_p rfl, rn_int rfl, rn_elt (encS_p _) (congrArg encS rfl), rn_str rfl, rn_bool rfl, trivial⟩ (rw_nil))
    · replace h := ite_F h hb_13
      refine T.exit ?_
      obtain ⟨w_18, h, hw_18⟩ := map_inr h
      replace h := h.trans (congrArg some (hv_12 _ hw_18))
      refine T.seq ?_
      refine T.region ?_
      refine RS.op rfl (OP.q rfl (v_assign (v := .bool true) rfl ?_))
      refine RS.nil ?_
      refine T.ret' (R := ?R19) ?hq19 ?_
      case hq19 => repeat (first | exact RetIs.base | refine RetIs.thn ?_ | refine RetIs.blk ?_ | refine RetIs.lq ?_)
      refine res_tmpA (v := .bool true) rfl ?_
      refine res_done ?_
      exact ret_data (v := .bool true) rfl (pure_bool _) ⟨congrArg (fun r : Bool => (.bool r : AV)) (Option.some.inj h), rfl⟩
theorem crosslaw_framed_c (r : Bool) (h : crosslaw_framed = some r) : Fn Try.prog 21 [] (.bool r) := by
  unfold crosslaw_framed at h
  refine fn_of_T (N := 0) rfl Try.func21 rfl (by kernel_rfl) Try.ntmps21 rfl ?_
  show T _ _ _ _ (mkA 42 []) []
  refine T.seq ?_
  refine T.region ?_
  refine RS.op rfl (OP.q rfl (v_assign (v := .bool false) rfl ?_))
  refine RS.nil ?_
  refine T.seq ?_
  obtain ⟨x2, hx2, h⟩ := bind_some h
  refine T.region ?_
  refine RS.op rfl (o_call (as0 := [.str [49, 50, 51, 52, 53, 54, 55, 56]]) (as1 := [.str ([49, 50, 51, 52, 53, 54, 55, 56] : List UInt8)]) (caps := []) (aw1 := []) rfl rfl rfl (k_flat (v := .tup [.str x2.1, .int .i64 x2.2]) (frame_Put_c ([49, 50, 51, 52, 53, 54, 55, 56] : List UInt8) x2 hx2) (⟨pure_str _, trivial⟩) rfl ?_))
  refine RS.op rfl (OP.q rfl (v_move (v := .tup [.str x2.1, .int .i64 x2.2]) rfl ?_))
  refine RS.op rfl (OP.q rfl (v_extract (v := .str x2.1) rfl rfl ?_))
  refine RS.op rfl (OP.q rfl (v_extract (v := .int .i64 x2.2) rfl rfl ?_))
  refine RS.op rfl (OP.q rfl (v_assign (v := .str x2.1) rfl ?_))
  refine RS.op rfl (OP.q rfl (v_assign (v := .int .i64 x2.2) rfl ?_))
  refine RS.nil ?_
  refine T.seq ?_
  obtain ⟨x5, hx5, h⟩ := bind_some h
  obtain ⟨x6, hx6, h⟩ := bind_some h
  refine T.region ?_
  refine RS.op rfl (OP.q rfl (v_move (v := .str x2.1) rfl ?_))
  refine RS.op rfl (OP.q rfl (v_sadd rfl rfl hx5 ?_))
  refine RS.op rfl (o_call (as0 := [.str x5]) (as1 := [.str x5]) (caps := []) (aw1 := []) rfl rfl rfl (k_own' (v := .tup [.ref 0, .int .i64 x6.2.1, .int .i64 x6.2.2]) (obs := [.arr 9 1 (List.map encS x6.1)]) (v' := .tup [.ref 0, .int .i64 x6.2.1, .int .i64 x6.2.2]) (aw' := [.arr 9 1 (List.map encS x6.1)]) (frame_Read_c x5 x6 hx6) (⟨pure_str _, trivial⟩) rfl (obs_cons (flatOb_map fun _ => rfl) obs_nil) rfl rfl ?_))
  refine RS.op rfl (OP.q rfl (v_move (v := .tup [.ref 0, .int .i64 x6.2.1, .int .i64 x6.2.2]) rfl ?_))
  refine RS.op rfl (OP.q rfl (v_extract (v := .ref 0) rfl rfl ?_))
  refine RS.op rfl (OP.q rfl (v_extract (v := .int .i64 x6.2.1) rfl rfl ?_))
  refine RS.op rfl (OP.q rfl (v_extract (v := .int .i64 x6.2.2) rfl rfl ?_))
  refine RS.op rfl (OP.q rfl (v_assign (v := .ref 0) rfl ?_))
  refine RS.op rfl (OP.q rfl (v_assign (v := .int .i64 x6.2.1) rfl ?_))
  refine RS.op rfl (OP.q rfl (v_assign (v := .int .i64 x6.2.2) rfl ?_))
  refine RS.nil ?_
  obtain ⟨zt_6, hz, h⟩ := bind_some h
  revert hz h; revert zt_6; intro c9 hz h
  refine T.join (Z := Unit) (fun _ => mkA 42 [(0, .bool c9)]) (fun _ => []) (fun _ => True) (fun _ _ => ?_) (fun hK => ?_)
  · show T _ _ _ _ (mkA 42 [(0, .bool c9)]) []
    refine T.ret' (R := ?R7) ?hq7 ?_
    case hq7 => repeat (first | exact RetIs.base | refine RetIs.thn ?_ | refine RetIs.blk ?_ | refine RetIs.lq ?_)
    refine res_tmpA (v := .bool c9) rfl ?_
    refine res_done ?_
    exact ret_data (v := .bool c9) rfl (pure_bool _) ⟨congrArg (fun r : Bool => (.bool r : AV)) (Option.some.inj h), rfl⟩
  · rcases bool_cases (x2.2 == 0) with hb_1 | hb_1
    · replace hz := ite_T hz hb_1
      rcases bool_cases (x6.2.2 == 0) with hb_2 | hb_2
      · replace hz := ite_T hz hb_2
        rcases bool_cases (((x2.1).length : Int) == 11) with hb_3 | hb_3
        · replace hz := ite_T hz hb_3
          rcases bool_cases (x6.2.1 == 11) with hb_4 | hb_4
          · replace hz := ite_T hz hb_4
            obtain ⟨x7, hx7, hz⟩ := bind_some hz
            rcases bool_cases x7 with hb_5 | hb_5
            · replace hz := ite_T hz hb_5
              obtain ⟨x8, hx8, hz⟩ := bind_some hz
              refine T.region ?_
              refine RS.op rfl (OP.q rfl (v_move (v := .int .i64 x2.2) rfl ?_))
              refine RS.op rfl (OP.q rfl (v_eql rfl rfl ?_))
              refine RS.op rfl (OP.q rfl (v_move (v := .bool (x2.2 == 0)) rfl ?_))
              refine RS.yes rfl rfl rfl hb_1 (OP.q rfl (v_move (v := .int .i64 x6.2.2) rfl ?_))
              refine RS.yes rfl rfl rfl hb_1 (OP.q rfl (v_eql rfl rfl ?_))
              refine RS.op rfl (OP.q rfl (v_pickT (v := .bool (x6.2.2 == 0)) rfl hb_1 rfl ?_))
              refine RS.op rfl (OP.q rfl (v_move (v := .bool (x6.2.2 == 0)) rfl ?_))
              refine RS.yes rfl rfl rfl hb_2 (OP.q rfl (v_move (v := .str x2.1) rfl ?_))
              refine RS.yes rfl rfl rfl hb_2 (OP.q rfl (v_len_str Try.underlying9 rfl ?_))
              refine RS.yes rfl rfl rfl hb_2 (OP.q rfl (v_eql rfl rfl ?_))
              refine RS.op rfl (OP.q rfl (v_pickT (v := .bool (((x2.1).length : Int) == 11)) rfl hb_2 rfl ?_))
              refine RS.op rfl (OP.q rfl (v_move (v := .bool (((x2.1).length : Int) == 11)) rfl ?_))
              refine RS.yes rfl rfl rfl hb_3 (OP.q rfl (v_move (v := .int .i64 x6.2.1) rfl ?_))
              refine RS.yes rfl rfl rfl hb_3 (OP.q rfl (v_eql rfl rfl ?_))
              refine RS.op rfl (OP.q rfl (v_pickT (v := .bool (x6.2.1 == 11)) rfl hb_3 rfl ?_))
              refine RS.op rfl (OP.q rfl (v_move (v := .bool (x6.2.1 == 11)) rfl ?_))
              refine RS.yes rfl rfl rfl hb_4 (OP.q rfl (v_move (v := .ref 0) rfl ?_))
              refine RS.yes rfl rfl rfl hb_4 (o_buildSlice (rows := List.map encS [[49, 50, 51, 52, 53, 54, 55, 56]]) (vs := [.str [49, 50, 51, 52, 53, 54, 55, 56]]) Ty.s29 Ty.z9 rfl rfl rfl rfl rfl (aw' := [.arr 9 1 (List.map encS x6.1), .arr 9 1 (List.map encS [[49, 50, 51, 52, 53, 54, 55, 56]])]) rfl ?_)
              refine RS.yes rfl rfl rfl hb_4 (o_call (as0 := [.ref 0, .ref 1]) (as1 := [.sl (List.map encS x6.1), .sl (List.map encS ([[49, 50, 51, 52, 53, 54, 55, 56]] : List (List UInt8)))]) (caps := []) (aw1 := [.dead, .dead]) rfl rfl rfl (k_flat (v := .bool x7) (slices_Equal_string_c x6.1 ([[49, 50, 51, 52, 53, 54, 55, 56]] : List (List UInt8)) x7 hx7) (⟨pure_map encS_p _, pure_map encS_p _, trivial⟩) rfl ?_))
              refine RS.op rfl (OP.q rfl (v_pickT (v := .bool x7) rfl hb_4 rfl ?_))
              refine RS.op rfl (OP.q rfl (v_move (v := .bool x7) rfl ?_))
              refine RS.yes rfl rfl rfl hb_5 (OP.q rfl (v_move (v := .str x2.1) rfl ?_))
              refine RS.yes rfl rfl rfl hb_5 (OP.q rfl (v_index_str Try.underlying9 rfl rfl hx8 ?_))
              refine RS.yes rfl rfl rfl hb_5 (OP.q rfl (v_eql rfl rfl ?_))
              refine RS.op rfl (OP.q rfl (v_pickT (v := .bool ((x8.toNat : Int) == 8)) rfl hb_5 rfl ?_))
              refine RS.op rfl (OP.q rfl (v_assign (v := .bool ((x8.toNat : Int) == 8)) rfl ?_))
              refine RS.nil ?_
              exact T.weakR (hK () trivial) (Weak.mkN [] [] (by decide) (none_kept _) rfl ⟨rn_bool ((congrArg (fun p => p) (Option.some.inj hz)).symm), trivial⟩ (rw_nil))
            · replace hz := ite_F hz hb_5
              refine T.region ?_
              refine RS.op rfl (OP.q rfl (v_move (v := .int .i64 x2.2) rfl ?_))
              refine RS.op rfl (OP.q rfl (v_eql rfl rfl ?_))
              refine RS.op rfl (OP.q rfl (v_move (v := .bool (x2.2 == 0)) rfl ?_))
              refine RS.yes rfl rfl rfl hb_1 (OP.q rfl (v_move (v := .int .i64 x6.2.2) rfl ?_))
              refine RS.yes rfl rfl rfl hb_1 (OP.q rfl (v_eql rfl rfl ?_))
              refine RS.op rfl (OP.q rfl (v_pickT (v := .bool (x6.2.2 == 0)) rfl hb_1 rfl ?_))
              refine RS.op rfl (OP.q rfl (v_move (v := .bool (x6.2.2 == 0)) rfl ?_))
              refine RS.yes rfl rfl rfl hb_2 (OP.q rfl (v_move (v := .str x2.1) rfl ?_))
              refine RS.yes rfl rfl rfl hb_2 (OP.q rfl (v_len_str Try.underlying9 rfl ?_))
              refine RS.yes rfl rfl rfl hb_2 (OP.q rfl (v_eql rfl rfl ?_))
              refine RS.op rfl (OP.q rfl (v_pickT (v := .bool (((x2.1).length : Int) == 11)) rfl hb_2 rfl ?_))
              refine RS.op rfl (OP.q rfl (v_move (v := .bool (((x2.1).length : Int) == 11)) rfl ?_))
              refine RS.yes rfl rfl rfl hb_3 (OP.q rfl (v_move (v := .int .i64 x6.2.1) rfl ?_))
              refine RS.yes rfl rfl rfl hb_3 (OP.q rfl (v_eql rfl rfl ?_))
              refine RS.op rfl (OP.q rfl (v_pickT (v := .bool (x6.2.1 == 11)) rfl hb_3 rfl ?_))
              refine RS.op rfl (OP.q rfl (v_move (v := .bool (x6.2.1 == 11)) rfl ?_))
              refine RS.yes rfl rfl rfl hb_4 (OP.q rfl (v_move (v := .ref 0) rfl ?_))
              refine RS.yes rfl rfl rfl hb_4 (o_buildSlice (rows := List.map encS [[49, 50, 51, 52, 53, 54, 55, 56]]) (vs := [.str [49, 50, 51, 52, 53, 54, 55, 56]]) Ty.s29 Ty.z9 rfl rfl rfl rfl rfl (aw' := [.arr 9 1 (List.map encS x6.1), .arr 9 1 (List.map encS [[49, 50, 51, 52, 53, 54, 55, 56]])]) rfl ?_)
              refine RS.yes rfl rfl rfl hb_4 (o_call (as0 := [.ref 0, .ref 1]) (as1 := [.sl (List.map encS x6.1), .sl (List.map encS ([[49, 50, 51, 52, 53, 54, 55, 56]] : List (List UInt8)))]) (caps := []) (aw1 := [.dead, .dead]) rfl rfl rfl (k_flat (v := .bool x7) (slices_Equal_string_c x6.1 ([[49, 50, 51, 52, 53, 54, 55, 56]] : List (List UInt8)) x7 hx7) (⟨pure_map encS_p _, pure_map encS_p _, trivial⟩) rfl ?_))
              refine RS.op rfl (OP.q rfl (v_pickT (v := .bool x7) rfl hb_4 rfl ?_))
              refine RS.op rfl (OP.q rfl (v_move (v := .bool x7) rfl ?_))
              refine RS.no rfl rfl rfl hb_5 ?_
              refine RS.no rfl rfl rfl hb_5 ?_
              refine RS.no rfl rfl rfl hb_5 ?_
              refine RS.op rfl (OP.q rfl (v_pickF (v := .bool false) rfl hb_5 rfl ?_))
              refine RS.op rfl (OP.q rfl (v_assign (v := .bool false) rfl ?_))
              refine RS.nil ?_
              exact T.weakR (hK () trivial) (Weak.mkN [] [] (by decide) (none_kept _) rfl ⟨rn_bool ((congrArg (fun p => p) (Option.some.inj hz)).symm), trivial⟩ (rw_nil))
          · replace hz := ite_F hz hb_4
            refine T.region ?_
            refine RS.op rfl (OP.q rfl (v_move (v := .int .i64 x2.2) rfl ?_))
            refine RS.op rfl (OP.q rfl (v_eql rfl rfl ?_))
            refine RS.op rfl (OP.q rfl (v_move (v := .bool (x2.2 == 0)) rfl ?_))
            refine RS.yes rfl rfl rfl hb_1 (OP.q rfl (v_move (v := .int .i64 x6.2.2) rfl ?_))
            refine RS.yes rfl rfl rfl hb_1 (OP.q rfl (v_eql rfl rfl ?_))
            refine RS.op rfl (OP.q rfl (v_pickT (v := .bool (x6.2.2 == 0)) rfl hb_1 rfl ?_))
            refine RS.op rfl (OP.q rfl (v_move (v := .bool (x6.2.2 == 0)) rfl ?_))
            refine RS.yes rfl rfl rfl hb_2 (OP.q rfl (v_move (v := .str x2.1) rfl ?_))
            refine RS.yes rfl rfl rfl hb_2 (OP.q rfl (v_len_str Try.underlying9 rfl ?_))
            refine RS.yes rfl rfl rfl hb_2 (OP.q rfl (v_eql rfl rfl ?_))
            refine RS.op rfl (OP.q rfl (v_pickT (v := .bool (((x2.1).length : Int) == 11)) rfl hb_2 rfl ?_))
            refine RS.op rfl (OP.q rfl (v_move (v := .bool (((x2.1).length : Int) == 11)) rfl ?_))
            refine RS.yes rfl rfl rfl hb_3 (OP.q rfl (v_move (v := .int .i64 x6.2.1) rfl ?_))
            refine RS.yes rfl rfl rfl hb_3 (OP.q rfl (v_eql rfl rfl ?_))
            refine RS.op rfl (OP.q rfl (v_pickT (v := .bool (x6.2.1 == 11)) rfl hb_3 rfl ?_))
            refine RS.op rfl (OP.q rfl (v_move (v := .bool (x6.2.1 == 11)) rfl ?_))
            refine RS.no rfl rfl rfl hb_4 ?_
            refine RS.no rfl rfl rfl hb_4 ?_
            refine RS.no rfl rfl rfl hb_4 ?_
            refine RS.op rfl (OP.q rfl (v_pickF (v := .bool false) rfl hb_4 rfl ?_))
            refine RS.op rfl (OP.q rfl (v_move (v := .bool false) rfl ?_))
            refine RS.no rfl rfl rfl rfl ?_
            refine RS.no rfl rfl rfl rfl ?_
            refine RS.no rfl rfl rfl rfl ?_
            refine RS.op rfl (OP.q rfl (v_pickF (v := .bool false) rfl rfl rfl ?_))
            refine RS.op rfl (OP.q rfl (v_assign (v := .bool false) rfl ?_))
            refine RS.nil ?_
            exact T.weakR (hK () trivial) (Weak.mkN [] [] (by decide) (none_kept _) rfl ⟨rn_bool ((congrArg (fun p => p) (Option.some.inj hz)).symm), trivial⟩ (rw_nil))
        · replace hz := ite_F hz hb_3
          refine T.region ?_
          refine RS.op rfl (OP.q rfl (v_move (v := .int .i64 x2.2) rfl ?_))
          refine RS.op rfl (OP.q rfl (v_eql rfl rfl ?_))
          refine RS.op rfl (OP.q rfl (v_move (v := .bool (x2.2 == 0)) rfl ?_))
          refine RS.yes rfl rfl rfl hb_1 (OP.q rfl (v_move (v := .int .i64 x6.2.2) rfl ?_))
          refine RS.yes rfl rfl rfl hb_1 (OP.q rfl (v_eql rfl rfl ?_))
          refine RS.op rfl (OP.q rfl (v_pickT (v := .bool (x6.2.2 == 0)) rfl hb_1 rfl ?_))
          refine RS.op rfl (OP.q rfl (v_move (v := .bool (x6.2.2 == 0)) rfl ?_))
          refine RS.yes rfl rfl rfl hb_2 (OP.q rfl (v_move (v := .str x2.1) rfl ?_))
          refine RS.yes rfl rfl rfl hb_2 (OP.q rfl (v_len_str Try.underlying9 rfl ?_))
          refine RS.yes rfl rfl rfl hb_2 (OP.q rfl (v_eql rfl rfl ?_))
          refine RS.op rfl (OP.q rfl (v_pickT (v := .bool (((x2.1).length : Int) == 11)) rfl hb_2 rfl ?_))
          refine RS.op rfl (OP.q rfl (v_move (v := .bool (((x2.1).length : Int) == 11)) rfl ?_))
          refine RS.no rfl rfl rfl hb_3 ?_
          refine RS.no rfl rfl rfl hb_3 ?_
          refine RS.op rfl (OP.q rfl (v_pickF (v := .bool false) rfl hb_3 rfl ?_))
          refine RS.op rfl (OP.q rfl (v_move (v := .bool false) rfl ?_))
          refine RS.no rfl rfl rfl rfl ?_
          refine RS.no rfl rfl rfl rfl ?_
          refine RS.no rfl rfl rfl rfl ?_
          refine RS.op rfl (OP.q rfl (v_pickF (v := .bool false) rfl rfl rfl ?_))
          refine RS.op rfl (OP.q rfl (v_move (v := .bool false) rfl ?_))
          refine RS.no rfl rfl rfl rfl ?_
          refine RS.no rfl rfl rfl rfl ?_
          refine RS.no rfl rfl rfl rfl ?_
          refine RS.op rfl (OP.q rfl (v_pickF (v := .bool false) rfl rfl rfl ?_))
          refine RS.op rfl (OP.q rfl (v_assign (v := .bool false) rfl ?_))
          refine RS.nil ?_
          exact T.weakR (hK () trivial) (Weak.mkN [] [] (by decide) (none_kept _) rfl ⟨rn_bool ((congrArg (fun p => p) (Option.some.inj hz)).symm), trivial⟩ (rw_nil))
      · replace hz := ite_F hz hb_2
        refine T.region ?_
        refine RS.op rfl (OP.q rfl (v_move (v := .int .i64 x2.2) rfl ?_))
        refine RS.op rfl (OP.q rfl (v_eql rfl rfl ?_))
        refine RS.op rfl (OP.q rfl (v_move (v := .bool (x2.2 == 0)) rfl ?_))
        refine RS.yes rfl rfl rfl hb_1 (OP.q rfl (v_move (v := .int .i64 x6.2.2) rfl ?_))
        refine RS.yes rfl rfl rfl hb_1 (OP.q rfl (v_eql rfl rfl ?_))
        refine RS.op rfl (OP.q rfl (v_pickT (v := .bool (x6.2.2 == 0)) rfl hb_1 rfl ?_))
        refine RS.op rfl (OP.q rfl (v_move (v := .bool (x6.2.2 == 0)) rfl ?_))
        refine RS.no rfl rfl rfl hb_2 ?_
        refine RS.no rfl rfl rfl hb_2 ?_
        refine RS.no rfl rfl rfl hb_2 ?_
        refine RS.op rfl (OP.q rfl (v_pickF (v := .bool false) rfl hb_2 rfl ?_))
        refine RS.op rfl (OP.q rfl (v_move (v := .bool false) rfl ?_))
        refine RS.no rfl rfl rfl rfl ?_
        refine RS.no rfl rfl rfl rfl ?_
        refine RS.op rfl (OP.q rfl (v_pickF (v := .bool false) rfl rfl rfl ?_))
        refine RS.op rfl (OP.q rfl (v_move (v := .bool false) rfl ?_))
        refine RS.no rfl rfl rfl rfl ?_
        refine RS.no rfl rfl rfl rfl ?_
        refine RS.no rfl rfl rfl rfl ?_
        refine RS.op rfl (OP.q rfl (v_pickF (v := .bool false) rfl rfl rfl ?_))
        refine RS.op rfl (OP.q rfl (v_move (v := .bool false) rfl ?_))
        refine RS.no rfl rfl rfl rfl ?_
        refine RS.no rfl rfl rfl rfl ?_
        refine RS.no rfl rfl rfl rfl ?_
        refine RS.op rfl (OP.q rfl (v_pickF (v := .bool false) rfl rfl rfl ?_))
        refine RS.op rfl (OP.q rfl (v_assign (v := .bool false) rfl ?_))
        refine RS.nil ?_
        exact T.weakR (hK () trivial) (Weak.mkN [] [] (by decide) (none_kept _) rfl ⟨rn_bool ((congrArg (fun p => p) (Option.some.inj hz)).symm), trivial⟩ (rw_nil))
    · replace hz := ite_F hz hb_1
      refine T.region ?_
      refine RS.op rfl (OP.q rfl (v_move (v := .int .i64 x2.2) rfl ?_))
      refine RS.op rfl (OP.q rfl (v_eql rfl rfl ?_))
      refine RS.op rfl (OP.q rfl (v_move (v := .bool (x2.2 == 0)) rfl ?_))
      refine RS.no rfl rfl rfl hb_1 ?_
      refine RS.no rfl rfl rfl hb_1 ?_
      refine RS.op rfl (OP.q rfl (v_pickF (v := .bool false) rfl hb_1 rfl ?_))
      refine RS.op rfl (OP.q rfl (v_move (v := .bool false) rfl ?_))
      refine RS.no rfl rfl rfl rfl ?_
      refine RS.no rfl rfl rfl rfl ?_
      refine RS.no rfl rfl rfl rfl ?_
      refine RS.op rfl (OP.q rfl (v_pickF (v := .bool false) rfl rfl rfl ?_))
      refine RS.op rfl (OP.q rfl (v_move (v := .bool false) rfl ?_))
      refine RS.no rfl rfl rfl rfl ?_
      refine RS.no rfl rfl rfl rfl ?_
      refine RS.op rfl (OP.q rfl (v_pickF (v := .bool false) rfl rfl rfl ?_))
      refine RS.op rfl (OP.q rfl (v_move (v := .bool false) rfl ?_))
      refine RS.no rfl rfl rfl rfl ?_
      refine RS.no rfl rfl rfl rfl ?_
      refine RS.no rfl rfl rfl rfl ?_
      refine RS.op rfl (OP.q rfl (v_pickF (v := .bool false) rfl rfl rfl ?_))
      refine RS.op rfl (OP.q rfl (v_move (v := .bool false) rfl ?_))
      refine RS.no rfl rfl rfl rfl ?_
      refine RS.no rfl rfl rfl rfl ?_
      refine RS.no rfl rfl rfl rfl ?_
      refine RS.op rfl (OP.q rfl (v_pickF (v := .bool false) rfl rfl rfl ?_))
      refine RS.op rfl (OP.q rfl (v_assign (v := .bool false) rfl ?_))
      refine RS.nil ?_
      exact T.weakR (hK () trivial) (Weak.mkN [] [] (by decide) (none_kept _) rfl ⟨rn_bool ((congrArg (fun p => p) (Option.some.inj hz)).symm), trivial⟩ (rw_nil))
theorem frame_Choices_c (p0 : List Choice) (r : (List UInt8) × Int) (h : frame_Choices p0 = some r) : Fn Try.prog 38 [.sl (List.map encChoice p0)] (.tup [.str r.1, .int .i64 r.2]) := by
  unfold frame_Choices at h
  refine fn_of_T (N := 0) rfl Try.func38 rfl (by kernel_rfl) Try.ntmps38 rfl ?_
  show T _ _ _ _ (mkA 46 [(0, .sl (List.map encChoice p0))]) []
  refine T.seq ?_
  refine T.region ?_
  refine RS.op rfl (OP.q rfl (v_assign (v := .str []) rfl ?_))
  refine RS.op rfl (OP.q rfl (v_assign (v := .int .i64 0) rfl ?_))
  refine RS.nil ?_
  refine T.seq ?_
  refine T.seq ?_
  refine T.region ?_
  refine RS.op rfl (OP.q rfl (v_move (v := .sl (List.map encChoice p0)) rfl ?_))
  refine RS.op rfl (OP.q rfl (v_len_sl Ty.s58 rfl ?_))
  refine RS.op rfl (OP.q rfl (v_gtr rfl rfl ?_))
  refine RS.nil ?_
  refine T.cond (b := decide (((p0).length : Int) > 30)) rfl (fun hb_1 => ?_) (fun hb_1 => ?_)
  · replace h := ite_T h hb_1
    refine T.seq ?_
    refine T.region ?_
    refine RS.op rfl (OP.q rfl (v_assign (v := .str []) rfl ?_))
    refine RS.op rfl (OP.q rfl (v_assign (v := .int .i64 2) rfl ?_))
    refine RS.nil ?_
    refine T.ret' (R := ?R2) ?hq2 ?_
    case hq2 => repeat (first | exact RetIs.base | refine RetIs.thn ?_ | refine RetIs.blk ?_ | refine RetIs.lq ?_)
    refine res_tmpA (v := .str []) rfl ?_
    refine res_tmpA (v := .int .i64 2) rfl ?_
    refine res_done ?_
    exact ret_data (v := .tup [.str [], .int .i64 2]) rfl (pure_tup _ (pures_mem (⟨pure_str _, pure_int _ _, trivial⟩))) ⟨congrArg (fun r : (List UInt8) × Int => (.tup [.str r.1, .int .i64 r.2] : AV)) (Option.some.inj h), rfl⟩
  · replace h := ite_F h hb_1
    refine T.skip ?_
    refine T.seq ?_
    refine T.region ?_
    refine RS.op rfl (OP.q rfl (v_assign (v := .nils) rfl ?_))
    refine RS.nil ?_
    refine T.seq ?_
    refine T.seq ?_
    refine T.region ?_
    refine RS.op rfl (OP.q rfl (v_move (v := .sl (List.map encChoice p0)) rfl ?_))
    refine RS.op rfl (OP.q rfl (v_len_sl Ty.s58 rfl ?_))
    refine RS.op rfl (OP.q rfl (v_move (v := .int .i64 0) rfl ?_))
    refine RS.nil ?_
    refine T.block ?_
    refine T.iter (fun ss_15 : Int × (List Int) => mkA 46 [(4, .ref 0), (10, .sl (List.map encChoice p0)), (11, .int .i64 ((p0).length : Int)), (12, .int .i64 ss_15.1)]) (fun ss_15 => [.arr 5 1 (List.map enc8 ss_15.2)]) h (Weak.mkN [(4, 5, 1)] [0] (by decide) (none_kept _) rfl ⟨rn_ref rfl, rn_sl encChoice_p rfl, rn_int rfl, rn_int rfl, trivial⟩ (rw_arr (en := enc8) (ys := []) rfl enc8_p rfl (rw_nil))) (fun ss_15 v_16 h hv_16 => ?_)
    obtain ⟨s1, s2⟩ := ss_15
    replace h : frame_Choices_l1 p0 s1 s2 = some v_16 := h
    show T _ _ _ _ (mkA 46 [(4, .ref 0), (10, .sl (List.map encChoice p0)), (11, .int .i64 ((p0).length : Int)), (12, .int .i64 s1)]) [.arr 5 1 (List.map enc8 s2)]
    unfold frame_Choices_l1 at h
    refine T.seq ?_
    refine T.region ?_
    refine RS.op rfl (OP.q rfl (v_lss rfl rfl ?_))
    refine RS.nil ?_
    refine T.seq ?_
    refine T.cond (b := decide (s1 < ((p0).length : Int))) rfl (fun hb_17 => ?_) (fun hb_17 => ?_)
    · replace h := ite_T h hb_17
      refine T.skip ?_
      refine T.seq ?_
      refine T.block ?_
      refine T.seq ?_
      obtain ⟨x4, hx4, h⟩ := bind_some h
      refine T.region ?_
      refine RS.op rfl (OP.q rfl (v_index_sl Ty.s58 (fun _ => rfl) rfl rfl hx4 ?_))
      refine RS.op rfl (o_load_elt rfl (loadRowA Ty.k66 Ty.c66 rfl (cs := [.int .i64 x4.Node, .int .i64 x4.Lane]) rfl ?_))
      refine RS.op rfl (o_alloc Ty.z66 rfl (aw' := [.arr 5 1 (List.map enc8 s2), .box [.int .i64 0, .int .i64 0]]) rfl ?_)
      refine RS.op rfl (o_store_ptr Ty.c66 Ty.i66 rfl (vs := [.int .i64 x4.Node, .int .i64 x4.Lane]) rfl rfl rfl rfl (cs' := [.int .i64 x4.Node, .int .i64 x4.Lane]) rfl (aw' := [.arr 5 1 (List.map enc8 s2), .box [.int .i64 x4.Node, .int .i64 x4.Lane]]) rfl ?_)
      refine RS.nil ?_
      refine T.seq ?_
      refine T.join (Z := Unit) (fun _ => mkA 46 [(4, .ref 0), (6, .ptr 1 0), (10, .sl (List.map encChoice p0)), (11, .int .i64 ((p0).length : Int)), (12, .int .i64 s1), (33, .bool ((decide (x4.Node < 0)) || ((decide (x4.Node ≥ 12)) || ((decide (x4.Lane < 0)) || decide (x4.Lane ≥ 16)))))]) (fun _ => [.arr 5 1 (List.map enc8 s2), .box [.int .i64 x4.Node, .int .i64 x4.Lane]]) (fun _ => True) (fun _ _ => ?_) (fun hK => ?_)
      · show T _ _ _ _ (mkA 46 [(4, .ref 0), (6, .ptr 1 0), (10, .sl (List.map encChoice p0)), (11, .int .i64 ((p0).length : Int)), (12, .int .i64 s1), (33, .bool ((decide (x4.Node < 0)) || ((decide (x4.Node ≥ 12)) || ((decide (x4.Lane < 0)) || decide (x4.Lane ≥ 16)))))]) [.arr 5 1 (List.map enc8 s2), .box [.int .i64 x4.Node, .int .i64 x4.Lane]]
        refine T.cond (b := ((decide (x4.Node < 0)) || ((decide (x4.Node ≥ 12)) || ((decide (x4.Lane < 0)) || decide (x4.Lane ≥ 16))))) rfl (fun hb_21 => ?_) (fun hb_21 => ?_)
        · replace h := ite_T h hb_21
          refine T.seq ?_
          refine T.region ?_
          refine RS.op rfl (OP.q rfl (v_assign (v := .str []) rfl ?_))
          refine RS.op rfl (OP.q rfl (v_assign (v := .int .i64 3) rfl ?_))
          refine RS.nil ?_
          refine T.ret' (R := ?R22) ?hq22 ?_
          case hq22 => repeat (first | exact RetIs.base | refine RetIs.thn ?_ | refine RetIs.blk ?_ | refine RetIs.lq ?_)
          obtain ⟨w_23, h, hw_23⟩ := map_inr h
          replace h := h.trans (congrArg some (hv_16 _ hw_23))
          refine res_tmpA (v := .str []) rfl ?_
          refine res_tmpA (v := .int .i64 3) rfl ?_
          refine res_done ?_
          exact ret_data (v := .tup [.str [], .int .i64 3]) rfl (pure_tup _ (pures_mem (⟨pure_str _, pure_int _ _, trivial⟩))) ⟨congrArg (fun r : (List UInt8) × Int => (.tup [.str r.1, .int .i64 r.2] : AV)) (Option.some.inj h), rfl⟩
        · replace h := ite_F h hb_21
          refine T.skip ?_
          obtain ⟨x6, hx6, h⟩ := bind_some h
          refine T.region ?_
          refine RS.op rfl (OP.q rfl (v_move (v := .ref 0) rfl ?_))
          refine RS.op rfl (OP.q rfl (v_fieldAddr_ptr Ty.f66_0 rfl (off' := 0) rfl ?_))
          refine RS.op rfl (o_load_ptr rfl rfl (loadRow1 Ty.k3 (c := .int .i64 x4.Node) rfl ?_))
          refine RS.op rfl (o_conv Try.underlying3 Try.underlying5 rfl ?_)
          refine RS.op rfl (OP.q rfl (v_fieldAddr_ptr Ty.f66_1 rfl (off' := 1) rfl ?_))
          refine RS.op rfl (o_load_ptr rfl rfl (loadRow1 Ty.k3 (c := .int .i64 x4.Lane) rfl ?_))
          refine RS.op rfl (o_conv Try.underlying3 Try.underlying5 rfl ?_)
          refine RS.op rfl (o_buildSlice (rows := List.map enc8 [IntKind.u8.wrap x4.Node, IntKind.u8.wrap x4.Lane]) (vs := [.int .u8 (IntKind.u8.wrap x4.Node), .int .u8 (IntKind.u8.wrap x4.Lane)]) Ty.s67 Ty.z5 rfl rfl rfl rfl rfl (aw' := [.arr 5 1 (List.map enc8 s2), .box [.int .i64 x4.Node, .int .i64 x4.Lane], .arr 5 1 (List.map enc8 [IntKind.u8.wrap x4.Node, IntKind.u8.wrap x4.Lane])]) rfl ?_)
          refine RS.op rfl (o_app_ref (en := enc8) (xs := s2) (ys := ([IntKind.u8.wrap x4.Node, IntKind.u8.wrap x4.Lane] : List Int)) Ty.s67 (fun _ => rfl) rfl rfl rfl hx6 rfl (aw' := [.dead, .box [.int .i64 x4.Node, .int .i64 x4.Lane], .dead, .arr 5 1 (List.map enc8 x6)]) rfl ?_)
          refine RS.op rfl (OP.q rfl (v_assign (v := .ref 3) rfl ?_))
          refine RS.nil ?_
          refine T.region ?_
          refine RS.op rfl (OP.q rfl (v_add rfl rfl ?_))
          refine RS.op rfl (OP.q rfl (v_move (v := .int .i64 (IntKind.i64.wrap (s1 + 1))) rfl ?_))
          refine RS.nil ?_
          exact ⟨(IntKind.i64.wrap (s1 + 1), x6), (Option.some.inj h).symm, Weak.mkN [] [3] (by decide) (none_kept _) rfl ⟨rn_ref rfl, rn_sl encChoice_p rfl, rn_int rfl, rn_int rfl, trivial⟩ (rw_arr rfl enc8_p rfl (rw_nil))⟩
      · rcases bool_cases (decide (x4.Node < 0)) with hb_18 | hb_18
        · refine T.region ?_
          refine RS.op rfl (OP.q rfl (v_fieldAddr_ptr Ty.f66_0 rfl (off' := 0) rfl ?_))
          refine RS.op rfl (o_load_ptr rfl rfl (loadRow1 Ty.k3 (c := .int .i64 x4.Node) rfl ?_))
          refine RS.op rfl (OP.q rfl (v_lss rfl rfl ?_))
          refine RS.op rfl (OP.q rfl (v_move (v := .bool (decide (x4.Node < 0))) rfl ?_))
          refine RS.no rfl rfl rfl hb_18 ?_
          refine RS.no rfl rfl rfl hb_18 ?_
          refine RS.no rfl rfl rfl hb_18 ?_
          refine RS.op rfl (OP.q rfl (v_pickT (v := .bool true) rfl hb_18 rfl ?_))
          refine RS.op rfl (OP.q rfl (v_move (v := .bool true) rfl ?_))
          refine RS.no rfl rfl rfl rfl ?_
          refine RS.no rfl rfl rfl rfl ?_
          refine RS.no rfl rfl rfl rfl ?_
          refine RS.op rfl (OP.q rfl (v_pickT (v := .bool true) rfl rfl rfl ?_))
          refine RS.op rfl (OP.q rfl (v_move (v := .bool true) rfl ?_))
          refine RS.no rfl rfl rfl rfl ?_
          refine RS.no rfl rfl rfl rfl ?_
          refine RS.no rfl rfl rfl rfl ?_
          refine RS.op rfl (OP.q rfl (v_pickT (v := .bool true) rfl rfl rfl ?_))
          refine RS.nil ?_
          exact T.weakR (hK () trivial) (Weak.mkN [] [0, 1] (by decide) (none_kept _) rfl ⟨rn_ref rfl, rn_ptr rfl, rn_sl encChoice_p rfl, rn_int rfl, rn_int rfl, rn_bool (by simp only [hb_18, Bool.true_or, Bool.or_true, Bool.false_or, Bool.or_false, Bool.true_and, Bool.and_true, Bool.false_and, Bool.and_false, Bool.not_true, Bool.not_false, if_true, if_false, Bool.false_eq_true, reduceIte]), trivial⟩ (rw_arr rfl enc8_p rfl (rw_box (cs := [.int .i64 x4.Node, .int .i64 x4.Lane]) (ds := [.int .i64 x4.Node, .int .i64 x4.Lane]) rfl ⟨rn_int rfl, rn_int rfl, trivial⟩ (rw_nil))))
        · rcases bool_cases (decide (x4.Node ≥ 12)) with hb_19 | hb_19
          · refine T.region ?_
            refine RS.op rfl (OP.q rfl (v_fieldAddr_ptr Ty.f66_0 rfl (off' := 0) rfl ?_))
            refine RS.op rfl (o_load_ptr rfl rfl (loadRow1 Ty.k3 (c := .int .i64 x4.Node) rfl ?_))
            refine RS.op rfl (OP.q rfl (v_lss rfl rfl ?_))
            refine RS.op rfl (OP.q rfl (v_move (v := .bool (decide (x4.Node < 0))) rfl ?_))
            refine RS.yes rfl rfl rfl hb_18 (OP.q rfl (v_fieldAddr_ptr Ty.f66_0 rfl (off' := 0) rfl ?_))
            refine RS.yes rfl rfl rfl hb_18 (o_load_ptr rfl rfl (loadRow1 Ty.k3 (c := .int .i64 x4.Node) rfl ?_))
            refine RS.yes rfl rfl rfl hb_18 (OP.q rfl (v_geq rfl rfl ?_))
            refine RS.op rfl (OP.q rfl (v_pickF (v := .bool (decide (x4.Node ≥ 12))) rfl hb_18 rfl ?_))
            refine RS.op rfl (OP.q rfl (v_move (v := .bool (decide (x4.Node ≥ 12))) rfl ?_))
            refine RS.no rfl rfl rfl hb_19 ?_
            refine RS.no rfl rfl rfl hb_19 ?_
            refine RS.no rfl rfl rfl hb_19 ?_
            refine RS.op rfl (OP.q rfl (v_pickT (v := .bool true) rfl hb_19 rfl ?_))
            refine RS.op rfl (OP.q rfl (v_move (v := .bool true) rfl ?_))
            refine RS.no rfl rfl rfl rfl ?_
            refine RS.no rfl rfl rfl rfl ?_
            refine RS.no rfl rfl rfl rfl ?_
            refine RS.op rfl (OP.q rfl (v_pickT (v := .bool true) rfl rfl rfl ?_))
            refine RS.nil ?_
            exact T.weakR (hK () trivial) (Weak.mkN [] [0, 1] (by decide) (none_kept _) rfl ⟨rn_ref rfl, rn_ptr rfl, rn_sl encChoice_p rfl, rn_int rfl, rn_int rfl, rn_bool (by simp only [hb_18, hb_19, Bool.true_or, Bool.or_true, Bool.false_or, Bool.or_false, Bool.true_and, Bool.and_true, Bool.false_and, Bool.and_false, Bool.not_true, Bool.not_false, if_true, if_false, Bool.false_eq_true, reduceIte]), trivial⟩ (rw_arr rfl enc8_p rfl (rw_box (cs := [.int .i64 x4.Node, .int .i64 x4.Lane]) (ds := [.int .i64 x4.Node, .int .i64 x4.Lane]) rfl ⟨rn_int rfl, rn_int rfl, trivial⟩ (rw_nil))))
          · rcases bool_cases (decide (x4.Lane < 0)) with hb_20 | hb_20
            · refine T.region ?_
              refine RS.op rfl (OP.q rfl (v_fieldAddr_ptr Ty.f66_0 rfl (off' := 0) rfl ?_))
              refine RS.op rfl (o_load_ptr rfl rfl (loadRow1 Ty.k3 (c := .int .i64 x4.Node) rfl ?_))
              refine RS.op rfl (OP.q rfl (v_lss rfl rfl ?_))
              refine RS.op rfl (OP.q rfl (v_move (v := .bool (decide (x4.Node < 0))) rfl ?_))
              refine RS.yes rfl rfl rfl hb_18 (OP.q rfl (v_fieldAddr_ptr Ty.f66_0 rfl (off' := 0) rfl ?_))
              refine RS.yes rfl rfl rfl hb_18 (o_load_ptr rfl rfl (loadRow1 Ty.k3 (c := .int .i64 x4.Node) rfl ?_))
              refine RS.yes rfl rfl rfl hb_18 (OP.q rfl (v_geq rfl rfl ?_))
              refine RS.op rfl (OP.q rfl (v_pickF (v := .bool (decide (x4.Node ≥ 12))) rfl hb_18 rfl ?_))
              refine RS.op rfl (OP.q rfl (v_move (v := .bool (decide (x4.Node ≥ 12))) rfl ?_))
              refine RS.yes rfl rfl rfl hb_19 (OP.q rfl (v_fieldAddr_ptr Ty.f66_1 rfl (off' := 1) rfl ?_))
              refine RS.yes rfl rfl rfl hb_19 (o_load_ptr rfl rfl (loadRow1 Ty.k3 (c := .int .i64 x4.Lane) rfl ?_))
              refine RS.yes rfl rfl rfl hb_19 (OP.q rfl (v_lss rfl rfl ?_))
              refine RS.op rfl (OP.q rfl (v_pickF (v := .bool (decide (x4.Lane < 0))) rfl hb_19 rfl ?_))
              refine RS.op rfl (OP.q rfl (v_move (v := .bool (decide (x4.Lane < 0))) rfl ?_))
              refine RS.no rfl rfl rfl hb_20 ?_
              refine RS.no rfl rfl rfl hb_20 ?_
              refine RS.no rfl rfl rfl hb_20 ?_
              refine RS.op rfl (OP.q rfl (v_pickT (v := .bool true) rfl hb_20 rfl ?_))
              refine RS.nil ?_
              exact T.weakR (hK () trivial) (Weak.mkN [] [0, 1] (by decide) (none_kept _) rfl ⟨rn_ref rfl, rn_ptr rfl, rn_sl encChoice_p rfl, rn_int rfl, rn_int rfl, rn_bool (by simp only [hb_18, hb_19, hb_20, Bool.true_or, Bool.or_true, Bool.false_or, Bool.or_false, Bool.true_and, Bool.and_true, Bool.false_and, Bool.and_false, Bool.not_true, Bool.not_false, if_true, if_false, Bool.false_eq_true, reduceIte]), trivial⟩ (rw_arr rfl enc8_p rfl (rw_box (cs := [.int .i64 x4.Node, .int .i64 x4.Lane]) (ds := [.int .i64 x4.Node, .int .i64 x4.Lane]) rfl ⟨rn_int rfl, rn_int rfl, trivial⟩ (rw_nil))))
            · refine T.region ?_
              refine RS.op rfl (OP.q rfl (v_fieldAddr_ptr Ty.f66_0 rfl (off' := 0) rfl ?_))
              refine RS.op rfl (o_load_ptr rfl rfl (loadRow1 Ty.k3 (c := .int .i64 x4.Node) rfl ?_))
              refine RS.op rfl (OP.q rfl (v_lss rfl rfl ?_))
              refine RS.op rfl (OP.q rfl (v_move (v := .bool (decide (x4.Node < 0))) rfl ?_))
              refine RS.yes rfl rfl rfl hb_18 (OP.q rfl (v_fieldAddr_ptr Ty.f66_0 rfl (off' := 0) rfl ?_))
              refine RS.yes rfl rfl rfl hb_18 (o_load_ptr rfl rfl (loadRow1 Ty.k3 (c := .int .i64 x4.Node) rfl ?_))
              refine RS.yes rfl rfl rfl hb_18 (OP.q rfl (v_geq rfl rfl ?_))
              refine RS.op rfl (OP.q rfl (v_pickF (v := .bool (decide (x4.Node ≥ 12))) rfl hb_18 rfl ?_))
              refine RS.op rfl (OP.q rfl (v_move (v := .bool (decide (x4.Node ≥ 12))) rfl ?_))
              refine RS.yes rfl rfl rfl hb_19 (OP.q rfl (v_fieldAddr_ptr Ty.f66_1 rfl (off' := 1) rfl ?_))
              refine RS.yes rfl rfl rfl hb_19 (o_load_ptr rfl rfl (loadRow1 Ty.k3 (c := .int .i64 x4.Lane) rfl ?_))
              refine RS.yes rfl rfl rfl hb_19 (OP.q rfl (v_lss rfl rfl ?_))
              refine RS.op rfl (OP.q rfl (v_pickF (v := .bool (decide (x4.Lane < 0))) rfl hb_19 rfl ?_))
              refine RS.op rfl (OP.q rfl (v_move (v := .bool (decide (x4.Lane < 0))) rfl ?_))
              refine RS.yes rfl rfl rfl hb_20 (OP.q rfl (v_fieldAddr_ptr Ty.f66_1 rfl (off' := 1) rfl ?_))
              refine RS.yes rfl rfl rfl hb_20 (o_load_ptr rfl rfl (loadRow1 Ty.k3 (c := .int .i64 x4.Lane) rfl ?_))
              refine RS.yes rfl rfl rfl hb_20 (OP.q rfl (v_geq rfl rfl ?_))
              refine RS.op rfl (OP.q rfl (v_pickF (v := .bool (decide (x4.Lane ≥ 16))) rfl hb_20 rfl ?_))
              refine RS.nil ?_
              exact T.weakR (hK () trivial) (Weak.mkN [] [0, 1] (by decide) (none_kept _) rfl ⟨rn_ref rfl, rn_ptr rfl, rn_sl encChoice_p rfl, rn_int rfl, rn_int rfl, rn_bool (by simp only [hb_18, hb_19, hb_20, Bool.true_or, Bool.or_true, Bool.false_or, Bool.or_false, Bool.true_and, Bool.and_true, Bool.false_and, Bool.and_false, Bool.not_true, Bool.not_false, if_true, if_false, Bool.false_eq_true, reduceIte]), trivial⟩ (rw_arr rfl enc8_p rfl (rw_box (cs := [.int .i64 x4.Node, .int .i64 x4.Lane]) (ds := [.int .i64 x4.Node, .int .i64 x4.Lane]) rfl ⟨rn_int rfl, rn_int rfl, trivial⟩ (rw_nil))))
    · replace h := ite_F h hb_17
      refine T.exit ?_
      obtain ⟨w_24, h, hw_24⟩ := map_inr h
      replace h := h.trans (congrArg some (hv_16 _ hw_24))
      refine T.seq ?_
      refine T.region ?_
      refine RS.op rfl (OP.q rfl (v_move (v := .ref 0) rfl ?_))
      refine RS.op rfl (o_conv_bytes (xs := s2) Try.underlying67 Try.underlying5 Try.underlying9 rfl rfl ?_)
      refine RS.op rfl (OP.q rfl (v_assign (v := .str (toStr s2)) rfl ?_))
      refine RS.op rfl (OP.q rfl (v_assign (v := .int .i64 0) rfl ?_))
      refine RS.nil ?_
      refine T.ret' (R := ?R25) ?hq25 ?_
      case hq25 => repeat (first | exact RetIs.base | refine RetIs.thn ?_ | refine RetIs.blk ?_ | refine RetIs.lq ?_)
      refine res_tmpA (v := .str (toStr s2)) rfl ?_
      refine res_tmpA (v := .int .i64 0) rfl ?_
      refine res_done ?_
      exact ret_data (v := .tup [.str (toStr s2), .int .i64 0]) rfl (pure_tup _ (pures_mem (⟨pure_str _, pure_int _ _, trivial⟩))) ⟨congrArg (fun r : (List UInt8) × Int => (.tup [.str r.1, .int .i64 r.2] : AV)) (Option.some.inj h), rfl⟩
theorem frame_OfChoices_c (p0 : List UInt8) (r : (List Choice) × Int) (h : frame_OfChoices p0 = some r) : FnO Try.prog 39 [.str p0] (.tup [.ref 0, .int .i64 r.2]) [.arr 66 2 (List.map encChoice r.1)] := by
  unfold frame_OfChoices at h
  refine fn_of_T (N := 0) rfl Try.func39 rfl (by kernel_rfl) Try.ntmps39 rfl ?_
  show T _ _ _ _ (mkA 43 [(0, .str p0)]) []
  refine T.seq ?_
  refine T.region ?_
  refine RS.op rfl (OP.q rfl (v_assign (v := .nils) rfl ?_))
  refine RS.op rfl (OP.q rfl (v_assign (v := .int .i64 0) rfl ?_))
  refine RS.nil ?_
  refine T.seq ?_
  refine T.seq ?_
  refine T.region ?_
  refine RS.op rfl (OP.q rfl (v_move (v := .str p0) rfl ?_))
  refine RS.op rfl (OP.q rfl (v_len_str Try.underlying9 rfl ?_))
  refine RS.op rfl (OP.q rfl (v_gtr rfl rfl ?_))
  refine RS.nil ?_
  refine T.cond (b := decide (((p0).length : Int) > 60)) rfl (fun hb_1 => ?_) (fun hb_1 => ?_)
  · replace h := ite_T h hb_1
    refine T.seq ?_
    refine T.region ?_
    refine RS.op rfl (OP.q rfl (v_assign (v := .nils) rfl ?_))
    refine RS.op rfl (OP.q rfl (v_assign (v := .int .i64 2) rfl ?_))
    refine RS.nil ?_
    refine T.ret' (R := ?R2) ?hq2 ?_
    case hq2 => repeat (first | exact RetIs.base | refine RetIs.thn ?_ | refine RetIs.blk ?_ | refine RetIs.lq ?_)
    refine res_tmpA (v := .nils) rfl ?_
    refine res_tmpA (v := .int .i64 2) rfl ?_
    refine res_done ?_
    exact ret_own (.tup [.ref 0, .int .i64 r.2]) [(0, 66, 2)] [0] (by decide) (none_kept _) rfl (rn_tup ⟨rn_ref rfl, rn_int (congrArg (fun r : (List Choice) × Int => r.2) (Option.some.inj h)).symm, trivial⟩) (rw_arr (en := encChoice) (ys := []) rfl encChoice_p (congrArg (fun r : (List Choice) × Int => r.1) (Option.some.inj h)).symm (rw_nil)) ⟨rfl, rfl⟩
  · replace h := ite_F h hb_1
    refine T.skip ?_
    refine T.seq ?_
    refine T.seq ?_
    obtain ⟨x2, hx2, h⟩ := bind_some h
    refine T.region ?_
    refine RS.op rfl (OP.q rfl (v_move (v := .str p0) rfl ?_))
    refine RS.op rfl (OP.q rfl (v_len_str Try.underlying9 rfl ?_))
    refine RS.op rfl (OP.q rfl (v_rem rfl rfl hx2 ?_))
    refine RS.op rfl (OP.q rfl (v_neq rfl rfl ?_))
    refine RS.nil ?_
    refine T.cond (b := x2 != 0) rfl (fun hb_3 => ?_) (fun hb_3 => ?_)
    · replace h := ite_T h hb_3
      refine T.seq ?_
      refine T.region ?_
      refine RS.op rfl (OP.q rfl (v_assign (v := .nils) rfl ?_))
      refine RS.op rfl (OP.q rfl (v_assign (v := .int .i64 12) rfl ?_))
      refine RS.nil ?_
      refine T.ret' (R := ?R4) ?hq4 ?_
      case hq4 => repeat (first | exact RetIs.base | refine RetIs.thn ?_ | refine RetIs.blk ?_ | refine RetIs.lq ?_)
      refine res_tmpA (v := .nils) rfl ?_
      refine res_tmpA (v := .int .i64 12) rfl ?_
      refine res_done ?_
      exact ret_own (.tup [.ref 0, .int .i64 r.2]) [(0, 66, 2)] [0] (by decide) (none_kept _) rfl (rn_tup ⟨rn_ref rfl, rn_int (congrArg (fun r : (List Choice) × Int => r.2) (Option.some.inj h)).symm, trivial⟩) (rw_arr (en := encChoice) (ys := []) rfl encChoice_p (congrArg (fun r : (List Choice) × Int => r.1) (Option.some.inj h)).symm (rw_nil)) ⟨rfl, rfl⟩
    · replace h := ite_F h hb_3
      refine T.skip ?_
      refine T.seq ?_
      refine T.region ?_
      refine RS.op rfl (OP.q rfl (v_assign (v := .nils) rfl ?_))
      refine RS.nil ?_
      refine T.seq ?_
      refine T.seq ?_
      refine T.region ?_
      refine RS.op rfl (OP.q rfl (v_assign (v := .int .i64 0) rfl ?_))
      refine RS.nil ?_
      refine T.block ?_
      refine T.iter (fun ss_13 : Int × (List Choice) => mkA 43 [(0, .str p0), (4, .ref 0), (5, .int .i64 ss_13.1)]) (fun ss_13 => [.arr 66 2 (List.map encChoice ss_13.2)]) h (Weak.mkN [(4, 66, 2)] [0] (by decide) (none_kept _) rfl ⟨rn_str rfl, rn_ref rfl, rn_int rfl, trivial⟩ (rw_arr (en := encChoice) (ys := []) rfl encChoice_p rfl (rw_nil))) (fun ss_13 v_14 h hv_14 => ?_)
      obtain ⟨s3, s4⟩ := ss_13
      replace h : frame_OfChoices_l1 p0 s3 s4 = some v_14 := h
      show T _ _ _ _ (mkA 43 [(0, .str p0), (4, .ref 0), (5, .int .i64 s3)]) [.arr 66 2 (List.map encChoice s4)]
      unfold frame_OfChoices_l1 at h
      refine T.seq ?_
      refine T.seq ?_
      refine T.region ?_
      refine RS.op rfl (OP.q rfl (v_move (v := .int .i64 s3) rfl ?_))
      refine RS.op rfl (OP.q rfl (v_move (v := .str p0) rfl ?_))
      refine RS.op rfl (OP.q rfl (v_len_str Try.underlying9 rfl ?_))
      refine RS.op rfl (OP.q rfl (v_lss rfl rfl ?_))
      refine RS.nil ?_
      refine T.cond (b := decide (s3 < ((p0).length : Int))) rfl (fun hb_15 => ?_) (fun hb_15 => ?_)
      · replace h := ite_T h hb_15
        refine T.skip ?_
        refine T.seq ?_
        refine T.block ?_
        refine T.seq ?_
        obtain ⟨x7, hx7, h⟩ := bind_some h
        obtain ⟨x8, hx8, h⟩ := bind_some h
        refine T.drawn mixed (k := 12) rfl ?_
        refine RA.t0 (i := 0) (li' := #[true, false, false, false, false, false, false, false, false, false, false, false]) rfl (by decide +kernel) (by decide +kernel) (by decide +kernel) (by decide +kernel) rfl rfl (v_move (v := .str p0) rfl ?_)
        refine RA.t0 (i := 1) (li' := #[true, true, false, false, false, false, false, false, false, false, false, false]) rfl (by decide +kernel) (by decide +kernel) (by decide +kernel) (by decide +kernel) rfl rfl (v_move (v := .int .i64 s3) rfl ?_)
        refine RA.t0 (i := 2) (li' := #[true, true, true, false, false, false, false, false, false, false, false, false]) rfl (by decide +kernel) (by decide +kernel) (by decide +kernel) (by decide +kernel) rfl rfl (v_index_str Try.underlying9 rfl rfl hx7 ?_)
        refine RA.t0 (i := 3) (li' := #[true, true, true, true, false, false, false, false, false, false, false, false]) rfl (by decide +kernel) (by decide +kernel) (by decide +kernel) (by decide +kernel) rfl rfl (v_conv Try.underlying5 Try.underlying3 rfl ?_)
        refine RA.t0 (i := 4) (li' := #[true, true, true, true, true, false, false, false, false, false, false, false]) rfl (by decide +kernel) (by decide +kernel) (by decide +kernel) (by decide +kernel) rfl rfl (v_move (v := .str p0) rfl ?_)
        refine RA.t0 (i := 5) (li' := #[true, true, true, true, true, true, false, false, false, false, false, false]) rfl (by decide +kernel) (by decide +kernel) (by decide +kernel) (by decide +kernel) rfl rfl (v_move (v := .int .i64 s3) rfl ?_)
        refine RA.t0 (i := 6) (li' := #[true, true, true, true, true, true, true, false, false, false, false, false]) rfl (by decide +kernel) (by decide +kernel) (by decide +kernel) (by decide +kernel) rfl rfl (v_add rfl rfl ?_)
        refine RA.t0 (i := 7) (li' := #[true, true, true, true, true, true, true, true, false, false, false, false]) rfl (by decide +kernel) (by decide +kernel) (by decide +kernel) (by decide +kernel) rfl rfl (v_index_str Try.underlying9 rfl rfl hx8 ?_)
        refine RA.t0 (i := 8) (li' := #[true, true, true, true, true, true, true, true, true, false, false, false]) rfl (by decide +kernel) (by decide +kernel) (by decide +kernel) (by decide +kernel) rfl rfl (v_conv Try.underlying5 Try.underlying3 rfl ?_)
        refine RA.t0 (i := 9) (li' := #[true, true, true, true, true, true, true, true, true, true, false, false]) rfl (by decide +kernel) (by decide +kernel) (by decide +kernel) (by decide +kernel) rfl rfl (v_build (cs := [.int .i64 (IntKind.i64.wrap (x7.toNat : Int)), .int .i64 (IntKind.i64.wrap (x8.toNat : Int))]) Ty.z66 Ty.p66 rfl ?_)
        refine RA.a1 (i1 := 10) (l1 := #[true, true, true, true, true, true, true, true, true, true, true, false]) (by decide +kernel) (by decide +kernel) ?_
        refine RO.op rfl rfl (o_alloc Ty.z66 rfl (aw' := [.arr 66 2 (List.map encChoice s4), .box [.int .i64 0, .int .i64 0]]) rfl ?_)
        refine RA.a1 (i1 := 11) (l1 := #[true, true, true, true, true, true, true, true, true, true, true, true]) (by decide +kernel) (by decide +kernel) ?_
        refine RO.op rfl rfl (o_store_ptr Ty.c66 Ty.i66 rfl (vs := [.int .i64 (IntKind.i64.wrap (x7.toNat : Int)), .int .i64 (IntKind.i64.wrap (x8.toNat : Int))]) rfl rfl rfl rfl (cs' := [.int .i64 (IntKind.i64.wrap (x7.toNat : Int)), .int .i64 (IntKind.i64.wrap (x8.toNat : Int))]) rfl (aw' := [.arr 66 2 (List.map encChoice s4), .box [.int .i64 (IntKind.i64.wrap (x7.toNat : Int)), .int .i64 (IntKind.i64.wrap (x8.toNat : Int))]]) rfl ?_)
        refine RA.done (by decide +kernel) ?_
        refine T.seq ?_
        refine T.join (Z := Unit) (fun _ => mkA 43 [(0, .str p0), (4, .ref 0), (5, .int .i64 s3), (6, .ptr 1 0), (37, .bool ((decide ((IntKind.i64.wrap (x7.toNat : Int)) ≥ 12)) || decide ((IntKind.i64.wrap (x8.toNat : Int)) ≥ 16)))]) (fun _ => [.arr 66 2 (List.map encChoice s4), .box [.int .i64 (IntKind.i64.wrap (x7.toNat : Int)), .int .i64 (IntKind.i64.wrap (x8.toNat : Int))]]) (fun _ => True) (fun _ _ => ?_) (fun hK => ?_)
        · show T _ _ _ _ (mkA 43 [(0, .str p0), (4, .ref 0), (5, .int .i64 s3), (6, .ptr 1 0), (37, .bool ((decide ((IntKind.i64.wrap (x7.toNat : Int)) ≥ 12)) || decide ((IntKind.i64.wrap (x8.toNat : Int)) ≥ 16)))]) [.arr 66 2 (List.map encChoice s4), .box [.int .i64 (IntKind.i64.wrap (x7.toNat : Int)), .int .i64 (IntKind.i64.wrap (x8.toNat : Int))]]
          refine T.cond (b := ((decide ((IntKind.i64.wrap (x7.toNat : Int)) ≥ 12)) || decide ((IntKind.i64.wrap (x8.toNat : Int)) ≥ 16))) rfl (fun hb_17 => ?_) (fun hb_17 => ?_)
          · replace h := ite_T h hb_17
            refine T.seq ?_
            refine T.region ?_
            refine RS.op rfl (OP.q rfl (v_assign (v := .nils) rfl ?_))
            refine RS.op rfl (OP.q rfl (v_assign (v := .int .i64 12) rfl ?_))
            refine RS.nil ?_
            refine T.ret' (R := ?R18) ?hq18 ?_
            case hq18 => repeat (first | exact RetIs.base | refine RetIs.thn ?_ | refine RetIs.blk ?_ | refine RetIs.lq ?_)
            obtain ⟨w_19, h, hw_19⟩ := map_inr h
            replace h := h.trans (congrArg some (hv_14 _ hw_19))
            refine res_tmpA (v := .nils) rfl ?_
            refine res_tmpA (v := .int .i64 12) rfl ?_
            refine res_done ?_
            exact ret_own (.tup [.ref 0, .int .i64 r.2]) [(0, 66, 2)] [2] (by decide) (none_kept _) rfl (rn_tup ⟨rn_ref rfl, rn_int (congrArg (fun r : (List Choice) × Int => r.2) (Option.some.inj h)).symm, trivial⟩) (rw_arr (en := encChoice) (ys := []) rfl encChoice_p (congrArg (fun r : (List Choice) × Int => r.1) (Option.some.inj h)).symm (rw_nil)) ⟨rfl, rfl⟩
          · replace h := ite_F h hb_17
            refine T.skip ?_
            obtain ⟨x10, hx10, h⟩ := bind_some h
            refine T.region ?_
            refine RS.op rfl (OP.q rfl (v_move (v := .ref 0) rfl ?_))
            refine RS.op rfl (o_load_ptr rfl rfl (loadRowA Ty.k66 Ty.c66 rfl (cs := [.int .i64 (IntKind.i64.wrap (x7.toNat : Int)), .int .i64 (IntKind.i64.wrap (x8.toNat : Int))]) rfl ?_))
            refine RS.op rfl (o_buildSlice (rows := List.map encChoice [(⟨IntKind.i64.wrap (x7.toNat : Int), IntKind.i64.wrap (x8.toNat : Int)⟩ : Choice)]) (vs := [.agg [.int .i64 (IntKind.i64.wrap (x7.toNat : Int)), .int .i64 (IntKind.i64.wrap (x8.toNat : Int))]]) Ty.s58 Ty.z66 rfl rfl rfl rfl rfl (aw' := [.arr 66 2 (List.map encChoice s4), .box [.int .i64 (IntKind.i64.wrap (x7.toNat : Int)), .int .i64 (IntKind.i64.wrap (x8.toNat : Int))], .arr 66 2 (List.map encChoice [(⟨IntKind.i64.wrap (x7.toNat : Int), IntKind.i64.wrap (x8.toNat : Int)⟩ : Choice)])]) rfl ?_)
            refine RS.op rfl (o_app_ref (en := encChoice) (xs := s4) (ys := ([(⟨IntKind.i64.wrap (x7.toNat : Int), IntKind.i64.wrap (x8.toNat : Int)⟩ : Choice)] : List Choice)) Ty.s58 (fun _ => rfl) rfl rfl rfl hx10 rfl (aw' := [.dead, .box [.int .i64 (IntKind.i64.wrap (x7.toNat : Int)), .int .i64 (IntKind.i64.wrap (x8.toNat : Int))], .dead, .arr 66 2 (List.map encChoice x10)]) rfl ?_)
            refine RS.op rfl (OP.q rfl (v_assign (v := .ref 3) rfl ?_))
            refine RS.nil ?_
            refine T.region ?_
            refine RS.op rfl (OP.q rfl (v_move (v := .int .i64 s3) rfl ?_))
            refine RS.op rfl (OP.q rfl (v_add rfl rfl ?_))
            refine RS.op rfl (OP.q rfl (v_assign (v := .int .i64 (IntKind.i64.wrap (s3 + 2))) rfl ?_))
            refine RS.nil ?_
            exact ⟨(IntKind.i64.wrap (s3 + 2), x10), (Option.some.inj h).symm, Weak.mkN [] [3] (by decide) (none_kept _) rfl ⟨rn_str rfl, rn_ref rfl, rn_int rfl, trivial⟩ (rw_arr rfl encChoice_p rfl (rw_nil))⟩
        · rcases bool_cases (decide ((IntKind.i64.wrap (x7.toNat : Int)) ≥ 12)) with hb_16 | hb_16
          · refine T.region ?_
            refine RS.op rfl (OP.q rfl (v_fieldAddr_ptr Ty.f66_0 rfl (off' := 0) rfl ?_))
            refine RS.op rfl (o_load_ptr rfl rfl (loadRow1 Ty.k3 (c := .int .i64 (IntKind.i64.wrap (x7.toNat : Int))) rfl ?_))
            refine RS.op rfl (OP.q rfl (v_geq rfl rfl ?_))
            refine RS.op rfl (OP.q rfl (v_move (v := .bool (decide ((IntKind.i64.wrap (x7.toNat : Int)) ≥ 12))) rfl ?_))
            refine RS.no rfl rfl rfl hb_16 ?_
            refine RS.no rfl rfl rfl hb_16 ?_
            refine RS.no rfl rfl rfl hb_16 ?_
            refine RS.op rfl (OP.q rfl (v_pickT (v := .bool true) rfl hb_16 rfl ?_))
            refine RS.nil ?_
            exact T.weakR (hK () trivial) (Weak.mkN [] [0, 1] (by decide) (none_kept _) rfl ⟨rn_str rfl, rn_ref rfl, rn_int rfl, rn_ptr rfl, rn_bool (by simp only [hb_16, Bool.true_or, Bool.or_true, Bool.false_or, Bool.or_false, Bool.true_and, Bool.and_true, Bool.false_and, Bool.and_false, Bool.not_true, Bool.not_false, if_true, if_false, Bool.false_eq_true, reduceIte]), trivial⟩ (rw_arr rfl encChoice_p rfl (rw_box (cs := [.int .i64 (IntKind.i64.wrap (x7.toNat : Int)), .int .i64 (IntKind.i64.wrap (x8.toNat : Int))]) (ds := [.int .i64 (IntKind.i64.wrap (x7.toNat : Int)), .int .i64 (IntKind.i64.wrap (x8.toNat : Int))]) rfl ⟨rn_int rfl, rn_int rfl, trivial⟩ (rw_nil))))
          · refine T.region ?_
            refine RS.op rfl (OP.q rfl (v_fieldAddr_ptr Ty.f66_0 rfl (off' := 0) rfl ?_))
            refine RS.op rfl (o_load_ptr rfl rfl (loadRow1 Ty.k3 (c := .int .i64 (IntKind.i64.wrap (x7.toNat : Int))) rfl ?_))
            refine RS.op rfl (OP.q rfl (v_geq rfl rfl ?_))
            refine RS.op rfl (OP.q rfl (v_move (v := .bool (decide ((IntKind.i64.wrap (x7.toNat : Int)) ≥ 12))) rfl ?_))
            refine RS.yes rfl rfl rfl hb_16 (OP.q rfl (v_fieldAddr_ptr Ty.f66_1 rfl (off' := 1) rfl ?_))
            refine RS.yes rfl rfl rfl hb_16 (o_load_ptr rfl rfl (loadRow1 Ty.k3 (c := .int .i64 (IntKind.i64.wrap (x8.toNat : Int))) rfl ?_))
            refine RS.yes rfl rfl rfl hb_16 (OP.q rfl (v_geq rfl rfl ?_))
            refine RS.op rfl (OP.q rfl (v_pickF (v := .bool (decide ((IntKind.i64.wrap (x8.toNat : Int)) ≥ 16))) rfl hb_16 rfl ?_))
            refine RS.nil ?_
            exact T.weakR (hK () trivial) (Weak.mkN [] [0, 1] (by decide) (none_kept _) rfl ⟨rn_str rfl, rn_ref rfl, rn_int rfl, rn_ptr rfl, rn_bool (by simp only [hb_16, Bool.true_or, Bool.or_true, Bool.false_or, Bool.or_false, Bool.true_and, Bool.and_true, Bool.false_and, Bool.and_false, Bool.not_true, Bool.not_false, if_true, if_false, Bool.false_eq_true, reduceIte]), trivial⟩ (rw_arr rfl encChoice_p rfl (rw_box (cs := [.int .i64 (IntKind.i64.wrap (x7.toNat : Int)), .int .i64 (IntKind.i64.wrap (x8.toNat : Int))]) (ds := [.int .i64 (IntKind.i64.wrap (x7.toNat : Int)), .int .i64 (IntKind.i64.wrap (x8.toNat : Int))]) rfl ⟨rn_int rfl, rn_int rfl, trivial⟩ (rw_nil))))
      · replace h := ite_F h hb_15
        refine T.exit ?_
        obtain ⟨w_20, h, hw_20⟩ := map_inr h
        replace h := h.trans (congrArg some (hv_14 _ hw_20))
        refine T.seq ?_
        refine T.region ?_
        refine RS.op rfl (OP.q rfl (v_move (v := .ref 0) rfl ?_))
        refine RS.op rfl (OP.q rfl (v_assign (v := .ref 0) rfl ?_))
        refine RS.op rfl (OP.q rfl (v_assign (v := .int .i64 0) rfl ?_))
        refine RS.nil ?_
        refine T.ret' (R := ?R21) ?hq21 ?_
        case hq21 => repeat (first | exact RetIs.base | refine RetIs.thn ?_ | refine RetIs.blk ?_ | refine RetIs.lq ?_)
        refine res_tmpA (v := .ref 0) rfl ?_
        refine res_tmpA (v := .int .i64 0) rfl ?_
        refine res_done ?_
        exact ret_own (.tup [.ref 0, .int .i64 r.2]) [] [0] (by decide) (none_kept _) rfl (rn_tup ⟨rn_ref rfl, rn_int (congrArg (fun r : (List Choice) × Int => r.2) (Option.some.inj h)).symm, trivial⟩) (rw_arr rfl encChoice_p (congrArg (fun r : (List Choice) × Int => r.1) (Option.some.inj h)).symm (rw_nil)) ⟨rfl, rfl⟩
theorem crossref_Pairs_c (p0 : List UInt8) (r : (List Choice) × Bool) (h : crossref_Pairs p0 = some r) : FnO Try.prog 40 [.str p0] (.tup [.ref 0, .bool r.2]) [.arr 66 2 (List.map encChoice r.1)] := by
  unfold crossref_Pairs at h
  refine fn_of_T (N := 0) rfl Try.func40 rfl (by kernel_rfl) Try.ntmps40 rfl ?_
  show T _ _ _ _ (mkA 31 [(0, .str p0)]) []
  refine T.seq ?_
  refine T.region ?_
  refine RS.op rfl (OP.q rfl (v_assign (v := .nils) rfl ?_))
  refine RS.op rfl (OP.q rfl (v_assign (v := .bool false) rfl ?_))
  refine RS.nil ?_
  refine T.seq ?_
  refine T.region ?_
  refine RS.op rfl (OP.q rfl (v_assign (v := .nils) rfl ?_))
  refine RS.nil ?_
  refine T.seq ?_
  refine T.block ?_
  refine T.iter (fun ss_11 : (List UInt8) × (List Choice) => mkA 31 [(0, .str ss_11.1), (4, .ref 0)]) (fun ss_11 => [.arr 66 2 (List.map encChoice ss_11.2)]) h (Weak.mkN [(4, 66, 2)] [0] (by decide) (none_kept _) rfl ⟨rn_str rfl, rn_ref rfl, trivial⟩ (rw_arr (en := encChoice) (ys := []) rfl encChoice_p rfl (rw_nil))) (fun ss_11 v_12 h hv_12 => ?_)
  obtain ⟨s1, s2⟩ := ss_11
  replace h : crossref_Pairs_l1 s1 s2 = some v_12 := h
  show T _ _ _ _ (mkA 31 [(0, .str s1), (4, .ref 0)]) [.arr 66 2 (List.map encChoice s2)]
  unfold crossref_Pairs_l1 at h
  refine T.seq ?_
  refine T.seq ?_
  refine T.region ?_
  refine RS.op rfl (OP.q rfl (v_move (v := .str s1) rfl ?_))
  refine RS.op rfl (OP.q rfl (v_len_str Try.underlying9 rfl ?_))
  refine RS.op rfl (OP.q rfl (v_geq rfl rfl ?_))
  refine RS.nil ?_
  refine T.cond (b := decide (((s1).length : Int) ≥ 2)) rfl (fun hb_13 => ?_) (fun hb_13 => ?_)
  · replace h := ite_T h hb_13
    refine T.skip ?_
    refine T.seq ?_
    refine T.block ?_
    refine T.seq ?_
    obtain ⟨x3, hx3, h⟩ := bind_some h
    obtain ⟨zt_15, hz, h⟩ := bind_some h
    revert hz h; revert zt_15; intro c5 hz h
    refine T.join (Z := Unit) (fun _ => mkA 31 [(0, .str s1), (4, .ref 0), (17, .bool c5)]) (fun _ => [.arr 66 2 (List.map encChoice s2)]) (fun _ => True) (fun _ _ => ?_) (fun hK => ?_)
    · show T _ _ _ _ (mkA 31 [(0, .str s1), (4, .ref 0), (17, .bool c5)]) [.arr 66 2 (List.map encChoice s2)]
      refine T.cond (b := c5) rfl (fun hb_16 => ?_) (fun hb_16 => ?_)
      · replace h := ite_T h hb_16
        refine T.seq ?_
        refine T.region ?_
        refine RS.op rfl (OP.q rfl (v_assign (v := .nils) rfl ?_))
        refine RS.op rfl (OP.q rfl (v_assign (v := .bool false) rfl ?_))
        refine RS.nil ?_
        refine T.ret' (R := ?R17) ?hq17 ?_
        case hq17 => repeat (first | exact RetIs.base | refine RetIs.thn ?_ | refine RetIs.blk ?_ | refine RetIs.lq ?_)
        obtain ⟨w_18, h, hw_18⟩ := map_inr h
        replace h := h.trans (congrArg some (hv_12 _ hw_18))
        refine res_tmpA (v := .nils) rfl ?_
        refine res_tmpA (v := .bool false) rfl ?_
        refine res_done ?_
        exact ret_own (.tup [.ref 0, .bool r.2]) [(0, 66, 2)] [1] (by decide) (none_kept _) rfl (rn_tup ⟨rn_ref rfl, rn_bool (congrArg (fun r : (List Choice) × Bool => r.2) (Option.some.inj h)).symm, trivial⟩) (rw_arr (en := encChoice) (ys := []) rfl encChoice_p (congrArg (fun r : (List Choice) × Bool => r.1) (Option.some.inj h)).symm (rw_nil)) ⟨rfl, rfl⟩
      · replace h := ite_F h hb_16
        refine T.skip ?_
        obtain ⟨x6, hx6, h⟩ := bind_some h
        obtain ⟨x7, hx7, h⟩ := bind_some h
        obtain ⟨x8, hx8, h⟩ := bind_some h
        refine T.drawn mixed (k := 11) rfl ?_
        refine RA.t0 (i := 0) (li' := #[true, false, false, false, false, false, false, false, false, false, false]) rfl (by decide +kernel) (by decide +kernel) (by decide +kernel) (by decide +kernel) rfl rfl (v_move (v := .ref 0) rfl ?_)
        refine RA.t0 (i := 1) (li' := #[true, true, false, false, false, false, false, false, false, false, false]) rfl (by decide +kernel) (by decide +kernel) (by decide +kernel) (by decide +kernel) rfl rfl (v_move (v := .str s1) rfl ?_)
        refine RA.t0 (i := 2) (li' := #[true, true, true, false, false, false, false, false, false, false, false]) rfl (by decide +kernel) (by decide +kernel) (by decide +kernel) (by decide +kernel) rfl rfl (v_index_str Try.underlying9 rfl rfl hx6 ?_)
        refine RA.t0 (i := 3) (li' := #[true, true, true, true, false, false, false, false, false, false, false]) rfl (by decide +kernel) (by decide +kernel) (by decide +kernel) (by decide +kernel) rfl rfl (v_conv Try.underlying5 Try.underlying3 rfl ?_)
        refine RA.t0 (i := 4) (li' := #[true, true, true, true, true, false, false, false, false, false, false]) rfl (by decide +kernel) (by decide +kernel) (by decide +kernel) (by decide +kernel) rfl rfl (v_move (v := .str s1) rfl ?_)
        refine RA.t0 (i := 5) (li' := #[true, true, true, true, true, true, false, false, false, false, false]) rfl (by decide +kernel) (by decide +kernel) (by decide +kernel) (by decide +kernel) rfl rfl (v_index_str Try.underlying9 rfl rfl hx7 ?_)
        refine RA.t0 (i := 6) (li' := #[true, true, true, true, true, true, true, false, false, false, false]) rfl (by decide +kernel) (by decide +kernel) (by decide +kernel) (by decide +kernel) rfl rfl (v_conv Try.underlying5 Try.underlying3 rfl ?_)
        refine RA.t0 (i := 7) (li' := #[true, true, true, true, true, true, true, true, false, false, false]) rfl (by decide +kernel) (by decide +kernel) (by decide +kernel) (by decide +kernel) rfl rfl (v_build (cs := [.int .i64 (IntKind.i64.wrap (x6.toNat : Int)), .int .i64 (IntKind.i64.wrap (x7.toNat : Int))]) Ty.z66 Ty.p66 rfl ?_)
        refine RA.a1 (i1 := 8) (l1 := #[true, true, true, true, true, true, true, true, true, false, false]) (by decide +kernel) (by decide +kernel) ?_
        refine RO.op rfl rfl (o_buildSlice (rows := List.map encChoice [(⟨IntKind.i64.wrap (x6.toNat : Int), IntKind.i64.wrap (x7.toNat : Int)⟩ : Choice)]) (vs := [.agg [.int .i64 (IntKind.i64.wrap (x6.toNat : Int)), .int .i64 (IntKind.i64.wrap (x7.toNat : Int))]]) Ty.s58 Ty.z66 rfl rfl rfl rfl rfl (aw' := [.arr 66 2 (List.map encChoice s2), .arr 66 2 (List.map encChoice [(⟨IntKind.i64.wrap (x6.toNat : Int), IntKind.i64.wrap (x7.toNat : Int)⟩ : Choice)])]) rfl ?_)
        refine RA.a1 (i1 := 9) (l1 := #[true, true, true, true, true, true, true, true, true, true, false]) (by decide +kernel) (by decide +kernel) ?_
        refine RO.op rfl rfl (o_app_ref (en := encChoice) (xs := s2) (ys := ([(⟨IntKind.i64.wrap (x6.toNat : Int), IntKind.i64.wrap (x7.toNat : Int)⟩ : Choice)] : List Choice)) Ty.s58 (fun _ => rfl) rfl rfl rfl hx8 rfl (aw' := [.dead, .dead, .arr 66 2 (List.map encChoice x8)]) rfl ?_)
        refine RA.t0 (i := 10) (li' := #[true, true, true, true, true, true, true, true, true, true, true]) rfl (by decide +kernel) (by decide +kernel) (by decide +kernel) (by decide +kernel) rfl rfl (v_assign (v := .ref 2) rfl ?_)
        refine RA.done (by decide +kernel) ?_
        obtain ⟨x9, hx9, h⟩ := bind_some h
        refine T.region ?_
        refine RS.op rfl (OP.q rfl (v_move (v := .str s1) rfl ?_))
        refine RS.op rfl (o_slice_str Try.underlying9 rfl rfl rfl hx9 ?_)
        refine RS.op rfl (OP.q rfl (v_assign (v := .str x9) rfl ?_))
        refine RS.nil ?_
        exact ⟨(x9, x8), (Option.some.inj h).symm, Weak.mkN [] [2] (by decide) (none_kept _) rfl ⟨rn_str rfl, rn_ref rfl, trivial⟩ (rw_arr rfl encChoice_p rfl (rw_nil))⟩
    · rcases bool_cases (decide ((x3.toNat : Int) ≥ 12)) with hb_14 | hb_14
      · replace hz := ite_T hz hb_14
        refine T.region ?_
        refine RS.op rfl (OP.q rfl (v_move (v := .str s1) rfl ?_))
        refine RS.op rfl (OP.q rfl (v_index_str Try.underlying9 rfl rfl hx3 ?_))
        refine RS.op rfl (OP.q rfl (v_geq rfl rfl ?_))
        refine RS.op rfl (OP.q rfl (v_move (v := .bool (decide ((x3.toNat : Int) ≥ 12))) rfl ?_))
        refine RS.no rfl rfl rfl hb_14 ?_
        refine RS.no rfl rfl rfl hb_14 ?_
        refine RS.no rfl rfl rfl hb_14 ?_
        refine RS.op rfl (OP.q rfl (v_pickT (v := .bool true) rfl hb_14 rfl ?_))
        refine RS.nil ?_
        exact T.weakR (hK () trivial) (Weak.mkN [] [0] (by decide) (none_kept _) rfl ⟨rn_str rfl, rn_ref rfl, rn_bool ((congrArg (fun p => p) (Option.some.inj hz)).symm), trivial⟩ (rw_arr rfl encChoice_p rfl (rw_nil)))
      · replace hz := ite_F hz hb_14
        obtain ⟨x4, hx4, hz⟩ := bind_some hz
        refine T.region ?_
        refine RS.op rfl (OP.q rfl (v_move (v := .str s1) rfl ?_))
        refine RS.op rfl (OP.q rfl (v_index_str Try.underlying9 rfl rfl hx3 ?_))
        refine RS.op rfl (OP.q rfl (v_geq rfl rfl ?_))
        refine RS.op rfl (OP.q rfl (v_move (v := .bool (decide ((x3.toNat : Int) ≥ 12))) rfl ?_))
        refine RS.yes rfl rfl rfl hb_14 (OP.q rfl (v_move (v := .str s1) rfl ?_))
        refine RS.yes rfl rfl rfl hb_14 (OP.q rfl (v_index_str Try.underlying9 rfl rfl hx4 ?_))
        refine RS.yes rfl rfl rfl hb_14 (OP.q rfl (v_geq rfl rfl ?_))
        refine RS.op rfl (OP.q rfl (v_pickF (v := .bool (decide ((x4.toNat : Int) ≥ 16))) rfl hb_14 rfl ?_))
        refine RS.nil ?_
        exact T.weakR (hK () trivial) (Weak.mkN [] [0] (by decide) (none_kept _) rfl ⟨rn_str rfl, rn_ref rfl, rn_bool ((congrArg (fun p => p) (Option.some.inj hz)).symm), trivial⟩ (rw_arr rfl encChoice_p rfl (rw_nil)))
  · replace h := ite_F h hb_13
    refine T.exit ?_
    obtain ⟨w_19, h, hw_19⟩ := map_inr h
    replace h := h.trans (congrArg some (hv_12 _ hw_19))
    refine T.seq ?_
    refine T.region ?_
    refine RS.op rfl (OP.q rfl (v_move (v := .ref 0) rfl ?_))
    refine RS.op rfl (OP.q rfl (v_move (v := .str s1) rfl ?_))
    refine RS.op rfl (OP.q rfl (v_seql rfl rfl ?_))
    refine RS.op rfl (OP.q rfl (v_assign (v := .ref 0) rfl ?_))
    refine RS.op rfl (OP.q rfl (v_assign (v := .bool (s1 == [])) rfl ?_))
    refine RS.nil ?_
    refine T.ret' (R := ?R20) ?hq20 ?_
    case hq20 => repeat (first | exact RetIs.base | refine RetIs.thn ?_ | refine RetIs.blk ?_ | refine RetIs.lq ?_)
    refine res_tmpA (v := .ref 0) rfl ?_
    refine res_tmpA (v := .bool (s1 == [])) rfl ?_
    refine res_done ?_
    exact ret_own (.tup [.ref 0, .bool r.2]) [] [0] (by decide) (none_kept _) rfl (rn_tup ⟨rn_ref rfl, rn_bool (congrArg (fun r : (List Choice) × Bool => r.2) (Option.some.inj h)).symm, trivial⟩) (rw_arr rfl encChoice_p (congrArg (fun r : (List Choice) × Bool => r.1) (Option.some.inj h)).symm (rw_nil)) ⟨rfl, rfl⟩
theorem slices_Equal_Choice_c (p0 : List Choice) (p1 : List Choice) (r : Bool) (h : slices_Equal_Choice p0 p1 = some r) : Fn Try.prog 41 [.sl (List.map encChoice p0), .sl (List.map encChoice p1)] (.bool r) := by
  unfold slices_Equal_Choice at h
  refine fn_of_T (N := 0) rfl Try.func41 rfl (by kernel_rfl) Try.ntmps41 rfl ?_
  show T _ _ _ _ (mkA 26 [(0, .sl (List.map encChoice p0)), (1, .sl (List.map encChoice p1))]) []
  refine T.seq ?_
  refine T.region ?_
  refine RS.op rfl (OP.q rfl (v_assign (v := .bool false) rfl ?_))
  refine RS.nil ?_
  refine T.seq ?_
  refine T.seq ?_
  refine T.region ?_
  refine RS.op rfl (OP.q rfl (v_move (v := .sl (List.map encChoice p0)) rfl ?_))
  refine RS.op rfl (OP.q rfl (v_len_sl Ty.s58 rfl ?_))
  refine RS.op rfl (OP.q rfl (v_move (v := .sl (List.map encChoice p1)) rfl ?_))
  refine RS.op rfl (OP.q rfl (v_len_sl Ty.s58 rfl ?_))
  refine RS.op rfl (OP.q rfl (v_neq rfl rfl ?_))
  refine RS.nil ?_
  refine T.cond (b := ((p0).length : Int) != ((p1).length : Int)) rfl (fun hb_1 => ?_) (fun hb_1 => ?_)
  · replace h := ite_T h hb_1
    refine T.seq ?_
    refine T.region ?_
    refine RS.op rfl (OP.q rfl (v_assign (v := .bool false) rfl ?_))
    refine RS.nil ?_
    refine T.ret' (R := ?R2) ?hq2 ?_
    case hq2 => repeat (first | exact RetIs.base | refine RetIs.thn ?_ | refine RetIs.blk ?_ | refine RetIs.lq ?_)
    refine res_tmpA (v := .bool false) rfl ?_
    refine res_done ?_
    exact ret_data (v := .bool false) rfl (pure_bool _) ⟨congrArg (fun r : Bool => (.bool r : AV)) (Option.some.inj h), rfl⟩
  · replace h := ite_F h hb_1
    refine T.skip ?_
    refine T.seq ?_
    refine T.seq ?_
    refine T.region ?_
    refine RS.op rfl (OP.q rfl (v_move (v := .sl (List.map encChoice p0)) rfl ?_))
    refine RS.op rfl (OP.q rfl (v_len_sl Ty.s58 rfl ?_))
    refine RS.op rfl (OP.q rfl (v_move (v := .int .i64 0) rfl ?_))
    refine RS.nil ?_
    refine T.block ?_
    refine T.iter (fun ss_11 : Int => mkA 26 [(0, .sl (List.map encChoice p0)), (1, .sl (List.map encChoice p1)), (12, .int .i64 ((p0).length : Int)), (13, .int .i64 ss_11)]) (fun ss_11 => []) h (Weak.mkN [] [] (by decide) (none_kept _) rfl ⟨rn_sl encChoice_p rfl, rn_sl encChoice_p rfl, rn_int rfl, rn_int rfl, trivial⟩ (rw_nil)) (fun ss_11 v_12 h hv_12 => ?_)
    revert hv_12 h; revert ss_11; intro s1 h hv_12
    replace h : slices_Equal_Choice_l1 p0 p1 s1 = some v_12 := h
    show T _ _ _ _ (mkA 26 [(0, .sl (List.map encChoice p0)), (1, .sl (List.map encChoice p1)), (12, .int .i64 ((p0).length : Int)), (13, .int .i64 s1)]) []
    unfold slices_Equal_Choice_l1 at h
    refine T.seq ?_
    refine T.region ?_
    refine RS.op rfl (OP.q rfl (v_lss rfl rfl ?_))
    refine RS.nil ?_
    refine T.seq ?_
    refine T.cond (b := decide (s1 < ((p0).length : Int))) rfl (fun hb_13 => ?_) (fun hb_13 => ?_)
    · replace h := ite_T h hb_13
      refine T.skip ?_
      refine T.seq ?_
      refine T.block ?_
      refine T.seq ?_
      refine T.region ?_
      refine RS.op rfl (OP.q rfl (v_move (v := .int .i64 s1) rfl ?_))
      refine RS.op rfl (OP.q rfl (v_assign (v := .int .i64 s1) rfl ?_))
      refine RS.nil ?_
      refine T.seq ?_
      obtain ⟨x4, hx4, h⟩ := bind_some h
      obtain ⟨x5, hx5, h⟩ := bind_some h
      refine T.drawn mixed (k := 9) rfl ?_
      refine RA.join 0 #[true, true, true, true, true, true, true, true, true] (mkA 26 [(0, .sl (List.map encChoice p0)), (1, .sl (List.map encChoice p1)), (5, .int .i64 s1), (12, .int .i64 ((p0).length : Int)), (13, .int .i64 s1), (14, .bool (decide (s1 < ((p0).length : Int)))), (15, .int .i64 s1), (16, .sl (List.map encChoice p0)), (17, .int .i64 s1), (18, .elt (encChoice x4) 0), (19, .agg [.int .i64 x4.Node, .int .i64 x4.Lane]), (20, .sl (List.map encChoice p1)), (21, .int .i64 s1), (22, .elt (encChoice x5) 0), (23, .agg [.int .i64 x5.Node, .int .i64 x5.Lane]), (24, .bool (!(x4 == x5)))]) [] ?_ (fun hS14 => ?_)
      · refine RA.done (by decide +kernel) ?_
        refine T.cond (b := !(x4 == x5)) rfl (fun hb_15 => ?_) (fun hb_15 => ?_)
        · replace h := ite_T h hb_15
          refine T.seq ?_
          refine T.region ?_
          refine RS.op rfl (OP.q rfl (v_assign (v := .bool false) rfl ?_))
          refine RS.nil ?_
          refine T.ret' (R := ?R16) ?hq16 ?_
          case hq16 => repeat (first | exact RetIs.base | refine RetIs.thn ?_ | refine RetIs.blk ?_ | refine RetIs.lq ?_)
          obtain ⟨w_17, h, hw_17⟩ := map_inr h
          replace h := h.trans (congrArg some (hv_12 _ hw_17))
          refine res_tmpA (v := .bool false) rfl ?_
          refine res_done ?_
          exact ret_data (v := .bool false) rfl (pure_bool _) ⟨congrArg (fun r : Bool => (.bool r : AV)) (Option.some.inj h), rfl⟩
        · replace h := ite_F h hb_15
          refine T.skip ?_
          refine T.region ?_
          refine RS.op rfl (OP.q rfl (v_add rfl rfl ?_))
          refine RS.op rfl (OP.q rfl (v_move (v := .int .i64 (IntKind.i64.wrap (s1 + 1))) rfl ?_))
          refine RS.nil ?_
          exact ⟨IntKind.i64.wrap (s1 + 1), (Option.some.inj h).symm, Weak.mkN [] [] (by decide) (none_kept _) rfl ⟨rn_sl encChoice_p rfl, rn_sl encChoice_p rfl, rn_int rfl, rn_int rfl, trivial⟩ (rw_nil)⟩
      · refine RA.t0 (i := 0) (li' := #[true, false, false, false, false, false, false, false, false]) rfl (by decide +kernel) (by decide +kernel) (by decide +kernel) (by decide +kernel) rfl rfl (v_move (v := .sl (List.map encChoice p0)) rfl ?_)
        refine RA.t0 (i := 1) (li' := #[true, true, false, false, false, false, false, false, false]) rfl (by decide +kernel) (by decide +kernel) (by decide +kernel) (by decide +kernel) rfl rfl (v_move (v := .int .i64 s1) rfl ?_)
        refine RA.t0 (i := 2) (li' := #[true, true, true, false, false, false, false, false, false]) rfl (by decide +kernel) (by decide +kernel) (by decide +kernel) (by decide +kernel) rfl rfl (v_index_sl Ty.s58 (fun _ => rfl) rfl rfl hx4 ?_)
        refine RA.t0 (i := 4) (li' := #[true, true, true, false, true, false, false, false, false]) rfl (by decide +kernel) (by decide +kernel) (by decide +kernel) (by decide +kernel) rfl rfl (v_move (v := .sl (List.map encChoice p1)) rfl ?_)
        refine RA.t0 (i := 5) (li' := #[true, true, true, false, true, true, false, false, false]) rfl (by decide +kernel) (by decide +kernel) (by decide +kernel) (by decide +kernel) rfl rfl (v_move (v := .int .i64 s1) rfl ?_)
        refine RA.t0 (i := 6) (li' := #[true, true, true, false, true, true, true, false, false]) rfl (by decide +kernel) (by decide +kernel) (by decide +kernel) (by decide +kernel) rfl rfl (v_index_sl Ty.s58 (fun _ => rfl) rfl rfl hx5 ?_)
        refine RA.a2 (i1 := 3) (l1 := #[true, true, true, true, true, true, true, false, false]) (i2 := 7) (l2 := #[true, true, true, false, true, true, true, true, false]) (by decide +kernel) (by decide +kernel) (by decide +kernel) ?_ ?_
        · refine RO.op rfl rfl (o_load_elt rfl (loadRowA Ty.k66 Ty.c66 rfl (cs := [.int .i64 x4.Node, .int .i64 x4.Lane]) rfl ?_))
          refine RA.a1 (i1 := 7) (l1 := #[true, true, true, true, true, true, true, true, false]) (by decide +kernel) (by decide +kernel) ?_
          refine RO.op rfl rfl (o_load_elt rfl (loadRowA Ty.k66 Ty.c66 rfl (cs := [.int .i64 x5.Node, .int .i64 x5.Lane]) rfl ?_))
          refine RA.t0 (i := 8) (li' := #[true, true, true, true, true, true, true, true, true]) rfl (by decide +kernel) (by decide +kernel) (by decide +kernel) (by decide +kernel) rfl rfl (v_gneq (cs := [.int .i64 x4.Node, .int .i64 x4.Lane]) (ds := [.int .i64 x5.Node, .int .i64 x5.Lane]) (r := x4 == x5) Ty.q66 rfl rfl rfl rfl (encChoice_eq x4 x5) ?_)
          exact RA.weakR hS14 (Weak.mkN [] [] (by decide) (none_kept _) rfl ⟨rn_sl encChoice_p rfl, rn_sl encChoice_p rfl, rn_int rfl, rn_int rfl, rn_int rfl, rn_bool rfl, rn_int rfl, rn_sl encChoice_p rfl, rn_int rfl, rn_elt (encChoice_p _) (congrArg encChoice rfl), rn_agg ⟨rn_int rfl, rn_int rfl, trivial⟩, rn_sl encChoice_p rfl, rn_int rfl, rn_elt (encChoice_p _) (congrArg encChoice rfl), rn_agg ⟨rn_int rfl, rn_int rfl, trivial⟩, rn_bool rfl, trivial⟩ (rw_nil))
        · refine RO.op rfl rfl (o_load_elt rfl (loadRowA Ty.k66 Ty.c66 rfl (cs := [.int .i64 x5.Node, .int .i64 x5.Lane]) rfl ?_))
          refine RA.a1 (i1 := 3) (l1 := #[true, true, true, true, true, true, true, true, false]) (by decide +kernel) (by decide +kernel) ?_
          refine RO.op rfl rfl (o_load_elt rfl (loadRowA Ty.k66 Ty.c66 rfl (cs := [.int .i64 x4.Node, .int .i64 x4.Lane]) rfl ?_))
          refine RA.t0 (i := 8) (li' := #[true, true, true, true, true, true, true, true, true]) rfl (by decide +kernel) (by decide +kernel) (by decide +kernel) (by decide +kernel) rfl rfl (v_gneq (cs := [.int .i64 x4.Node, .int .i64 x4.Lane]) (ds := [.int .i64 x5.Node, .int .i64 x5.Lane]) (r := x4 == x5) Ty.q66 rfl rfl rfl rfl (encChoice_eq x4 x5) ?_)
          exact RA.weakR hS14 (Weak.mkN [] [] (by decide) (none_kept _) rfl ⟨rn_sl encChoice_p rfl, rn_sl encChoice_p rfl, rn_int rfl, rn_int rfl, rn_int rfl, rn_bool rfl, rn_int rfl, rn_sl encChoice_p rfl, rn_int rfl, rn_elt (encChoice_p _) (congrArg encChoice rfl), rn_agg ⟨rn_int rfl, rn_int rfl, trivial⟩, rn_sl encChoice_p rfl, rn_int rfl, rn_elt (encChoice_p _) (congrArg encChoice rfl), rn_agg ⟨rn_int rfl, rn_int rfl, trivial⟩, rn_bool rfl, trivial⟩ (rw_nil))
    · replace h := ite_F h hb_13
      refine T.exit ?_
      obtain ⟨w_18, h, hw_18⟩ := map_inr h
      replace h := h.trans (congrArg some (hv_12 _ hw_18))
      refine T.seq ?_
      refine T.region ?_
      refine RS.op rfl (OP.q rfl (v_assign (v := .bool true) rfl ?_))
      refine RS.nil ?_
      refine T.ret' (R := ?R19) ?hq19 ?_
      case hq19 => repeat (first | exact RetIs.base | refine RetIs.thn ?_ | refine RetIs.blk ?_ | refine RetIs.lq ?_)
      refine res_tmpA (v := .bool true) rfl ?_
      refine res_done ?_
      exact ret_data (v := .bool true) rfl (pure_bool _) ⟨congrArg (fun r : Bool => (.bool r : AV)) (Option.some.inj h), rfl⟩
theorem crosslaw_FrameChoices_c (p0 : List Choice) (p1 : List UInt8) (r : Bool) (h : crosslaw_FrameChoices p0 p1 = some r) : Fn Try.prog 12 [.sl (List.map encChoice p0), .str p1] (.bool r) := by
  unfold crosslaw_FrameChoices at h
  refine fn_of_T (N := 0) rfl Try.func12 rfl (by kernel_rfl) Try.ntmps12 rfl ?_
  show T _ _ _ _ (mkA 115 [(0, .sl (List.map encChoice p0)), (1, .str p1)]) []
  refine T.seq ?_
  refine T.region ?_
  refine RS.op rfl (OP.q rfl (v_assign (v := .bool false) rfl ?_))
  refine RS.nil ?_
  refine T.seq ?_
  obtain ⟨x2, hx2, h⟩ := bind_some h
  refine T.region ?_
  refine RS.op rfl (OP.q rfl (v_move (v := .sl (List.map encChoice p0)) rfl ?_))
  refine RS.op rfl (o_call (as0 := [.sl (List.map encChoice p0)]) (as1 := [.sl (List.map encChoice p0)]) (caps := []) (aw1 := []) rfl rfl rfl (k_flat (v := .tup [.str x2.1, .int .i64 x2.2]) (frame_Choices_c p0 x2 hx2) (⟨pure_map encChoice_p _, trivial⟩) rfl ?_))
  refine RS.op rfl (OP.q rfl (v_move (v := .tup [.str x2.1, .int .i64 x2.2]) rfl ?_))
  refine RS.op rfl (OP.q rfl (v_extract (v := .str x2.1) rfl rfl ?_))
  refine RS.op rfl (OP.q rfl (v_extract (v := .int .i64 x2.2) rfl rfl ?_))
  refine RS.op rfl (OP.q rfl (v_assign (v := .str x2.1) rfl ?_))
  refine RS.op rfl (OP.q rfl (v_assign (v := .int .i64 x2.2) rfl ?_))
  refine RS.nil ?_
  refine T.seq ?_
  obtain ⟨x4, hx4, h⟩ := bind_some h
  refine T.region ?_
  refine RS.op rfl (OP.q rfl (v_move (v := .str p1) rfl ?_))
  refine RS.op rfl (o_call (as0 := [.str p1]) (as1 := [.str p1]) (caps := []) (aw1 := []) rfl rfl rfl (k_own' (v := .tup [.ref 0, .int .i64 x4.2]) (obs := [.arr 66 2 (List.map encChoice x4.1)]) (v' := .tup [.ref 0, .int .i64 x4.2]) (aw' := [.arr 66 2 (List.map encChoice x4.1)]) (frame_OfChoices_c p1 x4 hx4) (⟨pure_str _, trivial⟩) rfl (obs_cons (flatOb_map fun _ => rfl) obs_nil) rfl rfl ?_))
  refine RS.op rfl (OP.q rfl (v_move (v := .tup [.ref 0, .int .i64 x4.2]) rfl ?_))
  refine RS.op rfl (OP.q rfl (v_extract (v := .ref 0) rfl rfl ?_))
  refine RS.op rfl (OP.q rfl (v_extract (v := .int .i64 x4.2) rfl rfl ?_))
  refine RS.op rfl (OP.q rfl (v_assign (v := .ref 0) rfl ?_))
  refine RS.op rfl (OP.q rfl (v_assign (v := .int .i64 x4.2) rfl ?_))
  refine RS.nil ?_
  refine T.seq ?_
  refine T.seq ?_
  obtain ⟨x6, hx6, h⟩ := bind_some h
  refine T.region ?_
  refine RS.op rfl (o_call (as0 := []) (as1 := []) (caps := []) (aw1 := [.arr 66 2 (List.map encChoice x4.1)]) rfl rfl rfl (k_flat (v := .bool x6) (crosslaw_framed_c x6 hx6) (trivial) rfl ?_))
  refine RS.op rfl (OP.q rfl (v_not rfl ?_))
  refine RS.nil ?_
  refine T.cond (b := !x6) rfl (fun hb_1 => ?_) (fun hb_1 => ?_)
  · replace h := ite_T h hb_1
    refine T.seq ?_
    refine T.region ?_
    refine RS.op rfl (OP.q rfl (v_assign (v := .bool false) rfl ?_))
    refine RS.nil ?_
    refine T.ret' (R := ?R2) ?hq2 ?_
    case hq2 => repeat (first | exact RetIs.base | refine RetIs.thn ?_ | refine RetIs.blk ?_ | refine RetIs.lq ?_)
    refine res_tmpA (v := .bool false) rfl ?_
    refine res_done ?_
    exact ret_data (v := .bool false) rfl (pure_bool _) ⟨congrArg (fun r : Bool => (.bool r : AV)) (Option.some.inj h), rfl⟩
  · replace h := ite_F h hb_1
    refine T.skip ?_
    refine T.join (Z := Unit) (fun zz_15 => mkA 115 [(0, .sl (List.map encChoice p0)), (5, .str x2.1), (6, .int .i64 x2.2)]) (fun zz_15 => []) (fun zz_15 => crosslaw_FrameChoices_k2 p0 x2 = some r) (fun zz_15 h => ?_) (fun hK2 => ?_)
    · replace h : crosslaw_FrameChoices_k2 p0 x2 = some r := h
      show T _ _ _ _ (mkA 115 [(0, .sl (List.map encChoice p0)), (5, .str x2.1), (6, .int .i64 x2.2)]) []
      unfold crosslaw_FrameChoices_k2 at h
      refine T.seq ?_
      refine T.seq ?_
      refine T.region ?_
      refine RS.op rfl (OP.q rfl (v_move (v := .sl (List.map encChoice p0)) rfl ?_))
      refine RS.op rfl (OP.q rfl (v_len_sl Ty.s58 rfl ?_))
      refine RS.op rfl (OP.q rfl (v_gtr rfl rfl ?_))
      refine RS.nil ?_
      refine T.cond (b := decide (((p0).length : Int) > 30)) rfl (fun hb_16 => ?_) (fun hb_16 => ?_)
      · replace h := ite_T h hb_16
        refine T.join (Z := Unit) (fun _ => mkA 115 [(4, .bool ((x2.2 == 2) && x2.1 == []))]) (fun _ => []) (fun _ => True) (fun _ _ => ?_) (fun hK => ?_)
        · show T _ _ _ _ (mkA 115 [(4, .bool ((x2.2 == 2) && x2.1 == []))]) []
          refine T.ret' (R := ?R18) ?hq18 ?_
          case hq18 => repeat (first | exact RetIs.base | refine RetIs.thn ?_ | refine RetIs.blk ?_ | refine RetIs.lq ?_)
          refine res_tmpA (v := .bool ((x2.2 == 2) && x2.1 == [])) rfl ?_
          refine res_done ?_
          exact ret_data (v := .bool ((x2.2 == 2) && x2.1 == [])) rfl (pure_bool _) ⟨congrArg (fun r : Bool => (.bool r : AV)) (Option.some.inj h), rfl⟩
        · rcases bool_cases (x2.2 == 2) with hb_17 | hb_17
          · refine T.region ?_
            refine RS.op rfl (OP.q rfl (v_move (v := .int .i64 x2.2) rfl ?_))
            refine RS.op rfl (OP.q rfl (v_eql rfl rfl ?_))
            refine RS.op rfl (OP.q rfl (v_move (v := .bool (x2.2 == 2)) rfl ?_))
            refine RS.yes rfl rfl rfl hb_17 (OP.q rfl (v_move (v := .str x2.1) rfl ?_))
            refine RS.yes rfl rfl rfl hb_17 (OP.q rfl (v_seql rfl rfl ?_))
            refine RS.op rfl (OP.q rfl (v_pickT (v := .bool (x2.1 == [])) rfl hb_17 rfl ?_))
            refine RS.op rfl (OP.q rfl (v_assign (v := .bool (x2.1 == [])) rfl ?_))
            refine RS.nil ?_
            exact T.weakR (hK () trivial) (Weak.mkN [] [] (by decide) (none_kept _) rfl ⟨rn_bool (by simp only [hb_17, Bool.true_or, Bool.or_true, Bool.false_or, Bool.or_false, Bool.true_and, Bool.and_true, Bool.false_and, Bool.and_false, Bool.not_true, Bool.not_false, if_true, if_false, Bool.false_eq_true, reduceIte]), trivial⟩ (rw_nil))
          · refine T.region ?_
            refine RS.op rfl (OP.q rfl (v_move (v := .int .i64 x2.2) rfl ?_))
            refine RS.op rfl (OP.q rfl (v_eql rfl rfl ?_))
            refine RS.op rfl (OP.q rfl (v_move (v := .bool (x2.2 == 2)) rfl ?_))
            refine RS.no rfl rfl rfl hb_17 ?_
            refine RS.no rfl rfl rfl hb_17 ?_
            refine RS.op rfl (OP.q rfl (v_pickF (v := .bool false) rfl hb_17 rfl ?_))
            refine RS.op rfl (OP.q rfl (v_assign (v := .bool false) rfl ?_))
            refine RS.nil ?_
            exact T.weakR (hK () trivial) (Weak.mkN [] [] (by decide) (none_kept _) rfl ⟨rn_bool (by simp only [hb_17, Bool.true_or, Bool.or_true, Bool.false_or, Bool.or_false, Bool.true_and, Bool.and_true, Bool.false_and, Bool.and_false, Bool.not_true, Bool.not_false, if_true, if_false, Bool.false_eq_true, reduceIte]), trivial⟩ (rw_nil))
      · replace h := ite_F h hb_16
        refine T.skip ?_
        refine T.seq ?_
        refine T.region ?_
        refine RS.op rfl (OP.q rfl (v_assign (v := .str []) rfl ?_))
        refine RS.nil ?_
        refine T.seq ?_
        refine T.seq ?_
        refine T.region ?_
        refine RS.op rfl (OP.q rfl (v_move (v := .sl (List.map encChoice p0)) rfl ?_))
        refine RS.op rfl (OP.q rfl (v_len_sl Ty.s58 rfl ?_))
        refine RS.op rfl (OP.q rfl (v_move (v := .int .i64 0) rfl ?_))
        refine RS.nil ?_
        refine T.block ?_
        refine T.iter (fun ss_33 : (List UInt8) × Int => mkA 115 [(5, .str x2.1), (6, .int .i64 x2.2), (11, .str ss_33.1), (67, .sl (List.map encChoice p0)), (68, .int .i64 ((p0).length : Int)), (69, .int .i64 ss_33.2)]) (fun ss_33 => []) h (Weak.mkN [] [] (by decide) (none_kept _) rfl ⟨rn_str rfl, rn_int rfl, rn_str rfl, rn_sl encChoice_p rfl, rn_int rfl, rn_int rfl, trivial⟩ (rw_nil)) (fun ss_33 v_34 h hv_34 => ?_)
        obtain ⟨s14, s15⟩ := ss_33
        replace h : crosslaw_FrameChoices_l1 p0 x2 s14 s15 = some v_34 := h
        show T _ _ _ _ (mkA 115 [(5, .str x2.1), (6, .int .i64 x2.2), (11, .str s14), (67, .sl (List.map encChoice p0)), (68, .int .i64 ((p0).length : Int)), (69, .int .i64 s15)]) []
        unfold crosslaw_FrameChoices_l1 at h
        refine T.seq ?_
        refine T.region ?_
        refine RS.op rfl (OP.q rfl (v_lss rfl rfl ?_))
        refine RS.nil ?_
        refine T.seq ?_
        refine T.cond (b := decide (s15 < ((p0).length : Int))) rfl (fun hb_35 => ?_) (fun hb_35 => ?_)
        · replace h := ite_T h hb_35
          refine T.skip ?_
          refine T.seq ?_
          refine T.block ?_
          refine T.seq ?_
          obtain ⟨x17, hx17, h⟩ := bind_some h
          refine T.region ?_
          refine RS.op rfl (OP.q rfl (v_index_sl Ty.s58 (fun _ => rfl) rfl rfl hx17 ?_))
          refine RS.op rfl (o_load_elt rfl (loadRowA Ty.k66 Ty.c66 rfl (cs := [.int .i64 x17.Node, .int .i64 x17.Lane]) rfl ?_))
          refine RS.op rfl (o_alloc Ty.z66 rfl (aw' := [.box [.int .i64 0, .int .i64 0]]) rfl ?_)
          refine RS.op rfl (o_store_ptr Ty.c66 Ty.i66 rfl (vs := [.int .i64 x17.Node, .int .i64 x17.Lane]) rfl rfl rfl rfl (cs' := [.int .i64 x17.Node, .int .i64 x17.Lane]) rfl (aw' := [.box [.int .i64 x17.Node, .int .i64 x17.Lane]]) rfl ?_)
          refine RS.nil ?_
          refine T.seq ?_
          refine T.join (Z := Unit) (fun _ => mkA 115 [(5, .str x2.1), (6, .int .i64 x2.2), (11, .str s14), (13, .ptr 0 0), (67, .sl (List.map encChoice p0)), (68, .int .i64 ((p0).length : Int)), (69, .int .i64 s15), (90, .bool ((decide (x17.Node < 0)) || ((decide (x17.Node > 11)) || ((decide (x17.Lane < 0)) || decide (x17.Lane > 15)))))]) (fun _ => [.box [.int .i64 x17.Node, .int .i64 x17.Lane]]) (fun _ => True) (fun _ _ => ?_) (fun hK => ?_)
          · show T _ _ _ _ (mkA 115 [(5, .str x2.1), (6, .int .i64 x2.2), (11, .str s14), (13, .ptr 0 0), (67, .sl (List.map encChoice p0)), (68, .int .i64 ((p0).length : Int)), (69, .int .i64 s15), (90, .bool ((decide (x17.Node < 0)) || ((decide (x17.Node > 11)) || ((decide (x17.Lane < 0)) || decide (x17.Lane > 15)))))]) [.box [.int .i64 x17.Node, .int .i64 x17.Lane]]
            refine T.cond (b := ((decide (x17.Node < 0)) || ((decide (x17.Node > 11)) || ((decide (x17.Lane < 0)) || decide (x17.Lane > 15))))) rfl (fun hb_39 => ?_) (fun hb_39 => ?_)
            · replace h := ite_T h hb_39
              refine T.join (Z := Unit) (fun _ => mkA 115 [(4, .bool ((x2.2 == 3) && x2.1 == []))]) (fun _ => []) (fun _ => True) (fun _ _ => ?_) (fun hK => ?_)
              · show T _ _ _ _ (mkA 115 [(4, .bool ((x2.2 == 3) && x2.1 == []))]) []
                refine T.ret' (R := ?R41) ?hq41 ?_
                case hq41 => repeat (first | exact RetIs.base | refine RetIs.thn ?_ | refine RetIs.blk ?_ | refine RetIs.lq ?_)
                obtain ⟨w_42, h, hw_42⟩ := map_inr h
                replace h := h.trans (congrArg some (hv_34 _ hw_42))
                refine res_tmpA (v := .bool ((x2.2 == 3) && x2.1 == [])) rfl ?_
                refine res_done ?_
                exact ret_data (v := .bool ((x2.2 == 3) && x2.1 == [])) rfl (pure_bool _) ⟨congrArg (fun r : Bool => (.bool r : AV)) (Option.some.inj h), rfl⟩
              · rcases bool_cases (x2.2 == 3) with hb_40 | hb_40
                · refine T.region ?_
                  refine RS.op rfl (OP.q rfl (v_move (v := .int .i64 x2.2) rfl ?_))
                  refine RS.op rfl (OP.q rfl (v_eql rfl rfl ?_))
                  refine RS.op rfl (OP.q rfl (v_move (v := .bool (x2.2 == 3)) rfl ?_))
                  refine RS.yes rfl rfl rfl hb_40 (OP.q rfl (v_move (v := .str x2.1) rfl ?_))
                  refine RS.yes rfl rfl rfl hb_40 (OP.q rfl (v_seql rfl rfl ?_))
                  refine RS.op rfl (OP.q rfl (v_pickT (v := .bool (x2.1 == [])) rfl hb_40 rfl ?_))
                  refine RS.op rfl (OP.q rfl (v_assign (v := .bool (x2.1 == [])) rfl ?_))
                  refine RS.nil ?_
                  exact T.weakR (hK () trivial) (Weak.mkN [] [] (by decide) (none_kept _) rfl ⟨rn_bool (by simp only [hb_40, Bool.true_or, Bool.or_true, Bool.false_or, Bool.or_false, Bool.true_and, Bool.and_true, Bool.false_and, Bool.and_false, Bool.not_true, Bool.not_false, if_true, if_false, Bool.false_eq_true, reduceIte]), trivial⟩ (rw_nil))
                · refine T.region ?_
                  refine RS.op rfl (OP.q rfl (v_move (v := .int .i64 x2.2) rfl ?_))
                  refine RS.op rfl (OP.q rfl (v_eql rfl rfl ?_))
                  refine RS.op rfl (OP.q rfl (v_move (v := .bool (x2.2 == 3)) rfl ?_))
                  refine RS.no rfl rfl rfl hb_40 ?_
                  refine RS.no rfl rfl rfl hb_40 ?_
                  refine RS.op rfl (OP.q rfl (v_pickF (v := .bool false) rfl hb_40 rfl ?_))
                  refine RS.op rfl (OP.q rfl (v_assign (v := .bool false) rfl ?_))
                  refine RS.nil ?_
                  exact T.weakR (hK () trivial) (Weak.mkN [] [] (by decide) (none_kept _) rfl ⟨rn_bool (by simp only [hb_40, Bool.true_or, Bool.or_true, Bool.false_or, Bool.or_false, Bool.true_and, Bool.and_true, Bool.false_and, Bool.and_false, Bool.not_true, Bool.not_false, if_true, if_false, Bool.false_eq_true, reduceIte]), trivial⟩ (rw_nil))
            · replace h := ite_F h hb_39
              refine T.skip ?_
              obtain ⟨x20, hx20, h⟩ := bind_some h
              refine T.region ?_
              refine RS.op rfl (OP.q rfl (v_move (v := .str s14) rfl ?_))
              refine RS.op rfl (OP.q rfl (v_fieldAddr_ptr Ty.f66_0 rfl (off' := 0) rfl ?_))
              refine RS.op rfl (o_load_ptr rfl rfl (loadRow1 Ty.k3 (c := .int .i64 x17.Node) rfl ?_))
              refine RS.op rfl (o_conv Try.underlying3 Try.underlying5 rfl ?_)
              refine RS.op rfl (OP.q rfl (v_fieldAddr_ptr Ty.f66_1 rfl (off' := 1) rfl ?_))
              refine RS.op rfl (o_load_ptr rfl rfl (loadRow1 Ty.k3 (c := .int .i64 x17.Lane) rfl ?_))
              refine RS.op rfl (o_conv Try.underlying3 Try.underlying5 rfl ?_)
              refine RS.op rfl (o_buildSlice (rows := List.map enc8 [IntKind.u8.wrap x17.Node, IntKind.u8.wrap x17.Lane]) (vs := [.int .u8 (IntKind.u8.wrap x17.Node), .int .u8 (IntKind.u8.wrap x17.Lane)]) Ty.s67 Ty.z5 rfl rfl rfl rfl rfl (aw' := [.box [.int .i64 x17.Node, .int .i64 x17.Lane], .arr 5 1 (List.map enc8 [IntKind.u8.wrap x17.Node, IntKind.u8.wrap x17.Lane])]) rfl ?_)
              refine RS.op rfl (o_conv_bytes (xs := [IntKind.u8.wrap x17.Node, IntKind.u8.wrap x17.Lane]) Try.underlying67 Try.underlying5 Try.underlying9 rfl rfl ?_)
              refine RS.op rfl (OP.q rfl (v_sadd rfl rfl hx20 ?_))
              refine RS.op rfl (OP.q rfl (v_assign (v := .str x20) rfl ?_))
              refine RS.nil ?_
              refine T.region ?_
              refine RS.op rfl (OP.q rfl (v_add rfl rfl ?_))
              refine RS.op rfl (OP.q rfl (v_move (v := .int .i64 (IntKind.i64.wrap (s15 + 1))) rfl ?_))
              refine RS.nil ?_
              exact ⟨(x20, IntKind.i64.wrap (s15 + 1)), (Option.some.inj h).symm, Weak.mkN [] [] (by decide) (none_kept _) rfl ⟨rn_str rfl, rn_int rfl, rn_str rfl, rn_sl encChoice_p rfl, rn_int rfl, rn_int rfl, trivial⟩ (rw_nil)⟩
          · rcases bool_cases (decide (x17.Node < 0)) with hb_36 | hb_36
            · refine T.region ?_
              refine RS.op rfl (OP.q rfl (v_fieldAddr_ptr Ty.f66_0 rfl (off' := 0) rfl ?_))
              refine RS.op rfl (o_load_ptr rfl rfl (loadRow1 Ty.k3 (c := .int .i64 x17.Node) rfl ?_))
              refine RS.op rfl (OP.q rfl (v_lss rfl rfl ?_))
              refine RS.op rfl (OP.q rfl (v_move (v := .bool (decide (x17.Node < 0))) rfl ?_))
              refine RS.no rfl rfl rfl hb_36 ?_
              refine RS.no rfl rfl rfl hb_36 ?_
              refine RS.no rfl rfl rfl hb_36 ?_
              refine RS.op rfl (OP.q rfl (v_pickT (v := .bool true) rfl hb_36 rfl ?_))
              refine RS.op rfl (OP.q rfl (v_move (v := .bool true) rfl ?_))
              refine RS.no rfl rfl rfl rfl ?_
              refine RS.no rfl rfl rfl rfl ?_
              refine RS.no rfl rfl rfl rfl ?_
              refine RS.op rfl (OP.q rfl (v_pickT (v := .bool true) rfl rfl rfl ?_))
              refine RS.op rfl (OP.q rfl (v_move (v := .bool true) rfl ?_))
              refine RS.no rfl rfl rfl rfl ?_
              refine RS.no rfl rfl rfl rfl ?_
              refine RS.no rfl rfl rfl rfl ?_
              refine RS.op rfl (OP.q rfl (v_pickT (v := .bool true) rfl rfl rfl ?_))
              refine RS.nil ?_
              exact T.weakR (hK () trivial) (Weak.mkN [] [0] (by decide) (none_kept _) rfl ⟨rn_str rfl, rn_int rfl, rn_str rfl, rn_ptr rfl, rn_sl encChoice_p rfl, rn_int rfl, rn_int rfl, rn_bool (by simp only [hb_36, Bool.true_or, Bool.or_true, Bool.false_or, Bool.or_false, Bool.true_and, Bool.and_true, Bool.false_and, Bool.and_false, Bool.not_true, Bool.not_false, if_true, if_false, Bool.false_eq_true, reduceIte]), trivial⟩ (rw_box (cs := [.int .i64 x17.Node, .int .i64 x17.Lane]) (ds := [.int .i64 x17.Node, .int .i64 x17.Lane]) rfl ⟨rn_int rfl, rn_int rfl, trivial⟩ (rw_nil)))
            · rcases bool_cases (decide (x17.Node > 11)) with hb_37 | hb_37
              · refine T.region ?_
                refine RS.op rfl (OP.q rfl (v_fieldAddr_ptr Ty.f66_0 rfl (off' := 0) rfl ?_))
                refine RS.op rfl (o_load_ptr rfl rfl (loadRow1 Ty.k3 (c := .int .i64 x17.Node) rfl ?_))
                refine RS.op rfl (OP.q rfl (v_lss rfl rfl ?_))
                refine RS.op rfl (OP.q rfl (v_move (v := .bool (decide (x17.Node < 0))) rfl ?_))
                refine RS.yes rfl rfl rfl hb_36 (OP.q rfl (v_fieldAddr_ptr Ty.f66_0 rfl (off' := 0) rfl ?_))
                refine RS.yes rfl rfl rfl hb_36 (o_load_ptr rfl rfl (loadRow1 Ty.k3 (c := .int .i64 x17.Node) rfl ?_))
                refine RS.yes rfl rfl rfl hb_36 (OP.q rfl (v_gtr rfl rfl ?_))
                refine RS.op rfl (OP.q rfl (v_pickF (v := .bool (decide (x17.Node > 11))) rfl hb_36 rfl ?_))
                refine RS.op rfl (OP.q rfl (v_move (v := .bool (decide (x17.Node > 11))) rfl ?_))
                refine RS.no rfl rfl rfl hb_37 ?_
                refine RS.no rfl rfl rfl hb_37 ?_
                refine RS.no rfl rfl rfl hb_37 ?_
                refine RS.op rfl (OP.q rfl (v_pickT (v := .bool true) rfl hb_37 rfl ?_))
                refine RS.op rfl (OP.q rfl (v_move (v := .bool true) rfl ?_))
                refine RS.no rfl rfl rfl rfl ?_
                refine RS.no rfl rfl rfl rfl ?_
                refine RS.no rfl rfl rfl rfl ?_
                refine RS.op rfl (OP.q rfl (v_pickT (v := .bool true) rfl rfl rfl ?_))
                refine RS.nil ?_
                exact T.weakR (hK () trivial) (Weak.mkN [] [0] (by decide) (none_kept _) rfl ⟨rn_str rfl, rn_int rfl, rn_str rfl, rn_ptr rfl, rn_sl encChoice_p rfl, rn_int rfl, rn_int rfl, rn_bool (by simp only [hb_36, hb_37, Bool.true_or, Bool.or_true, Bool.false_or, Bool.or_false, Bool.true_and, Bool.and_true, Bool.false_and, Bool.and_false, Bool.not_true, Bool.not_false, if_true, if_false, Bool.false_eq_true, reduceIte]), trivial⟩ (rw_box (cs := [.int .i64 x17.Node, .int .i64 x17.Lane]) (ds := [.int .i64 x17.Node, .int .i64 x17.Lane]) rfl ⟨rn_int rfl, rn_int rfl, trivial⟩ (rw_nil)))
              · rcases bool_cases (decide (x17.Lane < 0)) with hb_38 | hb_38
                · refine T.region ?_
                  refine RS.op rfl (OP.q rfl (v_fieldAddr_ptr Ty.f66_0 rfl (off' := 0) rfl ?_))
                  refine RS.op rfl (o_load_ptr rfl rfl (loadRow1 Ty.k3 (c := .int .i64 x17.Node) rfl ?_))
                  refine RS.op rfl (OP.q rfl (v_lss rfl rfl ?_))
                  refine RS.op rfl (OP.q rfl (v_move (v := .bool (decide (x17.Node < 0))) rfl ?_))
                  refine RS.yes rfl rfl rfl hb_36 (OP.q rfl (v_fieldAddr_ptr Ty.f66_0 rfl (off' := 0) rfl ?_))
                  refine RS.yes rfl rfl rfl hb_36 (o_load_ptr rfl rfl (loadRow1 Ty.k3 (c := .int .i64 x17.Node) rfl ?_))
                  refine RS.yes rfl rfl rfl hb_36 (OP.q rfl (v_gtr rfl rfl ?_))
                  refine RS.op rfl (OP.q rfl (v_pickF (v := .bool (decide (x17.Node > 11))) rfl hb_36 rfl ?_))
                  refine RS.op rfl (OP.q rfl (v_move (v := .bool (decide (x17.Node > 11))) rfl ?_))
                  refine RS.yes rfl rfl rfl hb_37 (OP.q rfl (v_fieldAddr_ptr Ty.f66_1 rfl (off' := 1) rfl ?_))
                  refine RS.yes rfl rfl rfl hb_37 (o_load_ptr rfl rfl (loadRow1 Ty.k3 (c := .int .i64 x17.Lane) rfl ?_))
                  refine RS.yes rfl rfl rfl hb_37 (OP.q rfl (v_lss rfl rfl ?_))
                  refine RS.op rfl (OP.q rfl (v_pickF (v := .bool (decide (x17.Lane < 0))) rfl hb_37 rfl ?_))
                  refine RS.op rfl (OP.q rfl (v_move (v := .bool (decide (x17.Lane < 0))) rfl ?_))
                  refine RS.no rfl rfl rfl hb_38 ?_
                  refine RS.no rfl rfl rfl hb_38 ?_
                  refine RS.no rfl rfl rfl hb_38 ?_
                  refine RS.op rfl (OP.q rfl (v_pickT (v := .bool true) rfl hb_38 rfl ?_))
                  refine RS.nil ?_
                  exact T.weakR (hK () trivial) (Weak.mkN [] [0] (by decide) (none_kept _) rfl ⟨rn_str rfl, rn_int rfl, rn_str rfl, rn_ptr rfl, rn_sl encChoice_p rfl, rn_int rfl, rn_int rfl, rn_bool (by simp only [hb_36, hb_37, hb_38, Bool.true_or, Bool.or_true, Bool.false_or, Bool.or_false, Bool.true_and, Bool.and_true, Bool.false_and, Bool.and_false, Bool.not_true, Bool.not_false, if_true, if_false, Bool.false_eq_true, reduceIte]), trivial⟩ (rw_box (cs := [.int .i64 x17.Node, .int .i64 x17.Lane]) (ds := [.int .i64 x17.Node, .int .i64 x17.Lane]) rfl ⟨rn_int rfl, rn_int rfl, trivial⟩ (rw_nil)))
                · refine T.region ?_
                  refine RS.op rfl (OP.q rfl (v_fieldAddr_ptr Ty.f66_0 rfl (off' := 0) rfl ?_))
                  refine RS.op rfl (o_load_ptr rfl rfl (loadRow1 Ty.k3 (c := .int .i64 x17.Node) rfl ?_))
                  refine RS.op rfl (OP.q rfl (v_lss rfl rfl ?_))
                  refine RS.op rfl (OP.q rfl (v_move (v := .bool (decide (x17.Node < 0))) rfl ?_))
                  refine RS.yes rfl rfl rfl hb_36 (OP.q rfl (v_fieldAddr_ptr Ty.f66_0 rfl (off' := 0) rfl ?_))
                  refine RS.yes rfl rfl rfl hb_36 (o_load_ptr rfl rfl (loadRow1 Ty.k3 (c := .int .i64 x17.Node) rfl ?_))
                  refine RS.yes rfl rfl rfl hb_36 (OP.q rfl (v_gtr rfl rfl ?_))
                  refine RS.op rfl (OP.q rfl (v_pickF (v := .bool (decide (x17.Node > 11))) rfl hb_36 rfl ?_))
                  refine RS.op rfl (OP.q rfl (v_move (v := .bool (decide (x17.Node > 11))) rfl ?_))
                  refine RS.yes rfl rfl rfl hb_37 (OP.q rfl (v_fieldAddr_ptr Ty.f66_1 rfl (off' := 1) rfl ?_))
                  refine RS.yes rfl rfl rfl hb_37 (o_load_ptr rfl rfl (loadRow1 Ty.k3 (c := .int .i64 x17.Lane) rfl ?_))
                  refine RS.yes rfl rfl rfl hb_37 (OP.q rfl (v_lss rfl rfl ?_))
                  refine RS.op rfl (OP.q rfl (v_pickF (v := .bool (decide (x17.Lane < 0))) rfl hb_37 rfl ?_))
                  refine RS.op rfl (OP.q rfl (v_move (v := .bool (decide (x17.Lane < 0))) rfl ?_))
                  refine RS.yes rfl rfl rfl hb_38 (OP.q rfl (v_fieldAddr_ptr Ty.f66_1 rfl (off' := 1) rfl ?_))
                  refine RS.yes rfl rfl rfl hb_38 (o_load_ptr rfl rfl (loadRow1 Ty.k3 (c := .int .i64 x17.Lane) rfl ?_))
                  refine RS.yes rfl rfl rfl hb_38 (OP.q rfl (v_gtr rfl rfl ?_))
                  refine RS.op rfl (OP.q rfl (v_pickF (v := .bool (decide (x17.Lane > 15))) rfl hb_38 rfl ?_))
                  refine RS.nil ?_
                  exact T.weakR (hK () trivial) (Weak.mkN [] [0] (by decide) (none_kept _) rfl ⟨rn_str rfl, rn_int rfl, rn_str rfl, rn_ptr rfl, rn_sl encChoice_p rfl, rn_int rfl, rn_int rfl, rn_bool (by simp only [hb_36, hb_37, hb_38, Bool.true_or, Bool.or_true, Bool.false_or, Bool.or_false, Bool.true_and, Bool.and_true, Bool.false_and, Bool.and_false, Bool.not_true, Bool.not_false, if_true, if_false, Bool.false_eq_true, reduceIte]), trivial⟩ (rw_box (cs := [.int .i64 x17.Node, .int .i64 x17.Lane]) (ds := [.int .i64 x17.Node, .int .i64 x17.Lane]) rfl ⟨rn_int rfl, rn_int rfl, trivial⟩ (rw_nil)))
        · replace h := ite_F h hb_35
          refine T.exit ?_
          obtain ⟨w_43, h, hw_43⟩ := map_inr h
          replace h := h.trans (congrArg some (hv_34 _ hw_43))
          refine T.join (Z := Unit) (fun _ => mkA 115 [(4, .bool ((x2.2 == 0) && x2.1 == s14))]) (fun _ => []) (fun _ => True) (fun _ _ => ?_) (fun hK => ?_)
          · show T _ _ _ _ (mkA 115 [(4, .bool ((x2.2 == 0) && x2.1 == s14))]) []
            refine T.ret' (R := ?R45) ?hq45 ?_
            case hq45 => repeat (first | exact RetIs.base | refine RetIs.thn ?_ | refine RetIs.blk ?_ | refine RetIs.lq ?_)
            refine res_tmpA (v := .bool ((x2.2 == 0) && x2.1 == s14)) rfl ?_
            refine res_done ?_
            exact ret_data (v := .bool ((x2.2 == 0) && x2.1 == s14)) rfl (pure_bool _) ⟨congrArg (fun r : Bool => (.bool r : AV)) (Option.some.inj h), rfl⟩
          · rcases bool_cases (x2.2 == 0) with hb_44 | hb_44
            · refine T.region ?_
              refine RS.op rfl (OP.q rfl (v_move (v := .int .i64 x2.2) rfl ?_))
              refine RS.op rfl (OP.q rfl (v_eql rfl rfl ?_))
              refine RS.op rfl (OP.q rfl (v_move (v := .bool (x2.2 == 0)) rfl ?_))
              refine RS.yes rfl rfl rfl hb_44 (OP.q rfl (v_move (v := .str x2.1) rfl ?_))
              refine RS.yes rfl rfl rfl hb_44 (OP.q rfl (v_move (v := .str s14) rfl ?_))
              refine RS.yes rfl rfl rfl hb_44 (OP.q rfl (v_seql rfl rfl ?_))
              refine RS.op rfl (OP.q rfl (v_pickT (v := .bool (x2.1 == s14)) rfl hb_44 rfl ?_))
              refine RS.op rfl (OP.q rfl (v_assign (v := .bool (x2.1 == s14)) rfl ?_))
              refine RS.nil ?_
              exact T.weakR (hK () trivial) (Weak.mkN [] [] (by decide) (none_kept _) rfl ⟨rn_bool (by simp only [hb_44, Bool.true_or, Bool.or_true, Bool.false_or, Bool.or_false, Bool.true_and, Bool.and_true, Bool.false_and, Bool.and_false, Bool.not_true, Bool.not_false, if_true, if_false, Bool.false_eq_true, reduceIte]), trivial⟩ (rw_nil))
            · refine T.region ?_
              refine RS.op rfl (OP.q rfl (v_move (v := .int .i64 x2.2) rfl ?_))
              refine RS.op rfl (OP.q rfl (v_eql rfl rfl ?_))
              refine RS.op rfl (OP.q rfl (v_move (v := .bool (x2.2 == 0)) rfl ?_))
              refine RS.no rfl rfl rfl hb_44 ?_
              refine RS.no rfl rfl rfl hb_44 ?_
              refine RS.no rfl rfl rfl hb_44 ?_
              refine RS.op rfl (OP.q rfl (v_pickF (v := .bool false) rfl hb_44 rfl ?_))
              refine RS.op rfl (OP.q rfl (v_assign (v := .bool false) rfl ?_))
              refine RS.nil ?_
              exact T.weakR (hK () trivial) (Weak.mkN [] [] (by decide) (none_kept _) rfl ⟨rn_bool (by simp only [hb_44, Bool.true_or, Bool.or_true, Bool.false_or, Bool.or_false, Bool.true_and, Bool.and_true, Bool.false_and, Bool.and_false, Bool.not_true, Bool.not_false, if_true, if_false, Bool.false_eq_true, reduceIte]), trivial⟩ (rw_nil))
    · refine T.seq ?_
      refine T.region ?_
      refine RS.op rfl (OP.q rfl (v_move (v := .str p1) rfl ?_))
      refine RS.op rfl (OP.q rfl (v_len_str Try.underlying9 rfl ?_))
      refine RS.op rfl (OP.q rfl (v_gtr rfl rfl ?_))
      refine RS.nil ?_
      refine T.cond (b := decide (((p1).length : Int) > 60)) rfl (fun hb_46 => ?_) (fun hb_46 => ?_)
      · replace h := ite_T h hb_46
        refine T.join (Z := Unit) (fun _ => mkA 115 [(0, .sl (List.map encChoice p0)), (5, .str x2.1), (6, .int .i64 x2.2), (35, .bool ((x4.2 != 2) || ((x4.1).length : Int) != 0))]) (fun _ => []) (fun _ => True) (fun _ _ => ?_) (fun hK => ?_)
        · show T _ _ _ _ (mkA 115 [(0, .sl (List.map encChoice p0)), (5, .str x2.1), (6, .int .i64 x2.2), (35, .bool ((x4.2 != 2) || ((x4.1).length : Int) != 0))]) []
          refine T.cond (b := ((x4.2 != 2) || ((x4.1).length : Int) != 0)) rfl (fun hb_48 => ?_) (fun hb_48 => ?_)
          · replace h := ite_T h hb_48
            refine T.seq ?_
            refine T.region ?_
            refine RS.op rfl (OP.q rfl (v_assign (v := .bool false) rfl ?_))
            refine RS.nil ?_
            refine T.ret' (R := ?R49) ?hq49 ?_
            case hq49 => repeat (first | exact RetIs.base | refine RetIs.thn ?_ | refine RetIs.blk ?_ | refine RetIs.lq ?_)
            refine res_tmpA (v := .bool false) rfl ?_
            refine res_done ?_
            exact ret_data (v := .bool false) rfl (pure_bool _) ⟨congrArg (fun r : Bool => (.bool r : AV)) (Option.some.inj h), rfl⟩
          · replace h := ite_F h hb_48
            refine T.skip ?_
            exact T.weakR (hK2 () h) (Weak.mkN [] [] (by decide) (none_kept _) rfl ⟨rn_sl encChoice_p rfl, rn_str rfl, rn_int rfl, trivial⟩ (rw_nil))
        · rcases bool_cases (x4.2 != 2) with hb_47 | hb_47
          · refine T.region ?_
            refine RS.op rfl (OP.q rfl (v_move (v := .int .i64 x4.2) rfl ?_))
            refine RS.op rfl (OP.q rfl (v_neq rfl rfl ?_))
            refine RS.op rfl (OP.q rfl (v_move (v := .bool (x4.2 != 2)) rfl ?_))
            refine RS.no rfl rfl rfl hb_47 ?_
            refine RS.no rfl rfl rfl hb_47 ?_
            refine RS.no rfl rfl rfl hb_47 ?_
            refine RS.op rfl (OP.q rfl (v_pickT (v := .bool true) rfl hb_47 rfl ?_))
            refine RS.nil ?_
            exact T.weakR (hK () trivial) (Weak.mkN [] [] (by decide) (none_kept _) rfl ⟨rn_sl encChoice_p rfl, rn_str rfl, rn_int rfl, rn_bool (by simp only [hb_47, Bool.true_or, Bool.or_true, Bool.false_or, Bool.or_false, Bool.true_and, Bool.and_true, Bool.false_and, Bool.and_false, Bool.not_true, Bool.not_false, if_true, if_false, Bool.false_eq_true, reduceIte]), trivial⟩ (rw_nil))
          · refine T.region ?_
            refine RS.op rfl (OP.q rfl (v_move (v := .int .i64 x4.2) rfl ?_))
            refine RS.op rfl (OP.q rfl (v_neq rfl rfl ?_))
            refine RS.op rfl (OP.q rfl (v_move (v := .bool (x4.2 != 2)) rfl ?_))
            refine RS.yes rfl rfl rfl hb_47 (OP.q rfl (v_move (v := .ref 0) rfl ?_))
            refine RS.yes rfl rfl rfl hb_47 (OP.q rfl (v_len_ref (en := encChoice) Ty.s58 rfl rfl ?_))
            refine RS.yes rfl rfl rfl hb_47 (OP.q rfl (v_neq rfl rfl ?_))
            refine RS.op rfl (OP.q rfl (v_pickF (v := .bool (((x4.1).length : Int) != 0)) rfl hb_47 rfl ?_))
            refine RS.nil ?_
            exact T.weakR (hK () trivial) (Weak.mkN [] [] (by decide) (none_kept _) rfl ⟨rn_sl encChoice_p rfl, rn_str rfl, rn_int rfl, rn_bool (by simp only [hb_47, Bool.true_or, Bool.or_true, Bool.false_or, Bool.or_false, Bool.true_and, Bool.and_true, Bool.false_and, Bool.and_false, Bool.not_true, Bool.not_false, if_true, if_false, Bool.false_eq_true, reduceIte]), trivial⟩ (rw_nil))
      · replace h := ite_F h hb_46
        refine T.seq ?_
        obtain ⟨x9, hx9, h⟩ := bind_some h
        refine T.region ?_
        refine RS.op rfl (OP.q rfl (v_move (v := .str p1) rfl ?_))
        refine RS.op rfl (o_call (as0 := [.str p1]) (as1 := [.str p1]) (caps := []) (aw1 := [.arr 66 2 (List.map encChoice x4.1)]) rfl rfl rfl (k_own' (v := .tup [.ref 0, .bool x9.2]) (obs := [.arr 66 2 (List.map encChoice x9.1)]) (v' := .tup [.ref 1, .bool x9.2]) (aw' := [.arr 66 2 (List.map encChoice x4.1), .arr 66 2 (List.map encChoice x9.1)]) (crossref_Pairs_c p1 x9 hx9) (⟨pure_str _, trivial⟩) rfl (obs_cons (flatOb_map fun _ => rfl) obs_nil) rfl rfl ?_))
        refine RS.op rfl (OP.q rfl (v_move (v := .tup [.ref 1, .bool x9.2]) rfl ?_))
        refine RS.op rfl (OP.q rfl (v_extract (v := .ref 1) rfl rfl ?_))
        refine RS.op rfl (OP.q rfl (v_extract (v := .bool x9.2) rfl rfl ?_))
        refine RS.op rfl (OP.q rfl (v_assign (v := .ref 1) rfl ?_))
        refine RS.op rfl (OP.q rfl (v_assign (v := .bool x9.2) rfl ?_))
        refine RS.nil ?_
        refine T.seq ?_
        refine T.region ?_
        refine RS.op rfl (OP.q rfl (v_move (v := .bool x9.2) rfl ?_))
        refine RS.op rfl (OP.q rfl (v_not rfl ?_))
        refine RS.nil ?_
        refine T.cond (b := !x9.2) rfl (fun hb_50 => ?_) (fun hb_50 => ?_)
        · replace h := ite_T h hb_50
          refine T.join (Z := Unit) (fun _ => mkA 115 [(0, .sl (List.map encChoice p0)), (5, .str x2.1), (6, .int .i64 x2.2), (49, .bool ((x4.2 != 12) || ((x4.1).length : Int) != 0))]) (fun _ => []) (fun _ => True) (fun _ _ => ?_) (fun hK => ?_)
          · show T _ _ _ _ (mkA 115 [(0, .sl (List.map encChoice p0)), (5, .str x2.1), (6, .int .i64 x2.2), (49, .bool ((x4.2 != 12) || ((x4.1).length : Int) != 0))]) []
            refine T.cond (b := ((x4.2 != 12) || ((x4.1).length : Int) != 0)) rfl (fun hb_52 => ?_) (fun hb_52 => ?_)
            · replace h := ite_T h hb_52
              refine T.seq ?_
              refine T.region ?_
              refine RS.op rfl (OP.q rfl (v_assign (v := .bool false) rfl ?_))
              refine RS.nil ?_
              refine T.ret' (R := ?R53) ?hq53 ?_
              case hq53 => repeat (first | exact RetIs.base | refine RetIs.thn ?_ | refine RetIs.blk ?_ | refine RetIs.lq ?_)
              refine res_tmpA (v := .bool false) rfl ?_
              refine res_done ?_
              exact ret_data (v := .bool false) rfl (pure_bool _) ⟨congrArg (fun r : Bool => (.bool r : AV)) (Option.some.inj h), rfl⟩
            · replace h := ite_F h hb_52
              refine T.skip ?_
              exact T.weakR (hK2 () h) (Weak.mkN [] [] (by decide) (none_kept _) rfl ⟨rn_sl encChoice_p rfl, rn_str rfl, rn_int rfl, trivial⟩ (rw_nil))
          · rcases bool_cases (x4.2 != 12) with hb_51 | hb_51
            · refine T.region ?_
              refine RS.op rfl (OP.q rfl (v_move (v := .int .i64 x4.2) rfl ?_))
              refine RS.op rfl (OP.q rfl (v_neq rfl rfl ?_))
              refine RS.op rfl (OP.q rfl (v_move (v := .bool (x4.2 != 12)) rfl ?_))
              refine RS.no rfl rfl rfl hb_51 ?_
              refine RS.no rfl rfl rfl hb_51 ?_
              refine RS.no rfl rfl rfl hb_51 ?_
              refine RS.op rfl (OP.q rfl (v_pickT (v := .bool true) rfl hb_51 rfl ?_))
              refine RS.nil ?_
              exact T.weakR (hK () trivial) (Weak.mkN [] [] (by decide) (none_kept _) rfl ⟨rn_sl encChoice_p rfl, rn_str rfl, rn_int rfl, rn_bool (by simp only [hb_51, Bool.true_or, Bool.or_true, Bool.false_or, Bool.or_false, Bool.true_and, Bool.and_true, Bool.false_and, Bool.and_false, Bool.not_true, Bool.not_false, if_true, if_false, Bool.false_eq_true, reduceIte]), trivial⟩ (rw_nil))
            · refine T.region ?_
              refine RS.op rfl (OP.q rfl (v_move (v := .int .i64 x4.2) rfl ?_))
              refine RS.op rfl (OP.q rfl (v_neq rfl rfl ?_))
              refine RS.op rfl (OP.q rfl (v_move (v := .bool (x4.2 != 12)) rfl ?_))
              refine RS.yes rfl rfl rfl hb_51 (OP.q rfl (v_move (v := .ref 0) rfl ?_))
              refine RS.yes rfl rfl rfl hb_51 (OP.q rfl (v_len_ref (en := encChoice) Ty.s58 rfl rfl ?_))
              refine RS.yes rfl rfl rfl hb_51 (OP.q rfl (v_neq rfl rfl ?_))
              refine RS.op rfl (OP.q rfl (v_pickF (v := .bool (((x4.1).length : Int) != 0)) rfl hb_51 rfl ?_))
              refine RS.nil ?_
              exact T.weakR (hK () trivial) (Weak.mkN [] [] (by decide) (none_kept _) rfl ⟨rn_sl encChoice_p rfl, rn_str rfl, rn_int rfl, rn_bool (by simp only [hb_51, Bool.true_or, Bool.or_true, Bool.false_or, Bool.or_false, Bool.true_and, Bool.and_true, Bool.false_and, Bool.and_false, Bool.not_true, Bool.not_false, if_true, if_false, Bool.false_eq_true, reduceIte]), trivial⟩ (rw_nil))
        · replace h := ite_F h hb_50
          obtain ⟨zt_55, hz, h⟩ := bind_some h
          revert hz h; revert zt_55; intro c12 hz h
          refine T.join (Z := Unit) (fun _ => mkA 115 [(0, .sl (List.map encChoice p0)), (5, .str x2.1), (6, .int .i64 x2.2), (57, .bool c12)]) (fun _ => []) (fun _ => True) (fun _ _ => ?_) (fun hK => ?_)
          · show T _ _ _ _ (mkA 115 [(0, .sl (List.map encChoice p0)), (5, .str x2.1), (6, .int .i64 x2.2), (57, .bool c12)]) []
            refine T.cond (b := c12) rfl (fun hb_56 => ?_) (fun hb_56 => ?_)
            · replace h := ite_T h hb_56
              refine T.seq ?_
              refine T.region ?_
              refine RS.op rfl (OP.q rfl (v_assign (v := .bool false) rfl ?_))
              refine RS.nil ?_
              refine T.ret' (R := ?R57) ?hq57 ?_
              case hq57 => repeat (first | exact RetIs.base | refine RetIs.thn ?_ | refine RetIs.blk ?_ | refine RetIs.lq ?_)
              refine res_tmpA (v := .bool false) rfl ?_
              refine res_done ?_
              exact ret_data (v := .bool false) rfl (pure_bool _) ⟨congrArg (fun r : Bool => (.bool r : AV)) (Option.some.inj h), rfl⟩
            · replace h := ite_F h hb_56
              refine T.skip ?_
              exact T.weakR (hK2 () h) (Weak.mkN [] [] (by decide) (none_kept _) rfl ⟨rn_sl encChoice_p rfl, rn_str rfl, rn_int rfl, trivial⟩ (rw_nil))
          · rcases bool_cases (x4.2 != 0) with hb_54 | hb_54
            · replace hz := ite_T hz hb_54
              refine T.region ?_
              refine RS.op rfl (OP.q rfl (v_move (v := .int .i64 x4.2) rfl ?_))
              refine RS.op rfl (OP.q rfl (v_neq rfl rfl ?_))
              refine RS.op rfl (OP.q rfl (v_move (v := .bool (x4.2 != 0)) rfl ?_))
              refine RS.no rfl rfl rfl hb_54 ?_
              refine RS.no rfl rfl rfl hb_54 ?_
              refine RS.no rfl rfl rfl hb_54 ?_
              refine RS.no rfl rfl rfl hb_54 ?_
              refine RS.op rfl (OP.q rfl (v_pickT (v := .bool true) rfl hb_54 rfl ?_))
              refine RS.nil ?_
              exact T.weakR (hK () trivial) (Weak.mkN [] [] (by decide) (none_kept _) rfl ⟨rn_sl encChoice_p rfl, rn_str rfl, rn_int rfl, rn_bool ((congrArg (fun p => p) (Option.some.inj hz)).symm), trivial⟩ (rw_nil))
            · replace hz := ite_F hz hb_54
              obtain ⟨x11, hx11, hz⟩ := bind_some hz
              refine T.region ?_
              refine RS.op rfl (OP.q rfl (v_move (v := .int .i64 x4.2) rfl ?_))
              refine RS.op rfl (OP.q rfl (v_neq rfl rfl ?_))
              refine RS.op rfl (OP.q rfl (v_move (v := .bool (x4.2 != 0)) rfl ?_))
              refine RS.yes rfl rfl rfl hb_54 (OP.q rfl (v_move (v := .ref 0) rfl ?_))
              refine RS.yes rfl rfl rfl hb_54 (OP.q rfl (v_move (v := .ref 1) rfl ?_))
              refine RS.yes rfl rfl rfl hb_54 (o_call (as0 := [.ref 0, .ref 1]) (as1 := [.sl (List.map encChoice x4.1), .sl (List.map encChoice x9.1)]) (caps := []) (aw1 := [.dead, .dead]) rfl rfl rfl (k_flat (v := .bool x11) (slices_Equal_Choice_c x4.1 x9.1 x11 hx11) (⟨pure_map encChoice_p _, pure_map encChoice_p _, trivial⟩) rfl ?_))
              refine RS.yes rfl rfl rfl hb_54 (OP.q rfl (v_not rfl ?_))
              refine RS.op rfl (OP.q rfl (v_pickF (v := .bool (!x11)) rfl hb_54 rfl ?_))
              refine RS.nil ?_
              exact T.weakR (hK () trivial) (Weak.mkN [] [] (by decide) (none_kept _) rfl ⟨rn_sl encChoice_p rfl, rn_str rfl, rn_int rfl, rn_bool ((congrArg (fun p => p) (Option.some.inj hz)).symm), trivial⟩ (rw_nil))
end Go.Proofs.Ytpndpdbabblphaa
