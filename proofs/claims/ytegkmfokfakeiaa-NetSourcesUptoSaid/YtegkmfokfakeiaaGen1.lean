/-
  The code computes these functions. Printed by a program of ours (wip/gen.py).
-/
import Derived.Test.YtegkmfokfakeiaaOv
import Derived.Test.YtegkmfokfakeiaaEnc
import Derived.Test.YtegkmfokfakeiaaSh
namespace Go.Proofs.Ytegkmfokfakeiaa
open Go.RowKit
set_option linter.unusedVariables false
set_option linter.unusedSimpArgs false
set_option maxRecDepth 100000
set_option maxHeartbeats 4000000
theorem math_bits_Mul64_c (p0 : Int) (p1 : Int) (r : Int × Int) (h : math_bits_Mul64 p0 p1 = some r) : Fn Try.prog 125 [.int .u64 p0, .int .u64 p1] (.tup [.int .u64 r.1, .int .u64 r.2]) := by
  unfold math_bits_Mul64 at h
  refine fn_of_T (N := 0) rfl Try.func125 rfl (by kernel_rfl) Try.ntmps125 rfl ?_
  show T _ _ _ _ (mkA 51 [(0, .int .u64 p0), (1, .int .u64 p1)]) []
  refine T.seq ?_
  refine T.region ?_
  refine RS.op rfl (OP.q rfl (v_assign (v := .int .u64 0) rfl ?_))
  refine RS.op rfl (OP.q rfl (v_assign (v := .int .u64 0) rfl ?_))
  refine RS.nil ?_
  refine T.seq ?_
  refine T.region ?_
  refine RS.op rfl (OP.q rfl (v_move (v := .int .u64 p0) rfl ?_))
  refine RS.op rfl (OP.q rfl (v_and rfl rfl ?_))
  refine RS.op rfl (OP.q rfl (v_assign (v := .int .u64 (ibits .and .u64 p0 4294967295)) rfl ?_))
  refine RS.nil ?_
  refine T.seq ?_
  obtain ⟨x2, hx2, h⟩ := bind_some h
  refine T.region ?_
  refine RS.op rfl (OP.q rfl (v_move (v := .int .u64 p0) rfl ?_))
  refine RS.op rfl (OP.q rfl (v_shr rfl rfl hx2 ?_))
  refine RS.op rfl (OP.q rfl (v_assign (v := .int .u64 x2) rfl ?_))
  refine RS.nil ?_
  refine T.seq ?_
  refine T.region ?_
  refine RS.op rfl (OP.q rfl (v_move (v := .int .u64 p1) rfl ?_))
  refine RS.op rfl (OP.q rfl (v_and rfl rfl ?_))
  refine RS.op rfl (OP.q rfl (v_assign (v := .int .u64 (ibits .and .u64 p1 4294967295)) rfl ?_))
  refine RS.nil ?_
  refine T.seq ?_
  obtain ⟨x4, hx4, h⟩ := bind_some h
  refine T.region ?_
  refine RS.op rfl (OP.q rfl (v_move (v := .int .u64 p1) rfl ?_))
  refine RS.op rfl (OP.q rfl (v_shr rfl rfl hx4 ?_))
  refine RS.op rfl (OP.q rfl (v_assign (v := .int .u64 x4) rfl ?_))
  refine RS.nil ?_
  refine T.seq ?_
  refine T.region ?_
  refine RS.op rfl (OP.q rfl (v_move (v := .int .u64 (ibits .and .u64 p0 4294967295)) rfl ?_))
  refine RS.op rfl (OP.q rfl (v_move (v := .int .u64 (ibits .and .u64 p1 4294967295)) rfl ?_))
  refine RS.op rfl (OP.q rfl (v_mul rfl rfl ?_))
  refine RS.op rfl (OP.q rfl (v_assign (v := .int .u64 (IntKind.u64.wrap ((ibits .and .u64 p0 4294967295) * (ibits .and .u64 p1 4294967295)))) rfl ?_))
  refine RS.nil ?_
  refine T.seq ?_
  obtain ⟨x6, hx6, h⟩ := bind_some h
  refine T.region ?_
  refine RS.op rfl (OP.q rfl (v_move (v := .int .u64 x2) rfl ?_))
  refine RS.op rfl (OP.q rfl (v_move (v := .int .u64 (ibits .and .u64 p1 4294967295)) rfl ?_))
  refine RS.op rfl (OP.q rfl (v_mul rfl rfl ?_))
  refine RS.op rfl (OP.q rfl (v_move (v := .int .u64 (IntKind.u64.wrap ((ibits .and .u64 p0 4294967295) * (ibits .and .u64 p1 4294967295)))) rfl ?_))
  refine RS.op rfl (OP.q rfl (v_shr rfl rfl hx6 ?_))
  refine RS.op rfl (OP.q rfl (v_add rfl rfl ?_))
  refine RS.op rfl (OP.q rfl (v_assign (v := .int .u64 (IntKind.u64.wrap ((IntKind.u64.wrap (x2 * (ibits .and .u64 p1 4294967295))) + x6))) rfl ?_))
  refine RS.nil ?_
  refine T.seq ?_
  refine T.region ?_
  refine RS.op rfl (OP.q rfl (v_move (v := .int .u64 (IntKind.u64.wrap ((IntKind.u64.wrap (x2 * (ibits .and .u64 p1 4294967295))) + x6))) rfl ?_))
  refine RS.op rfl (OP.q rfl (v_and rfl rfl ?_))
  refine RS.op rfl (OP.q rfl (v_assign (v := .int .u64 (ibits .and .u64 (IntKind.u64.wrap ((IntKind.u64.wrap (x2 * (ibits .and .u64 p1 4294967295))) + x6)) 4294967295)) rfl ?_))
  refine RS.nil ?_
  refine T.seq ?_
  obtain ⟨x8, hx8, h⟩ := bind_some h
  refine T.region ?_
  refine RS.op rfl (OP.q rfl (v_move (v := .int .u64 (IntKind.u64.wrap ((IntKind.u64.wrap (x2 * (ibits .and .u64 p1 4294967295))) + x6))) rfl ?_))
  refine RS.op rfl (OP.q rfl (v_shr rfl rfl hx8 ?_))
  refine RS.op rfl (OP.q rfl (v_assign (v := .int .u64 x8) rfl ?_))
  refine RS.nil ?_
  refine T.seq ?_
  refine T.region ?_
  refine RS.op rfl (OP.q rfl (v_move (v := .int .u64 (ibits .and .u64 (IntKind.u64.wrap ((IntKind.u64.wrap (x2 * (ibits .and .u64 p1 4294967295))) + x6)) 4294967295)) rfl ?_))
  refine RS.op rfl (OP.q rfl (v_move (v := .int .u64 (ibits .and .u64 p0 4294967295)) rfl ?_))
  refine RS.op rfl (OP.q rfl (v_move (v := .int .u64 x4) rfl ?_))
  refine RS.op rfl (OP.q rfl (v_mul rfl rfl ?_))
  refine RS.op rfl (OP.q rfl (v_add rfl rfl ?_))
  refine RS.op rfl (OP.q rfl (v_assign (v := .int .u64 (IntKind.u64.wrap ((ibits .and .u64 (IntKind.u64.wrap ((IntKind.u64.wrap (x2 * (ibits .and .u64 p1 4294967295))) + x6)) 4294967295) + (IntKind.u64.wrap ((ibits .and .u64 p0 4294967295) * x4))))) rfl ?_))
  refine RS.nil ?_
  refine T.seq ?_
  obtain ⟨x10, hx10, h⟩ := bind_some h
  refine T.region ?_
  refine RS.op rfl (OP.q rfl (v_move (v := .int .u64 x2) rfl ?_))
  refine RS.op rfl (OP.q rfl (v_move (v := .int .u64 x4) rfl ?_))
  refine RS.op rfl (OP.q rfl (v_mul rfl rfl ?_))
  refine RS.op rfl (OP.q rfl (v_move (v := .int .u64 x8) rfl ?_))
  refine RS.op rfl (OP.q rfl (v_add rfl rfl ?_))
  refine RS.op rfl (OP.q rfl (v_move (v := .int .u64 (IntKind.u64.wrap ((ibits .and .u64 (IntKind.u64.wrap ((IntKind.u64.wrap (x2 * (ibits .and .u64 p1 4294967295))) + x6)) 4294967295) + (IntKind.u64.wrap ((ibits .and .u64 p0 4294967295) * x4))))) rfl ?_))
  refine RS.op rfl (OP.q rfl (v_shr rfl rfl hx10 ?_))
  refine RS.op rfl (OP.q rfl (v_add rfl rfl ?_))
  refine RS.op rfl (OP.q rfl (v_assign (v := .int .u64 (IntKind.u64.wrap ((IntKind.u64.wrap ((IntKind.u64.wrap (x2 * x4)) + x8)) + x10))) rfl ?_))
  refine RS.nil ?_
  refine T.seq ?_
  refine T.region ?_
  refine RS.op rfl (OP.q rfl (v_move (v := .int .u64 p0) rfl ?_))
  refine RS.op rfl (OP.q rfl (v_move (v := .int .u64 p1) rfl ?_))
  refine RS.op rfl (OP.q rfl (v_mul rfl rfl ?_))
  refine RS.op rfl (OP.q rfl (v_assign (v := .int .u64 (IntKind.u64.wrap (p0 * p1))) rfl ?_))
  refine RS.nil ?_
  refine T.ret' (R := ?R1) ?hq1 ?_
  case hq1 => repeat (first | exact RetIs.base | refine RetIs.thn ?_ | refine RetIs.blk ?_ | refine RetIs.lq ?_)
  refine res_tmpA (v := .int .u64 (IntKind.u64.wrap ((IntKind.u64.wrap ((IntKind.u64.wrap (x2 * x4)) + x8)) + x10))) rfl ?_
  refine res_tmpA (v := .int .u64 (IntKind.u64.wrap (p0 * p1))) rfl ?_
  refine res_done ?_
  exact ret_data (v := .tup [.int .u64 (IntKind.u64.wrap ((IntKind.u64.wrap ((IntKind.u64.wrap (x2 * x4)) + x8)) + x10)), .int .u64 (IntKind.u64.wrap (p0 * p1))]) rfl (pure_tup _ (pures_mem (⟨pure_int _ _, pure_int _ _, trivial⟩))) ⟨congrArg (fun r : Int × Int => (.tup [.int .u64 r.1, .int .u64 r.2] : AV)) (Option.some.inj h), rfl⟩
theorem math_bits_Mul_c (p0 : Int) (p1 : Int) (r : Int × Int) (h : math_bits_Mul p0 p1 = some r) : Fn Try.prog 103 [.int .u64 p0, .int .u64 p1] (.tup [.int .u64 r.1, .int .u64 r.2]) := by
  unfold math_bits_Mul at h
  refine fn_of_T (N := 0) rfl Try.func103 rfl (by kernel_rfl) Try.ntmps103 rfl ?_
  show T _ _ _ _ (mkA 30 [(0, .int .u64 p0), (1, .int .u64 p1)]) []
  refine T.seq ?_
  refine T.region ?_
  refine RS.op rfl (OP.q rfl (v_assign (v := .int .u64 0) rfl ?_))
  refine RS.op rfl (OP.q rfl (v_assign (v := .int .u64 0) rfl ?_))
  refine RS.nil ?_
  refine T.seq ?_
  refine T.cond (b := false) rfl (fun hb => ?_) (fun hb => ?_)
  · cases hb
  · refine T.skip ?_
    refine T.seq ?_
    obtain ⟨x2, hx2, h⟩ := bind_some h
    refine T.region ?_
    refine RS.op rfl (OP.q rfl (v_move (v := .int .u64 p0) rfl ?_))
    refine RS.op rfl (OP.q rfl (v_move (v := .int .u64 p1) rfl ?_))
    refine RS.op rfl (o_call (as0 := [.int .u64 p0, .int .u64 p1]) (as1 := [.int .u64 p0, .int .u64 p1]) (caps := []) (aw1 := []) rfl rfl rfl (k_flat (v := .tup [.int .u64 x2.1, .int .u64 x2.2]) (math_bits_Mul64_c p0 p1 x2 hx2) (⟨pure_int _ _, pure_int _ _, trivial⟩) rfl ?_))
    refine RS.op rfl (OP.q rfl (v_move (v := .tup [.int .u64 x2.1, .int .u64 x2.2]) rfl ?_))
    refine RS.op rfl (OP.q rfl (v_extract (v := .int .u64 x2.1) rfl rfl ?_))
    refine RS.op rfl (OP.q rfl (v_extract (v := .int .u64 x2.2) rfl rfl ?_))
    refine RS.op rfl (OP.q rfl (v_assign (v := .int .u64 x2.1) rfl ?_))
    refine RS.op rfl (OP.q rfl (v_assign (v := .int .u64 x2.2) rfl ?_))
    refine RS.nil ?_
    refine T.seq ?_
    refine T.region ?_
    refine RS.op rfl (OP.q rfl (v_move (v := .int .u64 x2.1) rfl ?_))
    refine RS.op rfl (OP.q rfl (v_move (v := .int .u64 x2.2) rfl ?_))
    refine RS.op rfl (OP.q rfl (v_assign (v := .int .u64 x2.1) rfl ?_))
    refine RS.op rfl (OP.q rfl (v_assign (v := .int .u64 x2.2) rfl ?_))
    refine RS.nil ?_
    refine T.ret' (R := ?R1) ?hq1 ?_
    case hq1 => repeat (first | exact RetIs.base | refine RetIs.thn ?_ | refine RetIs.blk ?_ | refine RetIs.lq ?_)
    refine res_tmpA (v := .int .u64 x2.1) rfl ?_
    refine res_tmpA (v := .int .u64 x2.2) rfl ?_
    refine res_done ?_
    exact ret_data (v := .tup [.int .u64 x2.1, .int .u64 x2.2]) rfl (pure_tup _ (pures_mem (⟨pure_int _ _, pure_int _ _, trivial⟩))) ⟨congrArg (fun r : Int × Int => (.tup [.int .u64 r.1, .int .u64 r.2] : AV)) (Option.some.inj h), rfl⟩
theorem slices_Repeat_ends_c (p0 : List Ends) (p1 : Int) (r : List Ends) (h : slices_Repeat_ends p0 p1 = some r) : FnO Try.prog 88 [.sl (List.map encEnds p0), .int .i64 p1] (.ref 0) [.arr 121 2 (List.map encEnds r)] := by
  unfold slices_Repeat_ends at h
  refine fn_of_T (N := 0) rfl Try.func88 rfl (by kernel_rfl) Try.ntmps88 rfl ?_
  show T _ _ _ _ (mkA 48 [(0, .sl (List.map encEnds p0)), (1, .int .i64 p1)]) []
  refine T.seq ?_
  refine T.region ?_
  refine RS.op rfl (OP.q rfl (v_assign (v := .nils) rfl ?_))
  refine RS.nil ?_
  refine T.seq ?_
  refine T.seq ?_
  refine T.region ?_
  refine RS.op rfl (OP.q rfl (v_move (v := .int .i64 p1) rfl ?_))
  refine RS.op rfl (OP.q rfl (v_lss rfl rfl ?_))
  refine RS.nil ?_
  refine T.cond (b := decide (p1 < 0)) rfl (fun hb_1 => ?_) (fun hb_1 => ?_)
  · replace h := ite_T h hb_1
    cases h
  · replace h := ite_F h hb_1
    refine T.skip ?_
    refine T.seq ?_
    obtain ⟨x2, hx2, h⟩ := bind_some h
    refine T.region ?_
    refine RS.op rfl (OP.q rfl (v_move (v := .sl (List.map encEnds p0)) rfl ?_))
    refine RS.op rfl (OP.q rfl (v_len_sl Ty.s115 rfl ?_))
    refine RS.op rfl (o_conv Try.underlying3 Try.underlying143 rfl ?_)
    refine RS.op rfl (OP.q rfl (v_move (v := .int .i64 p1) rfl ?_))
    refine RS.op rfl (o_conv Try.underlying3 Try.underlying143 rfl ?_)
    refine RS.op rfl (o_call (as0 := [.int .u64 (IntKind.u64.wrap ((p0).length : Int)), .int .u64 (IntKind.u64.wrap p1)]) (as1 := [.int .u64 (IntKind.u64.wrap ((p0).length : Int)), .int .u64 (IntKind.u64.wrap p1)]) (caps := []) (aw1 := []) rfl rfl rfl (k_flat (v := .tup [.int .u64 x2.1, .int .u64 x2.2]) (math_bits_Mul_c (IntKind.u64.wrap ((p0).length : Int)) (IntKind.u64.wrap p1) x2 hx2) (⟨pure_int _ _, pure_int _ _, trivial⟩) rfl ?_))
    refine RS.op rfl (OP.q rfl (v_move (v := .tup [.int .u64 x2.1, .int .u64 x2.2]) rfl ?_))
    refine RS.op rfl (OP.q rfl (v_extract (v := .int .u64 x2.1) rfl rfl ?_))
    refine RS.op rfl (OP.q rfl (v_extract (v := .int .u64 x2.2) rfl rfl ?_))
    refine RS.op rfl (OP.q rfl (v_assign (v := .int .u64 x2.1) rfl ?_))
    refine RS.op rfl (OP.q rfl (v_assign (v := .int .u64 x2.2) rfl ?_))
    refine RS.nil ?_
    refine T.seq ?_
    refine T.join (Z := Unit) (fun _ => mkA 48 [(0, .sl (List.map encEnds p0)), (6, .int .u64 x2.2), (26, .bool ((decide (x2.1 > 0)) || decide (x2.2 > 9223372036854775807)))]) (fun _ => []) (fun _ => True) (fun _ _ => ?_) (fun hK => ?_)
    · show T _ _ _ _ (mkA 48 [(0, .sl (List.map encEnds p0)), (6, .int .u64 x2.2), (26, .bool ((decide (x2.1 > 0)) || decide (x2.2 > 9223372036854775807)))]) []
      refine T.cond (b := ((decide (x2.1 > 0)) || decide (x2.2 > 9223372036854775807))) rfl (fun hb_3 => ?_) (fun hb_3 => ?_)
      · replace h := ite_T h hb_3
        cases h
      · replace h := ite_F h hb_3
        refine T.skip ?_
        refine T.seq ?_
        obtain ⟨x5, hx5, h⟩ := bind_some h
        refine T.region ?_
        refine RS.op rfl (OP.q rfl (v_move (v := .int .u64 x2.2) rfl ?_))
        refine RS.op rfl (o_conv Try.underlying143 Try.underlying3 rfl ?_)
        refine RS.op rfl (o_mk (en := encEnds) (zr := (⟨0, 0⟩ : Ends)) Ty.s115 Ty.z121 rfl rfl hx5 rfl (aw' := [.arr 121 2 (List.map encEnds x5)]) rfl ?_)
        refine RS.op rfl (OP.q rfl (v_assign (v := .ref 0) rfl ?_))
        refine RS.nil ?_
        refine T.seq ?_
        refine T.region ?_
        refine RS.op rfl (OP.q rfl (v_move (v := .ref 0) rfl ?_))
        refine RS.op rfl (OP.q rfl (v_move (v := .sl (List.map encEnds p0)) rfl ?_))
        refine RS.op rfl (o_copy_rs (en := encEnds) (xs := x5) (ys := p0) Ty.s115 (fun _ => rfl) rfl rfl rfl (aw' := [.arr 121 2 (List.map encEnds (cpy x5 0 (x5).length p0))]) rfl ?_)
        refine RS.op rfl (OP.q rfl (v_assign (v := .int .i64 ((min (x5).length (p0).length : Nat) : Int)) rfl ?_))
        refine RS.nil ?_
        refine T.seq ?_
        refine T.block ?_
        refine T.iter (fun ss_8 : Int × (List Ends) => mkA 48 [(7, .ref 0), (8, .int .i64 ss_8.1)]) (fun ss_8 => [.arr 121 2 (List.map encEnds ss_8.2)]) h (Weak.mkN [] [0] (by decide) (none_kept _) rfl ⟨rn_ref rfl, rn_int rfl, trivial⟩ (rw_arr rfl encEnds_p rfl (rw_nil))) (fun ss_8 v_9 h hv_9 => ?_)
        obtain ⟨s6, s7⟩ := ss_8
        replace h : slices_Repeat_ends_l1 s6 s7 = some v_9 := h
        show T _ _ _ _ (mkA 48 [(7, .ref 0), (8, .int .i64 s6)]) [.arr 121 2 (List.map encEnds s7)]
        unfold slices_Repeat_ends_l1 at h
        refine T.seq ?_
        refine T.seq ?_
        refine T.region ?_
        refine RS.op rfl (OP.q rfl (v_move (v := .int .i64 s6) rfl ?_))
        refine RS.op rfl (OP.q rfl (v_move (v := .ref 0) rfl ?_))
        refine RS.op rfl (OP.q rfl (v_len_ref (en := encEnds) Ty.s115 rfl rfl ?_))
        refine RS.op rfl (OP.q rfl (v_lss rfl rfl ?_))
        refine RS.nil ?_
        refine T.cond (b := decide (s6 < ((s7).length : Int))) rfl (fun hb_10 => ?_) (fun hb_10 => ?_)
        · replace h := ite_T h hb_10
          refine T.skip ?_
          refine T.block ?_
          obtain ⟨x8, hx8, h⟩ := bind_some h
          obtain ⟨x9, hx9, h⟩ := bind_some h
          obtain ⟨x10, hx10, h⟩ := bind_some h
          obtain ⟨x11, hx11, h⟩ := bind_some h
          refine T.drawn mixed (k := 10) rfl ?_
          refine RA.join 3 #[true, true, true, true, true, true, true, false, false, false] (mkA 48 [(7, .ref 0), (8, .int .i64 s6), (34, .int .i64 s6), (35, .ref 0), (36, .int .i64 ((s7).length : Int)), (37, .bool (decide (s6 < ((s7).length : Int)))), (38, .int .i64 s6), (39, .ref 0), (40, .int .i64 s6), (41, .vw 0 2 ((s6).toNat) ((((s7).length : Int)).toNat - (s6).toNat) none), (42, .ref 0), (43, .int .i64 s6), (44, .vw 0 2 (((0 : Int)).toNat) ((s6).toNat - ((0 : Int)).toNat) none)]) [.arr 121 2 (List.map encEnds s7)] ?_ (fun hS11 => ?_)
          · refine RA.a1 (i1 := 7) (l1 := #[true, true, true, true, true, true, true, true, false, false]) (by decide +kernel) (by decide +kernel) ?_
            refine RO.op rfl rfl (o_copy_vv (en := encEnds) (xs := s7) Ty.s115 (fun _ => rfl) rfl rfl rfl hx10 hx11 (aw' := [.arr 121 2 (List.map encEnds (cpy s7 ((s6).toNat) ((((s7).length : Int)).toNat - (s6).toNat) ((s7.drop (((0 : Int)).toNat)).take ((s6).toNat - ((0 : Int)).toNat))))]) rfl ?_)
            refine RA.t0 (i := 8) (li' := #[true, true, true, true, true, true, true, true, true, false]) rfl (by decide +kernel) (by decide +kernel) (by decide +kernel) (by decide +kernel) rfl rfl (v_add rfl rfl ?_)
            refine RA.t0 (i := 9) (li' := #[true, true, true, true, true, true, true, true, true, true]) rfl (by decide +kernel) (by decide +kernel) (by decide +kernel) (by decide +kernel) rfl rfl (v_assign (v := .int .i64 (IntKind.i64.wrap (s6 + ((min ((((s7).length : Int)).toNat - (s6).toNat) ((s6).toNat - ((0 : Int)).toNat) : Nat) : Int)))) rfl ?_)
            refine RA.done (by decide +kernel) ?_
            exact ⟨(IntKind.i64.wrap (s6 + ((min ((((s7).length : Int)).toNat - (s6).toNat) ((s6).toNat - ((0 : Int)).toNat) : Nat) : Int)), (cpy s7 ((s6).toNat) ((((s7).length : Int)).toNat - (s6).toNat) ((s7.drop (((0 : Int)).toNat)).take ((s6).toNat - ((0 : Int)).toNat)))), (Option.some.inj h).symm, Weak.mkN [] [0] (by decide) (none_kept _) rfl ⟨rn_ref rfl, rn_int rfl, trivial⟩ (rw_arr rfl encEnds_p rfl (rw_nil))⟩
          · refine RA.t0 (i := 0) (li' := #[true, false, false, false, false, false, false, false, false, false]) rfl (by decide +kernel) (by decide +kernel) (by decide +kernel) (by decide +kernel) rfl rfl (v_move (v := .int .i64 s6) rfl ?_)
            refine RA.t0 (i := 1) (li' := #[true, true, false, false, false, false, false, false, false, false]) rfl (by decide +kernel) (by decide +kernel) (by decide +kernel) (by decide +kernel) rfl rfl (v_move (v := .ref 0) rfl ?_)
            refine RA.t0 (i := 2) (li' := #[true, true, true, false, false, false, false, false, false, false]) rfl (by decide +kernel) (by decide +kernel) (by decide +kernel) (by decide +kernel) rfl rfl (v_move (v := .int .i64 s6) rfl ?_)
            refine RA.t0 (i := 4) (li' := #[true, true, true, false, true, false, false, false, false, false]) rfl (by decide +kernel) (by decide +kernel) (by decide +kernel) (by decide +kernel) rfl rfl (v_move (v := .ref 0) rfl ?_)
            refine RA.t0 (i := 5) (li' := #[true, true, true, false, true, true, false, false, false, false]) rfl (by decide +kernel) (by decide +kernel) (by decide +kernel) (by decide +kernel) rfl rfl (v_move (v := .int .i64 s6) rfl ?_)
            refine RA.a2 (i1 := 3) (l1 := #[true, true, true, true, true, true, false, false, false, false]) (i2 := 6) (l2 := #[true, true, true, false, true, true, true, false, false, false]) (by decide +kernel) (by decide +kernel) (by decide +kernel) ?_ ?_
            · refine RO.op rfl rfl (o_slice_vw (en := encEnds) (xs := s7) Ty.s115 rfl rfl rfl rfl hx8 ?_)
              refine RA.a1 (i1 := 6) (l1 := #[true, true, true, true, true, true, true, false, false, false]) (by decide +kernel) (by decide +kernel) ?_
              refine RO.op rfl rfl (o_slice_vw (en := encEnds) (xs := s7) Ty.s115 rfl rfl rfl rfl hx9 ?_)
              exact RA.weakR hS11 (Weak.mkN [] [0] (by decide) (none_kept _) rfl ⟨rn_ref rfl, rn_int rfl, rn_int rfl, rn_ref rfl, rn_int rfl, rn_bool rfl, rn_int rfl, rn_ref rfl, rn_int rfl, rn_vw rfl rfl rfl, rn_ref rfl, rn_int rfl, rn_vw rfl rfl rfl, trivial⟩ (rw_arr rfl encEnds_p rfl (rw_nil)))
            · refine RO.op rfl rfl (o_slice_vw (en := encEnds) (xs := s7) Ty.s115 rfl rfl rfl rfl hx9 ?_)
              refine RA.a1 (i1 := 3) (l1 := #[true, true, true, true, true, true, true, false, false, false]) (by decide +kernel) (by decide +kernel) ?_
              refine RO.op rfl rfl (o_slice_vw (en := encEnds) (xs := s7) Ty.s115 rfl rfl rfl rfl hx8 ?_)
              exact RA.weakR hS11 (Weak.mkN [] [0] (by decide) (none_kept _) rfl ⟨rn_ref rfl, rn_int rfl, rn_int rfl, rn_ref rfl, rn_int rfl, rn_bool rfl, rn_int rfl, rn_ref rfl, rn_int rfl, rn_vw rfl rfl rfl, rn_ref rfl, rn_int rfl, rn_vw rfl rfl rfl, trivial⟩ (rw_arr rfl encEnds_p rfl (rw_nil)))
        · replace h := ite_F h hb_10
          refine T.exit ?_
          obtain ⟨w_12, h, hw_12⟩ := map_inr h
          replace h := h.trans (congrArg some (hv_9 _ hw_12))
          refine T.seq ?_
          refine T.region ?_
          refine RS.op rfl (OP.q rfl (v_move (v := .ref 0) rfl ?_))
          refine RS.op rfl (OP.q rfl (v_assign (v := .ref 0) rfl ?_))
          refine RS.nil ?_
          refine T.ret' (R := ?R13) ?hq13 ?_
          case hq13 => repeat (first | exact RetIs.base | refine RetIs.thn ?_ | refine RetIs.blk ?_ | refine RetIs.lq ?_)
          refine res_tmpA (v := .ref 0) rfl ?_
          refine res_done ?_
          exact ret_own (.ref 0) [] [0] (by decide) (none_kept _) rfl (rn_ref rfl) (rw_arr rfl encEnds_p (congrArg (fun r : List Ends => r) (Option.some.inj h)).symm (rw_nil)) ⟨rfl, rfl⟩
    · refine T.region ?_
      refine RS.op rfl (OP.q rfl (v_move (v := .int .u64 x2.1) rfl ?_))
      refine RS.op rfl (OP.q rfl (v_gtr rfl rfl ?_))
      refine RS.op rfl (OP.q rfl (v_move (v := .bool (decide (x2.1 > 0))) rfl ?_))
      rcases bool_cases (decide (x2.1 > 0)) with hb_2 | hb_2
      · refine RS.no rfl rfl rfl hb_2 ?_
        refine RS.no rfl rfl rfl hb_2 ?_
        refine RS.op rfl (OP.q rfl (v_pickT (v := .bool true) rfl hb_2 rfl ?_))
        refine RS.nil ?_
        exact T.weakR (hK () trivial) (Weak.mkN [] [] (by decide) (none_kept _) rfl ⟨rn_sl encEnds_p rfl, rn_int rfl, rn_bool (by simp only [hb_2, Bool.true_or, Bool.or_true, Bool.false_or, Bool.or_false, Bool.true_and, Bool.and_true, Bool.false_and, Bool.and_false, Bool.not_true, Bool.not_false, if_true, if_false, Bool.false_eq_true, reduceIte]), trivial⟩ (rw_nil))
      · refine RS.yes rfl rfl rfl hb_2 (OP.q rfl (v_move (v := .int .u64 x2.2) rfl ?_))
        refine RS.yes rfl rfl rfl hb_2 (OP.q rfl (v_gtr rfl rfl ?_))
        refine RS.op rfl (OP.q rfl (v_pickF (v := .bool (decide (x2.2 > 9223372036854775807))) rfl hb_2 rfl ?_))
        refine RS.nil ?_
        exact T.weakR (hK () trivial) (Weak.mkN [] [] (by decide) (none_kept _) rfl ⟨rn_sl encEnds_p rfl, rn_int rfl, rn_bool (by simp only [hb_2, Bool.true_or, Bool.or_true, Bool.false_or, Bool.or_false, Bool.true_and, Bool.and_true, Bool.false_and, Bool.and_false, Bool.not_true, Bool.not_false, if_true, if_false, Bool.false_eq_true, reduceIte]), trivial⟩ (rw_nil))
theorem net_arity_c (p0 : Int) (r : Int × Int × Bool) (h : net_arity p0 = some r) : Fn Try.prog 89 [.int .i64 p0] (.tup [.int .i64 r.1, .int .i64 r.2.1, .bool r.2.2]) := by
  unfold net_arity at h
  refine fn_of_T (N := 0) rfl Try.func89 rfl (by kernel_rfl) Try.ntmps89 rfl ?_
  show T _ _ _ _ (mkA 19 [(0, .int .i64 p0)]) []
  refine T.seq ?_
  refine T.region ?_
  refine RS.op rfl (OP.q rfl (v_assign (v := .int .i64 0) rfl ?_))
  refine RS.op rfl (OP.q rfl (v_assign (v := .int .i64 0) rfl ?_))
  refine RS.op rfl (OP.q rfl (v_assign (v := .bool false) rfl ?_))
  refine RS.nil ?_
  refine T.seq ?_
  refine T.seq ?_
  refine T.region ?_
  refine RS.op rfl (OP.q rfl (v_move (v := .int .i64 p0) rfl ?_))
  refine RS.nil ?_
  refine T.block ?_
  refine T.seq ?_
  refine T.region ?_
  refine RS.op rfl (OP.q rfl (v_eql rfl rfl ?_))
  refine RS.op rfl (OP.q rfl (v_assign (v := .bool (p0 == 1)) rfl ?_))
  refine RS.nil ?_
  refine T.cond (b := p0 == 1) rfl (fun hb_1 => ?_) (fun hb_1 => ?_)
  · replace h := ite_T h hb_1
    refine T.seq ?_
    refine T.region ?_
    refine RS.op rfl (OP.q rfl (v_assign (v := .int .i64 0) rfl ?_))
    refine RS.op rfl (OP.q rfl (v_assign (v := .int .i64 1) rfl ?_))
    refine RS.op rfl (OP.q rfl (v_assign (v := .bool true) rfl ?_))
    refine RS.nil ?_
    refine T.ret' (R := ?R2) ?hq2 ?_
    case hq2 => repeat (first | exact RetIs.base | refine RetIs.thn ?_ | refine RetIs.blk ?_ | refine RetIs.lq ?_)
    refine res_tmpA (v := .int .i64 0) rfl ?_
    refine res_tmpA (v := .int .i64 1) rfl ?_
    refine res_tmpA (v := .bool true) rfl ?_
    refine res_done ?_
    exact ret_data (v := .tup [.int .i64 0, .int .i64 1, .bool true]) rfl (pure_tup _ (pures_mem (⟨pure_int _ _, pure_int _ _, pure_bool _, trivial⟩))) ⟨congrArg (fun r : Int × Int × Bool => (.tup [.int .i64 r.1, .int .i64 r.2.1, .bool r.2.2] : AV)) (Option.some.inj h), rfl⟩
  · replace h := ite_F h hb_1
    refine T.join (Z := Bool) (fun zz_5 => mkA 19 [(5, .int .i64 p0), (8, .bool zz_5)]) (fun zz_5 => []) (fun zz_5 => net_arity_k2 p0 zz_5 = some r) (fun zz_5 h => ?_) (fun hK2 => ?_)
    · revert h; revert zz_5; intro z1 h
      replace h : net_arity_k2 p0 z1 = some r := h
      show T _ _ _ _ (mkA 19 [(5, .int .i64 p0), (8, .bool z1)]) []
      unfold net_arity_k2 at h
      refine T.cond (b := z1) rfl (fun hb_6 => ?_) (fun hb_6 => ?_)
      · replace h := ite_T h hb_6
        refine T.seq ?_
        refine T.region ?_
        refine RS.op rfl (OP.q rfl (v_assign (v := .int .i64 1) rfl ?_))
        refine RS.op rfl (OP.q rfl (v_assign (v := .int .i64 1) rfl ?_))
        refine RS.op rfl (OP.q rfl (v_assign (v := .bool true) rfl ?_))
        refine RS.nil ?_
        refine T.ret' (R := ?R7) ?hq7 ?_
        case hq7 => repeat (first | exact RetIs.base | refine RetIs.thn ?_ | refine RetIs.blk ?_ | refine RetIs.lq ?_)
        refine res_tmpA (v := .int .i64 1) rfl ?_
        refine res_tmpA (v := .int .i64 1) rfl ?_
        refine res_tmpA (v := .bool true) rfl ?_
        refine res_done ?_
        exact ret_data (v := .tup [.int .i64 1, .int .i64 1, .bool true]) rfl (pure_tup _ (pures_mem (⟨pure_int _ _, pure_int _ _, pure_bool _, trivial⟩))) ⟨congrArg (fun r : Int × Int × Bool => (.tup [.int .i64 r.1, .int .i64 r.2.1, .bool r.2.2] : AV)) (Option.some.inj h), rfl⟩
      · replace h := ite_F h hb_6
        refine T.join (Z := Bool) (fun zz_9 => mkA 19 [(5, .int .i64 p0), (12, .bool zz_9)]) (fun zz_9 => []) (fun zz_9 => net_arity_k1 p0 zz_9 = some r) (fun zz_9 h => ?_) (fun hK1 => ?_)
        · revert h; revert zz_9; intro z2 h
          replace h : net_arity_k1 p0 z2 = some r := h
          show T _ _ _ _ (mkA 19 [(5, .int .i64 p0), (12, .bool z2)]) []
          unfold net_arity_k1 at h
          refine T.cond (b := z2) rfl (fun hb_10 => ?_) (fun hb_10 => ?_)
          · replace h := ite_T h hb_10
            refine T.seq ?_
            refine T.region ?_
            refine RS.op rfl (OP.q rfl (v_assign (v := .int .i64 1) rfl ?_))
            refine RS.op rfl (OP.q rfl (v_assign (v := .int .i64 (-1)) rfl ?_))
            refine RS.op rfl (OP.q rfl (v_assign (v := .bool true) rfl ?_))
            refine RS.nil ?_
            refine T.ret' (R := ?R11) ?hq11 ?_
            case hq11 => repeat (first | exact RetIs.base | refine RetIs.thn ?_ | refine RetIs.blk ?_ | refine RetIs.lq ?_)
            refine res_tmpA (v := .int .i64 1) rfl ?_
            refine res_tmpA (v := .int .i64 (-1)) rfl ?_
            refine res_tmpA (v := .bool true) rfl ?_
            refine res_done ?_
            exact ret_data (v := .tup [.int .i64 1, .int .i64 (-1), .bool true]) rfl (pure_tup _ (pures_mem (⟨pure_int _ _, pure_int _ _, pure_bool _, trivial⟩))) ⟨congrArg (fun r : Int × Int × Bool => (.tup [.int .i64 r.1, .int .i64 r.2.1, .bool r.2.2] : AV)) (Option.some.inj h), rfl⟩
          · replace h := ite_F h hb_10
            refine T.seq ?_
            refine T.region ?_
            refine RS.op rfl (OP.q rfl (v_eql rfl rfl ?_))
            refine RS.op rfl (OP.q rfl (v_assign (v := .bool (p0 == 6)) rfl ?_))
            refine RS.nil ?_
            refine T.cond (b := p0 == 6) rfl (fun hb_12 => ?_) (fun hb_12 => ?_)
            · replace h := ite_T h hb_12
              refine T.seq ?_
              refine T.region ?_
              refine RS.op rfl (OP.q rfl (v_assign (v := .int .i64 (-1)) rfl ?_))
              refine RS.op rfl (OP.q rfl (v_assign (v := .int .i64 1) rfl ?_))
              refine RS.op rfl (OP.q rfl (v_assign (v := .bool true) rfl ?_))
              refine RS.nil ?_
              refine T.ret' (R := ?R13) ?hq13 ?_
              case hq13 => repeat (first | exact RetIs.base | refine RetIs.thn ?_ | refine RetIs.blk ?_ | refine RetIs.lq ?_)
              refine res_tmpA (v := .int .i64 (-1)) rfl ?_
              refine res_tmpA (v := .int .i64 1) rfl ?_
              refine res_tmpA (v := .bool true) rfl ?_
              refine res_done ?_
              exact ret_data (v := .tup [.int .i64 (-1), .int .i64 1, .bool true]) rfl (pure_tup _ (pures_mem (⟨pure_int _ _, pure_int _ _, pure_bool _, trivial⟩))) ⟨congrArg (fun r : Int × Int × Bool => (.tup [.int .i64 r.1, .int .i64 r.2.1, .bool r.2.2] : AV)) (Option.some.inj h), rfl⟩
            · replace h := ite_F h hb_12
              refine T.seq ?_
              refine T.region ?_
              refine RS.op rfl (OP.q rfl (v_eql rfl rfl ?_))
              refine RS.op rfl (OP.q rfl (v_assign (v := .bool (p0 == 8)) rfl ?_))
              refine RS.nil ?_
              refine T.cond (b := p0 == 8) rfl (fun hb_14 => ?_) (fun hb_14 => ?_)
              · replace h := ite_T h hb_14
                refine T.seq ?_
                refine T.region ?_
                refine RS.op rfl (OP.q rfl (v_assign (v := .int .i64 1) rfl ?_))
                refine RS.op rfl (OP.q rfl (v_assign (v := .int .i64 0) rfl ?_))
                refine RS.op rfl (OP.q rfl (v_assign (v := .bool true) rfl ?_))
                refine RS.nil ?_
                refine T.ret' (R := ?R15) ?hq15 ?_
                case hq15 => repeat (first | exact RetIs.base | refine RetIs.thn ?_ | refine RetIs.blk ?_ | refine RetIs.lq ?_)
                refine res_tmpA (v := .int .i64 1) rfl ?_
                refine res_tmpA (v := .int .i64 0) rfl ?_
                refine res_tmpA (v := .bool true) rfl ?_
                refine res_done ?_
                exact ret_data (v := .tup [.int .i64 1, .int .i64 0, .bool true]) rfl (pure_tup _ (pures_mem (⟨pure_int _ _, pure_int _ _, pure_bool _, trivial⟩))) ⟨congrArg (fun r : Int × Int × Bool => (.tup [.int .i64 r.1, .int .i64 r.2.1, .bool r.2.2] : AV)) (Option.some.inj h), rfl⟩
              · replace h := ite_F h hb_14
                refine T.skip ?_
                refine T.seq ?_
                refine T.region ?_
                refine RS.op rfl (OP.q rfl (v_assign (v := .int .i64 0) rfl ?_))
                refine RS.op rfl (OP.q rfl (v_assign (v := .int .i64 0) rfl ?_))
                refine RS.op rfl (OP.q rfl (v_assign (v := .bool false) rfl ?_))
                refine RS.nil ?_
                refine T.ret' (R := ?R16) ?hq16 ?_
                case hq16 => repeat (first | exact RetIs.base | refine RetIs.thn ?_ | refine RetIs.blk ?_ | refine RetIs.lq ?_)
                refine res_tmpA (v := .int .i64 0) rfl ?_
                refine res_tmpA (v := .int .i64 0) rfl ?_
                refine res_tmpA (v := .bool false) rfl ?_
                refine res_done ?_
                exact ret_data (v := .tup [.int .i64 0, .int .i64 0, .bool false]) rfl (pure_tup _ (pures_mem (⟨pure_int _ _, pure_int _ _, pure_bool _, trivial⟩))) ⟨congrArg (fun r : Int × Int × Bool => (.tup [.int .i64 r.1, .int .i64 r.2.1, .bool r.2.2] : AV)) (Option.some.inj h), rfl⟩
        · refine T.seq ?_
          refine T.region ?_
          refine RS.op rfl (OP.q rfl (v_eql rfl rfl ?_))
          refine RS.op rfl (OP.q rfl (v_assign (v := .bool (p0 == 5)) rfl ?_))
          refine RS.nil ?_
          refine T.cond (b := p0 == 5) rfl (fun hb_17 => ?_) (fun hb_17 => ?_)
          · replace h := ite_T h hb_17
            refine T.skip ?_
            exact T.weakR (hK1 (p0 == 5) h) (Weak.mkN [] [] (by decide) (none_kept _) rfl ⟨rn_int rfl, rn_bool rfl, trivial⟩ (rw_nil))
          · replace h := ite_F h hb_17
            refine T.region ?_
            refine RS.op rfl (OP.q rfl (v_eql rfl rfl ?_))
            refine RS.op rfl (OP.q rfl (v_assign (v := .bool (p0 == 7)) rfl ?_))
            refine RS.nil ?_
            exact T.weakR (hK1 (p0 == 7) h) (Weak.mkN [] [] (by decide) (none_kept _) rfl ⟨rn_int rfl, rn_bool rfl, trivial⟩ (rw_nil))
    · refine T.seq ?_
      refine T.region ?_
      refine RS.op rfl (OP.q rfl (v_eql rfl rfl ?_))
      refine RS.op rfl (OP.q rfl (v_assign (v := .bool (p0 == 2)) rfl ?_))
      refine RS.nil ?_
      refine T.cond (b := p0 == 2) rfl (fun hb_18 => ?_) (fun hb_18 => ?_)
      · replace h := ite_T h hb_18
        refine T.skip ?_
        exact T.weakR (hK2 (p0 == 2) h) (Weak.mkN [] [] (by decide) (none_kept _) rfl ⟨rn_int rfl, rn_bool rfl, trivial⟩ (rw_nil))
      · replace h := ite_F h hb_18
        refine T.seq ?_
        refine T.region ?_
        refine RS.op rfl (OP.q rfl (v_eql rfl rfl ?_))
        refine RS.op rfl (OP.q rfl (v_assign (v := .bool (p0 == 3)) rfl ?_))
        refine RS.nil ?_
        refine T.cond (b := p0 == 3) rfl (fun hb_19 => ?_) (fun hb_19 => ?_)
        · replace h := ite_T h hb_19
          refine T.skip ?_
          exact T.weakR (hK2 (p0 == 3) h) (Weak.mkN [] [] (by decide) (none_kept _) rfl ⟨rn_int rfl, rn_bool rfl, trivial⟩ (rw_nil))
        · replace h := ite_F h hb_19
          refine T.region ?_
          refine RS.op rfl (OP.q rfl (v_eql rfl rfl ?_))
          refine RS.op rfl (OP.q rfl (v_assign (v := .bool (p0 == 4)) rfl ?_))
          refine RS.nil ?_
          exact T.weakR (hK2 (p0 == 4) h) (Weak.mkN [] [] (by decide) (none_kept _) rfl ⟨rn_int rfl, rn_bool rfl, trivial⟩ (rw_nil))
theorem net_fits_c (p0 : Int) (p1 : Int) (r : Bool) (h : net_fits p0 p1 = some r) : Fn Try.prog 90 [.int .i64 p0, .int .i64 p1] (.bool r) := by
  unfold net_fits at h
  refine fn_of_T (N := 0) rfl Try.func90 rfl (by kernel_rfl) Try.ntmps90 rfl ?_
  show T _ _ _ _ (mkA 16 [(0, .int .i64 p0), (1, .int .i64 p1)]) []
  refine T.seq ?_
  refine T.region ?_
  refine RS.op rfl (OP.q rfl (v_assign (v := .bool false) rfl ?_))
  refine RS.nil ?_
  refine T.join (Z := Unit) (fun _ => mkA 16 [(4, .bool ((p0 == p1) || ((decide (p1 < 0)) && decide (p0 > 0))))]) (fun _ => []) (fun _ => True) (fun _ _ => ?_) (fun hK => ?_)
  · show T _ _ _ _ (mkA 16 [(4, .bool ((p0 == p1) || ((decide (p1 < 0)) && decide (p0 > 0))))]) []
    refine T.ret' (R := ?R3) ?hq3 ?_
    case hq3 => repeat (first | exact RetIs.base | refine RetIs.thn ?_ | refine RetIs.blk ?_ | refine RetIs.lq ?_)
    refine res_tmpA (v := .bool ((p0 == p1) || ((decide (p1 < 0)) && decide (p0 > 0)))) rfl ?_
    refine res_done ?_
    exact ret_data (v := .bool ((p0 == p1) || ((decide (p1 < 0)) && decide (p0 > 0)))) rfl (pure_bool _) ⟨congrArg (fun r : Bool => (.bool r : AV)) (Option.some.inj h), rfl⟩
  · refine T.region ?_
    refine RS.op rfl (OP.q rfl (v_move (v := .int .i64 p0) rfl ?_))
    refine RS.op rfl (OP.q rfl (v_move (v := .int .i64 p1) rfl ?_))
    refine RS.op rfl (OP.q rfl (v_eql rfl rfl ?_))
    refine RS.op rfl (OP.q rfl (v_move (v := .bool (p0 == p1)) rfl ?_))
    rcases bool_cases (p0 == p1) with hb_1 | hb_1
    · refine RS.no rfl rfl rfl hb_1 ?_
      refine RS.no rfl rfl rfl hb_1 ?_
      refine RS.no rfl rfl rfl hb_1 ?_
      refine RS.nou rfl rfl rfl ?_
      refine RS.nou rfl rfl rfl ?_
      refine RS.no rfl rfl rfl hb_1 ?_
      refine RS.op rfl (OP.q rfl (v_pickT (v := .bool true) rfl hb_1 rfl ?_))
      refine RS.op rfl (OP.q rfl (v_assign (v := .bool true) rfl ?_))
      refine RS.nil ?_
      exact T.weakR (hK () trivial) (Weak.mkN [] [] (by decide) (none_kept _) rfl ⟨rn_bool (by simp only [hb_1, Bool.true_or, Bool.or_true, Bool.false_or, Bool.or_false, Bool.true_and, Bool.and_true, Bool.false_and, Bool.and_false, Bool.not_true, Bool.not_false, if_true, if_false, Bool.false_eq_true, reduceIte]), trivial⟩ (rw_nil))
    · refine RS.yes rfl rfl rfl hb_1 (OP.q rfl (v_move (v := .int .i64 p1) rfl ?_))
      refine RS.yes rfl rfl rfl hb_1 (OP.q rfl (v_lss rfl rfl ?_))
      refine RS.yes rfl rfl rfl hb_1 (OP.q rfl (v_move (v := .bool (decide (p1 < 0))) rfl ?_))
      rcases bool_cases (decide (p1 < 0)) with hb_2 | hb_2
      · refine RS.yes rfl rfl rfl hb_2 (OP.q rfl (v_move (v := .int .i64 p0) rfl ?_))
        refine RS.yes rfl rfl rfl hb_2 (OP.q rfl (v_gtr rfl rfl ?_))
        refine RS.yes rfl rfl rfl hb_1 (OP.q rfl (v_pickT (v := .bool (decide (p0 > 0))) rfl hb_2 rfl ?_))
        refine RS.op rfl (OP.q rfl (v_pickF (v := .bool (decide (p0 > 0))) rfl hb_1 rfl ?_))
        refine RS.op rfl (OP.q rfl (v_assign (v := .bool (decide (p0 > 0))) rfl ?_))
        refine RS.nil ?_
        exact T.weakR (hK () trivial) (Weak.mkN [] [] (by decide) (none_kept _) rfl ⟨rn_bool (by simp only [hb_1, hb_2, Bool.true_or, Bool.or_true, Bool.false_or, Bool.or_false, Bool.true_and, Bool.and_true, Bool.false_and, Bool.and_false, Bool.not_true, Bool.not_false, if_true, if_false, Bool.false_eq_true, reduceIte]), trivial⟩ (rw_nil))
      · refine RS.no rfl rfl rfl hb_2 ?_
        refine RS.no rfl rfl rfl hb_2 ?_
        refine RS.yes rfl rfl rfl hb_1 (OP.q rfl (v_pickF (v := .bool false) rfl hb_2 rfl ?_))
        refine RS.op rfl (OP.q rfl (v_pickF (v := .bool false) rfl hb_1 rfl ?_))
        refine RS.op rfl (OP.q rfl (v_assign (v := .bool false) rfl ?_))
        refine RS.nil ?_
        exact T.weakR (hK () trivial) (Weak.mkN [] [] (by decide) (none_kept _) rfl ⟨rn_bool (by simp only [hb_1, hb_2, Bool.true_or, Bool.or_true, Bool.false_or, Bool.or_false, Bool.true_and, Bool.and_true, Bool.false_and, Bool.and_false, Bool.not_true, Bool.not_false, if_true, if_false, Bool.false_eq_true, reduceIte]), trivial⟩ (rw_nil))
theorem net_look_c (p0 : Net) (r : (List Ends) × Int) (h : net_look p0 = some r) : FnO Try.prog 67 [.agg [.sl (List.map encNode p0.Nodes), .int .i64 p0.Rings, .int .i64 p0.Room]] (.tup [.ref 0, .int .i64 r.2]) [.arr 121 2 (List.map encEnds r.1)] := by
  unfold net_look at h
  refine fn_of_T (N := 0) rfl Try.func67 rfl (by kernel_rfl) Try.ntmps67 rfl ?_
  show T _ _ _ _ (mkA 197 [(0, .agg [.sl (List.map encNode p0.Nodes), .int .i64 p0.Rings, .int .i64 p0.Room])]) []
  refine T.seq ?_
  refine T.region ?_
  refine RS.op rfl (o_box (cs := [.sl (List.map encNode p0.Nodes), .int .i64 p0.Rings, .int .i64 p0.Room]) rfl rfl (aw' := [.box [.sl (List.map encNode p0.Nodes), .int .i64 p0.Rings, .int .i64 p0.Room]]) rfl ?_)
  refine RS.op rfl (OP.q rfl (v_assign (v := .nils) rfl ?_))
  refine RS.op rfl (OP.q rfl (v_assign (v := .int .i64 0) rfl ?_))
  refine RS.nil ?_
  refine T.seq ?_
  refine T.join (Z := Unit) (fun _ => mkA 197 [(1, .ptr 0 0), (36, .bool ((decide (((p0.Nodes).length : Int) < 1)) || ((decide (((p0.Nodes).length : Int) > 12)) || ((decide (p0.Rings < 0)) || decide (p0.Rings > 16)))))]) (fun _ => [.box [.sl (List.map encNode p0.Nodes), .int .i64 p0.Rings, .int .i64 p0.Room]]) (fun _ => True) (fun _ _ => ?_) (fun hK => ?_)
  · show T _ _ _ _ (mkA 197 [(1, .ptr 0 0), (36, .bool ((decide (((p0.Nodes).length : Int) < 1)) || ((decide (((p0.Nodes).length : Int) > 12)) || ((decide (p0.Rings < 0)) || decide (p0.Rings > 16)))))]) [.box [.sl (List.map encNode p0.Nodes), .int .i64 p0.Rings, .int .i64 p0.Room]]
    refine T.cond (b := ((decide (((p0.Nodes).length : Int) < 1)) || ((decide (((p0.Nodes).length : Int) > 12)) || ((decide (p0.Rings < 0)) || decide (p0.Rings > 16))))) rfl (fun hb_4 => ?_) (fun hb_4 => ?_)
    · replace h := ite_T h hb_4
      refine T.seq ?_
      refine T.region ?_
      refine RS.op rfl (OP.q rfl (v_assign (v := .nils) rfl ?_))
      refine RS.op rfl (OP.q rfl (v_assign (v := .int .i64 2) rfl ?_))
      refine RS.nil ?_
      refine T.ret' (R := ?R5) ?hq5 ?_
      case hq5 => repeat (first | exact RetIs.base | refine RetIs.thn ?_ | refine RetIs.blk ?_ | refine RetIs.lq ?_)
      refine res_tmpA (v := .nils) rfl ?_
      refine res_tmpA (v := .int .i64 2) rfl ?_
      refine res_done ?_
      exact ret_own (.tup [.ref 0, .int .i64 r.2]) [(0, 121, 2)] [1] (by decide) (none_kept _) rfl (rn_tup ⟨rn_ref rfl, rn_int (congrArg (fun r : (List Ends) × Int => r.2) (Option.some.inj h)).symm, trivial⟩) (rw_arr (en := encEnds) (ys := []) rfl encEnds_p (congrArg (fun r : (List Ends) × Int => r.1) (Option.some.inj h)).symm (rw_nil)) ⟨rfl, rfl⟩
    · replace h := ite_F h hb_4
      refine T.skip ?_
      refine T.seq ?_
      refine T.join (Z := Unit) (fun _ => mkA 197 [(1, .ptr 0 0), (44, .bool ((decide (p0.Room < 1)) || decide (p0.Room > 6)))]) (fun _ => [.box [.sl (List.map encNode p0.Nodes), .int .i64 p0.Rings, .int .i64 p0.Room]]) (fun _ => True) (fun _ _ => ?_) (fun hK => ?_)
      · show T _ _ _ _ (mkA 197 [(1, .ptr 0 0), (44, .bool ((decide (p0.Room < 1)) || decide (p0.Room > 6)))]) [.box [.sl (List.map encNode p0.Nodes), .int .i64 p0.Rings, .int .i64 p0.Room]]
        refine T.cond (b := ((decide (p0.Room < 1)) || decide (p0.Room > 6))) rfl (fun hb_7 => ?_) (fun hb_7 => ?_)
        · replace h := ite_T h hb_7
          refine T.seq ?_
          refine T.region ?_
          refine RS.op rfl (OP.q rfl (v_assign (v := .nils) rfl ?_))
          refine RS.op rfl (OP.q rfl (v_assign (v := .int .i64 3) rfl ?_))
          refine RS.nil ?_
          refine T.ret' (R := ?R8) ?hq8 ?_
          case hq8 => repeat (first | exact RetIs.base | refine RetIs.thn ?_ | refine RetIs.blk ?_ | refine RetIs.lq ?_)
          refine res_tmpA (v := .nils) rfl ?_
          refine res_tmpA (v := .int .i64 3) rfl ?_
          refine res_done ?_
          exact ret_own (.tup [.ref 0, .int .i64 r.2]) [(0, 121, 2)] [1] (by decide) (none_kept _) rfl (rn_tup ⟨rn_ref rfl, rn_int (congrArg (fun r : (List Ends) × Int => r.2) (Option.some.inj h)).symm, trivial⟩) (rw_arr (en := encEnds) (ys := []) rfl encEnds_p (congrArg (fun r : (List Ends) × Int => r.1) (Option.some.inj h)).symm (rw_nil)) ⟨rfl, rfl⟩
        · replace h := ite_F h hb_7
          refine T.skip ?_
          refine T.seq ?_
          obtain ⟨x4, hx4, h⟩ := bind_some h
          refine T.region ?_
          refine RS.op rfl (OP.q rfl (v_build (cs := [.int .i64 (-1), .int .i64 (-1)]) Ty.z121 Ty.p121 rfl ?_))
          refine RS.op rfl (o_buildSlice (rows := List.map encEnds [(⟨(-1), (-1)⟩ : Ends)]) (vs := [.agg [.int .i64 (-1), .int .i64 (-1)]]) Ty.s115 Ty.z121 rfl rfl rfl rfl rfl (aw' := [.box [.sl (List.map encNode p0.Nodes), .int .i64 p0.Rings, .int .i64 p0.Room], .arr 121 2 (List.map encEnds [(⟨(-1), (-1)⟩ : Ends)])]) rfl ?_)
          refine RS.op rfl (OP.q rfl (v_fieldAddr_ptr Ty.f56_1 rfl (off' := 1) rfl ?_))
          refine RS.op rfl (o_load_ptr rfl rfl (loadRow1 Ty.k3 (c := .int .i64 p0.Rings) rfl ?_))
          refine RS.op rfl (o_call (as0 := [.ref 1, .int .i64 p0.Rings]) (as1 := [.sl (List.map encEnds ([(⟨(-1), (-1)⟩ : Ends)] : List Ends)), .int .i64 p0.Rings]) (caps := []) (aw1 := [.box [.sl (List.map encNode p0.Nodes), .int .i64 p0.Rings, .int .i64 p0.Room], .dead]) rfl rfl rfl (k_own' (v := .ref 0) (obs := [.arr 121 2 (List.map encEnds x4)]) (v' := .ref 2) (aw' := [.box [.sl (List.map encNode p0.Nodes), .int .i64 p0.Rings, .int .i64 p0.Room], .arr 121 2 (List.map encEnds [(⟨(-1), (-1)⟩ : Ends)]), .arr 121 2 (List.map encEnds x4)]) (slices_Repeat_ends_c ([(⟨(-1), (-1)⟩ : Ends)] : List Ends) p0.Rings x4 hx4) (⟨pure_map encEnds_p _, pure_int _ _, trivial⟩) rfl (obs_cons (flatOb_map fun _ => rfl) obs_nil) rfl rfl ?_))
          refine RS.op rfl (OP.q rfl (v_assign (v := .ref 2) rfl ?_))
          refine RS.nil ?_
          refine T.seq ?_
          refine T.region ?_
          refine RS.op rfl (OP.q rfl (v_assign (v := .int .i64 0) rfl ?_))
          refine RS.nil ?_
          refine T.seq ?_
          refine T.seq ?_
          refine T.region ?_
          refine RS.op rfl (OP.q rfl (v_fieldAddr_ptr Ty.f56_0 rfl (off' := 0) rfl ?_))
          refine RS.op rfl (o_load_ptr rfl rfl (loadRow1 Ty.k54 (c := .sl (List.map encNode p0.Nodes)) rfl ?_))
          refine RS.op rfl (OP.q rfl (v_len_sl Ty.s54 rfl ?_))
          refine RS.op rfl (OP.q rfl (v_move (v := .int .i64 0) rfl ?_))
          refine RS.nil ?_
          refine T.block ?_
          refine T.iter (fun ss_155 : Int × Int × (List Ends) => mkA 197 [(1, .ptr 0 0), (4, .ref 1), (5, .int .i64 ss_155.1), (51, .sl (List.map encNode p0.Nodes)), (52, .int .i64 ((p0.Nodes).length : Int)), (53, .int .i64 ss_155.2.1)]) (fun ss_155 => [.box [.sl (List.map encNode p0.Nodes), .int .i64 p0.Rings, .int .i64 p0.Room], .arr 121 2 (List.map encEnds ss_155.2.2)]) h (Weak.mkN [] [0, 2] (by decide) (none_kept _) rfl ⟨rn_ptr rfl, rn_ref rfl, rn_int rfl, rn_sl encNode_p rfl, rn_int rfl, rn_int rfl, trivial⟩ (rw_box (cs := [.sl (List.map encNode p0.Nodes), .int .i64 p0.Rings, .int .i64 p0.Room]) (ds := [.sl (List.map encNode p0.Nodes), .int .i64 p0.Rings, .int .i64 p0.Room]) rfl ⟨rn_sl encNode_p rfl, rn_int rfl, rn_int rfl, trivial⟩ (rw_arr rfl encEnds_p rfl (rw_nil)))) (fun ss_155 v_156 h hv_156 => ?_)
          obtain ⟨s5, s6, s7⟩ := ss_155
          replace h : net_look_l5 p0 s5 s6 s7 = some v_156 := h
          show T _ _ _ _ (mkA 197 [(1, .ptr 0 0), (4, .ref 1), (5, .int .i64 s5), (51, .sl (List.map encNode p0.Nodes)), (52, .int .i64 ((p0.Nodes).length : Int)), (53, .int .i64 s6)]) [.box [.sl (List.map encNode p0.Nodes), .int .i64 p0.Rings, .int .i64 p0.Room], .arr 121 2 (List.map encEnds s7)]
          unfold net_look_l5 at h
          refine T.seq ?_
          refine T.region ?_
          refine RS.op rfl (OP.q rfl (v_lss rfl rfl ?_))
          refine RS.nil ?_
          refine T.seq ?_
          refine T.cond (b := decide (s6 < ((p0.Nodes).length : Int))) rfl (fun hb_157 => ?_) (fun hb_157 => ?_)
          · replace h := ite_T h hb_157
            refine T.skip ?_
            refine T.seq ?_
            refine T.block ?_
            refine T.seq ?_
            obtain ⟨x9, hx9, h⟩ := bind_some h
            refine T.region ?_
            refine RS.op rfl (OP.q rfl (v_move (v := .int .i64 s6) rfl ?_))
            refine RS.op rfl (OP.q rfl (v_index_sl Ty.s54 (fun _ => rfl) rfl rfl hx9 ?_))
            refine RS.op rfl (o_load_elt rfl (loadRowA Ty.k67 Ty.c67 rfl (cs := [.int .i64 x9.Kind, .int .i64 x9.A, .sl (List.map encI x9.In), .sl (List.map encI x9.Out)]) rfl ?_))
            refine RS.op rfl (o_alloc Ty.z67 rfl (aw' := [.box [.sl (List.map encNode p0.Nodes), .int .i64 p0.Rings, .int .i64 p0.Room], .arr 121 2 (List.map encEnds s7), .box [.int .i64 0, .int .i64 0, .nils, .nils]]) rfl ?_)
            refine RS.op rfl (OP.q rfl (v_assign (v := .int .i64 s6) rfl ?_))
            refine RS.op rfl (o_store_ptr Ty.c67 Ty.i67 rfl (vs := [.int .i64 x9.Kind, .int .i64 x9.A, .sl (List.map encI x9.In), .sl (List.map encI x9.Out)]) rfl rfl rfl rfl (cs' := [.int .i64 x9.Kind, .int .i64 x9.A, .sl (List.map encI x9.In), .sl (List.map encI x9.Out)]) rfl (aw' := [.box [.sl (List.map encNode p0.Nodes), .int .i64 p0.Rings, .int .i64 p0.Room], .arr 121 2 (List.map encEnds s7), .box [.int .i64 x9.Kind, .int .i64 x9.A, .sl (List.map encI x9.In), .sl (List.map encI x9.Out)]]) rfl ?_)
            refine RS.nil ?_
            refine T.seq ?_
            obtain ⟨x11, hx11, h⟩ := bind_some h
            refine T.region ?_
            refine RS.op rfl (OP.q rfl (v_fieldAddr_ptr Ty.f67_0 rfl (off' := 0) rfl ?_))
            refine RS.op rfl (o_load_ptr rfl rfl (loadRow1 Ty.k3 (c := .int .i64 x9.Kind) rfl ?_))
            refine RS.op rfl (o_call (as0 := [.int .i64 x9.Kind]) (as1 := [.int .i64 x9.Kind]) (caps := []) (aw1 := [.box [.sl (List.map encNode p0.Nodes), .int .i64 p0.Rings, .int .i64 p0.Room], .arr 121 2 (List.map encEnds s7), .box [.int .i64 x9.Kind, .int .i64 x9.A, .sl (List.map encI x9.In), .sl (List.map encI x9.Out)]]) rfl rfl rfl (k_flat (v := .tup [.int .i64 x11.1, .int .i64 x11.2.1, .bool x11.2.2]) (net_arity_c x9.Kind x11 hx11) (⟨pure_int _ _, trivial⟩) rfl ?_))
            refine RS.op rfl (OP.q rfl (v_move (v := .tup [.int .i64 x11.1, .int .i64 x11.2.1, .bool x11.2.2]) rfl ?_))
            refine RS.op rfl (OP.q rfl (v_extract (v := .int .i64 x11.1) rfl rfl ?_))
            refine RS.op rfl (OP.q rfl (v_extract (v := .int .i64 x11.2.1) rfl rfl ?_))
            refine RS.op rfl (OP.q rfl (v_extract (v := .bool x11.2.2) rfl rfl ?_))
            refine RS.op rfl (OP.q rfl (v_assign (v := .int .i64 x11.1) rfl ?_))
            refine RS.op rfl (OP.q rfl (v_assign (v := .int .i64 x11.2.1) rfl ?_))
            refine RS.op rfl (OP.q rfl (v_assign (v := .bool x11.2.2) rfl ?_))
            refine RS.nil ?_
            refine T.seq ?_
            refine T.seq ?_
            refine T.region ?_
            refine RS.op rfl (OP.q rfl (v_move (v := .bool x11.2.2) rfl ?_))
            refine RS.op rfl (OP.q rfl (v_not rfl ?_))
            refine RS.nil ?_
            refine T.cond (b := !x11.2.2) rfl (fun hb_158 => ?_) (fun hb_158 => ?_)
            · replace h := ite_T h hb_158
              refine T.seq ?_
              refine T.region ?_
              refine RS.op rfl (OP.q rfl (v_assign (v := .nils) rfl ?_))
              refine RS.op rfl (OP.q rfl (v_assign (v := .int .i64 5) rfl ?_))
              refine RS.nil ?_
              refine T.ret' (R := ?R159) ?hq159 ?_
              case hq159 => repeat (first | exact RetIs.base | refine RetIs.thn ?_ | refine RetIs.blk ?_ | refine RetIs.lq ?_)
              obtain ⟨w_160, h, hw_160⟩ := map_inr h
              replace h := h.trans (congrArg some (hv_156 _ hw_160))
              refine res_tmpA (v := .nils) rfl ?_
              refine res_tmpA (v := .int .i64 5) rfl ?_
              refine res_done ?_
              exact ret_own (.tup [.ref 0, .int .i64 r.2]) [(0, 121, 2)] [3] (by decide) (none_kept _) rfl (rn_tup ⟨rn_ref rfl, rn_int (congrArg (fun r : (List Ends) × Int => r.2) (Option.some.inj h)).symm, trivial⟩) (rw_arr (en := encEnds) (ys := []) rfl encEnds_p (congrArg (fun r : (List Ends) × Int => r.1) (Option.some.inj h)).symm (rw_nil)) ⟨rfl, rfl⟩
            · replace h := ite_F h hb_158
              refine T.skip ?_
              refine T.seq ?_
              obtain ⟨x12, hx12, h⟩ := bind_some h
              obtain ⟨zt_162, hz, h⟩ := bind_some h
              revert hz h; revert zt_162; intro c14 hz h
              refine T.join (Z := Unit) (fun _ => mkA 197 [(1, .ptr 0 0), (4, .ref 1), (5, .int .i64 s5), (6, .int .i64 s6), (7, .ptr 2 0), (51, .sl (List.map encNode p0.Nodes)), (52, .int .i64 ((p0.Nodes).length : Int)), (53, .int .i64 s6), (80, .bool c14)]) (fun _ => [.box [.sl (List.map encNode p0.Nodes), .int .i64 p0.Rings, .int .i64 p0.Room], .arr 121 2 (List.map encEnds s7), .box [.int .i64 x9.Kind, .int .i64 x9.A, .sl (List.map encI x9.In), .sl (List.map encI x9.Out)]]) (fun _ => True) (fun _ _ => ?_) (fun hK => ?_)
              · show T _ _ _ _ (mkA 197 [(1, .ptr 0 0), (4, .ref 1), (5, .int .i64 s5), (6, .int .i64 s6), (7, .ptr 2 0), (51, .sl (List.map encNode p0.Nodes)), (52, .int .i64 ((p0.Nodes).length : Int)), (53, .int .i64 s6), (80, .bool c14)]) [.box [.sl (List.map encNode p0.Nodes), .int .i64 p0.Rings, .int .i64 p0.Room], .arr 121 2 (List.map encEnds s7), .box [.int .i64 x9.Kind, .int .i64 x9.A, .sl (List.map encI x9.In), .sl (List.map encI x9.Out)]]
                refine T.cond (b := c14) rfl (fun hb_163 => ?_) (fun hb_163 => ?_)
                · replace h := ite_T h hb_163
                  refine T.seq ?_
                  refine T.region ?_
                  refine RS.op rfl (OP.q rfl (v_assign (v := .nils) rfl ?_))
                  refine RS.op rfl (OP.q rfl (v_assign (v := .int .i64 4) rfl ?_))
                  refine RS.nil ?_
                  refine T.ret' (R := ?R164) ?hq164 ?_
                  case hq164 => repeat (first | exact RetIs.base | refine RetIs.thn ?_ | refine RetIs.blk ?_ | refine RetIs.lq ?_)
                  obtain ⟨w_165, h, hw_165⟩ := map_inr h
                  replace h := h.trans (congrArg some (hv_156 _ hw_165))
                  refine res_tmpA (v := .nils) rfl ?_
                  refine res_tmpA (v := .int .i64 4) rfl ?_
                  refine res_done ?_
                  exact ret_own (.tup [.ref 0, .int .i64 r.2]) [(0, 121, 2)] [3] (by decide) (none_kept _) rfl (rn_tup ⟨rn_ref rfl, rn_int (congrArg (fun r : (List Ends) × Int => r.2) (Option.some.inj h)).symm, trivial⟩) (rw_arr (en := encEnds) (ys := []) rfl encEnds_p (congrArg (fun r : (List Ends) × Int => r.1) (Option.some.inj h)).symm (rw_nil)) ⟨rfl, rfl⟩
                · replace h := ite_F h hb_163
                  refine T.skip ?_
                  refine T.seq ?_
                  refine T.join (Z := Unit) (fun _ => mkA 197 [(1, .ptr 0 0), (4, .ref 1), (5, .int .i64 s5), (6, .int .i64 s6), (7, .ptr 2 0), (51, .sl (List.map encNode p0.Nodes)), (52, .int .i64 ((p0.Nodes).length : Int)), (53, .int .i64 s6), (118, .bool ((decide (x9.A < 0)) || (if (x9.Kind == 1) = true then ((decide (x9.A ≥ 4)) || (if (x9.Kind == 2) = true then ((decide (x9.A > 3)) || ((x9.Kind != 1) && ((x9.Kind != 2) && x9.A != 0))) else ((x9.Kind != 1) && ((x9.Kind != 2) && x9.A != 0)))) else (if (x9.Kind == 2) = true then ((decide (x9.A > 3)) || ((x9.Kind != 1) && ((x9.Kind != 2) && x9.A != 0))) else ((x9.Kind != 1) && ((x9.Kind != 2) && x9.A != 0))))))]) (fun _ => [.box [.sl (List.map encNode p0.Nodes), .int .i64 p0.Rings, .int .i64 p0.Room], .arr 121 2 (List.map encEnds s7), .box [.int .i64 x9.Kind, .int .i64 x9.A, .sl (List.map encI x9.In), .sl (List.map encI x9.Out)]]) (fun _ => True) (fun _ _ => ?_) (fun hK => ?_)
                  · show T _ _ _ _ (mkA 197 [(1, .ptr 0 0), (4, .ref 1), (5, .int .i64 s5), (6, .int .i64 s6), (7, .ptr 2 0), (51, .sl (List.map encNode p0.Nodes)), (52, .int .i64 ((p0.Nodes).length : Int)), (53, .int .i64 s6), (118, .bool ((decide (x9.A < 0)) || (if (x9.Kind == 1) = true then ((decide (x9.A ≥ 4)) || (if (x9.Kind == 2) = true then ((decide (x9.A > 3)) || ((x9.Kind != 1) && ((x9.Kind != 2) && x9.A != 0))) else ((x9.Kind != 1) && ((x9.Kind != 2) && x9.A != 0)))) else (if (x9.Kind == 2) = true then ((decide (x9.A > 3)) || ((x9.Kind != 1) && ((x9.Kind != 2) && x9.A != 0))) else ((x9.Kind != 1) && ((x9.Kind != 2) && x9.A != 0))))))]) [.box [.sl (List.map encNode p0.Nodes), .int .i64 p0.Rings, .int .i64 p0.Room], .arr 121 2 (List.map encEnds s7), .box [.int .i64 x9.Kind, .int .i64 x9.A, .sl (List.map encI x9.In), .sl (List.map encI x9.Out)]]
                    refine T.cond (b := ((decide (x9.A < 0)) || (if (x9.Kind == 1) = true then ((decide (x9.A ≥ 4)) || (if (x9.Kind == 2) = true then ((decide (x9.A > 3)) || ((x9.Kind != 1) && ((x9.Kind != 2) && x9.A != 0))) else ((x9.Kind != 1) && ((x9.Kind != 2) && x9.A != 0)))) else (if (x9.Kind == 2) = true then ((decide (x9.A > 3)) || ((x9.Kind != 1) && ((x9.Kind != 2) && x9.A != 0))) else ((x9.Kind != 1) && ((x9.Kind != 2) && x9.A != 0)))))) rfl (fun hb_181 => ?_) (fun hb_181 => ?_)
                    · replace h := ite_T h hb_181
                      refine T.seq ?_
                      refine T.region ?_
                      refine RS.op rfl (OP.q rfl (v_assign (v := .nils) rfl ?_))
                      refine RS.op rfl (OP.q rfl (v_assign (v := .int .i64 3) rfl ?_))
                      refine RS.nil ?_
                      refine T.ret' (R := ?R182) ?hq182 ?_
                      case hq182 => repeat (first | exact RetIs.base | refine RetIs.thn ?_ | refine RetIs.blk ?_ | refine RetIs.lq ?_)
                      obtain ⟨w_183, h, hw_183⟩ := map_inr h
                      replace h := h.trans (congrArg some (hv_156 _ hw_183))
                      refine res_tmpA (v := .nils) rfl ?_
                      refine res_tmpA (v := .int .i64 3) rfl ?_
                      refine res_done ?_
                      exact ret_own (.tup [.ref 0, .int .i64 r.2]) [(0, 121, 2)] [3] (by decide) (none_kept _) rfl (rn_tup ⟨rn_ref rfl, rn_int (congrArg (fun r : (List Ends) × Int => r.2) (Option.some.inj h)).symm, trivial⟩) (rw_arr (en := encEnds) (ys := []) rfl encEnds_p (congrArg (fun r : (List Ends) × Int => r.1) (Option.some.inj h)).symm (rw_nil)) ⟨rfl, rfl⟩
                    · replace h := ite_F h hb_181
                      refine T.skip ?_
                      refine T.join (Z := Int) (fun zz_185 => mkA 197 [(1, .ptr 0 0), (4, .ref 1), (5, .int .i64 zz_185), (6, .int .i64 s6), (7, .ptr 2 0), (51, .sl (List.map encNode p0.Nodes)), (52, .int .i64 ((p0.Nodes).length : Int)), (53, .int .i64 s6)]) (fun zz_185 => [.box [.sl (List.map encNode p0.Nodes), .int .i64 p0.Rings, .int .i64 p0.Room], .arr 121 2 (List.map encEnds s7), .box [.int .i64 x9.Kind, .int .i64 x9.A, .sl (List.map encI x9.In), .sl (List.map encI x9.Out)]]) (fun zz_185 => net_look_k3 p0 s6 s7 x9 zz_185 = some v_156) (fun zz_185 h => ?_) (fun hK3 => ?_)
                      · revert h; revert zz_185; intro z15 h
                        replace h : net_look_k3 p0 s6 s7 x9 z15 = some v_156 := h
                        show T _ _ _ _ (mkA 197 [(1, .ptr 0 0), (4, .ref 1), (5, .int .i64 z15), (6, .int .i64 s6), (7, .ptr 2 0), (51, .sl (List.map encNode p0.Nodes)), (52, .int .i64 ((p0.Nodes).length : Int)), (53, .int .i64 s6)]) [.box [.sl (List.map encNode p0.Nodes), .int .i64 p0.Rings, .int .i64 p0.Room], .arr 121 2 (List.map encEnds s7), .box [.int .i64 x9.Kind, .int .i64 x9.A, .sl (List.map encI x9.In), .sl (List.map encI x9.Out)]]
                        unfold net_look_k3 at h
                        refine T.seq ?_
                        refine T.seq ?_
                        refine T.region ?_
                        refine RS.op rfl (OP.q rfl (v_fieldAddr_ptr Ty.f67_2 rfl (off' := 2) rfl ?_))
                        refine RS.op rfl (o_load_ptr rfl rfl (loadRow1 Ty.k57 (c := .sl (List.map encI x9.In)) rfl ?_))
                        refine RS.op rfl (OP.q rfl (v_len_sl Ty.s57 rfl ?_))
                        refine RS.op rfl (OP.q rfl (v_move (v := .int .i64 0) rfl ?_))
                        refine RS.nil ?_
                        refine T.block ?_
                        refine T.iter (fun ss_198 : Int × (List Ends) => mkA 197 [(1, .ptr 0 0), (4, .ref 1), (5, .int .i64 z15), (6, .int .i64 s6), (7, .ptr 2 0), (51, .sl (List.map encNode p0.Nodes)), (52, .int .i64 ((p0.Nodes).length : Int)), (53, .int .i64 s6), (125, .sl (List.map encI x9.In)), (126, .int .i64 ((x9.In).length : Int)), (127, .int .i64 ss_198.1)]) (fun ss_198 => [.box [.sl (List.map encNode p0.Nodes), .int .i64 p0.Rings, .int .i64 p0.Room], .arr 121 2 (List.map encEnds ss_198.2), .box [.int .i64 x9.Kind, .int .i64 x9.A, .sl (List.map encI x9.In), .sl (List.map encI x9.Out)]]) h (Weak.mkN [] [0, 1, 2] (by decide) (none_kept _) rfl ⟨rn_ptr rfl, rn_ref rfl, rn_int rfl, rn_int rfl, rn_ptr rfl, rn_sl encNode_p rfl, rn_int rfl, rn_int rfl, rn_sl encI_p rfl, rn_int rfl, rn_int rfl, trivial⟩ (rw_box (cs := [.sl (List.map encNode p0.Nodes), .int .i64 p0.Rings, .int .i64 p0.Room]) (ds := [.sl (List.map encNode p0.Nodes), .int .i64 p0.Rings, .int .i64 p0.Room]) rfl ⟨rn_sl encNode_p rfl, rn_int rfl, rn_int rfl, trivial⟩ (rw_arr rfl encEnds_p rfl (rw_box (cs := [.int .i64 x9.Kind, .int .i64 x9.A, .sl (List.map encI x9.In), .sl (List.map encI x9.Out)]) (ds := [.int .i64 x9.Kind, .int .i64 x9.A, .sl (List.map encI x9.In), .sl (List.map encI x9.Out)]) rfl ⟨rn_int rfl, rn_int rfl, rn_sl encI_p rfl, rn_sl encI_p rfl, trivial⟩ (rw_nil))))) (fun ss_198 v_199 h hv_199 => ?_)
                        obtain ⟨s16, s17⟩ := ss_198
                        replace h : net_look_l2 p0 s6 x9 z15 s16 s17 = some v_199 := h
                        show T _ _ _ _ (mkA 197 [(1, .ptr 0 0), (4, .ref 1), (5, .int .i64 z15), (6, .int .i64 s6), (7, .ptr 2 0), (51, .sl (List.map encNode p0.Nodes)), (52, .int .i64 ((p0.Nodes).length : Int)), (53, .int .i64 s6), (125, .sl (List.map encI x9.In)), (126, .int .i64 ((x9.In).length : Int)), (127, .int .i64 s16)]) [.box [.sl (List.map encNode p0.Nodes), .int .i64 p0.Rings, .int .i64 p0.Room], .arr 121 2 (List.map encEnds s17), .box [.int .i64 x9.Kind, .int .i64 x9.A, .sl (List.map encI x9.In), .sl (List.map encI x9.Out)]]
                        unfold net_look_l2 at h
                        refine T.seq ?_
                        refine T.region ?_
                        refine RS.op rfl (OP.q rfl (v_lss rfl rfl ?_))
                        refine RS.nil ?_
                        refine T.seq ?_
                        refine T.cond (b := decide (s16 < ((x9.In).length : Int))) rfl (fun hb_200 => ?_) (fun hb_200 => ?_)
                        · replace h := ite_T h hb_200
                          refine T.skip ?_
                          refine T.seq ?_
                          refine T.block ?_
                          refine T.seq ?_
                          obtain ⟨x19, hx19, h⟩ := bind_some h
                          refine T.region ?_
                          refine RS.op rfl (OP.q rfl (v_index_sl Ty.s57 (fun _ => rfl) rfl rfl hx19 ?_))
                          refine RS.op rfl (o_load_elt rfl (loadRow1 Ty.k3 (c := .int .i64 x19) rfl ?_))
                          refine RS.op rfl (OP.q rfl (v_assign (v := .int .i64 x19) rfl ?_))
                          refine RS.nil ?_
                          refine T.seq ?_
                          refine T.join (Z := Unit) (fun _ => mkA 197 [(1, .ptr 0 0), (4, .ref 1), (5, .int .i64 z15), (6, .int .i64 s6), (7, .ptr 2 0), (12, .int .i64 x19), (51, .sl (List.map encNode p0.Nodes)), (52, .int .i64 ((p0.Nodes).length : Int)), (53, .int .i64 s6), (125, .sl (List.map encI x9.In)), (126, .int .i64 ((x9.In).length : Int)), (127, .int .i64 s16), (138, .bool ((decide (x19 < 0)) || decide (x19 ≥ p0.Rings)))]) (fun _ => [.box [.sl (List.map encNode p0.Nodes), .int .i64 p0.Rings, .int .i64 p0.Room], .arr 121 2 (List.map encEnds s17), .box [.int .i64 x9.Kind, .int .i64 x9.A, .sl (List.map encI x9.In), .sl (List.map encI x9.Out)]]) (fun _ => True) (fun _ _ => ?_) (fun hK => ?_)
                          · show T _ _ _ _ (mkA 197 [(1, .ptr 0 0), (4, .ref 1), (5, .int .i64 z15), (6, .int .i64 s6), (7, .ptr 2 0), (12, .int .i64 x19), (51, .sl (List.map encNode p0.Nodes)), (52, .int .i64 ((p0.Nodes).length : Int)), (53, .int .i64 s6), (125, .sl (List.map encI x9.In)), (126, .int .i64 ((x9.In).length : Int)), (127, .int .i64 s16), (138, .bool ((decide (x19 < 0)) || decide (x19 ≥ p0.Rings)))]) [.box [.sl (List.map encNode p0.Nodes), .int .i64 p0.Rings, .int .i64 p0.Room], .arr 121 2 (List.map encEnds s17), .box [.int .i64 x9.Kind, .int .i64 x9.A, .sl (List.map encI x9.In), .sl (List.map encI x9.Out)]]
                            refine T.cond (b := ((decide (x19 < 0)) || decide (x19 ≥ p0.Rings))) rfl (fun hb_202 => ?_) (fun hb_202 => ?_)
                            · replace h := ite_T h hb_202
                              refine T.seq ?_
                              refine T.region ?_
                              refine RS.op rfl (OP.q rfl (v_assign (v := .nils) rfl ?_))
                              refine RS.op rfl (OP.q rfl (v_assign (v := .int .i64 3) rfl ?_))
                              refine RS.nil ?_
                              refine T.ret' (R := ?R203) ?hq203 ?_
                              case hq203 => repeat (first | exact RetIs.base | refine RetIs.thn ?_ | refine RetIs.blk ?_ | refine RetIs.lq ?_)
                              obtain ⟨w_204, h, hw_204⟩ := map_inr h
                              replace h := h.trans (congrArg some (hv_199 _ hw_204))
                              obtain ⟨w_205, h, hw_205⟩ := map_inr h
                              replace h := h.trans (congrArg some (hv_156 _ hw_205))
                              refine res_tmpA (v := .nils) rfl ?_
                              refine res_tmpA (v := .int .i64 3) rfl ?_
                              refine res_done ?_
                              exact ret_own (.tup [.ref 0, .int .i64 r.2]) [(0, 121, 2)] [3] (by decide) (none_kept _) rfl (rn_tup ⟨rn_ref rfl, rn_int (congrArg (fun r : (List Ends) × Int => r.2) (Option.some.inj h)).symm, trivial⟩) (rw_arr (en := encEnds) (ys := []) rfl encEnds_p (congrArg (fun r : (List Ends) × Int => r.1) (Option.some.inj h)).symm (rw_nil)) ⟨rfl, rfl⟩
                            · replace h := ite_F h hb_202
                              refine T.skip ?_
                              refine T.seq ?_
                              refine T.seq ?_
                              obtain ⟨x23, hx23, h⟩ := bind_some h
                              obtain ⟨x24, hx24, h⟩ := bind_some h
                              refine T.region ?_
                              refine RS.op rfl (OP.q rfl (v_move (v := .ref 1) rfl ?_))
                              refine RS.op rfl (OP.q rfl (v_move (v := .int .i64 x19) rfl ?_))
                              refine RS.op rfl (OP.q rfl (v_index_ref' (en := encEnds) Ty.s115 rfl rfl rfl hx23 ?_))
                              refine RS.op rfl (OP.q rfl (v_fieldAddr_aptr Ty.f121_1 rfl (off' := 1) rfl ?_))
                              refine RS.op rfl (o_load_aptr' (en := encEnds) (a := x24) rfl rfl hx24 (loadRow1 Ty.k3 (c := .int .i64 x24.dst) rfl ?_))
                              refine RS.op rfl (OP.q rfl (v_geq rfl rfl ?_))
                              refine RS.nil ?_
                              refine T.cond (b := decide (x24.dst ≥ 0)) rfl (fun hb_206 => ?_) (fun hb_206 => ?_)
                              · replace h := ite_T h hb_206
                                refine T.seq ?_
                                refine T.region ?_
                                refine RS.op rfl (OP.q rfl (v_assign (v := .nils) rfl ?_))
                                refine RS.op rfl (OP.q rfl (v_assign (v := .int .i64 6) rfl ?_))
                                refine RS.nil ?_
                                refine T.ret' (R := ?R207) ?hq207 ?_
                                case hq207 => repeat (first | exact RetIs.base | refine RetIs.thn ?_ | refine RetIs.blk ?_ | refine RetIs.lq ?_)
                                obtain ⟨w_208, h, hw_208⟩ := map_inr h
                                replace h := h.trans (congrArg some (hv_199 _ hw_208))
                                obtain ⟨w_209, h, hw_209⟩ := map_inr h
                                replace h := h.trans (congrArg some (hv_156 _ hw_209))
                                refine res_tmpA (v := .nils) rfl ?_
                                refine res_tmpA (v := .int .i64 6) rfl ?_
                                refine res_done ?_
                                exact ret_own (.tup [.ref 0, .int .i64 r.2]) [(0, 121, 2)] [3] (by decide) (none_kept _) rfl (rn_tup ⟨rn_ref rfl, rn_int (congrArg (fun r : (List Ends) × Int => r.2) (Option.some.inj h)).symm, trivial⟩) (rw_arr (en := encEnds) (ys := []) rfl encEnds_p (congrArg (fun r : (List Ends) × Int => r.1) (Option.some.inj h)).symm (rw_nil)) ⟨rfl, rfl⟩
                              · replace h := ite_F h hb_206
                                refine T.skip ?_
                                obtain ⟨x25, hx25, h⟩ := bind_some h
                                obtain ⟨x26, hx26, h⟩ := bind_some h
                                refine T.region ?_
                                refine RS.op rfl (OP.q rfl (v_move (v := .ref 1) rfl ?_))
                                refine RS.op rfl (OP.q rfl (v_move (v := .int .i64 x19) rfl ?_))
                                refine RS.op rfl (OP.q rfl (v_move (v := .int .i64 s6) rfl ?_))
                                refine RS.op rfl (OP.q rfl (v_index_ref' (en := encEnds) Ty.s115 rfl rfl rfl hx25 ?_))
                                refine RS.op rfl (OP.q rfl (v_fieldAddr_aptr Ty.f121_1 rfl (off' := 1) rfl ?_))
                                refine RS.op rfl (o_store_aptr' (en := encEnds) (a := x26) (a' := (⟨x26.src, s6⟩ : Ends)) Ty.c3 Ty.i3 rfl (vs := [.int .i64 s6]) rfl rfl rfl hx26 rfl rfl (aw' := [.box [.sl (List.map encNode p0.Nodes), .int .i64 p0.Rings, .int .i64 p0.Room], .arr 121 2 (List.map encEnds (List.set s17 x25 (⟨x26.src, s6⟩ : Ends))), .box [.int .i64 x9.Kind, .int .i64 x9.A, .sl (List.map encI x9.In), .sl (List.map encI x9.Out)]]) rfl ?_)
                                refine RS.nil ?_
                                refine T.region ?_
                                refine RS.op rfl (OP.q rfl (v_add rfl rfl ?_))
                                refine RS.op rfl (OP.q rfl (v_move (v := .int .i64 (IntKind.i64.wrap (s16 + 1))) rfl ?_))
                                refine RS.nil ?_
                                exact ⟨(IntKind.i64.wrap (s16 + 1), (List.set s17 x25 (⟨x26.src, s6⟩ : Ends))), (Option.some.inj h).symm, Weak.mkN [] [0, 1, 2] (by decide) (none_kept _) rfl ⟨rn_ptr rfl, rn_ref rfl, rn_int rfl, rn_int rfl, rn_ptr rfl, rn_sl encNode_p rfl, rn_int rfl, rn_int rfl, rn_sl encI_p rfl, rn_int rfl, rn_int rfl, trivial⟩ (rw_box (cs := [.sl (List.map encNode p0.Nodes), .int .i64 p0.Rings, .int .i64 p0.Room]) (ds := [.sl (List.map encNode p0.Nodes), .int .i64 p0.Rings, .int .i64 p0.Room]) rfl ⟨rn_sl encNode_p rfl, rn_int rfl, rn_int rfl, trivial⟩ (rw_arr rfl encEnds_p rfl (rw_box (cs := [.int .i64 x9.Kind, .int .i64 x9.A, .sl (List.map encI x9.In), .sl (List.map encI x9.Out)]) (ds := [.int .i64 x9.Kind, .int .i64 x9.A, .sl (List.map encI x9.In), .sl (List.map encI x9.Out)]) rfl ⟨rn_int rfl, rn_int rfl, rn_sl encI_p rfl, rn_sl encI_p rfl, trivial⟩ (rw_nil))))⟩
                          · refine T.region ?_
                            refine RS.op rfl (OP.q rfl (v_move (v := .int .i64 x19) rfl ?_))
                            refine RS.op rfl (OP.q rfl (v_lss rfl rfl ?_))
                            refine RS.op rfl (OP.q rfl (v_move (v := .bool (decide (x19 < 0))) rfl ?_))
                            rcases bool_cases (decide (x19 < 0)) with hb_201 | hb_201
                            · refine RS.no rfl rfl rfl hb_201 ?_
                              refine RS.no rfl rfl rfl hb_201 ?_
                              refine RS.no rfl rfl rfl hb_201 ?_
                              refine RS.no rfl rfl rfl hb_201 ?_
                              refine RS.op rfl (OP.q rfl (v_pickT (v := .bool true) rfl hb_201 rfl ?_))
                              refine RS.nil ?_
                              exact T.weakR (hK () trivial) (Weak.mkN [] [0, 1, 2] (by decide) (none_kept _) rfl ⟨rn_ptr rfl, rn_ref rfl, rn_int rfl, rn_int rfl, rn_ptr rfl, rn_int rfl, rn_sl encNode_p rfl, rn_int rfl, rn_int rfl, rn_sl encI_p rfl, rn_int rfl, rn_int rfl, rn_bool (by simp only [hb_201, Bool.true_or, Bool.or_true, Bool.false_or, Bool.or_false, Bool.true_and, Bool.and_true, Bool.false_and, Bool.and_false, Bool.not_true, Bool.not_false, if_true, if_false, Bool.false_eq_true, reduceIte]), trivial⟩ (rw_box (cs := [.sl (List.map encNode p0.Nodes), .int .i64 p0.Rings, .int .i64 p0.Room]) (ds := [.sl (List.map encNode p0.Nodes), .int .i64 p0.Rings, .int .i64 p0.Room]) rfl ⟨rn_sl encNode_p rfl, rn_int rfl, rn_int rfl, trivial⟩ (rw_arr rfl encEnds_p rfl (rw_box (cs := [.int .i64 x9.Kind, .int .i64 x9.A, .sl (List.map encI x9.In), .sl (List.map encI x9.Out)]) (ds := [.int .i64 x9.Kind, .int .i64 x9.A, .sl (List.map encI x9.In), .sl (List.map encI x9.Out)]) rfl ⟨rn_int rfl, rn_int rfl, rn_sl encI_p rfl, rn_sl encI_p rfl, trivial⟩ (rw_nil)))))
                            · refine RS.yes rfl rfl rfl hb_201 (OP.q rfl (v_move (v := .int .i64 x19) rfl ?_))
                              refine RS.yes rfl rfl rfl hb_201 (OP.q rfl (v_fieldAddr_ptr Ty.f56_1 rfl (off' := 1) rfl ?_))
                              refine RS.yes rfl rfl rfl hb_201 (o_load_ptr rfl rfl (loadRow1 Ty.k3 (c := .int .i64 p0.Rings) rfl ?_))
                              refine RS.yes rfl rfl rfl hb_201 (OP.q rfl (v_geq rfl rfl ?_))
                              refine RS.op rfl (OP.q rfl (v_pickF (v := .bool (decide (x19 ≥ p0.Rings))) rfl hb_201 rfl ?_))
                              refine RS.nil ?_
                              exact T.weakR (hK () trivial) (Weak.mkN [] [0, 1, 2] (by decide) (none_kept _) rfl ⟨rn_ptr rfl, rn_ref rfl, rn_int rfl, rn_int rfl, rn_ptr rfl, rn_int rfl, rn_sl encNode_p rfl, rn_int rfl, rn_int rfl, rn_sl encI_p rfl, rn_int rfl, rn_int rfl, rn_bool (by simp only [hb_201, Bool.true_or, Bool.or_true, Bool.false_or, Bool.or_false, Bool.true_and, Bool.and_true, Bool.false_and, Bool.and_false, Bool.not_true, Bool.not_false, if_true, if_false, Bool.false_eq_true, reduceIte]), trivial⟩ (rw_box (cs := [.sl (List.map encNode p0.Nodes), .int .i64 p0.Rings, .int .i64 p0.Room]) (ds := [.sl (List.map encNode p0.Nodes), .int .i64 p0.Rings, .int .i64 p0.Room]) rfl ⟨rn_sl encNode_p rfl, rn_int rfl, rn_int rfl, trivial⟩ (rw_arr rfl encEnds_p rfl (rw_box (cs := [.int .i64 x9.Kind, .int .i64 x9.A, .sl (List.map encI x9.In), .sl (List.map encI x9.Out)]) (ds := [.int .i64 x9.Kind, .int .i64 x9.A, .sl (List.map encI x9.In), .sl (List.map encI x9.Out)]) rfl ⟨rn_int rfl, rn_int rfl, rn_sl encI_p rfl, rn_sl encI_p rfl, trivial⟩ (rw_nil)))))
                        · replace h := ite_F h hb_200
                          refine T.exit ?_
                          obtain ⟨w_210, h, hw_210⟩ := map_inr h
                          replace h := h.trans (congrArg some (hv_199 _ hw_210))
                          refine T.seq ?_
                          refine T.region ?_
                          refine RS.op rfl (OP.q rfl (v_fieldAddr_ptr Ty.f67_3 rfl (off' := 3) rfl ?_))
                          refine RS.op rfl (o_load_ptr rfl rfl (loadRow1 Ty.k57 (c := .sl (List.map encI x9.Out)) rfl ?_))
                          refine RS.op rfl (OP.q rfl (v_len_sl Ty.s57 rfl ?_))
                          refine RS.op rfl (OP.q rfl (v_move (v := .int .i64 0) rfl ?_))
                          refine RS.nil ?_
                          refine T.block ?_
                          refine T.iter (fun ss_223 : Int × (List Ends) => mkA 197 [(1, .ptr 0 0), (4, .ref 1), (5, .int .i64 z15), (6, .int .i64 s6), (51, .sl (List.map encNode p0.Nodes)), (52, .int .i64 ((p0.Nodes).length : Int)), (53, .int .i64 s6), (152, .sl (List.map encI x9.Out)), (153, .int .i64 ((x9.Out).length : Int)), (154, .int .i64 ss_223.1)]) (fun ss_223 => [.box [.sl (List.map encNode p0.Nodes), .int .i64 p0.Rings, .int .i64 p0.Room], .arr 121 2 (List.map encEnds ss_223.2)]) h (Weak.mkN [] [0, 1] (by decide) (none_kept _) rfl ⟨rn_ptr rfl, rn_ref rfl, rn_int rfl, rn_int rfl, rn_sl encNode_p rfl, rn_int rfl, rn_int rfl, rn_sl encI_p rfl, rn_int rfl, rn_int rfl, trivial⟩ (rw_box (cs := [.sl (List.map encNode p0.Nodes), .int .i64 p0.Rings, .int .i64 p0.Room]) (ds := [.sl (List.map encNode p0.Nodes), .int .i64 p0.Rings, .int .i64 p0.Room]) rfl ⟨rn_sl encNode_p rfl, rn_int rfl, rn_int rfl, trivial⟩ (rw_arr rfl encEnds_p rfl (rw_nil)))) (fun ss_223 v_224 h hv_224 => ?_)
                          obtain ⟨s27, s28⟩ := ss_223
                          replace h : net_look_l1 p0 s6 x9 z15 s27 s28 = some v_224 := h
                          show T _ _ _ _ (mkA 197 [(1, .ptr 0 0), (4, .ref 1), (5, .int .i64 z15), (6, .int .i64 s6), (51, .sl (List.map encNode p0.Nodes)), (52, .int .i64 ((p0.Nodes).length : Int)), (53, .int .i64 s6), (152, .sl (List.map encI x9.Out)), (153, .int .i64 ((x9.Out).length : Int)), (154, .int .i64 s27)]) [.box [.sl (List.map encNode p0.Nodes), .int .i64 p0.Rings, .int .i64 p0.Room], .arr 121 2 (List.map encEnds s28)]
                          unfold net_look_l1 at h
                          refine T.seq ?_
                          refine T.region ?_
                          refine RS.op rfl (OP.q rfl (v_lss rfl rfl ?_))
                          refine RS.nil ?_
                          refine T.seq ?_
                          refine T.cond (b := decide (s27 < ((x9.Out).length : Int))) rfl (fun hb_225 => ?_) (fun hb_225 => ?_)
                          · replace h := ite_T h hb_225
                            refine T.skip ?_
                            refine T.seq ?_
                            refine T.block ?_
                            refine T.seq ?_
                            obtain ⟨x30, hx30, h⟩ := bind_some h
                            refine T.region ?_
                            refine RS.op rfl (OP.q rfl (v_index_sl Ty.s57 (fun _ => rfl) rfl rfl hx30 ?_))
                            refine RS.op rfl (o_load_elt rfl (loadRow1 Ty.k3 (c := .int .i64 x30) rfl ?_))
                            refine RS.op rfl (OP.q rfl (v_assign (v := .int .i64 x30) rfl ?_))
                            refine RS.nil ?_
                            refine T.seq ?_
                            refine T.join (Z := Unit) (fun _ => mkA 197 [(1, .ptr 0 0), (4, .ref 1), (5, .int .i64 z15), (6, .int .i64 s6), (14, .int .i64 x30), (51, .sl (List.map encNode p0.Nodes)), (52, .int .i64 ((p0.Nodes).length : Int)), (53, .int .i64 s6), (152, .sl (List.map encI x9.Out)), (153, .int .i64 ((x9.Out).length : Int)), (154, .int .i64 s27), (165, .bool ((decide (x30 < 0)) || decide (x30 ≥ p0.Rings)))]) (fun _ => [.box [.sl (List.map encNode p0.Nodes), .int .i64 p0.Rings, .int .i64 p0.Room], .arr 121 2 (List.map encEnds s28)]) (fun _ => True) (fun _ _ => ?_) (fun hK => ?_)
                            · show T _ _ _ _ (mkA 197 [(1, .ptr 0 0), (4, .ref 1), (5, .int .i64 z15), (6, .int .i64 s6), (14, .int .i64 x30), (51, .sl (List.map encNode p0.Nodes)), (52, .int .i64 ((p0.Nodes).length : Int)), (53, .int .i64 s6), (152, .sl (List.map encI x9.Out)), (153, .int .i64 ((x9.Out).length : Int)), (154, .int .i64 s27), (165, .bool ((decide (x30 < 0)) || decide (x30 ≥ p0.Rings)))]) [.box [.sl (List.map encNode p0.Nodes), .int .i64 p0.Rings, .int .i64 p0.Room], .arr 121 2 (List.map encEnds s28)]
                              refine T.cond (b := ((decide (x30 < 0)) || decide (x30 ≥ p0.Rings))) rfl (fun hb_227 => ?_) (fun hb_227 => ?_)
                              · replace h := ite_T h hb_227
                                refine T.seq ?_
                                refine T.region ?_
                                refine RS.op rfl (OP.q rfl (v_assign (v := .nils) rfl ?_))
                                refine RS.op rfl (OP.q rfl (v_assign (v := .int .i64 3) rfl ?_))
                                refine RS.nil ?_
                                refine T.ret' (R := ?R228) ?hq228 ?_
                                case hq228 => repeat (first | exact RetIs.base | refine RetIs.thn ?_ | refine RetIs.blk ?_ | refine RetIs.lq ?_)
                                obtain ⟨w_229, h, hw_229⟩ := map_inr h
                                replace h := h.trans (congrArg some (hv_224 _ hw_229))
                                obtain ⟨w_230, h, hw_230⟩ := map_inr h
                                replace h := h.trans (congrArg some (hv_156 _ hw_230))
                                refine res_tmpA (v := .nils) rfl ?_
                                refine res_tmpA (v := .int .i64 3) rfl ?_
                                refine res_done ?_
                                exact ret_own (.tup [.ref 0, .int .i64 r.2]) [(0, 121, 2)] [2] (by decide) (none_kept _) rfl (rn_tup ⟨rn_ref rfl, rn_int (congrArg (fun r : (List Ends) × Int => r.2) (Option.some.inj h)).symm, trivial⟩) (rw_arr (en := encEnds) (ys := []) rfl encEnds_p (congrArg (fun r : (List Ends) × Int => r.1) (Option.some.inj h)).symm (rw_nil)) ⟨rfl, rfl⟩
                              · replace h := ite_F h hb_227
                                refine T.skip ?_
                                refine T.seq ?_
                                refine T.seq ?_
                                obtain ⟨x34, hx34, h⟩ := bind_some h
                                obtain ⟨x35, hx35, h⟩ := bind_some h
                                refine T.region ?_
                                refine RS.op rfl (OP.q rfl (v_move (v := .ref 1) rfl ?_))
                                refine RS.op rfl (OP.q rfl (v_move (v := .int .i64 x30) rfl ?_))
                                refine RS.op rfl (OP.q rfl (v_index_ref' (en := encEnds) Ty.s115 rfl rfl rfl hx34 ?_))
                                refine RS.op rfl (OP.q rfl (v_fieldAddr_aptr Ty.f121_0 rfl (off' := 0) rfl ?_))
                                refine RS.op rfl (o_load_aptr' (en := encEnds) (a := x35) rfl rfl hx35 (loadRow1 Ty.k3 (c := .int .i64 x35.src) rfl ?_))
                                refine RS.op rfl (OP.q rfl (v_geq rfl rfl ?_))
                                refine RS.nil ?_
                                refine T.cond (b := decide (x35.src ≥ 0)) rfl (fun hb_231 => ?_) (fun hb_231 => ?_)
                                · replace h := ite_T h hb_231
                                  refine T.seq ?_
                                  refine T.region ?_
                                  refine RS.op rfl (OP.q rfl (v_assign (v := .nils) rfl ?_))
                                  refine RS.op rfl (OP.q rfl (v_assign (v := .int .i64 6) rfl ?_))
                                  refine RS.nil ?_
                                  refine T.ret' (R := ?R232) ?hq232 ?_
                                  case hq232 => repeat (first | exact RetIs.base | refine RetIs.thn ?_ | refine RetIs.blk ?_ | refine RetIs.lq ?_)
                                  obtain ⟨w_233, h, hw_233⟩ := map_inr h
                                  replace h := h.trans (congrArg some (hv_224 _ hw_233))
                                  obtain ⟨w_234, h, hw_234⟩ := map_inr h
                                  replace h := h.trans (congrArg some (hv_156 _ hw_234))
                                  refine res_tmpA (v := .nils) rfl ?_
                                  refine res_tmpA (v := .int .i64 6) rfl ?_
                                  refine res_done ?_
                                  exact ret_own (.tup [.ref 0, .int .i64 r.2]) [(0, 121, 2)] [2] (by decide) (none_kept _) rfl (rn_tup ⟨rn_ref rfl, rn_int (congrArg (fun r : (List Ends) × Int => r.2) (Option.some.inj h)).symm, trivial⟩) (rw_arr (en := encEnds) (ys := []) rfl encEnds_p (congrArg (fun r : (List Ends) × Int => r.1) (Option.some.inj h)).symm (rw_nil)) ⟨rfl, rfl⟩
                                · replace h := ite_F h hb_231
                                  refine T.skip ?_
                                  obtain ⟨x36, hx36, h⟩ := bind_some h
                                  obtain ⟨x37, hx37, h⟩ := bind_some h
                                  refine T.region ?_
                                  refine RS.op rfl (OP.q rfl (v_move (v := .ref 1) rfl ?_))
                                  refine RS.op rfl (OP.q rfl (v_move (v := .int .i64 x30) rfl ?_))
                                  refine RS.op rfl (OP.q rfl (v_move (v := .int .i64 s6) rfl ?_))
                                  refine RS.op rfl (OP.q rfl (v_index_ref' (en := encEnds) Ty.s115 rfl rfl rfl hx36 ?_))
                                  refine RS.op rfl (OP.q rfl (v_fieldAddr_aptr Ty.f121_0 rfl (off' := 0) rfl ?_))
                                  refine RS.op rfl (o_store_aptr' (en := encEnds) (a := x37) (a' := (⟨s6, x37.dst⟩ : Ends)) Ty.c3 Ty.i3 rfl (vs := [.int .i64 s6]) rfl rfl rfl hx37 rfl rfl (aw' := [.box [.sl (List.map encNode p0.Nodes), .int .i64 p0.Rings, .int .i64 p0.Room], .arr 121 2 (List.map encEnds (List.set s28 x36 (⟨s6, x37.dst⟩ : Ends)))]) rfl ?_)
                                  refine RS.nil ?_
                                  refine T.region ?_
                                  refine RS.op rfl (OP.q rfl (v_add rfl rfl ?_))
                                  refine RS.op rfl (OP.q rfl (v_move (v := .int .i64 (IntKind.i64.wrap (s27 + 1))) rfl ?_))
                                  refine RS.nil ?_
                                  exact ⟨(IntKind.i64.wrap (s27 + 1), (List.set s28 x36 (⟨s6, x37.dst⟩ : Ends))), (Option.some.inj h).symm, Weak.mkN [] [0, 1] (by decide) (none_kept _) rfl ⟨rn_ptr rfl, rn_ref rfl, rn_int rfl, rn_int rfl, rn_sl encNode_p rfl, rn_int rfl, rn_int rfl, rn_sl encI_p rfl, rn_int rfl, rn_int rfl, trivial⟩ (rw_box (cs := [.sl (List.map encNode p0.Nodes), .int .i64 p0.Rings, .int .i64 p0.Room]) (ds := [.sl (List.map encNode p0.Nodes), .int .i64 p0.Rings, .int .i64 p0.Room]) rfl ⟨rn_sl encNode_p rfl, rn_int rfl, rn_int rfl, trivial⟩ (rw_arr rfl encEnds_p rfl (rw_nil)))⟩
                            · refine T.region ?_
                              refine RS.op rfl (OP.q rfl (v_move (v := .int .i64 x30) rfl ?_))
                              refine RS.op rfl (OP.q rfl (v_lss rfl rfl ?_))
                              refine RS.op rfl (OP.q rfl (v_move (v := .bool (decide (x30 < 0))) rfl ?_))
                              rcases bool_cases (decide (x30 < 0)) with hb_226 | hb_226
                              · refine RS.no rfl rfl rfl hb_226 ?_
                                refine RS.no rfl rfl rfl hb_226 ?_
                                refine RS.no rfl rfl rfl hb_226 ?_
                                refine RS.no rfl rfl rfl hb_226 ?_
                                refine RS.op rfl (OP.q rfl (v_pickT (v := .bool true) rfl hb_226 rfl ?_))
                                refine RS.nil ?_
                                exact T.weakR (hK () trivial) (Weak.mkN [] [0, 1] (by decide) (none_kept _) rfl ⟨rn_ptr rfl, rn_ref rfl, rn_int rfl, rn_int rfl, rn_int rfl, rn_sl encNode_p rfl, rn_int rfl, rn_int rfl, rn_sl encI_p rfl, rn_int rfl, rn_int rfl, rn_bool (by simp only [hb_226, Bool.true_or, Bool.or_true, Bool.false_or, Bool.or_false, Bool.true_and, Bool.and_true, Bool.false_and, Bool.and_false, Bool.not_true, Bool.not_false, if_true, if_false, Bool.false_eq_true, reduceIte]), trivial⟩ (rw_box (cs := [.sl (List.map encNode p0.Nodes), .int .i64 p0.Rings, .int .i64 p0.Room]) (ds := [.sl (List.map encNode p0.Nodes), .int .i64 p0.Rings, .int .i64 p0.Room]) rfl ⟨rn_sl encNode_p rfl, rn_int rfl, rn_int rfl, trivial⟩ (rw_arr rfl encEnds_p rfl (rw_nil))))
                              · refine RS.yes rfl rfl rfl hb_226 (OP.q rfl (v_move (v := .int .i64 x30) rfl ?_))
                                refine RS.yes rfl rfl rfl hb_226 (OP.q rfl (v_fieldAddr_ptr Ty.f56_1 rfl (off' := 1) rfl ?_))
                                refine RS.yes rfl rfl rfl hb_226 (o_load_ptr rfl rfl (loadRow1 Ty.k3 (c := .int .i64 p0.Rings) rfl ?_))
                                refine RS.yes rfl rfl rfl hb_226 (OP.q rfl (v_geq rfl rfl ?_))
                                refine RS.op rfl (OP.q rfl (v_pickF (v := .bool (decide (x30 ≥ p0.Rings))) rfl hb_226 rfl ?_))
                                refine RS.nil ?_
                                exact T.weakR (hK () trivial) (Weak.mkN [] [0, 1] (by decide) (none_kept _) rfl ⟨rn_ptr rfl, rn_ref rfl, rn_int rfl, rn_int rfl, rn_int rfl, rn_sl encNode_p rfl, rn_int rfl, rn_int rfl, rn_sl encI_p rfl, rn_int rfl, rn_int rfl, rn_bool (by simp only [hb_226, Bool.true_or, Bool.or_true, Bool.false_or, Bool.or_false, Bool.true_and, Bool.and_true, Bool.false_and, Bool.and_false, Bool.not_true, Bool.not_false, if_true, if_false, Bool.false_eq_true, reduceIte]), trivial⟩ (rw_box (cs := [.sl (List.map encNode p0.Nodes), .int .i64 p0.Rings, .int .i64 p0.Room]) (ds := [.sl (List.map encNode p0.Nodes), .int .i64 p0.Rings, .int .i64 p0.Room]) rfl ⟨rn_sl encNode_p rfl, rn_int rfl, rn_int rfl, trivial⟩ (rw_arr rfl encEnds_p rfl (rw_nil))))
                          · replace h := ite_F h hb_225
                            refine T.exit ?_
                            obtain ⟨w_235, h, hw_235⟩ := map_inr h
                            replace h := h.trans (congrArg some (hv_224 _ hw_235))
                            refine T.region ?_
                            refine RS.op rfl (OP.q rfl (v_add rfl rfl ?_))
                            refine RS.op rfl (OP.q rfl (v_move (v := .int .i64 (IntKind.i64.wrap (s6 + 1))) rfl ?_))
                            refine RS.nil ?_
                            exact ⟨(z15, IntKind.i64.wrap (s6 + 1), s28), (Option.some.inj h).symm, Weak.mkN [] [0, 1] (by decide) (none_kept _) rfl ⟨rn_ptr rfl, rn_ref rfl, rn_int rfl, rn_sl encNode_p rfl, rn_int rfl, rn_int rfl, trivial⟩ (rw_box (cs := [.sl (List.map encNode p0.Nodes), .int .i64 p0.Rings, .int .i64 p0.Room]) (ds := [.sl (List.map encNode p0.Nodes), .int .i64 p0.Rings, .int .i64 p0.Room]) rfl ⟨rn_sl encNode_p rfl, rn_int rfl, rn_int rfl, trivial⟩ (rw_arr rfl encEnds_p rfl (rw_nil)))⟩
                      · refine T.seq ?_
                        refine T.region ?_
                        refine RS.op rfl (OP.q rfl (v_fieldAddr_ptr Ty.f67_0 rfl (off' := 0) rfl ?_))
                        refine RS.op rfl (o_load_ptr rfl rfl (loadRow1 Ty.k3 (c := .int .i64 x9.Kind) rfl ?_))
                        refine RS.op rfl (OP.q rfl (v_eql rfl rfl ?_))
                        refine RS.nil ?_
                        refine T.cond (b := x9.Kind == 8) rfl (fun hb_236 => ?_) (fun hb_236 => ?_)
                        · replace h := ite_T h hb_236
                          refine T.region ?_
                          refine RS.op rfl (OP.q rfl (v_move (v := .int .i64 s5) rfl ?_))
                          refine RS.op rfl (OP.q rfl (v_add rfl rfl ?_))
                          refine RS.op rfl (OP.q rfl (v_assign (v := .int .i64 (IntKind.i64.wrap (s5 + 1))) rfl ?_))
                          refine RS.nil ?_
                          exact T.weakR (hK3 (IntKind.i64.wrap (s5 + 1)) h) (Weak.mkN [] [0, 1, 2] (by decide) (none_kept _) rfl ⟨rn_ptr rfl, rn_ref rfl, rn_int rfl, rn_int rfl, rn_ptr rfl, rn_sl encNode_p rfl, rn_int rfl, rn_int rfl, trivial⟩ (rw_box (cs := [.sl (List.map encNode p0.Nodes), .int .i64 p0.Rings, .int .i64 p0.Room]) (ds := [.sl (List.map encNode p0.Nodes), .int .i64 p0.Rings, .int .i64 p0.Room]) rfl ⟨rn_sl encNode_p rfl, rn_int rfl, rn_int rfl, trivial⟩ (rw_arr rfl encEnds_p rfl (rw_box (cs := [.int .i64 x9.Kind, .int .i64 x9.A, .sl (List.map encI x9.In), .sl (List.map encI x9.Out)]) (ds := [.int .i64 x9.Kind, .int .i64 x9.A, .sl (List.map encI x9.In), .sl (List.map encI x9.Out)]) rfl ⟨rn_int rfl, rn_int rfl, rn_sl encI_p rfl, rn_sl encI_p rfl, trivial⟩ (rw_nil)))))
                        · replace h := ite_F h hb_236
                          refine T.skip ?_
                          exact T.weakR (hK3 s5 h) (Weak.mkN [] [0, 1, 2] (by decide) (none_kept _) rfl ⟨rn_ptr rfl, rn_ref rfl, rn_int rfl, rn_int rfl, rn_ptr rfl, rn_sl encNode_p rfl, rn_int rfl, rn_int rfl, trivial⟩ (rw_box (cs := [.sl (List.map encNode p0.Nodes), .int .i64 p0.Rings, .int .i64 p0.Room]) (ds := [.sl (List.map encNode p0.Nodes), .int .i64 p0.Rings, .int .i64 p0.Room]) rfl ⟨rn_sl encNode_p rfl, rn_int rfl, rn_int rfl, trivial⟩ (rw_arr rfl encEnds_p rfl (rw_box (cs := [.int .i64 x9.Kind, .int .i64 x9.A, .sl (List.map encI x9.In), .sl (List.map encI x9.Out)]) (ds := [.int .i64 x9.Kind, .int .i64 x9.A, .sl (List.map encI x9.In), .sl (List.map encI x9.Out)]) rfl ⟨rn_int rfl, rn_int rfl, rn_sl encI_p rfl, rn_sl encI_p rfl, trivial⟩ (rw_nil)))))
                  · refine T.region ?_
                    refine RS.op rfl (OP.q rfl (v_fieldAddr_ptr Ty.f67_1 rfl (off' := 1) rfl ?_))
                    refine RS.op rfl (o_load_ptr rfl rfl (loadRow1 Ty.k3 (c := .int .i64 x9.A) rfl ?_))
                    refine RS.op rfl (OP.q rfl (v_lss rfl rfl ?_))
                    refine RS.op rfl (OP.q rfl (v_move (v := .bool (decide (x9.A < 0))) rfl ?_))
                    rcases bool_cases (decide (x9.A < 0)) with hb_166 | hb_166
                    · refine RS.no rfl rfl rfl hb_166 ?_
                      refine RS.no rfl rfl rfl hb_166 ?_
                      refine RS.no rfl rfl rfl hb_166 ?_
                      refine RS.no rfl rfl rfl hb_166 ?_
                      refine RS.nou rfl rfl rfl ?_
                      refine RS.nou rfl rfl rfl ?_
                      refine RS.nou rfl rfl rfl ?_
                      refine RS.no rfl rfl rfl hb_166 ?_
                      refine RS.op rfl (OP.q rfl (v_pickT (v := .bool true) rfl hb_166 rfl ?_))
                      refine RS.op rfl (OP.q rfl (v_move (v := .bool true) rfl ?_))
                      refine RS.no rfl rfl rfl rfl ?_
                      refine RS.no rfl rfl rfl rfl ?_
                      refine RS.no rfl rfl rfl rfl ?_
                      refine RS.no rfl rfl rfl rfl ?_
                      refine RS.nou rfl rfl rfl ?_
                      refine RS.nou rfl rfl rfl ?_
                      refine RS.nou rfl rfl rfl ?_
                      refine RS.no rfl rfl rfl rfl ?_
                      refine RS.op rfl (OP.q rfl (v_pickT (v := .bool true) rfl rfl rfl ?_))
                      refine RS.op rfl (OP.q rfl (v_move (v := .bool true) rfl ?_))
                      refine RS.no rfl rfl rfl rfl ?_
                      refine RS.no rfl rfl rfl rfl ?_
                      refine RS.no rfl rfl rfl rfl ?_
                      refine RS.no rfl rfl rfl rfl ?_
                      refine RS.nou rfl rfl rfl ?_
                      refine RS.nou rfl rfl rfl ?_
                      refine RS.nou rfl rfl rfl ?_
                      refine RS.no rfl rfl rfl rfl ?_
                      refine RS.no rfl rfl rfl rfl ?_
                      refine RS.nou rfl rfl rfl ?_
                      refine RS.nou rfl rfl rfl ?_
                      refine RS.nou rfl rfl rfl ?_
                      refine RS.no rfl rfl rfl rfl ?_
                      refine RS.op rfl (OP.q rfl (v_pickT (v := .bool true) rfl rfl rfl ?_))
                      refine RS.nil ?_
                      exact T.weakR (hK () trivial) (Weak.mkN [] [0, 1, 2] (by decide) (none_kept _) rfl ⟨rn_ptr rfl, rn_ref rfl, rn_int rfl, rn_int rfl, rn_ptr rfl, rn_sl encNode_p rfl, rn_int rfl, rn_int rfl, rn_bool (by simp only [hb_166, Bool.true_or, Bool.or_true, Bool.false_or, Bool.or_false, Bool.true_and, Bool.and_true, Bool.false_and, Bool.and_false, Bool.not_true, Bool.not_false, if_true, if_false, Bool.false_eq_true, reduceIte]), trivial⟩ (rw_box (cs := [.sl (List.map encNode p0.Nodes), .int .i64 p0.Rings, .int .i64 p0.Room]) (ds := [.sl (List.map encNode p0.Nodes), .int .i64 p0.Rings, .int .i64 p0.Room]) rfl ⟨rn_sl encNode_p rfl, rn_int rfl, rn_int rfl, trivial⟩ (rw_arr rfl encEnds_p rfl (rw_box (cs := [.int .i64 x9.Kind, .int .i64 x9.A, .sl (List.map encI x9.In), .sl (List.map encI x9.Out)]) (ds := [.int .i64 x9.Kind, .int .i64 x9.A, .sl (List.map encI x9.In), .sl (List.map encI x9.Out)]) rfl ⟨rn_int rfl, rn_int rfl, rn_sl encI_p rfl, rn_sl encI_p rfl, trivial⟩ (rw_nil)))))
                    · refine RS.yes rfl rfl rfl hb_166 (OP.q rfl (v_fieldAddr_ptr Ty.f67_0 rfl (off' := 0) rfl ?_))
                      refine RS.yes rfl rfl rfl hb_166 (o_load_ptr rfl rfl (loadRow1 Ty.k3 (c := .int .i64 x9.Kind) rfl ?_))
                      refine RS.yes rfl rfl rfl hb_166 (OP.q rfl (v_eql rfl rfl ?_))
                      refine RS.yes rfl rfl rfl hb_166 (OP.q rfl (v_move (v := .bool (x9.Kind == 1)) rfl ?_))
                      rcases bool_cases (x9.Kind == 1) with hb_167 | hb_167
                      · refine RS.yes rfl rfl rfl hb_167 (OP.q rfl (v_fieldAddr_ptr Ty.f67_1 rfl (off' := 1) rfl ?_))
                        refine RS.yes rfl rfl rfl hb_167 (o_load_ptr rfl rfl (loadRow1 Ty.k3 (c := .int .i64 x9.A) rfl ?_))
                        refine RS.yes rfl rfl rfl hb_167 (OP.q rfl (v_geq rfl rfl ?_))
                        refine RS.yes rfl rfl rfl hb_166 (OP.q rfl (v_pickT (v := .bool (decide (x9.A ≥ 4))) rfl hb_167 rfl ?_))
                        refine RS.op rfl (OP.q rfl (v_pickF (v := .bool (decide (x9.A ≥ 4))) rfl hb_166 rfl ?_))
                        refine RS.op rfl (OP.q rfl (v_move (v := .bool (decide (x9.A ≥ 4))) rfl ?_))
                        rcases bool_cases (decide (x9.A ≥ 4)) with hb_168 | hb_168
                        · refine RS.no rfl rfl rfl hb_168 ?_
                          refine RS.no rfl rfl rfl hb_168 ?_
                          refine RS.no rfl rfl rfl hb_168 ?_
                          refine RS.no rfl rfl rfl hb_168 ?_
                          refine RS.nou rfl rfl rfl ?_
                          refine RS.nou rfl rfl rfl ?_
                          refine RS.nou rfl rfl rfl ?_
                          refine RS.no rfl rfl rfl hb_168 ?_
                          refine RS.op rfl (OP.q rfl (v_pickT (v := .bool true) rfl hb_168 rfl ?_))
                          refine RS.op rfl (OP.q rfl (v_move (v := .bool true) rfl ?_))
                          refine RS.no rfl rfl rfl rfl ?_
                          refine RS.no rfl rfl rfl rfl ?_
                          refine RS.no rfl rfl rfl rfl ?_
                          refine RS.no rfl rfl rfl rfl ?_
                          refine RS.nou rfl rfl rfl ?_
                          refine RS.nou rfl rfl rfl ?_
                          refine RS.nou rfl rfl rfl ?_
                          refine RS.no rfl rfl rfl rfl ?_
                          refine RS.no rfl rfl rfl rfl ?_
                          refine RS.nou rfl rfl rfl ?_
                          refine RS.nou rfl rfl rfl ?_
                          refine RS.nou rfl rfl rfl ?_
                          refine RS.no rfl rfl rfl rfl ?_
                          refine RS.op rfl (OP.q rfl (v_pickT (v := .bool true) rfl rfl rfl ?_))
                          refine RS.nil ?_
                          exact T.weakR (hK () trivial) (Weak.mkN [] [0, 1, 2] (by decide) (none_kept _) rfl ⟨rn_ptr rfl, rn_ref rfl, rn_int rfl, rn_int rfl, rn_ptr rfl, rn_sl encNode_p rfl, rn_int rfl, rn_int rfl, rn_bool (by simp only [hb_166, hb_167, hb_168, Bool.true_or, Bool.or_true, Bool.false_or, Bool.or_false, Bool.true_and, Bool.and_true, Bool.false_and, Bool.and_false, Bool.not_true, Bool.not_false, if_true, if_false, Bool.false_eq_true, reduceIte]), trivial⟩ (rw_box (cs := [.sl (List.map encNode p0.Nodes), .int .i64 p0.Rings, .int .i64 p0.Room]) (ds := [.sl (List.map encNode p0.Nodes), .int .i64 p0.Rings, .int .i64 p0.Room]) rfl ⟨rn_sl encNode_p rfl, rn_int rfl, rn_int rfl, trivial⟩ (rw_arr rfl encEnds_p rfl (rw_box (cs := [.int .i64 x9.Kind, .int .i64 x9.A, .sl (List.map encI x9.In), .sl (List.map encI x9.Out)]) (ds := [.int .i64 x9.Kind, .int .i64 x9.A, .sl (List.map encI x9.In), .sl (List.map encI x9.Out)]) rfl ⟨rn_int rfl, rn_int rfl, rn_sl encI_p rfl, rn_sl encI_p rfl, trivial⟩ (rw_nil)))))
                        · refine RS.yes rfl rfl rfl hb_168 (OP.q rfl (v_fieldAddr_ptr Ty.f67_0 rfl (off' := 0) rfl ?_))
                          refine RS.yes rfl rfl rfl hb_168 (o_load_ptr rfl rfl (loadRow1 Ty.k3 (c := .int .i64 x9.Kind) rfl ?_))
                          refine RS.yes rfl rfl rfl hb_168 (OP.q rfl (v_eql rfl rfl ?_))
                          refine RS.yes rfl rfl rfl hb_168 (OP.q rfl (v_move (v := .bool (x9.Kind == 2)) rfl ?_))
                          rcases bool_cases (x9.Kind == 2) with hb_169 | hb_169
                          · refine RS.yes rfl rfl rfl hb_169 (OP.q rfl (v_fieldAddr_ptr Ty.f67_1 rfl (off' := 1) rfl ?_))
                            refine RS.yes rfl rfl rfl hb_169 (o_load_ptr rfl rfl (loadRow1 Ty.k3 (c := .int .i64 x9.A) rfl ?_))
                            refine RS.yes rfl rfl rfl hb_169 (OP.q rfl (v_gtr rfl rfl ?_))
                            refine RS.yes rfl rfl rfl hb_168 (OP.q rfl (v_pickT (v := .bool (decide (x9.A > 3))) rfl hb_169 rfl ?_))
                            refine RS.op rfl (OP.q rfl (v_pickF (v := .bool (decide (x9.A > 3))) rfl hb_168 rfl ?_))
                            refine RS.op rfl (OP.q rfl (v_move (v := .bool (decide (x9.A > 3))) rfl ?_))
                            rcases bool_cases (decide (x9.A > 3)) with hb_170 | hb_170
                            · refine RS.no rfl rfl rfl hb_170 ?_
                              refine RS.no rfl rfl rfl hb_170 ?_
                              refine RS.no rfl rfl rfl hb_170 ?_
                              refine RS.no rfl rfl rfl hb_170 ?_
                              refine RS.nou rfl rfl rfl ?_
                              refine RS.nou rfl rfl rfl ?_
                              refine RS.nou rfl rfl rfl ?_
                              refine RS.no rfl rfl rfl hb_170 ?_
                              refine RS.no rfl rfl rfl hb_170 ?_
                              refine RS.nou rfl rfl rfl ?_
                              refine RS.nou rfl rfl rfl ?_
                              refine RS.nou rfl rfl rfl ?_
                              refine RS.no rfl rfl rfl hb_170 ?_
                              refine RS.op rfl (OP.q rfl (v_pickT (v := .bool true) rfl hb_170 rfl ?_))
                              refine RS.nil ?_
                              exact T.weakR (hK () trivial) (Weak.mkN [] [0, 1, 2] (by decide) (none_kept _) rfl ⟨rn_ptr rfl, rn_ref rfl, rn_int rfl, rn_int rfl, rn_ptr rfl, rn_sl encNode_p rfl, rn_int rfl, rn_int rfl, rn_bool (by simp only [hb_166, hb_167, hb_168, hb_169, hb_170, Bool.true_or, Bool.or_true, Bool.false_or, Bool.or_false, Bool.true_and, Bool.and_true, Bool.false_and, Bool.and_false, Bool.not_true, Bool.not_false, if_true, if_false, Bool.false_eq_true, reduceIte]), trivial⟩ (rw_box (cs := [.sl (List.map encNode p0.Nodes), .int .i64 p0.Rings, .int .i64 p0.Room]) (ds := [.sl (List.map encNode p0.Nodes), .int .i64 p0.Rings, .int .i64 p0.Room]) rfl ⟨rn_sl encNode_p rfl, rn_int rfl, rn_int rfl, trivial⟩ (rw_arr rfl encEnds_p rfl (rw_box (cs := [.int .i64 x9.Kind, .int .i64 x9.A, .sl (List.map encI x9.In), .sl (List.map encI x9.Out)]) (ds := [.int .i64 x9.Kind, .int .i64 x9.A, .sl (List.map encI x9.In), .sl (List.map encI x9.Out)]) rfl ⟨rn_int rfl, rn_int rfl, rn_sl encI_p rfl, rn_sl encI_p rfl, trivial⟩ (rw_nil)))))
                            · refine RS.yes rfl rfl rfl hb_170 (OP.q rfl (v_fieldAddr_ptr Ty.f67_0 rfl (off' := 0) rfl ?_))
                              refine RS.yes rfl rfl rfl hb_170 (o_load_ptr rfl rfl (loadRow1 Ty.k3 (c := .int .i64 x9.Kind) rfl ?_))
                              refine RS.yes rfl rfl rfl hb_170 (OP.q rfl (v_neq rfl rfl ?_))
                              refine RS.yes rfl rfl rfl hb_170 (OP.q rfl (v_move (v := .bool (x9.Kind != 1)) rfl ?_))
                              rcases bool_cases (x9.Kind != 1) with hb_171 | hb_171
                              · refine RS.yes rfl rfl rfl hb_171 (OP.q rfl (v_fieldAddr_ptr Ty.f67_0 rfl (off' := 0) rfl ?_))
                                refine RS.yes rfl rfl rfl hb_171 (o_load_ptr rfl rfl (loadRow1 Ty.k3 (c := .int .i64 x9.Kind) rfl ?_))
                                refine RS.yes rfl rfl rfl hb_171 (OP.q rfl (v_neq rfl rfl ?_))
                                refine RS.yes rfl rfl rfl hb_170 (OP.q rfl (v_pickT (v := .bool (x9.Kind != 2)) rfl hb_171 rfl ?_))
                                refine RS.yes rfl rfl rfl hb_170 (OP.q rfl (v_move (v := .bool (x9.Kind != 2)) rfl ?_))
                                rcases bool_cases (x9.Kind != 2) with hb_172 | hb_172
                                · refine RS.yes rfl rfl rfl hb_172 (OP.q rfl (v_fieldAddr_ptr Ty.f67_1 rfl (off' := 1) rfl ?_))
                                  refine RS.yes rfl rfl rfl hb_172 (o_load_ptr rfl rfl (loadRow1 Ty.k3 (c := .int .i64 x9.A) rfl ?_))
                                  refine RS.yes rfl rfl rfl hb_172 (OP.q rfl (v_neq rfl rfl ?_))
                                  refine RS.yes rfl rfl rfl hb_170 (OP.q rfl (v_pickT (v := .bool (x9.A != 0)) rfl hb_172 rfl ?_))
                                  refine RS.op rfl (OP.q rfl (v_pickF (v := .bool (x9.A != 0)) rfl hb_170 rfl ?_))
                                  refine RS.nil ?_
                                  exact T.weakR (hK () trivial) (Weak.mkN [] [0, 1, 2] (by decide) (none_kept _) rfl ⟨rn_ptr rfl, rn_ref rfl, rn_int rfl, rn_int rfl, rn_ptr rfl, rn_sl encNode_p rfl, rn_int rfl, rn_int rfl, rn_bool (by simp only [hb_166, hb_167, hb_168, hb_169, hb_170, hb_171, hb_172, Bool.true_or, Bool.or_true, Bool.false_or, Bool.or_false, Bool.true_and, Bool.and_true, Bool.false_and, Bool.and_false, Bool.not_true, Bool.not_false, if_true, if_false, Bool.false_eq_true, reduceIte]), trivial⟩ (rw_box (cs := [.sl (List.map encNode p0.Nodes), .int .i64 p0.Rings, .int .i64 p0.Room]) (ds := [.sl (List.map encNode p0.Nodes), .int .i64 p0.Rings, .int .i64 p0.Room]) rfl ⟨rn_sl encNode_p rfl, rn_int rfl, rn_int rfl, trivial⟩ (rw_arr rfl encEnds_p rfl (rw_box (cs := [.int .i64 x9.Kind, .int .i64 x9.A, .sl (List.map encI x9.In), .sl (List.map encI x9.Out)]) (ds := [.int .i64 x9.Kind, .int .i64 x9.A, .sl (List.map encI x9.In), .sl (List.map encI x9.Out)]) rfl ⟨rn_int rfl, rn_int rfl, rn_sl encI_p rfl, rn_sl encI_p rfl, trivial⟩ (rw_nil)))))
                                · refine RS.no rfl rfl rfl hb_172 ?_
                                  refine RS.no rfl rfl rfl hb_172 ?_
                                  refine RS.no rfl rfl rfl hb_172 ?_
                                  refine RS.yes rfl rfl rfl hb_170 (OP.q rfl (v_pickF (v := .bool false) rfl hb_172 rfl ?_))
                                  refine RS.op rfl (OP.q rfl (v_pickF (v := .bool false) rfl hb_170 rfl ?_))
                                  refine RS.nil ?_
                                  exact T.weakR (hK () trivial) (Weak.mkN [] [0, 1, 2] (by decide) (none_kept _) rfl ⟨rn_ptr rfl, rn_ref rfl, rn_int rfl, rn_int rfl, rn_ptr rfl, rn_sl encNode_p rfl, rn_int rfl, rn_int rfl, rn_bool (by simp only [hb_166, hb_167, hb_168, hb_169, hb_170, hb_171, hb_172, Bool.true_or, Bool.or_true, Bool.false_or, Bool.or_false, Bool.true_and, Bool.and_true, Bool.false_and, Bool.and_false, Bool.not_true, Bool.not_false, if_true, if_false, Bool.false_eq_true, reduceIte]), trivial⟩ (rw_box (cs := [.sl (List.map encNode p0.Nodes), .int .i64 p0.Rings, .int .i64 p0.Room]) (ds := [.sl (List.map encNode p0.Nodes), .int .i64 p0.Rings, .int .i64 p0.Room]) rfl ⟨rn_sl encNode_p rfl, rn_int rfl, rn_int rfl, trivial⟩ (rw_arr rfl encEnds_p rfl (rw_box (cs := [.int .i64 x9.Kind, .int .i64 x9.A, .sl (List.map encI x9.In), .sl (List.map encI x9.Out)]) (ds := [.int .i64 x9.Kind, .int .i64 x9.A, .sl (List.map encI x9.In), .sl (List.map encI x9.Out)]) rfl ⟨rn_int rfl, rn_int rfl, rn_sl encI_p rfl, rn_sl encI_p rfl, trivial⟩ (rw_nil)))))
                              · refine RS.no rfl rfl rfl hb_171 ?_
                                refine RS.no rfl rfl rfl hb_171 ?_
                                refine RS.no rfl rfl rfl hb_171 ?_
                                refine RS.yes rfl rfl rfl hb_170 (OP.q rfl (v_pickF (v := .bool false) rfl hb_171 rfl ?_))
                                refine RS.yes rfl rfl rfl hb_170 (OP.q rfl (v_move (v := .bool false) rfl ?_))
                                refine RS.no rfl rfl rfl rfl ?_
                                refine RS.no rfl rfl rfl rfl ?_
                                refine RS.no rfl rfl rfl rfl ?_
                                refine RS.yes rfl rfl rfl hb_170 (OP.q rfl (v_pickF (v := .bool false) rfl rfl rfl ?_))
                                refine RS.op rfl (OP.q rfl (v_pickF (v := .bool false) rfl hb_170 rfl ?_))
                                refine RS.nil ?_
                                exact T.weakR (hK () trivial) (Weak.mkN [] [0, 1, 2] (by decide) (none_kept _) rfl ⟨rn_ptr rfl, rn_ref rfl, rn_int rfl, rn_int rfl, rn_ptr rfl, rn_sl encNode_p rfl, rn_int rfl, rn_int rfl, rn_bool (by simp only [hb_166, hb_167, hb_168, hb_169, hb_170, hb_171, Bool.true_or, Bool.or_true, Bool.false_or, Bool.or_false, Bool.true_and, Bool.and_true, Bool.false_and, Bool.and_false, Bool.not_true, Bool.not_false, if_true, if_false, Bool.false_eq_true, reduceIte]), trivial⟩ (rw_box (cs := [.sl (List.map encNode p0.Nodes), .int .i64 p0.Rings, .int .i64 p0.Room]) (ds := [.sl (List.map encNode p0.Nodes), .int .i64 p0.Rings, .int .i64 p0.Room]) rfl ⟨rn_sl encNode_p rfl, rn_int rfl, rn_int rfl, trivial⟩ (rw_arr rfl encEnds_p rfl (rw_box (cs := [.int .i64 x9.Kind, .int .i64 x9.A, .sl (List.map encI x9.In), .sl (List.map encI x9.Out)]) (ds := [.int .i64 x9.Kind, .int .i64 x9.A, .sl (List.map encI x9.In), .sl (List.map encI x9.Out)]) rfl ⟨rn_int rfl, rn_int rfl, rn_sl encI_p rfl, rn_sl encI_p rfl, trivial⟩ (rw_nil)))))
                          · refine RS.no rfl rfl rfl hb_169 ?_
                            refine RS.no rfl rfl rfl hb_169 ?_
                            refine RS.no rfl rfl rfl hb_169 ?_
                            refine RS.yes rfl rfl rfl hb_168 (OP.q rfl (v_pickF (v := .bool false) rfl hb_169 rfl ?_))
                            refine RS.op rfl (OP.q rfl (v_pickF (v := .bool false) rfl hb_168 rfl ?_))
                            refine RS.op rfl (OP.q rfl (v_move (v := .bool false) rfl ?_))
                            refine RS.yes rfl rfl rfl rfl (OP.q rfl (v_fieldAddr_ptr Ty.f67_0 rfl (off' := 0) rfl ?_))
                            refine RS.yes rfl rfl rfl rfl (o_load_ptr rfl rfl (loadRow1 Ty.k3 (c := .int .i64 x9.Kind) rfl ?_))
                            refine RS.yes rfl rfl rfl rfl (OP.q rfl (v_neq rfl rfl ?_))
                            refine RS.yes rfl rfl rfl rfl (OP.q rfl (v_move (v := .bool (x9.Kind != 1)) rfl ?_))
                            rcases bool_cases (x9.Kind != 1) with hb_173 | hb_173
                            · refine RS.yes rfl rfl rfl hb_173 (OP.q rfl (v_fieldAddr_ptr Ty.f67_0 rfl (off' := 0) rfl ?_))
                              refine RS.yes rfl rfl rfl hb_173 (o_load_ptr rfl rfl (loadRow1 Ty.k3 (c := .int .i64 x9.Kind) rfl ?_))
                              refine RS.yes rfl rfl rfl hb_173 (OP.q rfl (v_neq rfl rfl ?_))
                              refine RS.yes rfl rfl rfl rfl (OP.q rfl (v_pickT (v := .bool (x9.Kind != 2)) rfl hb_173 rfl ?_))
                              refine RS.yes rfl rfl rfl rfl (OP.q rfl (v_move (v := .bool (x9.Kind != 2)) rfl ?_))
                              rcases bool_cases (x9.Kind != 2) with hb_174 | hb_174
                              · refine RS.yes rfl rfl rfl hb_174 (OP.q rfl (v_fieldAddr_ptr Ty.f67_1 rfl (off' := 1) rfl ?_))
                                refine RS.yes rfl rfl rfl hb_174 (o_load_ptr rfl rfl (loadRow1 Ty.k3 (c := .int .i64 x9.A) rfl ?_))
                                refine RS.yes rfl rfl rfl hb_174 (OP.q rfl (v_neq rfl rfl ?_))
                                refine RS.yes rfl rfl rfl rfl (OP.q rfl (v_pickT (v := .bool (x9.A != 0)) rfl hb_174 rfl ?_))
                                refine RS.op rfl (OP.q rfl (v_pickF (v := .bool (x9.A != 0)) rfl rfl rfl ?_))
                                refine RS.nil ?_
                                exact T.weakR (hK () trivial) (Weak.mkN [] [0, 1, 2] (by decide) (none_kept _) rfl ⟨rn_ptr rfl, rn_ref rfl, rn_int rfl, rn_int rfl, rn_ptr rfl, rn_sl encNode_p rfl, rn_int rfl, rn_int rfl, rn_bool (by simp only [hb_166, hb_167, hb_168, hb_169, hb_173, hb_174, Bool.true_or, Bool.or_true, Bool.false_or, Bool.or_false, Bool.true_and, Bool.and_true, Bool.false_and, Bool.and_false, Bool.not_true, Bool.not_false, if_true, if_false, Bool.false_eq_true, reduceIte]), trivial⟩ (rw_box (cs := [.sl (List.map encNode p0.Nodes), .int .i64 p0.Rings, .int .i64 p0.Room]) (ds := [.sl (List.map encNode p0.Nodes), .int .i64 p0.Rings, .int .i64 p0.Room]) rfl ⟨rn_sl encNode_p rfl, rn_int rfl, rn_int rfl, trivial⟩ (rw_arr rfl encEnds_p rfl (rw_box (cs := [.int .i64 x9.Kind, .int .i64 x9.A, .sl (List.map encI x9.In), .sl (List.map encI x9.Out)]) (ds := [.int .i64 x9.Kind, .int .i64 x9.A, .sl (List.map encI x9.In), .sl (List.map encI x9.Out)]) rfl ⟨rn_int rfl, rn_int rfl, rn_sl encI_p rfl, rn_sl encI_p rfl, trivial⟩ (rw_nil)))))
                              · refine RS.no rfl rfl rfl hb_174 ?_
                                refine RS.no rfl rfl rfl hb_174 ?_
                                refine RS.no rfl rfl rfl hb_174 ?_
                                refine RS.yes rfl rfl rfl rfl (OP.q rfl (v_pickF (v := .bool false) rfl hb_174 rfl ?_))
                                refine RS.op rfl (OP.q rfl (v_pickF (v := .bool false) rfl rfl rfl ?_))
                                refine RS.nil ?_
                                exact T.weakR (hK () trivial) (Weak.mkN [] [0, 1, 2] (by decide) (none_kept _) rfl ⟨rn_ptr rfl, rn_ref rfl, rn_int rfl, rn_int rfl, rn_ptr rfl, rn_sl encNode_p rfl, rn_int rfl, rn_int rfl, rn_bool (by simp only [hb_166, hb_167, hb_168, hb_169, hb_173, hb_174, Bool.true_or, Bool.or_true, Bool.false_or, Bool.or_false, Bool.true_and, Bool.and_true, Bool.false_and, Bool.and_false, Bool.not_true, Bool.not_false, if_true, if_false, Bool.false_eq_true, reduceIte]), trivial⟩ (rw_box (cs := [.sl (List.map encNode p0.Nodes), .int .i64 p0.Rings, .int .i64 p0.Room]) (ds := [.sl (List.map encNode p0.Nodes), .int .i64 p0.Rings, .int .i64 p0.Room]) rfl ⟨rn_sl encNode_p rfl, rn_int rfl, rn_int rfl, trivial⟩ (rw_arr rfl encEnds_p rfl (rw_box (cs := [.int .i64 x9.Kind, .int .i64 x9.A, .sl (List.map encI x9.In), .sl (List.map encI x9.Out)]) (ds := [.int .i64 x9.Kind, .int .i64 x9.A, .sl (List.map encI x9.In), .sl (List.map encI x9.Out)]) rfl ⟨rn_int rfl, rn_int rfl, rn_sl encI_p rfl, rn_sl encI_p rfl, trivial⟩ (rw_nil)))))
                            · refine RS.no rfl rfl rfl hb_173 ?_
                              refine RS.no rfl rfl rfl hb_173 ?_
                              refine RS.no rfl rfl rfl hb_173 ?_
                              refine RS.yes rfl rfl rfl rfl (OP.q rfl (v_pickF (v := .bool false) rfl hb_173 rfl ?_))
                              refine RS.yes rfl rfl rfl rfl (OP.q rfl (v_move (v := .bool false) rfl ?_))
                              refine RS.no rfl rfl rfl rfl ?_
                              refine RS.no rfl rfl rfl rfl ?_
                              refine RS.no rfl rfl rfl rfl ?_
                              refine RS.yes rfl rfl rfl rfl (OP.q rfl (v_pickF (v := .bool false) rfl rfl rfl ?_))
                              refine RS.op rfl (OP.q rfl (v_pickF (v := .bool false) rfl rfl rfl ?_))
                              refine RS.nil ?_
                              exact T.weakR (hK () trivial) (Weak.mkN [] [0, 1, 2] (by decide) (none_kept _) rfl ⟨rn_ptr rfl, rn_ref rfl, rn_int rfl, rn_int rfl, rn_ptr rfl, rn_sl encNode_p rfl, rn_int rfl, rn_int rfl, rn_bool (by simp only [hb_166, hb_167, hb_168, hb_169, hb_173, Bool.true_or, Bool.or_true, Bool.false_or, Bool.or_false, Bool.true_and, Bool.and_true, Bool.false_and, Bool.and_false, Bool.not_true, Bool.not_false, if_true, if_false, Bool.false_eq_true, reduceIte]), trivial⟩ (rw_box (cs := [.sl (List.map encNode p0.Nodes), .int .i64 p0.Rings, .int .i64 p0.Room]) (ds := [.sl (List.map encNode p0.Nodes), .int .i64 p0.Rings, .int .i64 p0.Room]) rfl ⟨rn_sl encNode_p rfl, rn_int rfl, rn_int rfl, trivial⟩ (rw_arr rfl encEnds_p rfl (rw_box (cs := [.int .i64 x9.Kind, .int .i64 x9.A, .sl (List.map encI x9.In), .sl (List.map encI x9.Out)]) (ds := [.int .i64 x9.Kind, .int .i64 x9.A, .sl (List.map encI x9.In), .sl (List.map encI x9.Out)]) rfl ⟨rn_int rfl, rn_int rfl, rn_sl encI_p rfl, rn_sl encI_p rfl, trivial⟩ (rw_nil)))))
                      · refine RS.no rfl rfl rfl hb_167 ?_
                        refine RS.no rfl rfl rfl hb_167 ?_
                        refine RS.no rfl rfl rfl hb_167 ?_
                        refine RS.yes rfl rfl rfl hb_166 (OP.q rfl (v_pickF (v := .bool false) rfl hb_167 rfl ?_))
                        refine RS.op rfl (OP.q rfl (v_pickF (v := .bool false) rfl hb_166 rfl ?_))
                        refine RS.op rfl (OP.q rfl (v_move (v := .bool false) rfl ?_))
                        refine RS.yes rfl rfl rfl rfl (OP.q rfl (v_fieldAddr_ptr Ty.f67_0 rfl (off' := 0) rfl ?_))
                        refine RS.yes rfl rfl rfl rfl (o_load_ptr rfl rfl (loadRow1 Ty.k3 (c := .int .i64 x9.Kind) rfl ?_))
                        refine RS.yes rfl rfl rfl rfl (OP.q rfl (v_eql rfl rfl ?_))
                        refine RS.yes rfl rfl rfl rfl (OP.q rfl (v_move (v := .bool (x9.Kind == 2)) rfl ?_))
                        rcases bool_cases (x9.Kind == 2) with hb_175 | hb_175
                        · refine RS.yes rfl rfl rfl hb_175 (OP.q rfl (v_fieldAddr_ptr Ty.f67_1 rfl (off' := 1) rfl ?_))
                          refine RS.yes rfl rfl rfl hb_175 (o_load_ptr rfl rfl (loadRow1 Ty.k3 (c := .int .i64 x9.A) rfl ?_))
                          refine RS.yes rfl rfl rfl hb_175 (OP.q rfl (v_gtr rfl rfl ?_))
                          refine RS.yes rfl rfl rfl rfl (OP.q rfl (v_pickT (v := .bool (decide (x9.A > 3))) rfl hb_175 rfl ?_))
                          refine RS.op rfl (OP.q rfl (v_pickF (v := .bool (decide (x9.A > 3))) rfl rfl rfl ?_))
                          refine RS.op rfl (OP.q rfl (v_move (v := .bool (decide (x9.A > 3))) rfl ?_))
                          rcases bool_cases (decide (x9.A > 3)) with hb_176 | hb_176
                          · refine RS.no rfl rfl rfl hb_176 ?_
                            refine RS.no rfl rfl rfl hb_176 ?_
                            refine RS.no rfl rfl rfl hb_176 ?_
                            refine RS.no rfl rfl rfl hb_176 ?_
                            refine RS.nou rfl rfl rfl ?_
                            refine RS.nou rfl rfl rfl ?_
                            refine RS.nou rfl rfl rfl ?_
                            refine RS.no rfl rfl rfl hb_176 ?_
                            refine RS.no rfl rfl rfl hb_176 ?_
                            refine RS.nou rfl rfl rfl ?_
                            refine RS.nou rfl rfl rfl ?_
                            refine RS.nou rfl rfl rfl ?_
                            refine RS.no rfl rfl rfl hb_176 ?_
                            refine RS.op rfl (OP.q rfl (v_pickT (v := .bool true) rfl hb_176 rfl ?_))
                            refine RS.nil ?_
                            exact T.weakR (hK () trivial) (Weak.mkN [] [0, 1, 2] (by decide) (none_kept _) rfl ⟨rn_ptr rfl, rn_ref rfl, rn_int rfl, rn_int rfl, rn_ptr rfl, rn_sl encNode_p rfl, rn_int rfl, rn_int rfl, rn_bool (by simp only [hb_166, hb_167, hb_175, hb_176, Bool.true_or, Bool.or_true, Bool.false_or, Bool.or_false, Bool.true_and, Bool.and_true, Bool.false_and, Bool.and_false, Bool.not_true, Bool.not_false, if_true, if_false, Bool.false_eq_true, reduceIte]), trivial⟩ (rw_box (cs := [.sl (List.map encNode p0.Nodes), .int .i64 p0.Rings, .int .i64 p0.Room]) (ds := [.sl (List.map encNode p0.Nodes), .int .i64 p0.Rings, .int .i64 p0.Room]) rfl ⟨rn_sl encNode_p rfl, rn_int rfl, rn_int rfl, trivial⟩ (rw_arr rfl encEnds_p rfl (rw_box (cs := [.int .i64 x9.Kind, .int .i64 x9.A, .sl (List.map encI x9.In), .sl (List.map encI x9.Out)]) (ds := [.int .i64 x9.Kind, .int .i64 x9.A, .sl (List.map encI x9.In), .sl (List.map encI x9.Out)]) rfl ⟨rn_int rfl, rn_int rfl, rn_sl encI_p rfl, rn_sl encI_p rfl, trivial⟩ (rw_nil)))))
                          · refine RS.yes rfl rfl rfl hb_176 (OP.q rfl (v_fieldAddr_ptr Ty.f67_0 rfl (off' := 0) rfl ?_))
                            refine RS.yes rfl rfl rfl hb_176 (o_load_ptr rfl rfl (loadRow1 Ty.k3 (c := .int .i64 x9.Kind) rfl ?_))
                            refine RS.yes rfl rfl rfl hb_176 (OP.q rfl (v_neq rfl rfl ?_))
                            refine RS.yes rfl rfl rfl hb_176 (OP.q rfl (v_move (v := .bool (x9.Kind != 1)) rfl ?_))
                            rcases bool_cases (x9.Kind != 1) with hb_177 | hb_177
                            · refine RS.yes rfl rfl rfl hb_177 (OP.q rfl (v_fieldAddr_ptr Ty.f67_0 rfl (off' := 0) rfl ?_))
                              refine RS.yes rfl rfl rfl hb_177 (o_load_ptr rfl rfl (loadRow1 Ty.k3 (c := .int .i64 x9.Kind) rfl ?_))
                              refine RS.yes rfl rfl rfl hb_177 (OP.q rfl (v_neq rfl rfl ?_))
                              refine RS.yes rfl rfl rfl hb_176 (OP.q rfl (v_pickT (v := .bool (x9.Kind != 2)) rfl hb_177 rfl ?_))
                              refine RS.yes rfl rfl rfl hb_176 (OP.q rfl (v_move (v := .bool (x9.Kind != 2)) rfl ?_))
                              rcases bool_cases (x9.Kind != 2) with hb_178 | hb_178
                              · refine RS.yes rfl rfl rfl hb_178 (OP.q rfl (v_fieldAddr_ptr Ty.f67_1 rfl (off' := 1) rfl ?_))
                                refine RS.yes rfl rfl rfl hb_178 (o_load_ptr rfl rfl (loadRow1 Ty.k3 (c := .int .i64 x9.A) rfl ?_))
                                refine RS.yes rfl rfl rfl hb_178 (OP.q rfl (v_neq rfl rfl ?_))
                                refine RS.yes rfl rfl rfl hb_176 (OP.q rfl (v_pickT (v := .bool (x9.A != 0)) rfl hb_178 rfl ?_))
                                refine RS.op rfl (OP.q rfl (v_pickF (v := .bool (x9.A != 0)) rfl hb_176 rfl ?_))
                                refine RS.nil ?_
                                exact T.weakR (hK () trivial) (Weak.mkN [] [0, 1, 2] (by decide) (none_kept _) rfl ⟨rn_ptr rfl, rn_ref rfl, rn_int rfl, rn_int rfl, rn_ptr rfl, rn_sl encNode_p rfl, rn_int rfl, rn_int rfl, rn_bool (by simp only [hb_166, hb_167, hb_175, hb_176, hb_177, hb_178, Bool.true_or, Bool.or_true, Bool.false_or, Bool.or_false, Bool.true_and, Bool.and_true, Bool.false_and, Bool.and_false, Bool.not_true, Bool.not_false, if_true, if_false, Bool.false_eq_true, reduceIte]), trivial⟩ (rw_box (cs := [.sl (List.map encNode p0.Nodes), .int .i64 p0.Rings, .int .i64 p0.Room]) (ds := [.sl (List.map encNode p0.Nodes), .int .i64 p0.Rings, .int .i64 p0.Room]) rfl ⟨rn_sl encNode_p rfl, rn_int rfl, rn_int rfl, trivial⟩ (rw_arr rfl encEnds_p rfl (rw_box (cs := [.int .i64 x9.Kind, .int .i64 x9.A, .sl (List.map encI x9.In), .sl (List.map encI x9.Out)]) (ds := [.int .i64 x9.Kind, .int .i64 x9.A, .sl (List.map encI x9.In), .sl (List.map encI x9.Out)]) rfl ⟨rn_int rfl, rn_int rfl, rn_sl encI_p rfl, rn_sl encI_p rfl, trivial⟩ (rw_nil)))))
                              · refine RS.no rfl rfl rfl hb_178 ?_
                                refine RS.no rfl rfl rfl hb_178 ?_
                                refine RS.no rfl rfl rfl hb_178 ?_
                                refine RS.yes rfl rfl rfl hb_176 (OP.q rfl (v_pickF (v := .bool false) rfl hb_178 rfl ?_))
                                refine RS.op rfl (OP.q rfl (v_pickF (v := .bool false) rfl hb_176 rfl ?_))
                                refine RS.nil ?_
                                exact T.weakR (hK () trivial) (Weak.mkN [] [0, 1, 2] (by decide) (none_kept _) rfl ⟨rn_ptr rfl, rn_ref rfl, rn_int rfl, rn_int rfl, rn_ptr rfl, rn_sl encNode_p rfl, rn_int rfl, rn_int rfl, rn_bool (by simp only [hb_166, hb_167, hb_175, hb_176, hb_177, hb_178, Bool.true_or, Bool.or_true, Bool.false_or, Bool.or_false, Bool.true_and, Bool.and_true, Bool.false_and, Bool.and_false, Bool.not_true, Bool.not_false, if_true, if_false, Bool.false_eq_true, reduceIte]), trivial⟩ (rw_box (cs := [.sl (List.map encNode p0.Nodes), .int .i64 p0.Rings, .int .i64 p0.Room]) (ds := [.sl (List.map encNode p0.Nodes), .int .i64 p0.Rings, .int .i64 p0.Room]) rfl ⟨rn_sl encNode_p rfl, rn_int rfl, rn_int rfl, trivial⟩ (rw_arr rfl encEnds_p rfl (rw_box (cs := [.int .i64 x9.Kind, .int .i64 x9.A, .sl (List.map encI x9.In), .sl (List.map encI x9.Out)]) (ds := [.int .i64 x9.Kind, .int .i64 x9.A, .sl (List.map encI x9.In), .sl (List.map encI x9.Out)]) rfl ⟨rn_int rfl, rn_int rfl, rn_sl encI_p rfl, rn_sl encI_p rfl, trivial⟩ (rw_nil)))))
                            · refine RS.no rfl rfl rfl hb_177 ?_
                              refine RS.no rfl rfl rfl hb_177 ?_
                              refine RS.no rfl rfl rfl hb_177 ?_
                              refine RS.yes rfl rfl rfl hb_176 (OP.q rfl (v_pickF (v := .bool false) rfl hb_177 rfl ?_))
                              refine RS.yes rfl rfl rfl hb_176 (OP.q rfl (v_move (v := .bool false) rfl ?_))
                              refine RS.no rfl rfl rfl rfl ?_
                              refine RS.no rfl rfl rfl rfl ?_
                              refine RS.no rfl rfl rfl rfl ?_
                              refine RS.yes rfl rfl rfl hb_176 (OP.q rfl (v_pickF (v := .bool false) rfl rfl rfl ?_))
                              refine RS.op rfl (OP.q rfl (v_pickF (v := .bool false) rfl hb_176 rfl ?_))
                              refine RS.nil ?_
                              exact T.weakR (hK () trivial) (Weak.mkN [] [0, 1, 2] (by decide) (none_kept _) rfl ⟨rn_ptr rfl, rn_ref rfl, rn_int rfl, rn_int rfl, rn_ptr rfl, rn_sl encNode_p rfl, rn_int rfl, rn_int rfl, rn_bool (by simp only [hb_166, hb_167, hb_175, hb_176, hb_177, Bool.true_or, Bool.or_true, Bool.false_or, Bool.or_false, Bool.true_and, Bool.and_true, Bool.false_and, Bool.and_false, Bool.not_true, Bool.not_false, if_true, if_false, Bool.false_eq_true, reduceIte]), trivial⟩ (rw_box (cs := [.sl (List.map encNode p0.Nodes), .int .i64 p0.Rings, .int .i64 p0.Room]) (ds := [.sl (List.map encNode p0.Nodes), .int .i64 p0.Rings, .int .i64 p0.Room]) rfl ⟨rn_sl encNode_p rfl, rn_int rfl, rn_int rfl, trivial⟩ (rw_arr rfl encEnds_p rfl (rw_box (cs := [.int .i64 x9.Kind, .int .i64 x9.A, .sl (List.map encI x9.In), .sl (List.map encI x9.Out)]) (ds := [.int .i64 x9.Kind, .int .i64 x9.A, .sl (List.map encI x9.In), .sl (List.map encI x9.Out)]) rfl ⟨rn_int rfl, rn_int rfl, rn_sl encI_p rfl, rn_sl encI_p rfl, trivial⟩ (rw_nil)))))
                        · refine RS.no rfl rfl rfl hb_175 ?_
                          refine RS.no rfl rfl rfl hb_175 ?_
                          refine RS.no rfl rfl rfl hb_175 ?_
                          refine RS.yes rfl rfl rfl rfl (OP.q rfl (v_pickF (v := .bool false) rfl hb_175 rfl ?_))
                          refine RS.op rfl (OP.q rfl (v_pickF (v := .bool false) rfl rfl rfl ?_))
                          refine RS.op rfl (OP.q rfl (v_move (v := .bool false) rfl ?_))
                          refine RS.yes rfl rfl rfl rfl (OP.q rfl (v_fieldAddr_ptr Ty.f67_0 rfl (off' := 0) rfl ?_))
                          refine RS.yes rfl rfl rfl rfl (o_load_ptr rfl rfl (loadRow1 Ty.k3 (c := .int .i64 x9.Kind) rfl ?_))
                          refine RS.yes rfl rfl rfl rfl (OP.q rfl (v_neq rfl rfl ?_))
                          refine RS.yes rfl rfl rfl rfl (OP.q rfl (v_move (v := .bool (x9.Kind != 1)) rfl ?_))
                          rcases bool_cases (x9.Kind != 1) with hb_179 | hb_179
                          · refine RS.yes rfl rfl rfl hb_179 (OP.q rfl (v_fieldAddr_ptr Ty.f67_0 rfl (off' := 0) rfl ?_))
                            refine RS.yes rfl rfl rfl hb_179 (o_load_ptr rfl rfl (loadRow1 Ty.k3 (c := .int .i64 x9.Kind) rfl ?_))
                            refine RS.yes rfl rfl rfl hb_179 (OP.q rfl (v_neq rfl rfl ?_))
                            refine RS.yes rfl rfl rfl rfl (OP.q rfl (v_pickT (v := .bool (x9.Kind != 2)) rfl hb_179 rfl ?_))
                            refine RS.yes rfl rfl rfl rfl (OP.q rfl (v_move (v := .bool (x9.Kind != 2)) rfl ?_))
                            rcases bool_cases (x9.Kind != 2) with hb_180 | hb_180
                            · refine RS.yes rfl rfl rfl hb_180 (OP.q rfl (v_fieldAddr_ptr Ty.f67_1 rfl (off' := 1) rfl ?_))
                              refine RS.yes rfl rfl rfl hb_180 (o_load_ptr rfl rfl (loadRow1 Ty.k3 (c := .int .i64 x9.A) rfl ?_))
                              refine RS.yes rfl rfl rfl hb_180 (OP.q rfl (v_neq rfl rfl ?_))
                              refine RS.yes rfl rfl rfl rfl (OP.q rfl (v_pickT (v := .bool (x9.A != 0)) rfl hb_180 rfl ?_))
                              refine RS.op rfl (OP.q rfl (v_pickF (v := .bool (x9.A != 0)) rfl rfl rfl ?_))
                              refine RS.nil ?_
                              exact T.weakR (hK () trivial) (Weak.mkN [] [0, 1, 2] (by decide) (none_kept _) rfl ⟨rn_ptr rfl, rn_ref rfl, rn_int rfl, rn_int rfl, rn_ptr rfl, rn_sl encNode_p rfl, rn_int rfl, rn_int rfl, rn_bool (by simp only [hb_166, hb_167, hb_175, hb_179, hb_180, Bool.true_or, Bool.or_true, Bool.false_or, Bool.or_false, Bool.true_and, Bool.and_true, Bool.false_and, Bool.and_false, Bool.not_true, Bool.not_false, if_true, if_false, Bool.false_eq_true, reduceIte]), trivial⟩ (rw_box (cs := [.sl (List.map encNode p0.Nodes), .int .i64 p0.Rings, .int .i64 p0.Room]) (ds := [.sl (List.map encNode p0.Nodes), .int .i64 p0.Rings, .int .i64 p0.Room]) rfl ⟨rn_sl encNode_p rfl, rn_int rfl, rn_int rfl, trivial⟩ (rw_arr rfl encEnds_p rfl (rw_box (cs := [.int .i64 x9.Kind, .int .i64 x9.A, .sl (List.map encI x9.In), .sl (List.map encI x9.Out)]) (ds := [.int .i64 x9.Kind, .int .i64 x9.A, .sl (List.map encI x9.In), .sl (List.map encI x9.Out)]) rfl ⟨rn_int rfl, rn_int rfl, rn_sl encI_p rfl, rn_sl encI_p rfl, trivial⟩ (rw_nil)))))
                            · refine RS.no rfl rfl rfl hb_180 ?_
                              refine RS.no rfl rfl rfl hb_180 ?_
                              refine RS.no rfl rfl rfl hb_180 ?_
                              refine RS.yes rfl rfl rfl rfl (OP.q rfl (v_pickF (v := .bool false) rfl hb_180 rfl ?_))
                              refine RS.op rfl (OP.q rfl (v_pickF (v := .bool false) rfl rfl rfl ?_))
                              refine RS.nil ?_
                              exact T.weakR (hK () trivial) (Weak.mkN [] [0, 1, 2] (by decide) (none_kept _) rfl ⟨rn_ptr rfl, rn_ref rfl, rn_int rfl, rn_int rfl, rn_ptr rfl, rn_sl encNode_p rfl, rn_int rfl, rn_int rfl, rn_bool (by simp only [hb_166, hb_167, hb_175, hb_179, hb_180, Bool.true_or, Bool.or_true, Bool.false_or, Bool.or_false, Bool.true_and, Bool.and_true, Bool.false_and, Bool.and_false, Bool.not_true, Bool.not_false, if_true, if_false, Bool.false_eq_true, reduceIte]), trivial⟩ (rw_box (cs := [.sl (List.map encNode p0.Nodes), .int .i64 p0.Rings, .int .i64 p0.Room]) (ds := [.sl (List.map encNode p0.Nodes), .int .i64 p0.Rings, .int .i64 p0.Room]) rfl ⟨rn_sl encNode_p rfl, rn_int rfl, rn_int rfl, trivial⟩ (rw_arr rfl encEnds_p rfl (rw_box (cs := [.int .i64 x9.Kind, .int .i64 x9.A, .sl (List.map encI x9.In), .sl (List.map encI x9.Out)]) (ds := [.int .i64 x9.Kind, .int .i64 x9.A, .sl (List.map encI x9.In), .sl (List.map encI x9.Out)]) rfl ⟨rn_int rfl, rn_int rfl, rn_sl encI_p rfl, rn_sl encI_p rfl, trivial⟩ (rw_nil)))))
                          · refine RS.no rfl rfl rfl hb_179 ?_
                            refine RS.no rfl rfl rfl hb_179 ?_
                            refine RS.no rfl rfl rfl hb_179 ?_
                            refine RS.yes rfl rfl rfl rfl (OP.q rfl (v_pickF (v := .bool false) rfl hb_179 rfl ?_))
                            refine RS.yes rfl rfl rfl rfl (OP.q rfl (v_move (v := .bool false) rfl ?_))
                            refine RS.no rfl rfl rfl rfl ?_
                            refine RS.no rfl rfl rfl rfl ?_
                            refine RS.no rfl rfl rfl rfl ?_
                            refine RS.yes rfl rfl rfl rfl (OP.q rfl (v_pickF (v := .bool false) rfl rfl rfl ?_))
                            refine RS.op rfl (OP.q rfl (v_pickF (v := .bool false) rfl rfl rfl ?_))
                            refine RS.nil ?_
                            exact T.weakR (hK () trivial) (Weak.mkN [] [0, 1, 2] (by decide) (none_kept _) rfl ⟨rn_ptr rfl, rn_ref rfl, rn_int rfl, rn_int rfl, rn_ptr rfl, rn_sl encNode_p rfl, rn_int rfl, rn_int rfl, rn_bool (by simp only [hb_166, hb_167, hb_175, hb_179, Bool.true_or, Bool.or_true, Bool.false_or, Bool.or_false, Bool.true_and, Bool.and_true, Bool.false_and, Bool.and_false, Bool.not_true, Bool.not_false, if_true, if_false, Bool.false_eq_true, reduceIte]), trivial⟩ (rw_box (cs := [.sl (List.map encNode p0.Nodes), .int .i64 p0.Rings, .int .i64 p0.Room]) (ds := [.sl (List.map encNode p0.Nodes), .int .i64 p0.Rings, .int .i64 p0.Room]) rfl ⟨rn_sl encNode_p rfl, rn_int rfl, rn_int rfl, trivial⟩ (rw_arr rfl encEnds_p rfl (rw_box (cs := [.int .i64 x9.Kind, .int .i64 x9.A, .sl (List.map encI x9.In), .sl (List.map encI x9.Out)]) (ds := [.int .i64 x9.Kind, .int .i64 x9.A, .sl (List.map encI x9.In), .sl (List.map encI x9.Out)]) rfl ⟨rn_int rfl, rn_int rfl, rn_sl encI_p rfl, rn_sl encI_p rfl, trivial⟩ (rw_nil)))))
              · refine T.region ?_
                refine RS.op rfl (OP.q rfl (v_fieldAddr_ptr Ty.f67_2 rfl (off' := 2) rfl ?_))
                refine RS.op rfl (o_load_ptr rfl rfl (loadRow1 Ty.k57 (c := .sl (List.map encI x9.In)) rfl ?_))
                refine RS.op rfl (OP.q rfl (v_len_sl Ty.s57 rfl ?_))
                refine RS.op rfl (OP.q rfl (v_move (v := .int .i64 x11.1) rfl ?_))
                refine RS.op rfl (o_call (as0 := [.int .i64 ((x9.In).length : Int), .int .i64 x11.1]) (as1 := [.int .i64 ((x9.In).length : Int), .int .i64 x11.1]) (caps := []) (aw1 := [.box [.sl (List.map encNode p0.Nodes), .int .i64 p0.Rings, .int .i64 p0.Room], .arr 121 2 (List.map encEnds s7), .box [.int .i64 x9.Kind, .int .i64 x9.A, .sl (List.map encI x9.In), .sl (List.map encI x9.Out)]]) rfl rfl rfl (k_flat (v := .bool x12) (net_fits_c ((x9.In).length : Int) x11.1 x12 hx12) (⟨pure_int _ _, pure_int _ _, trivial⟩) rfl ?_))
                refine RS.op rfl (OP.q rfl (v_not rfl ?_))
                refine RS.op rfl (OP.q rfl (v_move (v := .bool (!x12)) rfl ?_))
                rcases bool_cases (!x12) with hb_161 | hb_161
                · replace hz := ite_T hz hb_161
                  refine RS.no rfl rfl rfl hb_161 ?_
                  refine RS.no rfl rfl rfl hb_161 ?_
                  refine RS.no rfl rfl rfl hb_161 ?_
                  refine RS.no rfl rfl rfl hb_161 ?_
                  refine RS.no rfl rfl rfl hb_161 ?_
                  refine RS.no rfl rfl rfl hb_161 ?_
                  refine RS.op rfl (OP.q rfl (v_pickT (v := .bool true) rfl hb_161 rfl ?_))
                  refine RS.nil ?_
                  exact T.weakR (hK () trivial) (Weak.mkN [] [0, 1, 2] (by decide) (none_kept _) rfl ⟨rn_ptr rfl, rn_ref rfl, rn_int rfl, rn_int rfl, rn_ptr rfl, rn_sl encNode_p rfl, rn_int rfl, rn_int rfl, rn_bool ((congrArg (fun p => p) (Option.some.inj hz)).symm), trivial⟩ (rw_box (cs := [.sl (List.map encNode p0.Nodes), .int .i64 p0.Rings, .int .i64 p0.Room]) (ds := [.sl (List.map encNode p0.Nodes), .int .i64 p0.Rings, .int .i64 p0.Room]) rfl ⟨rn_sl encNode_p rfl, rn_int rfl, rn_int rfl, trivial⟩ (rw_arr rfl encEnds_p rfl (rw_box (cs := [.int .i64 x9.Kind, .int .i64 x9.A, .sl (List.map encI x9.In), .sl (List.map encI x9.Out)]) (ds := [.int .i64 x9.Kind, .int .i64 x9.A, .sl (List.map encI x9.In), .sl (List.map encI x9.Out)]) rfl ⟨rn_int rfl, rn_int rfl, rn_sl encI_p rfl, rn_sl encI_p rfl, trivial⟩ (rw_nil)))))
                · replace hz := ite_F hz hb_161
                  obtain ⟨x13, hx13, hz⟩ := bind_some hz
                  refine RS.yes rfl rfl rfl hb_161 (OP.q rfl (v_fieldAddr_ptr Ty.f67_3 rfl (off' := 3) rfl ?_))
                  refine RS.yes rfl rfl rfl hb_161 (o_load_ptr rfl rfl (loadRow1 Ty.k57 (c := .sl (List.map encI x9.Out)) rfl ?_))
                  refine RS.yes rfl rfl rfl hb_161 (OP.q rfl (v_len_sl Ty.s57 rfl ?_))
                  refine RS.yes rfl rfl rfl hb_161 (OP.q rfl (v_move (v := .int .i64 x11.2.1) rfl ?_))
                  refine RS.yes rfl rfl rfl hb_161 (o_call (as0 := [.int .i64 ((x9.Out).length : Int), .int .i64 x11.2.1]) (as1 := [.int .i64 ((x9.Out).length : Int), .int .i64 x11.2.1]) (caps := []) (aw1 := [.box [.sl (List.map encNode p0.Nodes), .int .i64 p0.Rings, .int .i64 p0.Room], .arr 121 2 (List.map encEnds s7), .box [.int .i64 x9.Kind, .int .i64 x9.A, .sl (List.map encI x9.In), .sl (List.map encI x9.Out)]]) rfl rfl rfl (k_flat (v := .bool x13) (net_fits_c ((x9.Out).length : Int) x11.2.1 x13 hx13) (⟨pure_int _ _, pure_int _ _, trivial⟩) rfl ?_))
                  refine RS.yes rfl rfl rfl hb_161 (OP.q rfl (v_not rfl ?_))
                  refine RS.op rfl (OP.q rfl (v_pickF (v := .bool (!x13)) rfl hb_161 rfl ?_))
                  refine RS.nil ?_
                  exact T.weakR (hK () trivial) (Weak.mkN [] [0, 1, 2] (by decide) (none_kept _) rfl ⟨rn_ptr rfl, rn_ref rfl, rn_int rfl, rn_int rfl, rn_ptr rfl, rn_sl encNode_p rfl, rn_int rfl, rn_int rfl, rn_bool ((congrArg (fun p => p) (Option.some.inj hz)).symm), trivial⟩ (rw_box (cs := [.sl (List.map encNode p0.Nodes), .int .i64 p0.Rings, .int .i64 p0.Room]) (ds := [.sl (List.map encNode p0.Nodes), .int .i64 p0.Rings, .int .i64 p0.Room]) rfl ⟨rn_sl encNode_p rfl, rn_int rfl, rn_int rfl, trivial⟩ (rw_arr rfl encEnds_p rfl (rw_box (cs := [.int .i64 x9.Kind, .int .i64 x9.A, .sl (List.map encI x9.In), .sl (List.map encI x9.Out)]) (ds := [.int .i64 x9.Kind, .int .i64 x9.A, .sl (List.map encI x9.In), .sl (List.map encI x9.Out)]) rfl ⟨rn_int rfl, rn_int rfl, rn_sl encI_p rfl, rn_sl encI_p rfl, trivial⟩ (rw_nil)))))
          · replace h := ite_F h hb_157
            refine T.exit ?_
            obtain ⟨w_237, h, hw_237⟩ := map_inr h
            replace h := h.trans (congrArg some (hv_156 _ hw_237))
            refine T.seq ?_
            refine T.seq ?_
            refine T.region ?_
            refine RS.op rfl (OP.q rfl (v_move (v := .ref 1) rfl ?_))
            refine RS.op rfl (OP.q rfl (v_len_ref (en := encEnds) Ty.s115 rfl rfl ?_))
            refine RS.op rfl (OP.q rfl (v_move (v := .int .i64 0) rfl ?_))
            refine RS.nil ?_
            refine T.block ?_
            refine T.iter (fun ss_246 : Int => mkA 197 [(4, .ref 0), (5, .int .i64 s5), (179, .ref 0), (180, .int .i64 ((s7).length : Int)), (181, .int .i64 ss_246)]) (fun ss_246 => [.arr 121 2 (List.map encEnds s7)]) h (Weak.mkN [] [1] (by decide) (none_kept _) rfl ⟨rn_ref rfl, rn_int rfl, rn_ref rfl, rn_int rfl, rn_int rfl, trivial⟩ (rw_arr rfl encEnds_p rfl (rw_nil))) (fun ss_246 v_247 h hv_247 => ?_)
            revert hv_247 h; revert ss_246; intro s38 h hv_247
            replace h : net_look_l4 s5 s7 s38 = some v_247 := h
            show T _ _ _ _ (mkA 197 [(4, .ref 0), (5, .int .i64 s5), (179, .ref 0), (180, .int .i64 ((s7).length : Int)), (181, .int .i64 s38)]) [.arr 121 2 (List.map encEnds s7)]
            unfold net_look_l4 at h
            refine T.seq ?_
            refine T.region ?_
            refine RS.op rfl (OP.q rfl (v_lss rfl rfl ?_))
            refine RS.nil ?_
            refine T.seq ?_
            refine T.cond (b := decide (s38 < ((s7).length : Int))) rfl (fun hb_248 => ?_) (fun hb_248 => ?_)
            · replace h := ite_T h hb_248
              refine T.skip ?_
              refine T.seq ?_
              refine T.block ?_
              refine T.seq ?_
              obtain ⟨x41, hx41, h⟩ := bind_some h
              obtain ⟨x42, hx42, h⟩ := bind_some h
              refine T.region ?_
              refine RS.op rfl (OP.q rfl (v_index_ref' (en := encEnds) Ty.s115 rfl rfl rfl hx41 ?_))
              refine RS.op rfl (o_load_aptr' (en := encEnds) (a := x42) rfl rfl hx42 (loadRowA Ty.k121 Ty.c121 rfl (cs := [.int .i64 x42.src, .int .i64 x42.dst]) rfl ?_))
              refine RS.op rfl (o_alloc Ty.z121 rfl (aw' := [.arr 121 2 (List.map encEnds s7), .box [.int .i64 0, .int .i64 0]]) rfl ?_)
              refine RS.op rfl (o_store_ptr Ty.c121 Ty.i121 rfl (vs := [.int .i64 x42.src, .int .i64 x42.dst]) rfl rfl rfl rfl (cs' := [.int .i64 x42.src, .int .i64 x42.dst]) rfl (aw' := [.arr 121 2 (List.map encEnds s7), .box [.int .i64 x42.src, .int .i64 x42.dst]]) rfl ?_)
              refine RS.nil ?_
              refine T.join (Z := Unit) (fun _ => mkA 197 [(4, .ref 0), (5, .int .i64 s5), (179, .ref 0), (180, .int .i64 ((s7).length : Int)), (181, .int .i64 s38), (192, .bool ((decide (x42.src < 0)) || decide (x42.dst < 0)))]) (fun _ => [.arr 121 2 (List.map encEnds s7)]) (fun _ => True) (fun _ _ => ?_) (fun hK => ?_)
              · show T _ _ _ _ (mkA 197 [(4, .ref 0), (5, .int .i64 s5), (179, .ref 0), (180, .int .i64 ((s7).length : Int)), (181, .int .i64 s38), (192, .bool ((decide (x42.src < 0)) || decide (x42.dst < 0)))]) [.arr 121 2 (List.map encEnds s7)]
                refine T.cond (b := ((decide (x42.src < 0)) || decide (x42.dst < 0))) rfl (fun hb_250 => ?_) (fun hb_250 => ?_)
                · replace h := ite_T h hb_250
                  refine T.seq ?_
                  refine T.region ?_
                  refine RS.op rfl (OP.q rfl (v_assign (v := .nils) rfl ?_))
                  refine RS.op rfl (OP.q rfl (v_assign (v := .int .i64 9) rfl ?_))
                  refine RS.nil ?_
                  refine T.ret' (R := ?R251) ?hq251 ?_
                  case hq251 => repeat (first | exact RetIs.base | refine RetIs.thn ?_ | refine RetIs.blk ?_ | refine RetIs.lq ?_)
                  obtain ⟨w_252, h, hw_252⟩ := map_inr h
                  replace h := h.trans (congrArg some (hv_247 _ hw_252))
                  refine res_tmpA (v := .nils) rfl ?_
                  refine res_tmpA (v := .int .i64 9) rfl ?_
                  refine res_done ?_
                  exact ret_own (.tup [.ref 0, .int .i64 r.2]) [(0, 121, 2)] [1] (by decide) (none_kept _) rfl (rn_tup ⟨rn_ref rfl, rn_int (congrArg (fun r : (List Ends) × Int => r.2) (Option.some.inj h)).symm, trivial⟩) (rw_arr (en := encEnds) (ys := []) rfl encEnds_p (congrArg (fun r : (List Ends) × Int => r.1) (Option.some.inj h)).symm (rw_nil)) ⟨rfl, rfl⟩
                · replace h := ite_F h hb_250
                  refine T.skip ?_
                  refine T.region ?_
                  refine RS.op rfl (OP.q rfl (v_add rfl rfl ?_))
                  refine RS.op rfl (OP.q rfl (v_move (v := .int .i64 (IntKind.i64.wrap (s38 + 1))) rfl ?_))
                  refine RS.nil ?_
                  exact ⟨IntKind.i64.wrap (s38 + 1), (Option.some.inj h).symm, Weak.mkN [] [0] (by decide) (none_kept _) rfl ⟨rn_ref rfl, rn_int rfl, rn_ref rfl, rn_int rfl, rn_int rfl, trivial⟩ (rw_arr rfl encEnds_p rfl (rw_nil))⟩
              · refine T.region ?_
                refine RS.op rfl (OP.q rfl (v_fieldAddr_ptr Ty.f121_0 rfl (off' := 0) rfl ?_))
                refine RS.op rfl (o_load_ptr rfl rfl (loadRow1 Ty.k3 (c := .int .i64 x42.src) rfl ?_))
                refine RS.op rfl (OP.q rfl (v_lss rfl rfl ?_))
                refine RS.op rfl (OP.q rfl (v_move (v := .bool (decide (x42.src < 0))) rfl ?_))
                rcases bool_cases (decide (x42.src < 0)) with hb_249 | hb_249
                · refine RS.no rfl rfl rfl hb_249 ?_
                  refine RS.no rfl rfl rfl hb_249 ?_
                  refine RS.no rfl rfl rfl hb_249 ?_
                  refine RS.op rfl (OP.q rfl (v_pickT (v := .bool true) rfl hb_249 rfl ?_))
                  refine RS.nil ?_
                  exact T.weakR (hK () trivial) (Weak.mkN [] [0] (by decide) (none_kept _) rfl ⟨rn_ref rfl, rn_int rfl, rn_ref rfl, rn_int rfl, rn_int rfl, rn_bool (by simp only [hb_249, Bool.true_or, Bool.or_true, Bool.false_or, Bool.or_false, Bool.true_and, Bool.and_true, Bool.false_and, Bool.and_false, Bool.not_true, Bool.not_false, if_true, if_false, Bool.false_eq_true, reduceIte]), trivial⟩ (rw_arr rfl encEnds_p rfl (rw_nil)))
                · refine RS.yes rfl rfl rfl hb_249 (OP.q rfl (v_fieldAddr_ptr Ty.f121_1 rfl (off' := 1) rfl ?_))
                  refine RS.yes rfl rfl rfl hb_249 (o_load_ptr rfl rfl (loadRow1 Ty.k3 (c := .int .i64 x42.dst) rfl ?_))
                  refine RS.yes rfl rfl rfl hb_249 (OP.q rfl (v_lss rfl rfl ?_))
                  refine RS.op rfl (OP.q rfl (v_pickF (v := .bool (decide (x42.dst < 0))) rfl hb_249 rfl ?_))
                  refine RS.nil ?_
                  exact T.weakR (hK () trivial) (Weak.mkN [] [0] (by decide) (none_kept _) rfl ⟨rn_ref rfl, rn_int rfl, rn_ref rfl, rn_int rfl, rn_int rfl, rn_bool (by simp only [hb_249, Bool.true_or, Bool.or_true, Bool.false_or, Bool.or_false, Bool.true_and, Bool.and_true, Bool.false_and, Bool.and_false, Bool.not_true, Bool.not_false, if_true, if_false, Bool.false_eq_true, reduceIte]), trivial⟩ (rw_arr rfl encEnds_p rfl (rw_nil)))
            · replace h := ite_F h hb_248
              refine T.exit ?_
              obtain ⟨w_253, h, hw_253⟩ := map_inr h
              replace h := h.trans (congrArg some (hv_247 _ hw_253))
              refine T.seq ?_
              refine T.seq ?_
              refine T.region ?_
              refine RS.op rfl (OP.q rfl (v_move (v := .int .i64 s5) rfl ?_))
              refine RS.op rfl (OP.q rfl (v_neq rfl rfl ?_))
              refine RS.nil ?_
              refine T.cond (b := s5 != 1) rfl (fun hb_254 => ?_) (fun hb_254 => ?_)
              · replace h := ite_T h hb_254
                refine T.seq ?_
                refine T.region ?_
                refine RS.op rfl (OP.q rfl (v_assign (v := .nils) rfl ?_))
                refine RS.op rfl (OP.q rfl (v_assign (v := .int .i64 4) rfl ?_))
                refine RS.nil ?_
                refine T.ret' (R := ?R255) ?hq255 ?_
                case hq255 => repeat (first | exact RetIs.base | refine RetIs.thn ?_ | refine RetIs.blk ?_ | refine RetIs.lq ?_)
                refine res_tmpA (v := .nils) rfl ?_
                refine res_tmpA (v := .int .i64 4) rfl ?_
                refine res_done ?_
                exact ret_own (.tup [.ref 0, .int .i64 r.2]) [(0, 121, 2)] [1] (by decide) (none_kept _) rfl (rn_tup ⟨rn_ref rfl, rn_int (congrArg (fun r : (List Ends) × Int => r.2) (Option.some.inj h)).symm, trivial⟩) (rw_arr (en := encEnds) (ys := []) rfl encEnds_p (congrArg (fun r : (List Ends) × Int => r.1) (Option.some.inj h)).symm (rw_nil)) ⟨rfl, rfl⟩
              · replace h := ite_F h hb_254
                refine T.skip ?_
                refine T.seq ?_
                refine T.region ?_
                refine RS.op rfl (OP.q rfl (v_move (v := .ref 0) rfl ?_))
                refine RS.op rfl (OP.q rfl (v_assign (v := .ref 0) rfl ?_))
                refine RS.op rfl (OP.q rfl (v_assign (v := .int .i64 0) rfl ?_))
                refine RS.nil ?_
                refine T.ret' (R := ?R256) ?hq256 ?_
                case hq256 => repeat (first | exact RetIs.base | refine RetIs.thn ?_ | refine RetIs.blk ?_ | refine RetIs.lq ?_)
                refine res_tmpA (v := .ref 0) rfl ?_
                refine res_tmpA (v := .int .i64 0) rfl ?_
                refine res_done ?_
                exact ret_own (.tup [.ref 0, .int .i64 r.2]) [] [0] (by decide) (none_kept _) rfl (rn_tup ⟨rn_ref rfl, rn_int (congrArg (fun r : (List Ends) × Int => r.2) (Option.some.inj h)).symm, trivial⟩) (rw_arr rfl encEnds_p (congrArg (fun r : (List Ends) × Int => r.1) (Option.some.inj h)).symm (rw_nil)) ⟨rfl, rfl⟩
      · refine T.region ?_
        refine RS.op rfl (OP.q rfl (v_fieldAddr_ptr Ty.f56_2 rfl (off' := 2) rfl ?_))
        refine RS.op rfl (o_load_ptr rfl rfl (loadRow1 Ty.k3 (c := .int .i64 p0.Room) rfl ?_))
        refine RS.op rfl (OP.q rfl (v_lss rfl rfl ?_))
        refine RS.op rfl (OP.q rfl (v_move (v := .bool (decide (p0.Room < 1))) rfl ?_))
        rcases bool_cases (decide (p0.Room < 1)) with hb_6 | hb_6
        · refine RS.no rfl rfl rfl hb_6 ?_
          refine RS.no rfl rfl rfl hb_6 ?_
          refine RS.no rfl rfl rfl hb_6 ?_
          refine RS.op rfl (OP.q rfl (v_pickT (v := .bool true) rfl hb_6 rfl ?_))
          refine RS.nil ?_
          exact T.weakR (hK () trivial) (Weak.mkN [] [0] (by decide) (none_kept _) rfl ⟨rn_ptr rfl, rn_bool (by simp only [hb_6, Bool.true_or, Bool.or_true, Bool.false_or, Bool.or_false, Bool.true_and, Bool.and_true, Bool.false_and, Bool.and_false, Bool.not_true, Bool.not_false, if_true, if_false, Bool.false_eq_true, reduceIte]), trivial⟩ (rw_box (cs := [.sl (List.map encNode p0.Nodes), .int .i64 p0.Rings, .int .i64 p0.Room]) (ds := [.sl (List.map encNode p0.Nodes), .int .i64 p0.Rings, .int .i64 p0.Room]) rfl ⟨rn_sl encNode_p rfl, rn_int rfl, rn_int rfl, trivial⟩ (rw_nil)))
        · refine RS.yes rfl rfl rfl hb_6 (OP.q rfl (v_fieldAddr_ptr Ty.f56_2 rfl (off' := 2) rfl ?_))
          refine RS.yes rfl rfl rfl hb_6 (o_load_ptr rfl rfl (loadRow1 Ty.k3 (c := .int .i64 p0.Room) rfl ?_))
          refine RS.yes rfl rfl rfl hb_6 (OP.q rfl (v_gtr rfl rfl ?_))
          refine RS.op rfl (OP.q rfl (v_pickF (v := .bool (decide (p0.Room > 6))) rfl hb_6 rfl ?_))
          refine RS.nil ?_
          exact T.weakR (hK () trivial) (Weak.mkN [] [0] (by decide) (none_kept _) rfl ⟨rn_ptr rfl, rn_bool (by simp only [hb_6, Bool.true_or, Bool.or_true, Bool.false_or, Bool.or_false, Bool.true_and, Bool.and_true, Bool.false_and, Bool.and_false, Bool.not_true, Bool.not_false, if_true, if_false, Bool.false_eq_true, reduceIte]), trivial⟩ (rw_box (cs := [.sl (List.map encNode p0.Nodes), .int .i64 p0.Rings, .int .i64 p0.Room]) (ds := [.sl (List.map encNode p0.Nodes), .int .i64 p0.Rings, .int .i64 p0.Room]) rfl ⟨rn_sl encNode_p rfl, rn_int rfl, rn_int rfl, trivial⟩ (rw_nil)))
  · refine T.region ?_
    refine RS.op rfl (OP.q rfl (v_fieldAddr_ptr Ty.f56_0 rfl (off' := 0) rfl ?_))
    refine RS.op rfl (o_load_ptr rfl rfl (loadRow1 Ty.k54 (c := .sl (List.map encNode p0.Nodes)) rfl ?_))
    refine RS.op rfl (OP.q rfl (v_len_sl Ty.s54 rfl ?_))
    refine RS.op rfl (OP.q rfl (v_lss rfl rfl ?_))
    refine RS.op rfl (OP.q rfl (v_move (v := .bool (decide (((p0.Nodes).length : Int) < 1))) rfl ?_))
    rcases bool_cases (decide (((p0.Nodes).length : Int) < 1)) with hb_1 | hb_1
    · refine RS.no rfl rfl rfl hb_1 ?_
      refine RS.no rfl rfl rfl hb_1 ?_
      refine RS.no rfl rfl rfl hb_1 ?_
      refine RS.no rfl rfl rfl hb_1 ?_
      refine RS.op rfl (OP.q rfl (v_pickT (v := .bool true) rfl hb_1 rfl ?_))
      refine RS.op rfl (OP.q rfl (v_move (v := .bool true) rfl ?_))
      refine RS.no rfl rfl rfl rfl ?_
      refine RS.no rfl rfl rfl rfl ?_
      refine RS.no rfl rfl rfl rfl ?_
      refine RS.op rfl (OP.q rfl (v_pickT (v := .bool true) rfl rfl rfl ?_))
      refine RS.op rfl (OP.q rfl (v_move (v := .bool true) rfl ?_))
      refine RS.no rfl rfl rfl rfl ?_
      refine RS.no rfl rfl rfl rfl ?_
      refine RS.no rfl rfl rfl rfl ?_
      refine RS.op rfl (OP.q rfl (v_pickT (v := .bool true) rfl rfl rfl ?_))
      refine RS.nil ?_
      exact T.weakR (hK () trivial) (Weak.mkN [] [0] (by decide) (none_kept _) rfl ⟨rn_ptr rfl, rn_bool (by simp only [hb_1, Bool.true_or, Bool.or_true, Bool.false_or, Bool.or_false, Bool.true_and, Bool.and_true, Bool.false_and, Bool.and_false, Bool.not_true, Bool.not_false, if_true, if_false, Bool.false_eq_true, reduceIte]), trivial⟩ (rw_box (cs := [.sl (List.map encNode p0.Nodes), .int .i64 p0.Rings, .int .i64 p0.Room]) (ds := [.sl (List.map encNode p0.Nodes), .int .i64 p0.Rings, .int .i64 p0.Room]) rfl ⟨rn_sl encNode_p rfl, rn_int rfl, rn_int rfl, trivial⟩ (rw_nil)))
    · refine RS.yes rfl rfl rfl hb_1 (OP.q rfl (v_fieldAddr_ptr Ty.f56_0 rfl (off' := 0) rfl ?_))
      refine RS.yes rfl rfl rfl hb_1 (o_load_ptr rfl rfl (loadRow1 Ty.k54 (c := .sl (List.map encNode p0.Nodes)) rfl ?_))
      refine RS.yes rfl rfl rfl hb_1 (OP.q rfl (v_len_sl Ty.s54 rfl ?_))
      refine RS.yes rfl rfl rfl hb_1 (OP.q rfl (v_gtr rfl rfl ?_))
      refine RS.op rfl (OP.q rfl (v_pickF (v := .bool (decide (((p0.Nodes).length : Int) > 12))) rfl hb_1 rfl ?_))
      refine RS.op rfl (OP.q rfl (v_move (v := .bool (decide (((p0.Nodes).length : Int) > 12))) rfl ?_))
      rcases bool_cases (decide (((p0.Nodes).length : Int) > 12)) with hb_2 | hb_2
      · refine RS.no rfl rfl rfl hb_2 ?_
        refine RS.no rfl rfl rfl hb_2 ?_
        refine RS.no rfl rfl rfl hb_2 ?_
        refine RS.op rfl (OP.q rfl (v_pickT (v := .bool true) rfl hb_2 rfl ?_))
        refine RS.op rfl (OP.q rfl (v_move (v := .bool true) rfl ?_))
        refine RS.no rfl rfl rfl rfl ?_
        refine RS.no rfl rfl rfl rfl ?_
        refine RS.no rfl rfl rfl rfl ?_
        refine RS.op rfl (OP.q rfl (v_pickT (v := .bool true) rfl rfl rfl ?_))
        refine RS.nil ?_
        exact T.weakR (hK () trivial) (Weak.mkN [] [0] (by decide) (none_kept _) rfl ⟨rn_ptr rfl, rn_bool (by simp only [hb_1, hb_2, Bool.true_or, Bool.or_true, Bool.false_or, Bool.or_false, Bool.true_and, Bool.and_true, Bool.false_and, Bool.and_false, Bool.not_true, Bool.not_false, if_true, if_false, Bool.false_eq_true, reduceIte]), trivial⟩ (rw_box (cs := [.sl (List.map encNode p0.Nodes), .int .i64 p0.Rings, .int .i64 p0.Room]) (ds := [.sl (List.map encNode p0.Nodes), .int .i64 p0.Rings, .int .i64 p0.Room]) rfl ⟨rn_sl encNode_p rfl, rn_int rfl, rn_int rfl, trivial⟩ (rw_nil)))
      · refine RS.yes rfl rfl rfl hb_2 (OP.q rfl (v_fieldAddr_ptr Ty.f56_1 rfl (off' := 1) rfl ?_))
        refine RS.yes rfl rfl rfl hb_2 (o_load_ptr rfl rfl (loadRow1 Ty.k3 (c := .int .i64 p0.Rings) rfl ?_))
        refine RS.yes rfl rfl rfl hb_2 (OP.q rfl (v_lss rfl rfl ?_))
        refine RS.op rfl (OP.q rfl (v_pickF (v := .bool (decide (p0.Rings < 0))) rfl hb_2 rfl ?_))
        refine RS.op rfl (OP.q rfl (v_move (v := .bool (decide (p0.Rings < 0))) rfl ?_))
        rcases bool_cases (decide (p0.Rings < 0)) with hb_3 | hb_3
        · refine RS.no rfl rfl rfl hb_3 ?_
          refine RS.no rfl rfl rfl hb_3 ?_
          refine RS.no rfl rfl rfl hb_3 ?_
          refine RS.op rfl (OP.q rfl (v_pickT (v := .bool true) rfl hb_3 rfl ?_))
          refine RS.nil ?_
          exact T.weakR (hK () trivial) (Weak.mkN [] [0] (by decide) (none_kept _) rfl ⟨rn_ptr rfl, rn_bool (by simp only [hb_1, hb_2, hb_3, Bool.true_or, Bool.or_true, Bool.false_or, Bool.or_false, Bool.true_and, Bool.and_true, Bool.false_and, Bool.and_false, Bool.not_true, Bool.not_false, if_true, if_false, Bool.false_eq_true, reduceIte]), trivial⟩ (rw_box (cs := [.sl (List.map encNode p0.Nodes), .int .i64 p0.Rings, .int .i64 p0.Room]) (ds := [.sl (List.map encNode p0.Nodes), .int .i64 p0.Rings, .int .i64 p0.Room]) rfl ⟨rn_sl encNode_p rfl, rn_int rfl, rn_int rfl, trivial⟩ (rw_nil)))
        · refine RS.yes rfl rfl rfl hb_3 (OP.q rfl (v_fieldAddr_ptr Ty.f56_1 rfl (off' := 1) rfl ?_))
          refine RS.yes rfl rfl rfl hb_3 (o_load_ptr rfl rfl (loadRow1 Ty.k3 (c := .int .i64 p0.Rings) rfl ?_))
          refine RS.yes rfl rfl rfl hb_3 (OP.q rfl (v_gtr rfl rfl ?_))
          refine RS.op rfl (OP.q rfl (v_pickF (v := .bool (decide (p0.Rings > 16))) rfl hb_3 rfl ?_))
          refine RS.nil ?_
          exact T.weakR (hK () trivial) (Weak.mkN [] [0] (by decide) (none_kept _) rfl ⟨rn_ptr rfl, rn_bool (by simp only [hb_1, hb_2, hb_3, Bool.true_or, Bool.or_true, Bool.false_or, Bool.or_false, Bool.true_and, Bool.and_true, Bool.false_and, Bool.and_false, Bool.not_true, Bool.not_false, if_true, if_false, Bool.false_eq_true, reduceIte]), trivial⟩ (rw_box (cs := [.sl (List.map encNode p0.Nodes), .int .i64 p0.Rings, .int .i64 p0.Room]) (ds := [.sl (List.map encNode p0.Nodes), .int .i64 p0.Rings, .int .i64 p0.Room]) rfl ⟨rn_sl encNode_p rfl, rn_int rfl, rn_int rfl, trivial⟩ (rw_nil)))
theorem net_Order_1_x523f_c (p0 : Int) (p1 : List Bool) (p2 : List Ends) (r : Bool) (h : net_Order_1_x523f p0 p1 p2 = some r) : FnX Try.prog 69 [.int .i64 p0, .ptr 0 0, .ptr 1 0] [.box [.ref 2], .box [.ref 3], .arr 4 1 (List.map encB p1), .arr 121 2 (List.map encEnds p2)] (.bool r) [.box [.ref 2], .box [.ref 3], .arr 4 1 (List.map encB p1), .arr 121 2 (List.map encEnds p2)] := by
  unfold net_Order_1_x523f at h
  refine fn_of_T (N := 4) rfl Try.func69 rfl (by kernel_rfl) Try.ntmps69 rfl ?_
  show T _ _ _ _ (mkA 14 [(0, .int .i64 p0), (1, .ptr 0 0), (2, .ptr 1 0)]) [.box [.ref 2], .box [.ref 3], .arr 4 1 (List.map encB p1), .arr 121 2 (List.map encEnds p2)]
  refine T.seq ?_
  refine T.region ?_
  refine RS.op rfl (OP.q rfl (v_assign (v := .bool false) rfl ?_))
  refine RS.nil ?_
  refine T.seq ?_
  obtain ⟨x5, hx5, h⟩ := bind_some h
  obtain ⟨x6, hx6, h⟩ := bind_some h
  obtain ⟨x7, hx7, h⟩ := bind_some h
  obtain ⟨x8, hx8, h⟩ := bind_some h
  refine T.drawn mixed (k := 10) rfl ?_
  refine RA.join 3 #[true, true, true, true, true, true, true, false, false, false] (mkA 14 [(0, .int .i64 p0), (1, .ptr 0 0), (2, .ptr 1 0), (4, .bool false), (5, .ref 2), (6, .ref 3), (7, .int .i64 p0), (8, .aptr 3 2 x5 0), (9, .aptr 3 2 x5 0), (10, .int .i64 x6.src), (11, .aptr 2 1 x7 0)]) [.box [.ref 2], .box [.ref 3], .arr 4 1 (List.map encB p1), .arr 121 2 (List.map encEnds p2)] ?_ (fun hS1 => ?_)
  · refine RA.a1 (i1 := 7) (l1 := #[true, true, true, true, true, true, true, true, false, false]) (by decide +kernel) (by decide +kernel) ?_
    refine RO.op rfl rfl (o_load_aptr' (en := encB) (a := x8) rfl rfl hx8 (loadRow1 Ty.k4 (c := .bool x8) rfl ?_))
    refine RA.t0 (i := 8) (li' := #[true, true, true, true, true, true, true, true, true, false]) rfl (by decide +kernel) (by decide +kernel) (by decide +kernel) (by decide +kernel) rfl rfl (v_not rfl ?_)
    refine RA.t0 (i := 9) (li' := #[true, true, true, true, true, true, true, true, true, true]) rfl (by decide +kernel) (by decide +kernel) (by decide +kernel) (by decide +kernel) rfl rfl (v_assign (v := .bool (!x8)) rfl ?_)
    refine RA.done (by decide +kernel) ?_
    refine T.ret' (R := ?R3) ?hq3 ?_
    case hq3 => repeat (first | exact RetIs.base | refine RetIs.thn ?_ | refine RetIs.blk ?_ | refine RetIs.lq ?_)
    refine res_tmpA (v := .bool (!x8)) rfl ?_
    refine res_done ?_
    exact ret_norm (v := .bool (!x8)) (aw1 := [.box [.ref 2], .box [.ref 3], .arr 4 1 (List.map encB p1), .arr 121 2 (List.map encEnds p2)]) (.bool r) [0, 1, 2, 3] rfl (by decide) (by decide) (rn_bool (congrArg (fun r : Bool => r) (Option.some.inj h)).symm) (rw_box (cs := [.ref 2]) (ds := [.ref 2]) rfl ⟨rn_ref rfl, trivial⟩ (rw_box (cs := [.ref 3]) (ds := [.ref 3]) rfl ⟨rn_ref rfl, trivial⟩ (rw_arr rfl encB_p rfl (rw_arr rfl encEnds_p rfl (rw_nil))))) ⟨rfl, rfl⟩
  · refine RA.join 5 #[true, true, true, true, true, false, false, false, false, false] (mkA 14 [(0, .int .i64 p0), (1, .ptr 0 0), (2, .ptr 1 0), (4, .bool false), (5, .ref 2), (6, .ref 3), (7, .int .i64 p0), (8, .aptr 3 2 x5 0), (9, .aptr 3 2 x5 0)]) [.box [.ref 2], .box [.ref 3], .arr 4 1 (List.map encB p1), .arr 121 2 (List.map encEnds p2)] ?_ (fun hS2 => ?_)
    · refine RA.a1 (i1 := 5) (l1 := #[true, true, true, true, true, true, false, false, false, false]) (by decide +kernel) (by decide +kernel) ?_
      refine RO.op rfl rfl (o_load_aptr' (en := encEnds) (a := x6) rfl rfl hx6 (loadRow1 Ty.k3 (c := .int .i64 x6.src) rfl ?_))
      refine RA.t0 (i := 6) (li' := #[true, true, true, true, true, true, true, false, false, false]) rfl (by decide +kernel) (by decide +kernel) (by decide +kernel) (by decide +kernel) rfl rfl (v_index_ref' (en := encB) Ty.s118 rfl rfl rfl hx7 ?_)
      exact RA.weakR hS1 (Weak.mkN [] [0, 1, 2, 3] (by decide) (by decide) rfl ⟨rn_int rfl, rn_ptr rfl, rn_ptr rfl, rn_bool rfl, rn_ref rfl, rn_ref rfl, rn_int rfl, rn_aptr rfl rfl, rn_aptr rfl rfl, rn_int rfl, rn_aptr rfl rfl, trivial⟩ (rw_box (cs := [.ref 2]) (ds := [.ref 2]) rfl ⟨rn_ref rfl, trivial⟩ (rw_box (cs := [.ref 3]) (ds := [.ref 3]) rfl ⟨rn_ref rfl, trivial⟩ (rw_arr rfl encB_p rfl (rw_arr rfl encEnds_p rfl (rw_nil))))))
    · refine RA.t0 (i := 2) (li' := #[false, false, true, false, false, false, false, false, false, false]) rfl (by decide +kernel) (by decide +kernel) (by decide +kernel) (by decide +kernel) rfl rfl (v_move (v := .int .i64 p0) rfl ?_)
      refine RA.a2 (i1 := 0) (l1 := #[true, false, true, false, false, false, false, false, false, false]) (i2 := 1) (l2 := #[false, true, true, false, false, false, false, false, false, false]) (by decide +kernel) (by decide +kernel) (by decide +kernel) ?_ ?_
      · refine RO.op rfl rfl (o_load_ptr rfl rfl (loadRow1 Ty.k118 (c := .ref 2) rfl ?_))
        refine RA.a1 (i1 := 1) (l1 := #[true, true, true, false, false, false, false, false, false, false]) (by decide +kernel) (by decide +kernel) ?_
        refine RO.op rfl rfl (o_load_ptr rfl rfl (loadRow1 Ty.k115 (c := .ref 3) rfl ?_))
        refine RA.t0 (i := 3) (li' := #[true, true, true, true, false, false, false, false, false, false]) rfl (by decide +kernel) (by decide +kernel) (by decide +kernel) (by decide +kernel) rfl rfl (v_index_ref' (en := encEnds) Ty.s115 rfl rfl rfl hx5 ?_)
        refine RA.t0 (i := 4) (li' := #[true, true, true, true, true, false, false, false, false, false]) rfl (by decide +kernel) (by decide +kernel) (by decide +kernel) (by decide +kernel) rfl rfl (v_fieldAddr_aptr Ty.f121_0 rfl (off' := 0) rfl ?_)
        exact RA.weakR hS2 (Weak.mkN [] [0, 1, 2, 3] (by decide) (by decide) rfl ⟨rn_int rfl, rn_ptr rfl, rn_ptr rfl, rn_bool rfl, rn_ref rfl, rn_ref rfl, rn_int rfl, rn_aptr rfl rfl, rn_aptr rfl rfl, trivial⟩ (rw_box (cs := [.ref 2]) (ds := [.ref 2]) rfl ⟨rn_ref rfl, trivial⟩ (rw_box (cs := [.ref 3]) (ds := [.ref 3]) rfl ⟨rn_ref rfl, trivial⟩ (rw_arr rfl encB_p rfl (rw_arr rfl encEnds_p rfl (rw_nil))))))
      · refine RO.op rfl rfl (o_load_ptr rfl rfl (loadRow1 Ty.k115 (c := .ref 3) rfl ?_))
        refine RA.t0 (i := 3) (li' := #[false, true, true, true, false, false, false, false, false, false]) rfl (by decide +kernel) (by decide +kernel) (by decide +kernel) (by decide +kernel) rfl rfl (v_index_ref' (en := encEnds) Ty.s115 rfl rfl rfl hx5 ?_)
        refine RA.t0 (i := 4) (li' := #[false, true, true, true, true, false, false, false, false, false]) rfl (by decide +kernel) (by decide +kernel) (by decide +kernel) (by decide +kernel) rfl rfl (v_fieldAddr_aptr Ty.f121_0 rfl (off' := 0) rfl ?_)
        refine RA.a2 (i1 := 0) (l1 := #[true, true, true, true, true, false, false, false, false, false]) (i2 := 5) (l2 := #[false, true, true, true, true, true, false, false, false, false]) (by decide +kernel) (by decide +kernel) (by decide +kernel) ?_ ?_
        · refine RO.op rfl rfl (o_load_ptr rfl rfl (loadRow1 Ty.k118 (c := .ref 2) rfl ?_))
          exact RA.weakR hS2 (Weak.mkN [] [0, 1, 2, 3] (by decide) (by decide) rfl ⟨rn_int rfl, rn_ptr rfl, rn_ptr rfl, rn_bool rfl, rn_ref rfl, rn_ref rfl, rn_int rfl, rn_aptr rfl rfl, rn_aptr rfl rfl, trivial⟩ (rw_box (cs := [.ref 2]) (ds := [.ref 2]) rfl ⟨rn_ref rfl, trivial⟩ (rw_box (cs := [.ref 3]) (ds := [.ref 3]) rfl ⟨rn_ref rfl, trivial⟩ (rw_arr rfl encB_p rfl (rw_arr rfl encEnds_p rfl (rw_nil))))))
        · refine RO.op rfl rfl (o_load_aptr' (en := encEnds) (a := x6) rfl rfl hx6 (loadRow1 Ty.k3 (c := .int .i64 x6.src) rfl ?_))
          refine RA.a1 (i1 := 0) (l1 := #[true, true, true, true, true, true, false, false, false, false]) (by decide +kernel) (by decide +kernel) ?_
          refine RO.op rfl rfl (o_load_ptr rfl rfl (loadRow1 Ty.k118 (c := .ref 2) rfl ?_))
          refine RA.t0 (i := 6) (li' := #[true, true, true, true, true, true, true, false, false, false]) rfl (by decide +kernel) (by decide +kernel) (by decide +kernel) (by decide +kernel) rfl rfl (v_index_ref' (en := encB) Ty.s118 rfl rfl rfl hx7 ?_)
          exact RA.weakR hS1 (Weak.mkN [] [0, 1, 2, 3] (by decide) (by decide) rfl ⟨rn_int rfl, rn_ptr rfl, rn_ptr rfl, rn_bool rfl, rn_ref rfl, rn_ref rfl, rn_int rfl, rn_aptr rfl rfl, rn_aptr rfl rfl, rn_int rfl, rn_aptr rfl rfl, trivial⟩ (rw_box (cs := [.ref 2]) (ds := [.ref 2]) rfl ⟨rn_ref rfl, trivial⟩ (rw_box (cs := [.ref 3]) (ds := [.ref 3]) rfl ⟨rn_ref rfl, trivial⟩ (rw_arr rfl encB_p rfl (rw_arr rfl encEnds_p rfl (rw_nil))))))
theorem slices_IndexFunc_int_x5d6b_c (p0 : List Int) (p1 : List Bool) (p2 : List Ends) (r : Int) (h : slices_IndexFunc_int_x5d6b p0 p1 p2 = some r) : FnX Try.prog 91 [.sl (List.map encI p0), .func 69 [.ptr 0 0, .ptr 1 0]] [.box [.ref 2], .box [.ref 3], .arr 4 1 (List.map encB p1), .arr 121 2 (List.map encEnds p2)] (.int .i64 r) [.box [.ref 2], .box [.ref 3], .arr 4 1 (List.map encB p1), .arr 121 2 (List.map encEnds p2)] := by
  unfold slices_IndexFunc_int_x5d6b at h
  refine fn_of_T (N := 4) rfl Try.func91 rfl (by kernel_rfl) Try.ntmps91 rfl ?_
  show T _ _ _ _ (mkA 19 [(0, .sl (List.map encI p0)), (1, .func 69 [.ptr 0 0, .ptr 1 0])]) [.box [.ref 2], .box [.ref 3], .arr 4 1 (List.map encB p1), .arr 121 2 (List.map encEnds p2)]
  refine T.seq ?_
  refine T.region ?_
  refine RS.op rfl (OP.q rfl (v_assign (v := .int .i64 0) rfl ?_))
  refine RS.nil ?_
  refine T.seq ?_
  refine T.seq ?_
  refine T.region ?_
  refine RS.op rfl (OP.q rfl (v_move (v := .sl (List.map encI p0)) rfl ?_))
  refine RS.op rfl (OP.q rfl (v_len_sl Ty.s57 rfl ?_))
  refine RS.op rfl (OP.q rfl (v_move (v := .int .i64 0) rfl ?_))
  refine RS.nil ?_
  refine T.block ?_
  refine T.iter (fun ss_7 : Int => mkA 19 [(0, .sl (List.map encI p0)), (1, .func 69 [.ptr 0 0, .ptr 1 0]), (7, .int .i64 ((p0).length : Int)), (8, .int .i64 ss_7)]) (fun ss_7 => [.box [.ref 2], .box [.ref 3], .arr 4 1 (List.map encB p1), .arr 121 2 (List.map encEnds p2)]) h (Weak.mkN [] [0, 1, 2, 3] (by decide) (by decide) rfl ⟨rn_sl encI_p rfl, rn_func ⟨rn_ptr rfl, rn_ptr rfl, trivial⟩, rn_int rfl, rn_int rfl, trivial⟩ (rw_box (cs := [.ref 2]) (ds := [.ref 2]) rfl ⟨rn_ref rfl, trivial⟩ (rw_box (cs := [.ref 3]) (ds := [.ref 3]) rfl ⟨rn_ref rfl, trivial⟩ (rw_arr rfl encB_p rfl (rw_arr rfl encEnds_p rfl (rw_nil)))))) (fun ss_7 v_8 h hv_8 => ?_)
  revert hv_8 h; revert ss_7; intro s1 h hv_8
  replace h : slices_IndexFunc_int_x5d6b_l1 p0 p1 p2 s1 = some v_8 := h
  show T _ _ _ _ (mkA 19 [(0, .sl (List.map encI p0)), (1, .func 69 [.ptr 0 0, .ptr 1 0]), (7, .int .i64 ((p0).length : Int)), (8, .int .i64 s1)]) [.box [.ref 2], .box [.ref 3], .arr 4 1 (List.map encB p1), .arr 121 2 (List.map encEnds p2)]
  unfold slices_IndexFunc_int_x5d6b_l1 at h
  refine T.seq ?_
  refine T.region ?_
  refine RS.op rfl (OP.q rfl (v_lss rfl rfl ?_))
  refine RS.nil ?_
  refine T.seq ?_
  refine T.cond (b := decide (s1 < ((p0).length : Int))) rfl (fun hb_9 => ?_) (fun hb_9 => ?_)
  · replace h := ite_T h hb_9
    refine T.skip ?_
    refine T.seq ?_
    refine T.block ?_
    refine T.seq ?_
    refine T.region ?_
    refine RS.op rfl (OP.q rfl (v_move (v := .int .i64 s1) rfl ?_))
    refine RS.op rfl (OP.q rfl (v_assign (v := .int .i64 s1) rfl ?_))
    refine RS.nil ?_
    refine T.seq ?_
    obtain ⟨x4, hx4, h⟩ := bind_some h
    obtain ⟨x5, hx5, h⟩ := bind_some h
    refine T.region ?_
    refine RS.op rfl (OP.q rfl (v_move (v := .func 69 [.ptr 0 0, .ptr 1 0]) rfl ?_))
    refine RS.op rfl (OP.q rfl (v_move (v := .sl (List.map encI p0)) rfl ?_))
    refine RS.op rfl (OP.q rfl (v_move (v := .int .i64 s1) rfl ?_))
    refine RS.op rfl (OP.q rfl (v_index_sl Ty.s57 (fun _ => rfl) rfl rfl hx4 ?_))
    refine RS.op rfl (o_load_elt rfl (loadRow1 Ty.k3 (c := .int .i64 x4) rfl ?_))
    refine RS.op rfl (o_callF (ac := [.int .i64 x4, .ptr 0 0, .ptr 1 0]) (as0 := [.int .i64 x4, .ptr 0 0, .ptr 1 0]) (aw0 := [.box [.ref 2], .box [.ref 3], .arr 4 1 (List.map encB p1), .arr 121 2 (List.map encEnds p2)]) (aw1 := [.box [.ref 2], .box [.ref 3], .arr 4 1 (List.map encB p1), .arr 121 2 (List.map encEnds p2)]) (aw2 := [.box [.ref 2], .box [.ref 3], .arr 4 1 (List.map encB p1), .arr 121 2 (List.map encEnds p2)]) (v := .bool x5) (v' := .bool x5) (n0 := 4) (n1 := 4) [0, 1, 2, 3] rfl rfl rfl rfl (by decide) (rw_box (cs := [.ref 2]) (ds := [.ref 2]) rfl ⟨rn_ref rfl, trivial⟩ (rw_box (cs := [.ref 3]) (ds := [.ref 3]) rfl ⟨rn_ref rfl, trivial⟩ (rw_arr rfl encB_p rfl (rw_arr rfl encEnds_p rfl (rw_nil))))) ⟨rn_int rfl, rn_ptr rfl, rn_ptr rfl, trivial⟩ (net_Order_1_x523f_c x4 p1 p2 x5 hx5) rfl (rm_pure (pure_bool _)) ⟨.inl ⟨0, _, by decide, rfl, rom_box (cs := [.ref 2]) (ds := [.ref 2]) ⟨rm_ref (by decide), trivial⟩⟩, .inl ⟨1, _, by decide, rfl, rom_box (cs := [.ref 3]) (ds := [.ref 3]) ⟨rm_ref (by decide), trivial⟩⟩, .inl ⟨2, _, by decide, rfl, rom_arr encB_p⟩, .inl ⟨3, _, by decide, rfl, rom_arr encEnds_p⟩, trivial⟩ ?_)
    refine RS.nil ?_
    refine T.cond (b := x5) rfl (fun hb_10 => ?_) (fun hb_10 => ?_)
    · replace h := ite_T h hb_10
      refine T.seq ?_
      refine T.region ?_
      refine RS.op rfl (OP.q rfl (v_move (v := .int .i64 s1) rfl ?_))
      refine RS.op rfl (OP.q rfl (v_assign (v := .int .i64 s1) rfl ?_))
      refine RS.nil ?_
      refine T.ret' (R := ?R11) ?hq11 ?_
      case hq11 => repeat (first | exact RetIs.base | refine RetIs.thn ?_ | refine RetIs.blk ?_ | refine RetIs.lq ?_)
      obtain ⟨w_12, h, hw_12⟩ := map_inr h
      replace h := h.trans (congrArg some (hv_8 _ hw_12))
      refine res_tmpA (v := .int .i64 s1) rfl ?_
      refine res_done ?_
      exact ret_norm (v := .int .i64 s1) (aw1 := [.box [.ref 2], .box [.ref 3], .arr 4 1 (List.map encB p1), .arr 121 2 (List.map encEnds p2)]) (.int .i64 r) [0, 1, 2, 3] rfl (by decide) (by decide) (rn_int (congrArg (fun r : Int => r) (Option.some.inj h)).symm) (rw_box (cs := [.ref 2]) (ds := [.ref 2]) rfl ⟨rn_ref rfl, trivial⟩ (rw_box (cs := [.ref 3]) (ds := [.ref 3]) rfl ⟨rn_ref rfl, trivial⟩ (rw_arr rfl encB_p rfl (rw_arr rfl encEnds_p rfl (rw_nil))))) ⟨rfl, rfl⟩
    · replace h := ite_F h hb_10
      refine T.skip ?_
      refine T.region ?_
      refine RS.op rfl (OP.q rfl (v_add rfl rfl ?_))
      refine RS.op rfl (OP.q rfl (v_move (v := .int .i64 (IntKind.i64.wrap (s1 + 1))) rfl ?_))
      refine RS.nil ?_
      exact ⟨IntKind.i64.wrap (s1 + 1), (Option.some.inj h).symm, Weak.mkN [] [0, 1, 2, 3] (by decide) (by decide) rfl ⟨rn_sl encI_p rfl, rn_func ⟨rn_ptr rfl, rn_ptr rfl, trivial⟩, rn_int rfl, rn_int rfl, trivial⟩ (rw_box (cs := [.ref 2]) (ds := [.ref 2]) rfl ⟨rn_ref rfl, trivial⟩ (rw_box (cs := [.ref 3]) (ds := [.ref 3]) rfl ⟨rn_ref rfl, trivial⟩ (rw_arr rfl encB_p rfl (rw_arr rfl encEnds_p rfl (rw_nil)))))⟩
  · replace h := ite_F h hb_9
    refine T.exit ?_
    obtain ⟨w_13, h, hw_13⟩ := map_inr h
    replace h := h.trans (congrArg some (hv_8 _ hw_13))
    refine T.seq ?_
    refine T.region ?_
    refine RS.op rfl (OP.q rfl (v_assign (v := .int .i64 (-1)) rfl ?_))
    refine RS.nil ?_
    refine T.ret' (R := ?R14) ?hq14 ?_
    case hq14 => repeat (first | exact RetIs.base | refine RetIs.thn ?_ | refine RetIs.blk ?_ | refine RetIs.lq ?_)
    refine res_tmpA (v := .int .i64 (-1)) rfl ?_
    refine res_done ?_
    exact ret_norm (v := .int .i64 (-1)) (aw1 := [.box [.ref 2], .box [.ref 3], .arr 4 1 (List.map encB p1), .arr 121 2 (List.map encEnds p2)]) (.int .i64 r) [0, 1, 2, 3] rfl (by decide) (by decide) (rn_int (congrArg (fun r : Int => r) (Option.some.inj h)).symm) (rw_box (cs := [.ref 2]) (ds := [.ref 2]) rfl ⟨rn_ref rfl, trivial⟩ (rw_box (cs := [.ref 3]) (ds := [.ref 3]) rfl ⟨rn_ref rfl, trivial⟩ (rw_arr rfl encB_p rfl (rw_arr rfl encEnds_p rfl (rw_nil))))) ⟨rfl, rfl⟩
theorem slices_ContainsFunc_int_x5d6b_c (p0 : List Int) (p1 : List Bool) (p2 : List Ends) (r : Bool) (h : slices_ContainsFunc_int_x5d6b p0 p1 p2 = some r) : FnX Try.prog 68 [.sl (List.map encI p0), .func 69 [.ptr 0 0, .ptr 1 0]] [.box [.ref 2], .box [.ref 3], .arr 4 1 (List.map encB p1), .arr 121 2 (List.map encEnds p2)] (.bool r) [.box [.ref 2], .box [.ref 3], .arr 4 1 (List.map encB p1), .arr 121 2 (List.map encEnds p2)] := by
  unfold slices_ContainsFunc_int_x5d6b at h
  refine fn_of_T (N := 4) rfl Try.func68 rfl (by kernel_rfl) Try.ntmps68 rfl ?_
  show T _ _ _ _ (mkA 9 [(0, .sl (List.map encI p0)), (1, .func 69 [.ptr 0 0, .ptr 1 0])]) [.box [.ref 2], .box [.ref 3], .arr 4 1 (List.map encB p1), .arr 121 2 (List.map encEnds p2)]
  refine T.seq ?_
  refine T.region ?_
  refine RS.op rfl (OP.q rfl (v_assign (v := .bool false) rfl ?_))
  refine RS.nil ?_
  refine T.seq ?_
  obtain ⟨x2, hx2, h⟩ := bind_some h
  refine T.region ?_
  refine RS.op rfl (OP.q rfl (v_move (v := .sl (List.map encI p0)) rfl ?_))
  refine RS.op rfl (OP.q rfl (v_move (v := .func 69 [.ptr 0 0, .ptr 1 0]) rfl ?_))
  refine RS.op rfl (o_callF (ac := [.sl (List.map encI p0), .func 69 [.ptr 0 0, .ptr 1 0]]) (as0 := [.sl (List.map encI p0), .func 69 [.ptr 0 0, .ptr 1 0]]) (aw0 := [.box [.ref 2], .box [.ref 3], .arr 4 1 (List.map encB p1), .arr 121 2 (List.map encEnds p2)]) (aw1 := [.box [.ref 2], .box [.ref 3], .arr 4 1 (List.map encB p1), .arr 121 2 (List.map encEnds p2)]) (aw2 := [.box [.ref 2], .box [.ref 3], .arr 4 1 (List.map encB p1), .arr 121 2 (List.map encEnds p2)]) (v := .int .i64 x2) (v' := .int .i64 x2) (n0 := 4) (n1 := 4) [0, 1, 2, 3] rfl rfl rfl rfl (by decide) (rw_box (cs := [.ref 2]) (ds := [.ref 2]) rfl ⟨rn_ref rfl, trivial⟩ (rw_box (cs := [.ref 3]) (ds := [.ref 3]) rfl ⟨rn_ref rfl, trivial⟩ (rw_arr rfl encB_p rfl (rw_arr rfl encEnds_p rfl (rw_nil))))) ⟨rn_sl encI_p rfl, rn_func ⟨rn_ptr rfl, rn_ptr rfl, trivial⟩, trivial⟩ (slices_IndexFunc_int_x5d6b_c p0 p1 p2 x2 hx2) rfl (rm_pure (pure_int _ _)) ⟨.inl ⟨0, _, by decide, rfl, rom_box (cs := [.ref 2]) (ds := [.ref 2]) ⟨rm_ref (by decide), trivial⟩⟩, .inl ⟨1, _, by decide, rfl, rom_box (cs := [.ref 3]) (ds := [.ref 3]) ⟨rm_ref (by decide), trivial⟩⟩, .inl ⟨2, _, by decide, rfl, rom_arr encB_p⟩, .inl ⟨3, _, by decide, rfl, rom_arr encEnds_p⟩, trivial⟩ ?_)
  refine RS.op rfl (OP.q rfl (v_geq rfl rfl ?_))
  refine RS.op rfl (OP.q rfl (v_assign (v := .bool (decide (x2 ≥ 0))) rfl ?_))
  refine RS.nil ?_
  refine T.ret' (R := ?R1) ?hq1 ?_
  case hq1 => repeat (first | exact RetIs.base | refine RetIs.thn ?_ | refine RetIs.blk ?_ | refine RetIs.lq ?_)
  refine res_tmpA (v := .bool (decide (x2 ≥ 0))) rfl ?_
  refine res_done ?_
  exact ret_norm (v := .bool (decide (x2 ≥ 0))) (aw1 := [.box [.ref 2], .box [.ref 3], .arr 4 1 (List.map encB p1), .arr 121 2 (List.map encEnds p2)]) (.bool r) [0, 1, 2, 3] rfl (by decide) (by decide) (rn_bool (congrArg (fun r : Bool => r) (Option.some.inj h)).symm) (rw_box (cs := [.ref 2]) (ds := [.ref 2]) rfl ⟨rn_ref rfl, trivial⟩ (rw_box (cs := [.ref 3]) (ds := [.ref 3]) rfl ⟨rn_ref rfl, trivial⟩ (rw_arr rfl encB_p rfl (rw_arr rfl encEnds_p rfl (rw_nil))))) ⟨rfl, rfl⟩
theorem net_Order_c (p0 : Net) (r : (List Int) × Int) (h : net_Order p0 = some r) : FnO Try.prog 28 [.agg [.sl (List.map encNode p0.Nodes), .int .i64 p0.Rings, .int .i64 p0.Room]] (.tup [.ref 0, .int .i64 r.2]) [.arr 3 1 (List.map encI r.1)] := by
  unfold net_Order at h
  refine fn_of_T (N := 0) rfl Try.func28 rfl (by kernel_rfl) Try.ntmps28 rfl ?_
  show T _ _ _ _ (mkA 61 [(0, .agg [.sl (List.map encNode p0.Nodes), .int .i64 p0.Rings, .int .i64 p0.Room])]) []
  refine T.seq ?_
  refine T.region ?_
  refine RS.op rfl (o_box (cs := [.sl (List.map encNode p0.Nodes), .int .i64 p0.Rings, .int .i64 p0.Room]) rfl rfl (aw' := [.box [.sl (List.map encNode p0.Nodes), .int .i64 p0.Rings, .int .i64 p0.Room]]) rfl ?_)
  refine RS.op rfl (OP.q rfl (v_assign (v := .nils) rfl ?_))
  refine RS.op rfl (OP.q rfl (v_assign (v := .int .i64 0) rfl ?_))
  refine RS.nil ?_
  refine T.seq ?_
  obtain ⟨x2, hx2, h⟩ := bind_some h
  refine T.region ?_
  refine RS.op rfl (o_load_ptr rfl rfl (loadRowA Ty.k56 Ty.c56 rfl (cs := [.sl (List.map encNode p0.Nodes), .int .i64 p0.Rings, .int .i64 p0.Room]) rfl ?_))
  refine RS.op rfl (o_call (as0 := [.agg [.sl (List.map encNode p0.Nodes), .int .i64 p0.Rings, .int .i64 p0.Room]]) (as1 := [.agg [.sl (List.map encNode p0.Nodes), .int .i64 p0.Rings, .int .i64 p0.Room]]) (caps := []) (aw1 := [.box [.sl (List.map encNode p0.Nodes), .int .i64 p0.Rings, .int .i64 p0.Room]]) rfl rfl rfl (k_own' (v := .tup [.ref 0, .int .i64 x2.2]) (obs := [.arr 121 2 (List.map encEnds x2.1)]) (v' := .tup [.ref 1, .int .i64 x2.2]) (aw' := [.box [.sl (List.map encNode p0.Nodes), .int .i64 p0.Rings, .int .i64 p0.Room], .arr 121 2 (List.map encEnds x2.1)]) (net_look_c p0 x2 hx2) (⟨pure_agg _ (pures_mem (⟨pure_map encNode_p _, pure_int _ _, pure_int _ _, trivial⟩)), trivial⟩) rfl (obs_cons (flatOb_map fun _ => rfl) obs_nil) rfl rfl ?_))
  refine RS.op rfl (OP.q rfl (v_move (v := .tup [.ref 1, .int .i64 x2.2]) rfl ?_))
  refine RS.op rfl (OP.q rfl (v_extract (v := .ref 1) rfl rfl ?_))
  refine RS.op rfl (OP.q rfl (v_extract (v := .int .i64 x2.2) rfl rfl ?_))
  refine RS.op rfl (o_alloc Ty.z115 rfl (aw' := [.box [.sl (List.map encNode p0.Nodes), .int .i64 p0.Rings, .int .i64 p0.Room], .arr 121 2 (List.map encEnds x2.1), .box [.nils]]) rfl ?_)
  refine RS.op rfl (o_store_ptr Ty.c115 Ty.i115 rfl (vs := [.ref 1]) rfl rfl rfl rfl (cs' := [.ref 1]) rfl (aw' := [.box [.sl (List.map encNode p0.Nodes), .int .i64 p0.Rings, .int .i64 p0.Room], .arr 121 2 (List.map encEnds x2.1), .box [.ref 1]]) rfl ?_)
  refine RS.op rfl (OP.q rfl (v_assign (v := .int .i64 x2.2) rfl ?_))
  refine RS.nil ?_
  refine T.seq ?_
  refine T.seq ?_
  refine T.region ?_
  refine RS.op rfl (OP.q rfl (v_move (v := .int .i64 x2.2) rfl ?_))
  refine RS.op rfl (OP.q rfl (v_neq rfl rfl ?_))
  refine RS.nil ?_
  refine T.cond (b := x2.2 != 0) rfl (fun hb_1 => ?_) (fun hb_1 => ?_)
  · replace h := ite_T h hb_1
    refine T.seq ?_
    refine T.region ?_
    refine RS.op rfl (OP.q rfl (v_move (v := .int .i64 x2.2) rfl ?_))
    refine RS.op rfl (OP.q rfl (v_assign (v := .nils) rfl ?_))
    refine RS.op rfl (OP.q rfl (v_assign (v := .int .i64 x2.2) rfl ?_))
    refine RS.nil ?_
    refine T.ret' (R := ?R2) ?hq2 ?_
    case hq2 => repeat (first | exact RetIs.base | refine RetIs.thn ?_ | refine RetIs.blk ?_ | refine RetIs.lq ?_)
    refine res_tmpA (v := .nils) rfl ?_
    refine res_tmpA (v := .int .i64 x2.2) rfl ?_
    refine res_done ?_
    exact ret_own (.tup [.ref 0, .int .i64 r.2]) [(0, 3, 1)] [3] (by decide) (none_kept _) rfl (rn_tup ⟨rn_ref rfl, rn_int (congrArg (fun r : (List Int) × Int => r.2) (Option.some.inj h)).symm, trivial⟩) (rw_arr (en := encI) (ys := []) rfl encI_p (congrArg (fun r : (List Int) × Int => r.1) (Option.some.inj h)).symm (rw_nil)) ⟨rfl, rfl⟩
  · replace h := ite_F h hb_1
    refine T.skip ?_
    refine T.seq ?_
    refine T.region ?_
    refine RS.op rfl (OP.q rfl (v_assign (v := .nils) rfl ?_))
    refine RS.nil ?_
    refine T.seq ?_
    obtain ⟨x4, hx4, h⟩ := bind_some h
    refine T.region ?_
    refine RS.op rfl (OP.q rfl (v_fieldAddr_ptr Ty.f56_0 rfl (off' := 0) rfl ?_))
    refine RS.op rfl (o_load_ptr rfl rfl (loadRow1 Ty.k54 (c := .sl (List.map encNode p0.Nodes)) rfl ?_))
    refine RS.op rfl (OP.q rfl (v_len_sl Ty.s54 rfl ?_))
    refine RS.op rfl (o_mk (en := encB) (zr := false) Ty.s118 Ty.z4 rfl rfl hx4 rfl (aw' := [.box [.sl (List.map encNode p0.Nodes), .int .i64 p0.Rings, .int .i64 p0.Room], .arr 121 2 (List.map encEnds x2.1), .box [.ref 1], .arr 4 1 (List.map encB x4)]) rfl ?_)
    refine RS.op rfl (o_alloc Ty.z118 rfl (aw' := [.box [.sl (List.map encNode p0.Nodes), .int .i64 p0.Rings, .int .i64 p0.Room], .arr 121 2 (List.map encEnds x2.1), .box [.ref 1], .arr 4 1 (List.map encB x4), .box [.nils]]) rfl ?_)
    refine RS.op rfl (o_store_ptr Ty.c118 Ty.i118 rfl (vs := [.ref 3]) rfl rfl rfl rfl (cs' := [.ref 3]) rfl (aw' := [.box [.sl (List.map encNode p0.Nodes), .int .i64 p0.Rings, .int .i64 p0.Room], .arr 121 2 (List.map encEnds x2.1), .box [.ref 1], .arr 4 1 (List.map encB x4), .box [.ref 3]]) rfl ?_)
    refine RS.nil ?_
    refine T.seq ?_
    refine T.block ?_
    refine T.iter (fun ss_75 : (List Int) × (List Bool) => mkA 61 [(1, .ptr 0 0), (4, .ptr 1 0), (6, .ref 2), (7, .ptr 3 0)]) (fun ss_75 => [.box [.sl (List.map encNode p0.Nodes), .int .i64 p0.Rings, .int .i64 p0.Room], .box [.ref 4], .arr 3 1 (List.map encI ss_75.1), .box [.ref 5], .arr 121 2 (List.map encEnds x2.1), .arr 4 1 (List.map encB ss_75.2)]) h (Weak.mkN [(6, 3, 1)] [0, 2, 5, 4, 1, 3] (by decide) (none_kept _) rfl ⟨rn_ptr rfl, rn_ptr rfl, rn_ref rfl, rn_ptr rfl, trivial⟩ (rw_box (cs := [.sl (List.map encNode p0.Nodes), .int .i64 p0.Rings, .int .i64 p0.Room]) (ds := [.sl (List.map encNode p0.Nodes), .int .i64 p0.Rings, .int .i64 p0.Room]) rfl ⟨rn_sl encNode_p rfl, rn_int rfl, rn_int rfl, trivial⟩ (rw_box (cs := [.ref 4]) (ds := [.ref 1]) rfl ⟨rn_ref rfl, trivial⟩ (rw_arr (en := encI) (ys := []) rfl encI_p rfl (rw_box (cs := [.ref 5]) (ds := [.ref 3]) rfl ⟨rn_ref rfl, trivial⟩ (rw_arr rfl encEnds_p rfl (rw_arr rfl encB_p rfl (rw_nil)))))))) (fun ss_75 v_76 h hv_76 => ?_)
    obtain ⟨s5, s6⟩ := ss_75
    replace h : net_Order_l3 p0 x2 s5 s6 = some v_76 := h
    show T _ _ _ _ (mkA 61 [(1, .ptr 0 0), (4, .ptr 1 0), (6, .ref 2), (7, .ptr 3 0)]) [.box [.sl (List.map encNode p0.Nodes), .int .i64 p0.Rings, .int .i64 p0.Room], .box [.ref 4], .arr 3 1 (List.map encI s5), .box [.ref 5], .arr 121 2 (List.map encEnds x2.1), .arr 4 1 (List.map encB s6)]
    unfold net_Order_l3 at h
    refine T.seq ?_
    refine T.seq ?_
    refine T.region ?_
    refine RS.op rfl (OP.q rfl (v_move (v := .ref 2) rfl ?_))
    refine RS.op rfl (OP.q rfl (v_len_ref (en := encI) Ty.s57 rfl rfl ?_))
    refine RS.op rfl (OP.q rfl (v_fieldAddr_ptr Ty.f56_0 rfl (off' := 0) rfl ?_))
    refine RS.op rfl (o_load_ptr rfl rfl (loadRow1 Ty.k54 (c := .sl (List.map encNode p0.Nodes)) rfl ?_))
    refine RS.op rfl (OP.q rfl (v_len_sl Ty.s54 rfl ?_))
    refine RS.op rfl (OP.q rfl (v_lss rfl rfl ?_))
    refine RS.nil ?_
    refine T.cond (b := decide (((s5).length : Int) < ((p0.Nodes).length : Int))) rfl (fun hb_77 => ?_) (fun hb_77 => ?_)
    · replace h := ite_T h hb_77
      refine T.skip ?_
      refine T.block ?_
      refine T.seq ?_
      refine T.region ?_
      refine RS.op rfl (OP.q rfl (v_assign (v := .int .i64 (-1)) rfl ?_))
      refine RS.nil ?_
      refine T.join (Z := Int) (fun zz_94 => mkA 61 [(1, .ptr 0 0), (4, .ptr 1 0), (6, .ref 2), (7, .ptr 3 0), (8, .int .i64 zz_94)]) (fun zz_94 => [.box [.sl (List.map encNode p0.Nodes), .int .i64 p0.Rings, .int .i64 p0.Room], .box [.ref 4], .arr 3 1 (List.map encI s5), .box [.ref 5], .arr 121 2 (List.map encEnds x2.1), .arr 4 1 (List.map encB s6)]) (fun zz_94 => net_Order_k1 s5 s6 zz_94 = some v_76) (fun zz_94 h => ?_) (fun hK1 => ?_)
      · revert h; revert zz_94; intro z14 h
        replace h : net_Order_k1 s5 s6 z14 = some v_76 := h
        show T _ _ _ _ (mkA 61 [(1, .ptr 0 0), (4, .ptr 1 0), (6, .ref 2), (7, .ptr 3 0), (8, .int .i64 z14)]) [.box [.sl (List.map encNode p0.Nodes), .int .i64 p0.Rings, .int .i64 p0.Room], .box [.ref 4], .arr 3 1 (List.map encI s5), .box [.ref 5], .arr 121 2 (List.map encEnds x2.1), .arr 4 1 (List.map encB s6)]
        unfold net_Order_k1 at h
        refine T.seq ?_
        refine T.seq ?_
        refine T.region ?_
        refine RS.op rfl (OP.q rfl (v_move (v := .int .i64 z14) rfl ?_))
        refine RS.op rfl (OP.q rfl (v_lss rfl rfl ?_))
        refine RS.nil ?_
        refine T.cond (b := decide (z14 < 0)) rfl (fun hb_95 => ?_) (fun hb_95 => ?_)
        · replace h := ite_T h hb_95
          refine T.seq ?_
          refine T.region ?_
          refine RS.op rfl (OP.q rfl (v_assign (v := .nils) rfl ?_))
          refine RS.op rfl (OP.q rfl (v_assign (v := .int .i64 7) rfl ?_))
          refine RS.nil ?_
          refine T.ret' (R := ?R96) ?hq96 ?_
          case hq96 => repeat (first | exact RetIs.base | refine RetIs.thn ?_ | refine RetIs.blk ?_ | refine RetIs.lq ?_)
          obtain ⟨w_97, h, hw_97⟩ := map_inr h
          replace h := h.trans (congrArg some (hv_76 _ hw_97))
          refine res_tmpA (v := .nils) rfl ?_
          refine res_tmpA (v := .int .i64 7) rfl ?_
          refine res_done ?_
          exact ret_own (.tup [.ref 0, .int .i64 r.2]) [(0, 3, 1)] [6] (by decide) (none_kept _) rfl (rn_tup ⟨rn_ref rfl, rn_int (congrArg (fun r : (List Int) × Int => r.2) (Option.some.inj h)).symm, trivial⟩) (rw_arr (en := encI) (ys := []) rfl encI_p (congrArg (fun r : (List Int) × Int => r.1) (Option.some.inj h)).symm (rw_nil)) ⟨rfl, rfl⟩
        · replace h := ite_F h hb_95
          refine T.skip ?_
          refine T.seq ?_
          obtain ⟨x17, hx17, h⟩ := bind_some h
          obtain ⟨x18, hx18, h⟩ := bind_some h
          refine T.region ?_
          refine RS.op rfl (o_load_ptr rfl rfl (loadRow1 Ty.k118 (c := .ref 5) rfl ?_))
          refine RS.op rfl (OP.q rfl (v_move (v := .int .i64 z14) rfl ?_))
          refine RS.op rfl (OP.q rfl (v_index_ref' (en := encB) Ty.s118 rfl rfl rfl hx17 ?_))
          refine RS.op rfl (o_store_aptr' (en := encB) (a := x18) (a' := true) Ty.c4 Ty.i4 rfl (vs := [.bool true]) rfl rfl rfl hx18 rfl rfl (aw' := [.box [.sl (List.map encNode p0.Nodes), .int .i64 p0.Rings, .int .i64 p0.Room], .box [.ref 4], .arr 3 1 (List.map encI s5), .box [.ref 5], .arr 121 2 (List.map encEnds x2.1), .arr 4 1 (List.map encB (List.set s6 x17 true))]) rfl ?_)
          refine RS.nil ?_
          obtain ⟨x19, hx19, h⟩ := bind_some h
          refine T.region ?_
          refine RS.op rfl (OP.q rfl (v_move (v := .ref 2) rfl ?_))
          refine RS.op rfl (OP.q rfl (v_move (v := .int .i64 z14) rfl ?_))
          refine RS.op rfl (o_buildSlice (rows := List.map encI [z14]) (vs := [.int .i64 z14]) Ty.s57 Ty.z3 rfl rfl rfl rfl rfl (aw' := [.box [.sl (List.map encNode p0.Nodes), .int .i64 p0.Rings, .int .i64 p0.Room], .box [.ref 4], .arr 3 1 (List.map encI s5), .box [.ref 5], .arr 121 2 (List.map encEnds x2.1), .arr 4 1 (List.map encB (List.set s6 x17 true)), .arr 3 1 (List.map encI [z14])]) rfl ?_)
          refine RS.op rfl (o_app_ref (en := encI) (xs := s5) (ys := ([z14] : List Int)) Ty.s57 (fun _ => rfl) rfl rfl rfl hx19 rfl (aw' := [.box [.sl (List.map encNode p0.Nodes), .int .i64 p0.Rings, .int .i64 p0.Room], .box [.ref 4], .dead, .box [.ref 5], .arr 121 2 (List.map encEnds x2.1), .arr 4 1 (List.map encB (List.set s6 x17 true)), .dead, .arr 3 1 (List.map encI x19)]) rfl ?_)
          refine RS.op rfl (OP.q rfl (v_assign (v := .ref 7) rfl ?_))
          refine RS.nil ?_
          exact ⟨(x19, (List.set s6 x17 true)), (Option.some.inj h).symm, Weak.mkN [] [0, 1, 7, 3, 4, 5] (by decide) (none_kept _) rfl ⟨rn_ptr rfl, rn_ptr rfl, rn_ref rfl, rn_ptr rfl, trivial⟩ (rw_box (cs := [.sl (List.map encNode p0.Nodes), .int .i64 p0.Rings, .int .i64 p0.Room]) (ds := [.sl (List.map encNode p0.Nodes), .int .i64 p0.Rings, .int .i64 p0.Room]) rfl ⟨rn_sl encNode_p rfl, rn_int rfl, rn_int rfl, trivial⟩ (rw_box (cs := [.ref 4]) (ds := [.ref 4]) rfl ⟨rn_ref rfl, trivial⟩ (rw_arr rfl encI_p rfl (rw_box (cs := [.ref 5]) (ds := [.ref 5]) rfl ⟨rn_ref rfl, trivial⟩ (rw_arr rfl encEnds_p rfl (rw_arr rfl encB_p rfl (rw_nil)))))))⟩
      · refine T.seq ?_
        refine T.region ?_
        refine RS.op rfl (OP.q rfl (v_fieldAddr_ptr Ty.f56_0 rfl (off' := 0) rfl ?_))
        refine RS.op rfl (o_load_ptr rfl rfl (loadRow1 Ty.k54 (c := .sl (List.map encNode p0.Nodes)) rfl ?_))
        refine RS.op rfl (OP.q rfl (v_len_sl Ty.s54 rfl ?_))
        refine RS.op rfl (OP.q rfl (v_move (v := .int .i64 0) rfl ?_))
        refine RS.nil ?_
        refine T.block ?_
        refine T.iter (fun ss_106 : Int => mkA 61 [(1, .ptr 0 0), (4, .ptr 1 0), (6, .ref 2), (7, .ptr 3 0), (8, .int .i64 (-1)), (30, .sl (List.map encNode p0.Nodes)), (31, .int .i64 ((p0.Nodes).length : Int)), (32, .int .i64 ss_106)]) (fun ss_106 => [.box [.sl (List.map encNode p0.Nodes), .int .i64 p0.Rings, .int .i64 p0.Room], .box [.ref 4], .arr 3 1 (List.map encI s5), .box [.ref 5], .arr 121 2 (List.map encEnds x2.1), .arr 4 1 (List.map encB s6)]) h (Weak.mkN [] [0, 1, 2, 3, 4, 5] (by decide) (none_kept _) rfl ⟨rn_ptr rfl, rn_ptr rfl, rn_ref rfl, rn_ptr rfl, rn_int rfl, rn_sl encNode_p rfl, rn_int rfl, rn_int rfl, trivial⟩ (rw_box (cs := [.sl (List.map encNode p0.Nodes), .int .i64 p0.Rings, .int .i64 p0.Room]) (ds := [.sl (List.map encNode p0.Nodes), .int .i64 p0.Rings, .int .i64 p0.Room]) rfl ⟨rn_sl encNode_p rfl, rn_int rfl, rn_int rfl, trivial⟩ (rw_box (cs := [.ref 4]) (ds := [.ref 4]) rfl ⟨rn_ref rfl, trivial⟩ (rw_arr rfl encI_p rfl (rw_box (cs := [.ref 5]) (ds := [.ref 5]) rfl ⟨rn_ref rfl, trivial⟩ (rw_arr rfl encEnds_p rfl (rw_arr rfl encB_p rfl (rw_nil)))))))) (fun ss_106 v_107 h hv_107 => ?_)
        revert hv_107 h; revert ss_106; intro s7 h hv_107
        replace h : net_Order_l2 p0 x2 s5 s6 s7 = some v_107 := h
        show T _ _ _ _ (mkA 61 [(1, .ptr 0 0), (4, .ptr 1 0), (6, .ref 2), (7, .ptr 3 0), (8, .int .i64 (-1)), (30, .sl (List.map encNode p0.Nodes)), (31, .int .i64 ((p0.Nodes).length : Int)), (32, .int .i64 s7)]) [.box [.sl (List.map encNode p0.Nodes), .int .i64 p0.Rings, .int .i64 p0.Room], .box [.ref 4], .arr 3 1 (List.map encI s5), .box [.ref 5], .arr 121 2 (List.map encEnds x2.1), .arr 4 1 (List.map encB s6)]
        unfold net_Order_l2 at h
        refine T.seq ?_
        refine T.region ?_
        refine RS.op rfl (OP.q rfl (v_lss rfl rfl ?_))
        refine RS.nil ?_
        refine T.seq ?_
        refine T.cond (b := decide (s7 < ((p0.Nodes).length : Int))) rfl (fun hb_108 => ?_) (fun hb_108 => ?_)
        · replace h := ite_T h hb_108
          refine T.skip ?_
          refine T.seq ?_
          refine T.block ?_
          refine T.seq ?_
          obtain ⟨x9, hx9, h⟩ := bind_some h
          refine T.region ?_
          refine RS.op rfl (OP.q rfl (v_move (v := .int .i64 s7) rfl ?_))
          refine RS.op rfl (OP.q rfl (v_index_sl Ty.s54 (fun _ => rfl) rfl rfl hx9 ?_))
          refine RS.op rfl (o_load_elt rfl (loadRowA Ty.k67 Ty.c67 rfl (cs := [.int .i64 x9.Kind, .int .i64 x9.A, .sl (List.map encI x9.In), .sl (List.map encI x9.Out)]) rfl ?_))
          refine RS.op rfl (o_alloc Ty.z67 rfl (aw' := [.box [.sl (List.map encNode p0.Nodes), .int .i64 p0.Rings, .int .i64 p0.Room], .box [.ref 4], .arr 3 1 (List.map encI s5), .box [.ref 5], .arr 121 2 (List.map encEnds x2.1), .arr 4 1 (List.map encB s6), .box [.int .i64 0, .int .i64 0, .nils, .nils]]) rfl ?_)
          refine RS.op rfl (OP.q rfl (v_assign (v := .int .i64 s7) rfl ?_))
          refine RS.op rfl (o_store_ptr Ty.c67 Ty.i67 rfl (vs := [.int .i64 x9.Kind, .int .i64 x9.A, .sl (List.map encI x9.In), .sl (List.map encI x9.Out)]) rfl rfl rfl rfl (cs' := [.int .i64 x9.Kind, .int .i64 x9.A, .sl (List.map encI x9.In), .sl (List.map encI x9.Out)]) rfl (aw' := [.box [.sl (List.map encNode p0.Nodes), .int .i64 p0.Rings, .int .i64 p0.Room], .box [.ref 4], .arr 3 1 (List.map encI s5), .box [.ref 5], .arr 121 2 (List.map encEnds x2.1), .arr 4 1 (List.map encB s6), .box [.int .i64 x9.Kind, .int .i64 x9.A, .sl (List.map encI x9.In), .sl (List.map encI x9.Out)]]) rfl ?_)
          refine RS.nil ?_
          obtain ⟨x10, hx10, h⟩ := bind_some h
          obtain ⟨x11, hx11, h⟩ := bind_some h
          obtain ⟨zt_110, hz, h⟩ := bind_some h
          revert hz h; revert zt_110; intro c13 hz h
          refine T.join (Z := Unit) (fun _ => mkA 61 [(1, .ptr 0 0), (4, .ptr 1 0), (6, .ref 2), (7, .ptr 3 0), (8, .int .i64 (-1)), (9, .int .i64 s7), (30, .sl (List.map encNode p0.Nodes)), (31, .int .i64 ((p0.Nodes).length : Int)), (32, .int .i64 s7), (48, .bool c13)]) (fun _ => [.box [.sl (List.map encNode p0.Nodes), .int .i64 p0.Rings, .int .i64 p0.Room], .box [.ref 4], .arr 3 1 (List.map encI s5), .box [.ref 5], .arr 121 2 (List.map encEnds x2.1), .arr 4 1 (List.map encB s6)]) (fun _ => True) (fun _ _ => ?_) (fun hK => ?_)
          · show T _ _ _ _ (mkA 61 [(1, .ptr 0 0), (4, .ptr 1 0), (6, .ref 2), (7, .ptr 3 0), (8, .int .i64 (-1)), (9, .int .i64 s7), (30, .sl (List.map encNode p0.Nodes)), (31, .int .i64 ((p0.Nodes).length : Int)), (32, .int .i64 s7), (48, .bool c13)]) [.box [.sl (List.map encNode p0.Nodes), .int .i64 p0.Rings, .int .i64 p0.Room], .box [.ref 4], .arr 3 1 (List.map encI s5), .box [.ref 5], .arr 121 2 (List.map encEnds x2.1), .arr 4 1 (List.map encB s6)]
            refine T.cond (b := c13) rfl (fun hb_111 => ?_) (fun hb_111 => ?_)
            · replace h := ite_T h hb_111
              refine T.seq ?_
              refine T.region ?_
              refine RS.op rfl (OP.q rfl (v_move (v := .int .i64 s7) rfl ?_))
              refine RS.op rfl (OP.q rfl (v_assign (v := .int .i64 s7) rfl ?_))
              refine RS.nil ?_
              refine T.exit ?_
              obtain ⟨w_112, h, hw_112⟩ := map_inr h
              replace h := h.trans (congrArg some (hv_107 _ hw_112))
              exact T.weakR (hK1 s7 h) (Weak.mkN [] [0, 1, 2, 3, 4, 5] (by decide) (none_kept _) rfl ⟨rn_ptr rfl, rn_ptr rfl, rn_ref rfl, rn_ptr rfl, rn_int rfl, trivial⟩ (rw_box (cs := [.sl (List.map encNode p0.Nodes), .int .i64 p0.Rings, .int .i64 p0.Room]) (ds := [.sl (List.map encNode p0.Nodes), .int .i64 p0.Rings, .int .i64 p0.Room]) rfl ⟨rn_sl encNode_p rfl, rn_int rfl, rn_int rfl, trivial⟩ (rw_box (cs := [.ref 4]) (ds := [.ref 4]) rfl ⟨rn_ref rfl, trivial⟩ (rw_arr rfl encI_p rfl (rw_box (cs := [.ref 5]) (ds := [.ref 5]) rfl ⟨rn_ref rfl, trivial⟩ (rw_arr rfl encEnds_p rfl (rw_arr rfl encB_p rfl (rw_nil))))))))
            · replace h := ite_F h hb_111
              refine T.skip ?_
              refine T.region ?_
              refine RS.op rfl (OP.q rfl (v_add rfl rfl ?_))
              refine RS.op rfl (OP.q rfl (v_move (v := .int .i64 (IntKind.i64.wrap (s7 + 1))) rfl ?_))
              refine RS.nil ?_
              exact ⟨IntKind.i64.wrap (s7 + 1), (Option.some.inj h).symm, Weak.mkN [] [0, 1, 2, 3, 4, 5] (by decide) (none_kept _) rfl ⟨rn_ptr rfl, rn_ptr rfl, rn_ref rfl, rn_ptr rfl, rn_int rfl, rn_sl encNode_p rfl, rn_int rfl, rn_int rfl, trivial⟩ (rw_box (cs := [.sl (List.map encNode p0.Nodes), .int .i64 p0.Rings, .int .i64 p0.Room]) (ds := [.sl (List.map encNode p0.Nodes), .int .i64 p0.Rings, .int .i64 p0.Room]) rfl ⟨rn_sl encNode_p rfl, rn_int rfl, rn_int rfl, trivial⟩ (rw_box (cs := [.ref 4]) (ds := [.ref 4]) rfl ⟨rn_ref rfl, trivial⟩ (rw_arr rfl encI_p rfl (rw_box (cs := [.ref 5]) (ds := [.ref 5]) rfl ⟨rn_ref rfl, trivial⟩ (rw_arr rfl encEnds_p rfl (rw_arr rfl encB_p rfl (rw_nil)))))))⟩
          · refine T.region ?_
            refine RS.op rfl (o_load_ptr rfl rfl (loadRow1 Ty.k118 (c := .ref 5) rfl ?_))
            refine RS.op rfl (OP.q rfl (v_move (v := .int .i64 s7) rfl ?_))
            refine RS.op rfl (OP.q rfl (v_index_ref' (en := encB) Ty.s118 rfl rfl rfl hx10 ?_))
            refine RS.op rfl (o_load_aptr' (en := encB) (a := x11) rfl rfl hx11 (loadRow1 Ty.k4 (c := .bool x11) rfl ?_))
            refine RS.op rfl (OP.q rfl (v_not rfl ?_))
            refine RS.op rfl (OP.q rfl (v_move (v := .bool (!x11)) rfl ?_))
            rcases bool_cases (!x11) with hb_109 | hb_109
            · replace hz := ite_T hz hb_109
              obtain ⟨x12, hx12, hz⟩ := bind_some hz
              refine RS.yes rfl rfl rfl hb_109 (OP.q rfl (v_fieldAddr_ptr Ty.f67_2 rfl (off' := 2) rfl ?_))
              refine RS.yes rfl rfl rfl hb_109 (o_load_ptr rfl rfl (loadRow1 Ty.k57 (c := .sl (List.map encI x9.In)) rfl ?_))
              refine RS.yes rfl rfl rfl hb_109 (OP.q rfl (v_makeFunc (cs := [.ptr 3 0, .ptr 1 0]) rfl ?_))
              refine RS.yes rfl rfl rfl hb_109 (o_callF (ac := [.sl (List.map encI x9.In), .func 69 [.ptr 3 0, .ptr 1 0]]) (as0 := [.sl (List.map encI x9.In), .func 69 [.ptr 0 0, .ptr 1 0]]) (aw0 := [.box [.ref 2], .box [.ref 3], .arr 4 1 (List.map encB s6), .arr 121 2 (List.map encEnds x2.1)]) (aw1 := [.box [.ref 2], .box [.ref 3], .arr 4 1 (List.map encB s6), .arr 121 2 (List.map encEnds x2.1)]) (aw2 := [.box [.sl (List.map encNode p0.Nodes), .int .i64 p0.Rings, .int .i64 p0.Room], .box [.ref 4], .arr 3 1 (List.map encI s5), .box [.ref 5], .arr 121 2 (List.map encEnds x2.1), .arr 4 1 (List.map encB s6), .box [.int .i64 x9.Kind, .int .i64 x9.A, .sl (List.map encI x9.In), .sl (List.map encI x9.Out)]]) (v := .bool x12) (v' := .bool x12) (n0 := 7) (n1 := 4) [3, 1, 5, 4] rfl rfl rfl rfl (by decide) (rw_box (cs := [.ref 2]) (ds := [.ref 5]) rfl ⟨rn_ref rfl, trivial⟩ (rw_box (cs := [.ref 3]) (ds := [.ref 4]) rfl ⟨rn_ref rfl, trivial⟩ (rw_arr rfl encB_p rfl (rw_arr rfl encEnds_p rfl (rw_nil))))) ⟨rn_sl encI_p rfl, rn_func ⟨rn_ptr rfl, rn_ptr rfl, trivial⟩, trivial⟩ (slices_ContainsFunc_int_x5d6b_c x9.In s6 x2.1 x12 hx12) rfl (rm_pure (pure_bool _)) ⟨.inr ⟨rfl, rfl⟩, .inl ⟨1, _, by decide, rfl, rom_box (cs := [.ref 4]) (ds := [.ref 3]) ⟨rm_ref (by decide), trivial⟩⟩, .inr ⟨rfl, rfl⟩, .inl ⟨0, _, by decide, rfl, rom_box (cs := [.ref 5]) (ds := [.ref 2]) ⟨rm_ref (by decide), trivial⟩⟩, .inl ⟨3, _, by decide, rfl, rom_arr encEnds_p⟩, .inl ⟨2, _, by decide, rfl, rom_arr encB_p⟩, .inr ⟨rfl, rfl⟩, trivial⟩ ?_)
              refine RS.yes rfl rfl rfl hb_109 (OP.q rfl (v_not rfl ?_))
              refine RS.op rfl (OP.q rfl (v_pickT (v := .bool (!x12)) rfl hb_109 rfl ?_))
              refine RS.nil ?_
              exact T.weakR (hK () trivial) (Weak.mkN [] [0, 1, 2, 3, 4, 5] (by decide) (none_kept _) rfl ⟨rn_ptr rfl, rn_ptr rfl, rn_ref rfl, rn_ptr rfl, rn_int rfl, rn_int rfl, rn_sl encNode_p rfl, rn_int rfl, rn_int rfl, rn_bool ((congrArg (fun p => p) (Option.some.inj hz)).symm), trivial⟩ (rw_box (cs := [.sl (List.map encNode p0.Nodes), .int .i64 p0.Rings, .int .i64 p0.Room]) (ds := [.sl (List.map encNode p0.Nodes), .int .i64 p0.Rings, .int .i64 p0.Room]) rfl ⟨rn_sl encNode_p rfl, rn_int rfl, rn_int rfl, trivial⟩ (rw_box (cs := [.ref 4]) (ds := [.ref 4]) rfl ⟨rn_ref rfl, trivial⟩ (rw_arr rfl encI_p rfl (rw_box (cs := [.ref 5]) (ds := [.ref 5]) rfl ⟨rn_ref rfl, trivial⟩ (rw_arr rfl encEnds_p rfl (rw_arr rfl encB_p rfl (rw_nil))))))))
            · replace hz := ite_F hz hb_109
              refine RS.no rfl rfl rfl hb_109 ?_
              refine RS.no rfl rfl rfl hb_109 ?_
              refine RS.no rfl rfl rfl hb_109 ?_
              refine RS.no rfl rfl rfl hb_109 ?_
              refine RS.no rfl rfl rfl hb_109 ?_
              refine RS.op rfl (OP.q rfl (v_pickF (v := .bool false) rfl hb_109 rfl ?_))
              refine RS.nil ?_
              exact T.weakR (hK () trivial) (Weak.mkN [] [0, 1, 2, 3, 4, 5] (by decide) (none_kept _) rfl ⟨rn_ptr rfl, rn_ptr rfl, rn_ref rfl, rn_ptr rfl, rn_int rfl, rn_int rfl, rn_sl encNode_p rfl, rn_int rfl, rn_int rfl, rn_bool ((congrArg (fun p => p) (Option.some.inj hz)).symm), trivial⟩ (rw_box (cs := [.sl (List.map encNode p0.Nodes), .int .i64 p0.Rings, .int .i64 p0.Room]) (ds := [.sl (List.map encNode p0.Nodes), .int .i64 p0.Rings, .int .i64 p0.Room]) rfl ⟨rn_sl encNode_p rfl, rn_int rfl, rn_int rfl, trivial⟩ (rw_box (cs := [.ref 4]) (ds := [.ref 4]) rfl ⟨rn_ref rfl, trivial⟩ (rw_arr rfl encI_p rfl (rw_box (cs := [.ref 5]) (ds := [.ref 5]) rfl ⟨rn_ref rfl, trivial⟩ (rw_arr rfl encEnds_p rfl (rw_arr rfl encB_p rfl (rw_nil))))))))
        · replace h := ite_F h hb_108
          refine T.exit ?_
          obtain ⟨w_113, h, hw_113⟩ := map_inr h
          replace h := h.trans (congrArg some (hv_107 _ hw_113))
          exact T.weakR (hK1 (-1) h) (Weak.mkN [] [0, 1, 2, 3, 4, 5] (by decide) (none_kept _) rfl ⟨rn_ptr rfl, rn_ptr rfl, rn_ref rfl, rn_ptr rfl, rn_int rfl, trivial⟩ (rw_box (cs := [.sl (List.map encNode p0.Nodes), .int .i64 p0.Rings, .int .i64 p0.Room]) (ds := [.sl (List.map encNode p0.Nodes), .int .i64 p0.Rings, .int .i64 p0.Room]) rfl ⟨rn_sl encNode_p rfl, rn_int rfl, rn_int rfl, trivial⟩ (rw_box (cs := [.ref 4]) (ds := [.ref 4]) rfl ⟨rn_ref rfl, trivial⟩ (rw_arr rfl encI_p rfl (rw_box (cs := [.ref 5]) (ds := [.ref 5]) rfl ⟨rn_ref rfl, trivial⟩ (rw_arr rfl encEnds_p rfl (rw_arr rfl encB_p rfl (rw_nil))))))))
    · replace h := ite_F h hb_77
      refine T.exit ?_
      obtain ⟨w_114, h, hw_114⟩ := map_inr h
      replace h := h.trans (congrArg some (hv_76 _ hw_114))
      refine T.seq ?_
      refine T.region ?_
      refine RS.op rfl (OP.q rfl (v_move (v := .ref 2) rfl ?_))
      refine RS.op rfl (OP.q rfl (v_assign (v := .ref 2) rfl ?_))
      refine RS.op rfl (OP.q rfl (v_assign (v := .int .i64 0) rfl ?_))
      refine RS.nil ?_
      refine T.ret' (R := ?R115) ?hq115 ?_
      case hq115 => repeat (first | exact RetIs.base | refine RetIs.thn ?_ | refine RetIs.blk ?_ | refine RetIs.lq ?_)
      refine res_tmpA (v := .ref 2) rfl ?_
      refine res_tmpA (v := .int .i64 0) rfl ?_
      refine res_done ?_
      exact ret_own (.tup [.ref 0, .int .i64 r.2]) [] [2] (by decide) (none_kept _) rfl (rn_tup ⟨rn_ref rfl, rn_int (congrArg (fun r : (List Int) × Int => r.2) (Option.some.inj h)).symm, trivial⟩) (rw_arr rfl encI_p (congrArg (fun r : (List Int) × Int => r.1) (Option.some.inj h)).symm (rw_nil)) ⟨rfl, rfl⟩
theorem crosslaw_meeting_c (r : Net) (h : crosslaw_meeting = some r) : Fn Try.prog 70 [] (.agg [.sl (List.map encNode r.Nodes), .int .i64 r.Rings, .int .i64 r.Room]) := by
  unfold crosslaw_meeting at h
  refine fn_of_T (N := 0) rfl Try.func70 rfl (by kernel_rfl) Try.ntmps70 rfl ?_
  show T _ _ _ _ (mkA 12 []) []
  refine T.seq ?_
  refine T.region ?_
  refine RS.op rfl (o_alloc Ty.z56 rfl (aw' := [.box [.nils, .int .i64 0, .int .i64 0]]) rfl ?_)
  refine RS.nil ?_
  refine T.seq ?_
  refine T.region ?_
  refine RS.op rfl (o_buildSlice (rows := List.map encI [0]) (vs := [.int .i64 0]) Ty.s57 Ty.z3 rfl rfl rfl rfl rfl (aw' := [.box [.nils, .int .i64 0, .int .i64 0], .arr 3 1 (List.map encI [0])]) rfl ?_)
  refine RS.op rfl (OP.q rfl (v_build (cs := [.int .i64 1, .int .i64 0, .nils, .ref 1]) Ty.z67 Ty.p67 rfl ?_))
  refine RS.op rfl (o_buildSlice (rows := List.map encI [1]) (vs := [.int .i64 1]) Ty.s57 Ty.z3 rfl rfl rfl rfl rfl (aw' := [.box [.nils, .int .i64 0, .int .i64 0], .arr 3 1 (List.map encI [0]), .arr 3 1 (List.map encI [1])]) rfl ?_)
  refine RS.op rfl (OP.q rfl (v_build (cs := [.int .i64 1, .int .i64 1, .nils, .ref 2]) Ty.z67 Ty.p67 rfl ?_))
  refine RS.op rfl (o_buildSlice (rows := List.map encI [0, 1]) (vs := [.int .i64 0, .int .i64 1]) Ty.s57 Ty.z3 rfl rfl rfl rfl rfl (aw' := [.box [.nils, .int .i64 0, .int .i64 0], .arr 3 1 (List.map encI [0]), .arr 3 1 (List.map encI [1]), .arr 3 1 (List.map encI [0, 1])]) rfl ?_)
  refine RS.op rfl (o_buildSlice (rows := List.map encI [2]) (vs := [.int .i64 2]) Ty.s57 Ty.z3 rfl rfl rfl rfl rfl (aw' := [.box [.nils, .int .i64 0, .int .i64 0], .arr 3 1 (List.map encI [0]), .arr 3 1 (List.map encI [1]), .arr 3 1 (List.map encI [0, 1]), .arr 3 1 (List.map encI [2])]) rfl ?_)
  refine RS.op rfl (OP.q rfl (v_build (cs := [.int .i64 6, .int .i64 0, .ref 3, .ref 4]) Ty.z67 Ty.p67 rfl ?_))
  refine RS.op rfl (o_buildSlice (rows := List.map encI [2]) (vs := [.int .i64 2]) Ty.s57 Ty.z3 rfl rfl rfl rfl rfl (aw' := [.box [.nils, .int .i64 0, .int .i64 0], .arr 3 1 (List.map encI [0]), .arr 3 1 (List.map encI [1]), .arr 3 1 (List.map encI [0, 1]), .arr 3 1 (List.map encI [2]), .arr 3 1 (List.map encI [2])]) rfl ?_)
  refine RS.op rfl (OP.q rfl (v_build (cs := [.int .i64 8, .int .i64 0, .ref 5, .nils]) Ty.z67 Ty.p67 rfl ?_))
  refine RS.fz 1 rfl rfl (aw' := [.box [.nils, .int .i64 0, .int .i64 0], .dead, .arr 3 1 (List.map encI [1]), .arr 3 1 (List.map encI [0, 1]), .arr 3 1 (List.map encI [2]), .arr 3 1 (List.map encI [2])]) rfl ?_
  refine RS.fz 2 rfl rfl (aw' := [.box [.nils, .int .i64 0, .int .i64 0], .dead, .dead, .arr 3 1 (List.map encI [0, 1]), .arr 3 1 (List.map encI [2]), .arr 3 1 (List.map encI [2])]) rfl ?_
  refine RS.fz 3 rfl rfl (aw' := [.box [.nils, .int .i64 0, .int .i64 0], .dead, .dead, .dead, .arr 3 1 (List.map encI [2]), .arr 3 1 (List.map encI [2])]) rfl ?_
  refine RS.fz 4 rfl rfl (aw' := [.box [.nils, .int .i64 0, .int .i64 0], .dead, .dead, .dead, .dead, .arr 3 1 (List.map encI [2])]) rfl ?_
  refine RS.fz 5 rfl rfl (aw' := [.box [.nils, .int .i64 0, .int .i64 0], .dead, .dead, .dead, .dead, .dead]) rfl ?_
  refine RS.op rfl (o_buildSliceN (rows := List.map encNode [(⟨1, 0, [], [0]⟩ : Node), (⟨1, 1, [], [1]⟩ : Node), (⟨6, 0, [0, 1], [2]⟩ : Node), (⟨8, 0, [2], []⟩ : Node)]) (vs := [.agg [.int .i64 1, .int .i64 0, .nils, .sl (List.map encI [0])], .agg [.int .i64 1, .int .i64 1, .nils, .sl (List.map encI [1])], .agg [.int .i64 6, .int .i64 0, .sl (List.map encI [0, 1]), .sl (List.map encI [2])], .agg [.int .i64 8, .int .i64 0, .sl (List.map encI [2]), .nils]]) (vs2 := [.agg [.int .i64 1, .int .i64 0, .sl (List.map encI []), .sl (List.map encI [0])], .agg [.int .i64 1, .int .i64 1, .sl (List.map encI []), .sl (List.map encI [1])], .agg [.int .i64 6, .int .i64 0, .sl (List.map encI [0, 1]), .sl (List.map encI [2])], .agg [.int .i64 8, .int .i64 0, .sl (List.map encI [2]), .sl (List.map encI [])]]) Ty.s54 Ty.z67 rfl rfl rfl rfl rfl (aw' := [.box [.nils, .int .i64 0, .int .i64 0], .dead, .dead, .dead, .dead, .dead, .arr 67 4 (List.map encNode [(⟨1, 0, [], [0]⟩ : Node), (⟨1, 1, [], [1]⟩ : Node), (⟨6, 0, [0, 1], [2]⟩ : Node), (⟨8, 0, [2], []⟩ : Node)])]) rfl ?_)
  refine RS.op rfl (OP.q rfl (v_build (cs := [.ref 6, .int .i64 3, .int .i64 1]) Ty.z56 Ty.p56 rfl ?_))
  refine RS.op rfl (o_store_ptr Ty.c56 Ty.i56 rfl (vs := [.ref 6, .int .i64 3, .int .i64 1]) rfl rfl rfl rfl (cs' := [.ref 6, .int .i64 3, .int .i64 1]) rfl (aw' := [.box [.ref 6, .int .i64 3, .int .i64 1], .dead, .dead, .dead, .dead, .dead, .arr 67 4 (List.map encNode [(⟨1, 0, [], [0]⟩ : Node), (⟨1, 1, [], [1]⟩ : Node), (⟨6, 0, [0, 1], [2]⟩ : Node), (⟨8, 0, [2], []⟩ : Node)])]) rfl ?_)
  refine RS.nil ?_
  refine T.ret' (R := ?R1) ?hq1 ?_
  case hq1 => repeat (first | exact RetIs.base | refine RetIs.thn ?_ | refine RetIs.blk ?_ | refine RetIs.lq ?_)
  refine res_cellA (id := 0) (off := 0) (cs := [.ref 6, .int .i64 3, .int .i64 1]) (v := .agg [.ref 6, .int .i64 3, .int .i64 1]) ?_ ?_ ?_ ?_
  · rfl
  · rfl
  · exact fun K h => (loadRowA (row := [.ref 6, .int .i64 3, .int .i64 1]) (off := 0) Ty.k56 Ty.c56 rfl (cs := [.ref 6, .int .i64 3, .int .i64 1]) rfl h)
  refine res_done ?_
  exact ret_data (v := .agg [.sl (List.map encNode [(⟨1, 0, [], [0]⟩ : Node), (⟨1, 1, [], [1]⟩ : Node), (⟨6, 0, [0, 1], [2]⟩ : Node), (⟨8, 0, [2], []⟩ : Node)]), .int .i64 3, .int .i64 1]) rfl (pure_agg _ (pures_mem (⟨pure_map encNode_p _, pure_int _ _, pure_int _ _, trivial⟩))) ⟨congrArg (fun r : Net => (.agg [.sl (List.map encNode r.Nodes), .int .i64 r.Rings, .int .i64 r.Room] : AV)) (Option.some.inj h), rfl⟩
theorem net_Check_c (p0 : Net) (r : Int) (h : net_Check p0 = some r) : Fn Try.prog 33 [.agg [.sl (List.map encNode p0.Nodes), .int .i64 p0.Rings, .int .i64 p0.Room]] (.int .i64 r) := by
  unfold net_Check at h
  refine fn_of_T (N := 0) rfl Try.func33 rfl (by kernel_rfl) Try.ntmps33 rfl ?_
  show T _ _ _ _ (mkA 11 [(0, .agg [.sl (List.map encNode p0.Nodes), .int .i64 p0.Rings, .int .i64 p0.Room])]) []
  refine T.seq ?_
  refine T.region ?_
  refine RS.op rfl (o_box (cs := [.sl (List.map encNode p0.Nodes), .int .i64 p0.Rings, .int .i64 p0.Room]) rfl rfl (aw' := [.box [.sl (List.map encNode p0.Nodes), .int .i64 p0.Rings, .int .i64 p0.Room]]) rfl ?_)
  refine RS.op rfl (OP.q rfl (v_assign (v := .int .i64 0) rfl ?_))
  refine RS.nil ?_
  refine T.seq ?_
  obtain ⟨x2, hx2, h⟩ := bind_some h
  refine T.region ?_
  refine RS.op rfl (o_load_ptr rfl rfl (loadRowA Ty.k56 Ty.c56 rfl (cs := [.sl (List.map encNode p0.Nodes), .int .i64 p0.Rings, .int .i64 p0.Room]) rfl ?_))
  refine RS.op rfl (o_call (as0 := [.agg [.sl (List.map encNode p0.Nodes), .int .i64 p0.Rings, .int .i64 p0.Room]]) (as1 := [.agg [.sl (List.map encNode p0.Nodes), .int .i64 p0.Rings, .int .i64 p0.Room]]) (caps := []) (aw1 := [.box [.sl (List.map encNode p0.Nodes), .int .i64 p0.Rings, .int .i64 p0.Room]]) rfl rfl rfl (k_own' (v := .tup [.ref 0, .int .i64 x2.2]) (obs := [.arr 3 1 (List.map encI x2.1)]) (v' := .tup [.ref 1, .int .i64 x2.2]) (aw' := [.box [.sl (List.map encNode p0.Nodes), .int .i64 p0.Rings, .int .i64 p0.Room], .arr 3 1 (List.map encI x2.1)]) (net_Order_c p0 x2 hx2) (⟨pure_agg _ (pures_mem (⟨pure_map encNode_p _, pure_int _ _, pure_int _ _, trivial⟩)), trivial⟩) rfl (obs_cons (flatOb_map fun _ => rfl) obs_nil) rfl rfl ?_))
  refine RS.op rfl (OP.q rfl (v_move (v := .tup [.ref 1, .int .i64 x2.2]) rfl ?_))
  refine RS.op rfl (OP.q rfl (v_extract (v := .ref 1) rfl rfl ?_))
  refine RS.op rfl (OP.q rfl (v_extract (v := .int .i64 x2.2) rfl rfl ?_))
  refine RS.op rfl (OP.q rfl (v_assign (v := .ref 1) rfl ?_))
  refine RS.op rfl (OP.q rfl (v_assign (v := .int .i64 x2.2) rfl ?_))
  refine RS.nil ?_
  refine T.seq ?_
  refine T.region ?_
  refine RS.op rfl (OP.q rfl (v_move (v := .int .i64 x2.2) rfl ?_))
  refine RS.op rfl (OP.q rfl (v_assign (v := .int .i64 x2.2) rfl ?_))
  refine RS.nil ?_
  refine T.ret' (R := ?R1) ?hq1 ?_
  case hq1 => repeat (first | exact RetIs.base | refine RetIs.thn ?_ | refine RetIs.blk ?_ | refine RetIs.lq ?_)
  refine res_tmpA (v := .int .i64 x2.2) rfl ?_
  refine res_done ?_
  exact ret_data (v := .int .i64 x2.2) rfl (pure_int _ _) ⟨congrArg (fun r : Int => (.int .i64 r : AV)) (Option.some.inj h), rfl⟩
theorem net_Merges_c (p0 : Net) (r : (List Int) × Int) (h : net_Merges p0 = some r) : FnO Try.prog 31 [.agg [.sl (List.map encNode p0.Nodes), .int .i64 p0.Rings, .int .i64 p0.Room]] (.tup [.ref 0, .int .i64 r.2]) [.arr 3 1 (List.map encI r.1)] := by
  unfold net_Merges at h
  refine fn_of_T (N := 0) rfl Try.func31 rfl (by kernel_rfl) Try.ntmps31 rfl ?_
  show T _ _ _ _ (mkA 30 [(0, .agg [.sl (List.map encNode p0.Nodes), .int .i64 p0.Rings, .int .i64 p0.Room])]) []
  refine T.seq ?_
  refine T.region ?_
  refine RS.op rfl (o_box (cs := [.sl (List.map encNode p0.Nodes), .int .i64 p0.Rings, .int .i64 p0.Room]) rfl rfl (aw' := [.box [.sl (List.map encNode p0.Nodes), .int .i64 p0.Rings, .int .i64 p0.Room]]) rfl ?_)
  refine RS.op rfl (OP.q rfl (v_assign (v := .nils) rfl ?_))
  refine RS.op rfl (OP.q rfl (v_assign (v := .int .i64 0) rfl ?_))
  refine RS.nil ?_
  refine T.seq ?_
  refine T.seq ?_
  obtain ⟨x2, hx2, h⟩ := bind_some h
  refine T.region ?_
  refine RS.op rfl (o_load_ptr rfl rfl (loadRowA Ty.k56 Ty.c56 rfl (cs := [.sl (List.map encNode p0.Nodes), .int .i64 p0.Rings, .int .i64 p0.Room]) rfl ?_))
  refine RS.op rfl (o_call (as0 := [.agg [.sl (List.map encNode p0.Nodes), .int .i64 p0.Rings, .int .i64 p0.Room]]) (as1 := [.agg [.sl (List.map encNode p0.Nodes), .int .i64 p0.Rings, .int .i64 p0.Room]]) (caps := []) (aw1 := [.box [.sl (List.map encNode p0.Nodes), .int .i64 p0.Rings, .int .i64 p0.Room]]) rfl rfl rfl (k_flat (v := .int .i64 x2) (net_Check_c p0 x2 hx2) (⟨pure_agg _ (pures_mem (⟨pure_map encNode_p _, pure_int _ _, pure_int _ _, trivial⟩)), trivial⟩) rfl ?_))
  refine RS.op rfl (OP.q rfl (v_assign (v := .int .i64 x2) rfl ?_))
  refine RS.nil ?_
  refine T.seq ?_
  refine T.region ?_
  refine RS.op rfl (OP.q rfl (v_move (v := .int .i64 x2) rfl ?_))
  refine RS.op rfl (OP.q rfl (v_neq rfl rfl ?_))
  refine RS.nil ?_
  refine T.cond (b := x2 != 0) rfl (fun hb_1 => ?_) (fun hb_1 => ?_)
  · replace h := ite_T h hb_1
    refine T.seq ?_
    refine T.region ?_
    refine RS.op rfl (OP.q rfl (v_move (v := .int .i64 x2) rfl ?_))
    refine RS.op rfl (OP.q rfl (v_assign (v := .nils) rfl ?_))
    refine RS.op rfl (OP.q rfl (v_assign (v := .int .i64 x2) rfl ?_))
    refine RS.nil ?_
    refine T.ret' (R := ?R2) ?hq2 ?_
    case hq2 => repeat (first | exact RetIs.base | refine RetIs.thn ?_ | refine RetIs.blk ?_ | refine RetIs.lq ?_)
    refine res_tmpA (v := .nils) rfl ?_
    refine res_tmpA (v := .int .i64 x2) rfl ?_
    refine res_done ?_
    exact ret_own (.tup [.ref 0, .int .i64 r.2]) [(0, 3, 1)] [1] (by decide) (none_kept _) rfl (rn_tup ⟨rn_ref rfl, rn_int (congrArg (fun r : (List Int) × Int => r.2) (Option.some.inj h)).symm, trivial⟩) (rw_arr (en := encI) (ys := []) rfl encI_p (congrArg (fun r : (List Int) × Int => r.1) (Option.some.inj h)).symm (rw_nil)) ⟨rfl, rfl⟩
  · replace h := ite_F h hb_1
    refine T.skip ?_
    refine T.seq ?_
    refine T.region ?_
    refine RS.op rfl (OP.q rfl (v_assign (v := .nils) rfl ?_))
    refine RS.nil ?_
    refine T.seq ?_
    refine T.seq ?_
    refine T.region ?_
    refine RS.op rfl (OP.q rfl (v_fieldAddr_ptr Ty.f56_0 rfl (off' := 0) rfl ?_))
    refine RS.op rfl (o_load_ptr rfl rfl (loadRow1 Ty.k54 (c := .sl (List.map encNode p0.Nodes)) rfl ?_))
    refine RS.op rfl (OP.q rfl (v_len_sl Ty.s54 rfl ?_))
    refine RS.op rfl (OP.q rfl (v_move (v := .int .i64 0) rfl ?_))
    refine RS.nil ?_
    refine T.block ?_
    refine T.iter (fun ss_7 : Int × (List Int) => mkA 30 [(5, .ref 0), (14, .sl (List.map encNode p0.Nodes)), (15, .int .i64 ((p0.Nodes).length : Int)), (16, .int .i64 ss_7.1)]) (fun ss_7 => [.arr 3 1 (List.map encI ss_7.2)]) h (Weak.mkN [(5, 3, 1)] [1] (by decide) (none_kept _) rfl ⟨rn_ref rfl, rn_sl encNode_p rfl, rn_int rfl, rn_int rfl, trivial⟩ (rw_arr (en := encI) (ys := []) rfl encI_p rfl (rw_nil))) (fun ss_7 v_8 h hv_8 => ?_)
    obtain ⟨s3, s4⟩ := ss_7
    replace h : net_Merges_l1 p0 s3 s4 = some v_8 := h
    show T _ _ _ _ (mkA 30 [(5, .ref 0), (14, .sl (List.map encNode p0.Nodes)), (15, .int .i64 ((p0.Nodes).length : Int)), (16, .int .i64 s3)]) [.arr 3 1 (List.map encI s4)]
    unfold net_Merges_l1 at h
    refine T.seq ?_
    refine T.region ?_
    refine RS.op rfl (OP.q rfl (v_lss rfl rfl ?_))
    refine RS.nil ?_
    refine T.seq ?_
    refine T.cond (b := decide (s3 < ((p0.Nodes).length : Int))) rfl (fun hb_9 => ?_) (fun hb_9 => ?_)
    · replace h := ite_T h hb_9
      refine T.skip ?_
      refine T.seq ?_
      refine T.block ?_
      refine T.seq ?_
      obtain ⟨x6, hx6, h⟩ := bind_some h
      refine T.region ?_
      refine RS.op rfl (OP.q rfl (v_move (v := .int .i64 s3) rfl ?_))
      refine RS.op rfl (OP.q rfl (v_index_sl Ty.s54 (fun _ => rfl) rfl rfl hx6 ?_))
      refine RS.op rfl (o_load_elt rfl (loadRowA Ty.k67 Ty.c67 rfl (cs := [.int .i64 x6.Kind, .int .i64 x6.A, .sl (List.map encI x6.In), .sl (List.map encI x6.Out)]) rfl ?_))
      refine RS.op rfl (o_alloc Ty.z67 rfl (aw' := [.arr 3 1 (List.map encI s4), .box [.int .i64 0, .int .i64 0, .nils, .nils]]) rfl ?_)
      refine RS.op rfl (OP.q rfl (v_assign (v := .int .i64 s3) rfl ?_))
      refine RS.op rfl (o_store_ptr Ty.c67 Ty.i67 rfl (vs := [.int .i64 x6.Kind, .int .i64 x6.A, .sl (List.map encI x6.In), .sl (List.map encI x6.Out)]) rfl rfl rfl rfl (cs' := [.int .i64 x6.Kind, .int .i64 x6.A, .sl (List.map encI x6.In), .sl (List.map encI x6.Out)]) rfl (aw' := [.arr 3 1 (List.map encI s4), .box [.int .i64 x6.Kind, .int .i64 x6.A, .sl (List.map encI x6.In), .sl (List.map encI x6.Out)]]) rfl ?_)
      refine RS.nil ?_
      refine T.seq ?_
      refine T.region ?_
      refine RS.op rfl (OP.q rfl (v_fieldAddr_ptr Ty.f67_0 rfl (off' := 0) rfl ?_))
      refine RS.op rfl (o_load_ptr rfl rfl (loadRow1 Ty.k3 (c := .int .i64 x6.Kind) rfl ?_))
      refine RS.op rfl (OP.q rfl (v_eql rfl rfl ?_))
      refine RS.nil ?_
      refine T.cond (b := x6.Kind == 6) rfl (fun hb_10 => ?_) (fun hb_10 => ?_)
      · replace h := ite_T h hb_10
        obtain ⟨x7, hx7, h⟩ := bind_some h
        refine T.region ?_
        refine RS.op rfl (OP.q rfl (v_move (v := .ref 0) rfl ?_))
        refine RS.op rfl (OP.q rfl (v_move (v := .int .i64 s3) rfl ?_))
        refine RS.op rfl (o_buildSlice (rows := List.map encI [s3]) (vs := [.int .i64 s3]) Ty.s57 Ty.z3 rfl rfl rfl rfl rfl (aw' := [.arr 3 1 (List.map encI s4), .box [.int .i64 x6.Kind, .int .i64 x6.A, .sl (List.map encI x6.In), .sl (List.map encI x6.Out)], .arr 3 1 (List.map encI [s3])]) rfl ?_)
        refine RS.op rfl (o_app_ref (en := encI) (xs := s4) (ys := ([s3] : List Int)) Ty.s57 (fun _ => rfl) rfl rfl rfl hx7 rfl (aw' := [.dead, .box [.int .i64 x6.Kind, .int .i64 x6.A, .sl (List.map encI x6.In), .sl (List.map encI x6.Out)], .dead, .arr 3 1 (List.map encI x7)]) rfl ?_)
        refine RS.op rfl (OP.q rfl (v_assign (v := .ref 3) rfl ?_))
        refine RS.nil ?_
        refine T.region ?_
        refine RS.op rfl (OP.q rfl (v_add rfl rfl ?_))
        refine RS.op rfl (OP.q rfl (v_move (v := .int .i64 (IntKind.i64.wrap (s3 + 1))) rfl ?_))
        refine RS.nil ?_
        exact ⟨(IntKind.i64.wrap (s3 + 1), x7), (Option.some.inj h).symm, Weak.mkN [] [3] (by decide) (none_kept _) rfl ⟨rn_ref rfl, rn_sl encNode_p rfl, rn_int rfl, rn_int rfl, trivial⟩ (rw_arr rfl encI_p rfl (rw_nil))⟩
      · replace h := ite_F h hb_10
        refine T.skip ?_
        refine T.region ?_
        refine RS.op rfl (OP.q rfl (v_add rfl rfl ?_))
        refine RS.op rfl (OP.q rfl (v_move (v := .int .i64 (IntKind.i64.wrap (s3 + 1))) rfl ?_))
        refine RS.nil ?_
        exact ⟨(IntKind.i64.wrap (s3 + 1), s4), (Option.some.inj h).symm, Weak.mkN [] [0] (by decide) (none_kept _) rfl ⟨rn_ref rfl, rn_sl encNode_p rfl, rn_int rfl, rn_int rfl, trivial⟩ (rw_arr rfl encI_p rfl (rw_nil))⟩
    · replace h := ite_F h hb_9
      refine T.exit ?_
      obtain ⟨w_11, h, hw_11⟩ := map_inr h
      replace h := h.trans (congrArg some (hv_8 _ hw_11))
      refine T.seq ?_
      refine T.region ?_
      refine RS.op rfl (OP.q rfl (v_move (v := .ref 0) rfl ?_))
      refine RS.op rfl (OP.q rfl (v_assign (v := .ref 0) rfl ?_))
      refine RS.op rfl (OP.q rfl (v_assign (v := .int .i64 0) rfl ?_))
      refine RS.nil ?_
      refine T.ret' (R := ?R12) ?hq12 ?_
      case hq12 => repeat (first | exact RetIs.base | refine RetIs.thn ?_ | refine RetIs.blk ?_ | refine RetIs.lq ?_)
      refine res_tmpA (v := .ref 0) rfl ?_
      refine res_tmpA (v := .int .i64 0) rfl ?_
      refine res_done ?_
      exact ret_own (.tup [.ref 0, .int .i64 r.2]) [] [0] (by decide) (none_kept _) rfl (rn_tup ⟨rn_ref rfl, rn_int (congrArg (fun r : (List Int) × Int => r.2) (Option.some.inj h)).symm, trivial⟩) (rw_arr rfl encI_p (congrArg (fun r : (List Int) × Int => r.1) (Option.some.inj h)).symm (rw_nil)) ⟨rfl, rfl⟩
theorem slices_Equal_int_c (p0 : List Int) (p1 : List Int) (r : Bool) (h : slices_Equal_int p0 p1 = some r) : Fn Try.prog 34 [.sl (List.map encI p0), .sl (List.map encI p1)] (.bool r) := by
  unfold slices_Equal_int at h
  refine fn_of_T (N := 0) rfl Try.func34 rfl (by kernel_rfl) Try.ntmps34 rfl ?_
  show T _ _ _ _ (mkA 26 [(0, .sl (List.map encI p0)), (1, .sl (List.map encI p1))]) []
  refine T.seq ?_
  refine T.region ?_
  refine RS.op rfl (OP.q rfl (v_assign (v := .bool false) rfl ?_))
  refine RS.nil ?_
  refine T.seq ?_
  refine T.seq ?_
  refine T.region ?_
  refine RS.op rfl (OP.q rfl (v_move (v := .sl (List.map encI p0)) rfl ?_))
  refine RS.op rfl (OP.q rfl (v_len_sl Ty.s57 rfl ?_))
  refine RS.op rfl (OP.q rfl (v_move (v := .sl (List.map encI p1)) rfl ?_))
  refine RS.op rfl (OP.q rfl (v_len_sl Ty.s57 rfl ?_))
  refine RS.op rfl (OP.q rfl (v_neq rfl rfl ?_))
  refine RS.nil ?_
  refine T.cond (b := ((p0).length : Int) != ((p1).length : Int)) rfl (fun hb_1 => ?_) (fun hb_1 => ?_)
  · replace h := ite_T h hb_1
    refine T.seq ?_
    refine T.region ?_
    refine RS.op rfl (OP.q rfl (v_assign (v := .bool false) rfl ?_))
    refine RS.nil ?_
    refine T.ret' (R := ?R2) ?hq2 ?_
    case hq2 => repeat (first | exact RetIs.base | refine RetIs.thn ?_ | refine RetIs.blk ?_ | refine RetIs.lq ?_)
    refine res_tmpA (v := .bool false) rfl ?_
    refine res_done ?_
    exact ret_data (v := .bool false) rfl (pure_bool _) ⟨congrArg (fun r : Bool => (.bool r : AV)) (Option.some.inj h), rfl⟩
  · replace h := ite_F h hb_1
    refine T.skip ?_
    refine T.seq ?_
    refine T.seq ?_
    refine T.region ?_
    refine RS.op rfl (OP.q rfl (v_move (v := .sl (List.map encI p0)) rfl ?_))
    refine RS.op rfl (OP.q rfl (v_len_sl Ty.s57 rfl ?_))
    refine RS.op rfl (OP.q rfl (v_move (v := .int .i64 0) rfl ?_))
    refine RS.nil ?_
    refine T.block ?_
    refine T.iter (fun ss_11 : Int => mkA 26 [(0, .sl (List.map encI p0)), (1, .sl (List.map encI p1)), (12, .int .i64 ((p0).length : Int)), (13, .int .i64 ss_11)]) (fun ss_11 => []) h (Weak.mkN [] [] (by decide) (none_kept _) rfl ⟨rn_sl encI_p rfl, rn_sl encI_p rfl, rn_int rfl, rn_int rfl, trivial⟩ (rw_nil)) (fun ss_11 v_12 h hv_12 => ?_)
    revert hv_12 h; revert ss_11; intro s1 h hv_12
    replace h : slices_Equal_int_l1 p0 p1 s1 = some v_12 := h
    show T _ _ _ _ (mkA 26 [(0, .sl (List.map encI p0)), (1, .sl (List.map encI p1)), (12, .int .i64 ((p0).length : Int)), (13, .int .i64 s1)]) []
    unfold slices_Equal_int_l1 at h
    refine T.seq ?_
    refine T.region ?_
    refine RS.op rfl (OP.q rfl (v_lss rfl rfl ?_))
    refine RS.nil ?_
    refine T.seq ?_
    refine T.cond (b := decide (s1 < ((p0).length : Int))) rfl (fun hb_13 => ?_) (fun hb_13 => ?_)
    · replace h := ite_T h hb_13
      refine T.skip ?_
      refine T.seq ?_
      refine T.block ?_
      refine T.seq ?_
      refine T.region ?_
      refine RS.op rfl (OP.q rfl (v_move (v := .int .i64 s1) rfl ?_))
      refine RS.op rfl (OP.q rfl (v_assign (v := .int .i64 s1) rfl ?_))
      refine RS.nil ?_
      refine T.seq ?_
      obtain ⟨x4, hx4, h⟩ := bind_some h
      obtain ⟨x5, hx5, h⟩ := bind_some h
      refine T.drawn mixed (k := 9) rfl ?_
      refine RA.join 0 #[true, true, true, true, true, true, true, true, true] (mkA 26 [(0, .sl (List.map encI p0)), (1, .sl (List.map encI p1)), (5, .int .i64 s1), (12, .int .i64 ((p0).length : Int)), (13, .int .i64 s1), (14, .bool (decide (s1 < ((p0).length : Int)))), (15, .int .i64 s1), (16, .sl (List.map encI p0)), (17, .int .i64 s1), (18, .elt (encI x4) 0), (19, .int .i64 x4), (20, .sl (List.map encI p1)), (21, .int .i64 s1), (22, .elt (encI x5) 0), (23, .int .i64 x5), (24, .bool (x4 != x5))]) [] ?_ (fun hS14 => ?_)
      · refine RA.done (by decide +kernel) ?_
        refine T.cond (b := x4 != x5) rfl (fun hb_15 => ?_) (fun hb_15 => ?_)
        · replace h := ite_T h hb_15
          refine T.seq ?_
          refine T.region ?_
          refine RS.op rfl (OP.q rfl (v_assign (v := .bool false) rfl ?_))
          refine RS.nil ?_
          refine T.ret' (R := ?R16) ?hq16 ?_
          case hq16 => repeat (first | exact RetIs.base | refine RetIs.thn ?_ | refine RetIs.blk ?_ | refine RetIs.lq ?_)
          obtain ⟨w_17, h, hw_17⟩ := map_inr h
          replace h := h.trans (congrArg some (hv_12 _ hw_17))
          refine res_tmpA (v := .bool false) rfl ?_
          refine res_done ?_
          exact ret_data (v := .bool false) rfl (pure_bool _) ⟨congrArg (fun r : Bool => (.bool r : AV)) (Option.some.inj h), rfl⟩
        · replace h := ite_F h hb_15
          refine T.skip ?_
          refine T.region ?_
          refine RS.op rfl (OP.q rfl (v_add rfl rfl ?_))
          refine RS.op rfl (OP.q rfl (v_move (v := .int .i64 (IntKind.i64.wrap (s1 + 1))) rfl ?_))
          refine RS.nil ?_
          exact ⟨IntKind.i64.wrap (s1 + 1), (Option.some.inj h).symm, Weak.mkN [] [] (by decide) (none_kept _) rfl ⟨rn_sl encI_p rfl, rn_sl encI_p rfl, rn_int rfl, rn_int rfl, trivial⟩ (rw_nil)⟩
      · refine RA.t0 (i := 0) (li' := #[true, false, false, false, false, false, false, false, false]) rfl (by decide +kernel) (by decide +kernel) (by decide +kernel) (by decide +kernel) rfl rfl (v_move (v := .sl (List.map encI p0)) rfl ?_)
        refine RA.t0 (i := 1) (li' := #[true, true, false, false, false, false, false, false, false]) rfl (by decide +kernel) (by decide +kernel) (by decide +kernel) (by decide +kernel) rfl rfl (v_move (v := .int .i64 s1) rfl ?_)
        refine RA.t0 (i := 2) (li' := #[true, true, true, false, false, false, false, false, false]) rfl (by decide +kernel) (by decide +kernel) (by decide +kernel) (by decide +kernel) rfl rfl (v_index_sl Ty.s57 (fun _ => rfl) rfl rfl hx4 ?_)
        refine RA.t0 (i := 4) (li' := #[true, true, true, false, true, false, false, false, false]) rfl (by decide +kernel) (by decide +kernel) (by decide +kernel) (by decide +kernel) rfl rfl (v_move (v := .sl (List.map encI p1)) rfl ?_)
        refine RA.t0 (i := 5) (li' := #[true, true, true, false, true, true, false, false, false]) rfl (by decide +kernel) (by decide +kernel) (by decide +kernel) (by decide +kernel) rfl rfl (v_move (v := .int .i64 s1) rfl ?_)
        refine RA.t0 (i := 6) (li' := #[true, true, true, false, true, true, true, false, false]) rfl (by decide +kernel) (by decide +kernel) (by decide +kernel) (by decide +kernel) rfl rfl (v_index_sl Ty.s57 (fun _ => rfl) rfl rfl hx5 ?_)
        refine RA.a2 (i1 := 3) (l1 := #[true, true, true, true, true, true, true, false, false]) (i2 := 7) (l2 := #[true, true, true, false, true, true, true, true, false]) (by decide +kernel) (by decide +kernel) (by decide +kernel) ?_ ?_
        · refine RO.op rfl rfl (o_load_elt rfl (loadRow1 Ty.k3 (c := .int .i64 x4) rfl ?_))
          refine RA.a1 (i1 := 7) (l1 := #[true, true, true, true, true, true, true, true, false]) (by decide +kernel) (by decide +kernel) ?_
          refine RO.op rfl rfl (o_load_elt rfl (loadRow1 Ty.k3 (c := .int .i64 x5) rfl ?_))
          refine RA.t0 (i := 8) (li' := #[true, true, true, true, true, true, true, true, true]) rfl (by decide +kernel) (by decide +kernel) (by decide +kernel) (by decide +kernel) rfl rfl (v_neq rfl rfl ?_)
          exact RA.weakR hS14 (Weak.mkN [] [] (by decide) (none_kept _) rfl ⟨rn_sl encI_p rfl, rn_sl encI_p rfl, rn_int rfl, rn_int rfl, rn_int rfl, rn_bool rfl, rn_int rfl, rn_sl encI_p rfl, rn_int rfl, rn_elt (encI_p _) (congrArg encI rfl), rn_int rfl, rn_sl encI_p rfl, rn_int rfl, rn_elt (encI_p _) (congrArg encI rfl), rn_int rfl, rn_bool rfl, trivial⟩ (rw_nil))
        · refine RO.op rfl rfl (o_load_elt rfl (loadRow1 Ty.k3 (c := .int .i64 x5) rfl ?_))
          refine RA.a1 (i1 := 3) (l1 := #[true, true, true, true, true, true, true, true, false]) (by decide +kernel) (by decide +kernel) ?_
          refine RO.op rfl rfl (o_load_elt rfl (loadRow1 Ty.k3 (c := .int .i64 x4) rfl ?_))
          refine RA.t0 (i := 8) (li' := #[true, true, true, true, true, true, true, true, true]) rfl (by decide +kernel) (by decide +kernel) (by decide +kernel) (by decide +kernel) rfl rfl (v_neq rfl rfl ?_)
          exact RA.weakR hS14 (Weak.mkN [] [] (by decide) (none_kept _) rfl ⟨rn_sl encI_p rfl, rn_sl encI_p rfl, rn_int rfl, rn_int rfl, rn_int rfl, rn_bool rfl, rn_int rfl, rn_sl encI_p rfl, rn_int rfl, rn_elt (encI_p _) (congrArg encI rfl), rn_int rfl, rn_sl encI_p rfl, rn_int rfl, rn_elt (encI_p _) (congrArg encI rfl), rn_int rfl, rn_bool rfl, trivial⟩ (rw_nil))
    · replace h := ite_F h hb_13
      refine T.exit ?_
      obtain ⟨w_18, h, hw_18⟩ := map_inr h
      replace h := h.trans (congrArg some (hv_12 _ hw_18))
      refine T.seq ?_
      refine T.region ?_
      refine RS.op rfl (OP.q rfl (v_assign (v := .bool true) rfl ?_))
      refine RS.nil ?_
      refine T.ret' (R := ?R19) ?hq19 ?_
      case hq19 => repeat (first | exact RetIs.base | refine RetIs.thn ?_ | refine RetIs.blk ?_ | refine RetIs.lq ?_)
      refine res_tmpA (v := .bool true) rfl ?_
      refine res_done ?_
      exact ret_data (v := .bool true) rfl (pure_bool _) ⟨congrArg (fun r : Bool => (.bool r : AV)) (Option.some.inj h), rfl⟩
theorem crosslaw_item_c (p0 : Int) (p1 : Int) (r : Item) (h : crosslaw_item p0 p1 = some r) : Fn Try.prog 76 [.int .i64 p0, .int .i64 p1] (.agg [.int .i64 r.Key, .int .i64 r.Val, .int .i64 r.Dep]) := by
  unfold crosslaw_item at h
  refine fn_of_T (N := 0) rfl Try.func76 rfl (by kernel_rfl) Try.ntmps76 rfl ?_
  show T _ _ _ _ (mkA 8 [(0, .int .i64 p0), (1, .int .i64 p1)]) []
  refine T.seq ?_
  refine T.region ?_
  refine RS.op rfl (o_alloc Ty.z79 rfl (aw' := [.box [.int .i64 0, .int .i64 0, .int .i64 0]]) rfl ?_)
  refine RS.nil ?_
  refine T.seq ?_
  refine T.region ?_
  refine RS.op rfl (OP.q rfl (v_move (v := .int .i64 p0) rfl ?_))
  refine RS.op rfl (OP.q rfl (v_move (v := .int .i64 p1) rfl ?_))
  refine RS.op rfl (OP.q rfl (v_build (cs := [.int .i64 p0, .int .i64 p1, .int .i64 0]) Ty.z79 Ty.p79 rfl ?_))
  refine RS.op rfl (o_store_ptr Ty.c79 Ty.i79 rfl (vs := [.int .i64 p0, .int .i64 p1, .int .i64 0]) rfl rfl rfl rfl (cs' := [.int .i64 p0, .int .i64 p1, .int .i64 0]) rfl (aw' := [.box [.int .i64 p0, .int .i64 p1, .int .i64 0]]) rfl ?_)
  refine RS.nil ?_
  refine T.ret' (R := ?R1) ?hq1 ?_
  case hq1 => repeat (first | exact RetIs.base | refine RetIs.thn ?_ | refine RetIs.blk ?_ | refine RetIs.lq ?_)
  refine res_cellA (id := 0) (off := 0) (cs := [.int .i64 p0, .int .i64 p1, .int .i64 0]) (v := .agg [.int .i64 p0, .int .i64 p1, .int .i64 0]) ?_ ?_ ?_ ?_
  · rfl
  · rfl
  · exact fun K h => (loadRowA (row := [.int .i64 p0, .int .i64 p1, .int .i64 0]) (off := 0) Ty.k79 Ty.c79 rfl (cs := [.int .i64 p0, .int .i64 p1, .int .i64 0]) rfl h)
  refine res_done ?_
  exact ret_data (v := .agg [.int .i64 p0, .int .i64 p1, .int .i64 0]) rfl (pure_agg _ (pures_mem (⟨pure_int _ _, pure_int _ _, pure_int _ _, trivial⟩))) ⟨congrArg (fun r : Item => (.agg [.int .i64 r.Key, .int .i64 r.Val, .int .i64 r.Dep] : AV)) (Option.some.inj h), rfl⟩
theorem crosslaw_two_c (r : List (List Item)) (h : crosslaw_two = some r) : FnO Try.prog 71 [] (.ref 0) [.arr 74 1 (List.map (encL encItem) r)] := by
  unfold crosslaw_two at h
  refine fn_of_T (N := 0) rfl Try.func71 rfl (by kernel_rfl) Try.ntmps71 rfl ?_
  show T _ _ _ _ (mkA 6 []) []
  refine T.seq ?_
  refine T.region ?_
  refine RS.op rfl (OP.q rfl (v_assign (v := .nils) rfl ?_))
  refine RS.nil ?_
  refine T.seq ?_
  obtain ⟨x3, hx3, h⟩ := bind_some h
  obtain ⟨x4, hx4, h⟩ := bind_some h
  refine T.region ?_
  refine RS.op rfl (o_call (as0 := [.int .i64 1, .int .i64 1]) (as1 := [.int .i64 (1 : Int), .int .i64 (1 : Int)]) (caps := []) (aw1 := []) rfl rfl rfl (k_flat (v := .agg [.int .i64 x3.Key, .int .i64 x3.Val, .int .i64 x3.Dep]) (crosslaw_item_c (1 : Int) (1 : Int) x3 hx3) (⟨pure_int _ _, pure_int _ _, trivial⟩) rfl ?_))
  refine RS.op rfl (o_buildSlice (rows := List.map encItem [x3]) (vs := [.agg [.int .i64 x3.Key, .int .i64 x3.Val, .int .i64 x3.Dep]]) Ty.s74 Ty.z79 rfl rfl rfl rfl rfl (aw' := [.arr 79 3 (List.map encItem [x3])]) rfl ?_)
  refine RS.op rfl (o_call (as0 := [.int .i64 2, .int .i64 2]) (as1 := [.int .i64 (2 : Int), .int .i64 (2 : Int)]) (caps := []) (aw1 := [.arr 79 3 (List.map encItem [x3])]) rfl rfl rfl (k_flat (v := .agg [.int .i64 x4.Key, .int .i64 x4.Val, .int .i64 x4.Dep]) (crosslaw_item_c (2 : Int) (2 : Int) x4 hx4) (⟨pure_int _ _, pure_int _ _, trivial⟩) rfl ?_))
  refine RS.op rfl (o_buildSlice (rows := List.map encItem [x4]) (vs := [.agg [.int .i64 x4.Key, .int .i64 x4.Val, .int .i64 x4.Dep]]) Ty.s74 Ty.z79 rfl rfl rfl rfl rfl (aw' := [.arr 79 3 (List.map encItem [x3]), .arr 79 3 (List.map encItem [x4])]) rfl ?_)
  refine RS.fz 0 rfl rfl (aw' := [.dead, .arr 79 3 (List.map encItem [x4])]) rfl ?_
  refine RS.fz 1 rfl rfl (aw' := [.dead, .dead]) rfl ?_
  refine RS.op rfl (o_buildSlice (rows := List.map (encL encItem) [[x3], [x4]]) (vs := [.sl (List.map encItem [x3]), .sl (List.map encItem [x4])]) Ty.s68 Ty.z74 rfl rfl rfl rfl rfl (aw' := [.dead, .dead, .arr 74 1 (List.map (encL encItem) [[x3], [x4]])]) rfl ?_)
  refine RS.op rfl (OP.q rfl (v_assign (v := .ref 2) rfl ?_))
  refine RS.nil ?_
  refine T.ret' (R := ?R1) ?hq1 ?_
  case hq1 => repeat (first | exact RetIs.base | refine RetIs.thn ?_ | refine RetIs.blk ?_ | refine RetIs.lq ?_)
  refine res_tmpA (v := .ref 2) rfl ?_
  refine res_done ?_
  exact ret_own (.ref 0) [] [2] (by decide) (none_kept _) rfl (rn_ref rfl) (rw_arr rfl (encL_p encItem_p) (congrArg (fun r : List (List Item) => r) (Option.some.inj h)).symm (rw_nil)) ⟨rfl, rfl⟩
end Go.Proofs.Ytegkmfokfakeiaa
