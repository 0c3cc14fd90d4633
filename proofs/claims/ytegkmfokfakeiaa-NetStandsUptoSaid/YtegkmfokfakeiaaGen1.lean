/-
  The code computes these functions. Printed by a program of ours (wip/gen.py).
-/
import Derived.Test.YtegkmfokfakeiaaOq
import Derived.Test.YtegkmfokfakeiaaEnc
import Derived.Test.YtegkmfokfakeiaaSh
namespace Go.Proofs.Ytegkmfokfakeiaa
open Go.RowKit
set_option linter.unusedVariables false
set_option linter.unusedSimpArgs false
set_option maxRecDepth 100000
set_option maxHeartbeats 4000000
theorem math_bits_Mul64_c (p0 : Int) (p1 : Int) (r : Int × Int) (h : math_bits_Mul64 p0 p1 = some r) : Fn Try.prog 125 [.int .u64 p0, .int .u64 p1] (.tup [.int .u64 r.1, .int .u64 r.2]) := by
  unfold math_bits_Mul64 at h
  refine fn_of_T (N := 0) rfl Try.func125 rfl (by kernel_rfl) Try.ntmps125 rfl ?_
  show T _ _ _ _ (mkA 51 [(0, .int .u64 p0), (1, .int .u64 p1)]) []
  refine T.seq (T.region (sa (.int .u64 0) rfl (sa (.int .u64 0) rfl (RS.nil (T.seq (T.region (sm (.int .u64 p0) rfl (sq (v_and rfl rfl (sa (.int .u64 (ibits .and .u64 p0 4294967295)) rfl ?_))))))))))
  refine RS.nil (T.seq ?_)
  obtain ⟨x2, hx2, h⟩ := bind_some h
  refine T.region (sm (.int .u64 p0) rfl (sq (v_shr rfl rfl hx2 (sa (.int .u64 x2) rfl (RS.nil (T.seq (T.region (sm (.int .u64 p1) rfl (sq (v_and rfl rfl (sa (.int .u64 (ibits .and .u64 p1 4294967295)) rfl ?_)))))))))))
  refine RS.nil (T.seq ?_)
  obtain ⟨x4, hx4, h⟩ := bind_some h
  refine T.region (sm (.int .u64 p1) rfl (sq (v_shr rfl rfl hx4 (sa (.int .u64 x4) rfl (RS.nil (T.seq (T.region (sm (.int .u64 (ibits .and .u64 p0 4294967295)) rfl (sm (.int .u64 (ibits .and .u64 p1 4294967295)) rfl (sq (v_mul rfl rfl ?_)))))))))))
  refine sa (.int .u64 (IntKind.u64.wrap ((ibits .and .u64 p0 4294967295) * (ibits .and .u64 p1 4294967295)))) rfl (RS.nil (T.seq ?_))
  obtain ⟨x6, hx6, h⟩ := bind_some h
  refine T.region (sm (.int .u64 x2) rfl (sm (.int .u64 (ibits .and .u64 p1 4294967295)) rfl (sq (v_mul rfl rfl (sm (.int .u64 (IntKind.u64.wrap ((ibits .and .u64 p0 4294967295) * (ibits .and .u64 p1 4294967295)))) rfl (sq (v_shr rfl rfl hx6 (sq (v_add rfl rfl (sa (.int .u64 (IntKind.u64.wrap ((IntKind.u64.wrap (x2 * (ibits .and .u64 p1 4294967295))) + x6))) rfl (RS.nil (T.seq ?_))))))))))))
  refine T.region (sm (.int .u64 (IntKind.u64.wrap ((IntKind.u64.wrap (x2 * (ibits .and .u64 p1 4294967295))) + x6))) rfl (sq (v_and rfl rfl (sa (.int .u64 (ibits .and .u64 (IntKind.u64.wrap ((IntKind.u64.wrap (x2 * (ibits .and .u64 p1 4294967295))) + x6)) 4294967295)) rfl (RS.nil (T.seq ?_))))))
  obtain ⟨x8, hx8, h⟩ := bind_some h
  refine T.region (sm (.int .u64 (IntKind.u64.wrap ((IntKind.u64.wrap (x2 * (ibits .and .u64 p1 4294967295))) + x6))) rfl (sq (v_shr rfl rfl hx8 (sa (.int .u64 x8) rfl (RS.nil (T.seq (T.region (sm (.int .u64 (ibits .and .u64 (IntKind.u64.wrap ((IntKind.u64.wrap (x2 * (ibits .and .u64 p1 4294967295))) + x6)) 4294967295)) rfl (sm (.int .u64 (ibits .and .u64 p0 4294967295)) rfl (sm (.int .u64 x4) rfl ?_))))))))))
  refine sq (v_mul rfl rfl (sq (v_add rfl rfl (sa (.int .u64 (IntKind.u64.wrap ((ibits .and .u64 (IntKind.u64.wrap ((IntKind.u64.wrap (x2 * (ibits .and .u64 p1 4294967295))) + x6)) 4294967295) + (IntKind.u64.wrap ((ibits .and .u64 p0 4294967295) * x4))))) rfl (RS.nil (T.seq ?_))))))
  obtain ⟨x10, hx10, h⟩ := bind_some h
  refine T.region (sm (.int .u64 x2) rfl (sm (.int .u64 x4) rfl (sq (v_mul rfl rfl (sm (.int .u64 x8) rfl (sq (v_add rfl rfl (sm (.int .u64 (IntKind.u64.wrap ((ibits .and .u64 (IntKind.u64.wrap ((IntKind.u64.wrap (x2 * (ibits .and .u64 p1 4294967295))) + x6)) 4294967295) + (IntKind.u64.wrap ((ibits .and .u64 p0 4294967295) * x4))))) rfl (sq (v_shr rfl rfl hx10 (sq (v_add rfl rfl (sa (.int .u64 (IntKind.u64.wrap ((IntKind.u64.wrap ((IntKind.u64.wrap (x2 * x4)) + x8)) + x10))) rfl ?_)))))))))))))
  refine RS.nil (T.seq (T.region (sm (.int .u64 p0) rfl (sm (.int .u64 p1) rfl (sq (v_mul rfl rfl (sa (.int .u64 (IntKind.u64.wrap (p0 * p1))) rfl (RS.nil (T.rt (res_tmpA (v := .int .u64 (IntKind.u64.wrap ((IntKind.u64.wrap ((IntKind.u64.wrap (x2 * x4)) + x8)) + x10))) rfl ?_))))))))))
  refine res_tmpA (v := .int .u64 (IntKind.u64.wrap (p0 * p1))) rfl (res_done ?_)
  exact ret_data (v := .tup [.int .u64 (IntKind.u64.wrap ((IntKind.u64.wrap ((IntKind.u64.wrap (x2 * x4)) + x8)) + x10)), .int .u64 (IntKind.u64.wrap (p0 * p1))]) rfl (pure_tup _ (pures_mem (⟨pure_int _ _, pure_int _ _, trivial⟩))) ⟨congrArg (fun r : Int × Int => (.tup [.int .u64 r.1, .int .u64 r.2] : AV)) (Option.some.inj h), rfl⟩
theorem math_bits_Mul_c (p0 : Int) (p1 : Int) (r : Int × Int) (h : math_bits_Mul p0 p1 = some r) : Fn Try.prog 103 [.int .u64 p0, .int .u64 p1] (.tup [.int .u64 r.1, .int .u64 r.2]) := by
  unfold math_bits_Mul at h
  refine fn_of_T (N := 0) rfl Try.func103 rfl (by kernel_rfl) Try.ntmps103 rfl ?_
  show T _ _ _ _ (mkA 30 [(0, .int .u64 p0), (1, .int .u64 p1)]) []
  refine T.seq (T.region (sa (.int .u64 0) rfl (sa (.int .u64 0) rfl (RS.nil (T.seq (T.cond (b := false) rfl (fun hb => ?_) (fun hb => ?_)))))))
  · cases hb
  refine T.skip (T.seq ?_)
  obtain ⟨x2, hx2, h⟩ := bind_some h
  refine T.region (sm (.int .u64 p0) rfl (sm (.int .u64 p1) rfl (so (o_call (as0 := [.int .u64 p0, .int .u64 p1]) (as1 := [.int .u64 p0, .int .u64 p1]) (caps := []) (aw1 := []) rfl rfl rfl (k_flat (v := .tup [.int .u64 x2.1, .int .u64 x2.2]) (math_bits_Mul64_c p0 p1 x2 hx2) (⟨pure_int _ _, pure_int _ _, trivial⟩) rfl (sm (.tup [.int .u64 x2.1, .int .u64 x2.2]) rfl (sq (v_extract (v := .int .u64 x2.1) rfl rfl (sq (v_extract (v := .int .u64 x2.2) rfl rfl (sa (.int .u64 x2.1) rfl (sa (.int .u64 x2.2) rfl (RS.nil ?_)))))))))))))
  refine T.seq (T.region (sm (.int .u64 x2.1) rfl (sm (.int .u64 x2.2) rfl (sa (.int .u64 x2.1) rfl (sa (.int .u64 x2.2) rfl (RS.nil (T.rt (res_tmpA (v := .int .u64 x2.1) rfl (res_tmpA (v := .int .u64 x2.2) rfl ?_)))))))))
  refine res_done ?_
  exact ret_data (v := .tup [.int .u64 x2.1, .int .u64 x2.2]) rfl (pure_tup _ (pures_mem (⟨pure_int _ _, pure_int _ _, trivial⟩))) ⟨congrArg (fun r : Int × Int => (.tup [.int .u64 r.1, .int .u64 r.2] : AV)) (Option.some.inj h), rfl⟩
theorem slices_Repeat_ends_c (p0 : List Ends) (p1 : Int) (r : List Ends) (h : slices_Repeat_ends p0 p1 = some r) : FnO Try.prog 88 [.sl (List.map encEnds p0), .int .i64 p1] (.ref 0) [.arr 121 2 (List.map encEnds r)] := by
  unfold slices_Repeat_ends at h
  refine fn_of_T (N := 0) rfl Try.func88 rfl (by kernel_rfl) Try.ntmps88 rfl ?_
  show T _ _ _ _ (mkA 48 [(0, .sl (List.map encEnds p0)), (1, .int .i64 p1)]) []
  refine T.seq (T.region (sa .nils rfl (RS.nil (T.seq (T.seq (T.region (sm (.int .i64 p1) rfl (sq (v_lss rfl rfl (RS.nil ?_))))))))))
  refine T.cond (b := decide (p1 < 0)) rfl (fun hb_1 => ?_) (fun hb_1 => ?_)
  ·replace h := ite_T h hb_1
   cases h
  replace h := ite_F h hb_1
  refine T.skip (T.seq ?_)
  obtain ⟨x2, hx2, h⟩ := bind_some h
  refine T.region (sm (.sl (List.map encEnds p0)) rfl (sq (v_len_sl Ty.s115 rfl (so (o_conv Try.underlying3 Try.underlying143 rfl (sm (.int .i64 p1) rfl (so (o_conv Try.underlying3 Try.underlying143 rfl (so (o_call (as0 := [.int .u64 (IntKind.u64.wrap ((p0).length : Int)), .int .u64 (IntKind.u64.wrap p1)]) (as1 := [.int .u64 (IntKind.u64.wrap ((p0).length : Int)), .int .u64 (IntKind.u64.wrap p1)]) (caps := []) (aw1 := []) rfl rfl rfl (k_flat (v := .tup [.int .u64 x2.1, .int .u64 x2.2]) (math_bits_Mul_c (IntKind.u64.wrap ((p0).length : Int)) (IntKind.u64.wrap p1) x2 hx2) (⟨pure_int _ _, pure_int _ _, trivial⟩) rfl (sm (.tup [.int .u64 x2.1, .int .u64 x2.2]) rfl (sq (v_extract (v := .int .u64 x2.1) rfl rfl (sq (v_extract (v := .int .u64 x2.2) rfl rfl ?_))))))))))))))))
  refine sa (.int .u64 x2.1) rfl (sa (.int .u64 x2.2) rfl (RS.nil (T.seq (T.join (Z := Unit) (fun _ => mkA 48 [(0, .sl (List.map encEnds p0)), (6, .int .u64 x2.2), (26, .bool ((decide (x2.1 > 0)) || decide (x2.2 > 9223372036854775807)))]) (fun _ => []) (fun _ => True) (fun _ _ => ?_) (fun hK => ?_)))))
  ·refine T.cond (b := ((decide (x2.1 > 0)) || decide (x2.2 > 9223372036854775807))) rfl (fun hb_3 => ?_) (fun hb_3 => ?_)
   ·replace h := ite_T h hb_3
    cases h
   replace h := ite_F h hb_3
   refine T.skip (T.seq ?_)
   obtain ⟨x5, hx5, h⟩ := bind_some h
   refine T.region (sm (.int .u64 x2.2) rfl (so (o_conv Try.underlying143 Try.underlying3 rfl (so (o_mk (en := encEnds) (zr := (⟨0, 0⟩ : Ends)) Ty.s115 Ty.z121 rfl rfl hx5 rfl (aw' := [.arr 121 2 (List.map encEnds x5)]) rfl (sa (.ref 0) rfl (RS.nil (T.seq (T.region (sm (.ref 0) rfl (sm (.sl (List.map encEnds p0)) rfl ?_)))))))))))
   refine so (o_copy_rs (en := encEnds) (xs := x5) (ys := p0) Ty.s115 (fun _ => rfl) rfl rfl rfl (aw' := [.arr 121 2 (List.map encEnds (cpy x5 0 (x5).length p0))]) rfl (sa (.int .i64 ((min (x5).length (p0).length : Nat) : Int)) rfl (RS.nil (T.seq (T.block (T.iter (fun ss_8 : Int × (List Ends) => mkA 48 [(7, .ref 0), (8, .int .i64 ss_8.1)]) (fun ss_8 => [.arr 121 2 (List.map encEnds ss_8.2)]) h (Weak.mkN [] [0] (by decide) (none_kept _) rfl ⟨rn_ref rfl, rn_int rfl, trivial⟩ (rw_ar rfl rfl (rw_nil))) (fun ss_8 v_9 h hv_9 => ?_)))))))
   obtain ⟨s6, s7⟩ := ss_8
   replace h : slices_Repeat_ends_l1 s6 s7 = some v_9 := h
   try dsimp only
   unfold slices_Repeat_ends_l1 at h
   refine T.seq (T.seq (T.region (sm (.int .i64 s6) rfl (sm (.ref 0) rfl (sq (v_len_ref (en := encEnds) Ty.s115 rfl rfl (sq (v_lss rfl rfl (RS.nil (T.cond (b := decide (s6 < ((s7).length : Int))) rfl (fun hb_10 => ?_) (fun hb_10 => ?_)))))))))))
   ·replace h := ite_T h hb_10
    refine T.skip (T.block ?_)
    obtain ⟨x8, hx8, h⟩ := bind_some h
    obtain ⟨x9, hx9, h⟩ := bind_some h
    obtain ⟨x10, hx10, h⟩ := bind_some h
    obtain ⟨x11, hx11, h⟩ := bind_some h
    refine T.drawn mixed (k := 10) rfl (RA.join 3 #[true, true, true, true, true, true, true, false, false, false] (mkA 48 [(7, .ref 0), (8, .int .i64 s6), (34, .int .i64 s6), (35, .ref 0), (36, .int .i64 ((s7).length : Int)), (37, .bool (decide (s6 < ((s7).length : Int)))), (38, .int .i64 s6), (39, .ref 0), (40, .int .i64 s6), (41, .vw 0 2 ((s6).toNat) ((((s7).length : Int)).toNat - (s6).toNat) none), (42, .ref 0), (43, .int .i64 s6), (44, .vw 0 2 (((0 : Int)).toNat) ((s6).toNat - ((0 : Int)).toNat) none)]) [.arr 121 2 (List.map encEnds s7)] ?_ (fun hS11 => ?_))
    ·refine RA.a1 (i1 := 7) (l1 := #[true, true, true, true, true, true, true, true, false, false]) (by decide +kernel) (by decide +kernel) (RO.op rfl rfl (o_copy_vv (en := encEnds) (xs := s7) Ty.s115 (fun _ => rfl) rfl rfl rfl hx10 hx11 (aw' := [.arr 121 2 (List.map encEnds (cpy s7 ((s6).toNat) ((((s7).length : Int)).toNat - (s6).toNat) ((s7.drop (((0 : Int)).toNat)).take ((s6).toNat - ((0 : Int)).toNat))))]) rfl (RA.t0 (i := 8) (li' := #[true, true, true, true, true, true, true, true, true, false]) rfl (by decide +kernel) (by decide +kernel) (by decide +kernel) (by decide +kernel) rfl rfl (v_add rfl rfl (RA.t0 (i := 9) (li' := #[true, true, true, true, true, true, true, true, true, true]) rfl (by decide +kernel) (by decide +kernel) (by decide +kernel) (by decide +kernel) rfl rfl (v_assign (v := .int .i64 (IntKind.i64.wrap (s6 + ((min ((((s7).length : Int)).toNat - (s6).toNat) ((s6).toNat - ((0 : Int)).toNat) : Nat) : Int)))) rfl (RA.done (by decide +kernel) ?_)))))))
     exact ⟨(IntKind.i64.wrap (s6 + ((min ((((s7).length : Int)).toNat - (s6).toNat) ((s6).toNat - ((0 : Int)).toNat) : Nat) : Int)), (cpy s7 ((s6).toNat) ((((s7).length : Int)).toNat - (s6).toNat) ((s7.drop (((0 : Int)).toNat)).take ((s6).toNat - ((0 : Int)).toNat)))), (Option.some.inj h).symm, Weak.mkN [] [0] (by decide) (none_kept _) rfl ⟨rn_ref rfl, rn_int rfl, trivial⟩ (rw_ar rfl rfl (rw_nil))⟩
    ·refine RA.t0 (i := 0) (li' := #[true, false, false, false, false, false, false, false, false, false]) rfl (by decide +kernel) (by decide +kernel) (by decide +kernel) (by decide +kernel) rfl rfl (v_move (v := .int .i64 s6) rfl (RA.t0 (i := 1) (li' := #[true, true, false, false, false, false, false, false, false, false]) rfl (by decide +kernel) (by decide +kernel) (by decide +kernel) (by decide +kernel) rfl rfl (v_move (v := .ref 0) rfl (RA.t0 (i := 2) (li' := #[true, true, true, false, false, false, false, false, false, false]) rfl (by decide +kernel) (by decide +kernel) (by decide +kernel) (by decide +kernel) rfl rfl (v_move (v := .int .i64 s6) rfl (RA.t0 (i := 4) (li' := #[true, true, true, false, true, false, false, false, false, false]) rfl (by decide +kernel) (by decide +kernel) (by decide +kernel) (by decide +kernel) rfl rfl (v_move (v := .ref 0) rfl (RA.t0 (i := 5) (li' := #[true, true, true, false, true, true, false, false, false, false]) rfl (by decide +kernel) (by decide +kernel) (by decide +kernel) (by decide +kernel) rfl rfl (v_move (v := .int .i64 s6) rfl (RA.a2 (i1 := 3) (l1 := #[true, true, true, true, true, true, false, false, false, false]) (i2 := 6) (l2 := #[true, true, true, false, true, true, true, false, false, false]) (by decide +kernel) (by decide +kernel) (by decide +kernel) ?_ ?_))))))))))
     ·refine RO.op rfl rfl (o_slice_vw (en := encEnds) (xs := s7) Ty.s115 rfl rfl rfl rfl hx8 (RA.a1 (i1 := 6) (l1 := #[true, true, true, true, true, true, true, false, false, false]) (by decide +kernel) (by decide +kernel) (RO.op rfl rfl (o_slice_vw (en := encEnds) (xs := s7) Ty.s115 rfl rfl rfl rfl hx9 ?_))))
      exact RA.weakR hS11 (Weak.mkN [] [0] (by decide) (none_kept _) rfl ⟨rn_ref rfl, rn_int rfl, rn_int rfl, rn_ref rfl, rn_int rfl, rn_bool rfl, rn_int rfl, rn_ref rfl, rn_int rfl, rn_vw rfl rfl rfl, rn_ref rfl, rn_int rfl, rn_vw rfl rfl rfl, trivial⟩ (rw_ar rfl rfl (rw_nil)))
     ·refine RO.op rfl rfl (o_slice_vw (en := encEnds) (xs := s7) Ty.s115 rfl rfl rfl rfl hx9 (RA.a1 (i1 := 3) (l1 := #[true, true, true, true, true, true, true, false, false, false]) (by decide +kernel) (by decide +kernel) (RO.op rfl rfl (o_slice_vw (en := encEnds) (xs := s7) Ty.s115 rfl rfl rfl rfl hx8 ?_))))
      exact RA.weakR hS11 (Weak.mkN [] [0] (by decide) (none_kept _) rfl ⟨rn_ref rfl, rn_int rfl, rn_int rfl, rn_ref rfl, rn_int rfl, rn_bool rfl, rn_int rfl, rn_ref rfl, rn_int rfl, rn_vw rfl rfl rfl, rn_ref rfl, rn_int rfl, rn_vw rfl rfl rfl, trivial⟩ (rw_ar rfl rfl (rw_nil)))
   replace h := ite_F h hb_10
   refine T.exit ?_
   obtain ⟨w_12, h, hw_12⟩ := map_inr h
   replace h := h.trans (congrArg some (hv_9 _ hw_12))
   refine T.seq (T.region (sm (.ref 0) rfl (sa (.ref 0) rfl (RS.nil (T.rt (res_tmpA (v := .ref 0) rfl (res_done ?_)))))))
   exact ret_own (.ref 0) [] [0] (by decide) (none_kept _) rfl (rn_ref rfl) (rw_arr rfl encEnds_p (congrArg (fun r : List Ends => r) (Option.some.inj h)).symm (rw_nil)) ⟨rfl, rfl⟩
  refine T.region (sm (.int .u64 x2.1) rfl (sq (v_gtr rfl rfl (sm (.bool (decide (x2.1 > 0))) rfl ?_))))
  rcases bool_cases (decide (x2.1 > 0)) with hb_2 | hb_2
  ·refine sn hb_2 (sn hb_2 (sq (v_pickT (v := .bool true) rfl hb_2 rfl (RS.nil ?_))))
   exact T.weakR (hK () trivial) (Weak.mkN [] [] (by decide) (none_kept _) rfl ⟨rn_s rfl, rn_int rfl, rn_bool (by simp only [hb_2, bz, if_true, if_false, Bool.false_eq_true]), trivial⟩ (rw_nil))
  refine yq hb_2 (v_move (v := .int .u64 x2.2) rfl (yq hb_2 (v_gtr rfl rfl (sq (v_pickF (v := .bool (decide (x2.2 > 9223372036854775807))) rfl hb_2 rfl (RS.nil ?_))))))
  exact T.weakR (hK () trivial) (Weak.mkN [] [] (by decide) (none_kept _) rfl ⟨rn_s rfl, rn_int rfl, rn_bool (by simp only [hb_2, bz, if_true, if_false, Bool.false_eq_true]), trivial⟩ (rw_nil))
theorem net_arity_c (p0 : Int) (r : Int × Int × Bool) (h : net_arity p0 = some r) : Fn Try.prog 89 [.int .i64 p0] (.tup [.int .i64 r.1, .int .i64 r.2.1, .bool r.2.2]) := by
  unfold net_arity at h
  refine fn_of_T (N := 0) rfl Try.func89 rfl (by kernel_rfl) Try.ntmps89 rfl ?_
  show T _ _ _ _ (mkA 19 [(0, .int .i64 p0)]) []
  refine T.seq (T.region (sa (.int .i64 0) rfl (sa (.int .i64 0) rfl (sa (.bool false) rfl (RS.nil (T.seq (T.seq (T.region (sm (.int .i64 p0) rfl ?_)))))))))
  refine RS.nil (T.block (T.seq (T.region (sq (v_eql rfl rfl (sa (.bool (p0 == 1)) rfl (RS.nil (T.cond (b := p0 == 1) rfl (fun hb_1 => ?_) (fun hb_1 => ?_)))))))))
  ·replace h := ite_T h hb_1
   refine T.seq (T.region (sa (.int .i64 0) rfl (sa (.int .i64 1) rfl (sa (.bool true) rfl (RS.nil (T.rt (res_tmpA (v := .int .i64 0) rfl (res_tmpA (v := .int .i64 1) rfl (res_tmpA (v := .bool true) rfl ?_)))))))))
   refine res_done ?_
   exact ret_data (v := .tup [.int .i64 0, .int .i64 1, .bool true]) rfl (pure_tup _ (pures_mem (⟨pure_int _ _, pure_int _ _, pure_bool _, trivial⟩))) ⟨congrArg (fun r : Int × Int × Bool => (.tup [.int .i64 r.1, .int .i64 r.2.1, .bool r.2.2] : AV)) (Option.some.inj h), rfl⟩
  replace h := ite_F h hb_1
  refine T.join (Z := Bool) (fun zz_4 => mkA 19 [(5, .int .i64 p0), (8, .bool zz_4)]) (fun zz_4 => []) (fun zz_4 => net_arity_k2 p0 zz_4 = some r) (fun zz_4 h => ?_) (fun hK2 => ?_)
  ·revert h; revert zz_4; intro z1 h
   replace h : net_arity_k2 p0 z1 = some r := h
   try dsimp only
   unfold net_arity_k2 at h
   refine T.cond (b := z1) rfl (fun hb_5 => ?_) (fun hb_5 => ?_)
   ·replace h := ite_T h hb_5
    refine T.seq (T.region (sa (.int .i64 1) rfl (sa (.int .i64 1) rfl (sa (.bool true) rfl (RS.nil (T.rt (res_tmpA (v := .int .i64 1) rfl (res_tmpA (v := .int .i64 1) rfl (res_tmpA (v := .bool true) rfl ?_)))))))))
    refine res_done ?_
    exact ret_data (v := .tup [.int .i64 1, .int .i64 1, .bool true]) rfl (pure_tup _ (pures_mem (⟨pure_int _ _, pure_int _ _, pure_bool _, trivial⟩))) ⟨congrArg (fun r : Int × Int × Bool => (.tup [.int .i64 r.1, .int .i64 r.2.1, .bool r.2.2] : AV)) (Option.some.inj h), rfl⟩
   replace h := ite_F h hb_5
   refine T.join (Z := Bool) (fun zz_7 => mkA 19 [(5, .int .i64 p0), (12, .bool zz_7)]) (fun zz_7 => []) (fun zz_7 => net_arity_k1 p0 zz_7 = some r) (fun zz_7 h => ?_) (fun hK1 => ?_)
   ·revert h; revert zz_7; intro z2 h
    replace h : net_arity_k1 p0 z2 = some r := h
    try dsimp only
    unfold net_arity_k1 at h
    refine T.cond (b := z2) rfl (fun hb_8 => ?_) (fun hb_8 => ?_)
    ·replace h := ite_T h hb_8
     refine T.seq (T.region (sa (.int .i64 1) rfl (sa (.int .i64 (-1)) rfl (sa (.bool true) rfl (RS.nil (T.rt (res_tmpA (v := .int .i64 1) rfl (res_tmpA (v := .int .i64 (-1)) rfl (res_tmpA (v := .bool true) rfl ?_)))))))))
     refine res_done ?_
     exact ret_data (v := .tup [.int .i64 1, .int .i64 (-1), .bool true]) rfl (pure_tup _ (pures_mem (⟨pure_int _ _, pure_int _ _, pure_bool _, trivial⟩))) ⟨congrArg (fun r : Int × Int × Bool => (.tup [.int .i64 r.1, .int .i64 r.2.1, .bool r.2.2] : AV)) (Option.some.inj h), rfl⟩
    replace h := ite_F h hb_8
    refine T.seq (T.region (sq (v_eql rfl rfl (sa (.bool (p0 == 6)) rfl (RS.nil (T.cond (b := p0 == 6) rfl (fun hb_9 => ?_) (fun hb_9 => ?_)))))))
    ·replace h := ite_T h hb_9
     refine T.seq (T.region (sa (.int .i64 (-1)) rfl (sa (.int .i64 1) rfl (sa (.bool true) rfl (RS.nil (T.rt (res_tmpA (v := .int .i64 (-1)) rfl (res_tmpA (v := .int .i64 1) rfl (res_tmpA (v := .bool true) rfl ?_)))))))))
     refine res_done ?_
     exact ret_data (v := .tup [.int .i64 (-1), .int .i64 1, .bool true]) rfl (pure_tup _ (pures_mem (⟨pure_int _ _, pure_int _ _, pure_bool _, trivial⟩))) ⟨congrArg (fun r : Int × Int × Bool => (.tup [.int .i64 r.1, .int .i64 r.2.1, .bool r.2.2] : AV)) (Option.some.inj h), rfl⟩
    replace h := ite_F h hb_9
    refine T.seq (T.region (sq (v_eql rfl rfl (sa (.bool (p0 == 8)) rfl (RS.nil (T.cond (b := p0 == 8) rfl (fun hb_10 => ?_) (fun hb_10 => ?_)))))))
    ·replace h := ite_T h hb_10
     refine T.seq (T.region (sa (.int .i64 1) rfl (sa (.int .i64 0) rfl (sa (.bool true) rfl (RS.nil (T.rt (res_tmpA (v := .int .i64 1) rfl (res_tmpA (v := .int .i64 0) rfl (res_tmpA (v := .bool true) rfl ?_)))))))))
     refine res_done ?_
     exact ret_data (v := .tup [.int .i64 1, .int .i64 0, .bool true]) rfl (pure_tup _ (pures_mem (⟨pure_int _ _, pure_int _ _, pure_bool _, trivial⟩))) ⟨congrArg (fun r : Int × Int × Bool => (.tup [.int .i64 r.1, .int .i64 r.2.1, .bool r.2.2] : AV)) (Option.some.inj h), rfl⟩
    replace h := ite_F h hb_10
    refine T.skip (T.seq (T.region (sa (.int .i64 0) rfl (sa (.int .i64 0) rfl (sa (.bool false) rfl (RS.nil (T.rt (res_tmpA (v := .int .i64 0) rfl (res_tmpA (v := .int .i64 0) rfl ?_)))))))))
    refine res_tmpA (v := .bool false) rfl (res_done ?_)
    exact ret_data (v := .tup [.int .i64 0, .int .i64 0, .bool false]) rfl (pure_tup _ (pures_mem (⟨pure_int _ _, pure_int _ _, pure_bool _, trivial⟩))) ⟨congrArg (fun r : Int × Int × Bool => (.tup [.int .i64 r.1, .int .i64 r.2.1, .bool r.2.2] : AV)) (Option.some.inj h), rfl⟩
   refine T.seq (T.region (sq (v_eql rfl rfl (sa (.bool (p0 == 5)) rfl (RS.nil (T.cond (b := p0 == 5) rfl (fun hb_11 => ?_) (fun hb_11 => ?_)))))))
   ·replace h := ite_T h hb_11
    refine T.skip ?_
    exact T.weakR (hK1 (p0 == 5) h) (Weak.mkN [] [] (by decide) (none_kept _) rfl ⟨rn_int rfl, rn_bool rfl, trivial⟩ (rw_nil))
   replace h := ite_F h hb_11
   refine T.region (sq (v_eql rfl rfl (sa (.bool (p0 == 7)) rfl (RS.nil ?_))))
   exact T.weakR (hK1 (p0 == 7) h) (Weak.mkN [] [] (by decide) (none_kept _) rfl ⟨rn_int rfl, rn_bool rfl, trivial⟩ (rw_nil))
  refine T.seq (T.region (sq (v_eql rfl rfl (sa (.bool (p0 == 2)) rfl (RS.nil (T.cond (b := p0 == 2) rfl (fun hb_12 => ?_) (fun hb_12 => ?_)))))))
  ·replace h := ite_T h hb_12
   refine T.skip ?_
   exact T.weakR (hK2 (p0 == 2) h) (Weak.mkN [] [] (by decide) (none_kept _) rfl ⟨rn_int rfl, rn_bool rfl, trivial⟩ (rw_nil))
  replace h := ite_F h hb_12
  refine T.seq (T.region (sq (v_eql rfl rfl (sa (.bool (p0 == 3)) rfl (RS.nil (T.cond (b := p0 == 3) rfl (fun hb_13 => ?_) (fun hb_13 => ?_)))))))
  ·replace h := ite_T h hb_13
   refine T.skip ?_
   exact T.weakR (hK2 (p0 == 3) h) (Weak.mkN [] [] (by decide) (none_kept _) rfl ⟨rn_int rfl, rn_bool rfl, trivial⟩ (rw_nil))
  replace h := ite_F h hb_13
  refine T.region (sq (v_eql rfl rfl (sa (.bool (p0 == 4)) rfl (RS.nil ?_))))
  exact T.weakR (hK2 (p0 == 4) h) (Weak.mkN [] [] (by decide) (none_kept _) rfl ⟨rn_int rfl, rn_bool rfl, trivial⟩ (rw_nil))
theorem net_fits_c (p0 : Int) (p1 : Int) (r : Bool) (h : net_fits p0 p1 = some r) : Fn Try.prog 90 [.int .i64 p0, .int .i64 p1] (.bool r) := by
  unfold net_fits at h
  refine fn_of_T (N := 0) rfl Try.func90 rfl (by kernel_rfl) Try.ntmps90 rfl ?_
  show T _ _ _ _ (mkA 16 [(0, .int .i64 p0), (1, .int .i64 p1)]) []
  refine T.seq (T.region (sa (.bool false) rfl (RS.nil (T.join (Z := Unit) (fun _ => mkA 16 [(4, .bool ((p0 == p1) || ((decide (p1 < 0)) && decide (p0 > 0))))]) (fun _ => []) (fun _ => True) (fun _ _ => ?_) (fun hK => ?_)))))
  ·refine T.rt (res_tmpA (v := .bool ((p0 == p1) || ((decide (p1 < 0)) && decide (p0 > 0)))) rfl (res_done ?_))
   exact ret_data (v := .bool ((p0 == p1) || ((decide (p1 < 0)) && decide (p0 > 0)))) rfl (pure_bool _) ⟨congrArg (fun r : Bool => (.bool r : AV)) (Option.some.inj h), rfl⟩
  refine T.region (sm (.int .i64 p0) rfl (sm (.int .i64 p1) rfl (sq (v_eql rfl rfl (sm (.bool (p0 == p1)) rfl ?_)))))
  rcases bool_cases (p0 == p1) with hb_1 | hb_1
  ·refine sn hb_1 (sn hb_1 (sn hb_1 (su (su (sn hb_1 (sq (v_pickT (v := .bool true) rfl hb_1 rfl (sa (.bool true) rfl (RS.nil ?_)))))))))
   exact T.weakR (hK () trivial) (Weak.mkN [] [] (by decide) (none_kept _) rfl ⟨rn_bool (by simp only [hb_1, bz, if_true, if_false, Bool.false_eq_true]), trivial⟩ (rw_nil))
  refine yq hb_1 (v_move (v := .int .i64 p1) rfl (yq hb_1 (v_lss rfl rfl (yq hb_1 (v_move (v := .bool (decide (p1 < 0))) rfl ?_)))))
  rcases bool_cases (decide (p1 < 0)) with hb_2 | hb_2
  ·refine yq hb_2 (v_move (v := .int .i64 p0) rfl (yq hb_2 (v_gtr rfl rfl (yq hb_1 (v_pickT (v := .bool (decide (p0 > 0))) rfl hb_2 rfl (sq (v_pickF (v := .bool (decide (p0 > 0))) rfl hb_1 rfl (sa (.bool (decide (p0 > 0))) rfl (RS.nil ?_)))))))))
   exact T.weakR (hK () trivial) (Weak.mkN [] [] (by decide) (none_kept _) rfl ⟨rn_bool (by simp only [hb_1, hb_2, bz, if_true, if_false, Bool.false_eq_true]), trivial⟩ (rw_nil))
  refine sn hb_2 (sn hb_2 (yq hb_1 (v_pickF (v := .bool false) rfl hb_2 rfl (sq (v_pickF (v := .bool false) rfl hb_1 rfl (sa (.bool false) rfl (RS.nil ?_)))))))
  exact T.weakR (hK () trivial) (Weak.mkN [] [] (by decide) (none_kept _) rfl ⟨rn_bool (by simp only [hb_1, hb_2, bz, if_true, if_false, Bool.false_eq_true]), trivial⟩ (rw_nil))
theorem net_look_c (p0 : Net) (r : (List Ends) × Int) (h : net_look p0 = some r) : FnO Try.prog 67 [.agg [.sl (List.map encNode p0.Nodes), .int .i64 p0.Rings, .int .i64 p0.Room]] (.tup [.ref 0, .int .i64 r.2]) [.arr 121 2 (List.map encEnds r.1)] := by
  unfold net_look at h
  refine fn_of_T (N := 0) rfl Try.func67 rfl (by kernel_rfl) Try.ntmps67 rfl ?_
  show T _ _ _ _ (mkA 197 [(0, .agg [.sl (List.map encNode p0.Nodes), .int .i64 p0.Rings, .int .i64 p0.Room])]) []
  refine T.seq (T.region (so (o_box (cs := [.sl (List.map encNode p0.Nodes), .int .i64 p0.Rings, .int .i64 p0.Room]) rfl rfl (aw' := [.box [.sl (List.map encNode p0.Nodes), .int .i64 p0.Rings, .int .i64 p0.Room]]) rfl (sa .nils rfl (sa (.int .i64 0) rfl (RS.nil (T.seq (T.join (Z := Unit) (fun _ => mkA 197 [(1, .ptr 0 0), (36, .bool ((decide (((p0.Nodes).length : Int) < 1)) || ((decide (((p0.Nodes).length : Int) > 12)) || ((decide (p0.Rings < 0)) || decide (p0.Rings > 16)))))]) (fun _ => [.box [.sl (List.map encNode p0.Nodes), .int .i64 p0.Rings, .int .i64 p0.Room]]) (fun _ => True) (fun _ _ => ?_) (fun hK => ?_)))))))))
  ·refine T.cond (b := ((decide (((p0.Nodes).length : Int) < 1)) || ((decide (((p0.Nodes).length : Int) > 12)) || ((decide (p0.Rings < 0)) || decide (p0.Rings > 16))))) rfl (fun hb_4 => ?_) (fun hb_4 => ?_)
   ·replace h := ite_T h hb_4
    refine T.seq (T.region (sa .nils rfl (sa (.int .i64 2) rfl (RS.nil (T.rt (res_tmpA (v := .nils) rfl (res_tmpA (v := .int .i64 2) rfl (res_done ?_))))))))
    exact ret_own (.tup [.ref 0, .int .i64 r.2]) [(0, 121, 2)] [1] (by decide) (none_kept _) rfl (rn_tup ⟨rn_ref rfl, rn_int (congrArg (fun r : (List Ends) × Int => r.2) (Option.some.inj h)).symm, trivial⟩) (rw_arr (en := encEnds) (ys := []) rfl encEnds_p (congrArg (fun r : (List Ends) × Int => r.1) (Option.some.inj h)).symm (rw_nil)) ⟨rfl, rfl⟩
   replace h := ite_F h hb_4
   refine T.skip (T.seq (T.join (Z := Unit) (fun _ => mkA 197 [(1, .ptr 0 0), (44, .bool ((decide (p0.Room < 1)) || decide (p0.Room > 6)))]) (fun _ => [.box [.sl (List.map encNode p0.Nodes), .int .i64 p0.Rings, .int .i64 p0.Room]]) (fun _ => True) (fun _ _ => ?_) (fun hK => ?_)))
   ·refine T.cond (b := ((decide (p0.Room < 1)) || decide (p0.Room > 6))) rfl (fun hb_6 => ?_) (fun hb_6 => ?_)
    ·replace h := ite_T h hb_6
     refine T.seq (T.region (sa .nils rfl (sa (.int .i64 3) rfl (RS.nil (T.rt (res_tmpA (v := .nils) rfl (res_tmpA (v := .int .i64 3) rfl (res_done ?_))))))))
     exact ret_own (.tup [.ref 0, .int .i64 r.2]) [(0, 121, 2)] [1] (by decide) (none_kept _) rfl (rn_tup ⟨rn_ref rfl, rn_int (congrArg (fun r : (List Ends) × Int => r.2) (Option.some.inj h)).symm, trivial⟩) (rw_arr (en := encEnds) (ys := []) rfl encEnds_p (congrArg (fun r : (List Ends) × Int => r.1) (Option.some.inj h)).symm (rw_nil)) ⟨rfl, rfl⟩
    replace h := ite_F h hb_6
    refine T.skip (T.seq ?_)
    obtain ⟨x4, hx4, h⟩ := bind_some h
    refine T.region (sq (v_build (cs := [.int .i64 (-1), .int .i64 (-1)]) Ty.z121 Ty.p121 rfl (so (o_buildSlice (rows := List.map encEnds [(⟨(-1), (-1)⟩ : Ends)]) (vs := [.agg [.int .i64 (-1), .int .i64 (-1)]]) Ty.s115 Ty.z121 rfl rfl rfl rfl rfl (aw' := [.box [.sl (List.map encNode p0.Nodes), .int .i64 p0.Rings, .int .i64 p0.Room], .arr 121 2 (List.map encEnds [(⟨(-1), (-1)⟩ : Ends)])]) rfl (sq (v_fieldAddr_ptr Ty.f56_1 rfl (off' := 1) rfl (so (o_load_ptr rfl rfl (loadRow1 Ty.k3 (c := .int .i64 p0.Rings) rfl (so (o_call (as0 := [.ref 1, .int .i64 p0.Rings]) (as1 := [.sl (List.map encEnds ([(⟨(-1), (-1)⟩ : Ends)] : List Ends)), .int .i64 p0.Rings]) (caps := []) (aw1 := [.box [.sl (List.map encNode p0.Nodes), .int .i64 p0.Rings, .int .i64 p0.Room], .dead]) rfl rfl rfl (k_own' (v := .ref 0) (obs := [.arr 121 2 (List.map encEnds x4)]) (v' := .ref 2) (aw' := [.box [.sl (List.map encNode p0.Nodes), .int .i64 p0.Rings, .int .i64 p0.Room], .arr 121 2 (List.map encEnds [(⟨(-1), (-1)⟩ : Ends)]), .arr 121 2 (List.map encEnds x4)]) (slices_Repeat_ends_c ([(⟨(-1), (-1)⟩ : Ends)] : List Ends) p0.Rings x4 hx4) (⟨pure_map encEnds_p _, pure_int _ _, trivial⟩) rfl (obs_cons (flatOb_map fun _ => rfl) obs_nil) rfl rfl (sa (.ref 2) rfl (RS.nil (T.seq (T.region ?_))))))))))))))))
    refine sa (.int .i64 0) rfl (RS.nil (T.seq (T.seq (T.region (sq (v_fieldAddr_ptr Ty.f56_0 rfl (off' := 0) rfl (so (o_load_ptr rfl rfl (loadRow1 Ty.k54 (c := .sl (List.map encNode p0.Nodes)) rfl (sq (v_len_sl Ty.s54 rfl (sm (.int .i64 0) rfl (RS.nil ?_)))))))))))))
    refine T.block (T.iter (fun ss_123 : Int × Int × (List Ends) => mkA 197 [(1, .ptr 0 0), (4, .ref 1), (5, .int .i64 ss_123.1), (51, .sl (List.map encNode p0.Nodes)), (52, .int .i64 ((p0.Nodes).length : Int)), (53, .int .i64 ss_123.2.1)]) (fun ss_123 => [.box [.sl (List.map encNode p0.Nodes), .int .i64 p0.Rings, .int .i64 p0.Room], .arr 121 2 (List.map encEnds ss_123.2.2)]) h (Weak.mkN [] [0, 2] (by decide) (none_kept _) rfl ⟨rn_ptr rfl, rn_ref rfl, rn_int rfl, rn_s rfl, rn_int rfl, rn_int rfl, trivial⟩ (rw_bs [.sl (List.map encNode p0.Nodes), .int .i64 p0.Rings, .int .i64 p0.Room] rfl (rw_ar rfl rfl (rw_nil)))) (fun ss_123 v_124 h hv_124 => ?_))
    obtain ⟨s5, s6, s7⟩ := ss_123
    replace h : net_look_l5 p0 s5 s6 s7 = some v_124 := h
    try dsimp only
    unfold net_look_l5 at h
    refine T.seq (T.region (sq (v_lss rfl rfl (RS.nil (T.seq (T.cond (b := decide (s6 < ((p0.Nodes).length : Int))) rfl (fun hb_125 => ?_) (fun hb_125 => ?_)))))))
    ·replace h := ite_T h hb_125
     refine T.skip (T.seq (T.block (T.seq ?_)))
     obtain ⟨x9, hx9, h⟩ := bind_some h
     refine T.region (sm (.int .i64 s6) rfl (sq (v_index_sl Ty.s54 (fun _ => rfl) rfl rfl hx9 (so (o_load_elt rfl (loadRowA Ty.k67 Ty.c67 rfl (cs := [.int .i64 x9.Kind, .int .i64 x9.A, .sl (List.map encI x9.In), .sl (List.map encI x9.Out)]) rfl (so (o_alloc Ty.z67 rfl (aw' := [.box [.sl (List.map encNode p0.Nodes), .int .i64 p0.Rings, .int .i64 p0.Room], .arr 121 2 (List.map encEnds s7), .box [.int .i64 0, .int .i64 0, .nils, .nils]]) rfl (sa (.int .i64 s6) rfl (so (o_store_ptr Ty.c67 Ty.i67 rfl (vs := [.int .i64 x9.Kind, .int .i64 x9.A, .sl (List.map encI x9.In), .sl (List.map encI x9.Out)]) rfl rfl rfl rfl (cs' := [.int .i64 x9.Kind, .int .i64 x9.A, .sl (List.map encI x9.In), .sl (List.map encI x9.Out)]) rfl (aw' := [.box [.sl (List.map encNode p0.Nodes), .int .i64 p0.Rings, .int .i64 p0.Room], .arr 121 2 (List.map encEnds s7), .box [.int .i64 x9.Kind, .int .i64 x9.A, .sl (List.map encI x9.In), .sl (List.map encI x9.Out)]]) rfl (RS.nil (T.seq ?_)))))))))))))
     obtain ⟨x11, hx11, h⟩ := bind_some h
     refine T.region (sq (v_fieldAddr_ptr Ty.f67_0 rfl (off' := 0) rfl (so (o_load_ptr rfl rfl (loadRow1 Ty.k3 (c := .int .i64 x9.Kind) rfl (so (o_call (as0 := [.int .i64 x9.Kind]) (as1 := [.int .i64 x9.Kind]) (caps := []) (aw1 := [.box [.sl (List.map encNode p0.Nodes), .int .i64 p0.Rings, .int .i64 p0.Room], .arr 121 2 (List.map encEnds s7), .box [.int .i64 x9.Kind, .int .i64 x9.A, .sl (List.map encI x9.In), .sl (List.map encI x9.Out)]]) rfl rfl rfl (k_flat (v := .tup [.int .i64 x11.1, .int .i64 x11.2.1, .bool x11.2.2]) (net_arity_c x9.Kind x11 hx11) (⟨pure_int _ _, trivial⟩) rfl (sm (.tup [.int .i64 x11.1, .int .i64 x11.2.1, .bool x11.2.2]) rfl (sq (v_extract (v := .int .i64 x11.1) rfl rfl (sq (v_extract (v := .int .i64 x11.2.1) rfl rfl (sq (v_extract (v := .bool x11.2.2) rfl rfl (sa (.int .i64 x11.1) rfl (sa (.int .i64 x11.2.1) rfl ?_)))))))))))))))))
     refine sa (.bool x11.2.2) rfl (RS.nil (T.seq (T.seq (T.region (sm (.bool x11.2.2) rfl (sq (v_not rfl (RS.nil (T.cond (b := !x11.2.2) rfl (fun hb_126 => ?_) (fun hb_126 => ?_))))))))))
     ·replace h := ite_T h hb_126
      refine T.seq (T.region (sa .nils rfl (sa (.int .i64 5) rfl (RS.nil (T.rt ?_)))))
      obtain ⟨w_127, h, hw_127⟩ := map_inr h
      replace h := h.trans (congrArg some (hv_124 _ hw_127))
      refine res_tmpA (v := .nils) rfl (res_tmpA (v := .int .i64 5) rfl (res_done ?_))
      exact ret_own (.tup [.ref 0, .int .i64 r.2]) [(0, 121, 2)] [3] (by decide) (none_kept _) rfl (rn_tup ⟨rn_ref rfl, rn_int (congrArg (fun r : (List Ends) × Int => r.2) (Option.some.inj h)).symm, trivial⟩) (rw_arr (en := encEnds) (ys := []) rfl encEnds_p (congrArg (fun r : (List Ends) × Int => r.1) (Option.some.inj h)).symm (rw_nil)) ⟨rfl, rfl⟩
     replace h := ite_F h hb_126
     refine T.skip (T.seq ?_)
     obtain ⟨x12, hx12, h⟩ := bind_some h
     obtain ⟨zt_129, hz, h⟩ := bind_some h
     revert hz h; revert zt_129; intro c14 hz h
     refine T.join (Z := Unit) (fun _ => mkA 197 [(1, .ptr 0 0), (4, .ref 1), (5, .int .i64 s5), (6, .int .i64 s6), (7, .ptr 2 0), (51, .sl (List.map encNode p0.Nodes)), (52, .int .i64 ((p0.Nodes).length : Int)), (53, .int .i64 s6), (80, .bool c14)]) (fun _ => [.box [.sl (List.map encNode p0.Nodes), .int .i64 p0.Rings, .int .i64 p0.Room], .arr 121 2 (List.map encEnds s7), .box [.int .i64 x9.Kind, .int .i64 x9.A, .sl (List.map encI x9.In), .sl (List.map encI x9.Out)]]) (fun _ => True) (fun _ _ => ?_) (fun hK => ?_)
     ·refine T.cond (b := c14) rfl (fun hb_130 => ?_) (fun hb_130 => ?_)
      ·replace h := ite_T h hb_130
       refine T.seq (T.region (sa .nils rfl (sa (.int .i64 4) rfl (RS.nil (T.rt ?_)))))
       obtain ⟨w_131, h, hw_131⟩ := map_inr h
       replace h := h.trans (congrArg some (hv_124 _ hw_131))
       refine res_tmpA (v := .nils) rfl (res_tmpA (v := .int .i64 4) rfl (res_done ?_))
       exact ret_own (.tup [.ref 0, .int .i64 r.2]) [(0, 121, 2)] [3] (by decide) (none_kept _) rfl (rn_tup ⟨rn_ref rfl, rn_int (congrArg (fun r : (List Ends) × Int => r.2) (Option.some.inj h)).symm, trivial⟩) (rw_arr (en := encEnds) (ys := []) rfl encEnds_p (congrArg (fun r : (List Ends) × Int => r.1) (Option.some.inj h)).symm (rw_nil)) ⟨rfl, rfl⟩
      replace h := ite_F h hb_130
      refine T.skip (T.seq (T.join (Z := Unit) (fun _ => mkA 197 [(1, .ptr 0 0), (4, .ref 1), (5, .int .i64 s5), (6, .int .i64 s6), (7, .ptr 2 0), (51, .sl (List.map encNode p0.Nodes)), (52, .int .i64 ((p0.Nodes).length : Int)), (53, .int .i64 s6), (118, .bool ((decide (x9.A < 0)) || (if (x9.Kind == 1) = true then ((decide (x9.A ≥ 4)) || (if (x9.Kind == 2) = true then ((decide (x9.A > 3)) || ((x9.Kind != 1) && ((x9.Kind != 2) && x9.A != 0))) else ((x9.Kind != 1) && ((x9.Kind != 2) && x9.A != 0)))) else (if (x9.Kind == 2) = true then ((decide (x9.A > 3)) || ((x9.Kind != 1) && ((x9.Kind != 2) && x9.A != 0))) else ((x9.Kind != 1) && ((x9.Kind != 2) && x9.A != 0))))))]) (fun _ => [.box [.sl (List.map encNode p0.Nodes), .int .i64 p0.Rings, .int .i64 p0.Room], .arr 121 2 (List.map encEnds s7), .box [.int .i64 x9.Kind, .int .i64 x9.A, .sl (List.map encI x9.In), .sl (List.map encI x9.Out)]]) (fun _ => True) (fun _ _ => ?_) (fun hK => ?_)))
      ·refine T.cond (b := ((decide (x9.A < 0)) || (if (x9.Kind == 1) = true then ((decide (x9.A ≥ 4)) || (if (x9.Kind == 2) = true then ((decide (x9.A > 3)) || ((x9.Kind != 1) && ((x9.Kind != 2) && x9.A != 0))) else ((x9.Kind != 1) && ((x9.Kind != 2) && x9.A != 0)))) else (if (x9.Kind == 2) = true then ((decide (x9.A > 3)) || ((x9.Kind != 1) && ((x9.Kind != 2) && x9.A != 0))) else ((x9.Kind != 1) && ((x9.Kind != 2) && x9.A != 0)))))) rfl (fun hb_147 => ?_) (fun hb_147 => ?_)
       ·replace h := ite_T h hb_147
        refine T.seq (T.region (sa .nils rfl (sa (.int .i64 3) rfl (RS.nil (T.rt ?_)))))
        obtain ⟨w_148, h, hw_148⟩ := map_inr h
        replace h := h.trans (congrArg some (hv_124 _ hw_148))
        refine res_tmpA (v := .nils) rfl (res_tmpA (v := .int .i64 3) rfl (res_done ?_))
        exact ret_own (.tup [.ref 0, .int .i64 r.2]) [(0, 121, 2)] [3] (by decide) (none_kept _) rfl (rn_tup ⟨rn_ref rfl, rn_int (congrArg (fun r : (List Ends) × Int => r.2) (Option.some.inj h)).symm, trivial⟩) (rw_arr (en := encEnds) (ys := []) rfl encEnds_p (congrArg (fun r : (List Ends) × Int => r.1) (Option.some.inj h)).symm (rw_nil)) ⟨rfl, rfl⟩
       replace h := ite_F h hb_147
       refine T.skip (T.join (Z := Int) (fun zz_150 => mkA 197 [(1, .ptr 0 0), (4, .ref 1), (5, .int .i64 zz_150), (6, .int .i64 s6), (7, .ptr 2 0), (51, .sl (List.map encNode p0.Nodes)), (52, .int .i64 ((p0.Nodes).length : Int)), (53, .int .i64 s6)]) (fun zz_150 => [.box [.sl (List.map encNode p0.Nodes), .int .i64 p0.Rings, .int .i64 p0.Room], .arr 121 2 (List.map encEnds s7), .box [.int .i64 x9.Kind, .int .i64 x9.A, .sl (List.map encI x9.In), .sl (List.map encI x9.Out)]]) (fun zz_150 => net_look_k3 p0 s6 s7 x9 zz_150 = some v_124) (fun zz_150 h => ?_) (fun hK3 => ?_))
       ·revert h; revert zz_150; intro z15 h
        replace h : net_look_k3 p0 s6 s7 x9 z15 = some v_124 := h
        try dsimp only
        unfold net_look_k3 at h
        refine T.seq (T.seq (T.region (sq (v_fieldAddr_ptr Ty.f67_2 rfl (off' := 2) rfl (so (o_load_ptr rfl rfl (loadRow1 Ty.k57 (c := .sl (List.map encI x9.In)) rfl (sq (v_len_sl Ty.s57 rfl (sm (.int .i64 0) rfl (RS.nil (T.block (T.iter (fun ss_159 : Int × (List Ends) => mkA 197 [(1, .ptr 0 0), (4, .ref 1), (5, .int .i64 z15), (6, .int .i64 s6), (7, .ptr 2 0), (51, .sl (List.map encNode p0.Nodes)), (52, .int .i64 ((p0.Nodes).length : Int)), (53, .int .i64 s6), (125, .sl (List.map encI x9.In)), (126, .int .i64 ((x9.In).length : Int)), (127, .int .i64 ss_159.1)]) (fun ss_159 => [.box [.sl (List.map encNode p0.Nodes), .int .i64 p0.Rings, .int .i64 p0.Room], .arr 121 2 (List.map encEnds ss_159.2), .box [.int .i64 x9.Kind, .int .i64 x9.A, .sl (List.map encI x9.In), .sl (List.map encI x9.Out)]]) h (Weak.mkN [] [0, 1, 2] (by decide) (none_kept _) rfl ⟨rn_ptr rfl, rn_ref rfl, rn_int rfl, rn_int rfl, rn_ptr rfl, rn_s rfl, rn_int rfl, rn_int rfl, rn_s rfl, rn_int rfl, rn_int rfl, trivial⟩ (rw_bs [.sl (List.map encNode p0.Nodes), .int .i64 p0.Rings, .int .i64 p0.Room] rfl (rw_ar rfl rfl (rw_bs [.int .i64 x9.Kind, .int .i64 x9.A, .sl (List.map encI x9.In), .sl (List.map encI x9.Out)] rfl (rw_nil))))) (fun ss_159 v_160 h hv_160 => ?_))))))))))))))
        obtain ⟨s16, s17⟩ := ss_159
        replace h : net_look_l2 p0 s6 x9 z15 s16 s17 = some v_160 := h
        try dsimp only
        unfold net_look_l2 at h
        refine T.seq (T.region (sq (v_lss rfl rfl (RS.nil (T.seq (T.cond (b := decide (s16 < ((x9.In).length : Int))) rfl (fun hb_161 => ?_) (fun hb_161 => ?_)))))))
        ·replace h := ite_T h hb_161
         refine T.skip (T.seq (T.block (T.seq ?_)))
         obtain ⟨x19, hx19, h⟩ := bind_some h
         refine T.region (sq (v_index_sl Ty.s57 (fun _ => rfl) rfl rfl hx19 (so (o_load_elt rfl (loadRow1 Ty.k3 (c := .int .i64 x19) rfl (sa (.int .i64 x19) rfl (RS.nil (T.seq (T.join (Z := Unit) (fun _ => mkA 197 [(1, .ptr 0 0), (4, .ref 1), (5, .int .i64 z15), (6, .int .i64 s6), (7, .ptr 2 0), (12, .int .i64 x19), (51, .sl (List.map encNode p0.Nodes)), (52, .int .i64 ((p0.Nodes).length : Int)), (53, .int .i64 s6), (125, .sl (List.map encI x9.In)), (126, .int .i64 ((x9.In).length : Int)), (127, .int .i64 s16), (138, .bool ((decide (x19 < 0)) || decide (x19 ≥ p0.Rings)))]) (fun _ => [.box [.sl (List.map encNode p0.Nodes), .int .i64 p0.Rings, .int .i64 p0.Room], .arr 121 2 (List.map encEnds s17), .box [.int .i64 x9.Kind, .int .i64 x9.A, .sl (List.map encI x9.In), .sl (List.map encI x9.Out)]]) (fun _ => True) (fun _ _ => ?_) (fun hK => ?_))))))))))
         ·refine T.cond (b := ((decide (x19 < 0)) || decide (x19 ≥ p0.Rings))) rfl (fun hb_163 => ?_) (fun hb_163 => ?_)
          ·replace h := ite_T h hb_163
           refine T.seq (T.region (sa .nils rfl (sa (.int .i64 3) rfl (RS.nil (T.rt ?_)))))
           obtain ⟨w_164, h, hw_164⟩ := map_inr h
           replace h := h.trans (congrArg some (hv_160 _ hw_164))
           obtain ⟨w_165, h, hw_165⟩ := map_inr h
           replace h := h.trans (congrArg some (hv_124 _ hw_165))
           refine res_tmpA (v := .nils) rfl (res_tmpA (v := .int .i64 3) rfl (res_done ?_))
           exact ret_own (.tup [.ref 0, .int .i64 r.2]) [(0, 121, 2)] [3] (by decide) (none_kept _) rfl (rn_tup ⟨rn_ref rfl, rn_int (congrArg (fun r : (List Ends) × Int => r.2) (Option.some.inj h)).symm, trivial⟩) (rw_arr (en := encEnds) (ys := []) rfl encEnds_p (congrArg (fun r : (List Ends) × Int => r.1) (Option.some.inj h)).symm (rw_nil)) ⟨rfl, rfl⟩
          replace h := ite_F h hb_163
          refine T.skip (T.seq (T.seq ?_))
          obtain ⟨x23, hx23, h⟩ := bind_some h
          obtain ⟨x24, hx24, h⟩ := bind_some h
          refine T.region (sm (.ref 1) rfl (sm (.int .i64 x19) rfl (sq (v_index_ref' (en := encEnds) Ty.s115 rfl rfl rfl hx23 (sq (v_fieldAddr_aptr Ty.f121_1 rfl (off' := 1) rfl (so (o_load_aptr' (en := encEnds) (a := x24) rfl rfl hx24 (loadRow1 Ty.k3 (c := .int .i64 x24.dst) rfl (sq (v_geq rfl rfl (RS.nil (T.cond (b := decide (x24.dst ≥ 0)) rfl (fun hb_166 => ?_) (fun hb_166 => ?_))))))))))))))
          ·replace h := ite_T h hb_166
           refine T.seq (T.region (sa .nils rfl (sa (.int .i64 6) rfl (RS.nil (T.rt ?_)))))
           obtain ⟨w_167, h, hw_167⟩ := map_inr h
           replace h := h.trans (congrArg some (hv_160 _ hw_167))
           obtain ⟨w_168, h, hw_168⟩ := map_inr h
           replace h := h.trans (congrArg some (hv_124 _ hw_168))
           refine res_tmpA (v := .nils) rfl (res_tmpA (v := .int .i64 6) rfl (res_done ?_))
           exact ret_own (.tup [.ref 0, .int .i64 r.2]) [(0, 121, 2)] [3] (by decide) (none_kept _) rfl (rn_tup ⟨rn_ref rfl, rn_int (congrArg (fun r : (List Ends) × Int => r.2) (Option.some.inj h)).symm, trivial⟩) (rw_arr (en := encEnds) (ys := []) rfl encEnds_p (congrArg (fun r : (List Ends) × Int => r.1) (Option.some.inj h)).symm (rw_nil)) ⟨rfl, rfl⟩
          replace h := ite_F h hb_166
          refine T.skip ?_
          obtain ⟨x25, hx25, h⟩ := bind_some h
          obtain ⟨x26, hx26, h⟩ := bind_some h
          refine T.region (sm (.ref 1) rfl (sm (.int .i64 x19) rfl (sm (.int .i64 s6) rfl (sq (v_index_ref' (en := encEnds) Ty.s115 rfl rfl rfl hx25 (sq (v_fieldAddr_aptr Ty.f121_1 rfl (off' := 1) rfl (so (o_store_aptr' (en := encEnds) (a := x26) (a' := (⟨x26.src, s6⟩ : Ends)) Ty.c3 Ty.i3 rfl (vs := [.int .i64 s6]) rfl rfl rfl hx26 rfl rfl (aw' := [.box [.sl (List.map encNode p0.Nodes), .int .i64 p0.Rings, .int .i64 p0.Room], .arr 121 2 (List.map encEnds (List.set s17 x25 (⟨x26.src, s6⟩ : Ends))), .box [.int .i64 x9.Kind, .int .i64 x9.A, .sl (List.map encI x9.In), .sl (List.map encI x9.Out)]]) rfl (RS.nil (T.region (sq (v_add rfl rfl ?_)))))))))))))
          refine sm (.int .i64 (IntKind.i64.wrap (s16 + 1))) rfl (RS.nil ?_)
          exact ⟨(IntKind.i64.wrap (s16 + 1), (List.set s17 x25 (⟨x26.src, s6⟩ : Ends))), (Option.some.inj h).symm, Weak.mkN [] [0, 1, 2] (by decide) (none_kept _) rfl ⟨rn_ptr rfl, rn_ref rfl, rn_int rfl, rn_int rfl, rn_ptr rfl, rn_s rfl, rn_int rfl, rn_int rfl, rn_s rfl, rn_int rfl, rn_int rfl, trivial⟩ (rw_bs [.sl (List.map encNode p0.Nodes), .int .i64 p0.Rings, .int .i64 p0.Room] rfl (rw_ar rfl rfl (rw_bs [.int .i64 x9.Kind, .int .i64 x9.A, .sl (List.map encI x9.In), .sl (List.map encI x9.Out)] rfl (rw_nil))))⟩
         refine T.region (sm (.int .i64 x19) rfl (sq (v_lss rfl rfl (sm (.bool (decide (x19 < 0))) rfl ?_))))
         rcases bool_cases (decide (x19 < 0)) with hb_162 | hb_162
         ·refine sn hb_162 (sn hb_162 (sn hb_162 (sn hb_162 (sq (v_pickT (v := .bool true) rfl hb_162 rfl (RS.nil ?_))))))
          exact T.weakR (hK () trivial) (Weak.mkN [] [0, 1, 2] (by decide) (none_kept _) rfl ⟨rn_ptr rfl, rn_ref rfl, rn_int rfl, rn_int rfl, rn_ptr rfl, rn_int rfl, rn_s rfl, rn_int rfl, rn_int rfl, rn_s rfl, rn_int rfl, rn_int rfl, rn_bool (by simp only [hb_162, bz, if_true, if_false, Bool.false_eq_true]), trivial⟩ (rw_bs [.sl (List.map encNode p0.Nodes), .int .i64 p0.Rings, .int .i64 p0.Room] rfl (rw_ar rfl rfl (rw_bs [.int .i64 x9.Kind, .int .i64 x9.A, .sl (List.map encI x9.In), .sl (List.map encI x9.Out)] rfl (rw_nil)))))
         refine yq hb_162 (v_move (v := .int .i64 x19) rfl (yq hb_162 (v_fieldAddr_ptr Ty.f56_1 rfl (off' := 1) rfl (yo hb_162 (o_load_ptr rfl rfl (loadRow1 Ty.k3 (c := .int .i64 p0.Rings) rfl (yq hb_162 (v_geq rfl rfl (sq (v_pickF (v := .bool (decide (x19 ≥ p0.Rings))) rfl hb_162 rfl (RS.nil ?_)))))))))))
         exact T.weakR (hK () trivial) (Weak.mkN [] [0, 1, 2] (by decide) (none_kept _) rfl ⟨rn_ptr rfl, rn_ref rfl, rn_int rfl, rn_int rfl, rn_ptr rfl, rn_int rfl, rn_s rfl, rn_int rfl, rn_int rfl, rn_s rfl, rn_int rfl, rn_int rfl, rn_bool (by simp only [hb_162, bz, if_true, if_false, Bool.false_eq_true]), trivial⟩ (rw_bs [.sl (List.map encNode p0.Nodes), .int .i64 p0.Rings, .int .i64 p0.Room] rfl (rw_ar rfl rfl (rw_bs [.int .i64 x9.Kind, .int .i64 x9.A, .sl (List.map encI x9.In), .sl (List.map encI x9.Out)] rfl (rw_nil)))))
        replace h := ite_F h hb_161
        refine T.exit ?_
        obtain ⟨w_169, h, hw_169⟩ := map_inr h
        replace h := h.trans (congrArg some (hv_160 _ hw_169))
        refine T.seq (T.region (sq (v_fieldAddr_ptr Ty.f67_3 rfl (off' := 3) rfl (so (o_load_ptr rfl rfl (loadRow1 Ty.k57 (c := .sl (List.map encI x9.Out)) rfl (sq (v_len_sl Ty.s57 rfl (sm (.int .i64 0) rfl (RS.nil (T.block (T.iter (fun ss_178 : Int × (List Ends) => mkA 197 [(1, .ptr 0 0), (4, .ref 1), (5, .int .i64 z15), (6, .int .i64 s6), (51, .sl (List.map encNode p0.Nodes)), (52, .int .i64 ((p0.Nodes).length : Int)), (53, .int .i64 s6), (152, .sl (List.map encI x9.Out)), (153, .int .i64 ((x9.Out).length : Int)), (154, .int .i64 ss_178.1)]) (fun ss_178 => [.box [.sl (List.map encNode p0.Nodes), .int .i64 p0.Rings, .int .i64 p0.Room], .arr 121 2 (List.map encEnds ss_178.2)]) h (Weak.mkN [] [0, 1] (by decide) (none_kept _) rfl ⟨rn_ptr rfl, rn_ref rfl, rn_int rfl, rn_int rfl, rn_s rfl, rn_int rfl, rn_int rfl, rn_s rfl, rn_int rfl, rn_int rfl, trivial⟩ (rw_bs [.sl (List.map encNode p0.Nodes), .int .i64 p0.Rings, .int .i64 p0.Room] rfl (rw_ar rfl rfl (rw_nil)))) (fun ss_178 v_179 h hv_179 => ?_)))))))))))))
        obtain ⟨s27, s28⟩ := ss_178
        replace h : net_look_l1 p0 s6 x9 z15 s27 s28 = some v_179 := h
        try dsimp only
        unfold net_look_l1 at h
        refine T.seq (T.region (sq (v_lss rfl rfl (RS.nil (T.seq (T.cond (b := decide (s27 < ((x9.Out).length : Int))) rfl (fun hb_180 => ?_) (fun hb_180 => ?_)))))))
        ·replace h := ite_T h hb_180
         refine T.skip (T.seq (T.block (T.seq ?_)))
         obtain ⟨x30, hx30, h⟩ := bind_some h
         refine T.region (sq (v_index_sl Ty.s57 (fun _ => rfl) rfl rfl hx30 (so (o_load_elt rfl (loadRow1 Ty.k3 (c := .int .i64 x30) rfl (sa (.int .i64 x30) rfl (RS.nil (T.seq (T.join (Z := Unit) (fun _ => mkA 197 [(1, .ptr 0 0), (4, .ref 1), (5, .int .i64 z15), (6, .int .i64 s6), (14, .int .i64 x30), (51, .sl (List.map encNode p0.Nodes)), (52, .int .i64 ((p0.Nodes).length : Int)), (53, .int .i64 s6), (152, .sl (List.map encI x9.Out)), (153, .int .i64 ((x9.Out).length : Int)), (154, .int .i64 s27), (165, .bool ((decide (x30 < 0)) || decide (x30 ≥ p0.Rings)))]) (fun _ => [.box [.sl (List.map encNode p0.Nodes), .int .i64 p0.Rings, .int .i64 p0.Room], .arr 121 2 (List.map encEnds s28)]) (fun _ => True) (fun _ _ => ?_) (fun hK => ?_))))))))))
         ·refine T.cond (b := ((decide (x30 < 0)) || decide (x30 ≥ p0.Rings))) rfl (fun hb_182 => ?_) (fun hb_182 => ?_)
          ·replace h := ite_T h hb_182
           refine T.seq (T.region (sa .nils rfl (sa (.int .i64 3) rfl (RS.nil (T.rt ?_)))))
           obtain ⟨w_183, h, hw_183⟩ := map_inr h
           replace h := h.trans (congrArg some (hv_179 _ hw_183))
           obtain ⟨w_184, h, hw_184⟩ := map_inr h
           replace h := h.trans (congrArg some (hv_124 _ hw_184))
           refine res_tmpA (v := .nils) rfl (res_tmpA (v := .int .i64 3) rfl (res_done ?_))
           exact ret_own (.tup [.ref 0, .int .i64 r.2]) [(0, 121, 2)] [2] (by decide) (none_kept _) rfl (rn_tup ⟨rn_ref rfl, rn_int (congrArg (fun r : (List Ends) × Int => r.2) (Option.some.inj h)).symm, trivial⟩) (rw_arr (en := encEnds) (ys := []) rfl encEnds_p (congrArg (fun r : (List Ends) × Int => r.1) (Option.some.inj h)).symm (rw_nil)) ⟨rfl, rfl⟩
          replace h := ite_F h hb_182
          refine T.skip (T.seq (T.seq ?_))
          obtain ⟨x34, hx34, h⟩ := bind_some h
          obtain ⟨x35, hx35, h⟩ := bind_some h
          refine T.region (sm (.ref 1) rfl (sm (.int .i64 x30) rfl (sq (v_index_ref' (en := encEnds) Ty.s115 rfl rfl rfl hx34 (sq (v_fieldAddr_aptr Ty.f121_0 rfl (off' := 0) rfl (so (o_load_aptr' (en := encEnds) (a := x35) rfl rfl hx35 (loadRow1 Ty.k3 (c := .int .i64 x35.src) rfl (sq (v_geq rfl rfl (RS.nil (T.cond (b := decide (x35.src ≥ 0)) rfl (fun hb_185 => ?_) (fun hb_185 => ?_))))))))))))))
          ·replace h := ite_T h hb_185
           refine T.seq (T.region (sa .nils rfl (sa (.int .i64 6) rfl (RS.nil (T.rt ?_)))))
           obtain ⟨w_186, h, hw_186⟩ := map_inr h
           replace h := h.trans (congrArg some (hv_179 _ hw_186))
           obtain ⟨w_187, h, hw_187⟩ := map_inr h
           replace h := h.trans (congrArg some (hv_124 _ hw_187))
           refine res_tmpA (v := .nils) rfl (res_tmpA (v := .int .i64 6) rfl (res_done ?_))
           exact ret_own (.tup [.ref 0, .int .i64 r.2]) [(0, 121, 2)] [2] (by decide) (none_kept _) rfl (rn_tup ⟨rn_ref rfl, rn_int (congrArg (fun r : (List Ends) × Int => r.2) (Option.some.inj h)).symm, trivial⟩) (rw_arr (en := encEnds) (ys := []) rfl encEnds_p (congrArg (fun r : (List Ends) × Int => r.1) (Option.some.inj h)).symm (rw_nil)) ⟨rfl, rfl⟩
          replace h := ite_F h hb_185
          refine T.skip ?_
          obtain ⟨x36, hx36, h⟩ := bind_some h
          obtain ⟨x37, hx37, h⟩ := bind_some h
          refine T.region (sm (.ref 1) rfl (sm (.int .i64 x30) rfl (sm (.int .i64 s6) rfl (sq (v_index_ref' (en := encEnds) Ty.s115 rfl rfl rfl hx36 (sq (v_fieldAddr_aptr Ty.f121_0 rfl (off' := 0) rfl (so (o_store_aptr' (en := encEnds) (a := x37) (a' := (⟨s6, x37.dst⟩ : Ends)) Ty.c3 Ty.i3 rfl (vs := [.int .i64 s6]) rfl rfl rfl hx37 rfl rfl (aw' := [.box [.sl (List.map encNode p0.Nodes), .int .i64 p0.Rings, .int .i64 p0.Room], .arr 121 2 (List.map encEnds (List.set s28 x36 (⟨s6, x37.dst⟩ : Ends)))]) rfl (RS.nil (T.region (sq (v_add rfl rfl ?_)))))))))))))
          refine sm (.int .i64 (IntKind.i64.wrap (s27 + 1))) rfl (RS.nil ?_)
          exact ⟨(IntKind.i64.wrap (s27 + 1), (List.set s28 x36 (⟨s6, x37.dst⟩ : Ends))), (Option.some.inj h).symm, Weak.mkN [] [0, 1] (by decide) (none_kept _) rfl ⟨rn_ptr rfl, rn_ref rfl, rn_int rfl, rn_int rfl, rn_s rfl, rn_int rfl, rn_int rfl, rn_s rfl, rn_int rfl, rn_int rfl, trivial⟩ (rw_bs [.sl (List.map encNode p0.Nodes), .int .i64 p0.Rings, .int .i64 p0.Room] rfl (rw_ar rfl rfl (rw_nil)))⟩
         refine T.region (sm (.int .i64 x30) rfl (sq (v_lss rfl rfl (sm (.bool (decide (x30 < 0))) rfl ?_))))
         rcases bool_cases (decide (x30 < 0)) with hb_181 | hb_181
         ·refine sn hb_181 (sn hb_181 (sn hb_181 (sn hb_181 (sq (v_pickT (v := .bool true) rfl hb_181 rfl (RS.nil ?_))))))
          exact T.weakR (hK () trivial) (Weak.mkN [] [0, 1] (by decide) (none_kept _) rfl ⟨rn_ptr rfl, rn_ref rfl, rn_int rfl, rn_int rfl, rn_int rfl, rn_s rfl, rn_int rfl, rn_int rfl, rn_s rfl, rn_int rfl, rn_int rfl, rn_bool (by simp only [hb_181, bz, if_true, if_false, Bool.false_eq_true]), trivial⟩ (rw_bs [.sl (List.map encNode p0.Nodes), .int .i64 p0.Rings, .int .i64 p0.Room] rfl (rw_ar rfl rfl (rw_nil))))
         refine yq hb_181 (v_move (v := .int .i64 x30) rfl (yq hb_181 (v_fieldAddr_ptr Ty.f56_1 rfl (off' := 1) rfl (yo hb_181 (o_load_ptr rfl rfl (loadRow1 Ty.k3 (c := .int .i64 p0.Rings) rfl (yq hb_181 (v_geq rfl rfl (sq (v_pickF (v := .bool (decide (x30 ≥ p0.Rings))) rfl hb_181 rfl (RS.nil ?_)))))))))))
         exact T.weakR (hK () trivial) (Weak.mkN [] [0, 1] (by decide) (none_kept _) rfl ⟨rn_ptr rfl, rn_ref rfl, rn_int rfl, rn_int rfl, rn_int rfl, rn_s rfl, rn_int rfl, rn_int rfl, rn_s rfl, rn_int rfl, rn_int rfl, rn_bool (by simp only [hb_181, bz, if_true, if_false, Bool.false_eq_true]), trivial⟩ (rw_bs [.sl (List.map encNode p0.Nodes), .int .i64 p0.Rings, .int .i64 p0.Room] rfl (rw_ar rfl rfl (rw_nil))))
        replace h := ite_F h hb_180
        refine T.exit ?_
        obtain ⟨w_188, h, hw_188⟩ := map_inr h
        replace h := h.trans (congrArg some (hv_179 _ hw_188))
        refine T.region (sq (v_add rfl rfl (sm (.int .i64 (IntKind.i64.wrap (s6 + 1))) rfl (RS.nil ?_))))
        exact ⟨(z15, IntKind.i64.wrap (s6 + 1), s28), (Option.some.inj h).symm, Weak.mkN [] [0, 1] (by decide) (none_kept _) rfl ⟨rn_ptr rfl, rn_ref rfl, rn_int rfl, rn_s rfl, rn_int rfl, rn_int rfl, trivial⟩ (rw_bs [.sl (List.map encNode p0.Nodes), .int .i64 p0.Rings, .int .i64 p0.Room] rfl (rw_ar rfl rfl (rw_nil)))⟩
       refine T.seq (T.region (sq (v_fieldAddr_ptr Ty.f67_0 rfl (off' := 0) rfl (so (o_load_ptr rfl rfl (loadRow1 Ty.k3 (c := .int .i64 x9.Kind) rfl (sq (v_eql rfl rfl (RS.nil (T.cond (b := x9.Kind == 8) rfl (fun hb_189 => ?_) (fun hb_189 => ?_)))))))))))
       ·replace h := ite_T h hb_189
        refine T.region (sm (.int .i64 s5) rfl (sq (v_add rfl rfl (sa (.int .i64 (IntKind.i64.wrap (s5 + 1))) rfl (RS.nil ?_)))))
        exact T.weakR (hK3 (IntKind.i64.wrap (s5 + 1)) h) (Weak.mkN [] [0, 1, 2] (by decide) (none_kept _) rfl ⟨rn_ptr rfl, rn_ref rfl, rn_int rfl, rn_int rfl, rn_ptr rfl, rn_s rfl, rn_int rfl, rn_int rfl, trivial⟩ (rw_bs [.sl (List.map encNode p0.Nodes), .int .i64 p0.Rings, .int .i64 p0.Room] rfl (rw_ar rfl rfl (rw_bs [.int .i64 x9.Kind, .int .i64 x9.A, .sl (List.map encI x9.In), .sl (List.map encI x9.Out)] rfl (rw_nil)))))
       replace h := ite_F h hb_189
       refine T.skip ?_
       exact T.weakR (hK3 s5 h) (Weak.mkN [] [0, 1, 2] (by decide) (none_kept _) rfl ⟨rn_ptr rfl, rn_ref rfl, rn_int rfl, rn_int rfl, rn_ptr rfl, rn_s rfl, rn_int rfl, rn_int rfl, trivial⟩ (rw_bs [.sl (List.map encNode p0.Nodes), .int .i64 p0.Rings, .int .i64 p0.Room] rfl (rw_ar rfl rfl (rw_bs [.int .i64 x9.Kind, .int .i64 x9.A, .sl (List.map encI x9.In), .sl (List.map encI x9.Out)] rfl (rw_nil)))))
      refine T.region (sq (v_fieldAddr_ptr Ty.f67_1 rfl (off' := 1) rfl (so (o_load_ptr rfl rfl (loadRow1 Ty.k3 (c := .int .i64 x9.A) rfl (sq (v_lss rfl rfl (sm (.bool (decide (x9.A < 0))) rfl ?_))))))))
      rcases bool_cases (decide (x9.A < 0)) with hb_132 | hb_132
      ·refine sn hb_132 (sn hb_132 (sn hb_132 (sn hb_132 (su (su (su (sn hb_132 (sq (v_pickT (v := .bool true) rfl hb_132 rfl (sm (.bool true) rfl ?_))))))))))
       refine sn rfl (sn rfl (sn rfl (sn rfl (su (su (su (sn rfl (sq (v_pickT (v := .bool true) rfl rfl rfl (sm (.bool true) rfl ?_))))))))))
       refine sn rfl (sn rfl (sn rfl (sn rfl (su (su (su (sn rfl (sn rfl (su ?_)))))))))
       refine su (su (sn rfl (sq (v_pickT (v := .bool true) rfl rfl rfl (RS.nil ?_)))))
       exact T.weakR (hK () trivial) (Weak.mkN [] [0, 1, 2] (by decide) (none_kept _) rfl ⟨rn_ptr rfl, rn_ref rfl, rn_int rfl, rn_int rfl, rn_ptr rfl, rn_s rfl, rn_int rfl, rn_int rfl, rn_bool (by simp only [hb_132, bz, if_true, if_false, Bool.false_eq_true]), trivial⟩ (rw_bs [.sl (List.map encNode p0.Nodes), .int .i64 p0.Rings, .int .i64 p0.Room] rfl (rw_ar rfl rfl (rw_bs [.int .i64 x9.Kind, .int .i64 x9.A, .sl (List.map encI x9.In), .sl (List.map encI x9.Out)] rfl (rw_nil)))))
      refine yq hb_132 (v_fieldAddr_ptr Ty.f67_0 rfl (off' := 0) rfl (yo hb_132 (o_load_ptr rfl rfl (loadRow1 Ty.k3 (c := .int .i64 x9.Kind) rfl (yq hb_132 (v_eql rfl rfl (yq hb_132 (v_move (v := .bool (x9.Kind == 1)) rfl ?_))))))))
      rcases bool_cases (x9.Kind == 1) with hb_133 | hb_133
      ·refine yq hb_133 (v_fieldAddr_ptr Ty.f67_1 rfl (off' := 1) rfl (yo hb_133 (o_load_ptr rfl rfl (loadRow1 Ty.k3 (c := .int .i64 x9.A) rfl (yq hb_133 (v_geq rfl rfl (yq hb_132 (v_pickT (v := .bool (decide (x9.A ≥ 4))) rfl hb_133 rfl (sq (v_pickF (v := .bool (decide (x9.A ≥ 4))) rfl hb_132 rfl (sm (.bool (decide (x9.A ≥ 4))) rfl ?_)))))))))))
       rcases bool_cases (decide (x9.A ≥ 4)) with hb_134 | hb_134
       ·refine sn hb_134 (sn hb_134 (sn hb_134 (sn hb_134 (su (su (su (sn hb_134 (sq (v_pickT (v := .bool true) rfl hb_134 rfl (sm (.bool true) rfl ?_))))))))))
        refine sn rfl (sn rfl (sn rfl (sn rfl (su (su (su (sn rfl (sn rfl (su ?_)))))))))
        refine su (su (sn rfl (sq (v_pickT (v := .bool true) rfl rfl rfl (RS.nil ?_)))))
        exact T.weakR (hK () trivial) (Weak.mkN [] [0, 1, 2] (by decide) (none_kept _) rfl ⟨rn_ptr rfl, rn_ref rfl, rn_int rfl, rn_int rfl, rn_ptr rfl, rn_s rfl, rn_int rfl, rn_int rfl, rn_bool (by simp only [hb_132, hb_133, hb_134, bz, if_true, if_false, Bool.false_eq_true]), trivial⟩ (rw_bs [.sl (List.map encNode p0.Nodes), .int .i64 p0.Rings, .int .i64 p0.Room] rfl (rw_ar rfl rfl (rw_bs [.int .i64 x9.Kind, .int .i64 x9.A, .sl (List.map encI x9.In), .sl (List.map encI x9.Out)] rfl (rw_nil)))))
       refine yq hb_134 (v_fieldAddr_ptr Ty.f67_0 rfl (off' := 0) rfl (yo hb_134 (o_load_ptr rfl rfl (loadRow1 Ty.k3 (c := .int .i64 x9.Kind) rfl (yq hb_134 (v_eql rfl rfl (yq hb_134 (v_move (v := .bool (x9.Kind == 2)) rfl ?_))))))))
       rcases bool_cases (x9.Kind == 2) with hb_135 | hb_135
       ·refine yq hb_135 (v_fieldAddr_ptr Ty.f67_1 rfl (off' := 1) rfl (yo hb_135 (o_load_ptr rfl rfl (loadRow1 Ty.k3 (c := .int .i64 x9.A) rfl (yq hb_135 (v_gtr rfl rfl (yq hb_134 (v_pickT (v := .bool (decide (x9.A > 3))) rfl hb_135 rfl (sq (v_pickF (v := .bool (decide (x9.A > 3))) rfl hb_134 rfl (sm (.bool (decide (x9.A > 3))) rfl ?_)))))))))))
        rcases bool_cases (decide (x9.A > 3)) with hb_136 | hb_136
        ·refine sn hb_136 (sn hb_136 (sn hb_136 (sn hb_136 (su (su (su (sn hb_136 (sn hb_136 (su ?_)))))))))
         refine su (su (sn hb_136 (sq (v_pickT (v := .bool true) rfl hb_136 rfl (RS.nil ?_)))))
         exact T.weakR (hK () trivial) (Weak.mkN [] [0, 1, 2] (by decide) (none_kept _) rfl ⟨rn_ptr rfl, rn_ref rfl, rn_int rfl, rn_int rfl, rn_ptr rfl, rn_s rfl, rn_int rfl, rn_int rfl, rn_bool (by simp only [hb_132, hb_133, hb_134, hb_135, hb_136, bz, if_true, if_false, Bool.false_eq_true]), trivial⟩ (rw_bs [.sl (List.map encNode p0.Nodes), .int .i64 p0.Rings, .int .i64 p0.Room] rfl (rw_ar rfl rfl (rw_bs [.int .i64 x9.Kind, .int .i64 x9.A, .sl (List.map encI x9.In), .sl (List.map encI x9.Out)] rfl (rw_nil)))))
        refine yq hb_136 (v_fieldAddr_ptr Ty.f67_0 rfl (off' := 0) rfl (yo hb_136 (o_load_ptr rfl rfl (loadRow1 Ty.k3 (c := .int .i64 x9.Kind) rfl (yq hb_136 (v_neq rfl rfl (yq hb_136 (v_move (v := .bool (x9.Kind != 1)) rfl ?_))))))))
        rcases bool_cases (x9.Kind != 1) with hb_137 | hb_137
        ·refine yq hb_137 (v_fieldAddr_ptr Ty.f67_0 rfl (off' := 0) rfl (yo hb_137 (o_load_ptr rfl rfl (loadRow1 Ty.k3 (c := .int .i64 x9.Kind) rfl (yq hb_137 (v_neq rfl rfl (yq hb_136 (v_pickT (v := .bool (x9.Kind != 2)) rfl hb_137 rfl (yq hb_136 (v_move (v := .bool (x9.Kind != 2)) rfl ?_))))))))))
         rcases bool_cases (x9.Kind != 2) with hb_138 | hb_138
         ·refine yq hb_138 (v_fieldAddr_ptr Ty.f67_1 rfl (off' := 1) rfl (yo hb_138 (o_load_ptr rfl rfl (loadRow1 Ty.k3 (c := .int .i64 x9.A) rfl (yq hb_138 (v_neq rfl rfl (yq hb_136 (v_pickT (v := .bool (x9.A != 0)) rfl hb_138 rfl (sq (v_pickF (v := .bool (x9.A != 0)) rfl hb_136 rfl (RS.nil ?_)))))))))))
          exact T.weakR (hK () trivial) (Weak.mkN [] [0, 1, 2] (by decide) (none_kept _) rfl ⟨rn_ptr rfl, rn_ref rfl, rn_int rfl, rn_int rfl, rn_ptr rfl, rn_s rfl, rn_int rfl, rn_int rfl, rn_bool (by simp only [hb_132, hb_133, hb_134, hb_135, hb_136, hb_137, hb_138, bz, if_true, if_false, Bool.false_eq_true]), trivial⟩ (rw_bs [.sl (List.map encNode p0.Nodes), .int .i64 p0.Rings, .int .i64 p0.Room] rfl (rw_ar rfl rfl (rw_bs [.int .i64 x9.Kind, .int .i64 x9.A, .sl (List.map encI x9.In), .sl (List.map encI x9.Out)] rfl (rw_nil)))))
         refine sn hb_138 (sn hb_138 (sn hb_138 (yq hb_136 (v_pickF (v := .bool false) rfl hb_138 rfl (sq (v_pickF (v := .bool false) rfl hb_136 rfl (RS.nil ?_)))))))
         exact T.weakR (hK () trivial) (Weak.mkN [] [0, 1, 2] (by decide) (none_kept _) rfl ⟨rn_ptr rfl, rn_ref rfl, rn_int rfl, rn_int rfl, rn_ptr rfl, rn_s rfl, rn_int rfl, rn_int rfl, rn_bool (by simp only [hb_132, hb_133, hb_134, hb_135, hb_136, hb_137, hb_138, bz, if_true, if_false, Bool.false_eq_true]), trivial⟩ (rw_bs [.sl (List.map encNode p0.Nodes), .int .i64 p0.Rings, .int .i64 p0.Room] rfl (rw_ar rfl rfl (rw_bs [.int .i64 x9.Kind, .int .i64 x9.A, .sl (List.map encI x9.In), .sl (List.map encI x9.Out)] rfl (rw_nil)))))
        refine sn hb_137 (sn hb_137 (sn hb_137 (yq hb_136 (v_pickF (v := .bool false) rfl hb_137 rfl (yq hb_136 (v_move (v := .bool false) rfl (sn rfl (sn rfl (sn rfl (yq hb_136 (v_pickF (v := .bool false) rfl rfl rfl (sq (v_pickF (v := .bool false) rfl hb_136 rfl ?_)))))))))))))
        refine RS.nil ?_
        exact T.weakR (hK () trivial) (Weak.mkN [] [0, 1, 2] (by decide) (none_kept _) rfl ⟨rn_ptr rfl, rn_ref rfl, rn_int rfl, rn_int rfl, rn_ptr rfl, rn_s rfl, rn_int rfl, rn_int rfl, rn_bool (by simp only [hb_132, hb_133, hb_134, hb_135, hb_136, hb_137, bz, if_true, if_false, Bool.false_eq_true]), trivial⟩ (rw_bs [.sl (List.map encNode p0.Nodes), .int .i64 p0.Rings, .int .i64 p0.Room] rfl (rw_ar rfl rfl (rw_bs [.int .i64 x9.Kind, .int .i64 x9.A, .sl (List.map encI x9.In), .sl (List.map encI x9.Out)] rfl (rw_nil)))))
       refine sn hb_135 (sn hb_135 (sn hb_135 (yq hb_134 (v_pickF (v := .bool false) rfl hb_135 rfl (sq (v_pickF (v := .bool false) rfl hb_134 rfl (sm (.bool false) rfl (yq rfl (v_fieldAddr_ptr Ty.f67_0 rfl (off' := 0) rfl (yo rfl (o_load_ptr rfl rfl (loadRow1 Ty.k3 (c := .int .i64 x9.Kind) rfl (yq rfl (v_neq rfl rfl (yq rfl (v_move (v := .bool (x9.Kind != 1)) rfl ?_))))))))))))))))
       rcases bool_cases (x9.Kind != 1) with hb_139 | hb_139
       ·refine yq hb_139 (v_fieldAddr_ptr Ty.f67_0 rfl (off' := 0) rfl (yo hb_139 (o_load_ptr rfl rfl (loadRow1 Ty.k3 (c := .int .i64 x9.Kind) rfl (yq hb_139 (v_neq rfl rfl (yq rfl (v_pickT (v := .bool (x9.Kind != 2)) rfl hb_139 rfl (yq rfl (v_move (v := .bool (x9.Kind != 2)) rfl ?_))))))))))
        rcases bool_cases (x9.Kind != 2) with hb_140 | hb_140
        ·refine yq hb_140 (v_fieldAddr_ptr Ty.f67_1 rfl (off' := 1) rfl (yo hb_140 (o_load_ptr rfl rfl (loadRow1 Ty.k3 (c := .int .i64 x9.A) rfl (yq hb_140 (v_neq rfl rfl (yq rfl (v_pickT (v := .bool (x9.A != 0)) rfl hb_140 rfl (sq (v_pickF (v := .bool (x9.A != 0)) rfl rfl rfl (RS.nil ?_)))))))))))
         exact T.weakR (hK () trivial) (Weak.mkN [] [0, 1, 2] (by decide) (none_kept _) rfl ⟨rn_ptr rfl, rn_ref rfl, rn_int rfl, rn_int rfl, rn_ptr rfl, rn_s rfl, rn_int rfl, rn_int rfl, rn_bool (by simp only [hb_132, hb_133, hb_134, hb_135, hb_139, hb_140, bz, if_true, if_false, Bool.false_eq_true]), trivial⟩ (rw_bs [.sl (List.map encNode p0.Nodes), .int .i64 p0.Rings, .int .i64 p0.Room] rfl (rw_ar rfl rfl (rw_bs [.int .i64 x9.Kind, .int .i64 x9.A, .sl (List.map encI x9.In), .sl (List.map encI x9.Out)] rfl (rw_nil)))))
        refine sn hb_140 (sn hb_140 (sn hb_140 (yq rfl (v_pickF (v := .bool false) rfl hb_140 rfl (sq (v_pickF (v := .bool false) rfl rfl rfl (RS.nil ?_)))))))
        exact T.weakR (hK () trivial) (Weak.mkN [] [0, 1, 2] (by decide) (none_kept _) rfl ⟨rn_ptr rfl, rn_ref rfl, rn_int rfl, rn_int rfl, rn_ptr rfl, rn_s rfl, rn_int rfl, rn_int rfl, rn_bool (by simp only [hb_132, hb_133, hb_134, hb_135, hb_139, hb_140, bz, if_true, if_false, Bool.false_eq_true]), trivial⟩ (rw_bs [.sl (List.map encNode p0.Nodes), .int .i64 p0.Rings, .int .i64 p0.Room] rfl (rw_ar rfl rfl (rw_bs [.int .i64 x9.Kind, .int .i64 x9.A, .sl (List.map encI x9.In), .sl (List.map encI x9.Out)] rfl (rw_nil)))))
       refine sn hb_139 (sn hb_139 (sn hb_139 (yq rfl (v_pickF (v := .bool false) rfl hb_139 rfl (yq rfl (v_move (v := .bool false) rfl (sn rfl (sn rfl (sn rfl (yq rfl (v_pickF (v := .bool false) rfl rfl rfl (sq (v_pickF (v := .bool false) rfl rfl rfl ?_)))))))))))))
       refine RS.nil ?_
       exact T.weakR (hK () trivial) (Weak.mkN [] [0, 1, 2] (by decide) (none_kept _) rfl ⟨rn_ptr rfl, rn_ref rfl, rn_int rfl, rn_int rfl, rn_ptr rfl, rn_s rfl, rn_int rfl, rn_int rfl, rn_bool (by simp only [hb_132, hb_133, hb_134, hb_135, hb_139, bz, if_true, if_false, Bool.false_eq_true]), trivial⟩ (rw_bs [.sl (List.map encNode p0.Nodes), .int .i64 p0.Rings, .int .i64 p0.Room] rfl (rw_ar rfl rfl (rw_bs [.int .i64 x9.Kind, .int .i64 x9.A, .sl (List.map encI x9.In), .sl (List.map encI x9.Out)] rfl (rw_nil)))))
      refine sn hb_133 (sn hb_133 (sn hb_133 (yq hb_132 (v_pickF (v := .bool false) rfl hb_133 rfl (sq (v_pickF (v := .bool false) rfl hb_132 rfl (sm (.bool false) rfl (yq rfl (v_fieldAddr_ptr Ty.f67_0 rfl (off' := 0) rfl (yo rfl (o_load_ptr rfl rfl (loadRow1 Ty.k3 (c := .int .i64 x9.Kind) rfl (yq rfl (v_eql rfl rfl (yq rfl (v_move (v := .bool (x9.Kind == 2)) rfl ?_))))))))))))))))
      rcases bool_cases (x9.Kind == 2) with hb_141 | hb_141
      ·refine yq hb_141 (v_fieldAddr_ptr Ty.f67_1 rfl (off' := 1) rfl (yo hb_141 (o_load_ptr rfl rfl (loadRow1 Ty.k3 (c := .int .i64 x9.A) rfl (yq hb_141 (v_gtr rfl rfl (yq rfl (v_pickT (v := .bool (decide (x9.A > 3))) rfl hb_141 rfl (sq (v_pickF (v := .bool (decide (x9.A > 3))) rfl rfl rfl (sm (.bool (decide (x9.A > 3))) rfl ?_)))))))))))
       rcases bool_cases (decide (x9.A > 3)) with hb_142 | hb_142
       ·refine sn hb_142 (sn hb_142 (sn hb_142 (sn hb_142 (su (su (su (sn hb_142 (sn hb_142 (su ?_)))))))))
        refine su (su (sn hb_142 (sq (v_pickT (v := .bool true) rfl hb_142 rfl (RS.nil ?_)))))
        exact T.weakR (hK () trivial) (Weak.mkN [] [0, 1, 2] (by decide) (none_kept _) rfl ⟨rn_ptr rfl, rn_ref rfl, rn_int rfl, rn_int rfl, rn_ptr rfl, rn_s rfl, rn_int rfl, rn_int rfl, rn_bool (by simp only [hb_132, hb_133, hb_141, hb_142, bz, if_true, if_false, Bool.false_eq_true]), trivial⟩ (rw_bs [.sl (List.map encNode p0.Nodes), .int .i64 p0.Rings, .int .i64 p0.Room] rfl (rw_ar rfl rfl (rw_bs [.int .i64 x9.Kind, .int .i64 x9.A, .sl (List.map encI x9.In), .sl (List.map encI x9.Out)] rfl (rw_nil)))))
       refine yq hb_142 (v_fieldAddr_ptr Ty.f67_0 rfl (off' := 0) rfl (yo hb_142 (o_load_ptr rfl rfl (loadRow1 Ty.k3 (c := .int .i64 x9.Kind) rfl (yq hb_142 (v_neq rfl rfl (yq hb_142 (v_move (v := .bool (x9.Kind != 1)) rfl ?_))))))))
       rcases bool_cases (x9.Kind != 1) with hb_143 | hb_143
       ·refine yq hb_143 (v_fieldAddr_ptr Ty.f67_0 rfl (off' := 0) rfl (yo hb_143 (o_load_ptr rfl rfl (loadRow1 Ty.k3 (c := .int .i64 x9.Kind) rfl (yq hb_143 (v_neq rfl rfl (yq hb_142 (v_pickT (v := .bool (x9.Kind != 2)) rfl hb_143 rfl (yq hb_142 (v_move (v := .bool (x9.Kind != 2)) rfl ?_))))))))))
        rcases bool_cases (x9.Kind != 2) with hb_144 | hb_144
        ·refine yq hb_144 (v_fieldAddr_ptr Ty.f67_1 rfl (off' := 1) rfl (yo hb_144 (o_load_ptr rfl rfl (loadRow1 Ty.k3 (c := .int .i64 x9.A) rfl (yq hb_144 (v_neq rfl rfl (yq hb_142 (v_pickT (v := .bool (x9.A != 0)) rfl hb_144 rfl (sq (v_pickF (v := .bool (x9.A != 0)) rfl hb_142 rfl (RS.nil ?_)))))))))))
         exact T.weakR (hK () trivial) (Weak.mkN [] [0, 1, 2] (by decide) (none_kept _) rfl ⟨rn_ptr rfl, rn_ref rfl, rn_int rfl, rn_int rfl, rn_ptr rfl, rn_s rfl, rn_int rfl, rn_int rfl, rn_bool (by simp only [hb_132, hb_133, hb_141, hb_142, hb_143, hb_144, bz, if_true, if_false, Bool.false_eq_true]), trivial⟩ (rw_bs [.sl (List.map encNode p0.Nodes), .int .i64 p0.Rings, .int .i64 p0.Room] rfl (rw_ar rfl rfl (rw_bs [.int .i64 x9.Kind, .int .i64 x9.A, .sl (List.map encI x9.In), .sl (List.map encI x9.Out)] rfl (rw_nil)))))
        refine sn hb_144 (sn hb_144 (sn hb_144 (yq hb_142 (v_pickF (v := .bool false) rfl hb_144 rfl (sq (v_pickF (v := .bool false) rfl hb_142 rfl (RS.nil ?_)))))))
        exact T.weakR (hK () trivial) (Weak.mkN [] [0, 1, 2] (by decide) (none_kept _) rfl ⟨rn_ptr rfl, rn_ref rfl, rn_int rfl, rn_int rfl, rn_ptr rfl, rn_s rfl, rn_int rfl, rn_int rfl, rn_bool (by simp only [hb_132, hb_133, hb_141, hb_142, hb_143, hb_144, bz, if_true, if_false, Bool.false_eq_true]), trivial⟩ (rw_bs [.sl (List.map encNode p0.Nodes), .int .i64 p0.Rings, .int .i64 p0.Room] rfl (rw_ar rfl rfl (rw_bs [.int .i64 x9.Kind, .int .i64 x9.A, .sl (List.map encI x9.In), .sl (List.map encI x9.Out)] rfl (rw_nil)))))
       refine sn hb_143 (sn hb_143 (sn hb_143 (yq hb_142 (v_pickF (v := .bool false) rfl hb_143 rfl (yq hb_142 (v_move (v := .bool false) rfl (sn rfl (sn rfl (sn rfl (yq hb_142 (v_pickF (v := .bool false) rfl rfl rfl (sq (v_pickF (v := .bool false) rfl hb_142 rfl ?_)))))))))))))
       refine RS.nil ?_
       exact T.weakR (hK () trivial) (Weak.mkN [] [0, 1, 2] (by decide) (none_kept _) rfl ⟨rn_ptr rfl, rn_ref rfl, rn_int rfl, rn_int rfl, rn_ptr rfl, rn_s rfl, rn_int rfl, rn_int rfl, rn_bool (by simp only [hb_132, hb_133, hb_141, hb_142, hb_143, bz, if_true, if_false, Bool.false_eq_true]), trivial⟩ (rw_bs [.sl (List.map encNode p0.Nodes), .int .i64 p0.Rings, .int .i64 p0.Room] rfl (rw_ar rfl rfl (rw_bs [.int .i64 x9.Kind, .int .i64 x9.A, .sl (List.map encI x9.In), .sl (List.map encI x9.Out)] rfl (rw_nil)))))
      refine sn hb_141 (sn hb_141 (sn hb_141 (yq rfl (v_pickF (v := .bool false) rfl hb_141 rfl (sq (v_pickF (v := .bool false) rfl rfl rfl (sm (.bool false) rfl (yq rfl (v_fieldAddr_ptr Ty.f67_0 rfl (off' := 0) rfl (yo rfl (o_load_ptr rfl rfl (loadRow1 Ty.k3 (c := .int .i64 x9.Kind) rfl (yq rfl (v_neq rfl rfl (yq rfl (v_move (v := .bool (x9.Kind != 1)) rfl ?_))))))))))))))))
      rcases bool_cases (x9.Kind != 1) with hb_145 | hb_145
      ·refine yq hb_145 (v_fieldAddr_ptr Ty.f67_0 rfl (off' := 0) rfl (yo hb_145 (o_load_ptr rfl rfl (loadRow1 Ty.k3 (c := .int .i64 x9.Kind) rfl (yq hb_145 (v_neq rfl rfl (yq rfl (v_pickT (v := .bool (x9.Kind != 2)) rfl hb_145 rfl (yq rfl (v_move (v := .bool (x9.Kind != 2)) rfl ?_))))))))))
       rcases bool_cases (x9.Kind != 2) with hb_146 | hb_146
       ·refine yq hb_146 (v_fieldAddr_ptr Ty.f67_1 rfl (off' := 1) rfl (yo hb_146 (o_load_ptr rfl rfl (loadRow1 Ty.k3 (c := .int .i64 x9.A) rfl (yq hb_146 (v_neq rfl rfl (yq rfl (v_pickT (v := .bool (x9.A != 0)) rfl hb_146 rfl (sq (v_pickF (v := .bool (x9.A != 0)) rfl rfl rfl (RS.nil ?_)))))))))))
        exact T.weakR (hK () trivial) (Weak.mkN [] [0, 1, 2] (by decide) (none_kept _) rfl ⟨rn_ptr rfl, rn_ref rfl, rn_int rfl, rn_int rfl, rn_ptr rfl, rn_s rfl, rn_int rfl, rn_int rfl, rn_bool (by simp only [hb_132, hb_133, hb_141, hb_145, hb_146, bz, if_true, if_false, Bool.false_eq_true]), trivial⟩ (rw_bs [.sl (List.map encNode p0.Nodes), .int .i64 p0.Rings, .int .i64 p0.Room] rfl (rw_ar rfl rfl (rw_bs [.int .i64 x9.Kind, .int .i64 x9.A, .sl (List.map encI x9.In), .sl (List.map encI x9.Out)] rfl (rw_nil)))))
       refine sn hb_146 (sn hb_146 (sn hb_146 (yq rfl (v_pickF (v := .bool false) rfl hb_146 rfl (sq (v_pickF (v := .bool false) rfl rfl rfl (RS.nil ?_)))))))
       exact T.weakR (hK () trivial) (Weak.mkN [] [0, 1, 2] (by decide) (none_kept _) rfl ⟨rn_ptr rfl, rn_ref rfl, rn_int rfl, rn_int rfl, rn_ptr rfl, rn_s rfl, rn_int rfl, rn_int rfl, rn_bool (by simp only [hb_132, hb_133, hb_141, hb_145, hb_146, bz, if_true, if_false, Bool.false_eq_true]), trivial⟩ (rw_bs [.sl (List.map encNode p0.Nodes), .int .i64 p0.Rings, .int .i64 p0.Room] rfl (rw_ar rfl rfl (rw_bs [.int .i64 x9.Kind, .int .i64 x9.A, .sl (List.map encI x9.In), .sl (List.map encI x9.Out)] rfl (rw_nil)))))
      refine sn hb_145 (sn hb_145 (sn hb_145 (yq rfl (v_pickF (v := .bool false) rfl hb_145 rfl (yq rfl (v_move (v := .bool false) rfl (sn rfl (sn rfl (sn rfl (yq rfl (v_pickF (v := .bool false) rfl rfl rfl (sq (v_pickF (v := .bool false) rfl rfl rfl ?_)))))))))))))
      refine RS.nil ?_
      exact T.weakR (hK () trivial) (Weak.mkN [] [0, 1, 2] (by decide) (none_kept _) rfl ⟨rn_ptr rfl, rn_ref rfl, rn_int rfl, rn_int rfl, rn_ptr rfl, rn_s rfl, rn_int rfl, rn_int rfl, rn_bool (by simp only [hb_132, hb_133, hb_141, hb_145, bz, if_true, if_false, Bool.false_eq_true]), trivial⟩ (rw_bs [.sl (List.map encNode p0.Nodes), .int .i64 p0.Rings, .int .i64 p0.Room] rfl (rw_ar rfl rfl (rw_bs [.int .i64 x9.Kind, .int .i64 x9.A, .sl (List.map encI x9.In), .sl (List.map encI x9.Out)] rfl (rw_nil)))))
     refine T.region (sq (v_fieldAddr_ptr Ty.f67_2 rfl (off' := 2) rfl (so (o_load_ptr rfl rfl (loadRow1 Ty.k57 (c := .sl (List.map encI x9.In)) rfl (sq (v_len_sl Ty.s57 rfl (sm (.int .i64 x11.1) rfl (so (o_call (as0 := [.int .i64 ((x9.In).length : Int), .int .i64 x11.1]) (as1 := [.int .i64 ((x9.In).length : Int), .int .i64 x11.1]) (caps := []) (aw1 := [.box [.sl (List.map encNode p0.Nodes), .int .i64 p0.Rings, .int .i64 p0.Room], .arr 121 2 (List.map encEnds s7), .box [.int .i64 x9.Kind, .int .i64 x9.A, .sl (List.map encI x9.In), .sl (List.map encI x9.Out)]]) rfl rfl rfl (k_flat (v := .bool x12) (net_fits_c ((x9.In).length : Int) x11.1 x12 hx12) (⟨pure_int _ _, pure_int _ _, trivial⟩) rfl (sq (v_not rfl (sm (.bool (!x12)) rfl ?_))))))))))))))
     rcases bool_cases (!x12) with hb_128 | hb_128
     ·replace hz := ite_T hz hb_128
      refine sn hb_128 (sn hb_128 (sn hb_128 (sn hb_128 (sn hb_128 (sn hb_128 (sq (v_pickT (v := .bool true) rfl hb_128 rfl (RS.nil ?_))))))))
      exact T.weakR (hK () trivial) (Weak.mkN [] [0, 1, 2] (by decide) (none_kept _) rfl ⟨rn_ptr rfl, rn_ref rfl, rn_int rfl, rn_int rfl, rn_ptr rfl, rn_s rfl, rn_int rfl, rn_int rfl, rn_bool ((congrArg (fun p => p) (Option.some.inj hz)).symm), trivial⟩ (rw_bs [.sl (List.map encNode p0.Nodes), .int .i64 p0.Rings, .int .i64 p0.Room] rfl (rw_ar rfl rfl (rw_bs [.int .i64 x9.Kind, .int .i64 x9.A, .sl (List.map encI x9.In), .sl (List.map encI x9.Out)] rfl (rw_nil)))))
     replace hz := ite_F hz hb_128
     obtain ⟨x13, hx13, hz⟩ := bind_some hz
     refine yq hb_128 (v_fieldAddr_ptr Ty.f67_3 rfl (off' := 3) rfl (yo hb_128 (o_load_ptr rfl rfl (loadRow1 Ty.k57 (c := .sl (List.map encI x9.Out)) rfl (yq hb_128 (v_len_sl Ty.s57 rfl (yq hb_128 (v_move (v := .int .i64 x11.2.1) rfl (yo hb_128 (o_call (as0 := [.int .i64 ((x9.Out).length : Int), .int .i64 x11.2.1]) (as1 := [.int .i64 ((x9.Out).length : Int), .int .i64 x11.2.1]) (caps := []) (aw1 := [.box [.sl (List.map encNode p0.Nodes), .int .i64 p0.Rings, .int .i64 p0.Room], .arr 121 2 (List.map encEnds s7), .box [.int .i64 x9.Kind, .int .i64 x9.A, .sl (List.map encI x9.In), .sl (List.map encI x9.Out)]]) rfl rfl rfl (k_flat (v := .bool x13) (net_fits_c ((x9.Out).length : Int) x11.2.1 x13 hx13) (⟨pure_int _ _, pure_int _ _, trivial⟩) rfl (yq hb_128 (v_not rfl (sq (v_pickF (v := .bool (!x13)) rfl hb_128 rfl (RS.nil ?_))))))))))))))))
     exact T.weakR (hK () trivial) (Weak.mkN [] [0, 1, 2] (by decide) (none_kept _) rfl ⟨rn_ptr rfl, rn_ref rfl, rn_int rfl, rn_int rfl, rn_ptr rfl, rn_s rfl, rn_int rfl, rn_int rfl, rn_bool ((congrArg (fun p => p) (Option.some.inj hz)).symm), trivial⟩ (rw_bs [.sl (List.map encNode p0.Nodes), .int .i64 p0.Rings, .int .i64 p0.Room] rfl (rw_ar rfl rfl (rw_bs [.int .i64 x9.Kind, .int .i64 x9.A, .sl (List.map encI x9.In), .sl (List.map encI x9.Out)] rfl (rw_nil)))))
    replace h := ite_F h hb_125
    refine T.exit ?_
    obtain ⟨w_190, h, hw_190⟩ := map_inr h
    replace h := h.trans (congrArg some (hv_124 _ hw_190))
    refine T.seq (T.seq (T.region (sm (.ref 1) rfl (sq (v_len_ref (en := encEnds) Ty.s115 rfl rfl (sm (.int .i64 0) rfl (RS.nil (T.block (T.iter (fun ss_197 : Int => mkA 197 [(4, .ref 0), (5, .int .i64 s5), (179, .ref 0), (180, .int .i64 ((s7).length : Int)), (181, .int .i64 ss_197)]) (fun ss_197 => [.arr 121 2 (List.map encEnds s7)]) h (Weak.mkN [] [1] (by decide) (none_kept _) rfl ⟨rn_ref rfl, rn_int rfl, rn_ref rfl, rn_int rfl, rn_int rfl, trivial⟩ (rw_ar rfl rfl (rw_nil))) (fun ss_197 v_198 h hv_198 => ?_))))))))))
    revert hv_198 h; revert ss_197; intro s38 h hv_198
    replace h : net_look_l4 s5 s7 s38 = some v_198 := h
    try dsimp only
    unfold net_look_l4 at h
    refine T.seq (T.region (sq (v_lss rfl rfl (RS.nil (T.seq (T.cond (b := decide (s38 < ((s7).length : Int))) rfl (fun hb_199 => ?_) (fun hb_199 => ?_)))))))
    ·replace h := ite_T h hb_199
     refine T.skip (T.seq (T.block (T.seq ?_)))
     obtain ⟨x41, hx41, h⟩ := bind_some h
     obtain ⟨x42, hx42, h⟩ := bind_some h
     refine T.region (sq (v_index_ref' (en := encEnds) Ty.s115 rfl rfl rfl hx41 (so (o_load_aptr' (en := encEnds) (a := x42) rfl rfl hx42 (loadRowA Ty.k121 Ty.c121 rfl (cs := [.int .i64 x42.src, .int .i64 x42.dst]) rfl (so (o_alloc Ty.z121 rfl (aw' := [.arr 121 2 (List.map encEnds s7), .box [.int .i64 0, .int .i64 0]]) rfl (so (o_store_ptr Ty.c121 Ty.i121 rfl (vs := [.int .i64 x42.src, .int .i64 x42.dst]) rfl rfl rfl rfl (cs' := [.int .i64 x42.src, .int .i64 x42.dst]) rfl (aw' := [.arr 121 2 (List.map encEnds s7), .box [.int .i64 x42.src, .int .i64 x42.dst]]) rfl (RS.nil (T.join (Z := Unit) (fun _ => mkA 197 [(4, .ref 0), (5, .int .i64 s5), (179, .ref 0), (180, .int .i64 ((s7).length : Int)), (181, .int .i64 s38), (192, .bool ((decide (x42.src < 0)) || decide (x42.dst < 0)))]) (fun _ => [.arr 121 2 (List.map encEnds s7)]) (fun _ => True) (fun _ _ => ?_) (fun hK => ?_))))))))))))
     ·refine T.cond (b := ((decide (x42.src < 0)) || decide (x42.dst < 0))) rfl (fun hb_201 => ?_) (fun hb_201 => ?_)
      ·replace h := ite_T h hb_201
       refine T.seq (T.region (sa .nils rfl (sa (.int .i64 9) rfl (RS.nil (T.rt ?_)))))
       obtain ⟨w_202, h, hw_202⟩ := map_inr h
       replace h := h.trans (congrArg some (hv_198 _ hw_202))
       refine res_tmpA (v := .nils) rfl (res_tmpA (v := .int .i64 9) rfl (res_done ?_))
       exact ret_own (.tup [.ref 0, .int .i64 r.2]) [(0, 121, 2)] [1] (by decide) (none_kept _) rfl (rn_tup ⟨rn_ref rfl, rn_int (congrArg (fun r : (List Ends) × Int => r.2) (Option.some.inj h)).symm, trivial⟩) (rw_arr (en := encEnds) (ys := []) rfl encEnds_p (congrArg (fun r : (List Ends) × Int => r.1) (Option.some.inj h)).symm (rw_nil)) ⟨rfl, rfl⟩
      replace h := ite_F h hb_201
      refine T.skip (T.region (sq (v_add rfl rfl (sm (.int .i64 (IntKind.i64.wrap (s38 + 1))) rfl (RS.nil ?_)))))
      exact ⟨IntKind.i64.wrap (s38 + 1), (Option.some.inj h).symm, Weak.mkN [] [0] (by decide) (none_kept _) rfl ⟨rn_ref rfl, rn_int rfl, rn_ref rfl, rn_int rfl, rn_int rfl, trivial⟩ (rw_ar rfl rfl (rw_nil))⟩
     refine T.region (sq (v_fieldAddr_ptr Ty.f121_0 rfl (off' := 0) rfl (so (o_load_ptr rfl rfl (loadRow1 Ty.k3 (c := .int .i64 x42.src) rfl (sq (v_lss rfl rfl (sm (.bool (decide (x42.src < 0))) rfl ?_))))))))
     rcases bool_cases (decide (x42.src < 0)) with hb_200 | hb_200
     ·refine sn hb_200 (sn hb_200 (sn hb_200 (sq (v_pickT (v := .bool true) rfl hb_200 rfl (RS.nil ?_)))))
      exact T.weakR (hK () trivial) (Weak.mkN [] [0] (by decide) (none_kept _) rfl ⟨rn_ref rfl, rn_int rfl, rn_ref rfl, rn_int rfl, rn_int rfl, rn_bool (by simp only [hb_200, bz, if_true, if_false, Bool.false_eq_true]), trivial⟩ (rw_ar rfl rfl (rw_nil)))
     refine yq hb_200 (v_fieldAddr_ptr Ty.f121_1 rfl (off' := 1) rfl (yo hb_200 (o_load_ptr rfl rfl (loadRow1 Ty.k3 (c := .int .i64 x42.dst) rfl (yq hb_200 (v_lss rfl rfl (sq (v_pickF (v := .bool (decide (x42.dst < 0))) rfl hb_200 rfl (RS.nil ?_)))))))))
     exact T.weakR (hK () trivial) (Weak.mkN [] [0] (by decide) (none_kept _) rfl ⟨rn_ref rfl, rn_int rfl, rn_ref rfl, rn_int rfl, rn_int rfl, rn_bool (by simp only [hb_200, bz, if_true, if_false, Bool.false_eq_true]), trivial⟩ (rw_ar rfl rfl (rw_nil)))
    replace h := ite_F h hb_199
    refine T.exit ?_
    obtain ⟨w_203, h, hw_203⟩ := map_inr h
    replace h := h.trans (congrArg some (hv_198 _ hw_203))
    refine T.seq (T.seq (T.region (sm (.int .i64 s5) rfl (sq (v_neq rfl rfl (RS.nil (T.cond (b := s5 != 1) rfl (fun hb_204 => ?_) (fun hb_204 => ?_))))))))
    ·replace h := ite_T h hb_204
     refine T.seq (T.region (sa .nils rfl (sa (.int .i64 4) rfl (RS.nil (T.rt (res_tmpA (v := .nils) rfl (res_tmpA (v := .int .i64 4) rfl (res_done ?_))))))))
     exact ret_own (.tup [.ref 0, .int .i64 r.2]) [(0, 121, 2)] [1] (by decide) (none_kept _) rfl (rn_tup ⟨rn_ref rfl, rn_int (congrArg (fun r : (List Ends) × Int => r.2) (Option.some.inj h)).symm, trivial⟩) (rw_arr (en := encEnds) (ys := []) rfl encEnds_p (congrArg (fun r : (List Ends) × Int => r.1) (Option.some.inj h)).symm (rw_nil)) ⟨rfl, rfl⟩
    replace h := ite_F h hb_204
    refine T.skip (T.seq (T.region (sm (.ref 0) rfl (sa (.ref 0) rfl (sa (.int .i64 0) rfl (RS.nil (T.rt (res_tmpA (v := .ref 0) rfl (res_tmpA (v := .int .i64 0) rfl ?_)))))))))
    refine res_done ?_
    exact ret_own (.tup [.ref 0, .int .i64 r.2]) [] [0] (by decide) (none_kept _) rfl (rn_tup ⟨rn_ref rfl, rn_int (congrArg (fun r : (List Ends) × Int => r.2) (Option.some.inj h)).symm, trivial⟩) (rw_arr rfl encEnds_p (congrArg (fun r : (List Ends) × Int => r.1) (Option.some.inj h)).symm (rw_nil)) ⟨rfl, rfl⟩
   refine T.region (sq (v_fieldAddr_ptr Ty.f56_2 rfl (off' := 2) rfl (so (o_load_ptr rfl rfl (loadRow1 Ty.k3 (c := .int .i64 p0.Room) rfl (sq (v_lss rfl rfl (sm (.bool (decide (p0.Room < 1))) rfl ?_))))))))
   rcases bool_cases (decide (p0.Room < 1)) with hb_5 | hb_5
   ·refine sn hb_5 (sn hb_5 (sn hb_5 (sq (v_pickT (v := .bool true) rfl hb_5 rfl (RS.nil ?_)))))
    exact T.weakR (hK () trivial) (Weak.mkN [] [0] (by decide) (none_kept _) rfl ⟨rn_ptr rfl, rn_bool (by simp only [hb_5, bz, if_true, if_false, Bool.false_eq_true]), trivial⟩ (rw_bs [.sl (List.map encNode p0.Nodes), .int .i64 p0.Rings, .int .i64 p0.Room] rfl (rw_nil)))
   refine yq hb_5 (v_fieldAddr_ptr Ty.f56_2 rfl (off' := 2) rfl (yo hb_5 (o_load_ptr rfl rfl (loadRow1 Ty.k3 (c := .int .i64 p0.Room) rfl (yq hb_5 (v_gtr rfl rfl (sq (v_pickF (v := .bool (decide (p0.Room > 6))) rfl hb_5 rfl (RS.nil ?_)))))))))
   exact T.weakR (hK () trivial) (Weak.mkN [] [0] (by decide) (none_kept _) rfl ⟨rn_ptr rfl, rn_bool (by simp only [hb_5, bz, if_true, if_false, Bool.false_eq_true]), trivial⟩ (rw_bs [.sl (List.map encNode p0.Nodes), .int .i64 p0.Rings, .int .i64 p0.Room] rfl (rw_nil)))
  refine T.region (sq (v_fieldAddr_ptr Ty.f56_0 rfl (off' := 0) rfl (so (o_load_ptr rfl rfl (loadRow1 Ty.k54 (c := .sl (List.map encNode p0.Nodes)) rfl (sq (v_len_sl Ty.s54 rfl (sq (v_lss rfl rfl (sm (.bool (decide (((p0.Nodes).length : Int) < 1))) rfl ?_))))))))))
  rcases bool_cases (decide (((p0.Nodes).length : Int) < 1)) with hb_1 | hb_1
  ·refine sn hb_1 (sn hb_1 (sn hb_1 (sn hb_1 (sq (v_pickT (v := .bool true) rfl hb_1 rfl (sm (.bool true) rfl (sn rfl (sn rfl (sn rfl (sq (v_pickT (v := .bool true) rfl rfl rfl ?_)))))))))))
   refine sm (.bool true) rfl (sn rfl (sn rfl (sn rfl (sq (v_pickT (v := .bool true) rfl rfl rfl (RS.nil ?_))))))
   exact T.weakR (hK () trivial) (Weak.mkN [] [0] (by decide) (none_kept _) rfl ⟨rn_ptr rfl, rn_bool (by simp only [hb_1, bz, if_true, if_false, Bool.false_eq_true]), trivial⟩ (rw_bs [.sl (List.map encNode p0.Nodes), .int .i64 p0.Rings, .int .i64 p0.Room] rfl (rw_nil)))
  refine yq hb_1 (v_fieldAddr_ptr Ty.f56_0 rfl (off' := 0) rfl (yo hb_1 (o_load_ptr rfl rfl (loadRow1 Ty.k54 (c := .sl (List.map encNode p0.Nodes)) rfl (yq hb_1 (v_len_sl Ty.s54 rfl (yq hb_1 (v_gtr rfl rfl (sq (v_pickF (v := .bool (decide (((p0.Nodes).length : Int) > 12))) rfl hb_1 rfl (sm (.bool (decide (((p0.Nodes).length : Int) > 12))) rfl ?_)))))))))))
  rcases bool_cases (decide (((p0.Nodes).length : Int) > 12)) with hb_2 | hb_2
  ·refine sn hb_2 (sn hb_2 (sn hb_2 (sq (v_pickT (v := .bool true) rfl hb_2 rfl (sm (.bool true) rfl (sn rfl (sn rfl (sn rfl (sq (v_pickT (v := .bool true) rfl rfl rfl (RS.nil ?_)))))))))))
   exact T.weakR (hK () trivial) (Weak.mkN [] [0] (by decide) (none_kept _) rfl ⟨rn_ptr rfl, rn_bool (by simp only [hb_1, hb_2, bz, if_true, if_false, Bool.false_eq_true]), trivial⟩ (rw_bs [.sl (List.map encNode p0.Nodes), .int .i64 p0.Rings, .int .i64 p0.Room] rfl (rw_nil)))
  refine yq hb_2 (v_fieldAddr_ptr Ty.f56_1 rfl (off' := 1) rfl (yo hb_2 (o_load_ptr rfl rfl (loadRow1 Ty.k3 (c := .int .i64 p0.Rings) rfl (yq hb_2 (v_lss rfl rfl (sq (v_pickF (v := .bool (decide (p0.Rings < 0))) rfl hb_2 rfl (sm (.bool (decide (p0.Rings < 0))) rfl ?_)))))))))
  rcases bool_cases (decide (p0.Rings < 0)) with hb_3 | hb_3
  ·refine sn hb_3 (sn hb_3 (sn hb_3 (sq (v_pickT (v := .bool true) rfl hb_3 rfl (RS.nil ?_)))))
   exact T.weakR (hK () trivial) (Weak.mkN [] [0] (by decide) (none_kept _) rfl ⟨rn_ptr rfl, rn_bool (by simp only [hb_1, hb_2, hb_3, bz, if_true, if_false, Bool.false_eq_true]), trivial⟩ (rw_bs [.sl (List.map encNode p0.Nodes), .int .i64 p0.Rings, .int .i64 p0.Room] rfl (rw_nil)))
  refine yq hb_3 (v_fieldAddr_ptr Ty.f56_1 rfl (off' := 1) rfl (yo hb_3 (o_load_ptr rfl rfl (loadRow1 Ty.k3 (c := .int .i64 p0.Rings) rfl (yq hb_3 (v_gtr rfl rfl (sq (v_pickF (v := .bool (decide (p0.Rings > 16))) rfl hb_3 rfl (RS.nil ?_)))))))))
  exact T.weakR (hK () trivial) (Weak.mkN [] [0] (by decide) (none_kept _) rfl ⟨rn_ptr rfl, rn_bool (by simp only [hb_1, hb_2, hb_3, bz, if_true, if_false, Bool.false_eq_true]), trivial⟩ (rw_bs [.sl (List.map encNode p0.Nodes), .int .i64 p0.Rings, .int .i64 p0.Room] rfl (rw_nil)))
theorem net_Order_1_x523f_c (p0 : Int) (p1 : List Bool) (p2 : List Ends) (r : Bool) (h : net_Order_1_x523f p0 p1 p2 = some r) : FnX Try.prog 69 [.int .i64 p0, .ptr 0 0, .ptr 1 0] [.box [.ref 2], .box [.ref 3], .arr 4 1 (List.map encB p1), .arr 121 2 (List.map encEnds p2)] (.bool r) [.box [.ref 2], .box [.ref 3], .arr 4 1 (List.map encB p1), .arr 121 2 (List.map encEnds p2)] := by
  unfold net_Order_1_x523f at h
  refine fn_of_T (N := 4) rfl Try.func69 rfl (by kernel_rfl) Try.ntmps69 rfl ?_
  show T _ _ _ _ (mkA 14 [(0, .int .i64 p0), (1, .ptr 0 0), (2, .ptr 1 0)]) [.box [.ref 2], .box [.ref 3], .arr 4 1 (List.map encB p1), .arr 121 2 (List.map encEnds p2)]
  refine T.seq (T.region (sa (.bool false) rfl (RS.nil (T.seq ?_))))
  obtain ⟨x5, hx5, h⟩ := bind_some h
  obtain ⟨x6, hx6, h⟩ := bind_some h
  obtain ⟨x7, hx7, h⟩ := bind_some h
  obtain ⟨x8, hx8, h⟩ := bind_some h
  refine T.drawn mixed (k := 10) rfl (RA.join 3 #[true, true, true, true, true, true, true, false, false, false] (mkA 14 [(0, .int .i64 p0), (1, .ptr 0 0), (2, .ptr 1 0), (4, .bool false), (5, .ref 2), (6, .ref 3), (7, .int .i64 p0), (8, .aptr 3 2 x5 0), (9, .aptr 3 2 x5 0), (10, .int .i64 x6.src), (11, .aptr 2 1 x7 0)]) [.box [.ref 2], .box [.ref 3], .arr 4 1 (List.map encB p1), .arr 121 2 (List.map encEnds p2)] ?_ (fun hS1 => ?_))
  ·refine RA.a1 (i1 := 7) (l1 := #[true, true, true, true, true, true, true, true, false, false]) (by decide +kernel) (by decide +kernel) (RO.op rfl rfl (o_load_aptr' (en := encB) (a := x8) rfl rfl hx8 (loadRow1 Ty.k4 (c := .bool x8) rfl (RA.t0 (i := 8) (li' := #[true, true, true, true, true, true, true, true, true, false]) rfl (by decide +kernel) (by decide +kernel) (by decide +kernel) (by decide +kernel) rfl rfl (v_not rfl (RA.t0 (i := 9) (li' := #[true, true, true, true, true, true, true, true, true, true]) rfl (by decide +kernel) (by decide +kernel) (by decide +kernel) (by decide +kernel) rfl rfl (v_assign (v := .bool (!x8)) rfl (RA.done (by decide +kernel) (T.rt (res_tmpA (v := .bool (!x8)) rfl (res_done ?_)))))))))))
   exact ret_norm (v := .bool (!x8)) (aw1 := [.box [.ref 2], .box [.ref 3], .arr 4 1 (List.map encB p1), .arr 121 2 (List.map encEnds p2)]) (.bool r) [0, 1, 2, 3] rfl (by decide) (by decide) (rn_bool (congrArg (fun r : Bool => r) (Option.some.inj h)).symm) (rw_box (cs := [.ref 2]) (ds := [.ref 2]) rfl ⟨rn_ref rfl, trivial⟩ (rw_box (cs := [.ref 3]) (ds := [.ref 3]) rfl ⟨rn_ref rfl, trivial⟩ (rw_arr rfl encB_p rfl (rw_arr rfl encEnds_p rfl (rw_nil))))) ⟨rfl, rfl⟩
  ·refine RA.join 5 #[true, true, true, true, true, false, false, false, false, false] (mkA 14 [(0, .int .i64 p0), (1, .ptr 0 0), (2, .ptr 1 0), (4, .bool false), (5, .ref 2), (6, .ref 3), (7, .int .i64 p0), (8, .aptr 3 2 x5 0), (9, .aptr 3 2 x5 0)]) [.box [.ref 2], .box [.ref 3], .arr 4 1 (List.map encB p1), .arr 121 2 (List.map encEnds p2)] ?_ (fun hS2 => ?_)
   ·refine RA.a1 (i1 := 5) (l1 := #[true, true, true, true, true, true, false, false, false, false]) (by decide +kernel) (by decide +kernel) (RO.op rfl rfl (o_load_aptr' (en := encEnds) (a := x6) rfl rfl hx6 (loadRow1 Ty.k3 (c := .int .i64 x6.src) rfl (RA.t0 (i := 6) (li' := #[true, true, true, true, true, true, true, false, false, false]) rfl (by decide +kernel) (by decide +kernel) (by decide +kernel) (by decide +kernel) rfl rfl (v_index_ref' (en := encB) Ty.s118 rfl rfl rfl hx7 ?_)))))
    exact RA.weakR hS1 (Weak.mkN [] [0, 1, 2, 3] (by decide) (by decide) rfl ⟨rn_int rfl, rn_ptr rfl, rn_ptr rfl, rn_bool rfl, rn_ref rfl, rn_ref rfl, rn_int rfl, rn_aptr rfl rfl, rn_aptr rfl rfl, rn_int rfl, rn_aptr rfl rfl, trivial⟩ (rw_box (cs := [.ref 2]) (ds := [.ref 2]) rfl ⟨rn_ref rfl, trivial⟩ (rw_box (cs := [.ref 3]) (ds := [.ref 3]) rfl ⟨rn_ref rfl, trivial⟩ (rw_ar rfl rfl (rw_ar rfl rfl (rw_nil))))))
   ·refine RA.t0 (i := 2) (li' := #[false, false, true, false, false, false, false, false, false, false]) rfl (by decide +kernel) (by decide +kernel) (by decide +kernel) (by decide +kernel) rfl rfl (v_move (v := .int .i64 p0) rfl (RA.a2 (i1 := 0) (l1 := #[true, false, true, false, false, false, false, false, false, false]) (i2 := 1) (l2 := #[false, true, true, false, false, false, false, false, false, false]) (by decide +kernel) (by decide +kernel) (by decide +kernel) ?_ ?_))
    ·refine RO.op rfl rfl (o_load_ptr rfl rfl (loadRow1 Ty.k118 (c := .ref 2) rfl (RA.a1 (i1 := 1) (l1 := #[true, true, true, false, false, false, false, false, false, false]) (by decide +kernel) (by decide +kernel) (RO.op rfl rfl (o_load_ptr rfl rfl (loadRow1 Ty.k115 (c := .ref 3) rfl (RA.t0 (i := 3) (li' := #[true, true, true, true, false, false, false, false, false, false]) rfl (by decide +kernel) (by decide +kernel) (by decide +kernel) (by decide +kernel) rfl rfl (v_index_ref' (en := encEnds) Ty.s115 rfl rfl rfl hx5 (RA.t0 (i := 4) (li' := #[true, true, true, true, true, false, false, false, false, false]) rfl (by decide +kernel) (by decide +kernel) (by decide +kernel) (by decide +kernel) rfl rfl (v_fieldAddr_aptr Ty.f121_0 rfl (off' := 0) rfl ?_))))))))))
     exact RA.weakR hS2 (Weak.mkN [] [0, 1, 2, 3] (by decide) (by decide) rfl ⟨rn_int rfl, rn_ptr rfl, rn_ptr rfl, rn_bool rfl, rn_ref rfl, rn_ref rfl, rn_int rfl, rn_aptr rfl rfl, rn_aptr rfl rfl, trivial⟩ (rw_box (cs := [.ref 2]) (ds := [.ref 2]) rfl ⟨rn_ref rfl, trivial⟩ (rw_box (cs := [.ref 3]) (ds := [.ref 3]) rfl ⟨rn_ref rfl, trivial⟩ (rw_ar rfl rfl (rw_ar rfl rfl (rw_nil))))))
    ·refine RO.op rfl rfl (o_load_ptr rfl rfl (loadRow1 Ty.k115 (c := .ref 3) rfl (RA.t0 (i := 3) (li' := #[false, true, true, true, false, false, false, false, false, false]) rfl (by decide +kernel) (by decide +kernel) (by decide +kernel) (by decide +kernel) rfl rfl (v_index_ref' (en := encEnds) Ty.s115 rfl rfl rfl hx5 (RA.t0 (i := 4) (li' := #[false, true, true, true, true, false, false, false, false, false]) rfl (by decide +kernel) (by decide +kernel) (by decide +kernel) (by decide +kernel) rfl rfl (v_fieldAddr_aptr Ty.f121_0 rfl (off' := 0) rfl (RA.a2 (i1 := 0) (l1 := #[true, true, true, true, true, false, false, false, false, false]) (i2 := 5) (l2 := #[false, true, true, true, true, true, false, false, false, false]) (by decide +kernel) (by decide +kernel) (by decide +kernel) ?_ ?_)))))))
     ·refine RO.op rfl rfl (o_load_ptr rfl rfl (loadRow1 Ty.k118 (c := .ref 2) rfl ?_))
      exact RA.weakR hS2 (Weak.mkN [] [0, 1, 2, 3] (by decide) (by decide) rfl ⟨rn_int rfl, rn_ptr rfl, rn_ptr rfl, rn_bool rfl, rn_ref rfl, rn_ref rfl, rn_int rfl, rn_aptr rfl rfl, rn_aptr rfl rfl, trivial⟩ (rw_box (cs := [.ref 2]) (ds := [.ref 2]) rfl ⟨rn_ref rfl, trivial⟩ (rw_box (cs := [.ref 3]) (ds := [.ref 3]) rfl ⟨rn_ref rfl, trivial⟩ (rw_ar rfl rfl (rw_ar rfl rfl (rw_nil))))))
     ·refine RO.op rfl rfl (o_load_aptr' (en := encEnds) (a := x6) rfl rfl hx6 (loadRow1 Ty.k3 (c := .int .i64 x6.src) rfl (RA.a1 (i1 := 0) (l1 := #[true, true, true, true, true, true, false, false, false, false]) (by decide +kernel) (by decide +kernel) (RO.op rfl rfl (o_load_ptr rfl rfl (loadRow1 Ty.k118 (c := .ref 2) rfl (RA.t0 (i := 6) (li' := #[true, true, true, true, true, true, true, false, false, false]) rfl (by decide +kernel) (by decide +kernel) (by decide +kernel) (by decide +kernel) rfl rfl (v_index_ref' (en := encB) Ty.s118 rfl rfl rfl hx7 ?_))))))))
      exact RA.weakR hS1 (Weak.mkN [] [0, 1, 2, 3] (by decide) (by decide) rfl ⟨rn_int rfl, rn_ptr rfl, rn_ptr rfl, rn_bool rfl, rn_ref rfl, rn_ref rfl, rn_int rfl, rn_aptr rfl rfl, rn_aptr rfl rfl, rn_int rfl, rn_aptr rfl rfl, trivial⟩ (rw_box (cs := [.ref 2]) (ds := [.ref 2]) rfl ⟨rn_ref rfl, trivial⟩ (rw_box (cs := [.ref 3]) (ds := [.ref 3]) rfl ⟨rn_ref rfl, trivial⟩ (rw_ar rfl rfl (rw_ar rfl rfl (rw_nil))))))
theorem slices_IndexFunc_int_x5d6b_c (p0 : List Int) (p1 : List Bool) (p2 : List Ends) (r : Int) (h : slices_IndexFunc_int_x5d6b p0 p1 p2 = some r) : FnX Try.prog 91 [.sl (List.map encI p0), .func 69 [.ptr 0 0, .ptr 1 0]] [.box [.ref 2], .box [.ref 3], .arr 4 1 (List.map encB p1), .arr 121 2 (List.map encEnds p2)] (.int .i64 r) [.box [.ref 2], .box [.ref 3], .arr 4 1 (List.map encB p1), .arr 121 2 (List.map encEnds p2)] := by
  unfold slices_IndexFunc_int_x5d6b at h
  refine fn_of_T (N := 4) rfl Try.func91 rfl (by kernel_rfl) Try.ntmps91 rfl ?_
  show T _ _ _ _ (mkA 19 [(0, .sl (List.map encI p0)), (1, .func 69 [.ptr 0 0, .ptr 1 0])]) [.box [.ref 2], .box [.ref 3], .arr 4 1 (List.map encB p1), .arr 121 2 (List.map encEnds p2)]
  refine T.seq (T.region (sa (.int .i64 0) rfl (RS.nil (T.seq (T.seq (T.region (sm (.sl (List.map encI p0)) rfl (sq (v_len_sl Ty.s57 rfl (sm (.int .i64 0) rfl ?_))))))))))
  refine RS.nil (T.block (T.iter (fun ss_5 : Int => mkA 19 [(0, .sl (List.map encI p0)), (1, .func 69 [.ptr 0 0, .ptr 1 0]), (7, .int .i64 ((p0).length : Int)), (8, .int .i64 ss_5)]) (fun ss_5 => [.box [.ref 2], .box [.ref 3], .arr 4 1 (List.map encB p1), .arr 121 2 (List.map encEnds p2)]) h (Weak.mkN [] [0, 1, 2, 3] (by decide) (by decide) rfl ⟨rn_s rfl, rn_func ⟨rn_ptr rfl, rn_ptr rfl, trivial⟩, rn_int rfl, rn_int rfl, trivial⟩ (rw_box (cs := [.ref 2]) (ds := [.ref 2]) rfl ⟨rn_ref rfl, trivial⟩ (rw_box (cs := [.ref 3]) (ds := [.ref 3]) rfl ⟨rn_ref rfl, trivial⟩ (rw_ar rfl rfl (rw_ar rfl rfl (rw_nil)))))) (fun ss_5 v_6 h hv_6 => ?_)))
  revert hv_6 h; revert ss_5; intro s1 h hv_6
  replace h : slices_IndexFunc_int_x5d6b_l1 p0 p1 p2 s1 = some v_6 := h
  try dsimp only
  unfold slices_IndexFunc_int_x5d6b_l1 at h
  refine T.seq (T.region (sq (v_lss rfl rfl (RS.nil (T.seq (T.cond (b := decide (s1 < ((p0).length : Int))) rfl (fun hb_7 => ?_) (fun hb_7 => ?_)))))))
  ·replace h := ite_T h hb_7
   refine T.skip (T.seq (T.block (T.seq (T.region (sm (.int .i64 s1) rfl (sa (.int .i64 s1) rfl (RS.nil (T.seq ?_))))))))
   obtain ⟨x4, hx4, h⟩ := bind_some h
   obtain ⟨x5, hx5, h⟩ := bind_some h
   refine T.region (sm (.func 69 [.ptr 0 0, .ptr 1 0]) rfl (sm (.sl (List.map encI p0)) rfl (sm (.int .i64 s1) rfl (sq (v_index_sl Ty.s57 (fun _ => rfl) rfl rfl hx4 (so (o_load_elt rfl (loadRow1 Ty.k3 (c := .int .i64 x4) rfl (so (o_callF (ac := [.int .i64 x4, .ptr 0 0, .ptr 1 0]) (as0 := [.int .i64 x4, .ptr 0 0, .ptr 1 0]) (aw0 := [.box [.ref 2], .box [.ref 3], .arr 4 1 (List.map encB p1), .arr 121 2 (List.map encEnds p2)]) (aw1 := [.box [.ref 2], .box [.ref 3], .arr 4 1 (List.map encB p1), .arr 121 2 (List.map encEnds p2)]) (aw2 := [.box [.ref 2], .box [.ref 3], .arr 4 1 (List.map encB p1), .arr 121 2 (List.map encEnds p2)]) (v := .bool x5) (v' := .bool x5) (n0 := 4) (n1 := 4) [0, 1, 2, 3] rfl rfl rfl rfl (by decide) (rw_box (cs := [.ref 2]) (ds := [.ref 2]) rfl ⟨rn_ref rfl, trivial⟩ (rw_box (cs := [.ref 3]) (ds := [.ref 3]) rfl ⟨rn_ref rfl, trivial⟩ (rw_arr rfl encB_p rfl (rw_arr rfl encEnds_p rfl (rw_nil))))) ⟨rn_int rfl, rn_ptr rfl, rn_ptr rfl, trivial⟩ (net_Order_1_x523f_c x4 p1 p2 x5 hx5) rfl (rm_pure (pure_bool _)) ⟨.inl ⟨0, _, by decide, rfl, rom_box (cs := [.ref 2]) (ds := [.ref 2]) ⟨rm_ref (by decide), trivial⟩⟩, .inl ⟨1, _, by decide, rfl, rom_box (cs := [.ref 3]) (ds := [.ref 3]) ⟨rm_ref (by decide), trivial⟩⟩, .inl ⟨2, _, by decide, rfl, rom_arr encB_p⟩, .inl ⟨3, _, by decide, rfl, rom_arr encEnds_p⟩, trivial⟩ (RS.nil (T.cond (b := x5) rfl (fun hb_8 => ?_) (fun hb_8 => ?_)))))))))))))
   ·replace h := ite_T h hb_8
    refine T.seq (T.region (sm (.int .i64 s1) rfl (sa (.int .i64 s1) rfl (RS.nil (T.rt ?_)))))
    obtain ⟨w_9, h, hw_9⟩ := map_inr h
    replace h := h.trans (congrArg some (hv_6 _ hw_9))
    refine res_tmpA (v := .int .i64 s1) rfl (res_done ?_)
    exact ret_norm (v := .int .i64 s1) (aw1 := [.box [.ref 2], .box [.ref 3], .arr 4 1 (List.map encB p1), .arr 121 2 (List.map encEnds p2)]) (.int .i64 r) [0, 1, 2, 3] rfl (by decide) (by decide) (rn_int (congrArg (fun r : Int => r) (Option.some.inj h)).symm) (rw_box (cs := [.ref 2]) (ds := [.ref 2]) rfl ⟨rn_ref rfl, trivial⟩ (rw_box (cs := [.ref 3]) (ds := [.ref 3]) rfl ⟨rn_ref rfl, trivial⟩ (rw_arr rfl encB_p rfl (rw_arr rfl encEnds_p rfl (rw_nil))))) ⟨rfl, rfl⟩
   replace h := ite_F h hb_8
   refine T.skip (T.region (sq (v_add rfl rfl (sm (.int .i64 (IntKind.i64.wrap (s1 + 1))) rfl (RS.nil ?_)))))
   exact ⟨IntKind.i64.wrap (s1 + 1), (Option.some.inj h).symm, Weak.mkN [] [0, 1, 2, 3] (by decide) (by decide) rfl ⟨rn_s rfl, rn_func ⟨rn_ptr rfl, rn_ptr rfl, trivial⟩, rn_int rfl, rn_int rfl, trivial⟩ (rw_box (cs := [.ref 2]) (ds := [.ref 2]) rfl ⟨rn_ref rfl, trivial⟩ (rw_box (cs := [.ref 3]) (ds := [.ref 3]) rfl ⟨rn_ref rfl, trivial⟩ (rw_ar rfl rfl (rw_ar rfl rfl (rw_nil)))))⟩
  replace h := ite_F h hb_7
  refine T.exit ?_
  obtain ⟨w_10, h, hw_10⟩ := map_inr h
  replace h := h.trans (congrArg some (hv_6 _ hw_10))
  refine T.seq (T.region (sa (.int .i64 (-1)) rfl (RS.nil (T.rt (res_tmpA (v := .int .i64 (-1)) rfl (res_done ?_))))))
  exact ret_norm (v := .int .i64 (-1)) (aw1 := [.box [.ref 2], .box [.ref 3], .arr 4 1 (List.map encB p1), .arr 121 2 (List.map encEnds p2)]) (.int .i64 r) [0, 1, 2, 3] rfl (by decide) (by decide) (rn_int (congrArg (fun r : Int => r) (Option.some.inj h)).symm) (rw_box (cs := [.ref 2]) (ds := [.ref 2]) rfl ⟨rn_ref rfl, trivial⟩ (rw_box (cs := [.ref 3]) (ds := [.ref 3]) rfl ⟨rn_ref rfl, trivial⟩ (rw_arr rfl encB_p rfl (rw_arr rfl encEnds_p rfl (rw_nil))))) ⟨rfl, rfl⟩
theorem slices_ContainsFunc_int_x5d6b_c (p0 : List Int) (p1 : List Bool) (p2 : List Ends) (r : Bool) (h : slices_ContainsFunc_int_x5d6b p0 p1 p2 = some r) : FnX Try.prog 68 [.sl (List.map encI p0), .func 69 [.ptr 0 0, .ptr 1 0]] [.box [.ref 2], .box [.ref 3], .arr 4 1 (List.map encB p1), .arr 121 2 (List.map encEnds p2)] (.bool r) [.box [.ref 2], .box [.ref 3], .arr 4 1 (List.map encB p1), .arr 121 2 (List.map encEnds p2)] := by
  unfold slices_ContainsFunc_int_x5d6b at h
  refine fn_of_T (N := 4) rfl Try.func68 rfl (by kernel_rfl) Try.ntmps68 rfl ?_
  show T _ _ _ _ (mkA 9 [(0, .sl (List.map encI p0)), (1, .func 69 [.ptr 0 0, .ptr 1 0])]) [.box [.ref 2], .box [.ref 3], .arr 4 1 (List.map encB p1), .arr 121 2 (List.map encEnds p2)]
  refine T.seq (T.region (sa (.bool false) rfl (RS.nil (T.seq ?_))))
  obtain ⟨x2, hx2, h⟩ := bind_some h
  refine T.region (sm (.sl (List.map encI p0)) rfl (sm (.func 69 [.ptr 0 0, .ptr 1 0]) rfl (so (o_callF (ac := [.sl (List.map encI p0), .func 69 [.ptr 0 0, .ptr 1 0]]) (as0 := [.sl (List.map encI p0), .func 69 [.ptr 0 0, .ptr 1 0]]) (aw0 := [.box [.ref 2], .box [.ref 3], .arr 4 1 (List.map encB p1), .arr 121 2 (List.map encEnds p2)]) (aw1 := [.box [.ref 2], .box [.ref 3], .arr 4 1 (List.map encB p1), .arr 121 2 (List.map encEnds p2)]) (aw2 := [.box [.ref 2], .box [.ref 3], .arr 4 1 (List.map encB p1), .arr 121 2 (List.map encEnds p2)]) (v := .int .i64 x2) (v' := .int .i64 x2) (n0 := 4) (n1 := 4) [0, 1, 2, 3] rfl rfl rfl rfl (by decide) (rw_box (cs := [.ref 2]) (ds := [.ref 2]) rfl ⟨rn_ref rfl, trivial⟩ (rw_box (cs := [.ref 3]) (ds := [.ref 3]) rfl ⟨rn_ref rfl, trivial⟩ (rw_arr rfl encB_p rfl (rw_arr rfl encEnds_p rfl (rw_nil))))) ⟨rn_s rfl, rn_func ⟨rn_ptr rfl, rn_ptr rfl, trivial⟩, trivial⟩ (slices_IndexFunc_int_x5d6b_c p0 p1 p2 x2 hx2) rfl (rm_pure (pure_int _ _)) ⟨.inl ⟨0, _, by decide, rfl, rom_box (cs := [.ref 2]) (ds := [.ref 2]) ⟨rm_ref (by decide), trivial⟩⟩, .inl ⟨1, _, by decide, rfl, rom_box (cs := [.ref 3]) (ds := [.ref 3]) ⟨rm_ref (by decide), trivial⟩⟩, .inl ⟨2, _, by decide, rfl, rom_arr encB_p⟩, .inl ⟨3, _, by decide, rfl, rom_arr encEnds_p⟩, trivial⟩ (sq (v_geq rfl rfl (sa (.bool (decide (x2 ≥ 0))) rfl (RS.nil (T.rt (res_tmpA (v := .bool (decide (x2 ≥ 0))) rfl (res_done ?_)))))))))))
  exact ret_norm (v := .bool (decide (x2 ≥ 0))) (aw1 := [.box [.ref 2], .box [.ref 3], .arr 4 1 (List.map encB p1), .arr 121 2 (List.map encEnds p2)]) (.bool r) [0, 1, 2, 3] rfl (by decide) (by decide) (rn_bool (congrArg (fun r : Bool => r) (Option.some.inj h)).symm) (rw_box (cs := [.ref 2]) (ds := [.ref 2]) rfl ⟨rn_ref rfl, trivial⟩ (rw_box (cs := [.ref 3]) (ds := [.ref 3]) rfl ⟨rn_ref rfl, trivial⟩ (rw_arr rfl encB_p rfl (rw_arr rfl encEnds_p rfl (rw_nil))))) ⟨rfl, rfl⟩
theorem net_Order_c (p0 : Net) (r : (List Int) × Int) (h : net_Order p0 = some r) : FnO Try.prog 28 [.agg [.sl (List.map encNode p0.Nodes), .int .i64 p0.Rings, .int .i64 p0.Room]] (.tup [.ref 0, .int .i64 r.2]) [.arr 3 1 (List.map encI r.1)] := by
  unfold net_Order at h
  refine fn_of_T (N := 0) rfl Try.func28 rfl (by kernel_rfl) Try.ntmps28 rfl ?_
  show T _ _ _ _ (mkA 61 [(0, .agg [.sl (List.map encNode p0.Nodes), .int .i64 p0.Rings, .int .i64 p0.Room])]) []
  refine T.seq (T.region (so (o_box (cs := [.sl (List.map encNode p0.Nodes), .int .i64 p0.Rings, .int .i64 p0.Room]) rfl rfl (aw' := [.box [.sl (List.map encNode p0.Nodes), .int .i64 p0.Rings, .int .i64 p0.Room]]) rfl (sa .nils rfl (sa (.int .i64 0) rfl (RS.nil (T.seq ?_)))))))
  obtain ⟨x2, hx2, h⟩ := bind_some h
  refine T.region (so (o_load_ptr rfl rfl (loadRowA Ty.k56 Ty.c56 rfl (cs := [.sl (List.map encNode p0.Nodes), .int .i64 p0.Rings, .int .i64 p0.Room]) rfl (so (o_call (as0 := [.agg [.sl (List.map encNode p0.Nodes), .int .i64 p0.Rings, .int .i64 p0.Room]]) (as1 := [.agg [.sl (List.map encNode p0.Nodes), .int .i64 p0.Rings, .int .i64 p0.Room]]) (caps := []) (aw1 := [.box [.sl (List.map encNode p0.Nodes), .int .i64 p0.Rings, .int .i64 p0.Room]]) rfl rfl rfl (k_own' (v := .tup [.ref 0, .int .i64 x2.2]) (obs := [.arr 121 2 (List.map encEnds x2.1)]) (v' := .tup [.ref 1, .int .i64 x2.2]) (aw' := [.box [.sl (List.map encNode p0.Nodes), .int .i64 p0.Rings, .int .i64 p0.Room], .arr 121 2 (List.map encEnds x2.1)]) (net_look_c p0 x2 hx2) (⟨pure_agg _ (pures_mem (⟨pure_map encNode_p _, pure_int _ _, pure_int _ _, trivial⟩)), trivial⟩) rfl (obs_cons (flatOb_map fun _ => rfl) obs_nil) rfl rfl (sm (.tup [.ref 1, .int .i64 x2.2]) rfl (sq (v_extract (v := .ref 1) rfl rfl (sq (v_extract (v := .int .i64 x2.2) rfl rfl (so (o_alloc Ty.z115 rfl (aw' := [.box [.sl (List.map encNode p0.Nodes), .int .i64 p0.Rings, .int .i64 p0.Room], .arr 121 2 (List.map encEnds x2.1), .box [.nils]]) rfl (so (o_store_ptr Ty.c115 Ty.i115 rfl (vs := [.ref 1]) rfl rfl rfl rfl (cs' := [.ref 1]) rfl (aw' := [.box [.sl (List.map encNode p0.Nodes), .int .i64 p0.Rings, .int .i64 p0.Room], .arr 121 2 (List.map encEnds x2.1), .box [.ref 1]]) rfl (sa (.int .i64 x2.2) rfl (RS.nil ?_)))))))))))))))))
  refine T.seq (T.seq (T.region (sm (.int .i64 x2.2) rfl (sq (v_neq rfl rfl (RS.nil (T.cond (b := x2.2 != 0) rfl (fun hb_1 => ?_) (fun hb_1 => ?_))))))))
  ·replace h := ite_T h hb_1
   refine T.seq (T.region (sm (.int .i64 x2.2) rfl (sa .nils rfl (sa (.int .i64 x2.2) rfl (RS.nil (T.rt (res_tmpA (v := .nils) rfl (res_tmpA (v := .int .i64 x2.2) rfl (res_done ?_)))))))))
   exact ret_own (.tup [.ref 0, .int .i64 r.2]) [(0, 3, 1)] [3] (by decide) (none_kept _) rfl (rn_tup ⟨rn_ref rfl, rn_int (congrArg (fun r : (List Int) × Int => r.2) (Option.some.inj h)).symm, trivial⟩) (rw_arr (en := encI) (ys := []) rfl encI_p (congrArg (fun r : (List Int) × Int => r.1) (Option.some.inj h)).symm (rw_nil)) ⟨rfl, rfl⟩
  replace h := ite_F h hb_1
  refine T.skip (T.seq (T.region (sa .nils rfl (RS.nil (T.seq ?_)))))
  obtain ⟨x4, hx4, h⟩ := bind_some h
  refine T.region (sq (v_fieldAddr_ptr Ty.f56_0 rfl (off' := 0) rfl (so (o_load_ptr rfl rfl (loadRow1 Ty.k54 (c := .sl (List.map encNode p0.Nodes)) rfl (sq (v_len_sl Ty.s54 rfl (so (o_mk (en := encB) (zr := false) Ty.s118 Ty.z4 rfl rfl hx4 rfl (aw' := [.box [.sl (List.map encNode p0.Nodes), .int .i64 p0.Rings, .int .i64 p0.Room], .arr 121 2 (List.map encEnds x2.1), .box [.ref 1], .arr 4 1 (List.map encB x4)]) rfl (so (o_alloc Ty.z118 rfl (aw' := [.box [.sl (List.map encNode p0.Nodes), .int .i64 p0.Rings, .int .i64 p0.Room], .arr 121 2 (List.map encEnds x2.1), .box [.ref 1], .arr 4 1 (List.map encB x4), .box [.nils]]) rfl (so (o_store_ptr Ty.c118 Ty.i118 rfl (vs := [.ref 3]) rfl rfl rfl rfl (cs' := [.ref 3]) rfl (aw' := [.box [.sl (List.map encNode p0.Nodes), .int .i64 p0.Rings, .int .i64 p0.Room], .arr 121 2 (List.map encEnds x2.1), .box [.ref 1], .arr 4 1 (List.map encB x4), .box [.ref 3]]) rfl (RS.nil (T.seq (T.block ?_))))))))))))))))
  refine T.iter (fun ss_72 : (List Int) × (List Bool) => mkA 61 [(1, .ptr 0 0), (4, .ptr 1 0), (6, .ref 2), (7, .ptr 3 0)]) (fun ss_72 => [.box [.sl (List.map encNode p0.Nodes), .int .i64 p0.Rings, .int .i64 p0.Room], .box [.ref 4], .arr 3 1 (List.map encI ss_72.1), .box [.ref 5], .arr 121 2 (List.map encEnds x2.1), .arr 4 1 (List.map encB ss_72.2)]) h (Weak.mkN [(6, 3, 1)] [0, 2, 5, 4, 1, 3] (by decide) (none_kept _) rfl ⟨rn_ptr rfl, rn_ptr rfl, rn_ref rfl, rn_ptr rfl, trivial⟩ (rw_bs [.sl (List.map encNode p0.Nodes), .int .i64 p0.Rings, .int .i64 p0.Room] rfl (rw_box (cs := [.ref 4]) (ds := [.ref 1]) rfl ⟨rn_ref rfl, trivial⟩ (rw_arr (en := encI) (ys := []) rfl encI_p rfl (rw_box (cs := [.ref 5]) (ds := [.ref 3]) rfl ⟨rn_ref rfl, trivial⟩ (rw_ar rfl rfl (rw_ar rfl rfl (rw_nil)))))))) (fun ss_72 v_73 h hv_73 => ?_)
  obtain ⟨s5, s6⟩ := ss_72
  replace h : net_Order_l3 p0 x2 s5 s6 = some v_73 := h
  try dsimp only
  unfold net_Order_l3 at h
  refine T.seq (T.seq (T.region (sm (.ref 2) rfl (sq (v_len_ref (en := encI) Ty.s57 rfl rfl (sq (v_fieldAddr_ptr Ty.f56_0 rfl (off' := 0) rfl (so (o_load_ptr rfl rfl (loadRow1 Ty.k54 (c := .sl (List.map encNode p0.Nodes)) rfl (sq (v_len_sl Ty.s54 rfl (sq (v_lss rfl rfl (RS.nil ?_)))))))))))))))
  refine T.cond (b := decide (((s5).length : Int) < ((p0.Nodes).length : Int))) rfl (fun hb_74 => ?_) (fun hb_74 => ?_)
  ·replace h := ite_T h hb_74
   refine T.skip (T.block (T.seq (T.region (sa (.int .i64 (-1)) rfl (RS.nil (T.join (Z := Int) (fun zz_91 => mkA 61 [(1, .ptr 0 0), (4, .ptr 1 0), (6, .ref 2), (7, .ptr 3 0), (8, .int .i64 zz_91)]) (fun zz_91 => [.box [.sl (List.map encNode p0.Nodes), .int .i64 p0.Rings, .int .i64 p0.Room], .box [.ref 4], .arr 3 1 (List.map encI s5), .box [.ref 5], .arr 121 2 (List.map encEnds x2.1), .arr 4 1 (List.map encB s6)]) (fun zz_91 => net_Order_k1 s5 s6 zz_91 = some v_73) (fun zz_91 h => ?_) (fun hK1 => ?_)))))))
   ·revert h; revert zz_91; intro z14 h
    replace h : net_Order_k1 s5 s6 z14 = some v_73 := h
    try dsimp only
    unfold net_Order_k1 at h
    refine T.seq (T.seq (T.region (sm (.int .i64 z14) rfl (sq (v_lss rfl rfl (RS.nil (T.cond (b := decide (z14 < 0)) rfl (fun hb_92 => ?_) (fun hb_92 => ?_))))))))
    ·replace h := ite_T h hb_92
     refine T.seq (T.region (sa .nils rfl (sa (.int .i64 7) rfl (RS.nil (T.rt ?_)))))
     obtain ⟨w_93, h, hw_93⟩ := map_inr h
     replace h := h.trans (congrArg some (hv_73 _ hw_93))
     refine res_tmpA (v := .nils) rfl (res_tmpA (v := .int .i64 7) rfl (res_done ?_))
     exact ret_own (.tup [.ref 0, .int .i64 r.2]) [(0, 3, 1)] [6] (by decide) (none_kept _) rfl (rn_tup ⟨rn_ref rfl, rn_int (congrArg (fun r : (List Int) × Int => r.2) (Option.some.inj h)).symm, trivial⟩) (rw_arr (en := encI) (ys := []) rfl encI_p (congrArg (fun r : (List Int) × Int => r.1) (Option.some.inj h)).symm (rw_nil)) ⟨rfl, rfl⟩
    replace h := ite_F h hb_92
    refine T.skip (T.seq ?_)
    obtain ⟨x17, hx17, h⟩ := bind_some h
    obtain ⟨x18, hx18, h⟩ := bind_some h
    refine T.region (so (o_load_ptr rfl rfl (loadRow1 Ty.k118 (c := .ref 5) rfl (sm (.int .i64 z14) rfl (sq (v_index_ref' (en := encB) Ty.s118 rfl rfl rfl hx17 (so (o_store_aptr' (en := encB) (a := x18) (a' := true) Ty.c4 Ty.i4 rfl (vs := [.bool true]) rfl rfl rfl hx18 rfl rfl (aw' := [.box [.sl (List.map encNode p0.Nodes), .int .i64 p0.Rings, .int .i64 p0.Room], .box [.ref 4], .arr 3 1 (List.map encI s5), .box [.ref 5], .arr 121 2 (List.map encEnds x2.1), .arr 4 1 (List.map encB (List.set s6 x17 true))]) rfl (RS.nil ?_)))))))))
    obtain ⟨x19, hx19, h⟩ := bind_some h
    refine T.region (sm (.ref 2) rfl (sm (.int .i64 z14) rfl (so (o_buildSlice (rows := List.map encI [z14]) (vs := [.int .i64 z14]) Ty.s57 Ty.z3 rfl rfl rfl rfl rfl (aw' := [.box [.sl (List.map encNode p0.Nodes), .int .i64 p0.Rings, .int .i64 p0.Room], .box [.ref 4], .arr 3 1 (List.map encI s5), .box [.ref 5], .arr 121 2 (List.map encEnds x2.1), .arr 4 1 (List.map encB (List.set s6 x17 true)), .arr 3 1 (List.map encI [z14])]) rfl (so (o_app_ref (en := encI) (xs := s5) (ys := ([z14] : List Int)) Ty.s57 (fun _ => rfl) rfl rfl rfl hx19 rfl (aw' := [.box [.sl (List.map encNode p0.Nodes), .int .i64 p0.Rings, .int .i64 p0.Room], .box [.ref 4], .dead, .box [.ref 5], .arr 121 2 (List.map encEnds x2.1), .arr 4 1 (List.map encB (List.set s6 x17 true)), .dead, .arr 3 1 (List.map encI x19)]) rfl (sa (.ref 7) rfl (RS.nil ?_))))))))
    exact ⟨(x19, (List.set s6 x17 true)), (Option.some.inj h).symm, Weak.mkN [] [0, 1, 7, 3, 4, 5] (by decide) (none_kept _) rfl ⟨rn_ptr rfl, rn_ptr rfl, rn_ref rfl, rn_ptr rfl, trivial⟩ (rw_bs [.sl (List.map encNode p0.Nodes), .int .i64 p0.Rings, .int .i64 p0.Room] rfl (rw_box (cs := [.ref 4]) (ds := [.ref 4]) rfl ⟨rn_ref rfl, trivial⟩ (rw_ar rfl rfl (rw_box (cs := [.ref 5]) (ds := [.ref 5]) rfl ⟨rn_ref rfl, trivial⟩ (rw_ar rfl rfl (rw_ar rfl rfl (rw_nil)))))))⟩
   refine T.seq (T.region (sq (v_fieldAddr_ptr Ty.f56_0 rfl (off' := 0) rfl (so (o_load_ptr rfl rfl (loadRow1 Ty.k54 (c := .sl (List.map encNode p0.Nodes)) rfl (sq (v_len_sl Ty.s54 rfl (sm (.int .i64 0) rfl (RS.nil (T.block (T.iter (fun ss_102 : Int => mkA 61 [(1, .ptr 0 0), (4, .ptr 1 0), (6, .ref 2), (7, .ptr 3 0), (8, .int .i64 (-1)), (30, .sl (List.map encNode p0.Nodes)), (31, .int .i64 ((p0.Nodes).length : Int)), (32, .int .i64 ss_102)]) (fun ss_102 => [.box [.sl (List.map encNode p0.Nodes), .int .i64 p0.Rings, .int .i64 p0.Room], .box [.ref 4], .arr 3 1 (List.map encI s5), .box [.ref 5], .arr 121 2 (List.map encEnds x2.1), .arr 4 1 (List.map encB s6)]) h (Weak.mkN [] [0, 1, 2, 3, 4, 5] (by decide) (none_kept _) rfl ⟨rn_ptr rfl, rn_ptr rfl, rn_ref rfl, rn_ptr rfl, rn_int rfl, rn_s rfl, rn_int rfl, rn_int rfl, trivial⟩ (rw_bs [.sl (List.map encNode p0.Nodes), .int .i64 p0.Rings, .int .i64 p0.Room] rfl (rw_box (cs := [.ref 4]) (ds := [.ref 4]) rfl ⟨rn_ref rfl, trivial⟩ (rw_ar rfl rfl (rw_box (cs := [.ref 5]) (ds := [.ref 5]) rfl ⟨rn_ref rfl, trivial⟩ (rw_ar rfl rfl (rw_ar rfl rfl (rw_nil)))))))) (fun ss_102 v_103 h hv_103 => ?_)))))))))))))
   revert hv_103 h; revert ss_102; intro s7 h hv_103
   replace h : net_Order_l2 p0 x2 s5 s6 s7 = some v_103 := h
   try dsimp only
   unfold net_Order_l2 at h
   refine T.seq (T.region (sq (v_lss rfl rfl (RS.nil (T.seq (T.cond (b := decide (s7 < ((p0.Nodes).length : Int))) rfl (fun hb_104 => ?_) (fun hb_104 => ?_)))))))
   ·replace h := ite_T h hb_104
    refine T.skip (T.seq (T.block (T.seq ?_)))
    obtain ⟨x9, hx9, h⟩ := bind_some h
    refine T.region (sm (.int .i64 s7) rfl (sq (v_index_sl Ty.s54 (fun _ => rfl) rfl rfl hx9 (so (o_load_elt rfl (loadRowA Ty.k67 Ty.c67 rfl (cs := [.int .i64 x9.Kind, .int .i64 x9.A, .sl (List.map encI x9.In), .sl (List.map encI x9.Out)]) rfl (so (o_alloc Ty.z67 rfl (aw' := [.box [.sl (List.map encNode p0.Nodes), .int .i64 p0.Rings, .int .i64 p0.Room], .box [.ref 4], .arr 3 1 (List.map encI s5), .box [.ref 5], .arr 121 2 (List.map encEnds x2.1), .arr 4 1 (List.map encB s6), .box [.int .i64 0, .int .i64 0, .nils, .nils]]) rfl (sa (.int .i64 s7) rfl (so (o_store_ptr Ty.c67 Ty.i67 rfl (vs := [.int .i64 x9.Kind, .int .i64 x9.A, .sl (List.map encI x9.In), .sl (List.map encI x9.Out)]) rfl rfl rfl rfl (cs' := [.int .i64 x9.Kind, .int .i64 x9.A, .sl (List.map encI x9.In), .sl (List.map encI x9.Out)]) rfl (aw' := [.box [.sl (List.map encNode p0.Nodes), .int .i64 p0.Rings, .int .i64 p0.Room], .box [.ref 4], .arr 3 1 (List.map encI s5), .box [.ref 5], .arr 121 2 (List.map encEnds x2.1), .arr 4 1 (List.map encB s6), .box [.int .i64 x9.Kind, .int .i64 x9.A, .sl (List.map encI x9.In), .sl (List.map encI x9.Out)]]) rfl (RS.nil ?_))))))))))))
    obtain ⟨x10, hx10, h⟩ := bind_some h
    obtain ⟨x11, hx11, h⟩ := bind_some h
    obtain ⟨zt_106, hz, h⟩ := bind_some h
    revert hz h; revert zt_106; intro c13 hz h
    refine T.join (Z := Unit) (fun _ => mkA 61 [(1, .ptr 0 0), (4, .ptr 1 0), (6, .ref 2), (7, .ptr 3 0), (8, .int .i64 (-1)), (9, .int .i64 s7), (30, .sl (List.map encNode p0.Nodes)), (31, .int .i64 ((p0.Nodes).length : Int)), (32, .int .i64 s7), (48, .bool c13)]) (fun _ => [.box [.sl (List.map encNode p0.Nodes), .int .i64 p0.Rings, .int .i64 p0.Room], .box [.ref 4], .arr 3 1 (List.map encI s5), .box [.ref 5], .arr 121 2 (List.map encEnds x2.1), .arr 4 1 (List.map encB s6)]) (fun _ => True) (fun _ _ => ?_) (fun hK => ?_)
    ·refine T.cond (b := c13) rfl (fun hb_107 => ?_) (fun hb_107 => ?_)
     ·replace h := ite_T h hb_107
      refine T.seq (T.region (sm (.int .i64 s7) rfl (sa (.int .i64 s7) rfl (RS.nil (T.exit ?_)))))
      obtain ⟨w_108, h, hw_108⟩ := map_inr h
      replace h := h.trans (congrArg some (hv_103 _ hw_108))
      exact T.weakR (hK1 s7 h) (Weak.mkN [] [0, 1, 2, 3, 4, 5] (by decide) (none_kept _) rfl ⟨rn_ptr rfl, rn_ptr rfl, rn_ref rfl, rn_ptr rfl, rn_int rfl, trivial⟩ (rw_bs [.sl (List.map encNode p0.Nodes), .int .i64 p0.Rings, .int .i64 p0.Room] rfl (rw_box (cs := [.ref 4]) (ds := [.ref 4]) rfl ⟨rn_ref rfl, trivial⟩ (rw_ar rfl rfl (rw_box (cs := [.ref 5]) (ds := [.ref 5]) rfl ⟨rn_ref rfl, trivial⟩ (rw_ar rfl rfl (rw_ar rfl rfl (rw_nil))))))))
     replace h := ite_F h hb_107
     refine T.skip (T.region (sq (v_add rfl rfl (sm (.int .i64 (IntKind.i64.wrap (s7 + 1))) rfl (RS.nil ?_)))))
     exact ⟨IntKind.i64.wrap (s7 + 1), (Option.some.inj h).symm, Weak.mkN [] [0, 1, 2, 3, 4, 5] (by decide) (none_kept _) rfl ⟨rn_ptr rfl, rn_ptr rfl, rn_ref rfl, rn_ptr rfl, rn_int rfl, rn_s rfl, rn_int rfl, rn_int rfl, trivial⟩ (rw_bs [.sl (List.map encNode p0.Nodes), .int .i64 p0.Rings, .int .i64 p0.Room] rfl (rw_box (cs := [.ref 4]) (ds := [.ref 4]) rfl ⟨rn_ref rfl, trivial⟩ (rw_ar rfl rfl (rw_box (cs := [.ref 5]) (ds := [.ref 5]) rfl ⟨rn_ref rfl, trivial⟩ (rw_ar rfl rfl (rw_ar rfl rfl (rw_nil)))))))⟩
    refine T.region (so (o_load_ptr rfl rfl (loadRow1 Ty.k118 (c := .ref 5) rfl (sm (.int .i64 s7) rfl (sq (v_index_ref' (en := encB) Ty.s118 rfl rfl rfl hx10 (so (o_load_aptr' (en := encB) (a := x11) rfl rfl hx11 (loadRow1 Ty.k4 (c := .bool x11) rfl (sq (v_not rfl (sm (.bool (!x11)) rfl ?_))))))))))))
    rcases bool_cases (!x11) with hb_105 | hb_105
    ·replace hz := ite_T hz hb_105
     obtain ⟨x12, hx12, hz⟩ := bind_some hz
     refine yq hb_105 (v_fieldAddr_ptr Ty.f67_2 rfl (off' := 2) rfl (yo hb_105 (o_load_ptr rfl rfl (loadRow1 Ty.k57 (c := .sl (List.map encI x9.In)) rfl (yq hb_105 (v_makeFunc (cs := [.ptr 3 0, .ptr 1 0]) rfl (yo hb_105 (o_callF (ac := [.sl (List.map encI x9.In), .func 69 [.ptr 3 0, .ptr 1 0]]) (as0 := [.sl (List.map encI x9.In), .func 69 [.ptr 0 0, .ptr 1 0]]) (aw0 := [.box [.ref 2], .box [.ref 3], .arr 4 1 (List.map encB s6), .arr 121 2 (List.map encEnds x2.1)]) (aw1 := [.box [.ref 2], .box [.ref 3], .arr 4 1 (List.map encB s6), .arr 121 2 (List.map encEnds x2.1)]) (aw2 := [.box [.sl (List.map encNode p0.Nodes), .int .i64 p0.Rings, .int .i64 p0.Room], .box [.ref 4], .arr 3 1 (List.map encI s5), .box [.ref 5], .arr 121 2 (List.map encEnds x2.1), .arr 4 1 (List.map encB s6), .box [.int .i64 x9.Kind, .int .i64 x9.A, .sl (List.map encI x9.In), .sl (List.map encI x9.Out)]]) (v := .bool x12) (v' := .bool x12) (n0 := 7) (n1 := 4) [3, 1, 5, 4] rfl rfl rfl rfl (by decide) (rw_box (cs := [.ref 2]) (ds := [.ref 5]) rfl ⟨rn_ref rfl, trivial⟩ (rw_box (cs := [.ref 3]) (ds := [.ref 4]) rfl ⟨rn_ref rfl, trivial⟩ (rw_arr rfl encB_p rfl (rw_arr rfl encEnds_p rfl (rw_nil))))) ⟨rn_s rfl, rn_func ⟨rn_ptr rfl, rn_ptr rfl, trivial⟩, trivial⟩ (slices_ContainsFunc_int_x5d6b_c x9.In s6 x2.1 x12 hx12) rfl (rm_pure (pure_bool _)) ⟨.inr ⟨rfl, rfl⟩, .inl ⟨1, _, by decide, rfl, rom_box (cs := [.ref 4]) (ds := [.ref 3]) ⟨rm_ref (by decide), trivial⟩⟩, .inr ⟨rfl, rfl⟩, .inl ⟨0, _, by decide, rfl, rom_box (cs := [.ref 5]) (ds := [.ref 2]) ⟨rm_ref (by decide), trivial⟩⟩, .inl ⟨3, _, by decide, rfl, rom_arr encEnds_p⟩, .inl ⟨2, _, by decide, rfl, rom_arr encB_p⟩, .inr ⟨rfl, rfl⟩, trivial⟩ (yq hb_105 (v_not rfl (sq (v_pickT (v := .bool (!x12)) rfl hb_105 rfl (RS.nil ?_)))))))))))))
     exact T.weakR (hK () trivial) (Weak.mkN [] [0, 1, 2, 3, 4, 5] (by decide) (none_kept _) rfl ⟨rn_ptr rfl, rn_ptr rfl, rn_ref rfl, rn_ptr rfl, rn_int rfl, rn_int rfl, rn_s rfl, rn_int rfl, rn_int rfl, rn_bool ((congrArg (fun p => p) (Option.some.inj hz)).symm), trivial⟩ (rw_bs [.sl (List.map encNode p0.Nodes), .int .i64 p0.Rings, .int .i64 p0.Room] rfl (rw_box (cs := [.ref 4]) (ds := [.ref 4]) rfl ⟨rn_ref rfl, trivial⟩ (rw_ar rfl rfl (rw_box (cs := [.ref 5]) (ds := [.ref 5]) rfl ⟨rn_ref rfl, trivial⟩ (rw_ar rfl rfl (rw_ar rfl rfl (rw_nil))))))))
    replace hz := ite_F hz hb_105
    refine sn hb_105 (sn hb_105 (sn hb_105 (sn hb_105 (sn hb_105 (sq (v_pickF (v := .bool false) rfl hb_105 rfl (RS.nil ?_)))))))
    exact T.weakR (hK () trivial) (Weak.mkN [] [0, 1, 2, 3, 4, 5] (by decide) (none_kept _) rfl ⟨rn_ptr rfl, rn_ptr rfl, rn_ref rfl, rn_ptr rfl, rn_int rfl, rn_int rfl, rn_s rfl, rn_int rfl, rn_int rfl, rn_bool ((congrArg (fun p => p) (Option.some.inj hz)).symm), trivial⟩ (rw_bs [.sl (List.map encNode p0.Nodes), .int .i64 p0.Rings, .int .i64 p0.Room] rfl (rw_box (cs := [.ref 4]) (ds := [.ref 4]) rfl ⟨rn_ref rfl, trivial⟩ (rw_ar rfl rfl (rw_box (cs := [.ref 5]) (ds := [.ref 5]) rfl ⟨rn_ref rfl, trivial⟩ (rw_ar rfl rfl (rw_ar rfl rfl (rw_nil))))))))
   replace h := ite_F h hb_104
   refine T.exit ?_
   obtain ⟨w_109, h, hw_109⟩ := map_inr h
   replace h := h.trans (congrArg some (hv_103 _ hw_109))
   exact T.weakR (hK1 (-1) h) (Weak.mkN [] [0, 1, 2, 3, 4, 5] (by decide) (none_kept _) rfl ⟨rn_ptr rfl, rn_ptr rfl, rn_ref rfl, rn_ptr rfl, rn_int rfl, trivial⟩ (rw_bs [.sl (List.map encNode p0.Nodes), .int .i64 p0.Rings, .int .i64 p0.Room] rfl (rw_box (cs := [.ref 4]) (ds := [.ref 4]) rfl ⟨rn_ref rfl, trivial⟩ (rw_ar rfl rfl (rw_box (cs := [.ref 5]) (ds := [.ref 5]) rfl ⟨rn_ref rfl, trivial⟩ (rw_ar rfl rfl (rw_ar rfl rfl (rw_nil))))))))
  replace h := ite_F h hb_74
  refine T.exit ?_
  obtain ⟨w_110, h, hw_110⟩ := map_inr h
  replace h := h.trans (congrArg some (hv_73 _ hw_110))
  refine T.seq (T.region (sm (.ref 2) rfl (sa (.ref 2) rfl (sa (.int .i64 0) rfl (RS.nil (T.rt (res_tmpA (v := .ref 2) rfl (res_tmpA (v := .int .i64 0) rfl (res_done ?_)))))))))
  exact ret_own (.tup [.ref 0, .int .i64 r.2]) [] [2] (by decide) (none_kept _) rfl (rn_tup ⟨rn_ref rfl, rn_int (congrArg (fun r : (List Int) × Int => r.2) (Option.some.inj h)).symm, trivial⟩) (rw_arr rfl encI_p (congrArg (fun r : (List Int) × Int => r.1) (Option.some.inj h)).symm (rw_nil)) ⟨rfl, rfl⟩
theorem crosslaw_meeting_c (r : Net) (h : crosslaw_meeting = some r) : Fn Try.prog 70 [] (.agg [.sl (List.map encNode r.Nodes), .int .i64 r.Rings, .int .i64 r.Room]) := by
  unfold crosslaw_meeting at h
  refine fn_of_T (N := 0) rfl Try.func70 rfl (by kernel_rfl) Try.ntmps70 rfl ?_
  show T _ _ _ _ (mkA 12 []) []
  refine T.seq (T.region (so (o_alloc Ty.z56 rfl (aw' := [.box [.nils, .int .i64 0, .int .i64 0]]) rfl (RS.nil (T.seq (T.region (so (o_buildSlice (rows := List.map encI [0]) (vs := [.int .i64 0]) Ty.s57 Ty.z3 rfl rfl rfl rfl rfl (aw' := [.box [.nils, .int .i64 0, .int .i64 0], .arr 3 1 (List.map encI [0])]) rfl (sq (v_build (cs := [.int .i64 1, .int .i64 0, .nils, .ref 1]) Ty.z67 Ty.p67 rfl (so (o_buildSlice (rows := List.map encI [1]) (vs := [.int .i64 1]) Ty.s57 Ty.z3 rfl rfl rfl rfl rfl (aw' := [.box [.nils, .int .i64 0, .int .i64 0], .arr 3 1 (List.map encI [0]), .arr 3 1 (List.map encI [1])]) rfl (sq (v_build (cs := [.int .i64 1, .int .i64 1, .nils, .ref 2]) Ty.z67 Ty.p67 rfl ?_))))))))))))))
  refine so (o_buildSlice (rows := List.map encI [0, 1]) (vs := [.int .i64 0, .int .i64 1]) Ty.s57 Ty.z3 rfl rfl rfl rfl rfl (aw' := [.box [.nils, .int .i64 0, .int .i64 0], .arr 3 1 (List.map encI [0]), .arr 3 1 (List.map encI [1]), .arr 3 1 (List.map encI [0, 1])]) rfl (so (o_buildSlice (rows := List.map encI [2]) (vs := [.int .i64 2]) Ty.s57 Ty.z3 rfl rfl rfl rfl rfl (aw' := [.box [.nils, .int .i64 0, .int .i64 0], .arr 3 1 (List.map encI [0]), .arr 3 1 (List.map encI [1]), .arr 3 1 (List.map encI [0, 1]), .arr 3 1 (List.map encI [2])]) rfl (sq (v_build (cs := [.int .i64 6, .int .i64 0, .ref 3, .ref 4]) Ty.z67 Ty.p67 rfl (so (o_buildSlice (rows := List.map encI [2]) (vs := [.int .i64 2]) Ty.s57 Ty.z3 rfl rfl rfl rfl rfl (aw' := [.box [.nils, .int .i64 0, .int .i64 0], .arr 3 1 (List.map encI [0]), .arr 3 1 (List.map encI [1]), .arr 3 1 (List.map encI [0, 1]), .arr 3 1 (List.map encI [2]), .arr 3 1 (List.map encI [2])]) rfl (sq (v_build (cs := [.int .i64 8, .int .i64 0, .ref 5, .nils]) Ty.z67 Ty.p67 rfl (RS.fz 1 rfl rfl (aw' := [.box [.nils, .int .i64 0, .int .i64 0], .dead, .arr 3 1 (List.map encI [1]), .arr 3 1 (List.map encI [0, 1]), .arr 3 1 (List.map encI [2]), .arr 3 1 (List.map encI [2])]) rfl (RS.fz 2 rfl rfl (aw' := [.box [.nils, .int .i64 0, .int .i64 0], .dead, .dead, .arr 3 1 (List.map encI [0, 1]), .arr 3 1 (List.map encI [2]), .arr 3 1 (List.map encI [2])]) rfl (RS.fz 3 rfl rfl (aw' := [.box [.nils, .int .i64 0, .int .i64 0], .dead, .dead, .dead, .arr 3 1 (List.map encI [2]), .arr 3 1 (List.map encI [2])]) rfl (RS.fz 4 rfl rfl (aw' := [.box [.nils, .int .i64 0, .int .i64 0], .dead, .dead, .dead, .dead, .arr 3 1 (List.map encI [2])]) rfl (RS.fz 5 rfl rfl (aw' := [.box [.nils, .int .i64 0, .int .i64 0], .dead, .dead, .dead, .dead, .dead]) rfl ?_))))))))))))))
  refine so (o_buildSliceN (rows := List.map encNode [(⟨1, 0, [], [0]⟩ : Node), (⟨1, 1, [], [1]⟩ : Node), (⟨6, 0, [0, 1], [2]⟩ : Node), (⟨8, 0, [2], []⟩ : Node)]) (vs := [.agg [.int .i64 1, .int .i64 0, .nils, .sl (List.map encI [0])], .agg [.int .i64 1, .int .i64 1, .nils, .sl (List.map encI [1])], .agg [.int .i64 6, .int .i64 0, .sl (List.map encI [0, 1]), .sl (List.map encI [2])], .agg [.int .i64 8, .int .i64 0, .sl (List.map encI [2]), .nils]]) (vs2 := [.agg [.int .i64 1, .int .i64 0, .sl (List.map encI []), .sl (List.map encI [0])], .agg [.int .i64 1, .int .i64 1, .sl (List.map encI []), .sl (List.map encI [1])], .agg [.int .i64 6, .int .i64 0, .sl (List.map encI [0, 1]), .sl (List.map encI [2])], .agg [.int .i64 8, .int .i64 0, .sl (List.map encI [2]), .sl (List.map encI [])]]) Ty.s54 Ty.z67 rfl rfl rfl rfl rfl (aw' := [.box [.nils, .int .i64 0, .int .i64 0], .dead, .dead, .dead, .dead, .dead, .arr 67 4 (List.map encNode [(⟨1, 0, [], [0]⟩ : Node), (⟨1, 1, [], [1]⟩ : Node), (⟨6, 0, [0, 1], [2]⟩ : Node), (⟨8, 0, [2], []⟩ : Node)])]) rfl (sq (v_build (cs := [.ref 6, .int .i64 3, .int .i64 1]) Ty.z56 Ty.p56 rfl (so (o_store_ptr Ty.c56 Ty.i56 rfl (vs := [.ref 6, .int .i64 3, .int .i64 1]) rfl rfl rfl rfl (cs' := [.ref 6, .int .i64 3, .int .i64 1]) rfl (aw' := [.box [.ref 6, .int .i64 3, .int .i64 1], .dead, .dead, .dead, .dead, .dead, .arr 67 4 (List.map encNode [(⟨1, 0, [], [0]⟩ : Node), (⟨1, 1, [], [1]⟩ : Node), (⟨6, 0, [0, 1], [2]⟩ : Node), (⟨8, 0, [2], []⟩ : Node)])]) rfl (RS.nil (T.rt (res_cellA (id := 0) (off := 0) (cs := [.ref 6, .int .i64 3, .int .i64 1]) (v := .agg [.ref 6, .int .i64 3, .int .i64 1]) ?_ ?_ ?_ ?_))))))))
  · rfl
  · rfl
  · exact fun K h => (loadRowA (row := [.ref 6, .int .i64 3, .int .i64 1]) (off := 0) Ty.k56 Ty.c56 rfl (cs := [.ref 6, .int .i64 3, .int .i64 1]) rfl h)
  refine res_done ?_
  exact ret_data (v := .agg [.sl (List.map encNode [(⟨1, 0, [], [0]⟩ : Node), (⟨1, 1, [], [1]⟩ : Node), (⟨6, 0, [0, 1], [2]⟩ : Node), (⟨8, 0, [2], []⟩ : Node)]), .int .i64 3, .int .i64 1]) rfl (pure_agg _ (pures_mem (⟨pure_map encNode_p _, pure_int _ _, pure_int _ _, trivial⟩))) ⟨congrArg (fun r : Net => (.agg [.sl (List.map encNode r.Nodes), .int .i64 r.Rings, .int .i64 r.Room] : AV)) (Option.some.inj h), rfl⟩
theorem net_Check_c (p0 : Net) (r : Int) (h : net_Check p0 = some r) : Fn Try.prog 33 [.agg [.sl (List.map encNode p0.Nodes), .int .i64 p0.Rings, .int .i64 p0.Room]] (.int .i64 r) := by
  unfold net_Check at h
  refine fn_of_T (N := 0) rfl Try.func33 rfl (by kernel_rfl) Try.ntmps33 rfl ?_
  show T _ _ _ _ (mkA 11 [(0, .agg [.sl (List.map encNode p0.Nodes), .int .i64 p0.Rings, .int .i64 p0.Room])]) []
  refine T.seq (T.region (so (o_box (cs := [.sl (List.map encNode p0.Nodes), .int .i64 p0.Rings, .int .i64 p0.Room]) rfl rfl (aw' := [.box [.sl (List.map encNode p0.Nodes), .int .i64 p0.Rings, .int .i64 p0.Room]]) rfl (sa (.int .i64 0) rfl (RS.nil (T.seq ?_))))))
  obtain ⟨x2, hx2, h⟩ := bind_some h
  refine T.region (so (o_load_ptr rfl rfl (loadRowA Ty.k56 Ty.c56 rfl (cs := [.sl (List.map encNode p0.Nodes), .int .i64 p0.Rings, .int .i64 p0.Room]) rfl (so (o_call (as0 := [.agg [.sl (List.map encNode p0.Nodes), .int .i64 p0.Rings, .int .i64 p0.Room]]) (as1 := [.agg [.sl (List.map encNode p0.Nodes), .int .i64 p0.Rings, .int .i64 p0.Room]]) (caps := []) (aw1 := [.box [.sl (List.map encNode p0.Nodes), .int .i64 p0.Rings, .int .i64 p0.Room]]) rfl rfl rfl (k_own' (v := .tup [.ref 0, .int .i64 x2.2]) (obs := [.arr 3 1 (List.map encI x2.1)]) (v' := .tup [.ref 1, .int .i64 x2.2]) (aw' := [.box [.sl (List.map encNode p0.Nodes), .int .i64 p0.Rings, .int .i64 p0.Room], .arr 3 1 (List.map encI x2.1)]) (net_Order_c p0 x2 hx2) (⟨pure_agg _ (pures_mem (⟨pure_map encNode_p _, pure_int _ _, pure_int _ _, trivial⟩)), trivial⟩) rfl (obs_cons (flatOb_map fun _ => rfl) obs_nil) rfl rfl (sm (.tup [.ref 1, .int .i64 x2.2]) rfl (sq (v_extract (v := .ref 1) rfl rfl (sq (v_extract (v := .int .i64 x2.2) rfl rfl (sa (.ref 1) rfl (sa (.int .i64 x2.2) rfl (RS.nil (T.seq ?_)))))))))))))))
  refine T.region (sm (.int .i64 x2.2) rfl (sa (.int .i64 x2.2) rfl (RS.nil (T.rt (res_tmpA (v := .int .i64 x2.2) rfl (res_done ?_))))))
  exact ret_data (v := .int .i64 x2.2) rfl (pure_int _ _) ⟨congrArg (fun r : Int => (.int .i64 r : AV)) (Option.some.inj h), rfl⟩
theorem net_Merges_c (p0 : Net) (r : (List Int) × Int) (h : net_Merges p0 = some r) : FnO Try.prog 31 [.agg [.sl (List.map encNode p0.Nodes), .int .i64 p0.Rings, .int .i64 p0.Room]] (.tup [.ref 0, .int .i64 r.2]) [.arr 3 1 (List.map encI r.1)] := by
  unfold net_Merges at h
  refine fn_of_T (N := 0) rfl Try.func31 rfl (by kernel_rfl) Try.ntmps31 rfl ?_
  show T _ _ _ _ (mkA 30 [(0, .agg [.sl (List.map encNode p0.Nodes), .int .i64 p0.Rings, .int .i64 p0.Room])]) []
  refine T.seq (T.region (so (o_box (cs := [.sl (List.map encNode p0.Nodes), .int .i64 p0.Rings, .int .i64 p0.Room]) rfl rfl (aw' := [.box [.sl (List.map encNode p0.Nodes), .int .i64 p0.Rings, .int .i64 p0.Room]]) rfl (sa .nils rfl (sa (.int .i64 0) rfl (RS.nil (T.seq (T.seq ?_))))))))
  obtain ⟨x2, hx2, h⟩ := bind_some h
  refine T.region (so (o_load_ptr rfl rfl (loadRowA Ty.k56 Ty.c56 rfl (cs := [.sl (List.map encNode p0.Nodes), .int .i64 p0.Rings, .int .i64 p0.Room]) rfl (so (o_call (as0 := [.agg [.sl (List.map encNode p0.Nodes), .int .i64 p0.Rings, .int .i64 p0.Room]]) (as1 := [.agg [.sl (List.map encNode p0.Nodes), .int .i64 p0.Rings, .int .i64 p0.Room]]) (caps := []) (aw1 := [.box [.sl (List.map encNode p0.Nodes), .int .i64 p0.Rings, .int .i64 p0.Room]]) rfl rfl rfl (k_flat (v := .int .i64 x2) (net_Check_c p0 x2 hx2) (⟨pure_agg _ (pures_mem (⟨pure_map encNode_p _, pure_int _ _, pure_int _ _, trivial⟩)), trivial⟩) rfl (sa (.int .i64 x2) rfl (RS.nil (T.seq (T.region (sm (.int .i64 x2) rfl (sq (v_neq rfl rfl (RS.nil ?_))))))))))))))
  refine T.cond (b := x2 != 0) rfl (fun hb_1 => ?_) (fun hb_1 => ?_)
  ·replace h := ite_T h hb_1
   refine T.seq (T.region (sm (.int .i64 x2) rfl (sa .nils rfl (sa (.int .i64 x2) rfl (RS.nil (T.rt (res_tmpA (v := .nils) rfl (res_tmpA (v := .int .i64 x2) rfl (res_done ?_)))))))))
   exact ret_own (.tup [.ref 0, .int .i64 r.2]) [(0, 3, 1)] [1] (by decide) (none_kept _) rfl (rn_tup ⟨rn_ref rfl, rn_int (congrArg (fun r : (List Int) × Int => r.2) (Option.some.inj h)).symm, trivial⟩) (rw_arr (en := encI) (ys := []) rfl encI_p (congrArg (fun r : (List Int) × Int => r.1) (Option.some.inj h)).symm (rw_nil)) ⟨rfl, rfl⟩
  replace h := ite_F h hb_1
  refine T.skip (T.seq (T.region (sa .nils rfl (RS.nil (T.seq (T.seq (T.region (sq (v_fieldAddr_ptr Ty.f56_0 rfl (off' := 0) rfl (so (o_load_ptr rfl rfl (loadRow1 Ty.k54 (c := .sl (List.map encNode p0.Nodes)) rfl ?_))))))))))))
  refine sq (v_len_sl Ty.s54 rfl (sm (.int .i64 0) rfl (RS.nil (T.block (T.iter (fun ss_6 : Int × (List Int) => mkA 30 [(5, .ref 0), (14, .sl (List.map encNode p0.Nodes)), (15, .int .i64 ((p0.Nodes).length : Int)), (16, .int .i64 ss_6.1)]) (fun ss_6 => [.arr 3 1 (List.map encI ss_6.2)]) h (Weak.mkN [(5, 3, 1)] [1] (by decide) (none_kept _) rfl ⟨rn_ref rfl, rn_s rfl, rn_int rfl, rn_int rfl, trivial⟩ (rw_arr (en := encI) (ys := []) rfl encI_p rfl (rw_nil))) (fun ss_6 v_7 h hv_7 => ?_))))))
  obtain ⟨s3, s4⟩ := ss_6
  replace h : net_Merges_l1 p0 s3 s4 = some v_7 := h
  try dsimp only
  unfold net_Merges_l1 at h
  refine T.seq (T.region (sq (v_lss rfl rfl (RS.nil (T.seq (T.cond (b := decide (s3 < ((p0.Nodes).length : Int))) rfl (fun hb_8 => ?_) (fun hb_8 => ?_)))))))
  ·replace h := ite_T h hb_8
   refine T.skip (T.seq (T.block (T.seq ?_)))
   obtain ⟨x6, hx6, h⟩ := bind_some h
   refine T.region (sm (.int .i64 s3) rfl (sq (v_index_sl Ty.s54 (fun _ => rfl) rfl rfl hx6 (so (o_load_elt rfl (loadRowA Ty.k67 Ty.c67 rfl (cs := [.int .i64 x6.Kind, .int .i64 x6.A, .sl (List.map encI x6.In), .sl (List.map encI x6.Out)]) rfl (so (o_alloc Ty.z67 rfl (aw' := [.arr 3 1 (List.map encI s4), .box [.int .i64 0, .int .i64 0, .nils, .nils]]) rfl (sa (.int .i64 s3) rfl (so (o_store_ptr Ty.c67 Ty.i67 rfl (vs := [.int .i64 x6.Kind, .int .i64 x6.A, .sl (List.map encI x6.In), .sl (List.map encI x6.Out)]) rfl rfl rfl rfl (cs' := [.int .i64 x6.Kind, .int .i64 x6.A, .sl (List.map encI x6.In), .sl (List.map encI x6.Out)]) rfl (aw' := [.arr 3 1 (List.map encI s4), .box [.int .i64 x6.Kind, .int .i64 x6.A, .sl (List.map encI x6.In), .sl (List.map encI x6.Out)]]) rfl (RS.nil (T.seq (T.region ?_))))))))))))))
   refine sq (v_fieldAddr_ptr Ty.f67_0 rfl (off' := 0) rfl (so (o_load_ptr rfl rfl (loadRow1 Ty.k3 (c := .int .i64 x6.Kind) rfl (sq (v_eql rfl rfl (RS.nil (T.cond (b := x6.Kind == 6) rfl (fun hb_9 => ?_) (fun hb_9 => ?_)))))))))
   ·replace h := ite_T h hb_9
    obtain ⟨x7, hx7, h⟩ := bind_some h
    refine T.region (sm (.ref 0) rfl (sm (.int .i64 s3) rfl (so (o_buildSlice (rows := List.map encI [s3]) (vs := [.int .i64 s3]) Ty.s57 Ty.z3 rfl rfl rfl rfl rfl (aw' := [.arr 3 1 (List.map encI s4), .box [.int .i64 x6.Kind, .int .i64 x6.A, .sl (List.map encI x6.In), .sl (List.map encI x6.Out)], .arr 3 1 (List.map encI [s3])]) rfl (so (o_app_ref (en := encI) (xs := s4) (ys := ([s3] : List Int)) Ty.s57 (fun _ => rfl) rfl rfl rfl hx7 rfl (aw' := [.dead, .box [.int .i64 x6.Kind, .int .i64 x6.A, .sl (List.map encI x6.In), .sl (List.map encI x6.Out)], .dead, .arr 3 1 (List.map encI x7)]) rfl (sa (.ref 3) rfl (RS.nil (T.region (sq (v_add rfl rfl (sm (.int .i64 (IntKind.i64.wrap (s3 + 1))) rfl ?_))))))))))))
    refine RS.nil ?_
    exact ⟨(IntKind.i64.wrap (s3 + 1), x7), (Option.some.inj h).symm, Weak.mkN [] [3] (by decide) (none_kept _) rfl ⟨rn_ref rfl, rn_s rfl, rn_int rfl, rn_int rfl, trivial⟩ (rw_ar rfl rfl (rw_nil))⟩
   replace h := ite_F h hb_9
   refine T.skip (T.region (sq (v_add rfl rfl (sm (.int .i64 (IntKind.i64.wrap (s3 + 1))) rfl (RS.nil ?_)))))
   exact ⟨(IntKind.i64.wrap (s3 + 1), s4), (Option.some.inj h).symm, Weak.mkN [] [0] (by decide) (none_kept _) rfl ⟨rn_ref rfl, rn_s rfl, rn_int rfl, rn_int rfl, trivial⟩ (rw_ar rfl rfl (rw_nil))⟩
  replace h := ite_F h hb_8
  refine T.exit ?_
  obtain ⟨w_10, h, hw_10⟩ := map_inr h
  replace h := h.trans (congrArg some (hv_7 _ hw_10))
  refine T.seq (T.region (sm (.ref 0) rfl (sa (.ref 0) rfl (sa (.int .i64 0) rfl (RS.nil (T.rt (res_tmpA (v := .ref 0) rfl (res_tmpA (v := .int .i64 0) rfl (res_done ?_)))))))))
  exact ret_own (.tup [.ref 0, .int .i64 r.2]) [] [0] (by decide) (none_kept _) rfl (rn_tup ⟨rn_ref rfl, rn_int (congrArg (fun r : (List Int) × Int => r.2) (Option.some.inj h)).symm, trivial⟩) (rw_arr rfl encI_p (congrArg (fun r : (List Int) × Int => r.1) (Option.some.inj h)).symm (rw_nil)) ⟨rfl, rfl⟩
theorem slices_Equal_int_c (p0 : List Int) (p1 : List Int) (r : Bool) (h : slices_Equal_int p0 p1 = some r) : Fn Try.prog 34 [.sl (List.map encI p0), .sl (List.map encI p1)] (.bool r) := by
  unfold slices_Equal_int at h
  refine fn_of_T (N := 0) rfl Try.func34 rfl (by kernel_rfl) Try.ntmps34 rfl ?_
  show T _ _ _ _ (mkA 26 [(0, .sl (List.map encI p0)), (1, .sl (List.map encI p1))]) []
  refine T.seq (T.region (sa (.bool false) rfl (RS.nil (T.seq (T.seq (T.region (sm (.sl (List.map encI p0)) rfl (sq (v_len_sl Ty.s57 rfl (sm (.sl (List.map encI p1)) rfl ?_))))))))))
  refine sq (v_len_sl Ty.s57 rfl (sq (v_neq rfl rfl (RS.nil (T.cond (b := ((p0).length : Int) != ((p1).length : Int)) rfl (fun hb_1 => ?_) (fun hb_1 => ?_))))))
  ·replace h := ite_T h hb_1
   refine T.seq (T.region (sa (.bool false) rfl (RS.nil (T.rt (res_tmpA (v := .bool false) rfl (res_done ?_))))))
   exact ret_data (v := .bool false) rfl (pure_bool _) ⟨congrArg (fun r : Bool => (.bool r : AV)) (Option.some.inj h), rfl⟩
  replace h := ite_F h hb_1
  refine T.skip (T.seq (T.seq (T.region (sm (.sl (List.map encI p0)) rfl (sq (v_len_sl Ty.s57 rfl (sm (.int .i64 0) rfl (RS.nil (T.block (T.iter (fun ss_8 : Int => mkA 26 [(0, .sl (List.map encI p0)), (1, .sl (List.map encI p1)), (12, .int .i64 ((p0).length : Int)), (13, .int .i64 ss_8)]) (fun ss_8 => []) h (Weak.mkN [] [] (by decide) (none_kept _) rfl ⟨rn_s rfl, rn_s rfl, rn_int rfl, rn_int rfl, trivial⟩ (rw_nil)) (fun ss_8 v_9 h hv_9 => ?_)))))))))))
  revert hv_9 h; revert ss_8; intro s1 h hv_9
  replace h : slices_Equal_int_l1 p0 p1 s1 = some v_9 := h
  try dsimp only
  unfold slices_Equal_int_l1 at h
  refine T.seq (T.region (sq (v_lss rfl rfl (RS.nil (T.seq (T.cond (b := decide (s1 < ((p0).length : Int))) rfl (fun hb_10 => ?_) (fun hb_10 => ?_)))))))
  ·replace h := ite_T h hb_10
   refine T.skip (T.seq (T.block (T.seq (T.region (sm (.int .i64 s1) rfl (sa (.int .i64 s1) rfl (RS.nil (T.seq ?_))))))))
   obtain ⟨x4, hx4, h⟩ := bind_some h
   obtain ⟨x5, hx5, h⟩ := bind_some h
   refine T.drawn mixed (k := 9) rfl (RA.join 0 #[true, true, true, true, true, true, true, true, true] (mkA 26 [(0, .sl (List.map encI p0)), (1, .sl (List.map encI p1)), (5, .int .i64 s1), (12, .int .i64 ((p0).length : Int)), (13, .int .i64 s1), (14, .bool (decide (s1 < ((p0).length : Int)))), (15, .int .i64 s1), (16, .sl (List.map encI p0)), (17, .int .i64 s1), (18, .elt (encI x4) 0), (19, .int .i64 x4), (20, .sl (List.map encI p1)), (21, .int .i64 s1), (22, .elt (encI x5) 0), (23, .int .i64 x5), (24, .bool (x4 != x5))]) [] ?_ (fun hS11 => ?_))
   ·refine RA.done (by decide +kernel) (T.cond (b := x4 != x5) rfl (fun hb_12 => ?_) (fun hb_12 => ?_))
    ·replace h := ite_T h hb_12
     refine T.seq (T.region (sa (.bool false) rfl (RS.nil (T.rt ?_))))
     obtain ⟨w_13, h, hw_13⟩ := map_inr h
     replace h := h.trans (congrArg some (hv_9 _ hw_13))
     refine res_tmpA (v := .bool false) rfl (res_done ?_)
     exact ret_data (v := .bool false) rfl (pure_bool _) ⟨congrArg (fun r : Bool => (.bool r : AV)) (Option.some.inj h), rfl⟩
    replace h := ite_F h hb_12
    refine T.skip (T.region (sq (v_add rfl rfl (sm (.int .i64 (IntKind.i64.wrap (s1 + 1))) rfl (RS.nil ?_)))))
    exact ⟨IntKind.i64.wrap (s1 + 1), (Option.some.inj h).symm, Weak.mkN [] [] (by decide) (none_kept _) rfl ⟨rn_s rfl, rn_s rfl, rn_int rfl, rn_int rfl, trivial⟩ (rw_nil)⟩
   ·refine RA.t0 (i := 0) (li' := #[true, false, false, false, false, false, false, false, false]) rfl (by decide +kernel) (by decide +kernel) (by decide +kernel) (by decide +kernel) rfl rfl (v_move (v := .sl (List.map encI p0)) rfl (RA.t0 (i := 1) (li' := #[true, true, false, false, false, false, false, false, false]) rfl (by decide +kernel) (by decide +kernel) (by decide +kernel) (by decide +kernel) rfl rfl (v_move (v := .int .i64 s1) rfl (RA.t0 (i := 2) (li' := #[true, true, true, false, false, false, false, false, false]) rfl (by decide +kernel) (by decide +kernel) (by decide +kernel) (by decide +kernel) rfl rfl (v_index_sl Ty.s57 (fun _ => rfl) rfl rfl hx4 (RA.t0 (i := 4) (li' := #[true, true, true, false, true, false, false, false, false]) rfl (by decide +kernel) (by decide +kernel) (by decide +kernel) (by decide +kernel) rfl rfl (v_move (v := .sl (List.map encI p1)) rfl (RA.t0 (i := 5) (li' := #[true, true, true, false, true, true, false, false, false]) rfl (by decide +kernel) (by decide +kernel) (by decide +kernel) (by decide +kernel) rfl rfl (v_move (v := .int .i64 s1) rfl (RA.t0 (i := 6) (li' := #[true, true, true, false, true, true, true, false, false]) rfl (by decide +kernel) (by decide +kernel) (by decide +kernel) (by decide +kernel) rfl rfl (v_index_sl Ty.s57 (fun _ => rfl) rfl rfl hx5 (RA.a2 (i1 := 3) (l1 := #[true, true, true, true, true, true, true, false, false]) (i2 := 7) (l2 := #[true, true, true, false, true, true, true, true, false]) (by decide +kernel) (by decide +kernel) (by decide +kernel) ?_ ?_))))))))))))
    ·refine RO.op rfl rfl (o_load_elt rfl (loadRow1 Ty.k3 (c := .int .i64 x4) rfl (RA.a1 (i1 := 7) (l1 := #[true, true, true, true, true, true, true, true, false]) (by decide +kernel) (by decide +kernel) (RO.op rfl rfl (o_load_elt rfl (loadRow1 Ty.k3 (c := .int .i64 x5) rfl (RA.t0 (i := 8) (li' := #[true, true, true, true, true, true, true, true, true]) rfl (by decide +kernel) (by decide +kernel) (by decide +kernel) (by decide +kernel) rfl rfl (v_neq rfl rfl ?_))))))))
     exact RA.weakR hS11 (Weak.mkN [] [] (by decide) (none_kept _) rfl ⟨rn_s rfl, rn_s rfl, rn_int rfl, rn_int rfl, rn_int rfl, rn_bool rfl, rn_int rfl, rn_s rfl, rn_int rfl, rn_elt (encI_p _) (congrArg encI rfl), rn_int rfl, rn_s rfl, rn_int rfl, rn_elt (encI_p _) (congrArg encI rfl), rn_int rfl, rn_bool rfl, trivial⟩ (rw_nil))
    ·refine RO.op rfl rfl (o_load_elt rfl (loadRow1 Ty.k3 (c := .int .i64 x5) rfl (RA.a1 (i1 := 3) (l1 := #[true, true, true, true, true, true, true, true, false]) (by decide +kernel) (by decide +kernel) (RO.op rfl rfl (o_load_elt rfl (loadRow1 Ty.k3 (c := .int .i64 x4) rfl (RA.t0 (i := 8) (li' := #[true, true, true, true, true, true, true, true, true]) rfl (by decide +kernel) (by decide +kernel) (by decide +kernel) (by decide +kernel) rfl rfl (v_neq rfl rfl ?_))))))))
     exact RA.weakR hS11 (Weak.mkN [] [] (by decide) (none_kept _) rfl ⟨rn_s rfl, rn_s rfl, rn_int rfl, rn_int rfl, rn_int rfl, rn_bool rfl, rn_int rfl, rn_s rfl, rn_int rfl, rn_elt (encI_p _) (congrArg encI rfl), rn_int rfl, rn_s rfl, rn_int rfl, rn_elt (encI_p _) (congrArg encI rfl), rn_int rfl, rn_bool rfl, trivial⟩ (rw_nil))
  replace h := ite_F h hb_10
  refine T.exit ?_
  obtain ⟨w_14, h, hw_14⟩ := map_inr h
  replace h := h.trans (congrArg some (hv_9 _ hw_14))
  refine T.seq (T.region (sa (.bool true) rfl (RS.nil (T.rt (res_tmpA (v := .bool true) rfl (res_done ?_))))))
  exact ret_data (v := .bool true) rfl (pure_bool _) ⟨congrArg (fun r : Bool => (.bool r : AV)) (Option.some.inj h), rfl⟩
theorem crosslaw_item_c (p0 : Int) (p1 : Int) (r : Item) (h : crosslaw_item p0 p1 = some r) : Fn Try.prog 76 [.int .i64 p0, .int .i64 p1] (.agg [.int .i64 r.Key, .int .i64 r.Val, .int .i64 r.Dep]) := by
  unfold crosslaw_item at h
  refine fn_of_T (N := 0) rfl Try.func76 rfl (by kernel_rfl) Try.ntmps76 rfl ?_
  show T _ _ _ _ (mkA 8 [(0, .int .i64 p0), (1, .int .i64 p1)]) []
  refine T.seq (T.region (so (o_alloc Ty.z79 rfl (aw' := [.box [.int .i64 0, .int .i64 0, .int .i64 0]]) rfl (RS.nil (T.seq (T.region (sm (.int .i64 p0) rfl (sm (.int .i64 p1) rfl (sq (v_build (cs := [.int .i64 p0, .int .i64 p1, .int .i64 0]) Ty.z79 Ty.p79 rfl (so (o_store_ptr Ty.c79 Ty.i79 rfl (vs := [.int .i64 p0, .int .i64 p1, .int .i64 0]) rfl rfl rfl rfl (cs' := [.int .i64 p0, .int .i64 p1, .int .i64 0]) rfl (aw' := [.box [.int .i64 p0, .int .i64 p1, .int .i64 0]]) rfl ?_))))))))))))
  refine RS.nil (T.rt (res_cellA (id := 0) (off := 0) (cs := [.int .i64 p0, .int .i64 p1, .int .i64 0]) (v := .agg [.int .i64 p0, .int .i64 p1, .int .i64 0]) ?_ ?_ ?_ ?_))
  · rfl
  · rfl
  · exact fun K h => (loadRowA (row := [.int .i64 p0, .int .i64 p1, .int .i64 0]) (off := 0) Ty.k79 Ty.c79 rfl (cs := [.int .i64 p0, .int .i64 p1, .int .i64 0]) rfl h)
  refine res_done ?_
  exact ret_data (v := .agg [.int .i64 p0, .int .i64 p1, .int .i64 0]) rfl (pure_agg _ (pures_mem (⟨pure_int _ _, pure_int _ _, pure_int _ _, trivial⟩))) ⟨congrArg (fun r : Item => (.agg [.int .i64 r.Key, .int .i64 r.Val, .int .i64 r.Dep] : AV)) (Option.some.inj h), rfl⟩
theorem crosslaw_two_c (r : List (List Item)) (h : crosslaw_two = some r) : FnO Try.prog 71 [] (.ref 0) [.arr 74 1 (List.map (encL encItem) r)] := by
  unfold crosslaw_two at h
  refine fn_of_T (N := 0) rfl Try.func71 rfl (by kernel_rfl) Try.ntmps71 rfl ?_
  show T _ _ _ _ (mkA 6 []) []
  refine T.seq (T.region (sa .nils rfl (RS.nil (T.seq ?_))))
  obtain ⟨x3, hx3, h⟩ := bind_some h
  obtain ⟨x4, hx4, h⟩ := bind_some h
  refine T.region (so (o_call (as0 := [.int .i64 1, .int .i64 1]) (as1 := [.int .i64 (1 : Int), .int .i64 (1 : Int)]) (caps := []) (aw1 := []) rfl rfl rfl (k_flat (v := .agg [.int .i64 x3.Key, .int .i64 x3.Val, .int .i64 x3.Dep]) (crosslaw_item_c (1 : Int) (1 : Int) x3 hx3) (⟨pure_int _ _, pure_int _ _, trivial⟩) rfl (so (o_buildSlice (rows := List.map encItem [x3]) (vs := [.agg [.int .i64 x3.Key, .int .i64 x3.Val, .int .i64 x3.Dep]]) Ty.s74 Ty.z79 rfl rfl rfl rfl rfl (aw' := [.arr 79 3 (List.map encItem [x3])]) rfl (so (o_call (as0 := [.int .i64 2, .int .i64 2]) (as1 := [.int .i64 (2 : Int), .int .i64 (2 : Int)]) (caps := []) (aw1 := [.arr 79 3 (List.map encItem [x3])]) rfl rfl rfl (k_flat (v := .agg [.int .i64 x4.Key, .int .i64 x4.Val, .int .i64 x4.Dep]) (crosslaw_item_c (2 : Int) (2 : Int) x4 hx4) (⟨pure_int _ _, pure_int _ _, trivial⟩) rfl (so (o_buildSlice (rows := List.map encItem [x4]) (vs := [.agg [.int .i64 x4.Key, .int .i64 x4.Val, .int .i64 x4.Dep]]) Ty.s74 Ty.z79 rfl rfl rfl rfl rfl (aw' := [.arr 79 3 (List.map encItem [x3]), .arr 79 3 (List.map encItem [x4])]) rfl (RS.fz 0 rfl rfl (aw' := [.dead, .arr 79 3 (List.map encItem [x4])]) rfl (RS.fz 1 rfl rfl (aw' := [.dead, .dead]) rfl (so (o_buildSlice (rows := List.map (encL encItem) [[x3], [x4]]) (vs := [.sl (List.map encItem [x3]), .sl (List.map encItem [x4])]) Ty.s68 Ty.z74 rfl rfl rfl rfl rfl (aw' := [.dead, .dead, .arr 74 1 (List.map (encL encItem) [[x3], [x4]])]) rfl (sa (.ref 2) rfl (RS.nil ?_))))))))))))))))
  refine T.rt (res_tmpA (v := .ref 2) rfl (res_done ?_))
  exact ret_own (.ref 0) [] [2] (by decide) (none_kept _) rfl (rn_ref rfl) (rw_arr rfl (encL_p encItem_p) (congrArg (fun r : List (List Item) => r) (Option.some.inj h)).symm (rw_nil)) ⟨rfl, rfl⟩
theorem net_Sources_c (p0 : Net) (p1 : List (List Item)) (r : Int) (h : net_Sources p0 p1 = some r) : Fn Try.prog 35 [.agg [.sl (List.map encNode p0.Nodes), .int .i64 p0.Rings, .int .i64 p0.Room], .sl (List.map (encL encItem) p1)] (.int .i64 r) := by
  unfold net_Sources at h
  refine fn_of_T (N := 0) rfl Try.func35 rfl (by kernel_rfl) Try.ntmps35 rfl ?_
  show T _ _ _ _ (mkA 69 [(0, .agg [.sl (List.map encNode p0.Nodes), .int .i64 p0.Rings, .int .i64 p0.Room]), (1, .sl (List.map (encL encItem) p1))]) []
  refine T.seq (T.region (so (o_box (cs := [.sl (List.map encNode p0.Nodes), .int .i64 p0.Rings, .int .i64 p0.Room]) rfl rfl (aw' := [.box [.sl (List.map encNode p0.Nodes), .int .i64 p0.Rings, .int .i64 p0.Room]]) rfl (sa (.int .i64 0) rfl (RS.nil (T.seq (T.seq ?_)))))))
  obtain ⟨x2, hx2, h⟩ := bind_some h
  refine T.region (so (o_load_ptr rfl rfl (loadRowA Ty.k56 Ty.c56 rfl (cs := [.sl (List.map encNode p0.Nodes), .int .i64 p0.Rings, .int .i64 p0.Room]) rfl (so (o_call (as0 := [.agg [.sl (List.map encNode p0.Nodes), .int .i64 p0.Rings, .int .i64 p0.Room]]) (as1 := [.agg [.sl (List.map encNode p0.Nodes), .int .i64 p0.Rings, .int .i64 p0.Room]]) (caps := []) (aw1 := [.box [.sl (List.map encNode p0.Nodes), .int .i64 p0.Rings, .int .i64 p0.Room]]) rfl rfl rfl (k_flat (v := .int .i64 x2) (net_Check_c p0 x2 hx2) (⟨pure_agg _ (pures_mem (⟨pure_map encNode_p _, pure_int _ _, pure_int _ _, trivial⟩)), trivial⟩) rfl (sa (.int .i64 x2) rfl (RS.nil (T.seq (T.region (sm (.int .i64 x2) rfl (sq (v_neq rfl rfl (RS.nil ?_))))))))))))))
  refine T.cond (b := x2 != 0) rfl (fun hb_1 => ?_) (fun hb_1 => ?_)
  ·replace h := ite_T h hb_1
   refine T.seq (T.region (sm (.int .i64 x2) rfl (sa (.int .i64 x2) rfl (RS.nil (T.rt (res_tmpA (v := .int .i64 x2) rfl (res_done ?_)))))))
   exact ret_data (v := .int .i64 x2) rfl (pure_int _ _) ⟨congrArg (fun r : Int => (.int .i64 r : AV)) (Option.some.inj h), rfl⟩
  replace h := ite_F h hb_1
  refine T.skip (T.seq (T.seq (T.region (sm (.sl (List.map (encL encItem) p1)) rfl (sq (v_len_sl Ty.s68 rfl (sq (v_gtr rfl rfl (RS.nil (T.cond (b := decide (((p1).length : Int) > 4)) rfl (fun hb_2 => ?_) (fun hb_2 => ?_)))))))))))
  ·replace h := ite_T h hb_2
   refine T.seq (T.region (sa (.int .i64 2) rfl (RS.nil (T.rt (res_tmpA (v := .int .i64 2) rfl (res_done ?_))))))
   exact ret_data (v := .int .i64 2) rfl (pure_int _ _) ⟨congrArg (fun r : Int => (.int .i64 r : AV)) (Option.some.inj h), rfl⟩
  replace h := ite_F h hb_2
  refine T.skip (T.seq (T.seq (T.region (sm (.sl (List.map (encL encItem) p1)) rfl (sq (v_len_sl Ty.s68 rfl (sm (.int .i64 0) rfl (RS.nil (T.block (T.iter (fun ss_27 : Int => mkA 69 [(1, .sl (List.map (encL encItem) p1)), (2, .ptr 0 0), (21, .sl (List.map (encL encItem) p1)), (22, .int .i64 ((p1).length : Int)), (23, .int .i64 ss_27)]) (fun ss_27 => [.box [.sl (List.map encNode p0.Nodes), .int .i64 p0.Rings, .int .i64 p0.Room]]) h (Weak.mkN [] [0] (by decide) (none_kept _) rfl ⟨rn_s rfl, rn_ptr rfl, rn_s rfl, rn_int rfl, rn_int rfl, trivial⟩ (rw_bs [.sl (List.map encNode p0.Nodes), .int .i64 p0.Rings, .int .i64 p0.Room] rfl (rw_nil))) (fun ss_27 v_28 h hv_28 => ?_)))))))))))
  revert hv_28 h; revert ss_27; intro s3 h hv_28
  replace h : net_Sources_l3 p0 p1 s3 = some v_28 := h
  try dsimp only
  unfold net_Sources_l3 at h
  refine T.seq (T.region (sq (v_lss rfl rfl (RS.nil (T.seq (T.cond (b := decide (s3 < ((p1).length : Int))) rfl (fun hb_29 => ?_) (fun hb_29 => ?_)))))))
  ·replace h := ite_T h hb_29
   refine T.skip (T.seq (T.block (T.seq ?_)))
   obtain ⟨x5, hx5, h⟩ := bind_some h
   refine T.region (sq (v_index_sl Ty.s68 (fun _ => rfl) rfl rfl hx5 (so (o_load_elt rfl (loadRow1 Ty.k74 (c := .sl (List.map encItem x5)) rfl (sa (.sl (List.map encItem x5)) rfl (RS.nil (T.seq (T.seq (T.region (sm (.sl (List.map encItem x5)) rfl (sq (v_len_sl Ty.s74 rfl ?_)))))))))))))
   refine sq (v_gtr rfl rfl (RS.nil (T.cond (b := decide (((x5).length : Int) > 20)) rfl (fun hb_30 => ?_) (fun hb_30 => ?_))))
   ·replace h := ite_T h hb_30
    refine T.seq (T.region (sa (.int .i64 2) rfl (RS.nil (T.rt ?_))))
    obtain ⟨w_31, h, hw_31⟩ := map_inr h
    replace h := h.trans (congrArg some (hv_28 _ hw_31))
    refine res_tmpA (v := .int .i64 2) rfl (res_done ?_)
    exact ret_data (v := .int .i64 2) rfl (pure_int _ _) ⟨congrArg (fun r : Int => (.int .i64 r : AV)) (Option.some.inj h), rfl⟩
   replace h := ite_F h hb_30
   refine T.skip (T.seq (T.region (sm (.sl (List.map encItem x5)) rfl (sq (v_len_sl Ty.s74 rfl (sm (.int .i64 0) rfl (RS.nil (T.block (T.iter (fun ss_36 : Int => mkA 69 [(1, .sl (List.map (encL encItem) p1)), (2, .ptr 0 0), (21, .sl (List.map (encL encItem) p1)), (22, .int .i64 ((p1).length : Int)), (23, .int .i64 s3), (30, .sl (List.map encItem x5)), (31, .int .i64 ((x5).length : Int)), (32, .int .i64 ss_36)]) (fun ss_36 => [.box [.sl (List.map encNode p0.Nodes), .int .i64 p0.Rings, .int .i64 p0.Room]]) h (Weak.mkN [] [0] (by decide) (none_kept _) rfl ⟨rn_s rfl, rn_ptr rfl, rn_s rfl, rn_int rfl, rn_int rfl, rn_s rfl, rn_int rfl, rn_int rfl, trivial⟩ (rw_bs [.sl (List.map encNode p0.Nodes), .int .i64 p0.Rings, .int .i64 p0.Room] rfl (rw_nil))) (fun ss_36 v_37 h hv_37 => ?_))))))))))
   revert hv_37 h; revert ss_36; intro s6 h hv_37
   replace h : net_Sources_l1 s3 x5 s6 = some v_37 := h
   try dsimp only
   unfold net_Sources_l1 at h
   refine T.seq (T.region (sq (v_lss rfl rfl (RS.nil (T.seq (T.cond (b := decide (s6 < ((x5).length : Int))) rfl (fun hb_38 => ?_) (fun hb_38 => ?_)))))))
   ·replace h := ite_T h hb_38
    refine T.skip (T.seq (T.block (T.seq ?_)))
    obtain ⟨x8, hx8, h⟩ := bind_some h
    refine T.region (sq (v_index_sl Ty.s74 (fun _ => rfl) rfl rfl hx8 (so (o_load_elt rfl (loadRowA Ty.k79 Ty.c79 rfl (cs := [.int .i64 x8.Key, .int .i64 x8.Val, .int .i64 x8.Dep]) rfl (so (o_alloc Ty.z79 rfl (aw' := [.box [.sl (List.map encNode p0.Nodes), .int .i64 p0.Rings, .int .i64 p0.Room], .box [.int .i64 0, .int .i64 0, .int .i64 0]]) rfl (so (o_store_ptr Ty.c79 Ty.i79 rfl (vs := [.int .i64 x8.Key, .int .i64 x8.Val, .int .i64 x8.Dep]) rfl rfl rfl rfl (cs' := [.int .i64 x8.Key, .int .i64 x8.Val, .int .i64 x8.Dep]) rfl (aw' := [.box [.sl (List.map encNode p0.Nodes), .int .i64 p0.Rings, .int .i64 p0.Room], .box [.int .i64 x8.Key, .int .i64 x8.Val, .int .i64 x8.Dep]]) rfl (RS.nil (T.seq (T.region (sq (v_fieldAddr_ptr Ty.f79_2 rfl (off' := 2) rfl (so (o_load_ptr rfl rfl (loadRow1 Ty.k3 (c := .int .i64 x8.Dep) rfl ?_)))))))))))))))))
    refine sq (v_neq rfl rfl (RS.nil (T.cond (b := x8.Dep != 0) rfl (fun hb_39 => ?_) (fun hb_39 => ?_))))
    ·replace h := ite_T h hb_39
     refine T.seq (T.region (sa (.int .i64 4) rfl (RS.nil (T.rt ?_))))
     obtain ⟨w_40, h, hw_40⟩ := map_inr h
     replace h := h.trans (congrArg some (hv_37 _ hw_40))
     obtain ⟨w_41, h, hw_41⟩ := map_inr h
     replace h := h.trans (congrArg some (hv_28 _ hw_41))
     refine res_tmpA (v := .int .i64 4) rfl (res_done ?_)
     exact ret_data (v := .int .i64 4) rfl (pure_int _ _) ⟨congrArg (fun r : Int => (.int .i64 r : AV)) (Option.some.inj h), rfl⟩
    replace h := ite_F h hb_39
    refine T.skip (T.region (sq (v_add rfl rfl (sm (.int .i64 (IntKind.i64.wrap (s6 + 1))) rfl (RS.nil ?_)))))
    exact ⟨IntKind.i64.wrap (s6 + 1), (Option.some.inj h).symm, Weak.mkN [] [0] (by decide) (none_kept _) rfl ⟨rn_s rfl, rn_ptr rfl, rn_s rfl, rn_int rfl, rn_int rfl, rn_s rfl, rn_int rfl, rn_int rfl, trivial⟩ (rw_bs [.sl (List.map encNode p0.Nodes), .int .i64 p0.Rings, .int .i64 p0.Room] rfl (rw_nil))⟩
   replace h := ite_F h hb_38
   refine T.exit ?_
   obtain ⟨w_42, h, hw_42⟩ := map_inr h
   replace h := h.trans (congrArg some (hv_37 _ hw_42))
   refine T.region (sq (v_add rfl rfl (sm (.int .i64 (IntKind.i64.wrap (s3 + 1))) rfl (RS.nil ?_))))
   exact ⟨IntKind.i64.wrap (s3 + 1), (Option.some.inj h).symm, Weak.mkN [] [0] (by decide) (none_kept _) rfl ⟨rn_s rfl, rn_ptr rfl, rn_s rfl, rn_int rfl, rn_int rfl, trivial⟩ (rw_bs [.sl (List.map encNode p0.Nodes), .int .i64 p0.Rings, .int .i64 p0.Room] rfl (rw_nil))⟩
  replace h := ite_F h hb_29
  refine T.exit ?_
  obtain ⟨w_43, h, hw_43⟩ := map_inr h
  replace h := h.trans (congrArg some (hv_28 _ hw_43))
  refine T.seq ?_
  obtain ⟨x10, hx10, h⟩ := bind_some h
  refine T.region (sm (.sl (List.map (encL encItem) p1)) rfl (sq (v_len_sl Ty.s68 rfl (so (o_mk (en := encB) (zr := false) Ty.s118 Ty.z4 rfl rfl hx10 rfl (aw' := [.box [.sl (List.map encNode p0.Nodes), .int .i64 p0.Rings, .int .i64 p0.Room], .arr 4 1 (List.map encB x10)]) rfl (sa (.ref 1) rfl (RS.nil (T.seq (T.seq (T.region (sq (v_fieldAddr_ptr Ty.f56_0 rfl (off' := 0) rfl ?_))))))))))))
  refine so (o_load_ptr rfl rfl (loadRow1 Ty.k54 (c := .sl (List.map encNode p0.Nodes)) rfl (sq (v_len_sl Ty.s54 rfl (sm (.int .i64 0) rfl (RS.nil (T.block (T.iter (fun ss_52 : Int × (List Bool) => mkA 69 [(1, .sl (List.map (encL encItem) p1)), (10, .ref 0), (45, .sl (List.map encNode p0.Nodes)), (46, .int .i64 ((p0.Nodes).length : Int)), (47, .int .i64 ss_52.1)]) (fun ss_52 => [.arr 4 1 (List.map encB ss_52.2)]) h (Weak.mkN [] [1] (by decide) (none_kept _) rfl ⟨rn_s rfl, rn_ref rfl, rn_s rfl, rn_int rfl, rn_int rfl, trivial⟩ (rw_ar rfl rfl (rw_nil))) (fun ss_52 v_53 h hv_53 => ?_)))))))))
  obtain ⟨s11, s12⟩ := ss_52
  replace h : net_Sources_l2 p0 p1 s11 s12 = some v_53 := h
  try dsimp only
  unfold net_Sources_l2 at h
  refine T.seq (T.region (sq (v_lss rfl rfl (RS.nil (T.seq (T.cond (b := decide (s11 < ((p0.Nodes).length : Int))) rfl (fun hb_54 => ?_) (fun hb_54 => ?_)))))))
  ·replace h := ite_T h hb_54
   refine T.skip (T.seq (T.block (T.seq ?_)))
   obtain ⟨x14, hx14, h⟩ := bind_some h
   refine T.region (sq (v_index_sl Ty.s54 (fun _ => rfl) rfl rfl hx14 (so (o_load_elt rfl (loadRowA Ty.k67 Ty.c67 rfl (cs := [.int .i64 x14.Kind, .int .i64 x14.A, .sl (List.map encI x14.In), .sl (List.map encI x14.Out)]) rfl (so (o_alloc Ty.z67 rfl (aw' := [.arr 4 1 (List.map encB s12), .box [.int .i64 0, .int .i64 0, .nils, .nils]]) rfl (so (o_store_ptr Ty.c67 Ty.i67 rfl (vs := [.int .i64 x14.Kind, .int .i64 x14.A, .sl (List.map encI x14.In), .sl (List.map encI x14.Out)]) rfl rfl rfl rfl (cs' := [.int .i64 x14.Kind, .int .i64 x14.A, .sl (List.map encI x14.In), .sl (List.map encI x14.Out)]) rfl (aw' := [.arr 4 1 (List.map encB s12), .box [.int .i64 x14.Kind, .int .i64 x14.A, .sl (List.map encI x14.In), .sl (List.map encI x14.Out)]]) rfl (RS.nil (T.seq (T.seq (T.region (sq (v_fieldAddr_ptr Ty.f67_0 rfl (off' := 0) rfl ?_)))))))))))))))
   refine so (o_load_ptr rfl rfl (loadRow1 Ty.k3 (c := .int .i64 x14.Kind) rfl (sq (v_neq rfl rfl (RS.nil (T.cond (b := x14.Kind != 1) rfl (fun hb_55 => ?_) (fun hb_55 => ?_)))))))
   ·replace h := ite_T h hb_55
    refine T.exit (T.region (sq (v_add rfl rfl (sm (.int .i64 (IntKind.i64.wrap (s11 + 1))) rfl (RS.nil ?_)))))
    exact ⟨(IntKind.i64.wrap (s11 + 1), s12), (Option.some.inj h).symm, Weak.mkN [] [0] (by decide) (none_kept _) rfl ⟨rn_s rfl, rn_ref rfl, rn_s rfl, rn_int rfl, rn_int rfl, trivial⟩ (rw_ar rfl rfl (rw_nil))⟩
   replace h := ite_F h hb_55
   refine T.skip (T.seq (T.seq (T.region (sq (v_fieldAddr_ptr Ty.f67_1 rfl (off' := 1) rfl (so (o_load_ptr rfl rfl (loadRow1 Ty.k3 (c := .int .i64 x14.A) rfl (sm (.sl (List.map (encL encItem) p1)) rfl (sq (v_len_sl Ty.s68 rfl (sq (v_geq rfl rfl (RS.nil ?_))))))))))))))
   refine T.cond (b := decide (x14.A ≥ ((p1).length : Int))) rfl (fun hb_56 => ?_) (fun hb_56 => ?_)
   ·replace h := ite_T h hb_56
    refine T.seq (T.region (sa (.int .i64 5) rfl (RS.nil (T.rt ?_))))
    obtain ⟨w_57, h, hw_57⟩ := map_inr h
    replace h := h.trans (congrArg some (hv_53 _ hw_57))
    refine res_tmpA (v := .int .i64 5) rfl (res_done ?_)
    exact ret_data (v := .int .i64 5) rfl (pure_int _ _) ⟨congrArg (fun r : Int => (.int .i64 r : AV)) (Option.some.inj h), rfl⟩
   replace h := ite_F h hb_56
   refine T.skip (T.seq (T.seq ?_))
   obtain ⟨x17, hx17, h⟩ := bind_some h
   obtain ⟨x18, hx18, h⟩ := bind_some h
   refine T.region (sm (.ref 0) rfl (sq (v_fieldAddr_ptr Ty.f67_1 rfl (off' := 1) rfl (so (o_load_ptr rfl rfl (loadRow1 Ty.k3 (c := .int .i64 x14.A) rfl (sq (v_index_ref' (en := encB) Ty.s118 rfl rfl rfl hx17 (so (o_load_aptr' (en := encB) (a := x18) rfl rfl hx18 (loadRow1 Ty.k4 (c := .bool x18) rfl (RS.nil (T.cond (b := x18) rfl (fun hb_58 => ?_) (fun hb_58 => ?_))))))))))))))
   ·replace h := ite_T h hb_58
    refine T.seq (T.region (sa (.int .i64 6) rfl (RS.nil (T.rt ?_))))
    obtain ⟨w_59, h, hw_59⟩ := map_inr h
    replace h := h.trans (congrArg some (hv_53 _ hw_59))
    refine res_tmpA (v := .int .i64 6) rfl (res_done ?_)
    exact ret_data (v := .int .i64 6) rfl (pure_int _ _) ⟨congrArg (fun r : Int => (.int .i64 r : AV)) (Option.some.inj h), rfl⟩
   replace h := ite_F h hb_58
   refine T.skip ?_
   obtain ⟨x19, hx19, h⟩ := bind_some h
   obtain ⟨x20, hx20, h⟩ := bind_some h
   refine T.region (sm (.ref 0) rfl (sq (v_fieldAddr_ptr Ty.f67_1 rfl (off' := 1) rfl (so (o_load_ptr rfl rfl (loadRow1 Ty.k3 (c := .int .i64 x14.A) rfl (sq (v_index_ref' (en := encB) Ty.s118 rfl rfl rfl hx19 (so (o_store_aptr' (en := encB) (a := x20) (a' := true) Ty.c4 Ty.i4 rfl (vs := [.bool true]) rfl rfl rfl hx20 rfl rfl (aw' := [.arr 4 1 (List.map encB (List.set s12 x19 true)), .box [.int .i64 x14.Kind, .int .i64 x14.A, .sl (List.map encI x14.In), .sl (List.map encI x14.Out)]]) rfl (RS.nil (T.region (sq (v_add rfl rfl (sm (.int .i64 (IntKind.i64.wrap (s11 + 1))) rfl ?_)))))))))))))))
   refine RS.nil ?_
   exact ⟨(IntKind.i64.wrap (s11 + 1), (List.set s12 x19 true)), (Option.some.inj h).symm, Weak.mkN [] [0] (by decide) (none_kept _) rfl ⟨rn_s rfl, rn_ref rfl, rn_s rfl, rn_int rfl, rn_int rfl, trivial⟩ (rw_ar rfl rfl (rw_nil))⟩
  replace h := ite_F h hb_54
  refine T.exit ?_
  obtain ⟨w_60, h, hw_60⟩ := map_inr h
  replace h := h.trans (congrArg some (hv_53 _ hw_60))
  refine T.seq (T.region (sa (.int .i64 0) rfl (RS.nil (T.rt (res_tmpA (v := .int .i64 0) rfl (res_done ?_))))))
  exact ret_data (v := .int .i64 0) rfl (pure_int _ _) ⟨congrArg (fun r : Int => (.int .i64 r : AV)) (Option.some.inj h), rfl⟩
theorem crosslaw_netted_c (r : Bool) (h : crosslaw_netted = some r) : Fn Try.prog 29 [] (.bool r) := by
  unfold crosslaw_netted at h
  refine fn_of_T (N := 0) rfl Try.func29 rfl (by kernel_rfl) Try.ntmps29 rfl ?_
  show T _ _ _ _ (mkA 37 []) []
  refine T.seq (T.region (sa (.bool false) rfl (RS.nil (T.seq ?_))))
  obtain ⟨x3, hx3, h⟩ := bind_some h
  obtain ⟨x4, hx4, h⟩ := bind_some h
  refine T.region (so (o_call (as0 := []) (as1 := []) (caps := []) (aw1 := []) rfl rfl rfl (k_fn (v := .agg [.sl (List.map encNode x3.Nodes), .int .i64 x3.Rings, .int .i64 x3.Room]) (crosslaw_meeting_c x3 hx3) (trivial) (pure_agg _ (pures_mem (⟨pure_map encNode_p _, pure_int _ _, pure_int _ _, trivial⟩))) (so (o_call (as0 := [.agg [.sl (List.map encNode x3.Nodes), .int .i64 x3.Rings, .int .i64 x3.Room]]) (as1 := [.agg [.sl (List.map encNode x3.Nodes), .int .i64 x3.Rings, .int .i64 x3.Room]]) (caps := []) (aw1 := []) rfl rfl rfl (k_own' (v := .tup [.ref 0, .int .i64 x4.2]) (obs := [.arr 3 1 (List.map encI x4.1)]) (v' := .tup [.ref 0, .int .i64 x4.2]) (aw' := [.arr 3 1 (List.map encI x4.1)]) (net_Order_c x3 x4 hx4) (⟨pure_agg _ (pures_mem (⟨pure_map encNode_p _, pure_int _ _, pure_int _ _, trivial⟩)), trivial⟩) rfl (obs_cons (flatOb_map fun _ => rfl) obs_nil) rfl rfl (sm (.tup [.ref 0, .int .i64 x4.2]) rfl (sq (v_extract (v := .ref 0) rfl rfl (sq (v_extract (v := .int .i64 x4.2) rfl rfl (sa (.ref 0) rfl (sa (.int .i64 x4.2) rfl (RS.nil (T.seq ?_)))))))))))))))
  obtain ⟨x7, hx7, h⟩ := bind_some h
  obtain ⟨x8, hx8, h⟩ := bind_some h
  refine T.region (so (o_call (as0 := []) (as1 := []) (caps := []) (aw1 := [.arr 3 1 (List.map encI x4.1)]) rfl rfl rfl (k_fn (v := .agg [.sl (List.map encNode x7.Nodes), .int .i64 x7.Rings, .int .i64 x7.Room]) (crosslaw_meeting_c x7 hx7) (trivial) (pure_agg _ (pures_mem (⟨pure_map encNode_p _, pure_int _ _, pure_int _ _, trivial⟩))) (so (o_call (as0 := [.agg [.sl (List.map encNode x7.Nodes), .int .i64 x7.Rings, .int .i64 x7.Room]]) (as1 := [.agg [.sl (List.map encNode x7.Nodes), .int .i64 x7.Rings, .int .i64 x7.Room]]) (caps := []) (aw1 := [.arr 3 1 (List.map encI x4.1)]) rfl rfl rfl (k_own' (v := .tup [.ref 0, .int .i64 x8.2]) (obs := [.arr 3 1 (List.map encI x8.1)]) (v' := .tup [.ref 1, .int .i64 x8.2]) (aw' := [.arr 3 1 (List.map encI x4.1), .arr 3 1 (List.map encI x8.1)]) (net_Merges_c x7 x8 hx8) (⟨pure_agg _ (pures_mem (⟨pure_map encNode_p _, pure_int _ _, pure_int _ _, trivial⟩)), trivial⟩) rfl (obs_cons (flatOb_map fun _ => rfl) obs_nil) rfl rfl (sm (.tup [.ref 1, .int .i64 x8.2]) rfl (sq (v_extract (v := .ref 1) rfl rfl (sq (v_extract (v := .int .i64 x8.2) rfl rfl (sa (.ref 1) rfl (sa (.int .i64 x8.2) rfl (RS.nil ?_))))))))))))))
  obtain ⟨zt_5, hz, h⟩ := bind_some h
  revert hz h; revert zt_5; intro c14 hz h
  refine T.join (Z := Unit) (fun _ => mkA 37 [(0, .bool c14)]) (fun _ => []) (fun _ => True) (fun _ _ => ?_) (fun hK => ?_)
  ·refine T.rt (res_tmpA (v := .bool c14) rfl (res_done ?_))
   exact ret_data (v := .bool c14) rfl (pure_bool _) ⟨congrArg (fun r : Bool => (.bool r : AV)) (Option.some.inj h), rfl⟩
  refine T.region (sm (.int .i64 x4.2) rfl (sq (v_eql rfl rfl (sm (.bool (x4.2 == 0)) rfl ?_))))
  rcases bool_cases (x4.2 == 0) with hb_1 | hb_1
  ·replace hz := ite_T hz hb_1
   refine yq hb_1 (v_move (v := .int .i64 x8.2) rfl (yq hb_1 (v_eql rfl rfl (sq (v_pickT (v := .bool (x8.2 == 0)) rfl hb_1 rfl (sm (.bool (x8.2 == 0)) rfl ?_))))))
   rcases bool_cases (x8.2 == 0) with hb_2 | hb_2
   ·replace hz := ite_T hz hb_2
    obtain ⟨x9, hx9, hz⟩ := bind_some hz
    refine yq hb_2 (v_move (v := .ref 0) rfl (yo hb_2 (o_buildSlice (rows := List.map encI [0, 1, 2, 3]) (vs := [.int .i64 0, .int .i64 1, .int .i64 2, .int .i64 3]) Ty.s57 Ty.z3 rfl rfl rfl rfl rfl (aw' := [.arr 3 1 (List.map encI x4.1), .arr 3 1 (List.map encI x8.1), .arr 3 1 (List.map encI [0, 1, 2, 3])]) rfl (yo hb_2 (o_call (as0 := [.ref 0, .ref 2]) (as1 := [.sl (List.map encI x4.1), .sl (List.map encI ([0, 1, 2, 3] : List Int))]) (caps := []) (aw1 := [.dead, .arr 3 1 (List.map encI x8.1), .dead]) rfl rfl rfl (k_flat (v := .bool x9) (slices_Equal_int_c x4.1 ([0, 1, 2, 3] : List Int) x9 hx9) (⟨pure_map encI_p _, pure_map encI_p _, trivial⟩) rfl (sq (v_pickT (v := .bool x9) rfl hb_2 rfl (sm (.bool x9) rfl ?_)))))))))
    rcases bool_cases x9 with hb_3 | hb_3
    ·replace hz := ite_T hz hb_3
     obtain ⟨x10, hx10, hz⟩ := bind_some hz
     refine yq hb_3 (v_move (v := .ref 1) rfl (yo hb_3 (o_buildSlice (rows := List.map encI [2]) (vs := [.int .i64 2]) Ty.s57 Ty.z3 rfl rfl rfl rfl rfl (aw' := [.arr 3 1 (List.map encI x4.1), .arr 3 1 (List.map encI x8.1), .arr 3 1 (List.map encI [0, 1, 2, 3]), .arr 3 1 (List.map encI [2])]) rfl (yo hb_3 (o_call (as0 := [.ref 1, .ref 3]) (as1 := [.sl (List.map encI x8.1), .sl (List.map encI ([2] : List Int))]) (caps := []) (aw1 := [.arr 3 1 (List.map encI x4.1), .dead, .arr 3 1 (List.map encI [0, 1, 2, 3]), .dead]) rfl rfl rfl (k_flat (v := .bool x10) (slices_Equal_int_c x8.1 ([2] : List Int) x10 hx10) (⟨pure_map encI_p _, pure_map encI_p _, trivial⟩) rfl (sq (v_pickT (v := .bool x10) rfl hb_3 rfl (sm (.bool x10) rfl ?_)))))))))
     rcases bool_cases x10 with hb_4 | hb_4
     ·replace hz := ite_T hz hb_4
      obtain ⟨x11, hx11, hz⟩ := bind_some hz
      obtain ⟨x12, hx12, hz⟩ := bind_some hz
      obtain ⟨x13, hx13, hz⟩ := bind_some hz
      refine yo hb_4 (o_call (as0 := []) (as1 := []) (caps := []) (aw1 := [.arr 3 1 (List.map encI x4.1), .arr 3 1 (List.map encI x8.1), .arr 3 1 (List.map encI [0, 1, 2, 3]), .arr 3 1 (List.map encI [2])]) rfl rfl rfl (k_fn (v := .agg [.sl (List.map encNode x11.Nodes), .int .i64 x11.Rings, .int .i64 x11.Room]) (crosslaw_meeting_c x11 hx11) (trivial) (pure_agg _ (pures_mem (⟨pure_map encNode_p _, pure_int _ _, pure_int _ _, trivial⟩))) (yo hb_4 (o_call (as0 := []) (as1 := []) (caps := []) (aw1 := [.arr 3 1 (List.map encI x4.1), .arr 3 1 (List.map encI x8.1), .arr 3 1 (List.map encI [0, 1, 2, 3]), .arr 3 1 (List.map encI [2])]) rfl rfl rfl (k_own1' (v := .ref 0) (xs := x12) (v' := .ref 4) (aw' := [.arr 3 1 (List.map encI x4.1), .arr 3 1 (List.map encI x8.1), .arr 3 1 (List.map encI [0, 1, 2, 3]), .arr 3 1 (List.map encI [2]), .arr 74 1 (List.map (encL encItem) x12)]) (crosslaw_two_c x12 hx12) (trivial) (encL_p encItem_p) (.inl ⟨_, rfl⟩) rfl rfl (yo hb_4 (o_call (as0 := [.agg [.sl (List.map encNode x11.Nodes), .int .i64 x11.Rings, .int .i64 x11.Room], .ref 4]) (as1 := [.agg [.sl (List.map encNode x11.Nodes), .int .i64 x11.Rings, .int .i64 x11.Room], .sl (List.map (encL encItem) x12)]) (caps := []) (aw1 := [.arr 3 1 (List.map encI x4.1), .arr 3 1 (List.map encI x8.1), .arr 3 1 (List.map encI [0, 1, 2, 3]), .arr 3 1 (List.map encI [2]), .dead]) rfl rfl rfl (k_flat (v := .int .i64 x13) (net_Sources_c x11 x12 x13 hx13) (⟨pure_agg _ (pures_mem (⟨pure_map encNode_p _, pure_int _ _, pure_int _ _, trivial⟩)), pure_map (encL_p encItem_p) _, trivial⟩) rfl (yq hb_4 (v_eql rfl rfl (sq (v_pickT (v := .bool (x13 == 0)) rfl hb_4 rfl (sa (.bool (x13 == 0)) rfl (RS.nil ?_))))))))))))))
      exact T.weakR (hK () trivial) (Weak.mkN [] [] (by decide) (none_kept _) rfl ⟨rn_bool ((congrArg (fun p => p) (Option.some.inj hz)).symm), trivial⟩ (rw_nil))
     replace hz := ite_F hz hb_4
     refine sn hb_4 (sn hb_4 (sn hb_4 (sn hb_4 (sq (v_pickF (v := .bool false) rfl hb_4 rfl (sa (.bool false) rfl (RS.nil ?_)))))))
     exact T.weakR (hK () trivial) (Weak.mkN [] [] (by decide) (none_kept _) rfl ⟨rn_bool ((congrArg (fun p => p) (Option.some.inj hz)).symm), trivial⟩ (rw_nil))
    replace hz := ite_F hz hb_3
    refine sn hb_3 (sn hb_3 (sn hb_3 (sq (v_pickF (v := .bool false) rfl hb_3 rfl (sm (.bool false) rfl (sn rfl (sn rfl (sn rfl (sn rfl (sq (v_pickF (v := .bool false) rfl rfl rfl ?_)))))))))))
    refine sa (.bool false) rfl (RS.nil ?_)
    exact T.weakR (hK () trivial) (Weak.mkN [] [] (by decide) (none_kept _) rfl ⟨rn_bool ((congrArg (fun p => p) (Option.some.inj hz)).symm), trivial⟩ (rw_nil))
   replace hz := ite_F hz hb_2
   refine sn hb_2 (sn hb_2 (sn hb_2 (sq (v_pickF (v := .bool false) rfl hb_2 rfl (sm (.bool false) rfl (sn rfl (sn rfl (sn rfl (sq (v_pickF (v := .bool false) rfl rfl rfl (sm (.bool false) rfl ?_)))))))))))
   refine sn rfl (sn rfl (sn rfl (sn rfl (sq (v_pickF (v := .bool false) rfl rfl rfl (sa (.bool false) rfl (RS.nil ?_)))))))
   exact T.weakR (hK () trivial) (Weak.mkN [] [] (by decide) (none_kept _) rfl ⟨rn_bool ((congrArg (fun p => p) (Option.some.inj hz)).symm), trivial⟩ (rw_nil))
  replace hz := ite_F hz hb_1
  refine sn hb_1 (sn hb_1 (sq (v_pickF (v := .bool false) rfl hb_1 rfl (sm (.bool false) rfl (sn rfl (sn rfl (sn rfl (sq (v_pickF (v := .bool false) rfl rfl rfl (sm (.bool false) rfl (sn rfl ?_)))))))))))
  refine sn rfl (sn rfl (sq (v_pickF (v := .bool false) rfl rfl rfl (sm (.bool false) rfl (sn rfl (sn rfl (sn rfl (sn rfl (sq (v_pickF (v := .bool false) rfl rfl rfl (sa (.bool false) rfl ?_)))))))))))
  refine RS.nil ?_
  exact T.weakR (hK () trivial) (Weak.mkN [] [] (by decide) (none_kept _) rfl ⟨rn_bool ((congrArg (fun p => p) (Option.some.inj hz)).symm), trivial⟩ (rw_nil))
theorem net_Ends_c (p0 : Net) (p1 : Int) (r : Int × Int × Int) (h : net_Ends p0 p1 = some r) : Fn Try.prog 30 [.agg [.sl (List.map encNode p0.Nodes), .int .i64 p0.Rings, .int .i64 p0.Room], .int .i64 p1] (.tup [.int .i64 r.1, .int .i64 r.2.1, .int .i64 r.2.2]) := by
  unfold net_Ends at h
  refine fn_of_T (N := 0) rfl Try.func30 rfl (by kernel_rfl) Try.ntmps30 rfl ?_
  show T _ _ _ _ (mkA 38 [(0, .agg [.sl (List.map encNode p0.Nodes), .int .i64 p0.Rings, .int .i64 p0.Room]), (1, .int .i64 p1)]) []
  refine T.seq (T.region (so (o_box (cs := [.sl (List.map encNode p0.Nodes), .int .i64 p0.Rings, .int .i64 p0.Room]) rfl rfl (aw' := [.box [.sl (List.map encNode p0.Nodes), .int .i64 p0.Rings, .int .i64 p0.Room]]) rfl (sa (.int .i64 0) rfl (sa (.int .i64 0) rfl (sa (.int .i64 0) rfl (RS.nil (T.seq (T.seq ?_)))))))))
  obtain ⟨x2, hx2, h⟩ := bind_some h
  refine T.region (so (o_load_ptr rfl rfl (loadRowA Ty.k56 Ty.c56 rfl (cs := [.sl (List.map encNode p0.Nodes), .int .i64 p0.Rings, .int .i64 p0.Room]) rfl (so (o_call (as0 := [.agg [.sl (List.map encNode p0.Nodes), .int .i64 p0.Rings, .int .i64 p0.Room]]) (as1 := [.agg [.sl (List.map encNode p0.Nodes), .int .i64 p0.Rings, .int .i64 p0.Room]]) (caps := []) (aw1 := [.box [.sl (List.map encNode p0.Nodes), .int .i64 p0.Rings, .int .i64 p0.Room]]) rfl rfl rfl (k_flat (v := .int .i64 x2) (net_Check_c p0 x2 hx2) (⟨pure_agg _ (pures_mem (⟨pure_map encNode_p _, pure_int _ _, pure_int _ _, trivial⟩)), trivial⟩) rfl (sa (.int .i64 x2) rfl (RS.nil (T.seq (T.region (sm (.int .i64 x2) rfl (sq (v_neq rfl rfl (RS.nil ?_))))))))))))))
  refine T.cond (b := x2 != 0) rfl (fun hb_1 => ?_) (fun hb_1 => ?_)
  ·replace h := ite_T h hb_1
   refine T.seq (T.region (sm (.int .i64 x2) rfl (sa (.int .i64 0) rfl (sa (.int .i64 0) rfl (sa (.int .i64 x2) rfl (RS.nil (T.rt (res_tmpA (v := .int .i64 0) rfl (res_tmpA (v := .int .i64 0) rfl ?_)))))))))
   refine res_tmpA (v := .int .i64 x2) rfl (res_done ?_)
   exact ret_data (v := .tup [.int .i64 0, .int .i64 0, .int .i64 x2]) rfl (pure_tup _ (pures_mem (⟨pure_int _ _, pure_int _ _, pure_int _ _, trivial⟩))) ⟨congrArg (fun r : Int × Int × Int => (.tup [.int .i64 r.1, .int .i64 r.2.1, .int .i64 r.2.2] : AV)) (Option.some.inj h), rfl⟩
  replace h := ite_F h hb_1
  refine T.skip (T.seq (T.join (Z := Unit) (fun _ => mkA 38 [(1, .int .i64 p1), (2, .ptr 0 0), (22, .bool ((decide (p1 < 0)) || decide (p1 ≥ p0.Rings)))]) (fun _ => [.box [.sl (List.map encNode p0.Nodes), .int .i64 p0.Rings, .int .i64 p0.Room]]) (fun _ => True) (fun _ _ => ?_) (fun hK => ?_)))
  ·refine T.cond (b := ((decide (p1 < 0)) || decide (p1 ≥ p0.Rings))) rfl (fun hb_3 => ?_) (fun hb_3 => ?_)
   ·replace h := ite_T h hb_3
    refine T.seq (T.region (sa (.int .i64 0) rfl (sa (.int .i64 0) rfl (sa (.int .i64 5) rfl (RS.nil (T.rt (res_tmpA (v := .int .i64 0) rfl (res_tmpA (v := .int .i64 0) rfl (res_tmpA (v := .int .i64 5) rfl ?_)))))))))
    refine res_done ?_
    exact ret_data (v := .tup [.int .i64 0, .int .i64 0, .int .i64 5]) rfl (pure_tup _ (pures_mem (⟨pure_int _ _, pure_int _ _, pure_int _ _, trivial⟩))) ⟨congrArg (fun r : Int × Int × Int => (.tup [.int .i64 r.1, .int .i64 r.2.1, .int .i64 r.2.2] : AV)) (Option.some.inj h), rfl⟩
   replace h := ite_F h hb_3
   refine T.skip (T.seq ?_)
   obtain ⟨x5, hx5, h⟩ := bind_some h
   refine T.region (so (o_load_ptr rfl rfl (loadRowA Ty.k56 Ty.c56 rfl (cs := [.sl (List.map encNode p0.Nodes), .int .i64 p0.Rings, .int .i64 p0.Room]) rfl (so (o_call (as0 := [.agg [.sl (List.map encNode p0.Nodes), .int .i64 p0.Rings, .int .i64 p0.Room]]) (as1 := [.agg [.sl (List.map encNode p0.Nodes), .int .i64 p0.Rings, .int .i64 p0.Room]]) (caps := []) (aw1 := [.box [.sl (List.map encNode p0.Nodes), .int .i64 p0.Rings, .int .i64 p0.Room]]) rfl rfl rfl (k_own' (v := .tup [.ref 0, .int .i64 x5.2]) (obs := [.arr 121 2 (List.map encEnds x5.1)]) (v' := .tup [.ref 1, .int .i64 x5.2]) (aw' := [.box [.sl (List.map encNode p0.Nodes), .int .i64 p0.Rings, .int .i64 p0.Room], .arr 121 2 (List.map encEnds x5.1)]) (net_look_c p0 x5 hx5) (⟨pure_agg _ (pures_mem (⟨pure_map encNode_p _, pure_int _ _, pure_int _ _, trivial⟩)), trivial⟩) rfl (obs_cons (flatOb_map fun _ => rfl) obs_nil) rfl rfl (sm (.tup [.ref 1, .int .i64 x5.2]) rfl (sq (v_extract (v := .ref 1) rfl rfl (sq (v_extract (v := .int .i64 x5.2) rfl rfl (sa (.ref 1) rfl (sa (.int .i64 x5.2) rfl (RS.nil (T.seq ?_)))))))))))))))
   obtain ⟨x10, hx10, h⟩ := bind_some h
   obtain ⟨x11, hx11, h⟩ := bind_some h
   obtain ⟨x12, hx12, h⟩ := bind_some h
   obtain ⟨x13, hx13, h⟩ := bind_some h
   refine T.drawn mixed (k := 13) rfl (RA.join 0 #[true, true, true, true, true, true, true, true, true, true, true, true, true] (mkA 38 [(1, .int .i64 p1), (2, .ptr 0 0), (4, .int .i64 x11.src), (5, .int .i64 x13.dst), (6, .int .i64 0), (8, .ref 1), (9, .int .i64 x5.2), (22, .bool ((decide (p1 < 0)) || decide (p1 ≥ p0.Rings))), (23, .tup [.ref 1, .int .i64 x5.2]), (24, .agg [.sl (List.map encNode p0.Nodes), .int .i64 p0.Rings, .int .i64 p0.Room]), (25, .tup [.ref 1, .int .i64 x5.2]), (26, .ref 1), (27, .int .i64 x5.2), (28, .ref 1), (29, .int .i64 p1), (30, .aptr 1 2 x10 0), (31, .aptr 1 2 x10 0), (32, .int .i64 x11.src), (33, .ref 1), (34, .int .i64 p1), (35, .aptr 1 2 x12 0), (36, .aptr 1 2 x12 1), (37, .int .i64 x13.dst)]) [.box [.sl (List.map encNode p0.Nodes), .int .i64 p0.Rings, .int .i64 p0.Room], .arr 121 2 (List.map encEnds x5.1)] ?_ (fun hS4 => ?_))
   ·refine RA.done (by decide +kernel) (T.rt (res_tmpA (v := .int .i64 x11.src) rfl (res_tmpA (v := .int .i64 x13.dst) rfl (res_tmpA (v := .int .i64 0) rfl (res_done ?_)))))
    exact ret_data (v := .tup [.int .i64 x11.src, .int .i64 x13.dst, .int .i64 0]) rfl (pure_tup _ (pures_mem (⟨pure_int _ _, pure_int _ _, pure_int _ _, trivial⟩))) ⟨congrArg (fun r : Int × Int × Int => (.tup [.int .i64 r.1, .int .i64 r.2.1, .int .i64 r.2.2] : AV)) (Option.some.inj h), rfl⟩
   ·refine RA.t0 (i := 0) (li' := #[true, false, false, false, false, false, false, false, false, false, false, false, false]) rfl (by decide +kernel) (by decide +kernel) (by decide +kernel) (by decide +kernel) rfl rfl (v_move (v := .ref 1) rfl (RA.t0 (i := 1) (li' := #[true, true, false, false, false, false, false, false, false, false, false, false, false]) rfl (by decide +kernel) (by decide +kernel) (by decide +kernel) (by decide +kernel) rfl rfl (v_move (v := .int .i64 p1) rfl (RA.t0 (i := 2) (li' := #[true, true, true, false, false, false, false, false, false, false, false, false, false]) rfl (by decide +kernel) (by decide +kernel) (by decide +kernel) (by decide +kernel) rfl rfl (v_index_ref' (en := encEnds) Ty.s115 rfl rfl rfl hx10 (RA.t0 (i := 3) (li' := #[true, true, true, true, false, false, false, false, false, false, false, false, false]) rfl (by decide +kernel) (by decide +kernel) (by decide +kernel) (by decide +kernel) rfl rfl (v_fieldAddr_aptr Ty.f121_0 rfl (off' := 0) rfl (RA.t0 (i := 5) (li' := #[true, true, true, true, false, true, false, false, false, false, false, false, false]) rfl (by decide +kernel) (by decide +kernel) (by decide +kernel) (by decide +kernel) rfl rfl (v_move (v := .ref 1) rfl (RA.t0 (i := 6) (li' := #[true, true, true, true, false, true, true, false, false, false, false, false, false]) rfl (by decide +kernel) (by decide +kernel) (by decide +kernel) (by decide +kernel) rfl rfl (v_move (v := .int .i64 p1) rfl (RA.t0 (i := 7) (li' := #[true, true, true, true, false, true, true, true, false, false, false, false, false]) rfl (by decide +kernel) (by decide +kernel) (by decide +kernel) (by decide +kernel) rfl rfl (v_index_ref' (en := encEnds) Ty.s115 rfl rfl rfl hx12 (RA.t0 (i := 8) (li' := #[true, true, true, true, false, true, true, true, true, false, false, false, false]) rfl (by decide +kernel) (by decide +kernel) (by decide +kernel) (by decide +kernel) rfl rfl (v_fieldAddr_aptr Ty.f121_1 rfl (off' := 1) rfl (RA.a2 (i1 := 4) (l1 := #[true, true, true, true, true, true, true, true, true, false, false, false, false]) (i2 := 9) (l2 := #[true, true, true, true, false, true, true, true, true, true, false, false, false]) (by decide +kernel) (by decide +kernel) (by decide +kernel) ?_ ?_))))))))))))))))
    ·refine RO.op rfl rfl (o_load_aptr' (en := encEnds) (a := x11) rfl rfl hx11 (loadRow1 Ty.k3 (c := .int .i64 x11.src) rfl (RA.t0 (i := 10) (li' := #[true, true, true, true, true, true, true, true, true, false, true, false, false]) rfl (by decide +kernel) (by decide +kernel) (by decide +kernel) (by decide +kernel) rfl rfl (v_assign (v := .int .i64 x11.src) rfl (RA.a1 (i1 := 9) (l1 := #[true, true, true, true, true, true, true, true, true, true, true, false, false]) (by decide +kernel) (by decide +kernel) (RO.op rfl rfl (o_load_aptr' (en := encEnds) (a := x13) rfl rfl hx13 (loadRow1 Ty.k3 (c := .int .i64 x13.dst) rfl (RA.t0 (i := 11) (li' := #[true, true, true, true, true, true, true, true, true, true, true, true, false]) rfl (by decide +kernel) (by decide +kernel) (by decide +kernel) (by decide +kernel) rfl rfl (v_assign (v := .int .i64 x13.dst) rfl (RA.t0 (i := 12) (li' := #[true, true, true, true, true, true, true, true, true, true, true, true, true]) rfl (by decide +kernel) (by decide +kernel) (by decide +kernel) (by decide +kernel) rfl rfl (v_assign (v := .int .i64 0) rfl ?_))))))))))))
     exact RA.weakR hS4 (Weak.mkN [] [0, 1] (by decide) (none_kept _) rfl ⟨rn_int rfl, rn_ptr rfl, rn_int rfl, rn_int rfl, rn_int rfl, rn_ref rfl, rn_int rfl, rn_bool rfl, rn_tup ⟨rn_ref rfl, rn_int rfl, trivial⟩, rn_agg ⟨rn_s rfl, rn_int rfl, rn_int rfl, trivial⟩, rn_tup ⟨rn_ref rfl, rn_int rfl, trivial⟩, rn_ref rfl, rn_int rfl, rn_ref rfl, rn_int rfl, rn_aptr rfl rfl, rn_aptr rfl rfl, rn_int rfl, rn_ref rfl, rn_int rfl, rn_aptr rfl rfl, rn_aptr rfl rfl, rn_int rfl, trivial⟩ (rw_bs [.sl (List.map encNode p0.Nodes), .int .i64 p0.Rings, .int .i64 p0.Room] rfl (rw_ar rfl rfl (rw_nil))))
    ·refine RO.op rfl rfl (o_load_aptr' (en := encEnds) (a := x13) rfl rfl hx13 (loadRow1 Ty.k3 (c := .int .i64 x13.dst) rfl (RA.a1 (i1 := 4) (l1 := #[true, true, true, true, true, true, true, true, true, true, false, false, false]) (by decide +kernel) (by decide +kernel) (RO.op rfl rfl (o_load_aptr' (en := encEnds) (a := x11) rfl rfl hx11 (loadRow1 Ty.k3 (c := .int .i64 x11.src) rfl (RA.t0 (i := 10) (li' := #[true, true, true, true, true, true, true, true, true, true, true, false, false]) rfl (by decide +kernel) (by decide +kernel) (by decide +kernel) (by decide +kernel) rfl rfl (v_assign (v := .int .i64 x11.src) rfl (RA.t0 (i := 11) (li' := #[true, true, true, true, true, true, true, true, true, true, true, true, false]) rfl (by decide +kernel) (by decide +kernel) (by decide +kernel) (by decide +kernel) rfl rfl (v_assign (v := .int .i64 x13.dst) rfl (RA.t0 (i := 12) (li' := #[true, true, true, true, true, true, true, true, true, true, true, true, true]) rfl (by decide +kernel) (by decide +kernel) (by decide +kernel) (by decide +kernel) rfl rfl (v_assign (v := .int .i64 0) rfl ?_))))))))))))
     exact RA.weakR hS4 (Weak.mkN [] [0, 1] (by decide) (none_kept _) rfl ⟨rn_int rfl, rn_ptr rfl, rn_int rfl, rn_int rfl, rn_int rfl, rn_ref rfl, rn_int rfl, rn_bool rfl, rn_tup ⟨rn_ref rfl, rn_int rfl, trivial⟩, rn_agg ⟨rn_s rfl, rn_int rfl, rn_int rfl, trivial⟩, rn_tup ⟨rn_ref rfl, rn_int rfl, trivial⟩, rn_ref rfl, rn_int rfl, rn_ref rfl, rn_int rfl, rn_aptr rfl rfl, rn_aptr rfl rfl, rn_int rfl, rn_ref rfl, rn_int rfl, rn_aptr rfl rfl, rn_aptr rfl rfl, rn_int rfl, trivial⟩ (rw_bs [.sl (List.map encNode p0.Nodes), .int .i64 p0.Rings, .int .i64 p0.Room] rfl (rw_ar rfl rfl (rw_nil))))
  refine T.region (sm (.int .i64 p1) rfl (sq (v_lss rfl rfl (sm (.bool (decide (p1 < 0))) rfl ?_))))
  rcases bool_cases (decide (p1 < 0)) with hb_2 | hb_2
  ·refine sn hb_2 (sn hb_2 (sn hb_2 (sn hb_2 (sq (v_pickT (v := .bool true) rfl hb_2 rfl (RS.nil ?_))))))
   exact T.weakR (hK () trivial) (Weak.mkN [] [0] (by decide) (none_kept _) rfl ⟨rn_int rfl, rn_ptr rfl, rn_bool (by simp only [hb_2, bz, if_true, if_false, Bool.false_eq_true]), trivial⟩ (rw_bs [.sl (List.map encNode p0.Nodes), .int .i64 p0.Rings, .int .i64 p0.Room] rfl (rw_nil)))
  refine yq hb_2 (v_move (v := .int .i64 p1) rfl (yq hb_2 (v_fieldAddr_ptr Ty.f56_1 rfl (off' := 1) rfl (yo hb_2 (o_load_ptr rfl rfl (loadRow1 Ty.k3 (c := .int .i64 p0.Rings) rfl (yq hb_2 (v_geq rfl rfl (sq (v_pickF (v := .bool (decide (p1 ≥ p0.Rings))) rfl hb_2 rfl (RS.nil ?_)))))))))))
  exact T.weakR (hK () trivial) (Weak.mkN [] [0] (by decide) (none_kept _) rfl ⟨rn_int rfl, rn_ptr rfl, rn_bool (by simp only [hb_2, bz, if_true, if_false, Bool.false_eq_true]), trivial⟩ (rw_bs [.sl (List.map encNode p0.Nodes), .int .i64 p0.Rings, .int .i64 p0.Room] rfl (rw_nil)))
theorem crosslaw_NetStands_c (p0 : Net) (r : Bool) (h : crosslaw_NetStands p0 = some r) : Fn Try.prog 6 [.agg [.sl (List.map encNode p0.Nodes), .int .i64 p0.Rings, .int .i64 p0.Room]] (.bool r) := by
  unfold crosslaw_NetStands at h
  refine fn_of_T (N := 0) rfl Try.func6 rfl (by kernel_rfl) Try.ntmps6 rfl ?_
  show T _ _ _ _ (mkA 74 [(0, .agg [.sl (List.map encNode p0.Nodes), .int .i64 p0.Rings, .int .i64 p0.Room])]) []
  refine T.seq (T.region (so (o_box (cs := [.sl (List.map encNode p0.Nodes), .int .i64 p0.Rings, .int .i64 p0.Room]) rfl rfl (aw' := [.box [.sl (List.map encNode p0.Nodes), .int .i64 p0.Rings, .int .i64 p0.Room]]) rfl (sa (.bool false) rfl (RS.nil (T.seq ?_))))))
  obtain ⟨x2, hx2, h⟩ := bind_some h
  refine T.region (so (o_load_ptr rfl rfl (loadRowA Ty.k56 Ty.c56 rfl (cs := [.sl (List.map encNode p0.Nodes), .int .i64 p0.Rings, .int .i64 p0.Room]) rfl (so (o_call (as0 := [.agg [.sl (List.map encNode p0.Nodes), .int .i64 p0.Rings, .int .i64 p0.Room]]) (as1 := [.agg [.sl (List.map encNode p0.Nodes), .int .i64 p0.Rings, .int .i64 p0.Room]]) (caps := []) (aw1 := [.box [.sl (List.map encNode p0.Nodes), .int .i64 p0.Rings, .int .i64 p0.Room]]) rfl rfl rfl (k_own' (v := .tup [.ref 0, .int .i64 x2.2]) (obs := [.arr 3 1 (List.map encI x2.1)]) (v' := .tup [.ref 1, .int .i64 x2.2]) (aw' := [.box [.sl (List.map encNode p0.Nodes), .int .i64 p0.Rings, .int .i64 p0.Room], .arr 3 1 (List.map encI x2.1)]) (net_Order_c p0 x2 hx2) (⟨pure_agg _ (pures_mem (⟨pure_map encNode_p _, pure_int _ _, pure_int _ _, trivial⟩)), trivial⟩) rfl (obs_cons (flatOb_map fun _ => rfl) obs_nil) rfl rfl (sm (.tup [.ref 1, .int .i64 x2.2]) rfl (sq (v_extract (v := .ref 1) rfl rfl (sq (v_extract (v := .int .i64 x2.2) rfl rfl (sa (.ref 1) rfl (sa (.int .i64 x2.2) rfl (RS.nil (T.seq ?_)))))))))))))))
  obtain ⟨x3, hx3, h⟩ := bind_some h
  refine T.join (Z := Unit) (fun _ => mkA 74 [(1, .ptr 0 0), (3, .ref 1), (22, .bool ((!x3) || x2.2 != 0))]) (fun _ => [.box [.sl (List.map encNode p0.Nodes), .int .i64 p0.Rings, .int .i64 p0.Room], .arr 3 1 (List.map encI x2.1)]) (fun _ => True) (fun _ _ => ?_) (fun hK => ?_)
  ·refine T.cond (b := ((!x3) || x2.2 != 0)) rfl (fun hb_2 => ?_) (fun hb_2 => ?_)
   ·replace h := ite_T h hb_2
    refine T.seq ?_
    obtain ⟨x6, hx6, h⟩ := bind_some h
    refine T.region (so (o_call (as0 := []) (as1 := []) (caps := []) (aw1 := [.box [.sl (List.map encNode p0.Nodes), .int .i64 p0.Rings, .int .i64 p0.Room], .arr 3 1 (List.map encI x2.1)]) rfl rfl rfl (k_flat (v := .bool x6) (crosslaw_netted_c x6 hx6) (trivial) rfl (sa (.bool x6) rfl (RS.nil (T.rt (res_tmpA (v := .bool x6) rfl (res_done ?_))))))))
    exact ret_data (v := .bool x6) rfl (pure_bool _) ⟨congrArg (fun r : Bool => (.bool r : AV)) (Option.some.inj h), rfl⟩
   replace h := ite_F h hb_2
   refine T.skip (T.seq (T.region (so (o_makeMap rfl (aw' := [.box [.sl (List.map encNode p0.Nodes), .int .i64 p0.Rings, .int .i64 p0.Room], .arr 3 1 (List.map encI x2.1), .mp (List.map kI (List.map Prod.fst ([] : List (Int × Int)))) (List.map kI (List.map Prod.snd ([] : List (Int × Int))))]) rfl (sa (.mpr 2) rfl (RS.nil (T.seq (T.seq (T.region (sm (.ref 1) rfl ?_))))))))))
   refine sq (v_len_ref (en := encI) Ty.s57 rfl rfl (sm (.int .i64 0) rfl (RS.nil (T.block (T.iter (fun ss_5 : Int × (List (Int × Int)) => mkA 74 [(1, .ptr 0 0), (3, .ref 1), (5, .mpr 2), (25, .ref 1), (26, .int .i64 ((x2.1).length : Int)), (27, .int .i64 ss_5.1)]) (fun ss_5 => [.box [.sl (List.map encNode p0.Nodes), .int .i64 p0.Rings, .int .i64 p0.Room], .arr 3 1 (List.map encI x2.1), .mp (List.map kI (List.map Prod.fst ss_5.2)) (List.map kI (List.map Prod.snd ss_5.2))]) h (Weak.mkN [] [0, 1, 2] (by decide) (none_kept _) rfl ⟨rn_ptr rfl, rn_ref rfl, rn_mpr rfl, rn_ref rfl, rn_int rfl, rn_int rfl, trivial⟩ (rw_bs [.sl (List.map encNode p0.Nodes), .int .i64 p0.Rings, .int .i64 p0.Room] rfl (rw_ar rfl rfl (rw_mp (ek := kI) (ev := kI) (ys := ([] : List (Int × Int))) rfl (fun _ => pure_int _ _) (fun _ => pure_int _ _) rfl (rw_nil))))) (fun ss_5 v_6 h hv_6 => ?_))))))
   obtain ⟨s7, s8⟩ := ss_5
   replace h : crosslaw_NetStands_l2 p0 x2 s7 s8 = some v_6 := h
   try dsimp only
   unfold crosslaw_NetStands_l2 at h
   refine T.seq (T.region (sq (v_lss rfl rfl (RS.nil (T.seq (T.cond (b := decide (s7 < ((x2.1).length : Int))) rfl (fun hb_7 => ?_) (fun hb_7 => ?_)))))))
   ·replace h := ite_T h hb_7
    refine T.skip (T.seq (T.block (T.seq ?_)))
    obtain ⟨x11, hx11, h⟩ := bind_some h
    obtain ⟨x12, hx12, h⟩ := bind_some h
    refine T.region (sm (.int .i64 s7) rfl (sq (v_index_ref' (en := encI) Ty.s57 rfl rfl rfl hx11 (so (o_load_aptr' (en := encI) (a := x12) rfl rfl hx12 (loadRow1 Ty.k3 (c := .int .i64 x12) rfl (sa (.int .i64 s7) rfl (sa (.int .i64 x12) rfl (RS.nil (T.region (sm (.mpr 2) rfl (sm (.int .i64 x12) rfl ?_))))))))))))
    refine sm (.int .i64 s7) rfl (so (o_mapPut (ek := kI) (ev := kI) (xs := s8) (k := x12) (a := s7) (.inl rfl) Try.underlying60 (KeyT.int Try.underlying3) rfl rfl rfl rfl (aw' := [.box [.sl (List.map encNode p0.Nodes), .int .i64 p0.Rings, .int .i64 p0.Room], .arr 3 1 (List.map encI x2.1), .mp (List.map kI (List.map Prod.fst (mset x12 s7 s8))) (List.map kI (List.map Prod.snd (mset x12 s7 s8)))]) rfl (RS.nil (T.region (sq (v_add rfl rfl (sm (.int .i64 (IntKind.i64.wrap (s7 + 1))) rfl (RS.nil ?_))))))))
    exact ⟨(IntKind.i64.wrap (s7 + 1), (mset x12 s7 s8)), (Option.some.inj h).symm, Weak.mkN [] [0, 1, 2] (by decide) (none_kept _) rfl ⟨rn_ptr rfl, rn_ref rfl, rn_mpr rfl, rn_ref rfl, rn_int rfl, rn_int rfl, trivial⟩ (rw_bs [.sl (List.map encNode p0.Nodes), .int .i64 p0.Rings, .int .i64 p0.Room] rfl (rw_ar rfl rfl (rw_mp (ek := kI) (ev := kI) (ys := (mset x12 s7 s8)) rfl (fun _ => pure_int _ _) (fun _ => pure_int _ _) rfl (rw_nil))))⟩
   replace h := ite_F h hb_7
   refine T.exit ?_
   obtain ⟨w_8, h, hw_8⟩ := map_inr h
   replace h := h.trans (congrArg some (hv_6 _ hw_8))
   refine T.seq (T.join (Z := Unit) (fun _ => mkA 74 [(1, .ptr 0 0), (5, .mpr 1), (49, .bool ((((s8).length : Int) != ((p0.Nodes).length : Int)) || ((x2.1).length : Int) != ((p0.Nodes).length : Int)))]) (fun _ => [.box [.sl (List.map encNode p0.Nodes), .int .i64 p0.Rings, .int .i64 p0.Room], .mp (List.map kI (List.map Prod.fst s8)) (List.map kI (List.map Prod.snd s8))]) (fun _ => True) (fun _ _ => ?_) (fun hK => ?_))
   ·refine T.cond (b := ((((s8).length : Int) != ((p0.Nodes).length : Int)) || ((x2.1).length : Int) != ((p0.Nodes).length : Int))) rfl (fun hb_10 => ?_) (fun hb_10 => ?_)
    ·replace h := ite_T h hb_10
     refine T.seq (T.region (sa (.bool false) rfl (RS.nil (T.rt (res_tmpA (v := .bool false) rfl (res_done ?_))))))
     exact ret_data (v := .bool false) rfl (pure_bool _) ⟨congrArg (fun r : Bool => (.bool r : AV)) (Option.some.inj h), rfl⟩
    replace h := ite_F h hb_10
    refine T.skip (T.seq (T.seq (T.region (sq (v_fieldAddr_ptr Ty.f56_1 rfl (off' := 1) rfl (so (o_load_ptr rfl rfl (loadRow1 Ty.k3 (c := .int .i64 p0.Rings) rfl (sm (.int .i64 0) rfl (RS.nil (T.block (T.iter (fun ss_17 : Int => mkA 74 [(1, .ptr 0 0), (5, .mpr 1), (51, .int .i64 p0.Rings), (52, .int .i64 ss_17)]) (fun ss_17 => [.box [.sl (List.map encNode p0.Nodes), .int .i64 p0.Rings, .int .i64 p0.Room], .mp (List.map kI (List.map Prod.fst s8)) (List.map kI (List.map Prod.snd s8))]) h (Weak.mkN [] [0, 1] (by decide) (none_kept _) rfl ⟨rn_ptr rfl, rn_mpr rfl, rn_int rfl, rn_int rfl, trivial⟩ (rw_bs [.sl (List.map encNode p0.Nodes), .int .i64 p0.Rings, .int .i64 p0.Room] rfl (rw_mp (ek := kI) (ev := kI) (ys := s8) rfl (fun _ => pure_int _ _) (fun _ => pure_int _ _) rfl (rw_nil)))) (fun ss_17 v_18 h hv_18 => ?_)))))))))))))
    revert hv_18 h; revert ss_17; intro s14 h hv_18
    replace h : crosslaw_NetStands_l1 p0 s8 s14 = some v_18 := h
    try dsimp only
    unfold crosslaw_NetStands_l1 at h
    refine T.seq (T.region (sq (v_lss rfl rfl (RS.nil (T.seq (T.cond (b := decide (s14 < p0.Rings)) rfl (fun hb_19 => ?_) (fun hb_19 => ?_)))))))
    ·replace h := ite_T h hb_19
     refine T.skip (T.seq (T.block (T.seq (T.region (sm (.int .i64 s14) rfl (sa (.int .i64 s14) rfl (RS.nil (T.seq ?_))))))))
     obtain ⟨x16, hx16, h⟩ := bind_some h
     refine T.region (so (o_load_ptr rfl rfl (loadRowA Ty.k56 Ty.c56 rfl (cs := [.sl (List.map encNode p0.Nodes), .int .i64 p0.Rings, .int .i64 p0.Room]) rfl (sm (.int .i64 s14) rfl (so (o_call (as0 := [.agg [.sl (List.map encNode p0.Nodes), .int .i64 p0.Rings, .int .i64 p0.Room], .int .i64 s14]) (as1 := [.agg [.sl (List.map encNode p0.Nodes), .int .i64 p0.Rings, .int .i64 p0.Room], .int .i64 s14]) (caps := []) (aw1 := [.box [.sl (List.map encNode p0.Nodes), .int .i64 p0.Rings, .int .i64 p0.Room], .mp (List.map kI (List.map Prod.fst s8)) (List.map kI (List.map Prod.snd s8))]) rfl rfl rfl (k_flat (v := .tup [.int .i64 x16.1, .int .i64 x16.2.1, .int .i64 x16.2.2]) (net_Ends_c p0 s14 x16 hx16) (⟨pure_agg _ (pures_mem (⟨pure_map encNode_p _, pure_int _ _, pure_int _ _, trivial⟩)), pure_int _ _, trivial⟩) rfl (sm (.tup [.int .i64 x16.1, .int .i64 x16.2.1, .int .i64 x16.2.2]) rfl (sq (v_extract (v := .int .i64 x16.1) rfl rfl (sq (v_extract (v := .int .i64 x16.2.1) rfl rfl (sq (v_extract (v := .int .i64 x16.2.2) rfl rfl (sa (.int .i64 x16.1) rfl (sa (.int .i64 x16.2.1) rfl ?_))))))))))))))))
     refine sa (.int .i64 x16.2.2) rfl (RS.nil (T.join (Z := Unit) (fun _ => mkA 74 [(1, .ptr 0 0), (5, .mpr 1), (51, .int .i64 p0.Rings), (52, .int .i64 s14), (72, .bool ((x16.2.2 != 0) || decide (((mget x16.1 s8).getD 0) ≥ ((mget x16.2.1 s8).getD 0))))]) (fun _ => [.box [.sl (List.map encNode p0.Nodes), .int .i64 p0.Rings, .int .i64 p0.Room], .mp (List.map kI (List.map Prod.fst s8)) (List.map kI (List.map Prod.snd s8))]) (fun _ => True) (fun _ _ => ?_) (fun hK => ?_)))
     ·refine T.cond (b := ((x16.2.2 != 0) || decide (((mget x16.1 s8).getD 0) ≥ ((mget x16.2.1 s8).getD 0)))) rfl (fun hb_21 => ?_) (fun hb_21 => ?_)
      ·replace h := ite_T h hb_21
       refine T.seq (T.region (sa (.bool false) rfl (RS.nil (T.rt ?_))))
       obtain ⟨w_22, h, hw_22⟩ := map_inr h
       replace h := h.trans (congrArg some (hv_18 _ hw_22))
       refine res_tmpA (v := .bool false) rfl (res_done ?_)
       exact ret_data (v := .bool false) rfl (pure_bool _) ⟨congrArg (fun r : Bool => (.bool r : AV)) (Option.some.inj h), rfl⟩
      replace h := ite_F h hb_21
      refine T.skip (T.region (sq (v_add rfl rfl (sm (.int .i64 (IntKind.i64.wrap (s14 + 1))) rfl (RS.nil ?_)))))
      exact ⟨IntKind.i64.wrap (s14 + 1), (Option.some.inj h).symm, Weak.mkN [] [0, 1] (by decide) (none_kept _) rfl ⟨rn_ptr rfl, rn_mpr rfl, rn_int rfl, rn_int rfl, trivial⟩ (rw_bs [.sl (List.map encNode p0.Nodes), .int .i64 p0.Rings, .int .i64 p0.Room] rfl (rw_mp (ek := kI) (ev := kI) (ys := s8) rfl (fun _ => pure_int _ _) (fun _ => pure_int _ _) rfl (rw_nil)))⟩
     refine T.region (sm (.int .i64 x16.2.2) rfl (sq (v_neq rfl rfl (sm (.bool (x16.2.2 != 0)) rfl ?_))))
     rcases bool_cases (x16.2.2 != 0) with hb_20 | hb_20
     ·refine sn hb_20 (sn hb_20 (sn hb_20 (sn hb_20 (sn hb_20 (sn hb_20 (sn hb_20 (sq (v_pickT (v := .bool true) rfl hb_20 rfl (RS.nil ?_)))))))))
      exact T.weakR (hK () trivial) (Weak.mkN [] [0, 1] (by decide) (none_kept _) rfl ⟨rn_ptr rfl, rn_mpr rfl, rn_int rfl, rn_int rfl, rn_bool (by simp only [hb_20, bz, if_true, if_false, Bool.false_eq_true]), trivial⟩ (rw_bs [.sl (List.map encNode p0.Nodes), .int .i64 p0.Rings, .int .i64 p0.Room] rfl (rw_mp (ek := kI) (ev := kI) (ys := s8) rfl (fun _ => pure_int _ _) (fun _ => pure_int _ _) rfl (rw_nil))))
     refine yq hb_20 (v_move (v := .mpr 1) rfl (yq hb_20 (v_move (v := .int .i64 x16.1) rfl (yo hb_20 (o_lookup (ek := kI) (ev := kI) (xs := s8) (k := x16.1) (z0 := 0) Try.underlying60 (KeyT.int Try.underlying3) Ty.w3 (fun _ _ _ => .int _ _) rfl rfl rfl (yq hb_20 (v_move (v := .mpr 1) rfl (yq hb_20 (v_move (v := .int .i64 x16.2.1) rfl (yo hb_20 (o_lookup (ek := kI) (ev := kI) (xs := s8) (k := x16.2.1) (z0 := 0) Try.underlying60 (KeyT.int Try.underlying3) Ty.w3 (fun _ _ _ => .int _ _) rfl rfl rfl (yq hb_20 (v_geq rfl rfl (sq (v_pickF (v := .bool (decide (((mget x16.1 s8).getD 0) ≥ ((mget x16.2.1 s8).getD 0)))) rfl hb_20 rfl (RS.nil ?_))))))))))))))))
     exact T.weakR (hK () trivial) (Weak.mkN [] [0, 1] (by decide) (none_kept _) rfl ⟨rn_ptr rfl, rn_mpr rfl, rn_int rfl, rn_int rfl, rn_bool (by simp only [hb_20, bz, if_true, if_false, Bool.false_eq_true]), trivial⟩ (rw_bs [.sl (List.map encNode p0.Nodes), .int .i64 p0.Rings, .int .i64 p0.Room] rfl (rw_mp (ek := kI) (ev := kI) (ys := s8) rfl (fun _ => pure_int _ _) (fun _ => pure_int _ _) rfl (rw_nil))))
    replace h := ite_F h hb_19
    refine T.exit ?_
    obtain ⟨w_23, h, hw_23⟩ := map_inr h
    replace h := h.trans (congrArg some (hv_18 _ hw_23))
    refine T.seq (T.region (sa (.bool true) rfl (RS.nil (T.rt (res_tmpA (v := .bool true) rfl (res_done ?_))))))
    exact ret_data (v := .bool true) rfl (pure_bool _) ⟨congrArg (fun r : Bool => (.bool r : AV)) (Option.some.inj h), rfl⟩
   refine T.region (sm (.mpr 2) rfl (so (o_len_mp (ek := kI) (ev := kI) (xs := s8) Try.underlying60 rfl rfl (sq (v_fieldAddr_ptr Ty.f56_0 rfl (off' := 0) rfl (so (o_load_ptr rfl rfl (loadRow1 Ty.k54 (c := .sl (List.map encNode p0.Nodes)) rfl (sq (v_len_sl Ty.s54 rfl (sq (v_neq rfl rfl (sm (.bool (((s8).length : Int) != ((p0.Nodes).length : Int))) rfl ?_)))))))))))))
   rcases bool_cases (((s8).length : Int) != ((p0.Nodes).length : Int)) with hb_9 | hb_9
   ·refine sn hb_9 (sn hb_9 (sn hb_9 (sn hb_9 (sn hb_9 (sn hb_9 (sq (v_pickT (v := .bool true) rfl hb_9 rfl (RS.nil ?_))))))))
    exact T.weakR (hK () trivial) (Weak.mkN [] [0, 2] (by decide) (none_kept _) rfl ⟨rn_ptr rfl, rn_mpr rfl, rn_bool (by simp only [hb_9, bz, if_true, if_false, Bool.false_eq_true]), trivial⟩ (rw_bs [.sl (List.map encNode p0.Nodes), .int .i64 p0.Rings, .int .i64 p0.Room] rfl (rw_mp (ek := kI) (ev := kI) (ys := s8) rfl (fun _ => pure_int _ _) (fun _ => pure_int _ _) rfl (rw_nil))))
   refine yq hb_9 (v_move (v := .ref 1) rfl (yq hb_9 (v_len_ref (en := encI) Ty.s57 rfl rfl (yq hb_9 (v_fieldAddr_ptr Ty.f56_0 rfl (off' := 0) rfl (yo hb_9 (o_load_ptr rfl rfl (loadRow1 Ty.k54 (c := .sl (List.map encNode p0.Nodes)) rfl (yq hb_9 (v_len_sl Ty.s54 rfl (yq hb_9 (v_neq rfl rfl (sq (v_pickF (v := .bool (((x2.1).length : Int) != ((p0.Nodes).length : Int))) rfl hb_9 rfl (RS.nil ?_)))))))))))))))
   exact T.weakR (hK () trivial) (Weak.mkN [] [0, 2] (by decide) (none_kept _) rfl ⟨rn_ptr rfl, rn_mpr rfl, rn_bool (by simp only [hb_9, bz, if_true, if_false, Bool.false_eq_true]), trivial⟩ (rw_bs [.sl (List.map encNode p0.Nodes), .int .i64 p0.Rings, .int .i64 p0.Room] rfl (rw_mp (ek := kI) (ev := kI) (ys := s8) rfl (fun _ => pure_int _ _) (fun _ => pure_int _ _) rfl (rw_nil))))
  refine T.region (so (o_call (as0 := []) (as1 := []) (caps := []) (aw1 := [.box [.sl (List.map encNode p0.Nodes), .int .i64 p0.Rings, .int .i64 p0.Room], .arr 3 1 (List.map encI x2.1)]) rfl rfl rfl (k_flat (v := .bool x3) (crosslaw_netted_c x3 hx3) (trivial) rfl (sq (v_not rfl (sm (.bool (!x3)) rfl ?_))))))
  rcases bool_cases (!x3) with hb_1 | hb_1
  ·refine sn hb_1 (sn hb_1 (sq (v_pickT (v := .bool true) rfl hb_1 rfl (RS.nil ?_))))
   exact T.weakR (hK () trivial) (Weak.mkN [] [0, 1] (by decide) (none_kept _) rfl ⟨rn_ptr rfl, rn_ref rfl, rn_bool (by simp only [hb_1, bz, if_true, if_false, Bool.false_eq_true]), trivial⟩ (rw_bs [.sl (List.map encNode p0.Nodes), .int .i64 p0.Rings, .int .i64 p0.Room] rfl (rw_ar rfl rfl (rw_nil))))
  refine yq hb_1 (v_move (v := .int .i64 x2.2) rfl (yq hb_1 (v_neq rfl rfl (sq (v_pickF (v := .bool (x2.2 != 0)) rfl hb_1 rfl (RS.nil ?_))))))
  exact T.weakR (hK () trivial) (Weak.mkN [] [0, 1] (by decide) (none_kept _) rfl ⟨rn_ptr rfl, rn_ref rfl, rn_bool (by simp only [hb_1, bz, if_true, if_false, Bool.false_eq_true]), trivial⟩ (rw_bs [.sl (List.map encNode p0.Nodes), .int .i64 p0.Rings, .int .i64 p0.Room] rfl (rw_ar rfl rfl (rw_nil))))
end Go.Proofs.Ytegkmfokfakeiaa
