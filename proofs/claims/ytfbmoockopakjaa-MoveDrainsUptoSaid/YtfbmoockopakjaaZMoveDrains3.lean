/-
  Part 3 of a proof: what the code computes, and the law of it; put together by a program of ours (wip/decl.py) out of texts of ours.
-/
import Derived.Test.YtfbmoockopakjaaZMoveDrains2
namespace Go.Proofs.Ytfbmoockopakjaa
open Go.RowKit
set_option linter.unusedVariables false
set_option linter.unusedSimpArgs false
set_option maxRecDepth 100000
set_option maxHeartbeats 4000000
theorem math_bits_Mul64_c (p0 : Int) (p1 : Int) (r : Int × Int) (h : math_bits_Mul64 p0 p1 = some r) : Fn Try.prog 145 [.int .u64 p0, .int .u64 p1] (.tup [.int .u64 r.1, .int .u64 r.2]) := by
  unfold math_bits_Mul64 at h
  refine fn_of_T (N := 0) rfl Try.func145 rfl (by kernel_rfl) Try.ntmps145 rfl ?_
  show T _ _ _ _ (mkA 51 [(0, .int .u64 p0), (1, .int .u64 p1)]) []
  refine T.seq (T.region (sa (.int .u64 0) rfl (sa (.int .u64 0) rfl (RS.nil (T.seq (T.region (sm (.int .u64 p0) rfl (sq (v_and rfl rfl (sa (.int .u64 (ibits .and .u64 p0 4294967295)) rfl ?_))))))))))
  refine RS.nil (T.seq ?_)
  obtain ⟨x2, hx2, h⟩ := bind_some h
  refine T.region (sm (.int .u64 p0) rfl (sq (v_shr rfl rfl hx2 (sa (.int .u64 x2) rfl (RS.nil (T.seq (T.region (sm (.int .u64 p1) rfl (sq (v_and rfl rfl (sa (.int .u64 (ibits .and .u64 p1 4294967295)) rfl ?_)))))))))))
  refine RS.nil (T.seq ?_)
  obtain ⟨x4, hx4, h⟩ := bind_some h
  refine T.region (sm (.int .u64 p1) rfl (sq (v_shr rfl rfl hx4 (sa (.int .u64 x4) rfl (RS.nil (T.seq (T.region (sm (.int .u64 (ibits .and .u64 p0 4294967295)) rfl (sm (.int .u64 (ibits .and .u64 p1 4294967295)) rfl (sq (v_mul rfl rfl ?_)))))))))))
  refine sa (.int .u64 (IntKind.u64.wrap ((ibits .and .u64 p0 4294967295) * (ibits .and .u64 p1 4294967295)))) rfl (RS.nil (T.seq ?_))
  obtain ⟨x6, hx6, h⟩ := bind_some h
  refine T.region (sm (.int .u64 x2) rfl (sm (.int .u64 (ibits .and .u64 p1 4294967295)) rfl (sq (v_mul rfl rfl (sm (.int .u64 (IntKind.u64.wrap ((ibits .and .u64 p0 4294967295) * (ibits .and .u64 p1 4294967295)))) rfl (sq (v_shr rfl rfl hx6 (sq (v_add rfl rfl (sa (.int .u64 (IntKind.u64.wrap ((IntKind.u64.wrap (x2 * (ibits .and .u64 p1 4294967295))) + x6))) rfl (RS.nil (T.seq ?_))))))))))))
  refine T.region (sm (.int .u64 (IntKind.u64.wrap ((IntKind.u64.wrap (x2 * (ibits .and .u64 p1 4294967295))) + x6))) rfl (sq (v_and rfl rfl (sa (.int .u64 (ibits .and .u64 (IntKind.u64.wrap ((IntKind.u64.wrap (x2 * (ibits .and .u64 p1 4294967295))) + x6)) 4294967295)) rfl (RS.nil (T.seq ?_))))))
  obtain ⟨x8, hx8, h⟩ := bind_some h
  refine T.region (sm (.int .u64 (IntKind.u64.wrap ((IntKind.u64.wrap (x2 * (ibits .and .u64 p1 4294967295))) + x6))) rfl (sq (v_shr rfl rfl hx8 (sa (.int .u64 x8) rfl (RS.nil (T.seq (T.region (sm (.int .u64 (ibits .and .u64 (IntKind.u64.wrap ((IntKind.u64.wrap (x2 * (ibits .and .u64 p1 4294967295))) + x6)) 4294967295)) rfl (sm (.int .u64 (ibits .and .u64 p0 4294967295)) rfl (sm (.int .u64 x4) rfl ?_))))))))))
  refine sq (v_mul rfl rfl (sq (v_add rfl rfl (sa (.int .u64 (IntKind.u64.wrap ((ibits .and .u64 (IntKind.u64.wrap ((IntKind.u64.wrap (x2 * (ibits .and .u64 p1 4294967295))) + x6)) 4294967295) + (IntKind.u64.wrap ((ibits .and .u64 p0 4294967295) * x4))))) rfl (RS.nil (T.seq ?_))))))
  obtain ⟨x10, hx10, h⟩ := bind_some h
  refine T.region (sm (.int .u64 x2) rfl (sm (.int .u64 x4) rfl (sq (v_mul rfl rfl (sm (.int .u64 x8) rfl (sq (v_add rfl rfl (sm (.int .u64 (IntKind.u64.wrap ((ibits .and .u64 (IntKind.u64.wrap ((IntKind.u64.wrap (x2 * (ibits .and .u64 p1 4294967295))) + x6)) 4294967295) + (IntKind.u64.wrap ((ibits .and .u64 p0 4294967295) * x4))))) rfl (sq (v_shr rfl rfl hx10 (sq (v_add rfl rfl (sa (.int .u64 (IntKind.u64.wrap ((IntKind.u64.wrap ((IntKind.u64.wrap (x2 * x4)) + x8)) + x10))) rfl ?_)))))))))))))
  refine RS.nil (T.seq (T.region (sm (.int .u64 p0) rfl (sm (.int .u64 p1) rfl (sq (v_mul rfl rfl (sa (.int .u64 (IntKind.u64.wrap (p0 * p1))) rfl (RS.nil (T.rt (res_tmpA (v := .int .u64 (IntKind.u64.wrap ((IntKind.u64.wrap ((IntKind.u64.wrap (x2 * x4)) + x8)) + x10))) rfl ?_))))))))))
  refine res_tmpA (v := .int .u64 (IntKind.u64.wrap (p0 * p1))) rfl (res_done ?_)
  exact ret_data (v := .tup [.int .u64 (IntKind.u64.wrap ((IntKind.u64.wrap ((IntKind.u64.wrap (x2 * x4)) + x8)) + x10)), .int .u64 (IntKind.u64.wrap (p0 * p1))]) rfl (pure_tup _ (pures_mem (⟨pure_int _ _, pure_int _ _, trivial⟩))) ⟨congrArg (fun r : Int × Int => (.tup [.int .u64 r.1, .int .u64 r.2] : AV)) (Option.some.inj h), rfl⟩
theorem math_bits_Mul_c (p0 : Int) (p1 : Int) (r : Int × Int) (h : math_bits_Mul p0 p1 = some r) : Fn Try.prog 142 [.int .u64 p0, .int .u64 p1] (.tup [.int .u64 r.1, .int .u64 r.2]) := by
  unfold math_bits_Mul at h
  refine fn_of_T (N := 0) rfl Try.func142 rfl (by kernel_rfl) Try.ntmps142 rfl ?_
  show T _ _ _ _ (mkA 30 [(0, .int .u64 p0), (1, .int .u64 p1)]) []
  refine T.seq (T.region (sa (.int .u64 0) rfl (sa (.int .u64 0) rfl (RS.nil (T.seq (T.cond (b := false) rfl (fun hb => ?_) (fun hb => ?_)))))))
  · cases hb
  refine T.skip (T.seq ?_)
  obtain ⟨x2, hx2, h⟩ := bind_some h
  refine T.region (sm (.int .u64 p0) rfl (sm (.int .u64 p1) rfl (so (o_call (as0 := [.int .u64 p0, .int .u64 p1]) (as1 := [.int .u64 p0, .int .u64 p1]) (caps := []) (aw1 := []) rfl rfl rfl (k_flat (v := .tup [.int .u64 x2.1, .int .u64 x2.2]) (math_bits_Mul64_c p0 p1 x2 hx2) (⟨pure_int _ _, pure_int _ _, trivial⟩) rfl (sm (.tup [.int .u64 x2.1, .int .u64 x2.2]) rfl (sq (v_extract (v := .int .u64 x2.1) rfl rfl (sq (v_extract (v := .int .u64 x2.2) rfl rfl (sa (.int .u64 x2.1) rfl (sa (.int .u64 x2.2) rfl (RS.nil ?_)))))))))))))
  refine T.seq (T.region (sm (.int .u64 x2.1) rfl (sm (.int .u64 x2.2) rfl (sa (.int .u64 x2.1) rfl (sa (.int .u64 x2.2) rfl (RS.nil (T.rt (res_tmpA (v := .int .u64 x2.1) rfl (res_tmpA (v := .int .u64 x2.2) rfl ?_)))))))))
  refine res_done ?_
  exact ret_data (v := .tup [.int .u64 x2.1, .int .u64 x2.2]) rfl (pure_tup _ (pures_mem (⟨pure_int _ _, pure_int _ _, trivial⟩))) ⟨congrArg (fun r : Int × Int => (.tup [.int .u64 r.1, .int .u64 r.2] : AV)) (Option.some.inj h), rfl⟩
theorem slices_Repeat_ends_c (p0 : List Ends) (p1 : Int) (r : List Ends) (h : slices_Repeat_ends p0 p1 = some r) : FnO Try.prog 137 [sL encEnds p0, iI p1] (.ref 0) [aR 172 2 encEnds r] := by
  unfold slices_Repeat_ends at h
  refine fn_of_T (N := 0) rfl Try.func137 rfl (by kernel_rfl) Try.ntmps137 rfl ?_
  show T _ _ _ _ (mkA 48 [(0, sL encEnds p0), (1, iI p1)]) []
  refine T.seq (T.region (sa .nils rfl (RS.nil (T.seq (T.seq (T.region (sm (iI p1) rfl (sq (v_lss rfl rfl (RS.nil ?_))))))))))
  refine T.cond (b := decide (p1 < 0)) rfl (fun hb_1 => ?_) (fun hb_1 => ?_)
  ·replace h := ite_T h hb_1
   cases h
  replace h := ite_F h hb_1
  refine T.skip (T.seq ?_)
  obtain ⟨x2, hx2, h⟩ := bind_some h
  refine T.region (sm (sL encEnds p0) rfl (sq (v_len_sl Ty.s168 rfl (so (o_conv Try.underlying3 Try.underlying116 rfl (sm (iI p1) rfl (so (o_conv Try.underlying3 Try.underlying116 rfl (so (o_call (as0 := [.int .u64 (IntKind.u64.wrap ((p0).length : Int)), .int .u64 (IntKind.u64.wrap p1)]) (as1 := [.int .u64 (IntKind.u64.wrap ((p0).length : Int)), .int .u64 (IntKind.u64.wrap p1)]) (caps := []) (aw1 := []) rfl rfl rfl (k_flat (v := .tup [.int .u64 x2.1, .int .u64 x2.2]) (math_bits_Mul_c (IntKind.u64.wrap ((p0).length : Int)) (IntKind.u64.wrap p1) x2 hx2) (⟨pure_int _ _, pure_int _ _, trivial⟩) rfl (sm (.tup [.int .u64 x2.1, .int .u64 x2.2]) rfl (sq (v_extract (v := .int .u64 x2.1) rfl rfl (sq (v_extract (v := .int .u64 x2.2) rfl rfl ?_))))))))))))))))
  refine sa (.int .u64 x2.1) rfl (sa (.int .u64 x2.2) rfl (RS.nil (T.seq (T.join (Z := Unit) (fun _ => mkA 48 [(0, sL encEnds p0), (6, .int .u64 x2.2), (26, .bool ((decide (x2.1 > 0)) || decide (x2.2 > 9223372036854775807)))]) (fun _ => []) (fun _ => True) (fun _ _ => ?_) (fun hK => ?_)))))
  ·refine T.cond (b := ((decide (x2.1 > 0)) || decide (x2.2 > 9223372036854775807))) rfl (fun hb_3 => ?_) (fun hb_3 => ?_)
   ·replace h := ite_T h hb_3
    cases h
   replace h := ite_F h hb_3
   refine T.skip (T.seq ?_)
   obtain ⟨x5, hx5, h⟩ := bind_some h
   refine T.region (sm (.int .u64 x2.2) rfl (so (o_conv Try.underlying116 Try.underlying3 rfl (so (o_mk (en := encEnds) (zr := (⟨0, 0⟩ : Ends)) Ty.s168 Ty.z172 rfl rfl hx5 rfl rfl (sa (.ref 0) rfl (RS.nil (T.seq (T.region (sm (.ref 0) rfl (sm (sL encEnds p0) rfl ?_)))))))))))
   refine so (o_copy_rs (en := encEnds) (xs := x5) (ys := p0) Ty.s168 (fun _ => rfl) rfl rfl rfl rfl (sa (iI ((min (x5).length (p0).length : Nat) : Int)) rfl (RS.nil (T.seq (T.block (T.iter (fun ss_10 : Int × (List Ends) => mkA 48 [(7, .ref 0), (8, iI ss_10.1)]) (fun ss_10 => [aR 172 2 encEnds ss_10.2]) h (Weak.mkN [] [0] (by decide) (none_kept _) rfl ⟨rn_ref rfl, rn_int rfl, trivial⟩ (rw_ar rfl rfl (rw_nil))) (fun ss_10 v_11 h hv_11 => ?_)))))))
   obtain ⟨s6, s7⟩ := ss_10
   replace h : slices_Repeat_ends_l1 s6 s7 = some v_11 := h
   try dsimp only
   unfold slices_Repeat_ends_l1 at h
   refine T.seq (T.seq (T.region (sm (iI s6) rfl (sm (.ref 0) rfl (sq (v_len_ref (en := encEnds) Ty.s168 rfl rfl (sq (v_lss rfl rfl (RS.nil (T.cond (b := decide (s6 < ((s7).length : Int))) rfl (fun hb_12 => ?_) (fun hb_12 => ?_)))))))))))
   ·replace h := ite_T h hb_12
    refine T.skip (T.block ?_)
    obtain ⟨x8, hx8, h⟩ := bind_some h
    obtain ⟨x9, hx9, h⟩ := bind_some h
    obtain ⟨x10, hx10, h⟩ := bind_some h
    obtain ⟨x11, hx11, h⟩ := bind_some h
    refine T.drawn mixed (k := 10) rfl ?_
    let l14 : List (Nat × AV) := [(7, .ref 0), (8, iI s6), (34, iI s6), (35, .ref 0), (36, iI ((s7).length : Int)), (37, .bool (decide (s6 < ((s7).length : Int))))]
    let a14 : List Ob := [aR 172 2 encEnds s7]
    refine RA.join 3 #[true, true, true, true, true, true, true, false, false, false] (mkA 48 ((38, iI s6) :: (39, .ref 0) :: (40, iI s6) :: (41, .vw 0 2 ((s6).toNat) ((((s7).length : Int)).toNat - (s6).toNat) none) :: (42, .ref 0) :: (43, iI s6) :: (44, .vw 0 2 (((0 : Int)).toNat) ((s6).toNat - ((0 : Int)).toNat) none) :: l14)) a14 ?_ (fun hS13 => ?_)
    ·refine ra1 7 (RO.op rfl rfl (o_copy_vv (en := encEnds) (xs := s7) Ty.s168 (fun _ => rfl) rfl rfl rfl hx10 hx11 rfl (rt0 8 rfl (v_add rfl rfl (rt0 9 rfl (v_assign (v := iI (IntKind.i64.wrap (s6 + ((min ((((s7).length : Int)).toNat - (s6).toNat) ((s6).toNat - ((0 : Int)).toNat) : Nat) : Int)))) rfl (RA.done (by decide +kernel) ?_)))))))
     exact ⟨(IntKind.i64.wrap (s6 + ((min ((((s7).length : Int)).toNat - (s6).toNat) ((s6).toNat - ((0 : Int)).toNat) : Nat) : Int)), (cpy s7 ((s6).toNat) ((((s7).length : Int)).toNat - (s6).toNat) ((s7.drop (((0 : Int)).toNat)).take ((s6).toNat - ((0 : Int)).toNat)))), (Option.some.inj h).symm, Weak.mkN [] [0] (by decide) (none_kept _) rfl ⟨rn_ref rfl, rn_int rfl, trivial⟩ (rw_ar rfl rfl (rw_nil))⟩
    ·refine rt0 0 rfl (v_move (v := iI s6) rfl (rt0 1 rfl (v_move (v := .ref 0) rfl (rt0 2 rfl (v_move (v := iI s6) rfl (rt0 4 rfl (v_move (v := .ref 0) rfl (rt0 5 rfl (v_move (v := iI s6) rfl (ra2 3 6 ?_ ?_))))))))))
     ·refine RO.op rfl rfl (o_slice_vw (en := encEnds) (xs := s7) Ty.s168 rfl rfl rfl rfl hx8 (ra1 6 (RO.op rfl rfl (o_slice_vw (en := encEnds) (xs := s7) Ty.s168 rfl rfl rfl rfl hx9 ?_))))
      exact raS hS13 ⟨rfl, rfl, rfl, rfl, rfl, rfl, rfl, rfl, rfl, rfl, rfl, rfl, rfl, trivial⟩
     ·refine RO.op rfl rfl (o_slice_vw (en := encEnds) (xs := s7) Ty.s168 rfl rfl rfl rfl hx9 (ra1 3 (RO.op rfl rfl (o_slice_vw (en := encEnds) (xs := s7) Ty.s168 rfl rfl rfl rfl hx8 ?_))))
      exact raS hS13 ⟨rfl, rfl, rfl, rfl, rfl, rfl, rfl, rfl, rfl, rfl, rfl, rfl, rfl, trivial⟩
   replace h := ite_F h hb_12
   refine T.exit ?_
   obtain ⟨w_15, h, hw_15⟩ := map_inr h
   replace h := h.trans (congrArg some (hv_11 _ hw_15))
   refine T.seq (T.region (sm (.ref 0) rfl (sa (.ref 0) rfl (RS.nil (T.rt (res_tmpA (v := .ref 0) rfl (res_done ?_)))))))
   exact ret_own (.ref 0) [] [0] (by decide) (none_kept _) rfl (rn_ref rfl) (rw_arr rfl encEnds_p (congrArg (fun r : List Ends => r) (Option.some.inj h)).symm (rw_nil)) ⟨rfl, rfl⟩
  refine T.region (sm (.int .u64 x2.1) rfl (sq (v_gtr rfl rfl (sm (.bool (decide (x2.1 > 0))) rfl ?_))))
  rcases bool_cases (decide (x2.1 > 0)) with hb_2 | hb_2
  ·refine sn hb_2 (sn hb_2 (sq (v_pickT (v := .bool true) rfl hb_2 rfl (RS.nil ?_))))
   exact T.sub (hK () trivial) ⟨rfl, rfl, (congrArg AV.bool (by simp only [hb_2, bz, if_true, if_false, Bool.false_eq_true])).symm, trivial⟩
  refine yq hb_2 (v_move (v := .int .u64 x2.2) rfl (yq hb_2 (v_gtr rfl rfl (sq (v_pickF (v := .bool (decide (x2.2 > 9223372036854775807))) rfl hb_2 rfl (RS.nil ?_))))))
  exact T.sub (hK () trivial) ⟨rfl, rfl, (congrArg AV.bool (by simp only [hb_2, bz, if_true, if_false, Bool.false_eq_true])).symm, trivial⟩
theorem net_arity_c (p0 : Int) (r : Int × Int × Bool) (h : net_arity p0 = some r) : Fn Try.prog 138 [iI p0] (.tup [iI r.1, iI r.2.1, .bool r.2.2]) := by
  unfold net_arity at h
  refine fn_of_T (N := 0) rfl Try.func138 rfl (by kernel_rfl) Try.ntmps138 rfl ?_
  show T _ _ _ _ (mkA 19 [(0, iI p0)]) []
  refine T.seq (T.region (sa (iI 0) rfl (sa (iI 0) rfl (sa (.bool false) rfl (RS.nil (T.seq (T.seq (T.region (sm (iI p0) rfl ?_)))))))))
  refine RS.nil (T.block (T.seq (T.region (sq (v_eql rfl rfl (sa (.bool (p0 == 1)) rfl (RS.nil (T.cond (b := p0 == 1) rfl (fun hb_1 => ?_) (fun hb_1 => ?_)))))))))
  ·replace h := ite_T h hb_1
   refine T.seq (T.region (sa (iI 0) rfl (sa (iI 1) rfl (sa (.bool true) rfl (RS.nil (T.rt (res_tmpA (v := iI 0) rfl (res_tmpA (v := iI 1) rfl (res_tmpA (v := .bool true) rfl ?_)))))))))
   refine res_done ?_
   exact ret_data (v := .tup [iI 0, iI 1, .bool true]) rfl (pure_tup _ (pures_mem (⟨pure_int _ _, pure_int _ _, pure_bool _, trivial⟩))) ⟨congrArg (fun r : Int × Int × Bool => (.tup [iI r.1, iI r.2.1, .bool r.2.2] : AV)) (Option.some.inj h), rfl⟩
  replace h := ite_F h hb_1
  refine T.join (Z := Bool) (fun zz_4 => mkA 19 [(5, iI p0), (8, .bool zz_4)]) (fun zz_4 => []) (fun zz_4 => net_arity_k2 p0 zz_4 = some r) (fun zz_4 h => ?_) (fun hK2 => ?_)
  ·revert h; revert zz_4; intro z1 h
   replace h : net_arity_k2 p0 z1 = some r := h
   try dsimp only
   unfold net_arity_k2 at h
   refine T.cond (b := z1) rfl (fun hb_5 => ?_) (fun hb_5 => ?_)
   ·replace h := ite_T h hb_5
    refine T.seq (T.region (sa (iI 1) rfl (sa (iI 1) rfl (sa (.bool true) rfl (RS.nil (T.rt (res_tmpA (v := iI 1) rfl (res_tmpA (v := iI 1) rfl (res_tmpA (v := .bool true) rfl ?_)))))))))
    refine res_done ?_
    exact ret_data (v := .tup [iI 1, iI 1, .bool true]) rfl (pure_tup _ (pures_mem (⟨pure_int _ _, pure_int _ _, pure_bool _, trivial⟩))) ⟨congrArg (fun r : Int × Int × Bool => (.tup [iI r.1, iI r.2.1, .bool r.2.2] : AV)) (Option.some.inj h), rfl⟩
   replace h := ite_F h hb_5
   refine T.join (Z := Bool) (fun zz_7 => mkA 19 [(5, iI p0), (12, .bool zz_7)]) (fun zz_7 => []) (fun zz_7 => net_arity_k1 p0 zz_7 = some r) (fun zz_7 h => ?_) (fun hK1 => ?_)
   ·revert h; revert zz_7; intro z2 h
    replace h : net_arity_k1 p0 z2 = some r := h
    try dsimp only
    unfold net_arity_k1 at h
    refine T.cond (b := z2) rfl (fun hb_8 => ?_) (fun hb_8 => ?_)
    ·replace h := ite_T h hb_8
     refine T.seq (T.region (sa (iI 1) rfl (sa (iI (-1)) rfl (sa (.bool true) rfl (RS.nil (T.rt (res_tmpA (v := iI 1) rfl (res_tmpA (v := iI (-1)) rfl (res_tmpA (v := .bool true) rfl ?_)))))))))
     refine res_done ?_
     exact ret_data (v := .tup [iI 1, iI (-1), .bool true]) rfl (pure_tup _ (pures_mem (⟨pure_int _ _, pure_int _ _, pure_bool _, trivial⟩))) ⟨congrArg (fun r : Int × Int × Bool => (.tup [iI r.1, iI r.2.1, .bool r.2.2] : AV)) (Option.some.inj h), rfl⟩
    replace h := ite_F h hb_8
    refine T.seq (T.region (sq (v_eql rfl rfl (sa (.bool (p0 == 6)) rfl (RS.nil (T.cond (b := p0 == 6) rfl (fun hb_9 => ?_) (fun hb_9 => ?_)))))))
    ·replace h := ite_T h hb_9
     refine T.seq (T.region (sa (iI (-1)) rfl (sa (iI 1) rfl (sa (.bool true) rfl (RS.nil (T.rt (res_tmpA (v := iI (-1)) rfl (res_tmpA (v := iI 1) rfl (res_tmpA (v := .bool true) rfl ?_)))))))))
     refine res_done ?_
     exact ret_data (v := .tup [iI (-1), iI 1, .bool true]) rfl (pure_tup _ (pures_mem (⟨pure_int _ _, pure_int _ _, pure_bool _, trivial⟩))) ⟨congrArg (fun r : Int × Int × Bool => (.tup [iI r.1, iI r.2.1, .bool r.2.2] : AV)) (Option.some.inj h), rfl⟩
    replace h := ite_F h hb_9
    refine T.seq (T.region (sq (v_eql rfl rfl (sa (.bool (p0 == 8)) rfl (RS.nil (T.cond (b := p0 == 8) rfl (fun hb_10 => ?_) (fun hb_10 => ?_)))))))
    ·replace h := ite_T h hb_10
     refine T.seq (T.region (sa (iI 1) rfl (sa (iI 0) rfl (sa (.bool true) rfl (RS.nil (T.rt (res_tmpA (v := iI 1) rfl (res_tmpA (v := iI 0) rfl (res_tmpA (v := .bool true) rfl ?_)))))))))
     refine res_done ?_
     exact ret_data (v := .tup [iI 1, iI 0, .bool true]) rfl (pure_tup _ (pures_mem (⟨pure_int _ _, pure_int _ _, pure_bool _, trivial⟩))) ⟨congrArg (fun r : Int × Int × Bool => (.tup [iI r.1, iI r.2.1, .bool r.2.2] : AV)) (Option.some.inj h), rfl⟩
    replace h := ite_F h hb_10
    refine T.skip (T.seq (T.region (sa (iI 0) rfl (sa (iI 0) rfl (sa (.bool false) rfl (RS.nil (T.rt (res_tmpA (v := iI 0) rfl (res_tmpA (v := iI 0) rfl ?_)))))))))
    refine res_tmpA (v := .bool false) rfl (res_done ?_)
    exact ret_data (v := .tup [iI 0, iI 0, .bool false]) rfl (pure_tup _ (pures_mem (⟨pure_int _ _, pure_int _ _, pure_bool _, trivial⟩))) ⟨congrArg (fun r : Int × Int × Bool => (.tup [iI r.1, iI r.2.1, .bool r.2.2] : AV)) (Option.some.inj h), rfl⟩
   refine T.seq (T.region (sq (v_eql rfl rfl (sa (.bool (p0 == 5)) rfl (RS.nil (T.cond (b := p0 == 5) rfl (fun hb_11 => ?_) (fun hb_11 => ?_)))))))
   ·replace h := ite_T h hb_11
    refine T.skip ?_
    exact T.weakR (hK1 (p0 == 5) h) (Weak.mkN [] [] (by decide) (none_kept _) rfl ⟨rn_int rfl, rn_bool rfl, trivial⟩ (rw_nil))
   replace h := ite_F h hb_11
   refine T.region (sq (v_eql rfl rfl (sa (.bool (p0 == 7)) rfl (RS.nil ?_))))
   exact T.weakR (hK1 (p0 == 7) h) (Weak.mkN [] [] (by decide) (none_kept _) rfl ⟨rn_int rfl, rn_bool rfl, trivial⟩ (rw_nil))
  refine T.seq (T.region (sq (v_eql rfl rfl (sa (.bool (p0 == 2)) rfl (RS.nil (T.cond (b := p0 == 2) rfl (fun hb_12 => ?_) (fun hb_12 => ?_)))))))
  ·replace h := ite_T h hb_12
   refine T.skip ?_
   exact T.weakR (hK2 (p0 == 2) h) (Weak.mkN [] [] (by decide) (none_kept _) rfl ⟨rn_int rfl, rn_bool rfl, trivial⟩ (rw_nil))
  replace h := ite_F h hb_12
  refine T.seq (T.region (sq (v_eql rfl rfl (sa (.bool (p0 == 3)) rfl (RS.nil (T.cond (b := p0 == 3) rfl (fun hb_13 => ?_) (fun hb_13 => ?_)))))))
  ·replace h := ite_T h hb_13
   refine T.skip ?_
   exact T.weakR (hK2 (p0 == 3) h) (Weak.mkN [] [] (by decide) (none_kept _) rfl ⟨rn_int rfl, rn_bool rfl, trivial⟩ (rw_nil))
  replace h := ite_F h hb_13
  refine T.region (sq (v_eql rfl rfl (sa (.bool (p0 == 4)) rfl (RS.nil ?_))))
  exact T.weakR (hK2 (p0 == 4) h) (Weak.mkN [] [] (by decide) (none_kept _) rfl ⟨rn_int rfl, rn_bool rfl, trivial⟩ (rw_nil))
theorem net_fits_c (p0 : Int) (p1 : Int) (r : Bool) (h : net_fits p0 p1 = some r) : Fn Try.prog 139 [iI p0, iI p1] (.bool r) := by
  unfold net_fits at h
  refine fn_of_T (N := 0) rfl Try.func139 rfl (by kernel_rfl) Try.ntmps139 rfl ?_
  show T _ _ _ _ (mkA 16 [(0, iI p0), (1, iI p1)]) []
  refine T.seq (T.region (sa (.bool false) rfl (RS.nil (T.join (Z := Unit) (fun _ => mkA 16 [(4, .bool ((p0 == p1) || ((decide (p1 < 0)) && decide (p0 > 0))))]) (fun _ => []) (fun _ => True) (fun _ _ => ?_) (fun hK => ?_)))))
  ·refine T.rt (res_tmpA (v := .bool ((p0 == p1) || ((decide (p1 < 0)) && decide (p0 > 0)))) rfl (res_done ?_))
   exact ret_data (v := .bool ((p0 == p1) || ((decide (p1 < 0)) && decide (p0 > 0)))) rfl (pure_bool _) ⟨congrArg (fun r : Bool => (.bool r : AV)) (Option.some.inj h), rfl⟩
  refine T.region (sm (iI p0) rfl (sm (iI p1) rfl (sq (v_eql rfl rfl (sm (.bool (p0 == p1)) rfl ?_)))))
  rcases bool_cases (p0 == p1) with hb_1 | hb_1
  ·refine sn hb_1 (sn hb_1 (sn hb_1 (su (su (sn hb_1 (sq (v_pickT (v := .bool true) rfl hb_1 rfl (sa (.bool true) rfl (RS.nil ?_)))))))))
   exact T.sub (hK () trivial) ⟨(congrArg AV.bool (by simp only [hb_1, bz, if_true, if_false, Bool.false_eq_true])).symm, trivial⟩
  refine yq hb_1 (v_move (v := iI p1) rfl (yq hb_1 (v_lss rfl rfl (yq hb_1 (v_move (v := .bool (decide (p1 < 0))) rfl ?_)))))
  rcases bool_cases (decide (p1 < 0)) with hb_2 | hb_2
  ·refine yq hb_2 (v_move (v := iI p0) rfl (yq hb_2 (v_gtr rfl rfl (yq hb_1 (v_pickT (v := .bool (decide (p0 > 0))) rfl hb_2 rfl (sq (v_pickF (v := .bool (decide (p0 > 0))) rfl hb_1 rfl (sa (.bool (decide (p0 > 0))) rfl (RS.nil ?_)))))))))
   exact T.sub (hK () trivial) ⟨(congrArg AV.bool (by simp only [hb_1, hb_2, bz, if_true, if_false, Bool.false_eq_true])).symm, trivial⟩
  refine sn hb_2 (sn hb_2 (yq hb_1 (v_pickF (v := .bool false) rfl hb_2 rfl (sq (v_pickF (v := .bool false) rfl hb_1 rfl (sa (.bool false) rfl (RS.nil ?_)))))))
  exact T.sub (hK () trivial) ⟨(congrArg AV.bool (by simp only [hb_1, hb_2, bz, if_true, if_false, Bool.false_eq_true])).symm, trivial⟩
theorem net_look_c (p0 : Net) (r : (List Ends) × Int) (h : net_look p0 = some r) : FnO Try.prog 124 [.agg [sL encNode p0.Nodes, iI p0.Rings, iI p0.Room]] (.tup [.ref 0, iI r.2]) [aR 172 2 encEnds r.1] := by
  unfold net_look at h
  refine fn_of_T (N := 0) rfl Try.func124 rfl (by kernel_rfl) Try.ntmps124 rfl ?_
  show T _ _ _ _ (mkA 197 [(0, .agg [sL encNode p0.Nodes, iI p0.Rings, iI p0.Room])]) []
  refine T.seq (T.region (so (o_box (cs := [sL encNode p0.Nodes, iI p0.Rings, iI p0.Room]) rfl rfl rfl (sa .nils rfl (sa (iI 0) rfl (RS.nil (T.seq (T.join (Z := Unit) (fun _ => mkA 197 [(1, .ptr 0 0), (36, .bool ((decide (((p0.Nodes).length : Int) < 1)) || ((decide (((p0.Nodes).length : Int) > 12)) || ((decide (p0.Rings < 0)) || decide (p0.Rings > 16)))))]) (fun _ => [.box [sL encNode p0.Nodes, iI p0.Rings, iI p0.Room]]) (fun _ => True) (fun _ _ => ?_) (fun hK => ?_)))))))))
  ·refine T.cond (b := ((decide (((p0.Nodes).length : Int) < 1)) || ((decide (((p0.Nodes).length : Int) > 12)) || ((decide (p0.Rings < 0)) || decide (p0.Rings > 16))))) rfl (fun hb_4 => ?_) (fun hb_4 => ?_)
   ·replace h := ite_T h hb_4
    refine T.seq (T.region (sa .nils rfl (sa (iI 2) rfl (RS.nil (T.rt (res_tmpA (v := .nils) rfl (res_tmpA (v := iI 2) rfl (res_done ?_))))))))
    exact ret_own (.tup [.ref 0, iI r.2]) [(0, 172, 2)] [1] (by decide) (none_kept _) rfl (rn_tup ⟨rn_ref rfl, rn_int (congrArg (fun r : (List Ends) × Int => r.2) (Option.some.inj h)).symm, trivial⟩) (rw_arr (en := encEnds) (ys := []) rfl encEnds_p (congrArg (fun r : (List Ends) × Int => r.1) (Option.some.inj h)).symm (rw_nil)) ⟨rfl, rfl⟩
   replace h := ite_F h hb_4
   refine T.skip (T.seq (T.join (Z := Unit) (fun _ => mkA 197 [(1, .ptr 0 0), (44, .bool ((decide (p0.Room < 1)) || decide (p0.Room > 6)))]) (fun _ => [.box [sL encNode p0.Nodes, iI p0.Rings, iI p0.Room]]) (fun _ => True) (fun _ _ => ?_) (fun hK => ?_)))
   ·refine T.cond (b := ((decide (p0.Room < 1)) || decide (p0.Room > 6))) rfl (fun hb_6 => ?_) (fun hb_6 => ?_)
    ·replace h := ite_T h hb_6
     refine T.seq (T.region (sa .nils rfl (sa (iI 3) rfl (RS.nil (T.rt (res_tmpA (v := .nils) rfl (res_tmpA (v := iI 3) rfl (res_done ?_))))))))
     exact ret_own (.tup [.ref 0, iI r.2]) [(0, 172, 2)] [1] (by decide) (none_kept _) rfl (rn_tup ⟨rn_ref rfl, rn_int (congrArg (fun r : (List Ends) × Int => r.2) (Option.some.inj h)).symm, trivial⟩) (rw_arr (en := encEnds) (ys := []) rfl encEnds_p (congrArg (fun r : (List Ends) × Int => r.1) (Option.some.inj h)).symm (rw_nil)) ⟨rfl, rfl⟩
    replace h := ite_F h hb_6
    refine T.skip (T.seq ?_)
    obtain ⟨x4, hx4, h⟩ := bind_some h
    refine T.region (sq (v_build (cs := [iI (-1), iI (-1)]) Ty.z172 Ty.p172 rfl (so (o_buildSlice (rows := List.map encEnds [(⟨(-1), (-1)⟩ : Ends)]) (vs := [.agg [iI (-1), iI (-1)]]) Ty.s168 Ty.z172 rfl rfl rfl rfl rfl rfl (sq (v_fieldAddr_ptr Ty.f24_1 rfl (off' := 1) rfl (so (o_load_ptr rfl rfl (loadRow1 Ty.k3 (c := iI p0.Rings) rfl (so (o_call (as0 := [.ref 1, iI p0.Rings]) (as1 := [sL encEnds ([(⟨(-1), (-1)⟩ : Ends)] : List Ends), iI p0.Rings]) (caps := []) (aw1 := [.box [sL encNode p0.Nodes, iI p0.Rings, iI p0.Room], .dead]) rfl rfl rfl (k_own' (v := .ref 0) (obs := [aR 172 2 encEnds x4]) (v' := .ref 2) (slices_Repeat_ends_c ([(⟨(-1), (-1)⟩ : Ends)] : List Ends) p0.Rings x4 hx4) (⟨pure_map encEnds_p _, pure_int _ _, trivial⟩) rfl (obs_cons (flatOb_map fun _ => rfl) obs_nil) rfl rfl (sa (.ref 2) rfl (RS.nil (T.seq (T.region ?_))))))))))))))))
    refine sa (iI 0) rfl (RS.nil (T.seq (T.seq (T.region (sq (v_fieldAddr_ptr Ty.f24_0 rfl (off' := 0) rfl (so (o_load_ptr rfl rfl (loadRow1 Ty.k22 (c := sL encNode p0.Nodes) rfl (sq (v_len_sl Ty.s22 rfl (sm (iI 0) rfl (RS.nil ?_)))))))))))))
    refine T.block (T.iter (fun ss_123 : Int × Int × (List Ends) => mkA 197 [(1, .ptr 0 0), (4, .ref 1), (5, iI ss_123.1), (51, sL encNode p0.Nodes), (52, iI ((p0.Nodes).length : Int)), (53, iI ss_123.2.1)]) (fun ss_123 => [.box [sL encNode p0.Nodes, iI p0.Rings, iI p0.Room], aR 172 2 encEnds ss_123.2.2]) h (Weak.mkN [] [0, 2] (by decide) (none_kept _) rfl ⟨rn_ptr rfl, rn_ref rfl, rn_int rfl, rn_s rfl, rn_int rfl, rn_int rfl, trivial⟩ (rw_bs [sL encNode p0.Nodes, iI p0.Rings, iI p0.Room] rfl (rw_ar rfl rfl (rw_nil)))) (fun ss_123 v_124 h hv_124 => ?_))
    obtain ⟨s5, s6, s7⟩ := ss_123
    replace h : net_look_l5 p0 s5 s6 s7 = some v_124 := h
    try dsimp only
    unfold net_look_l5 at h
    refine T.seq (T.region (sq (v_lss rfl rfl (RS.nil (T.seq (T.cond (b := decide (s6 < ((p0.Nodes).length : Int))) rfl (fun hb_125 => ?_) (fun hb_125 => ?_)))))))
    ·replace h := ite_T h hb_125
     refine T.skip (T.seq (T.block (T.seq ?_)))
     obtain ⟨x9, hx9, h⟩ := bind_some h
     refine T.region (sm (iI s6) rfl (sq (v_index_sl Ty.s22 (fun _ => rfl) rfl rfl hx9 (so (o_load_elt rfl (loadRowA Ty.k40 Ty.c40 rfl (cs := [iI x9.Kind, iI x9.A, sL encI x9.In, sL encI x9.Out]) rfl (so (o_alloc Ty.z40 rfl rfl (sa (iI s6) rfl (so (o_store_ptr Ty.c40 Ty.i40 rfl (vs := [iI x9.Kind, iI x9.A, sL encI x9.In, sL encI x9.Out]) rfl rfl rfl rfl (cs' := [iI x9.Kind, iI x9.A, sL encI x9.In, sL encI x9.Out]) rfl rfl (RS.nil (T.seq ?_)))))))))))))
     obtain ⟨x11, hx11, h⟩ := bind_some h
     refine T.region (sq (v_fieldAddr_ptr Ty.f40_0 rfl (off' := 0) rfl (so (o_load_ptr rfl rfl (loadRow1 Ty.k3 (c := iI x9.Kind) rfl (so (o_call (as0 := [iI x9.Kind]) (as1 := [iI x9.Kind]) (caps := []) (aw1 := [.box [sL encNode p0.Nodes, iI p0.Rings, iI p0.Room], aR 172 2 encEnds s7, .box [iI x9.Kind, iI x9.A, sL encI x9.In, sL encI x9.Out]]) rfl rfl rfl (k_flat (v := .tup [iI x11.1, iI x11.2.1, .bool x11.2.2]) (net_arity_c x9.Kind x11 hx11) (⟨pure_int _ _, trivial⟩) rfl (sm (.tup [iI x11.1, iI x11.2.1, .bool x11.2.2]) rfl (sq (v_extract (v := iI x11.1) rfl rfl (sq (v_extract (v := iI x11.2.1) rfl rfl (sq (v_extract (v := .bool x11.2.2) rfl rfl (sa (iI x11.1) rfl (sa (iI x11.2.1) rfl ?_)))))))))))))))))
     refine sa (.bool x11.2.2) rfl (RS.nil (T.seq (T.seq (T.region (sm (.bool x11.2.2) rfl (sq (v_not rfl (RS.nil (T.cond (b := !x11.2.2) rfl (fun hb_126 => ?_) (fun hb_126 => ?_))))))))))
     ·replace h := ite_T h hb_126
      refine T.seq (T.region (sa .nils rfl (sa (iI 5) rfl (RS.nil (T.rt ?_)))))
      obtain ⟨w_127, h, hw_127⟩ := map_inr h
      replace h := h.trans (congrArg some (hv_124 _ hw_127))
      refine res_tmpA (v := .nils) rfl (res_tmpA (v := iI 5) rfl (res_done ?_))
      exact ret_own (.tup [.ref 0, iI r.2]) [(0, 172, 2)] [3] (by decide) (none_kept _) rfl (rn_tup ⟨rn_ref rfl, rn_int (congrArg (fun r : (List Ends) × Int => r.2) (Option.some.inj h)).symm, trivial⟩) (rw_arr (en := encEnds) (ys := []) rfl encEnds_p (congrArg (fun r : (List Ends) × Int => r.1) (Option.some.inj h)).symm (rw_nil)) ⟨rfl, rfl⟩
     replace h := ite_F h hb_126
     refine T.skip (T.seq ?_)
     obtain ⟨x12, hx12, h⟩ := bind_some h
     obtain ⟨zt_129, hz, h⟩ := bind_some h
     revert hz h; revert zt_129; intro c14 hz h
     refine T.join (Z := Unit) (fun _ => mkA 197 [(1, .ptr 0 0), (4, .ref 1), (5, iI s5), (6, iI s6), (7, .ptr 2 0), (51, sL encNode p0.Nodes), (52, iI ((p0.Nodes).length : Int)), (53, iI s6), (80, .bool c14)]) (fun _ => [.box [sL encNode p0.Nodes, iI p0.Rings, iI p0.Room], aR 172 2 encEnds s7, .box [iI x9.Kind, iI x9.A, sL encI x9.In, sL encI x9.Out]]) (fun _ => True) (fun _ _ => ?_) (fun hK => ?_)
     ·refine T.cond (b := c14) rfl (fun hb_130 => ?_) (fun hb_130 => ?_)
      ·replace h := ite_T h hb_130
       refine T.seq (T.region (sa .nils rfl (sa (iI 4) rfl (RS.nil (T.rt ?_)))))
       obtain ⟨w_131, h, hw_131⟩ := map_inr h
       replace h := h.trans (congrArg some (hv_124 _ hw_131))
       refine res_tmpA (v := .nils) rfl (res_tmpA (v := iI 4) rfl (res_done ?_))
       exact ret_own (.tup [.ref 0, iI r.2]) [(0, 172, 2)] [3] (by decide) (none_kept _) rfl (rn_tup ⟨rn_ref rfl, rn_int (congrArg (fun r : (List Ends) × Int => r.2) (Option.some.inj h)).symm, trivial⟩) (rw_arr (en := encEnds) (ys := []) rfl encEnds_p (congrArg (fun r : (List Ends) × Int => r.1) (Option.some.inj h)).symm (rw_nil)) ⟨rfl, rfl⟩
      replace h := ite_F h hb_130
      refine T.skip (T.seq (T.join (Z := Unit) (fun _ => mkA 197 [(1, .ptr 0 0), (4, .ref 1), (5, iI s5), (6, iI s6), (7, .ptr 2 0), (51, sL encNode p0.Nodes), (52, iI ((p0.Nodes).length : Int)), (53, iI s6), (118, .bool ((decide (x9.A < 0)) || (if (x9.Kind == 1) = true then ((decide (x9.A ≥ 4)) || (if (x9.Kind == 2) = true then ((decide (x9.A > 3)) || ((x9.Kind != 1) && ((x9.Kind != 2) && x9.A != 0))) else ((x9.Kind != 1) && ((x9.Kind != 2) && x9.A != 0)))) else (if (x9.Kind == 2) = true then ((decide (x9.A > 3)) || ((x9.Kind != 1) && ((x9.Kind != 2) && x9.A != 0))) else ((x9.Kind != 1) && ((x9.Kind != 2) && x9.A != 0))))))]) (fun _ => [.box [sL encNode p0.Nodes, iI p0.Rings, iI p0.Room], aR 172 2 encEnds s7, .box [iI x9.Kind, iI x9.A, sL encI x9.In, sL encI x9.Out]]) (fun _ => True) (fun _ _ => ?_) (fun hK => ?_)))
      ·refine T.cond (b := ((decide (x9.A < 0)) || (if (x9.Kind == 1) = true then ((decide (x9.A ≥ 4)) || (if (x9.Kind == 2) = true then ((decide (x9.A > 3)) || ((x9.Kind != 1) && ((x9.Kind != 2) && x9.A != 0))) else ((x9.Kind != 1) && ((x9.Kind != 2) && x9.A != 0)))) else (if (x9.Kind == 2) = true then ((decide (x9.A > 3)) || ((x9.Kind != 1) && ((x9.Kind != 2) && x9.A != 0))) else ((x9.Kind != 1) && ((x9.Kind != 2) && x9.A != 0)))))) rfl (fun hb_147 => ?_) (fun hb_147 => ?_)
       ·replace h := ite_T h hb_147
        refine T.seq (T.region (sa .nils rfl (sa (iI 3) rfl (RS.nil (T.rt ?_)))))
        obtain ⟨w_148, h, hw_148⟩ := map_inr h
        replace h := h.trans (congrArg some (hv_124 _ hw_148))
        refine res_tmpA (v := .nils) rfl (res_tmpA (v := iI 3) rfl (res_done ?_))
        exact ret_own (.tup [.ref 0, iI r.2]) [(0, 172, 2)] [3] (by decide) (none_kept _) rfl (rn_tup ⟨rn_ref rfl, rn_int (congrArg (fun r : (List Ends) × Int => r.2) (Option.some.inj h)).symm, trivial⟩) (rw_arr (en := encEnds) (ys := []) rfl encEnds_p (congrArg (fun r : (List Ends) × Int => r.1) (Option.some.inj h)).symm (rw_nil)) ⟨rfl, rfl⟩
       replace h := ite_F h hb_147
       refine T.skip (T.join (Z := Int) (fun zz_150 => mkA 197 [(1, .ptr 0 0), (4, .ref 1), (5, iI zz_150), (6, iI s6), (7, .ptr 2 0), (51, sL encNode p0.Nodes), (52, iI ((p0.Nodes).length : Int)), (53, iI s6)]) (fun zz_150 => [.box [sL encNode p0.Nodes, iI p0.Rings, iI p0.Room], aR 172 2 encEnds s7, .box [iI x9.Kind, iI x9.A, sL encI x9.In, sL encI x9.Out]]) (fun zz_150 => net_look_k3 p0 s6 s7 x9 zz_150 = some v_124) (fun zz_150 h => ?_) (fun hK3 => ?_))
       ·revert h; revert zz_150; intro z15 h
        replace h : net_look_k3 p0 s6 s7 x9 z15 = some v_124 := h
        try dsimp only
        unfold net_look_k3 at h
        refine T.seq (T.seq (T.region (sq (v_fieldAddr_ptr Ty.f40_2 rfl (off' := 2) rfl (so (o_load_ptr rfl rfl (loadRow1 Ty.k26 (c := sL encI x9.In) rfl (sq (v_len_sl Ty.s26 rfl (sm (iI 0) rfl (RS.nil (T.block (T.iter (fun ss_159 : Int × (List Ends) => mkA 197 [(1, .ptr 0 0), (4, .ref 1), (5, iI z15), (6, iI s6), (7, .ptr 2 0), (51, sL encNode p0.Nodes), (52, iI ((p0.Nodes).length : Int)), (53, iI s6), (125, sL encI x9.In), (126, iI ((x9.In).length : Int)), (127, iI ss_159.1)]) (fun ss_159 => [.box [sL encNode p0.Nodes, iI p0.Rings, iI p0.Room], aR 172 2 encEnds ss_159.2, .box [iI x9.Kind, iI x9.A, sL encI x9.In, sL encI x9.Out]]) h (Weak.mkN [] [0, 1, 2] (by decide) (none_kept _) rfl ⟨rn_ptr rfl, rn_ref rfl, rn_int rfl, rn_int rfl, rn_ptr rfl, rn_s rfl, rn_int rfl, rn_int rfl, rn_s rfl, rn_int rfl, rn_int rfl, trivial⟩ (rw_bs [sL encNode p0.Nodes, iI p0.Rings, iI p0.Room] rfl (rw_ar rfl rfl (rw_bs [iI x9.Kind, iI x9.A, sL encI x9.In, sL encI x9.Out] rfl (rw_nil))))) (fun ss_159 v_160 h hv_160 => ?_))))))))))))))
        obtain ⟨s16, s17⟩ := ss_159
        replace h : net_look_l2 p0 s6 x9 z15 s16 s17 = some v_160 := h
        try dsimp only
        unfold net_look_l2 at h
        refine T.seq (T.region (sq (v_lss rfl rfl (RS.nil (T.seq (T.cond (b := decide (s16 < ((x9.In).length : Int))) rfl (fun hb_161 => ?_) (fun hb_161 => ?_)))))))
        ·replace h := ite_T h hb_161
         refine T.skip (T.seq (T.block (T.seq ?_)))
         obtain ⟨x19, hx19, h⟩ := bind_some h
         refine T.region (sq (v_index_sl Ty.s26 (fun _ => rfl) rfl rfl hx19 (so (o_load_elt rfl (loadRow1 Ty.k3 (c := iI x19) rfl (sa (iI x19) rfl (RS.nil (T.seq (T.join (Z := Unit) (fun _ => mkA 197 [(1, .ptr 0 0), (4, .ref 1), (5, iI z15), (6, iI s6), (7, .ptr 2 0), (12, iI x19), (51, sL encNode p0.Nodes), (52, iI ((p0.Nodes).length : Int)), (53, iI s6), (125, sL encI x9.In), (126, iI ((x9.In).length : Int)), (127, iI s16), (138, .bool ((decide (x19 < 0)) || decide (x19 ≥ p0.Rings)))]) (fun _ => [.box [sL encNode p0.Nodes, iI p0.Rings, iI p0.Room], aR 172 2 encEnds s17, .box [iI x9.Kind, iI x9.A, sL encI x9.In, sL encI x9.Out]]) (fun _ => True) (fun _ _ => ?_) (fun hK => ?_))))))))))
         ·refine T.cond (b := ((decide (x19 < 0)) || decide (x19 ≥ p0.Rings))) rfl (fun hb_163 => ?_) (fun hb_163 => ?_)
          ·replace h := ite_T h hb_163
           refine T.seq (T.region (sa .nils rfl (sa (iI 3) rfl (RS.nil (T.rt ?_)))))
           obtain ⟨w_164, h, hw_164⟩ := map_inr h
           replace h := h.trans (congrArg some (hv_160 _ hw_164))
           obtain ⟨w_165, h, hw_165⟩ := map_inr h
           replace h := h.trans (congrArg some (hv_124 _ hw_165))
           refine res_tmpA (v := .nils) rfl (res_tmpA (v := iI 3) rfl (res_done ?_))
           exact ret_own (.tup [.ref 0, iI r.2]) [(0, 172, 2)] [3] (by decide) (none_kept _) rfl (rn_tup ⟨rn_ref rfl, rn_int (congrArg (fun r : (List Ends) × Int => r.2) (Option.some.inj h)).symm, trivial⟩) (rw_arr (en := encEnds) (ys := []) rfl encEnds_p (congrArg (fun r : (List Ends) × Int => r.1) (Option.some.inj h)).symm (rw_nil)) ⟨rfl, rfl⟩
          replace h := ite_F h hb_163
          refine T.skip (T.seq (T.seq ?_))
          obtain ⟨x23, hx23, h⟩ := bind_some h
          obtain ⟨x24, hx24, h⟩ := bind_some h
          refine T.region (sm (.ref 1) rfl (sm (iI x19) rfl (sq (v_index_ref' (en := encEnds) Ty.s168 rfl rfl rfl hx23 (sq (v_fieldAddr_aptr Ty.f172_1 rfl (off' := 1) rfl (so (o_load_aptr' (en := encEnds) (a := x24) rfl rfl hx24 (loadRow1 Ty.k3 (c := iI x24.dst) rfl (sq (v_geq rfl rfl (RS.nil (T.cond (b := decide (x24.dst ≥ 0)) rfl (fun hb_166 => ?_) (fun hb_166 => ?_))))))))))))))
          ·replace h := ite_T h hb_166
           refine T.seq (T.region (sa .nils rfl (sa (iI 6) rfl (RS.nil (T.rt ?_)))))
           obtain ⟨w_167, h, hw_167⟩ := map_inr h
           replace h := h.trans (congrArg some (hv_160 _ hw_167))
           obtain ⟨w_168, h, hw_168⟩ := map_inr h
           replace h := h.trans (congrArg some (hv_124 _ hw_168))
           refine res_tmpA (v := .nils) rfl (res_tmpA (v := iI 6) rfl (res_done ?_))
           exact ret_own (.tup [.ref 0, iI r.2]) [(0, 172, 2)] [3] (by decide) (none_kept _) rfl (rn_tup ⟨rn_ref rfl, rn_int (congrArg (fun r : (List Ends) × Int => r.2) (Option.some.inj h)).symm, trivial⟩) (rw_arr (en := encEnds) (ys := []) rfl encEnds_p (congrArg (fun r : (List Ends) × Int => r.1) (Option.some.inj h)).symm (rw_nil)) ⟨rfl, rfl⟩
          replace h := ite_F h hb_166
          refine T.skip ?_
          obtain ⟨x25, hx25, h⟩ := bind_some h
          obtain ⟨x26, hx26, h⟩ := bind_some h
          refine T.region (sm (.ref 1) rfl (sm (iI x19) rfl (sm (iI s6) rfl (sq (v_index_ref' (en := encEnds) Ty.s168 rfl rfl rfl hx25 (sq (v_fieldAddr_aptr Ty.f172_1 rfl (off' := 1) rfl (so (o_store_aptr' (en := encEnds) (a := x26) (a' := (⟨x26.src, s6⟩ : Ends)) Ty.c3 Ty.i3 rfl (vs := [iI s6]) rfl rfl rfl hx26 rfl rfl rfl (RS.nil (T.region (sq (v_add rfl rfl ?_)))))))))))))
          refine sm (iI (IntKind.i64.wrap (s16 + 1))) rfl (RS.nil ?_)
          exact ⟨(IntKind.i64.wrap (s16 + 1), (List.set s17 x25 (⟨x26.src, s6⟩ : Ends))), (Option.some.inj h).symm, Weak.mkN [] [0, 1, 2] (by decide) (none_kept _) rfl ⟨rn_ptr rfl, rn_ref rfl, rn_int rfl, rn_int rfl, rn_ptr rfl, rn_s rfl, rn_int rfl, rn_int rfl, rn_s rfl, rn_int rfl, rn_int rfl, trivial⟩ (rw_bs [sL encNode p0.Nodes, iI p0.Rings, iI p0.Room] rfl (rw_ar rfl rfl (rw_bs [iI x9.Kind, iI x9.A, sL encI x9.In, sL encI x9.Out] rfl (rw_nil))))⟩
         refine T.region (sm (iI x19) rfl (sq (v_lss rfl rfl (sm (.bool (decide (x19 < 0))) rfl ?_))))
         rcases bool_cases (decide (x19 < 0)) with hb_162 | hb_162
         ·refine sn hb_162 (sn hb_162 (sn hb_162 (sn hb_162 (sq (v_pickT (v := .bool true) rfl hb_162 rfl (RS.nil ?_))))))
          exact T.sub (hK () trivial) ⟨rfl, rfl, rfl, rfl, rfl, rfl, rfl, rfl, rfl, rfl, rfl, rfl, (congrArg AV.bool (by simp only [hb_162, bz, if_true, if_false, Bool.false_eq_true])).symm, trivial⟩
         refine yq hb_162 (v_move (v := iI x19) rfl (yq hb_162 (v_fieldAddr_ptr Ty.f24_1 rfl (off' := 1) rfl (yo hb_162 (o_load_ptr rfl rfl (loadRow1 Ty.k3 (c := iI p0.Rings) rfl (yq hb_162 (v_geq rfl rfl (sq (v_pickF (v := .bool (decide (x19 ≥ p0.Rings))) rfl hb_162 rfl (RS.nil ?_)))))))))))
         exact T.sub (hK () trivial) ⟨rfl, rfl, rfl, rfl, rfl, rfl, rfl, rfl, rfl, rfl, rfl, rfl, (congrArg AV.bool (by simp only [hb_162, bz, if_true, if_false, Bool.false_eq_true])).symm, trivial⟩
        replace h := ite_F h hb_161
        refine T.exit ?_
        obtain ⟨w_169, h, hw_169⟩ := map_inr h
        replace h := h.trans (congrArg some (hv_160 _ hw_169))
        refine T.seq (T.region (sq (v_fieldAddr_ptr Ty.f40_3 rfl (off' := 3) rfl (so (o_load_ptr rfl rfl (loadRow1 Ty.k26 (c := sL encI x9.Out) rfl (sq (v_len_sl Ty.s26 rfl (sm (iI 0) rfl (RS.nil (T.block (T.iter (fun ss_178 : Int × (List Ends) => mkA 197 [(1, .ptr 0 0), (4, .ref 1), (5, iI z15), (6, iI s6), (51, sL encNode p0.Nodes), (52, iI ((p0.Nodes).length : Int)), (53, iI s6), (152, sL encI x9.Out), (153, iI ((x9.Out).length : Int)), (154, iI ss_178.1)]) (fun ss_178 => [.box [sL encNode p0.Nodes, iI p0.Rings, iI p0.Room], aR 172 2 encEnds ss_178.2]) h (Weak.mkN [] [0, 1] (by decide) (none_kept _) rfl ⟨rn_ptr rfl, rn_ref rfl, rn_int rfl, rn_int rfl, rn_s rfl, rn_int rfl, rn_int rfl, rn_s rfl, rn_int rfl, rn_int rfl, trivial⟩ (rw_bs [sL encNode p0.Nodes, iI p0.Rings, iI p0.Room] rfl (rw_ar rfl rfl (rw_nil)))) (fun ss_178 v_179 h hv_179 => ?_)))))))))))))
        obtain ⟨s27, s28⟩ := ss_178
        replace h : net_look_l1 p0 s6 x9 z15 s27 s28 = some v_179 := h
        try dsimp only
        unfold net_look_l1 at h
        refine T.seq (T.region (sq (v_lss rfl rfl (RS.nil (T.seq (T.cond (b := decide (s27 < ((x9.Out).length : Int))) rfl (fun hb_180 => ?_) (fun hb_180 => ?_)))))))
        ·replace h := ite_T h hb_180
         refine T.skip (T.seq (T.block (T.seq ?_)))
         obtain ⟨x30, hx30, h⟩ := bind_some h
         refine T.region (sq (v_index_sl Ty.s26 (fun _ => rfl) rfl rfl hx30 (so (o_load_elt rfl (loadRow1 Ty.k3 (c := iI x30) rfl (sa (iI x30) rfl (RS.nil (T.seq (T.join (Z := Unit) (fun _ => mkA 197 [(1, .ptr 0 0), (4, .ref 1), (5, iI z15), (6, iI s6), (14, iI x30), (51, sL encNode p0.Nodes), (52, iI ((p0.Nodes).length : Int)), (53, iI s6), (152, sL encI x9.Out), (153, iI ((x9.Out).length : Int)), (154, iI s27), (165, .bool ((decide (x30 < 0)) || decide (x30 ≥ p0.Rings)))]) (fun _ => [.box [sL encNode p0.Nodes, iI p0.Rings, iI p0.Room], aR 172 2 encEnds s28]) (fun _ => True) (fun _ _ => ?_) (fun hK => ?_))))))))))
         ·refine T.cond (b := ((decide (x30 < 0)) || decide (x30 ≥ p0.Rings))) rfl (fun hb_182 => ?_) (fun hb_182 => ?_)
          ·replace h := ite_T h hb_182
           refine T.seq (T.region (sa .nils rfl (sa (iI 3) rfl (RS.nil (T.rt ?_)))))
           obtain ⟨w_183, h, hw_183⟩ := map_inr h
           replace h := h.trans (congrArg some (hv_179 _ hw_183))
           obtain ⟨w_184, h, hw_184⟩ := map_inr h
           replace h := h.trans (congrArg some (hv_124 _ hw_184))
           refine res_tmpA (v := .nils) rfl (res_tmpA (v := iI 3) rfl (res_done ?_))
           exact ret_own (.tup [.ref 0, iI r.2]) [(0, 172, 2)] [2] (by decide) (none_kept _) rfl (rn_tup ⟨rn_ref rfl, rn_int (congrArg (fun r : (List Ends) × Int => r.2) (Option.some.inj h)).symm, trivial⟩) (rw_arr (en := encEnds) (ys := []) rfl encEnds_p (congrArg (fun r : (List Ends) × Int => r.1) (Option.some.inj h)).symm (rw_nil)) ⟨rfl, rfl⟩
          replace h := ite_F h hb_182
          refine T.skip (T.seq (T.seq ?_))
          obtain ⟨x34, hx34, h⟩ := bind_some h
          obtain ⟨x35, hx35, h⟩ := bind_some h
          refine T.region (sm (.ref 1) rfl (sm (iI x30) rfl (sq (v_index_ref' (en := encEnds) Ty.s168 rfl rfl rfl hx34 (sq (v_fieldAddr_aptr Ty.f172_0 rfl (off' := 0) rfl (so (o_load_aptr' (en := encEnds) (a := x35) rfl rfl hx35 (loadRow1 Ty.k3 (c := iI x35.src) rfl (sq (v_geq rfl rfl (RS.nil (T.cond (b := decide (x35.src ≥ 0)) rfl (fun hb_185 => ?_) (fun hb_185 => ?_))))))))))))))
          ·replace h := ite_T h hb_185
           refine T.seq (T.region (sa .nils rfl (sa (iI 6) rfl (RS.nil (T.rt ?_)))))
           obtain ⟨w_186, h, hw_186⟩ := map_inr h
           replace h := h.trans (congrArg some (hv_179 _ hw_186))
           obtain ⟨w_187, h, hw_187⟩ := map_inr h
           replace h := h.trans (congrArg some (hv_124 _ hw_187))
           refine res_tmpA (v := .nils) rfl (res_tmpA (v := iI 6) rfl (res_done ?_))
           exact ret_own (.tup [.ref 0, iI r.2]) [(0, 172, 2)] [2] (by decide) (none_kept _) rfl (rn_tup ⟨rn_ref rfl, rn_int (congrArg (fun r : (List Ends) × Int => r.2) (Option.some.inj h)).symm, trivial⟩) (rw_arr (en := encEnds) (ys := []) rfl encEnds_p (congrArg (fun r : (List Ends) × Int => r.1) (Option.some.inj h)).symm (rw_nil)) ⟨rfl, rfl⟩
          replace h := ite_F h hb_185
          refine T.skip ?_
          obtain ⟨x36, hx36, h⟩ := bind_some h
          obtain ⟨x37, hx37, h⟩ := bind_some h
          refine T.region (sm (.ref 1) rfl (sm (iI x30) rfl (sm (iI s6) rfl (sq (v_index_ref' (en := encEnds) Ty.s168 rfl rfl rfl hx36 (sq (v_fieldAddr_aptr Ty.f172_0 rfl (off' := 0) rfl (so (o_store_aptr' (en := encEnds) (a := x37) (a' := (⟨s6, x37.dst⟩ : Ends)) Ty.c3 Ty.i3 rfl (vs := [iI s6]) rfl rfl rfl hx37 rfl rfl rfl (RS.nil (T.region (sq (v_add rfl rfl ?_)))))))))))))
          refine sm (iI (IntKind.i64.wrap (s27 + 1))) rfl (RS.nil ?_)
          exact ⟨(IntKind.i64.wrap (s27 + 1), (List.set s28 x36 (⟨s6, x37.dst⟩ : Ends))), (Option.some.inj h).symm, Weak.mkN [] [0, 1] (by decide) (none_kept _) rfl ⟨rn_ptr rfl, rn_ref rfl, rn_int rfl, rn_int rfl, rn_s rfl, rn_int rfl, rn_int rfl, rn_s rfl, rn_int rfl, rn_int rfl, trivial⟩ (rw_bs [sL encNode p0.Nodes, iI p0.Rings, iI p0.Room] rfl (rw_ar rfl rfl (rw_nil)))⟩
         refine T.region (sm (iI x30) rfl (sq (v_lss rfl rfl (sm (.bool (decide (x30 < 0))) rfl ?_))))
         rcases bool_cases (decide (x30 < 0)) with hb_181 | hb_181
         ·refine sn hb_181 (sn hb_181 (sn hb_181 (sn hb_181 (sq (v_pickT (v := .bool true) rfl hb_181 rfl (RS.nil ?_))))))
          exact T.sub (hK () trivial) ⟨rfl, rfl, rfl, rfl, rfl, rfl, rfl, rfl, rfl, rfl, rfl, (congrArg AV.bool (by simp only [hb_181, bz, if_true, if_false, Bool.false_eq_true])).symm, trivial⟩
         refine yq hb_181 (v_move (v := iI x30) rfl (yq hb_181 (v_fieldAddr_ptr Ty.f24_1 rfl (off' := 1) rfl (yo hb_181 (o_load_ptr rfl rfl (loadRow1 Ty.k3 (c := iI p0.Rings) rfl (yq hb_181 (v_geq rfl rfl (sq (v_pickF (v := .bool (decide (x30 ≥ p0.Rings))) rfl hb_181 rfl (RS.nil ?_)))))))))))
         exact T.sub (hK () trivial) ⟨rfl, rfl, rfl, rfl, rfl, rfl, rfl, rfl, rfl, rfl, rfl, (congrArg AV.bool (by simp only [hb_181, bz, if_true, if_false, Bool.false_eq_true])).symm, trivial⟩
        replace h := ite_F h hb_180
        refine T.exit ?_
        obtain ⟨w_188, h, hw_188⟩ := map_inr h
        replace h := h.trans (congrArg some (hv_179 _ hw_188))
        refine T.region (sq (v_add rfl rfl (sm (iI (IntKind.i64.wrap (s6 + 1))) rfl (RS.nil ?_))))
        exact ⟨(z15, IntKind.i64.wrap (s6 + 1), s28), (Option.some.inj h).symm, Weak.mkN [] [0, 1] (by decide) (none_kept _) rfl ⟨rn_ptr rfl, rn_ref rfl, rn_int rfl, rn_s rfl, rn_int rfl, rn_int rfl, trivial⟩ (rw_bs [sL encNode p0.Nodes, iI p0.Rings, iI p0.Room] rfl (rw_ar rfl rfl (rw_nil)))⟩
       refine T.seq (T.region (sq (v_fieldAddr_ptr Ty.f40_0 rfl (off' := 0) rfl (so (o_load_ptr rfl rfl (loadRow1 Ty.k3 (c := iI x9.Kind) rfl (sq (v_eql rfl rfl (RS.nil (T.cond (b := x9.Kind == 8) rfl (fun hb_189 => ?_) (fun hb_189 => ?_)))))))))))
       ·replace h := ite_T h hb_189
        refine T.region (sm (iI s5) rfl (sq (v_add rfl rfl (sa (iI (IntKind.i64.wrap (s5 + 1))) rfl (RS.nil ?_)))))
        exact T.weakR (hK3 (IntKind.i64.wrap (s5 + 1)) h) (Weak.mkN [] [0, 1, 2] (by decide) (none_kept _) rfl ⟨rn_ptr rfl, rn_ref rfl, rn_int rfl, rn_int rfl, rn_ptr rfl, rn_s rfl, rn_int rfl, rn_int rfl, trivial⟩ (rw_bs [sL encNode p0.Nodes, iI p0.Rings, iI p0.Room] rfl (rw_ar rfl rfl (rw_bs [iI x9.Kind, iI x9.A, sL encI x9.In, sL encI x9.Out] rfl (rw_nil)))))
       replace h := ite_F h hb_189
       refine T.skip ?_
       exact T.sub (hK3 s5 h) ⟨rfl, rfl, rfl, rfl, rfl, rfl, rfl, rfl, trivial⟩
      refine T.region (sq (v_fieldAddr_ptr Ty.f40_1 rfl (off' := 1) rfl (so (o_load_ptr rfl rfl (loadRow1 Ty.k3 (c := iI x9.A) rfl (sq (v_lss rfl rfl (sm (.bool (decide (x9.A < 0))) rfl ?_))))))))
      rcases bool_cases (decide (x9.A < 0)) with hb_132 | hb_132
      ·refine sn hb_132 (sn hb_132 (sn hb_132 (sn hb_132 (su (su (su (sn hb_132 (sq (v_pickT (v := .bool true) rfl hb_132 rfl (sm (.bool true) rfl ?_))))))))))
       refine sn rfl (sn rfl (sn rfl (sn rfl (su (su (su (sn rfl (sq (v_pickT (v := .bool true) rfl rfl rfl (sm (.bool true) rfl ?_))))))))))
       refine sn rfl (sn rfl (sn rfl (sn rfl (su (su (su (sn rfl (sn rfl (su ?_)))))))))
       refine su (su (sn rfl (sq (v_pickT (v := .bool true) rfl rfl rfl (RS.nil ?_)))))
       exact T.sub (hK () trivial) ⟨rfl, rfl, rfl, rfl, rfl, rfl, rfl, rfl, (congrArg AV.bool (by simp only [hb_132, bz, if_true, if_false, Bool.false_eq_true])).symm, trivial⟩
      refine yq hb_132 (v_fieldAddr_ptr Ty.f40_0 rfl (off' := 0) rfl (yo hb_132 (o_load_ptr rfl rfl (loadRow1 Ty.k3 (c := iI x9.Kind) rfl (yq hb_132 (v_eql rfl rfl (yq hb_132 (v_move (v := .bool (x9.Kind == 1)) rfl ?_))))))))
      rcases bool_cases (x9.Kind == 1) with hb_133 | hb_133
      ·refine yq hb_133 (v_fieldAddr_ptr Ty.f40_1 rfl (off' := 1) rfl (yo hb_133 (o_load_ptr rfl rfl (loadRow1 Ty.k3 (c := iI x9.A) rfl (yq hb_133 (v_geq rfl rfl (yq hb_132 (v_pickT (v := .bool (decide (x9.A ≥ 4))) rfl hb_133 rfl (sq (v_pickF (v := .bool (decide (x9.A ≥ 4))) rfl hb_132 rfl (sm (.bool (decide (x9.A ≥ 4))) rfl ?_)))))))))))
       rcases bool_cases (decide (x9.A ≥ 4)) with hb_134 | hb_134
       ·refine sn hb_134 (sn hb_134 (sn hb_134 (sn hb_134 (su (su (su (sn hb_134 (sq (v_pickT (v := .bool true) rfl hb_134 rfl (sm (.bool true) rfl ?_))))))))))
        refine sn rfl (sn rfl (sn rfl (sn rfl (su (su (su (sn rfl (sn rfl (su ?_)))))))))
        refine su (su (sn rfl (sq (v_pickT (v := .bool true) rfl rfl rfl (RS.nil ?_)))))
        exact T.sub (hK () trivial) ⟨rfl, rfl, rfl, rfl, rfl, rfl, rfl, rfl, (congrArg AV.bool (by simp only [hb_132, hb_133, hb_134, bz, if_true, if_false, Bool.false_eq_true])).symm, trivial⟩
       refine yq hb_134 (v_fieldAddr_ptr Ty.f40_0 rfl (off' := 0) rfl (yo hb_134 (o_load_ptr rfl rfl (loadRow1 Ty.k3 (c := iI x9.Kind) rfl (yq hb_134 (v_eql rfl rfl (yq hb_134 (v_move (v := .bool (x9.Kind == 2)) rfl ?_))))))))
       rcases bool_cases (x9.Kind == 2) with hb_135 | hb_135
       ·refine yq hb_135 (v_fieldAddr_ptr Ty.f40_1 rfl (off' := 1) rfl (yo hb_135 (o_load_ptr rfl rfl (loadRow1 Ty.k3 (c := iI x9.A) rfl (yq hb_135 (v_gtr rfl rfl (yq hb_134 (v_pickT (v := .bool (decide (x9.A > 3))) rfl hb_135 rfl (sq (v_pickF (v := .bool (decide (x9.A > 3))) rfl hb_134 rfl (sm (.bool (decide (x9.A > 3))) rfl ?_)))))))))))
        rcases bool_cases (decide (x9.A > 3)) with hb_136 | hb_136
        ·refine sn hb_136 (sn hb_136 (sn hb_136 (sn hb_136 (su (su (su (sn hb_136 (sn hb_136 (su ?_)))))))))
         refine su (su (sn hb_136 (sq (v_pickT (v := .bool true) rfl hb_136 rfl (RS.nil ?_)))))
         exact T.sub (hK () trivial) ⟨rfl, rfl, rfl, rfl, rfl, rfl, rfl, rfl, (congrArg AV.bool (by simp only [hb_132, hb_133, hb_134, hb_135, hb_136, bz, if_true, if_false, Bool.false_eq_true])).symm, trivial⟩
        refine yq hb_136 (v_fieldAddr_ptr Ty.f40_0 rfl (off' := 0) rfl (yo hb_136 (o_load_ptr rfl rfl (loadRow1 Ty.k3 (c := iI x9.Kind) rfl (yq hb_136 (v_neq rfl rfl (yq hb_136 (v_move (v := .bool (x9.Kind != 1)) rfl ?_))))))))
        rcases bool_cases (x9.Kind != 1) with hb_137 | hb_137
        ·refine yq hb_137 (v_fieldAddr_ptr Ty.f40_0 rfl (off' := 0) rfl (yo hb_137 (o_load_ptr rfl rfl (loadRow1 Ty.k3 (c := iI x9.Kind) rfl (yq hb_137 (v_neq rfl rfl (yq hb_136 (v_pickT (v := .bool (x9.Kind != 2)) rfl hb_137 rfl (yq hb_136 (v_move (v := .bool (x9.Kind != 2)) rfl ?_))))))))))
         rcases bool_cases (x9.Kind != 2) with hb_138 | hb_138
         ·refine yq hb_138 (v_fieldAddr_ptr Ty.f40_1 rfl (off' := 1) rfl (yo hb_138 (o_load_ptr rfl rfl (loadRow1 Ty.k3 (c := iI x9.A) rfl (yq hb_138 (v_neq rfl rfl (yq hb_136 (v_pickT (v := .bool (x9.A != 0)) rfl hb_138 rfl (sq (v_pickF (v := .bool (x9.A != 0)) rfl hb_136 rfl (RS.nil ?_)))))))))))
          exact T.sub (hK () trivial) ⟨rfl, rfl, rfl, rfl, rfl, rfl, rfl, rfl, (congrArg AV.bool (by simp only [hb_132, hb_133, hb_134, hb_135, hb_136, hb_137, hb_138, bz, if_true, if_false, Bool.false_eq_true])).symm, trivial⟩
         refine sn hb_138 (sn hb_138 (sn hb_138 (yq hb_136 (v_pickF (v := .bool false) rfl hb_138 rfl (sq (v_pickF (v := .bool false) rfl hb_136 rfl (RS.nil ?_)))))))
         exact T.sub (hK () trivial) ⟨rfl, rfl, rfl, rfl, rfl, rfl, rfl, rfl, (congrArg AV.bool (by simp only [hb_132, hb_133, hb_134, hb_135, hb_136, hb_137, hb_138, bz, if_true, if_false, Bool.false_eq_true])).symm, trivial⟩
        refine sn hb_137 (sn hb_137 (sn hb_137 (yq hb_136 (v_pickF (v := .bool false) rfl hb_137 rfl (yq hb_136 (v_move (v := .bool false) rfl (sn rfl (sn rfl (sn rfl (yq hb_136 (v_pickF (v := .bool false) rfl rfl rfl (sq (v_pickF (v := .bool false) rfl hb_136 rfl ?_)))))))))))))
        refine RS.nil ?_
        exact T.sub (hK () trivial) ⟨rfl, rfl, rfl, rfl, rfl, rfl, rfl, rfl, (congrArg AV.bool (by simp only [hb_132, hb_133, hb_134, hb_135, hb_136, hb_137, bz, if_true, if_false, Bool.false_eq_true])).symm, trivial⟩
       refine sn hb_135 (sn hb_135 (sn hb_135 (yq hb_134 (v_pickF (v := .bool false) rfl hb_135 rfl (sq (v_pickF (v := .bool false) rfl hb_134 rfl (sm (.bool false) rfl (yq rfl (v_fieldAddr_ptr Ty.f40_0 rfl (off' := 0) rfl (yo rfl (o_load_ptr rfl rfl (loadRow1 Ty.k3 (c := iI x9.Kind) rfl (yq rfl (v_neq rfl rfl (yq rfl (v_move (v := .bool (x9.Kind != 1)) rfl ?_))))))))))))))))
       rcases bool_cases (x9.Kind != 1) with hb_139 | hb_139
       ·refine yq hb_139 (v_fieldAddr_ptr Ty.f40_0 rfl (off' := 0) rfl (yo hb_139 (o_load_ptr rfl rfl (loadRow1 Ty.k3 (c := iI x9.Kind) rfl (yq hb_139 (v_neq rfl rfl (yq rfl (v_pickT (v := .bool (x9.Kind != 2)) rfl hb_139 rfl (yq rfl (v_move (v := .bool (x9.Kind != 2)) rfl ?_))))))))))
        rcases bool_cases (x9.Kind != 2) with hb_140 | hb_140
        ·refine yq hb_140 (v_fieldAddr_ptr Ty.f40_1 rfl (off' := 1) rfl (yo hb_140 (o_load_ptr rfl rfl (loadRow1 Ty.k3 (c := iI x9.A) rfl (yq hb_140 (v_neq rfl rfl (yq rfl (v_pickT (v := .bool (x9.A != 0)) rfl hb_140 rfl (sq (v_pickF (v := .bool (x9.A != 0)) rfl rfl rfl (RS.nil ?_)))))))))))
         exact T.sub (hK () trivial) ⟨rfl, rfl, rfl, rfl, rfl, rfl, rfl, rfl, (congrArg AV.bool (by simp only [hb_132, hb_133, hb_134, hb_135, hb_139, hb_140, bz, if_true, if_false, Bool.false_eq_true])).symm, trivial⟩
        refine sn hb_140 (sn hb_140 (sn hb_140 (yq rfl (v_pickF (v := .bool false) rfl hb_140 rfl (sq (v_pickF (v := .bool false) rfl rfl rfl (RS.nil ?_)))))))
        exact T.sub (hK () trivial) ⟨rfl, rfl, rfl, rfl, rfl, rfl, rfl, rfl, (congrArg AV.bool (by simp only [hb_132, hb_133, hb_134, hb_135, hb_139, hb_140, bz, if_true, if_false, Bool.false_eq_true])).symm, trivial⟩
       refine sn hb_139 (sn hb_139 (sn hb_139 (yq rfl (v_pickF (v := .bool false) rfl hb_139 rfl (yq rfl (v_move (v := .bool false) rfl (sn rfl (sn rfl (sn rfl (yq rfl (v_pickF (v := .bool false) rfl rfl rfl (sq (v_pickF (v := .bool false) rfl rfl rfl ?_)))))))))))))
       refine RS.nil ?_
       exact T.sub (hK () trivial) ⟨rfl, rfl, rfl, rfl, rfl, rfl, rfl, rfl, (congrArg AV.bool (by simp only [hb_132, hb_133, hb_134, hb_135, hb_139, bz, if_true, if_false, Bool.false_eq_true])).symm, trivial⟩
      refine sn hb_133 (sn hb_133 (sn hb_133 (yq hb_132 (v_pickF (v := .bool false) rfl hb_133 rfl (sq (v_pickF (v := .bool false) rfl hb_132 rfl (sm (.bool false) rfl (yq rfl (v_fieldAddr_ptr Ty.f40_0 rfl (off' := 0) rfl (yo rfl (o_load_ptr rfl rfl (loadRow1 Ty.k3 (c := iI x9.Kind) rfl (yq rfl (v_eql rfl rfl (yq rfl (v_move (v := .bool (x9.Kind == 2)) rfl ?_))))))))))))))))
      rcases bool_cases (x9.Kind == 2) with hb_141 | hb_141
      ·refine yq hb_141 (v_fieldAddr_ptr Ty.f40_1 rfl (off' := 1) rfl (yo hb_141 (o_load_ptr rfl rfl (loadRow1 Ty.k3 (c := iI x9.A) rfl (yq hb_141 (v_gtr rfl rfl (yq rfl (v_pickT (v := .bool (decide (x9.A > 3))) rfl hb_141 rfl (sq (v_pickF (v := .bool (decide (x9.A > 3))) rfl rfl rfl (sm (.bool (decide (x9.A > 3))) rfl ?_)))))))))))
       rcases bool_cases (decide (x9.A > 3)) with hb_142 | hb_142
       ·refine sn hb_142 (sn hb_142 (sn hb_142 (sn hb_142 (su (su (su (sn hb_142 (sn hb_142 (su ?_)))))))))
        refine su (su (sn hb_142 (sq (v_pickT (v := .bool true) rfl hb_142 rfl (RS.nil ?_)))))
        exact T.sub (hK () trivial) ⟨rfl, rfl, rfl, rfl, rfl, rfl, rfl, rfl, (congrArg AV.bool (by simp only [hb_132, hb_133, hb_141, hb_142, bz, if_true, if_false, Bool.false_eq_true])).symm, trivial⟩
       refine yq hb_142 (v_fieldAddr_ptr Ty.f40_0 rfl (off' := 0) rfl (yo hb_142 (o_load_ptr rfl rfl (loadRow1 Ty.k3 (c := iI x9.Kind) rfl (yq hb_142 (v_neq rfl rfl (yq hb_142 (v_move (v := .bool (x9.Kind != 1)) rfl ?_))))))))
       rcases bool_cases (x9.Kind != 1) with hb_143 | hb_143
       ·refine yq hb_143 (v_fieldAddr_ptr Ty.f40_0 rfl (off' := 0) rfl (yo hb_143 (o_load_ptr rfl rfl (loadRow1 Ty.k3 (c := iI x9.Kind) rfl (yq hb_143 (v_neq rfl rfl (yq hb_142 (v_pickT (v := .bool (x9.Kind != 2)) rfl hb_143 rfl (yq hb_142 (v_move (v := .bool (x9.Kind != 2)) rfl ?_))))))))))
        rcases bool_cases (x9.Kind != 2) with hb_144 | hb_144
        ·refine yq hb_144 (v_fieldAddr_ptr Ty.f40_1 rfl (off' := 1) rfl (yo hb_144 (o_load_ptr rfl rfl (loadRow1 Ty.k3 (c := iI x9.A) rfl (yq hb_144 (v_neq rfl rfl (yq hb_142 (v_pickT (v := .bool (x9.A != 0)) rfl hb_144 rfl (sq (v_pickF (v := .bool (x9.A != 0)) rfl hb_142 rfl (RS.nil ?_)))))))))))
         exact T.sub (hK () trivial) ⟨rfl, rfl, rfl, rfl, rfl, rfl, rfl, rfl, (congrArg AV.bool (by simp only [hb_132, hb_133, hb_141, hb_142, hb_143, hb_144, bz, if_true, if_false, Bool.false_eq_true])).symm, trivial⟩
        refine sn hb_144 (sn hb_144 (sn hb_144 (yq hb_142 (v_pickF (v := .bool false) rfl hb_144 rfl (sq (v_pickF (v := .bool false) rfl hb_142 rfl (RS.nil ?_)))))))
        exact T.sub (hK () trivial) ⟨rfl, rfl, rfl, rfl, rfl, rfl, rfl, rfl, (congrArg AV.bool (by simp only [hb_132, hb_133, hb_141, hb_142, hb_143, hb_144, bz, if_true, if_false, Bool.false_eq_true])).symm, trivial⟩
       refine sn hb_143 (sn hb_143 (sn hb_143 (yq hb_142 (v_pickF (v := .bool false) rfl hb_143 rfl (yq hb_142 (v_move (v := .bool false) rfl (sn rfl (sn rfl (sn rfl (yq hb_142 (v_pickF (v := .bool false) rfl rfl rfl (sq (v_pickF (v := .bool false) rfl hb_142 rfl ?_)))))))))))))
       refine RS.nil ?_
       exact T.sub (hK () trivial) ⟨rfl, rfl, rfl, rfl, rfl, rfl, rfl, rfl, (congrArg AV.bool (by simp only [hb_132, hb_133, hb_141, hb_142, hb_143, bz, if_true, if_false, Bool.false_eq_true])).symm, trivial⟩
      refine sn hb_141 (sn hb_141 (sn hb_141 (yq rfl (v_pickF (v := .bool false) rfl hb_141 rfl (sq (v_pickF (v := .bool false) rfl rfl rfl (sm (.bool false) rfl (yq rfl (v_fieldAddr_ptr Ty.f40_0 rfl (off' := 0) rfl (yo rfl (o_load_ptr rfl rfl (loadRow1 Ty.k3 (c := iI x9.Kind) rfl (yq rfl (v_neq rfl rfl (yq rfl (v_move (v := .bool (x9.Kind != 1)) rfl ?_))))))))))))))))
      rcases bool_cases (x9.Kind != 1) with hb_145 | hb_145
      ·refine yq hb_145 (v_fieldAddr_ptr Ty.f40_0 rfl (off' := 0) rfl (yo hb_145 (o_load_ptr rfl rfl (loadRow1 Ty.k3 (c := iI x9.Kind) rfl (yq hb_145 (v_neq rfl rfl (yq rfl (v_pickT (v := .bool (x9.Kind != 2)) rfl hb_145 rfl (yq rfl (v_move (v := .bool (x9.Kind != 2)) rfl ?_))))))))))
       rcases bool_cases (x9.Kind != 2) with hb_146 | hb_146
       ·refine yq hb_146 (v_fieldAddr_ptr Ty.f40_1 rfl (off' := 1) rfl (yo hb_146 (o_load_ptr rfl rfl (loadRow1 Ty.k3 (c := iI x9.A) rfl (yq hb_146 (v_neq rfl rfl (yq rfl (v_pickT (v := .bool (x9.A != 0)) rfl hb_146 rfl (sq (v_pickF (v := .bool (x9.A != 0)) rfl rfl rfl (RS.nil ?_)))))))))))
        exact T.sub (hK () trivial) ⟨rfl, rfl, rfl, rfl, rfl, rfl, rfl, rfl, (congrArg AV.bool (by simp only [hb_132, hb_133, hb_141, hb_145, hb_146, bz, if_true, if_false, Bool.false_eq_true])).symm, trivial⟩
       refine sn hb_146 (sn hb_146 (sn hb_146 (yq rfl (v_pickF (v := .bool false) rfl hb_146 rfl (sq (v_pickF (v := .bool false) rfl rfl rfl (RS.nil ?_)))))))
       exact T.sub (hK () trivial) ⟨rfl, rfl, rfl, rfl, rfl, rfl, rfl, rfl, (congrArg AV.bool (by simp only [hb_132, hb_133, hb_141, hb_145, hb_146, bz, if_true, if_false, Bool.false_eq_true])).symm, trivial⟩
      refine sn hb_145 (sn hb_145 (sn hb_145 (yq rfl (v_pickF (v := .bool false) rfl hb_145 rfl (yq rfl (v_move (v := .bool false) rfl (sn rfl (sn rfl (sn rfl (yq rfl (v_pickF (v := .bool false) rfl rfl rfl (sq (v_pickF (v := .bool false) rfl rfl rfl ?_)))))))))))))
      refine RS.nil ?_
      exact T.sub (hK () trivial) ⟨rfl, rfl, rfl, rfl, rfl, rfl, rfl, rfl, (congrArg AV.bool (by simp only [hb_132, hb_133, hb_141, hb_145, bz, if_true, if_false, Bool.false_eq_true])).symm, trivial⟩
     refine T.region (sq (v_fieldAddr_ptr Ty.f40_2 rfl (off' := 2) rfl (so (o_load_ptr rfl rfl (loadRow1 Ty.k26 (c := sL encI x9.In) rfl (sq (v_len_sl Ty.s26 rfl (sm (iI x11.1) rfl (so (o_call (as0 := [iI ((x9.In).length : Int), iI x11.1]) (as1 := [iI ((x9.In).length : Int), iI x11.1]) (caps := []) (aw1 := [.box [sL encNode p0.Nodes, iI p0.Rings, iI p0.Room], aR 172 2 encEnds s7, .box [iI x9.Kind, iI x9.A, sL encI x9.In, sL encI x9.Out]]) rfl rfl rfl (k_flat (v := .bool x12) (net_fits_c ((x9.In).length : Int) x11.1 x12 hx12) (⟨pure_int _ _, pure_int _ _, trivial⟩) rfl (sq (v_not rfl (sm (.bool (!x12)) rfl ?_))))))))))))))
     rcases bool_cases (!x12) with hb_128 | hb_128
     ·replace hz := ite_T hz hb_128
      refine sn hb_128 (sn hb_128 (sn hb_128 (sn hb_128 (sn hb_128 (sn hb_128 (sq (v_pickT (v := .bool true) rfl hb_128 rfl (RS.nil ?_))))))))
      exact T.sub (hK () trivial) ⟨rfl, rfl, rfl, rfl, rfl, rfl, rfl, rfl, (congrArg AV.bool ((congrArg (fun p => p) (Option.some.inj hz)).symm)).symm, trivial⟩
     replace hz := ite_F hz hb_128
     obtain ⟨x13, hx13, hz⟩ := bind_some hz
     refine yq hb_128 (v_fieldAddr_ptr Ty.f40_3 rfl (off' := 3) rfl (yo hb_128 (o_load_ptr rfl rfl (loadRow1 Ty.k26 (c := sL encI x9.Out) rfl (yq hb_128 (v_len_sl Ty.s26 rfl (yq hb_128 (v_move (v := iI x11.2.1) rfl (yo hb_128 (o_call (as0 := [iI ((x9.Out).length : Int), iI x11.2.1]) (as1 := [iI ((x9.Out).length : Int), iI x11.2.1]) (caps := []) (aw1 := [.box [sL encNode p0.Nodes, iI p0.Rings, iI p0.Room], aR 172 2 encEnds s7, .box [iI x9.Kind, iI x9.A, sL encI x9.In, sL encI x9.Out]]) rfl rfl rfl (k_flat (v := .bool x13) (net_fits_c ((x9.Out).length : Int) x11.2.1 x13 hx13) (⟨pure_int _ _, pure_int _ _, trivial⟩) rfl (yq hb_128 (v_not rfl (sq (v_pickF (v := .bool (!x13)) rfl hb_128 rfl (RS.nil ?_))))))))))))))))
     exact T.sub (hK () trivial) ⟨rfl, rfl, rfl, rfl, rfl, rfl, rfl, rfl, (congrArg AV.bool ((congrArg (fun p => p) (Option.some.inj hz)).symm)).symm, trivial⟩
    replace h := ite_F h hb_125
    refine T.exit ?_
    obtain ⟨w_190, h, hw_190⟩ := map_inr h
    replace h := h.trans (congrArg some (hv_124 _ hw_190))
    refine T.seq (T.seq (T.region (sm (.ref 1) rfl (sq (v_len_ref (en := encEnds) Ty.s168 rfl rfl (sm (iI 0) rfl (RS.nil (T.block (T.iter (fun ss_197 : Int => mkA 197 [(4, .ref 0), (5, iI s5), (179, .ref 0), (180, iI ((s7).length : Int)), (181, iI ss_197)]) (fun ss_197 => [aR 172 2 encEnds s7]) h (Weak.mkN [] [1] (by decide) (none_kept _) rfl ⟨rn_ref rfl, rn_int rfl, rn_ref rfl, rn_int rfl, rn_int rfl, trivial⟩ (rw_ar rfl rfl (rw_nil))) (fun ss_197 v_198 h hv_198 => ?_))))))))))
    revert hv_198 h; revert ss_197; intro s38 h hv_198
    replace h : net_look_l4 s5 s7 s38 = some v_198 := h
    try dsimp only
    unfold net_look_l4 at h
    refine T.seq (T.region (sq (v_lss rfl rfl (RS.nil (T.seq (T.cond (b := decide (s38 < ((s7).length : Int))) rfl (fun hb_199 => ?_) (fun hb_199 => ?_)))))))
    ·replace h := ite_T h hb_199
     refine T.skip (T.seq (T.block (T.seq ?_)))
     obtain ⟨x41, hx41, h⟩ := bind_some h
     obtain ⟨x42, hx42, h⟩ := bind_some h
     refine T.region (sq (v_index_ref' (en := encEnds) Ty.s168 rfl rfl rfl hx41 (so (o_load_aptr' (en := encEnds) (a := x42) rfl rfl hx42 (loadRowA Ty.k172 Ty.c172 rfl (cs := [iI x42.src, iI x42.dst]) rfl (so (o_alloc Ty.z172 rfl rfl (so (o_store_ptr Ty.c172 Ty.i172 rfl (vs := [iI x42.src, iI x42.dst]) rfl rfl rfl rfl (cs' := [iI x42.src, iI x42.dst]) rfl rfl (RS.nil (T.join (Z := Unit) (fun _ => mkA 197 [(4, .ref 0), (5, iI s5), (179, .ref 0), (180, iI ((s7).length : Int)), (181, iI s38), (192, .bool ((decide (x42.src < 0)) || decide (x42.dst < 0)))]) (fun _ => [aR 172 2 encEnds s7]) (fun _ => True) (fun _ _ => ?_) (fun hK => ?_))))))))))))
     ·refine T.cond (b := ((decide (x42.src < 0)) || decide (x42.dst < 0))) rfl (fun hb_201 => ?_) (fun hb_201 => ?_)
      ·replace h := ite_T h hb_201
       refine T.seq (T.region (sa .nils rfl (sa (iI 9) rfl (RS.nil (T.rt ?_)))))
       obtain ⟨w_202, h, hw_202⟩ := map_inr h
       replace h := h.trans (congrArg some (hv_198 _ hw_202))
       refine res_tmpA (v := .nils) rfl (res_tmpA (v := iI 9) rfl (res_done ?_))
       exact ret_own (.tup [.ref 0, iI r.2]) [(0, 172, 2)] [1] (by decide) (none_kept _) rfl (rn_tup ⟨rn_ref rfl, rn_int (congrArg (fun r : (List Ends) × Int => r.2) (Option.some.inj h)).symm, trivial⟩) (rw_arr (en := encEnds) (ys := []) rfl encEnds_p (congrArg (fun r : (List Ends) × Int => r.1) (Option.some.inj h)).symm (rw_nil)) ⟨rfl, rfl⟩
      replace h := ite_F h hb_201
      refine T.skip (T.region (sq (v_add rfl rfl (sm (iI (IntKind.i64.wrap (s38 + 1))) rfl (RS.nil ?_)))))
      exact ⟨IntKind.i64.wrap (s38 + 1), (Option.some.inj h).symm, Weak.mkN [] [0] (by decide) (none_kept _) rfl ⟨rn_ref rfl, rn_int rfl, rn_ref rfl, rn_int rfl, rn_int rfl, trivial⟩ (rw_ar rfl rfl (rw_nil))⟩
     refine T.region (sq (v_fieldAddr_ptr Ty.f172_0 rfl (off' := 0) rfl (so (o_load_ptr rfl rfl (loadRow1 Ty.k3 (c := iI x42.src) rfl (sq (v_lss rfl rfl (sm (.bool (decide (x42.src < 0))) rfl ?_))))))))
     rcases bool_cases (decide (x42.src < 0)) with hb_200 | hb_200
     ·refine sn hb_200 (sn hb_200 (sn hb_200 (sq (v_pickT (v := .bool true) rfl hb_200 rfl (RS.nil ?_)))))
      exact T.weakR (hK () trivial) (Weak.mkN [] [0] (by decide) (none_kept _) rfl ⟨rn_ref rfl, rn_int rfl, rn_ref rfl, rn_int rfl, rn_int rfl, rn_bool (by simp only [hb_200, bz, if_true, if_false, Bool.false_eq_true]), trivial⟩ (rw_ar rfl rfl (rw_nil)))
     refine yq hb_200 (v_fieldAddr_ptr Ty.f172_1 rfl (off' := 1) rfl (yo hb_200 (o_load_ptr rfl rfl (loadRow1 Ty.k3 (c := iI x42.dst) rfl (yq hb_200 (v_lss rfl rfl (sq (v_pickF (v := .bool (decide (x42.dst < 0))) rfl hb_200 rfl (RS.nil ?_)))))))))
     exact T.weakR (hK () trivial) (Weak.mkN [] [0] (by decide) (none_kept _) rfl ⟨rn_ref rfl, rn_int rfl, rn_ref rfl, rn_int rfl, rn_int rfl, rn_bool (by simp only [hb_200, bz, if_true, if_false, Bool.false_eq_true]), trivial⟩ (rw_ar rfl rfl (rw_nil)))
    replace h := ite_F h hb_199
    refine T.exit ?_
    obtain ⟨w_203, h, hw_203⟩ := map_inr h
    replace h := h.trans (congrArg some (hv_198 _ hw_203))
    refine T.seq (T.seq (T.region (sm (iI s5) rfl (sq (v_neq rfl rfl (RS.nil (T.cond (b := s5 != 1) rfl (fun hb_204 => ?_) (fun hb_204 => ?_))))))))
    ·replace h := ite_T h hb_204
     refine T.seq (T.region (sa .nils rfl (sa (iI 4) rfl (RS.nil (T.rt (res_tmpA (v := .nils) rfl (res_tmpA (v := iI 4) rfl (res_done ?_))))))))
     exact ret_own (.tup [.ref 0, iI r.2]) [(0, 172, 2)] [1] (by decide) (none_kept _) rfl (rn_tup ⟨rn_ref rfl, rn_int (congrArg (fun r : (List Ends) × Int => r.2) (Option.some.inj h)).symm, trivial⟩) (rw_arr (en := encEnds) (ys := []) rfl encEnds_p (congrArg (fun r : (List Ends) × Int => r.1) (Option.some.inj h)).symm (rw_nil)) ⟨rfl, rfl⟩
    replace h := ite_F h hb_204
    refine T.skip (T.seq (T.region (sm (.ref 0) rfl (sa (.ref 0) rfl (sa (iI 0) rfl (RS.nil (T.rt (res_tmpA (v := .ref 0) rfl (res_tmpA (v := iI 0) rfl ?_)))))))))
    refine res_done ?_
    exact ret_own (.tup [.ref 0, iI r.2]) [] [0] (by decide) (none_kept _) rfl (rn_tup ⟨rn_ref rfl, rn_int (congrArg (fun r : (List Ends) × Int => r.2) (Option.some.inj h)).symm, trivial⟩) (rw_arr rfl encEnds_p (congrArg (fun r : (List Ends) × Int => r.1) (Option.some.inj h)).symm (rw_nil)) ⟨rfl, rfl⟩
   refine T.region (sq (v_fieldAddr_ptr Ty.f24_2 rfl (off' := 2) rfl (so (o_load_ptr rfl rfl (loadRow1 Ty.k3 (c := iI p0.Room) rfl (sq (v_lss rfl rfl (sm (.bool (decide (p0.Room < 1))) rfl ?_))))))))
   rcases bool_cases (decide (p0.Room < 1)) with hb_5 | hb_5
   ·refine sn hb_5 (sn hb_5 (sn hb_5 (sq (v_pickT (v := .bool true) rfl hb_5 rfl (RS.nil ?_)))))
    exact T.sub (hK () trivial) ⟨rfl, (congrArg AV.bool (by simp only [hb_5, bz, if_true, if_false, Bool.false_eq_true])).symm, trivial⟩
   refine yq hb_5 (v_fieldAddr_ptr Ty.f24_2 rfl (off' := 2) rfl (yo hb_5 (o_load_ptr rfl rfl (loadRow1 Ty.k3 (c := iI p0.Room) rfl (yq hb_5 (v_gtr rfl rfl (sq (v_pickF (v := .bool (decide (p0.Room > 6))) rfl hb_5 rfl (RS.nil ?_)))))))))
   exact T.sub (hK () trivial) ⟨rfl, (congrArg AV.bool (by simp only [hb_5, bz, if_true, if_false, Bool.false_eq_true])).symm, trivial⟩
  refine T.region (sq (v_fieldAddr_ptr Ty.f24_0 rfl (off' := 0) rfl (so (o_load_ptr rfl rfl (loadRow1 Ty.k22 (c := sL encNode p0.Nodes) rfl (sq (v_len_sl Ty.s22 rfl (sq (v_lss rfl rfl (sm (.bool (decide (((p0.Nodes).length : Int) < 1))) rfl ?_))))))))))
  rcases bool_cases (decide (((p0.Nodes).length : Int) < 1)) with hb_1 | hb_1
  ·refine sn hb_1 (sn hb_1 (sn hb_1 (sn hb_1 (sq (v_pickT (v := .bool true) rfl hb_1 rfl (sm (.bool true) rfl (sn rfl (sn rfl (sn rfl (sq (v_pickT (v := .bool true) rfl rfl rfl ?_)))))))))))
   refine sm (.bool true) rfl (sn rfl (sn rfl (sn rfl (sq (v_pickT (v := .bool true) rfl rfl rfl (RS.nil ?_))))))
   exact T.sub (hK () trivial) ⟨rfl, (congrArg AV.bool (by simp only [hb_1, bz, if_true, if_false, Bool.false_eq_true])).symm, trivial⟩
  refine yq hb_1 (v_fieldAddr_ptr Ty.f24_0 rfl (off' := 0) rfl (yo hb_1 (o_load_ptr rfl rfl (loadRow1 Ty.k22 (c := sL encNode p0.Nodes) rfl (yq hb_1 (v_len_sl Ty.s22 rfl (yq hb_1 (v_gtr rfl rfl (sq (v_pickF (v := .bool (decide (((p0.Nodes).length : Int) > 12))) rfl hb_1 rfl (sm (.bool (decide (((p0.Nodes).length : Int) > 12))) rfl ?_)))))))))))
  rcases bool_cases (decide (((p0.Nodes).length : Int) > 12)) with hb_2 | hb_2
  ·refine sn hb_2 (sn hb_2 (sn hb_2 (sq (v_pickT (v := .bool true) rfl hb_2 rfl (sm (.bool true) rfl (sn rfl (sn rfl (sn rfl (sq (v_pickT (v := .bool true) rfl rfl rfl (RS.nil ?_)))))))))))
   exact T.sub (hK () trivial) ⟨rfl, (congrArg AV.bool (by simp only [hb_1, hb_2, bz, if_true, if_false, Bool.false_eq_true])).symm, trivial⟩
  refine yq hb_2 (v_fieldAddr_ptr Ty.f24_1 rfl (off' := 1) rfl (yo hb_2 (o_load_ptr rfl rfl (loadRow1 Ty.k3 (c := iI p0.Rings) rfl (yq hb_2 (v_lss rfl rfl (sq (v_pickF (v := .bool (decide (p0.Rings < 0))) rfl hb_2 rfl (sm (.bool (decide (p0.Rings < 0))) rfl ?_)))))))))
  rcases bool_cases (decide (p0.Rings < 0)) with hb_3 | hb_3
  ·refine sn hb_3 (sn hb_3 (sn hb_3 (sq (v_pickT (v := .bool true) rfl hb_3 rfl (RS.nil ?_)))))
   exact T.sub (hK () trivial) ⟨rfl, (congrArg AV.bool (by simp only [hb_1, hb_2, hb_3, bz, if_true, if_false, Bool.false_eq_true])).symm, trivial⟩
  refine yq hb_3 (v_fieldAddr_ptr Ty.f24_1 rfl (off' := 1) rfl (yo hb_3 (o_load_ptr rfl rfl (loadRow1 Ty.k3 (c := iI p0.Rings) rfl (yq hb_3 (v_gtr rfl rfl (sq (v_pickF (v := .bool (decide (p0.Rings > 16))) rfl hb_3 rfl (RS.nil ?_)))))))))
  exact T.sub (hK () trivial) ⟨rfl, (congrArg AV.bool (by simp only [hb_1, hb_2, hb_3, bz, if_true, if_false, Bool.false_eq_true])).symm, trivial⟩
theorem net_Order_1_x523f_c (p0 : Int) (p1 : List Bool) (p2 : List Ends) (r : Bool) (h : net_Order_1_x523f p0 p1 p2 = some r) : FnX Try.prog 125 [iI p0, .ptr 0 0, .ptr 1 0] [.box [.ref 2], .box [.ref 3], aR 4 1 encB p1, aR 172 2 encEnds p2] (.bool r) [.box [.ref 2], .box [.ref 3], aR 4 1 encB p1, aR 172 2 encEnds p2] := by
  unfold net_Order_1_x523f at h
  refine fn_of_T (N := 4) rfl Try.func125 rfl (by kernel_rfl) Try.ntmps125 rfl ?_
  show T _ _ _ _ (mkA 14 [(0, iI p0), (1, .ptr 0 0), (2, .ptr 1 0)]) [.box [.ref 2], .box [.ref 3], aR 4 1 encB p1, aR 172 2 encEnds p2]
  refine T.seq (T.region (sa (.bool false) rfl (RS.nil (T.seq ?_))))
  obtain ⟨x5, hx5, h⟩ := bind_some h
  obtain ⟨x6, hx6, h⟩ := bind_some h
  obtain ⟨x7, hx7, h⟩ := bind_some h
  obtain ⟨x8, hx8, h⟩ := bind_some h
  refine T.drawn mixed (k := 10) rfl (rt0 2 rfl (v_move (v := iI p0) rfl (rl0 [1, 3, 4, 5, 6, 7, 8, 9] 1 rfl (v_load_ptr rfl rfl (loadRow1 Ty.k168 (c := .ref 3) rfl (rt0 3 rfl (v_index_ref' (en := encEnds) Ty.s168 rfl rfl rfl hx5 (rt0 4 rfl (v_fieldAddr_aptr Ty.f172_0 rfl (off' := 0) rfl (rl0 [0, 6, 7, 8, 9] 0 rfl (v_load_ptr rfl rfl (loadRow1 Ty.k132 (c := .ref 2) rfl (ra1 5 (RO.op rfl rfl (o_load_aptr' (en := encEnds) (a := x6) rfl rfl hx6 (loadRow1 Ty.k3 (c := iI x6.src) rfl (rt0 6 rfl (v_index_ref' (en := encB) Ty.s132 rfl rfl rfl hx7 (ra1 7 ?_)))))))))))))))))))
  refine RO.op rfl rfl (o_load_aptr' (en := encB) (a := x8) rfl rfl hx8 (loadRow1 Ty.k4 (c := .bool x8) rfl (rt0 8 rfl (v_not rfl (rt0 9 rfl (v_assign (v := .bool (!x8)) rfl (RA.done (by decide +kernel) (T.rt (res_tmpA (v := .bool (!x8)) rfl (res_done ?_))))))))))
  exact ret_norm (v := .bool (!x8)) (aw1 := [.box [.ref 2], .box [.ref 3], aR 4 1 encB p1, aR 172 2 encEnds p2]) (.bool r) [0, 1, 2, 3] rfl (by decide) (by decide) (rn_bool (congrArg (fun r : Bool => r) (Option.some.inj h)).symm) (rw_box (cs := [.ref 2]) (ds := [.ref 2]) rfl ⟨rn_ref rfl, trivial⟩ (rw_box (cs := [.ref 3]) (ds := [.ref 3]) rfl ⟨rn_ref rfl, trivial⟩ (rw_arr rfl encB_p rfl (rw_arr rfl encEnds_p rfl (rw_nil))))) ⟨rfl, rfl⟩
theorem slices_IndexFunc_int_x5d6b_c (p0 : List Int) (p1 : List Bool) (p2 : List Ends) (r : Int) (h : slices_IndexFunc_int_x5d6b p0 p1 p2 = some r) : FnX Try.prog 122 [sL encI p0, .func 125 [.ptr 0 0, .ptr 1 0]] [.box [.ref 2], .box [.ref 3], aR 4 1 encB p1, aR 172 2 encEnds p2] (iI r) [.box [.ref 2], .box [.ref 3], aR 4 1 encB p1, aR 172 2 encEnds p2] := by
  unfold slices_IndexFunc_int_x5d6b at h
  refine fn_of_T (N := 4) rfl Try.func122 rfl (by kernel_rfl) Try.ntmps122 rfl ?_
  show T _ _ _ _ (mkA 19 [(0, sL encI p0), (1, .func 125 [.ptr 0 0, .ptr 1 0])]) [.box [.ref 2], .box [.ref 3], aR 4 1 encB p1, aR 172 2 encEnds p2]
  refine T.seq (T.region (sa (iI 0) rfl (RS.nil (T.seq (T.seq (T.region (sm (sL encI p0) rfl (sq (v_len_sl Ty.s26 rfl (sm (iI 0) rfl ?_))))))))))
  refine RS.nil (T.block (T.iter (fun ss_5 : Int => mkA 19 [(0, sL encI p0), (1, .func 125 [.ptr 0 0, .ptr 1 0]), (7, iI ((p0).length : Int)), (8, iI ss_5)]) (fun ss_5 => [.box [.ref 2], .box [.ref 3], aR 4 1 encB p1, aR 172 2 encEnds p2]) h (Weak.mkN [] [0, 1, 2, 3] (by decide) (by decide) rfl ⟨rn_s rfl, rn_func ⟨rn_ptr rfl, rn_ptr rfl, trivial⟩, rn_int rfl, rn_int rfl, trivial⟩ (rw_box (cs := [.ref 2]) (ds := [.ref 2]) rfl ⟨rn_ref rfl, trivial⟩ (rw_box (cs := [.ref 3]) (ds := [.ref 3]) rfl ⟨rn_ref rfl, trivial⟩ (rw_ar rfl rfl (rw_ar rfl rfl (rw_nil)))))) (fun ss_5 v_6 h hv_6 => ?_)))
  revert hv_6 h; revert ss_5; intro s1 h hv_6
  replace h : slices_IndexFunc_int_x5d6b_l1 p0 p1 p2 s1 = some v_6 := h
  try dsimp only
  unfold slices_IndexFunc_int_x5d6b_l1 at h
  refine T.seq (T.region (sq (v_lss rfl rfl (RS.nil (T.seq (T.cond (b := decide (s1 < ((p0).length : Int))) rfl (fun hb_7 => ?_) (fun hb_7 => ?_)))))))
  ·replace h := ite_T h hb_7
   refine T.skip (T.seq (T.block (T.seq (T.region (sm (iI s1) rfl (sa (iI s1) rfl (RS.nil (T.seq ?_))))))))
   obtain ⟨x4, hx4, h⟩ := bind_some h
   obtain ⟨x5, hx5, h⟩ := bind_some h
   refine T.region (sm (.func 125 [.ptr 0 0, .ptr 1 0]) rfl (sm (sL encI p0) rfl (sm (iI s1) rfl (sq (v_index_sl Ty.s26 (fun _ => rfl) rfl rfl hx4 (so (o_load_elt rfl (loadRow1 Ty.k3 (c := iI x4) rfl (so (o_callF (ac := [iI x4, .ptr 0 0, .ptr 1 0]) (as0 := [iI x4, .ptr 0 0, .ptr 1 0]) (aw0 := [.box [.ref 2], .box [.ref 3], aR 4 1 encB p1, aR 172 2 encEnds p2]) (aw1 := [.box [.ref 2], .box [.ref 3], aR 4 1 encB p1, aR 172 2 encEnds p2]) (aw2 := [.box [.ref 2], .box [.ref 3], aR 4 1 encB p1, aR 172 2 encEnds p2]) (v := .bool x5) (v' := .bool x5) (n0 := 4) (n1 := 4) [0, 1, 2, 3] rfl rfl rfl rfl (by decide) (rw_box (cs := [.ref 2]) (ds := [.ref 2]) rfl ⟨rn_ref rfl, trivial⟩ (rw_box (cs := [.ref 3]) (ds := [.ref 3]) rfl ⟨rn_ref rfl, trivial⟩ (rw_arr rfl encB_p rfl (rw_arr rfl encEnds_p rfl (rw_nil))))) ⟨rn_int rfl, rn_ptr rfl, rn_ptr rfl, trivial⟩ (net_Order_1_x523f_c x4 p1 p2 x5 hx5) rfl (rm_pure (pure_bool _)) ⟨.inl ⟨0, _, by decide, rfl, rom_box (cs := [.ref 2]) (ds := [.ref 2]) ⟨rm_ref (by decide), trivial⟩⟩, .inl ⟨1, _, by decide, rfl, rom_box (cs := [.ref 3]) (ds := [.ref 3]) ⟨rm_ref (by decide), trivial⟩⟩, .inl ⟨2, _, by decide, rfl, rom_arr encB_p⟩, .inl ⟨3, _, by decide, rfl, rom_arr encEnds_p⟩, trivial⟩ (RS.nil (T.cond (b := x5) rfl (fun hb_8 => ?_) (fun hb_8 => ?_)))))))))))))
   ·replace h := ite_T h hb_8
    refine T.seq (T.region (sm (iI s1) rfl (sa (iI s1) rfl (RS.nil (T.rt ?_)))))
    obtain ⟨w_9, h, hw_9⟩ := map_inr h
    replace h := h.trans (congrArg some (hv_6 _ hw_9))
    refine res_tmpA (v := iI s1) rfl (res_done ?_)
    exact ret_norm (v := iI s1) (aw1 := [.box [.ref 2], .box [.ref 3], aR 4 1 encB p1, aR 172 2 encEnds p2]) (iI r) [0, 1, 2, 3] rfl (by decide) (by decide) (rn_int (congrArg (fun r : Int => r) (Option.some.inj h)).symm) (rw_box (cs := [.ref 2]) (ds := [.ref 2]) rfl ⟨rn_ref rfl, trivial⟩ (rw_box (cs := [.ref 3]) (ds := [.ref 3]) rfl ⟨rn_ref rfl, trivial⟩ (rw_arr rfl encB_p rfl (rw_arr rfl encEnds_p rfl (rw_nil))))) ⟨rfl, rfl⟩
   replace h := ite_F h hb_8
   refine T.skip (T.region (sq (v_add rfl rfl (sm (iI (IntKind.i64.wrap (s1 + 1))) rfl (RS.nil ?_)))))
   exact ⟨IntKind.i64.wrap (s1 + 1), (Option.some.inj h).symm, Weak.mkN [] [0, 1, 2, 3] (by decide) (by decide) rfl ⟨rn_s rfl, rn_func ⟨rn_ptr rfl, rn_ptr rfl, trivial⟩, rn_int rfl, rn_int rfl, trivial⟩ (rw_box (cs := [.ref 2]) (ds := [.ref 2]) rfl ⟨rn_ref rfl, trivial⟩ (rw_box (cs := [.ref 3]) (ds := [.ref 3]) rfl ⟨rn_ref rfl, trivial⟩ (rw_ar rfl rfl (rw_ar rfl rfl (rw_nil)))))⟩
  replace h := ite_F h hb_7
  refine T.exit ?_
  obtain ⟨w_10, h, hw_10⟩ := map_inr h
  replace h := h.trans (congrArg some (hv_6 _ hw_10))
  refine T.seq (T.region (sa (iI (-1)) rfl (RS.nil (T.rt (res_tmpA (v := iI (-1)) rfl (res_done ?_))))))
  exact ret_norm (v := iI (-1)) (aw1 := [.box [.ref 2], .box [.ref 3], aR 4 1 encB p1, aR 172 2 encEnds p2]) (iI r) [0, 1, 2, 3] rfl (by decide) (by decide) (rn_int (congrArg (fun r : Int => r) (Option.some.inj h)).symm) (rw_box (cs := [.ref 2]) (ds := [.ref 2]) rfl ⟨rn_ref rfl, trivial⟩ (rw_box (cs := [.ref 3]) (ds := [.ref 3]) rfl ⟨rn_ref rfl, trivial⟩ (rw_arr rfl encB_p rfl (rw_arr rfl encEnds_p rfl (rw_nil))))) ⟨rfl, rfl⟩
theorem slices_ContainsFunc_int_x5d6b_c (p0 : List Int) (p1 : List Bool) (p2 : List Ends) (r : Bool) (h : slices_ContainsFunc_int_x5d6b p0 p1 p2 = some r) : FnX Try.prog 95 [sL encI p0, .func 125 [.ptr 0 0, .ptr 1 0]] [.box [.ref 2], .box [.ref 3], aR 4 1 encB p1, aR 172 2 encEnds p2] (.bool r) [.box [.ref 2], .box [.ref 3], aR 4 1 encB p1, aR 172 2 encEnds p2] := by
  unfold slices_ContainsFunc_int_x5d6b at h
  refine fn_of_T (N := 4) rfl Try.func95 rfl (by kernel_rfl) Try.ntmps95 rfl ?_
  show T _ _ _ _ (mkA 9 [(0, sL encI p0), (1, .func 125 [.ptr 0 0, .ptr 1 0])]) [.box [.ref 2], .box [.ref 3], aR 4 1 encB p1, aR 172 2 encEnds p2]
  refine T.seq (T.region (sa (.bool false) rfl (RS.nil (T.seq ?_))))
  obtain ⟨x2, hx2, h⟩ := bind_some h
  refine T.region (sm (sL encI p0) rfl (sm (.func 125 [.ptr 0 0, .ptr 1 0]) rfl (so (o_callF (ac := [sL encI p0, .func 125 [.ptr 0 0, .ptr 1 0]]) (as0 := [sL encI p0, .func 125 [.ptr 0 0, .ptr 1 0]]) (aw0 := [.box [.ref 2], .box [.ref 3], aR 4 1 encB p1, aR 172 2 encEnds p2]) (aw1 := [.box [.ref 2], .box [.ref 3], aR 4 1 encB p1, aR 172 2 encEnds p2]) (aw2 := [.box [.ref 2], .box [.ref 3], aR 4 1 encB p1, aR 172 2 encEnds p2]) (v := iI x2) (v' := iI x2) (n0 := 4) (n1 := 4) [0, 1, 2, 3] rfl rfl rfl rfl (by decide) (rw_box (cs := [.ref 2]) (ds := [.ref 2]) rfl ⟨rn_ref rfl, trivial⟩ (rw_box (cs := [.ref 3]) (ds := [.ref 3]) rfl ⟨rn_ref rfl, trivial⟩ (rw_arr rfl encB_p rfl (rw_arr rfl encEnds_p rfl (rw_nil))))) ⟨rn_s rfl, rn_func ⟨rn_ptr rfl, rn_ptr rfl, trivial⟩, trivial⟩ (slices_IndexFunc_int_x5d6b_c p0 p1 p2 x2 hx2) rfl (rm_pure (pure_int _ _)) ⟨.inl ⟨0, _, by decide, rfl, rom_box (cs := [.ref 2]) (ds := [.ref 2]) ⟨rm_ref (by decide), trivial⟩⟩, .inl ⟨1, _, by decide, rfl, rom_box (cs := [.ref 3]) (ds := [.ref 3]) ⟨rm_ref (by decide), trivial⟩⟩, .inl ⟨2, _, by decide, rfl, rom_arr encB_p⟩, .inl ⟨3, _, by decide, rfl, rom_arr encEnds_p⟩, trivial⟩ (sq (v_geq rfl rfl (sa (.bool (decide (x2 ≥ 0))) rfl (RS.nil (T.rt (res_tmpA (v := .bool (decide (x2 ≥ 0))) rfl (res_done ?_)))))))))))
  exact ret_norm (v := .bool (decide (x2 ≥ 0))) (aw1 := [.box [.ref 2], .box [.ref 3], aR 4 1 encB p1, aR 172 2 encEnds p2]) (.bool r) [0, 1, 2, 3] rfl (by decide) (by decide) (rn_bool (congrArg (fun r : Bool => r) (Option.some.inj h)).symm) (rw_box (cs := [.ref 2]) (ds := [.ref 2]) rfl ⟨rn_ref rfl, trivial⟩ (rw_box (cs := [.ref 3]) (ds := [.ref 3]) rfl ⟨rn_ref rfl, trivial⟩ (rw_arr rfl encB_p rfl (rw_arr rfl encEnds_p rfl (rw_nil))))) ⟨rfl, rfl⟩
theorem net_Order_c (p0 : Net) (r : (List Int) × Int) (h : net_Order p0 = some r) : FnO Try.prog 105 [.agg [sL encNode p0.Nodes, iI p0.Rings, iI p0.Room]] (.tup [.ref 0, iI r.2]) [aR 3 1 encI r.1] := by
  unfold net_Order at h
  refine fn_of_T (N := 0) rfl Try.func105 rfl (by kernel_rfl) Try.ntmps105 rfl ?_
  show T _ _ _ _ (mkA 61 [(0, .agg [sL encNode p0.Nodes, iI p0.Rings, iI p0.Room])]) []
  refine T.seq (T.region (so (o_box (cs := [sL encNode p0.Nodes, iI p0.Rings, iI p0.Room]) rfl rfl rfl (sa .nils rfl (sa (iI 0) rfl (RS.nil (T.seq ?_)))))))
  obtain ⟨x2, hx2, h⟩ := bind_some h
  refine T.region (so (o_load_ptr rfl rfl (loadRowA Ty.k24 Ty.c24 rfl (cs := [sL encNode p0.Nodes, iI p0.Rings, iI p0.Room]) rfl (so (o_call (as0 := [.agg [sL encNode p0.Nodes, iI p0.Rings, iI p0.Room]]) (as1 := [.agg [sL encNode p0.Nodes, iI p0.Rings, iI p0.Room]]) (caps := []) (aw1 := [.box [sL encNode p0.Nodes, iI p0.Rings, iI p0.Room]]) rfl rfl rfl (k_own' (v := .tup [.ref 0, iI x2.2]) (obs := [aR 172 2 encEnds x2.1]) (v' := .tup [.ref 1, iI x2.2]) (net_look_c p0 x2 hx2) (⟨pure_agg _ (pures_mem (⟨pure_map encNode_p _, pure_int _ _, pure_int _ _, trivial⟩)), trivial⟩) rfl (obs_cons (flatOb_map fun _ => rfl) obs_nil) rfl rfl (sm (.tup [.ref 1, iI x2.2]) rfl (sq (v_extract (v := .ref 1) rfl rfl (sq (v_extract (v := iI x2.2) rfl rfl (so (o_alloc Ty.z168 rfl rfl (so (o_store_ptr Ty.c168 Ty.i168 rfl (vs := [.ref 1]) rfl rfl rfl rfl (cs' := [.ref 1]) rfl rfl (sa (iI x2.2) rfl (RS.nil ?_)))))))))))))))))
  refine T.seq (T.seq (T.region (sm (iI x2.2) rfl (sq (v_neq rfl rfl (RS.nil (T.cond (b := x2.2 != 0) rfl (fun hb_1 => ?_) (fun hb_1 => ?_))))))))
  ·replace h := ite_T h hb_1
   refine T.seq (T.region (sm (iI x2.2) rfl (sa .nils rfl (sa (iI x2.2) rfl (RS.nil (T.rt (res_tmpA (v := .nils) rfl (res_tmpA (v := iI x2.2) rfl (res_done ?_)))))))))
   exact ret_own (.tup [.ref 0, iI r.2]) [(0, 3, 1)] [3] (by decide) (none_kept _) rfl (rn_tup ⟨rn_ref rfl, rn_int (congrArg (fun r : (List Int) × Int => r.2) (Option.some.inj h)).symm, trivial⟩) (rw_arr (en := encI) (ys := []) rfl encI_p (congrArg (fun r : (List Int) × Int => r.1) (Option.some.inj h)).symm (rw_nil)) ⟨rfl, rfl⟩
  replace h := ite_F h hb_1
  refine T.skip (T.seq (T.region (sa .nils rfl (RS.nil (T.seq ?_)))))
  obtain ⟨x4, hx4, h⟩ := bind_some h
  refine T.region (sq (v_fieldAddr_ptr Ty.f24_0 rfl (off' := 0) rfl (so (o_load_ptr rfl rfl (loadRow1 Ty.k22 (c := sL encNode p0.Nodes) rfl (sq (v_len_sl Ty.s22 rfl (so (o_mk (en := encB) (zr := false) Ty.s132 Ty.z4 rfl rfl hx4 rfl rfl (so (o_alloc Ty.z132 rfl rfl (so (o_store_ptr Ty.c132 Ty.i132 rfl (vs := [.ref 3]) rfl rfl rfl rfl (cs' := [.ref 3]) rfl rfl (RS.nil (T.seq (T.block ?_))))))))))))))))
  refine T.iter (fun ss_72 : (List Int) × (List Bool) => mkA 61 [(1, .ptr 0 0), (4, .ptr 1 0), (6, .ref 2), (7, .ptr 3 0)]) (fun ss_72 => [.box [sL encNode p0.Nodes, iI p0.Rings, iI p0.Room], .box [.ref 4], aR 3 1 encI ss_72.1, .box [.ref 5], aR 172 2 encEnds x2.1, aR 4 1 encB ss_72.2]) h (Weak.mkN [(6, 3, 1)] [0, 2, 5, 4, 1, 3] (by decide) (none_kept _) rfl ⟨rn_ptr rfl, rn_ptr rfl, rn_ref rfl, rn_ptr rfl, trivial⟩ (rw_bs [sL encNode p0.Nodes, iI p0.Rings, iI p0.Room] rfl (rw_box (cs := [.ref 4]) (ds := [.ref 1]) rfl ⟨rn_ref rfl, trivial⟩ (rw_arr (en := encI) (ys := []) rfl encI_p rfl (rw_box (cs := [.ref 5]) (ds := [.ref 3]) rfl ⟨rn_ref rfl, trivial⟩ (rw_ar rfl rfl (rw_ar rfl rfl (rw_nil)))))))) (fun ss_72 v_73 h hv_73 => ?_)
  obtain ⟨s5, s6⟩ := ss_72
  replace h : net_Order_l3 p0 x2 s5 s6 = some v_73 := h
  try dsimp only
  unfold net_Order_l3 at h
  refine T.seq (T.seq (T.region (sm (.ref 2) rfl (sq (v_len_ref (en := encI) Ty.s26 rfl rfl (sq (v_fieldAddr_ptr Ty.f24_0 rfl (off' := 0) rfl (so (o_load_ptr rfl rfl (loadRow1 Ty.k22 (c := sL encNode p0.Nodes) rfl (sq (v_len_sl Ty.s22 rfl (sq (v_lss rfl rfl (RS.nil ?_)))))))))))))))
  refine T.cond (b := decide (((s5).length : Int) < ((p0.Nodes).length : Int))) rfl (fun hb_74 => ?_) (fun hb_74 => ?_)
  ·replace h := ite_T h hb_74
   refine T.skip (T.block (T.seq (T.region (sa (iI (-1)) rfl (RS.nil (T.join (Z := Int) (fun zz_91 => mkA 61 [(1, .ptr 0 0), (4, .ptr 1 0), (6, .ref 2), (7, .ptr 3 0), (8, iI zz_91)]) (fun zz_91 => [.box [sL encNode p0.Nodes, iI p0.Rings, iI p0.Room], .box [.ref 4], aR 3 1 encI s5, .box [.ref 5], aR 172 2 encEnds x2.1, aR 4 1 encB s6]) (fun zz_91 => net_Order_k1 s5 s6 zz_91 = some v_73) (fun zz_91 h => ?_) (fun hK1 => ?_)))))))
   ·revert h; revert zz_91; intro z14 h
    replace h : net_Order_k1 s5 s6 z14 = some v_73 := h
    try dsimp only
    unfold net_Order_k1 at h
    refine T.seq (T.seq (T.region (sm (iI z14) rfl (sq (v_lss rfl rfl (RS.nil (T.cond (b := decide (z14 < 0)) rfl (fun hb_92 => ?_) (fun hb_92 => ?_))))))))
    ·replace h := ite_T h hb_92
     refine T.seq (T.region (sa .nils rfl (sa (iI 7) rfl (RS.nil (T.rt ?_)))))
     obtain ⟨w_93, h, hw_93⟩ := map_inr h
     replace h := h.trans (congrArg some (hv_73 _ hw_93))
     refine res_tmpA (v := .nils) rfl (res_tmpA (v := iI 7) rfl (res_done ?_))
     exact ret_own (.tup [.ref 0, iI r.2]) [(0, 3, 1)] [6] (by decide) (none_kept _) rfl (rn_tup ⟨rn_ref rfl, rn_int (congrArg (fun r : (List Int) × Int => r.2) (Option.some.inj h)).symm, trivial⟩) (rw_arr (en := encI) (ys := []) rfl encI_p (congrArg (fun r : (List Int) × Int => r.1) (Option.some.inj h)).symm (rw_nil)) ⟨rfl, rfl⟩
    replace h := ite_F h hb_92
    refine T.skip (T.seq ?_)
    obtain ⟨x17, hx17, h⟩ := bind_some h
    obtain ⟨x18, hx18, h⟩ := bind_some h
    refine T.region (so (o_load_ptr rfl rfl (loadRow1 Ty.k132 (c := .ref 5) rfl (sm (iI z14) rfl (sq (v_index_ref' (en := encB) Ty.s132 rfl rfl rfl hx17 (so (o_store_aptr' (en := encB) (a := x18) (a' := true) Ty.c4 Ty.i4 rfl (vs := [.bool true]) rfl rfl rfl hx18 rfl rfl rfl (RS.nil ?_)))))))))
    obtain ⟨x19, hx19, h⟩ := bind_some h
    refine T.region (sm (.ref 2) rfl (sm (iI z14) rfl (so (o_buildSlice (rows := List.map encI [z14]) (vs := [iI z14]) Ty.s26 Ty.z3 rfl rfl rfl rfl rfl rfl (so (o_app_ref (en := encI) (xs := s5) (ys := ([z14] : List Int)) Ty.s26 (fun _ => rfl) rfl rfl rfl hx19 rfl rfl (sa (.ref 7) rfl (RS.nil ?_))))))))
    exact ⟨(x19, (List.set s6 x17 true)), (Option.some.inj h).symm, Weak.mkN [] [0, 1, 7, 3, 4, 5] (by decide) (none_kept _) rfl ⟨rn_ptr rfl, rn_ptr rfl, rn_ref rfl, rn_ptr rfl, trivial⟩ (rw_bs [sL encNode p0.Nodes, iI p0.Rings, iI p0.Room] rfl (rw_box (cs := [.ref 4]) (ds := [.ref 4]) rfl ⟨rn_ref rfl, trivial⟩ (rw_ar rfl rfl (rw_box (cs := [.ref 5]) (ds := [.ref 5]) rfl ⟨rn_ref rfl, trivial⟩ (rw_ar rfl rfl (rw_ar rfl rfl (rw_nil)))))))⟩
   refine T.seq (T.region (sq (v_fieldAddr_ptr Ty.f24_0 rfl (off' := 0) rfl (so (o_load_ptr rfl rfl (loadRow1 Ty.k22 (c := sL encNode p0.Nodes) rfl (sq (v_len_sl Ty.s22 rfl (sm (iI 0) rfl (RS.nil (T.block (T.iter (fun ss_102 : Int => mkA 61 [(1, .ptr 0 0), (4, .ptr 1 0), (6, .ref 2), (7, .ptr 3 0), (8, iI (-1)), (30, sL encNode p0.Nodes), (31, iI ((p0.Nodes).length : Int)), (32, iI ss_102)]) (fun ss_102 => [.box [sL encNode p0.Nodes, iI p0.Rings, iI p0.Room], .box [.ref 4], aR 3 1 encI s5, .box [.ref 5], aR 172 2 encEnds x2.1, aR 4 1 encB s6]) h (Weak.mkN [] [0, 1, 2, 3, 4, 5] (by decide) (none_kept _) rfl ⟨rn_ptr rfl, rn_ptr rfl, rn_ref rfl, rn_ptr rfl, rn_int rfl, rn_s rfl, rn_int rfl, rn_int rfl, trivial⟩ (rw_bs [sL encNode p0.Nodes, iI p0.Rings, iI p0.Room] rfl (rw_box (cs := [.ref 4]) (ds := [.ref 4]) rfl ⟨rn_ref rfl, trivial⟩ (rw_ar rfl rfl (rw_box (cs := [.ref 5]) (ds := [.ref 5]) rfl ⟨rn_ref rfl, trivial⟩ (rw_ar rfl rfl (rw_ar rfl rfl (rw_nil)))))))) (fun ss_102 v_103 h hv_103 => ?_)))))))))))))
   revert hv_103 h; revert ss_102; intro s7 h hv_103
   replace h : net_Order_l2 p0 x2 s5 s6 s7 = some v_103 := h
   try dsimp only
   unfold net_Order_l2 at h
   refine T.seq (T.region (sq (v_lss rfl rfl (RS.nil (T.seq (T.cond (b := decide (s7 < ((p0.Nodes).length : Int))) rfl (fun hb_104 => ?_) (fun hb_104 => ?_)))))))
   ·replace h := ite_T h hb_104
    refine T.skip (T.seq (T.block (T.seq ?_)))
    obtain ⟨x9, hx9, h⟩ := bind_some h
    refine T.region (sm (iI s7) rfl (sq (v_index_sl Ty.s22 (fun _ => rfl) rfl rfl hx9 (so (o_load_elt rfl (loadRowA Ty.k40 Ty.c40 rfl (cs := [iI x9.Kind, iI x9.A, sL encI x9.In, sL encI x9.Out]) rfl (so (o_alloc Ty.z40 rfl rfl (sa (iI s7) rfl (so (o_store_ptr Ty.c40 Ty.i40 rfl (vs := [iI x9.Kind, iI x9.A, sL encI x9.In, sL encI x9.Out]) rfl rfl rfl rfl (cs' := [iI x9.Kind, iI x9.A, sL encI x9.In, sL encI x9.Out]) rfl rfl (RS.nil ?_))))))))))))
    obtain ⟨x10, hx10, h⟩ := bind_some h
    obtain ⟨x11, hx11, h⟩ := bind_some h
    obtain ⟨zt_106, hz, h⟩ := bind_some h
    revert hz h; revert zt_106; intro c13 hz h
    refine T.join (Z := Unit) (fun _ => mkA 61 [(1, .ptr 0 0), (4, .ptr 1 0), (6, .ref 2), (7, .ptr 3 0), (8, iI (-1)), (9, iI s7), (30, sL encNode p0.Nodes), (31, iI ((p0.Nodes).length : Int)), (32, iI s7), (48, .bool c13)]) (fun _ => [.box [sL encNode p0.Nodes, iI p0.Rings, iI p0.Room], .box [.ref 4], aR 3 1 encI s5, .box [.ref 5], aR 172 2 encEnds x2.1, aR 4 1 encB s6]) (fun _ => True) (fun _ _ => ?_) (fun hK => ?_)
    ·refine T.cond (b := c13) rfl (fun hb_107 => ?_) (fun hb_107 => ?_)
     ·replace h := ite_T h hb_107
      refine T.seq (T.region (sm (iI s7) rfl (sa (iI s7) rfl (RS.nil (T.exit ?_)))))
      obtain ⟨w_108, h, hw_108⟩ := map_inr h
      replace h := h.trans (congrArg some (hv_103 _ hw_108))
      exact T.sub (hK1 s7 h) ⟨rfl, rfl, rfl, rfl, rfl, trivial⟩
     replace h := ite_F h hb_107
     refine T.skip (T.region (sq (v_add rfl rfl (sm (iI (IntKind.i64.wrap (s7 + 1))) rfl (RS.nil ?_)))))
     exact ⟨IntKind.i64.wrap (s7 + 1), (Option.some.inj h).symm, Weak.mkN [] [0, 1, 2, 3, 4, 5] (by decide) (none_kept _) rfl ⟨rn_ptr rfl, rn_ptr rfl, rn_ref rfl, rn_ptr rfl, rn_int rfl, rn_s rfl, rn_int rfl, rn_int rfl, trivial⟩ (rw_bs [sL encNode p0.Nodes, iI p0.Rings, iI p0.Room] rfl (rw_box (cs := [.ref 4]) (ds := [.ref 4]) rfl ⟨rn_ref rfl, trivial⟩ (rw_ar rfl rfl (rw_box (cs := [.ref 5]) (ds := [.ref 5]) rfl ⟨rn_ref rfl, trivial⟩ (rw_ar rfl rfl (rw_ar rfl rfl (rw_nil)))))))⟩
    refine T.region (so (o_load_ptr rfl rfl (loadRow1 Ty.k132 (c := .ref 5) rfl (sm (iI s7) rfl (sq (v_index_ref' (en := encB) Ty.s132 rfl rfl rfl hx10 (so (o_load_aptr' (en := encB) (a := x11) rfl rfl hx11 (loadRow1 Ty.k4 (c := .bool x11) rfl (sq (v_not rfl (sm (.bool (!x11)) rfl ?_))))))))))))
    rcases bool_cases (!x11) with hb_105 | hb_105
    ·replace hz := ite_T hz hb_105
     obtain ⟨x12, hx12, hz⟩ := bind_some hz
     refine yq hb_105 (v_fieldAddr_ptr Ty.f40_2 rfl (off' := 2) rfl (yo hb_105 (o_load_ptr rfl rfl (loadRow1 Ty.k26 (c := sL encI x9.In) rfl (yq hb_105 (v_makeFunc (cs := [.ptr 3 0, .ptr 1 0]) rfl (yo hb_105 (o_callF (ac := [sL encI x9.In, .func 125 [.ptr 3 0, .ptr 1 0]]) (as0 := [sL encI x9.In, .func 125 [.ptr 0 0, .ptr 1 0]]) (aw0 := [.box [.ref 2], .box [.ref 3], aR 4 1 encB s6, aR 172 2 encEnds x2.1]) (aw1 := [.box [.ref 2], .box [.ref 3], aR 4 1 encB s6, aR 172 2 encEnds x2.1]) (aw2 := [.box [sL encNode p0.Nodes, iI p0.Rings, iI p0.Room], .box [.ref 4], aR 3 1 encI s5, .box [.ref 5], aR 172 2 encEnds x2.1, aR 4 1 encB s6, .box [iI x9.Kind, iI x9.A, sL encI x9.In, sL encI x9.Out]]) (v := .bool x12) (v' := .bool x12) (n0 := 7) (n1 := 4) [3, 1, 5, 4] rfl rfl rfl rfl (by decide) (rw_box (cs := [.ref 2]) (ds := [.ref 5]) rfl ⟨rn_ref rfl, trivial⟩ (rw_box (cs := [.ref 3]) (ds := [.ref 4]) rfl ⟨rn_ref rfl, trivial⟩ (rw_arr rfl encB_p rfl (rw_arr rfl encEnds_p rfl (rw_nil))))) ⟨rn_s rfl, rn_func ⟨rn_ptr rfl, rn_ptr rfl, trivial⟩, trivial⟩ (slices_ContainsFunc_int_x5d6b_c x9.In s6 x2.1 x12 hx12) rfl (rm_pure (pure_bool _)) ⟨.inr ⟨rfl, rfl⟩, .inl ⟨1, _, by decide, rfl, rom_box (cs := [.ref 4]) (ds := [.ref 3]) ⟨rm_ref (by decide), trivial⟩⟩, .inr ⟨rfl, rfl⟩, .inl ⟨0, _, by decide, rfl, rom_box (cs := [.ref 5]) (ds := [.ref 2]) ⟨rm_ref (by decide), trivial⟩⟩, .inl ⟨3, _, by decide, rfl, rom_arr encEnds_p⟩, .inl ⟨2, _, by decide, rfl, rom_arr encB_p⟩, .inr ⟨rfl, rfl⟩, trivial⟩ (yq hb_105 (v_not rfl (sq (v_pickT (v := .bool (!x12)) rfl hb_105 rfl (RS.nil ?_)))))))))))))
     exact T.weakR (hK () trivial) (Weak.mkN [] [0, 1, 2, 3, 4, 5] (by decide) (none_kept _) rfl ⟨rn_ptr rfl, rn_ptr rfl, rn_ref rfl, rn_ptr rfl, rn_int rfl, rn_int rfl, rn_s rfl, rn_int rfl, rn_int rfl, rn_bool ((congrArg (fun p => p) (Option.some.inj hz)).symm), trivial⟩ (rw_bs [sL encNode p0.Nodes, iI p0.Rings, iI p0.Room] rfl (rw_box (cs := [.ref 4]) (ds := [.ref 4]) rfl ⟨rn_ref rfl, trivial⟩ (rw_ar rfl rfl (rw_box (cs := [.ref 5]) (ds := [.ref 5]) rfl ⟨rn_ref rfl, trivial⟩ (rw_ar rfl rfl (rw_ar rfl rfl (rw_nil))))))))
    replace hz := ite_F hz hb_105
    refine sn hb_105 (sn hb_105 (sn hb_105 (sn hb_105 (sn hb_105 (sq (v_pickF (v := .bool false) rfl hb_105 rfl (RS.nil ?_)))))))
    exact T.weakR (hK () trivial) (Weak.mkN [] [0, 1, 2, 3, 4, 5] (by decide) (none_kept _) rfl ⟨rn_ptr rfl, rn_ptr rfl, rn_ref rfl, rn_ptr rfl, rn_int rfl, rn_int rfl, rn_s rfl, rn_int rfl, rn_int rfl, rn_bool ((congrArg (fun p => p) (Option.some.inj hz)).symm), trivial⟩ (rw_bs [sL encNode p0.Nodes, iI p0.Rings, iI p0.Room] rfl (rw_box (cs := [.ref 4]) (ds := [.ref 4]) rfl ⟨rn_ref rfl, trivial⟩ (rw_ar rfl rfl (rw_box (cs := [.ref 5]) (ds := [.ref 5]) rfl ⟨rn_ref rfl, trivial⟩ (rw_ar rfl rfl (rw_ar rfl rfl (rw_nil))))))))
   replace h := ite_F h hb_104
   refine T.exit ?_
   obtain ⟨w_109, h, hw_109⟩ := map_inr h
   replace h := h.trans (congrArg some (hv_103 _ hw_109))
   exact T.sub (hK1 (-1) h) ⟨rfl, rfl, rfl, rfl, rfl, trivial⟩
  replace h := ite_F h hb_74
  refine T.exit ?_
  obtain ⟨w_110, h, hw_110⟩ := map_inr h
  replace h := h.trans (congrArg some (hv_73 _ hw_110))
  refine T.seq (T.region (sm (.ref 2) rfl (sa (.ref 2) rfl (sa (iI 0) rfl (RS.nil (T.rt (res_tmpA (v := .ref 2) rfl (res_tmpA (v := iI 0) rfl (res_done ?_)))))))))
  exact ret_own (.tup [.ref 0, iI r.2]) [] [2] (by decide) (none_kept _) rfl (rn_tup ⟨rn_ref rfl, rn_int (congrArg (fun r : (List Int) × Int => r.2) (Option.some.inj h)).symm, trivial⟩) (rw_arr rfl encI_p (congrArg (fun r : (List Int) × Int => r.1) (Option.some.inj h)).symm (rw_nil)) ⟨rfl, rfl⟩
theorem net_Check_c (p0 : Net) (r : Int) (h : net_Check p0 = some r) : Fn Try.prog 75 [.agg [sL encNode p0.Nodes, iI p0.Rings, iI p0.Room]] (iI r) := by
  unfold net_Check at h
  refine fn_of_T (N := 0) rfl Try.func75 rfl (by kernel_rfl) Try.ntmps75 rfl ?_
  show T _ _ _ _ (mkA 11 [(0, .agg [sL encNode p0.Nodes, iI p0.Rings, iI p0.Room])]) []
  refine T.seq (T.region (so (o_box (cs := [sL encNode p0.Nodes, iI p0.Rings, iI p0.Room]) rfl rfl rfl (sa (iI 0) rfl (RS.nil (T.seq ?_))))))
  obtain ⟨x2, hx2, h⟩ := bind_some h
  refine T.region (so (o_load_ptr rfl rfl (loadRowA Ty.k24 Ty.c24 rfl (cs := [sL encNode p0.Nodes, iI p0.Rings, iI p0.Room]) rfl (so (o_call (as0 := [.agg [sL encNode p0.Nodes, iI p0.Rings, iI p0.Room]]) (as1 := [.agg [sL encNode p0.Nodes, iI p0.Rings, iI p0.Room]]) (caps := []) (aw1 := [.box [sL encNode p0.Nodes, iI p0.Rings, iI p0.Room]]) rfl rfl rfl (k_own' (v := .tup [.ref 0, iI x2.2]) (obs := [aR 3 1 encI x2.1]) (v' := .tup [.ref 1, iI x2.2]) (net_Order_c p0 x2 hx2) (⟨pure_agg _ (pures_mem (⟨pure_map encNode_p _, pure_int _ _, pure_int _ _, trivial⟩)), trivial⟩) rfl (obs_cons (flatOb_map fun _ => rfl) obs_nil) rfl rfl (sm (.tup [.ref 1, iI x2.2]) rfl (sq (v_extract (v := .ref 1) rfl rfl (sq (v_extract (v := iI x2.2) rfl rfl (sa (.ref 1) rfl (sa (iI x2.2) rfl (RS.nil (T.seq ?_)))))))))))))))
  refine T.region (sm (iI x2.2) rfl (sa (iI x2.2) rfl (RS.nil (T.rt (res_tmpA (v := iI x2.2) rfl (res_done ?_))))))
  exact ret_data (v := iI x2.2) rfl (pure_int _ _) ⟨congrArg (fun r : Int => (iI r : AV)) (Option.some.inj h), rfl⟩
theorem net_Sources_c (p0 : Net) (p1 : List (List Item)) (r : Int) (h : net_Sources p0 p1 = some r) : Fn Try.prog 57 [.agg [sL encNode p0.Nodes, iI p0.Rings, iI p0.Room], sL (encL encItem) p1] (iI r) := by
  unfold net_Sources at h
  refine fn_of_T (N := 0) rfl Try.func57 rfl (by kernel_rfl) Try.ntmps57 rfl ?_
  show T _ _ _ _ (mkA 69 [(0, .agg [sL encNode p0.Nodes, iI p0.Rings, iI p0.Room]), (1, sL (encL encItem) p1)]) []
  refine T.seq (T.region (so (o_box (cs := [sL encNode p0.Nodes, iI p0.Rings, iI p0.Room]) rfl rfl rfl (sa (iI 0) rfl (RS.nil (T.seq (T.seq ?_)))))))
  obtain ⟨x2, hx2, h⟩ := bind_some h
  refine T.region (so (o_load_ptr rfl rfl (loadRowA Ty.k24 Ty.c24 rfl (cs := [sL encNode p0.Nodes, iI p0.Rings, iI p0.Room]) rfl (so (o_call (as0 := [.agg [sL encNode p0.Nodes, iI p0.Rings, iI p0.Room]]) (as1 := [.agg [sL encNode p0.Nodes, iI p0.Rings, iI p0.Room]]) (caps := []) (aw1 := [.box [sL encNode p0.Nodes, iI p0.Rings, iI p0.Room]]) rfl rfl rfl (k_flat (v := iI x2) (net_Check_c p0 x2 hx2) (⟨pure_agg _ (pures_mem (⟨pure_map encNode_p _, pure_int _ _, pure_int _ _, trivial⟩)), trivial⟩) rfl (sa (iI x2) rfl (RS.nil (T.seq (T.region (sm (iI x2) rfl (sq (v_neq rfl rfl (RS.nil ?_))))))))))))))
  refine T.cond (b := x2 != 0) rfl (fun hb_1 => ?_) (fun hb_1 => ?_)
  ·replace h := ite_T h hb_1
   refine T.seq (T.region (sm (iI x2) rfl (sa (iI x2) rfl (RS.nil (T.rt (res_tmpA (v := iI x2) rfl (res_done ?_)))))))
   exact ret_data (v := iI x2) rfl (pure_int _ _) ⟨congrArg (fun r : Int => (iI r : AV)) (Option.some.inj h), rfl⟩
  replace h := ite_F h hb_1
  refine T.skip (T.seq (T.seq (T.region (sm (sL (encL encItem) p1) rfl (sq (v_len_sl Ty.s25 rfl (sq (v_gtr rfl rfl (RS.nil (T.cond (b := decide (((p1).length : Int) > 4)) rfl (fun hb_2 => ?_) (fun hb_2 => ?_)))))))))))
  ·replace h := ite_T h hb_2
   refine T.seq (T.region (sa (iI 2) rfl (RS.nil (T.rt (res_tmpA (v := iI 2) rfl (res_done ?_))))))
   exact ret_data (v := iI 2) rfl (pure_int _ _) ⟨congrArg (fun r : Int => (iI r : AV)) (Option.some.inj h), rfl⟩
  replace h := ite_F h hb_2
  refine T.skip (T.seq (T.seq (T.region (sm (sL (encL encItem) p1) rfl (sq (v_len_sl Ty.s25 rfl (sm (iI 0) rfl (RS.nil (T.block (T.iter (fun ss_27 : Int => mkA 69 [(1, sL (encL encItem) p1), (2, .ptr 0 0), (21, sL (encL encItem) p1), (22, iI ((p1).length : Int)), (23, iI ss_27)]) (fun ss_27 => [.box [sL encNode p0.Nodes, iI p0.Rings, iI p0.Room]]) h (Weak.mkN [] [0] (by decide) (none_kept _) rfl ⟨rn_s rfl, rn_ptr rfl, rn_s rfl, rn_int rfl, rn_int rfl, trivial⟩ (rw_bs [sL encNode p0.Nodes, iI p0.Rings, iI p0.Room] rfl (rw_nil))) (fun ss_27 v_28 h hv_28 => ?_)))))))))))
  revert hv_28 h; revert ss_27; intro s3 h hv_28
  replace h : net_Sources_l3 p0 p1 s3 = some v_28 := h
  try dsimp only
  unfold net_Sources_l3 at h
  refine T.seq (T.region (sq (v_lss rfl rfl (RS.nil (T.seq (T.cond (b := decide (s3 < ((p1).length : Int))) rfl (fun hb_29 => ?_) (fun hb_29 => ?_)))))))
  ·replace h := ite_T h hb_29
   refine T.skip (T.seq (T.block (T.seq ?_)))
   obtain ⟨x5, hx5, h⟩ := bind_some h
   refine T.region (sq (v_index_sl Ty.s25 (fun _ => rfl) rfl rfl hx5 (so (o_load_elt rfl (loadRow1 Ty.k29 (c := sL encItem x5) rfl (sa (sL encItem x5) rfl (RS.nil (T.seq (T.seq (T.region (sm (sL encItem x5) rfl (sq (v_len_sl Ty.s29 rfl ?_)))))))))))))
   refine sq (v_gtr rfl rfl (RS.nil (T.cond (b := decide (((x5).length : Int) > 20)) rfl (fun hb_30 => ?_) (fun hb_30 => ?_))))
   ·replace h := ite_T h hb_30
    refine T.seq (T.region (sa (iI 2) rfl (RS.nil (T.rt ?_))))
    obtain ⟨w_31, h, hw_31⟩ := map_inr h
    replace h := h.trans (congrArg some (hv_28 _ hw_31))
    refine res_tmpA (v := iI 2) rfl (res_done ?_)
    exact ret_data (v := iI 2) rfl (pure_int _ _) ⟨congrArg (fun r : Int => (iI r : AV)) (Option.some.inj h), rfl⟩
   replace h := ite_F h hb_30
   refine T.skip (T.seq (T.region (sm (sL encItem x5) rfl (sq (v_len_sl Ty.s29 rfl (sm (iI 0) rfl (RS.nil (T.block (T.iter (fun ss_36 : Int => mkA 69 [(1, sL (encL encItem) p1), (2, .ptr 0 0), (21, sL (encL encItem) p1), (22, iI ((p1).length : Int)), (23, iI s3), (30, sL encItem x5), (31, iI ((x5).length : Int)), (32, iI ss_36)]) (fun ss_36 => [.box [sL encNode p0.Nodes, iI p0.Rings, iI p0.Room]]) h (Weak.mkN [] [0] (by decide) (none_kept _) rfl ⟨rn_s rfl, rn_ptr rfl, rn_s rfl, rn_int rfl, rn_int rfl, rn_s rfl, rn_int rfl, rn_int rfl, trivial⟩ (rw_bs [sL encNode p0.Nodes, iI p0.Rings, iI p0.Room] rfl (rw_nil))) (fun ss_36 v_37 h hv_37 => ?_))))))))))
   revert hv_37 h; revert ss_36; intro s6 h hv_37
   replace h : net_Sources_l1 s3 x5 s6 = some v_37 := h
   try dsimp only
   unfold net_Sources_l1 at h
   refine T.seq (T.region (sq (v_lss rfl rfl (RS.nil (T.seq (T.cond (b := decide (s6 < ((x5).length : Int))) rfl (fun hb_38 => ?_) (fun hb_38 => ?_)))))))
   ·replace h := ite_T h hb_38
    refine T.skip (T.seq (T.block (T.seq ?_)))
    obtain ⟨x8, hx8, h⟩ := bind_some h
    refine T.region (sq (v_index_sl Ty.s29 (fun _ => rfl) rfl rfl hx8 (so (o_load_elt rfl (loadRowA Ty.k46 Ty.c46 rfl (cs := [iI x8.Key, iI x8.Val, iI x8.Dep]) rfl (so (o_alloc Ty.z46 rfl rfl (so (o_store_ptr Ty.c46 Ty.i46 rfl (vs := [iI x8.Key, iI x8.Val, iI x8.Dep]) rfl rfl rfl rfl (cs' := [iI x8.Key, iI x8.Val, iI x8.Dep]) rfl rfl (RS.nil (T.seq (T.region (sq (v_fieldAddr_ptr Ty.f46_2 rfl (off' := 2) rfl (so (o_load_ptr rfl rfl (loadRow1 Ty.k3 (c := iI x8.Dep) rfl ?_)))))))))))))))))
    refine sq (v_neq rfl rfl (RS.nil (T.cond (b := x8.Dep != 0) rfl (fun hb_39 => ?_) (fun hb_39 => ?_))))
    ·replace h := ite_T h hb_39
     refine T.seq (T.region (sa (iI 4) rfl (RS.nil (T.rt ?_))))
     obtain ⟨w_40, h, hw_40⟩ := map_inr h
     replace h := h.trans (congrArg some (hv_37 _ hw_40))
     obtain ⟨w_41, h, hw_41⟩ := map_inr h
     replace h := h.trans (congrArg some (hv_28 _ hw_41))
     refine res_tmpA (v := iI 4) rfl (res_done ?_)
     exact ret_data (v := iI 4) rfl (pure_int _ _) ⟨congrArg (fun r : Int => (iI r : AV)) (Option.some.inj h), rfl⟩
    replace h := ite_F h hb_39
    refine T.skip (T.region (sq (v_add rfl rfl (sm (iI (IntKind.i64.wrap (s6 + 1))) rfl (RS.nil ?_)))))
    exact ⟨IntKind.i64.wrap (s6 + 1), (Option.some.inj h).symm, Weak.mkN [] [0] (by decide) (none_kept _) rfl ⟨rn_s rfl, rn_ptr rfl, rn_s rfl, rn_int rfl, rn_int rfl, rn_s rfl, rn_int rfl, rn_int rfl, trivial⟩ (rw_bs [sL encNode p0.Nodes, iI p0.Rings, iI p0.Room] rfl (rw_nil))⟩
   replace h := ite_F h hb_38
   refine T.exit ?_
   obtain ⟨w_42, h, hw_42⟩ := map_inr h
   replace h := h.trans (congrArg some (hv_37 _ hw_42))
   refine T.region (sq (v_add rfl rfl (sm (iI (IntKind.i64.wrap (s3 + 1))) rfl (RS.nil ?_))))
   exact ⟨IntKind.i64.wrap (s3 + 1), (Option.some.inj h).symm, Weak.mkN [] [0] (by decide) (none_kept _) rfl ⟨rn_s rfl, rn_ptr rfl, rn_s rfl, rn_int rfl, rn_int rfl, trivial⟩ (rw_bs [sL encNode p0.Nodes, iI p0.Rings, iI p0.Room] rfl (rw_nil))⟩
  replace h := ite_F h hb_29
  refine T.exit ?_
  obtain ⟨w_43, h, hw_43⟩ := map_inr h
  replace h := h.trans (congrArg some (hv_28 _ hw_43))
  refine T.seq ?_
  obtain ⟨x10, hx10, h⟩ := bind_some h
  refine T.region (sm (sL (encL encItem) p1) rfl (sq (v_len_sl Ty.s25 rfl (so (o_mk (en := encB) (zr := false) Ty.s132 Ty.z4 rfl rfl hx10 rfl rfl (sa (.ref 1) rfl (RS.nil (T.seq (T.seq (T.region (sq (v_fieldAddr_ptr Ty.f24_0 rfl (off' := 0) rfl ?_))))))))))))
  refine so (o_load_ptr rfl rfl (loadRow1 Ty.k22 (c := sL encNode p0.Nodes) rfl (sq (v_len_sl Ty.s22 rfl (sm (iI 0) rfl (RS.nil (T.block (T.iter (fun ss_52 : Int × (List Bool) => mkA 69 [(1, sL (encL encItem) p1), (10, .ref 0), (45, sL encNode p0.Nodes), (46, iI ((p0.Nodes).length : Int)), (47, iI ss_52.1)]) (fun ss_52 => [aR 4 1 encB ss_52.2]) h (Weak.mkN [] [1] (by decide) (none_kept _) rfl ⟨rn_s rfl, rn_ref rfl, rn_s rfl, rn_int rfl, rn_int rfl, trivial⟩ (rw_ar rfl rfl (rw_nil))) (fun ss_52 v_53 h hv_53 => ?_)))))))))
  obtain ⟨s11, s12⟩ := ss_52
  replace h : net_Sources_l2 p0 p1 s11 s12 = some v_53 := h
  try dsimp only
  unfold net_Sources_l2 at h
  refine T.seq (T.region (sq (v_lss rfl rfl (RS.nil (T.seq (T.cond (b := decide (s11 < ((p0.Nodes).length : Int))) rfl (fun hb_54 => ?_) (fun hb_54 => ?_)))))))
  ·replace h := ite_T h hb_54
   refine T.skip (T.seq (T.block (T.seq ?_)))
   obtain ⟨x14, hx14, h⟩ := bind_some h
   refine T.region (sq (v_index_sl Ty.s22 (fun _ => rfl) rfl rfl hx14 (so (o_load_elt rfl (loadRowA Ty.k40 Ty.c40 rfl (cs := [iI x14.Kind, iI x14.A, sL encI x14.In, sL encI x14.Out]) rfl (so (o_alloc Ty.z40 rfl rfl (so (o_store_ptr Ty.c40 Ty.i40 rfl (vs := [iI x14.Kind, iI x14.A, sL encI x14.In, sL encI x14.Out]) rfl rfl rfl rfl (cs' := [iI x14.Kind, iI x14.A, sL encI x14.In, sL encI x14.Out]) rfl rfl (RS.nil (T.seq (T.seq (T.region (sq (v_fieldAddr_ptr Ty.f40_0 rfl (off' := 0) rfl ?_)))))))))))))))
   refine so (o_load_ptr rfl rfl (loadRow1 Ty.k3 (c := iI x14.Kind) rfl (sq (v_neq rfl rfl (RS.nil (T.cond (b := x14.Kind != 1) rfl (fun hb_55 => ?_) (fun hb_55 => ?_)))))))
   ·replace h := ite_T h hb_55
    refine T.exit (T.region (sq (v_add rfl rfl (sm (iI (IntKind.i64.wrap (s11 + 1))) rfl (RS.nil ?_)))))
    exact ⟨(IntKind.i64.wrap (s11 + 1), s12), (Option.some.inj h).symm, Weak.mkN [] [0] (by decide) (none_kept _) rfl ⟨rn_s rfl, rn_ref rfl, rn_s rfl, rn_int rfl, rn_int rfl, trivial⟩ (rw_ar rfl rfl (rw_nil))⟩
   replace h := ite_F h hb_55
   refine T.skip (T.seq (T.seq (T.region (sq (v_fieldAddr_ptr Ty.f40_1 rfl (off' := 1) rfl (so (o_load_ptr rfl rfl (loadRow1 Ty.k3 (c := iI x14.A) rfl (sm (sL (encL encItem) p1) rfl (sq (v_len_sl Ty.s25 rfl (sq (v_geq rfl rfl (RS.nil ?_))))))))))))))
   refine T.cond (b := decide (x14.A ≥ ((p1).length : Int))) rfl (fun hb_56 => ?_) (fun hb_56 => ?_)
   ·replace h := ite_T h hb_56
    refine T.seq (T.region (sa (iI 5) rfl (RS.nil (T.rt ?_))))
    obtain ⟨w_57, h, hw_57⟩ := map_inr h
    replace h := h.trans (congrArg some (hv_53 _ hw_57))
    refine res_tmpA (v := iI 5) rfl (res_done ?_)
    exact ret_data (v := iI 5) rfl (pure_int _ _) ⟨congrArg (fun r : Int => (iI r : AV)) (Option.some.inj h), rfl⟩
   replace h := ite_F h hb_56
   refine T.skip (T.seq (T.seq ?_))
   obtain ⟨x17, hx17, h⟩ := bind_some h
   obtain ⟨x18, hx18, h⟩ := bind_some h
   refine T.region (sm (.ref 0) rfl (sq (v_fieldAddr_ptr Ty.f40_1 rfl (off' := 1) rfl (so (o_load_ptr rfl rfl (loadRow1 Ty.k3 (c := iI x14.A) rfl (sq (v_index_ref' (en := encB) Ty.s132 rfl rfl rfl hx17 (so (o_load_aptr' (en := encB) (a := x18) rfl rfl hx18 (loadRow1 Ty.k4 (c := .bool x18) rfl (RS.nil (T.cond (b := x18) rfl (fun hb_58 => ?_) (fun hb_58 => ?_))))))))))))))
   ·replace h := ite_T h hb_58
    refine T.seq (T.region (sa (iI 6) rfl (RS.nil (T.rt ?_))))
    obtain ⟨w_59, h, hw_59⟩ := map_inr h
    replace h := h.trans (congrArg some (hv_53 _ hw_59))
    refine res_tmpA (v := iI 6) rfl (res_done ?_)
    exact ret_data (v := iI 6) rfl (pure_int _ _) ⟨congrArg (fun r : Int => (iI r : AV)) (Option.some.inj h), rfl⟩
   replace h := ite_F h hb_58
   refine T.skip ?_
   obtain ⟨x19, hx19, h⟩ := bind_some h
   obtain ⟨x20, hx20, h⟩ := bind_some h
   refine T.region (sm (.ref 0) rfl (sq (v_fieldAddr_ptr Ty.f40_1 rfl (off' := 1) rfl (so (o_load_ptr rfl rfl (loadRow1 Ty.k3 (c := iI x14.A) rfl (sq (v_index_ref' (en := encB) Ty.s132 rfl rfl rfl hx19 (so (o_store_aptr' (en := encB) (a := x20) (a' := true) Ty.c4 Ty.i4 rfl (vs := [.bool true]) rfl rfl rfl hx20 rfl rfl rfl (RS.nil (T.region (sq (v_add rfl rfl (sm (iI (IntKind.i64.wrap (s11 + 1))) rfl ?_)))))))))))))))
   refine RS.nil ?_
   exact ⟨(IntKind.i64.wrap (s11 + 1), (List.set s12 x19 true)), (Option.some.inj h).symm, Weak.mkN [] [0] (by decide) (none_kept _) rfl ⟨rn_s rfl, rn_ref rfl, rn_s rfl, rn_int rfl, rn_int rfl, trivial⟩ (rw_ar rfl rfl (rw_nil))⟩
  replace h := ite_F h hb_54
  refine T.exit ?_
  obtain ⟨w_60, h, hw_60⟩ := map_inr h
  replace h := h.trans (congrArg some (hv_53 _ hw_60))
  refine T.seq (T.region (sa (iI 0) rfl (RS.nil (T.rt (res_tmpA (v := iI 0) rfl (res_done ?_))))))
  exact ret_data (v := iI 0) rfl (pure_int _ _) ⟨congrArg (fun r : Int => (iI r : AV)) (Option.some.inj h), rfl⟩
theorem move_start_c (p0 : Net) (p1 : List (List Item)) (r : State) (h : move_start p0 p1 = some r) : FnO Try.prog 81 [.agg [sL encNode p0.Nodes, iI p0.Rings, iI p0.Room], sL (encL encItem) p1] (.agg [.ref 0, .ref 1, .ref 2, .ref 3, .ref 4]) [aR 3 1 encI r.At, aR 29 1 (encL encItem) r.Rings, aR 66 3 encMemory r.Memory, aR 94 2 encChoice r.Choices, aR 46 3 encItem r.Out] := by
  unfold move_start at h
  refine fn_of_T (N := 0) rfl Try.func81 rfl (by kernel_rfl) Try.ntmps81 rfl ?_
  show T _ _ _ _ (mkA 16 [(0, .agg [sL encNode p0.Nodes, iI p0.Rings, iI p0.Room]), (1, sL (encL encItem) p1)]) []
  refine T.seq (T.region (so (o_box (cs := [sL encNode p0.Nodes, iI p0.Rings, iI p0.Room]) rfl rfl rfl (so (o_alloc Ty.z31 rfl rfl (RS.nil (T.seq ?_)))))))
  obtain ⟨x4, hx4, h⟩ := bind_some h
  obtain ⟨x5, hx5, h⟩ := bind_some h
  obtain ⟨x6, hx6, h⟩ := bind_some h
  refine T.drawn mixed (k := 12) rfl ?_
  let l13 : List (Nat × AV) := [(0, .agg [sL encNode p0.Nodes, iI p0.Rings, iI p0.Room]), (1, sL (encL encItem) p1), (2, .ptr 0 0), (4, .ptr 1 0)]
  let a13 : List Ob := [.box [sL encNode p0.Nodes, iI p0.Rings, iI p0.Room], .box [.nils, .nils, .nils, .nils, .nils]]
  refine RA.join 1 #[true, true, true, true, true, true, true, true, true, true, true, false] (mkA 16 ((5, sL (encL encItem) p1) :: (6, iI ((p1).length : Int)) :: (7, .ref 4) :: (8, .ptr 0 1) :: (9, iI p0.Rings) :: (10, .ref 3) :: (11, .ptr 0 0) :: (12, sL encNode p0.Nodes) :: (13, iI ((p0.Nodes).length : Int)) :: (14, .ref 2) :: (15, .agg [.ref 4, .ref 3, .ref 2, .nils, .nils]) :: l13)) [.box [sL encNode p0.Nodes, iI p0.Rings, iI p0.Room], .box [.nils, .nils, .nils, .nils, .nils], aR 66 3 encMemory x6, aR 29 1 (encL encItem) x5, aR 3 1 encI x4] ?_ (fun hS1 => ?_)
  ·refine ra1 11 (RO.op rfl rfl (o_store_ptr Ty.c31 Ty.i31 rfl (vs := [.ref 4, .ref 3, .ref 2, .nils, .nils]) rfl rfl rfl rfl (cs' := [.ref 4, .ref 3, .ref 2, .nils, .nils]) rfl rfl (RA.done (by decide +kernel) (T.nilB 1 3 94 2 (cs := [.ref 4, .ref 3, .ref 2, .nils, .nils]) rfl rfl (cs' := [.ref 4, .ref 3, .ref 2, .ref 5, .nils]) rfl rfl (T.nilB 1 4 46 3 (cs := [.ref 4, .ref 3, .ref 2, .ref 5, .nils]) rfl rfl (cs' := [.ref 4, .ref 3, .ref 2, .ref 5, .ref 6]) rfl rfl (T.rt (res_cellA (id := 1) (off := 0) (cs := [.ref 4, .ref 3, .ref 2, .ref 5, .ref 6]) (v := .agg [.ref 4, .ref 3, .ref 2, .ref 5, .ref 6]) ?_ ?_ ?_ ?_)))))))
   · rfl
   · rfl
   · exact fun K h => (loadRowA (row := [.ref 4, .ref 3, .ref 2, .ref 5, .ref 6]) (off := 0) Ty.k31 Ty.c31 rfl (cs := [.ref 4, .ref 3, .ref 2, .ref 5, .ref 6]) rfl h)
   refine res_done ?_
   exact ret_own (.agg [.ref 0, .ref 1, .ref 2, .ref 3, .ref 4]) [] [4, 3, 2, 5, 6] (by decide) (none_kept _) rfl (rn_agg ⟨rn_ref rfl, rn_ref rfl, rn_ref rfl, rn_ref rfl, rn_ref rfl, trivial⟩) (rw_arr rfl encI_p (congrArg (fun r : State => r.At) (Option.some.inj h)).symm (rw_arr rfl (encL_p encItem_p) (congrArg (fun r : State => r.Rings) (Option.some.inj h)).symm (rw_arr rfl encMemory_p (congrArg (fun r : State => r.Memory) (Option.some.inj h)).symm (rw_arr rfl encChoice_p (congrArg (fun r : State => r.Choices) (Option.some.inj h)).symm (rw_arr rfl encItem_p (congrArg (fun r : State => r.Out) (Option.some.inj h)).symm (rw_nil)))))) ⟨rfl, rfl⟩
  ·refine RA.join 3 #[true, true, true, true, true, false, true, true, true, true, false, false] (mkA 16 ((5, sL (encL encItem) p1) :: (6, iI ((p1).length : Int)) :: (7, .ref 3) :: (8, .ptr 0 1) :: (9, iI p0.Rings) :: (11, .ptr 0 0) :: (12, sL encNode p0.Nodes) :: (13, iI ((p0.Nodes).length : Int)) :: (14, .ref 2) :: l13)) [.box [sL encNode p0.Nodes, iI p0.Rings, iI p0.Room], .box [.nils, .nils, .nils, .nils, .nils], aR 66 3 encMemory x6, aR 3 1 encI x4] ?_ (fun hS2 => ?_)
   ·refine ra1 5 (RO.op rfl rfl (o_mkN (en := (encL encItem)) (zr := ([] : List Item)) Ty.s25 Ty.z29 ⟨.inr ⟨rfl, rfl⟩, trivial⟩ rfl rfl hx5 rfl rfl (rt0 10 rfl (v_build (cs := [.ref 3, .ref 4, .ref 2, .nils, .nils]) Ty.z31 Ty.p31 rfl ?_))))
    exact raW hS1 (Weak.mkN [] [0, 1, 2, 4, 3] (by decide) (none_kept _) rfl ⟨rn_s rfl, rn_int rfl, rn_ref rfl, rn_ptr rfl, rn_int rfl, rn_ref rfl, rn_ptr rfl, rn_s rfl, rn_int rfl, rn_ref rfl, rn_agg ⟨rn_ref rfl, rn_ref rfl, rn_ref rfl, rn_same pure_nils, rn_same pure_nils, trivial⟩, rn_agg ⟨rn_s rfl, rn_int rfl, rn_int rfl, trivial⟩, rn_s rfl, rn_ptr rfl, rn_ptr rfl, trivial⟩ (rw_bs [sL encNode p0.Nodes, iI p0.Rings, iI p0.Room] rfl (rw_bs [.nils, .nils, .nils, .nils, .nils] rfl (rw_ar rfl rfl (rw_ar rfl rfl (rw_ar rfl rfl (rw_nil)))))))
   ·refine RA.join 3 #[true, true, false, true, true, true, true, true, true, true, false, false] (mkA 16 ((5, sL (encL encItem) p1) :: (6, iI ((p1).length : Int)) :: (8, .ptr 0 1) :: (9, iI p0.Rings) :: (10, .ref 3) :: (11, .ptr 0 0) :: (12, sL encNode p0.Nodes) :: (13, iI ((p0.Nodes).length : Int)) :: (14, .ref 2) :: l13)) [.box [sL encNode p0.Nodes, iI p0.Rings, iI p0.Room], .box [.nils, .nils, .nils, .nils, .nils], aR 66 3 encMemory x6, aR 29 1 (encL encItem) x5] ?_ (fun hS3 => ?_)
    ·refine ra1 2 (RO.op rfl rfl (o_mk (en := encI) (zr := 0) Ty.s26 Ty.z3 rfl rfl hx4 rfl rfl (rt0 10 rfl (v_build (cs := [.ref 4, .ref 3, .ref 2, .nils, .nils]) Ty.z31 Ty.p31 rfl ?_))))
     exact raS hS1 ⟨rfl, rfl, rfl, rfl, rfl, rfl, rfl, rfl, rfl, rfl, rfl, rfl, rfl, rfl, rfl, trivial⟩
    ·refine RA.join 3 #[true, true, true, true, true, true, true, true, true, false, false, false] (mkA 16 ((5, sL (encL encItem) p1) :: (6, iI ((p1).length : Int)) :: (7, .ref 3) :: (8, .ptr 0 1) :: (9, iI p0.Rings) :: (10, .ref 2) :: (11, .ptr 0 0) :: (12, sL encNode p0.Nodes) :: (13, iI ((p0.Nodes).length : Int)) :: l13)) [.box [sL encNode p0.Nodes, iI p0.Rings, iI p0.Room], .box [.nils, .nils, .nils, .nils, .nils], aR 29 1 (encL encItem) x5, aR 3 1 encI x4] ?_ (fun hS4 => ?_)
     ·refine ra1 9 (RO.op rfl rfl (o_mkN (en := encMemory) (zr := (⟨0, [], 0⟩ : Memory)) Ty.s27 Ty.z66 ⟨.inl rfl, .inr ⟨rfl, rfl⟩, .inl rfl, trivial⟩ rfl rfl hx6 rfl rfl (rt0 10 rfl (v_build (cs := [.ref 3, .ref 2, .ref 4, .nils, .nils]) Ty.z31 Ty.p31 rfl ?_))))
      exact raW hS1 (Weak.mkN [] [0, 1, 4, 2, 3] (by decide) (none_kept _) rfl ⟨rn_s rfl, rn_int rfl, rn_ref rfl, rn_ptr rfl, rn_int rfl, rn_ref rfl, rn_ptr rfl, rn_s rfl, rn_int rfl, rn_ref rfl, rn_agg ⟨rn_ref rfl, rn_ref rfl, rn_ref rfl, rn_same pure_nils, rn_same pure_nils, trivial⟩, rn_agg ⟨rn_s rfl, rn_int rfl, rn_int rfl, trivial⟩, rn_s rfl, rn_ptr rfl, rn_ptr rfl, trivial⟩ (rw_bs [sL encNode p0.Nodes, iI p0.Rings, iI p0.Room] rfl (rw_bs [.nils, .nils, .nils, .nils, .nils] rfl (rw_ar rfl rfl (rw_ar rfl rfl (rw_ar rfl rfl (rw_nil)))))))
     ·refine RA.join 4 #[true, true, true, true, false, false, true, true, true, true, false, false] (mkA 16 ((5, sL (encL encItem) p1) :: (6, iI ((p1).length : Int)) :: (7, .ref 3) :: (8, .ptr 0 1) :: (11, .ptr 0 0) :: (12, sL encNode p0.Nodes) :: (13, iI ((p0.Nodes).length : Int)) :: (14, .ref 2) :: l13)) [.box [sL encNode p0.Nodes, iI p0.Rings, iI p0.Room], .box [.nils, .nils, .nils, .nils, .nils], aR 66 3 encMemory x6, aR 3 1 encI x4] ?_ (fun hS5 => ?_)
      ·refine ra1 4 (RO.op rfl rfl (o_load_ptr rfl rfl (loadRow1 Ty.k3 (c := iI p0.Rings) rfl ?_)))
       exact raS hS2 ⟨rfl, rfl, rfl, rfl, rfl, rfl, rfl, rfl, rfl, rfl, rfl, rfl, rfl, trivial⟩
      ·refine RA.join 4 #[true, true, false, true, true, false, true, true, true, true, false, false] (mkA 16 ((5, sL (encL encItem) p1) :: (6, iI ((p1).length : Int)) :: (8, .ptr 0 1) :: (9, iI p0.Rings) :: (11, .ptr 0 0) :: (12, sL encNode p0.Nodes) :: (13, iI ((p0.Nodes).length : Int)) :: (14, .ref 2) :: l13)) [.box [sL encNode p0.Nodes, iI p0.Rings, iI p0.Room], .box [.nils, .nils, .nils, .nils, .nils], aR 66 3 encMemory x6] ?_ (fun hS6 => ?_)
       ·refine ra2 2 5 ?_ ?_
        ·refine RO.op rfl rfl (o_mk (en := encI) (zr := 0) Ty.s26 Ty.z3 rfl rfl hx4 rfl rfl ?_)
         exact raS hS2 ⟨rfl, rfl, rfl, rfl, rfl, rfl, rfl, rfl, rfl, rfl, rfl, rfl, rfl, trivial⟩
        ·refine RO.op rfl rfl (o_mkN (en := (encL encItem)) (zr := ([] : List Item)) Ty.s25 Ty.z29 ⟨.inr ⟨rfl, rfl⟩, trivial⟩ rfl rfl hx5 rfl rfl ?_)
         exact raS hS3 ⟨rfl, rfl, rfl, rfl, rfl, rfl, rfl, rfl, rfl, rfl, rfl, rfl, rfl, trivial⟩
       ·refine RA.join 4 #[true, true, true, true, true, false, true, true, true, false, false, false] (mkA 16 ((5, sL (encL encItem) p1) :: (6, iI ((p1).length : Int)) :: (7, .ref 2) :: (8, .ptr 0 1) :: (9, iI p0.Rings) :: (11, .ptr 0 0) :: (12, sL encNode p0.Nodes) :: (13, iI ((p0.Nodes).length : Int)) :: l13)) [.box [sL encNode p0.Nodes, iI p0.Rings, iI p0.Room], .box [.nils, .nils, .nils, .nils, .nils], aR 3 1 encI x4] ?_ (fun hS7 => ?_)
        ·refine ra2 5 9 ?_ ?_
         ·refine RO.op rfl rfl (o_mkN (en := (encL encItem)) (zr := ([] : List Item)) Ty.s25 Ty.z29 ⟨.inr ⟨rfl, rfl⟩, trivial⟩ rfl rfl hx5 rfl rfl ?_)
          exact raW hS4 (Weak.mkN [] [0, 1, 3, 2] (by decide) (none_kept _) rfl ⟨rn_s rfl, rn_int rfl, rn_ref rfl, rn_ptr rfl, rn_int rfl, rn_ref rfl, rn_ptr rfl, rn_s rfl, rn_int rfl, rn_agg ⟨rn_s rfl, rn_int rfl, rn_int rfl, trivial⟩, rn_s rfl, rn_ptr rfl, rn_ptr rfl, trivial⟩ (rw_bs [sL encNode p0.Nodes, iI p0.Rings, iI p0.Room] rfl (rw_bs [.nils, .nils, .nils, .nils, .nils] rfl (rw_ar rfl rfl (rw_ar rfl rfl (rw_nil))))))
         ·refine RO.op rfl rfl (o_mkN (en := encMemory) (zr := (⟨0, [], 0⟩ : Memory)) Ty.s27 Ty.z66 ⟨.inl rfl, .inr ⟨rfl, rfl⟩, .inl rfl, trivial⟩ rfl rfl hx6 rfl rfl ?_)
          exact raW hS2 (Weak.mkN [] [0, 1, 3, 2] (by decide) (none_kept _) rfl ⟨rn_s rfl, rn_int rfl, rn_ref rfl, rn_ptr rfl, rn_int rfl, rn_ptr rfl, rn_s rfl, rn_int rfl, rn_ref rfl, rn_agg ⟨rn_s rfl, rn_int rfl, rn_int rfl, trivial⟩, rn_s rfl, rn_ptr rfl, rn_ptr rfl, trivial⟩ (rw_bs [sL encNode p0.Nodes, iI p0.Rings, iI p0.Room] rfl (rw_bs [.nils, .nils, .nils, .nils, .nils] rfl (rw_ar rfl rfl (rw_ar rfl rfl (rw_nil))))))
        ·refine RA.join 4 #[true, true, false, true, true, true, true, true, true, false, false, false] (mkA 16 ((5, sL (encL encItem) p1) :: (6, iI ((p1).length : Int)) :: (8, .ptr 0 1) :: (9, iI p0.Rings) :: (10, .ref 2) :: (11, .ptr 0 0) :: (12, sL encNode p0.Nodes) :: (13, iI ((p0.Nodes).length : Int)) :: l13)) [.box [sL encNode p0.Nodes, iI p0.Rings, iI p0.Room], .box [.nils, .nils, .nils, .nils, .nils], aR 29 1 (encL encItem) x5] ?_ (fun hS8 => ?_)
         ·refine ra2 2 9 ?_ ?_
          ·refine RO.op rfl rfl (o_mk (en := encI) (zr := 0) Ty.s26 Ty.z3 rfl rfl hx4 rfl rfl ?_)
           exact raS hS4 ⟨rfl, rfl, rfl, rfl, rfl, rfl, rfl, rfl, rfl, rfl, rfl, rfl, rfl, trivial⟩
          ·refine RO.op rfl rfl (o_mkN (en := encMemory) (zr := (⟨0, [], 0⟩ : Memory)) Ty.s27 Ty.z66 ⟨.inl rfl, .inr ⟨rfl, rfl⟩, .inl rfl, trivial⟩ rfl rfl hx6 rfl rfl ?_)
           exact raW hS3 (Weak.mkN [] [0, 1, 3, 2] (by decide) (none_kept _) rfl ⟨rn_s rfl, rn_int rfl, rn_ptr rfl, rn_int rfl, rn_ref rfl, rn_ptr rfl, rn_s rfl, rn_int rfl, rn_ref rfl, rn_agg ⟨rn_s rfl, rn_int rfl, rn_int rfl, trivial⟩, rn_s rfl, rn_ptr rfl, rn_ptr rfl, trivial⟩ (rw_bs [sL encNode p0.Nodes, iI p0.Rings, iI p0.Room] rfl (rw_bs [.nils, .nils, .nils, .nils, .nils] rfl (rw_ar rfl rfl (rw_ar rfl rfl (rw_nil))))))
         ·refine RA.join 5 #[true, true, true, true, false, false, true, true, true, false, false, false] (mkA 16 ((5, sL (encL encItem) p1) :: (6, iI ((p1).length : Int)) :: (7, .ref 2) :: (8, .ptr 0 1) :: (11, .ptr 0 0) :: (12, sL encNode p0.Nodes) :: (13, iI ((p0.Nodes).length : Int)) :: l13)) [.box [sL encNode p0.Nodes, iI p0.Rings, iI p0.Room], .box [.nils, .nils, .nils, .nils, .nils], aR 3 1 encI x4] ?_ (fun hS9 => ?_)
          ·refine ra2 4 9 ?_ ?_
           ·refine RO.op rfl rfl (o_load_ptr rfl rfl (loadRow1 Ty.k3 (c := iI p0.Rings) rfl ?_))
            exact raS hS7 ⟨rfl, rfl, rfl, rfl, rfl, rfl, rfl, rfl, rfl, rfl, rfl, rfl, trivial⟩
           ·refine RO.op rfl rfl (o_mkN (en := encMemory) (zr := (⟨0, [], 0⟩ : Memory)) Ty.s27 Ty.z66 ⟨.inl rfl, .inr ⟨rfl, rfl⟩, .inl rfl, trivial⟩ rfl rfl hx6 rfl rfl ?_)
            exact raW hS5 (Weak.mkN [] [0, 1, 3, 2] (by decide) (none_kept _) rfl ⟨rn_s rfl, rn_int rfl, rn_ref rfl, rn_ptr rfl, rn_ptr rfl, rn_s rfl, rn_int rfl, rn_ref rfl, rn_agg ⟨rn_s rfl, rn_int rfl, rn_int rfl, trivial⟩, rn_s rfl, rn_ptr rfl, rn_ptr rfl, trivial⟩ (rw_bs [sL encNode p0.Nodes, iI p0.Rings, iI p0.Room] rfl (rw_bs [.nils, .nils, .nils, .nils, .nils] rfl (rw_ar rfl rfl (rw_ar rfl rfl (rw_nil))))))
          ·refine RA.join 5 #[true, true, false, true, true, false, true, true, true, false, false, false] (mkA 16 ((5, sL (encL encItem) p1) :: (6, iI ((p1).length : Int)) :: (8, .ptr 0 1) :: (9, iI p0.Rings) :: (11, .ptr 0 0) :: (12, sL encNode p0.Nodes) :: (13, iI ((p0.Nodes).length : Int)) :: l13)) a13 ?_ (fun hS10 => ?_)
           ·refine ra3 2 5 9 ?_ ?_ ?_
            ·refine RO.op rfl rfl (o_mk (en := encI) (zr := 0) Ty.s26 Ty.z3 rfl rfl hx4 rfl rfl ?_)
             exact raS hS7 ⟨rfl, rfl, rfl, rfl, rfl, rfl, rfl, rfl, rfl, rfl, rfl, rfl, trivial⟩
            ·refine RO.op rfl rfl (o_mkN (en := (encL encItem)) (zr := ([] : List Item)) Ty.s25 Ty.z29 ⟨.inr ⟨rfl, rfl⟩, trivial⟩ rfl rfl hx5 rfl rfl ?_)
             exact raS hS8 ⟨rfl, rfl, rfl, rfl, rfl, rfl, rfl, rfl, rfl, rfl, rfl, rfl, trivial⟩
            ·refine RO.op rfl rfl (o_mkN (en := encMemory) (zr := (⟨0, [], 0⟩ : Memory)) Ty.s27 Ty.z66 ⟨.inl rfl, .inr ⟨rfl, rfl⟩, .inl rfl, trivial⟩ rfl rfl hx6 rfl rfl ?_)
             exact raS hS6 ⟨rfl, rfl, rfl, rfl, rfl, rfl, rfl, rfl, rfl, rfl, rfl, rfl, trivial⟩
           ·refine RA.join 5 #[true, true, true, true, true, true, true, false, false, false, false, false] (mkA 16 ((5, sL (encL encItem) p1) :: (6, iI ((p1).length : Int)) :: (7, .ref 3) :: (8, .ptr 0 1) :: (9, iI p0.Rings) :: (10, .ref 2) :: (11, .ptr 0 0) :: l13)) [.box [sL encNode p0.Nodes, iI p0.Rings, iI p0.Room], .box [.nils, .nils, .nils, .nils, .nils], aR 29 1 (encL encItem) x5, aR 3 1 encI x4] ?_ (fun hS11 => ?_)
            ·refine ra1 7 (RO.op rfl rfl (o_load_ptr rfl rfl (loadRow1 Ty.k22 (c := sL encNode p0.Nodes) rfl (rt0 8 rfl (v_len_sl Ty.s22 rfl ?_)))))
             exact raS hS4 ⟨rfl, rfl, rfl, rfl, rfl, rfl, rfl, rfl, rfl, rfl, rfl, rfl, rfl, trivial⟩
            ·refine RA.join 6 #[true, true, true, true, true, false, true, false, false, false, false, false] (mkA 16 ((5, sL (encL encItem) p1) :: (6, iI ((p1).length : Int)) :: (7, .ref 2) :: (8, .ptr 0 1) :: (9, iI p0.Rings) :: (11, .ptr 0 0) :: l13)) [.box [sL encNode p0.Nodes, iI p0.Rings, iI p0.Room], .box [.nils, .nils, .nils, .nils, .nils], aR 3 1 encI x4] ?_ (fun hS12 => ?_)
             ·refine ra2 5 7 ?_ ?_
              ·refine RO.op rfl rfl (o_mkN (en := (encL encItem)) (zr := ([] : List Item)) Ty.s25 Ty.z29 ⟨.inr ⟨rfl, rfl⟩, trivial⟩ rfl rfl hx5 rfl rfl ?_)
               exact raW hS11 (Weak.mkN [] [0, 1, 3, 2] (by decide) (none_kept _) rfl ⟨rn_s rfl, rn_int rfl, rn_ref rfl, rn_ptr rfl, rn_int rfl, rn_ref rfl, rn_ptr rfl, rn_agg ⟨rn_s rfl, rn_int rfl, rn_int rfl, trivial⟩, rn_s rfl, rn_ptr rfl, rn_ptr rfl, trivial⟩ (rw_bs [sL encNode p0.Nodes, iI p0.Rings, iI p0.Room] rfl (rw_bs [.nils, .nils, .nils, .nils, .nils] rfl (rw_ar rfl rfl (rw_ar rfl rfl (rw_nil))))))
              ·refine RO.op rfl rfl (o_load_ptr rfl rfl (loadRow1 Ty.k22 (c := sL encNode p0.Nodes) rfl (rt0 8 rfl (v_len_sl Ty.s22 rfl ?_))))
               exact raS hS7 ⟨rfl, rfl, rfl, rfl, rfl, rfl, rfl, rfl, rfl, rfl, rfl, rfl, trivial⟩
             ·refine rt0 0 rfl (v_move (v := sL (encL encItem) p1) rfl (rt0 1 rfl (v_len_sl Ty.s25 rfl (rt0 3 rfl (v_fieldAddr_ptr Ty.f24_1 rfl (off' := 1) rfl (rt0 6 rfl (v_fieldAddr_ptr Ty.f24_0 rfl (off' := 0) rfl (ra3 2 4 7 ?_ ?_ ?_))))))))
              ·refine RO.op rfl rfl (o_mk (en := encI) (zr := 0) Ty.s26 Ty.z3 rfl rfl hx4 rfl rfl (ra2 4 7 ?_ ?_))
               ·refine RO.op rfl rfl (o_load_ptr rfl rfl (loadRow1 Ty.k3 (c := iI p0.Rings) rfl ?_))
                exact raS hS12 ⟨rfl, rfl, rfl, rfl, rfl, rfl, rfl, rfl, rfl, rfl, trivial⟩
               ·refine RO.op rfl rfl (o_load_ptr rfl rfl (loadRow1 Ty.k22 (c := sL encNode p0.Nodes) rfl (rt0 8 rfl (v_len_sl Ty.s22 rfl ?_))))
                exact raS hS9 ⟨rfl, rfl, rfl, rfl, rfl, rfl, rfl, rfl, rfl, rfl, rfl, trivial⟩
              ·refine RO.op rfl rfl (o_load_ptr rfl rfl (loadRow1 Ty.k3 (c := iI p0.Rings) rfl (ra3 2 5 7 ?_ ?_ ?_)))
               ·refine RO.op rfl rfl (o_mk (en := encI) (zr := 0) Ty.s26 Ty.z3 rfl rfl hx4 rfl rfl ?_)
                exact raS hS12 ⟨rfl, rfl, rfl, rfl, rfl, rfl, rfl, rfl, rfl, rfl, trivial⟩
               ·refine RO.op rfl rfl (o_mkN (en := (encL encItem)) (zr := ([] : List Item)) Ty.s25 Ty.z29 ⟨.inr ⟨rfl, rfl⟩, trivial⟩ rfl rfl hx5 rfl rfl (ra2 2 7 ?_ ?_))
                ·refine RO.op rfl rfl (o_mk (en := encI) (zr := 0) Ty.s26 Ty.z3 rfl rfl hx4 rfl rfl ?_)
                 exact raS hS11 ⟨rfl, rfl, rfl, rfl, rfl, rfl, rfl, rfl, rfl, rfl, rfl, trivial⟩
                ·refine RO.op rfl rfl (o_load_ptr rfl rfl (loadRow1 Ty.k22 (c := sL encNode p0.Nodes) rfl (rt0 8 rfl (v_len_sl Ty.s22 rfl ?_))))
                 exact raS hS8 ⟨rfl, rfl, rfl, rfl, rfl, rfl, rfl, rfl, rfl, rfl, rfl, rfl, trivial⟩
               ·refine RO.op rfl rfl (o_load_ptr rfl rfl (loadRow1 Ty.k22 (c := sL encNode p0.Nodes) rfl (rt0 8 rfl (v_len_sl Ty.s22 rfl ?_))))
                exact raS hS10 ⟨rfl, rfl, rfl, rfl, rfl, rfl, rfl, rfl, rfl, rfl, rfl, trivial⟩
              ·refine RO.op rfl rfl (o_load_ptr rfl rfl (loadRow1 Ty.k22 (c := sL encNode p0.Nodes) rfl (rt0 8 rfl (v_len_sl Ty.s22 rfl (ra3 2 4 9 ?_ ?_ ?_)))))
               ·refine RO.op rfl rfl (o_mk (en := encI) (zr := 0) Ty.s26 Ty.z3 rfl rfl hx4 rfl rfl ?_)
                exact raS hS9 ⟨rfl, rfl, rfl, rfl, rfl, rfl, rfl, rfl, rfl, rfl, rfl, trivial⟩
               ·refine RO.op rfl rfl (o_load_ptr rfl rfl (loadRow1 Ty.k3 (c := iI p0.Rings) rfl ?_))
                exact raS hS10 ⟨rfl, rfl, rfl, rfl, rfl, rfl, rfl, rfl, rfl, rfl, rfl, trivial⟩
               ·refine RO.op rfl rfl (o_mkN (en := encMemory) (zr := (⟨0, [], 0⟩ : Memory)) Ty.s27 Ty.z66 ⟨.inl rfl, .inr ⟨rfl, rfl⟩, .inl rfl, trivial⟩ rfl rfl hx6 rfl rfl (ra2 2 4 ?_ ?_))
                ·refine RO.op rfl rfl (o_mk (en := encI) (zr := 0) Ty.s26 Ty.z3 rfl rfl hx4 rfl rfl ?_)
                 exact raS hS5 ⟨rfl, rfl, rfl, rfl, rfl, rfl, rfl, rfl, rfl, rfl, rfl, rfl, trivial⟩
                ·refine RO.op rfl rfl (o_load_ptr rfl rfl (loadRow1 Ty.k3 (c := iI p0.Rings) rfl ?_))
                 exact raS hS6 ⟨rfl, rfl, rfl, rfl, rfl, rfl, rfl, rfl, rfl, rfl, rfl, rfl, trivial⟩
theorem move_Start_c (p0 : Net) (p1 : List (List Item)) (r : State × Int) (h : move_Start p0 p1 = some r) : FnO Try.prog 50 [.agg [sL encNode p0.Nodes, iI p0.Rings, iI p0.Room], sL (encL encItem) p1] (.tup [.agg [.ref 0, .ref 1, .ref 2, .ref 3, .ref 4], iI r.2]) [aR 3 1 encI r.1.At, aR 29 1 (encL encItem) r.1.Rings, aR 66 3 encMemory r.1.Memory, aR 94 2 encChoice r.1.Choices, aR 46 3 encItem r.1.Out] := by
  unfold move_Start at h
  refine fn_of_T (N := 0) rfl Try.func50 rfl (by kernel_rfl) Try.ntmps50 rfl ?_
  show T _ _ _ _ (mkA 17 [(0, .agg [sL encNode p0.Nodes, iI p0.Rings, iI p0.Room]), (1, sL (encL encItem) p1)]) []
  refine T.seq (T.region (so (o_box (cs := [sL encNode p0.Nodes, iI p0.Rings, iI p0.Room]) rfl rfl rfl (so (o_alloc Ty.z31 rfl rfl (sa (iI 0) rfl (RS.nil (T.seq (T.seq ?_)))))))))
  obtain ⟨x2, hx2, h⟩ := bind_some h
  refine T.region (so (o_load_ptr rfl rfl (loadRowA Ty.k24 Ty.c24 rfl (cs := [sL encNode p0.Nodes, iI p0.Rings, iI p0.Room]) rfl (sm (sL (encL encItem) p1) rfl (so (o_call (as0 := [.agg [sL encNode p0.Nodes, iI p0.Rings, iI p0.Room], sL (encL encItem) p1]) (as1 := [.agg [sL encNode p0.Nodes, iI p0.Rings, iI p0.Room], sL (encL encItem) p1]) (caps := []) (aw1 := [.box [sL encNode p0.Nodes, iI p0.Rings, iI p0.Room], .box [.nils, .nils, .nils, .nils, .nils]]) rfl rfl rfl (k_flat (v := iI x2) (net_Sources_c p0 p1 x2 hx2) (⟨pure_agg _ (pures_mem (⟨pure_map encNode_p _, pure_int _ _, pure_int _ _, trivial⟩)), pure_map (encL_p encItem_p) _, trivial⟩) rfl (sa (iI x2) rfl (RS.nil (T.seq (T.region (sm (iI x2) rfl (sq (v_neq rfl rfl ?_))))))))))))))
  refine RS.nil (T.cond (b := x2 != 0) rfl (fun hb_1 => ?_) (fun hb_1 => ?_))
  ·replace h := ite_T h hb_1
   refine T.seq (T.region (sq (v_build (cs := [.nils, .nils, .nils, .nils, .nils]) Ty.z31 Ty.p31 rfl (sm (iI x2) rfl (so (o_store_ptr Ty.c31 Ty.i31 rfl (vs := [.nils, .nils, .nils, .nils, .nils]) rfl rfl rfl rfl (cs' := [.nils, .nils, .nils, .nils, .nils]) rfl rfl (sa (iI x2) rfl (RS.nil (T.nilB 1 0 3 1 (cs := [.nils, .nils, .nils, .nils, .nils]) rfl rfl (cs' := [.ref 2, .nils, .nils, .nils, .nils]) rfl rfl (T.nilB 1 1 29 1 (cs := [.ref 2, .nils, .nils, .nils, .nils]) rfl rfl (cs' := [.ref 2, .ref 3, .nils, .nils, .nils]) rfl rfl (T.nilB 1 2 66 3 (cs := [.ref 2, .ref 3, .nils, .nils, .nils]) rfl rfl (cs' := [.ref 2, .ref 3, .ref 4, .nils, .nils]) rfl rfl ?_)))))))))))
   refine T.nilB 1 3 94 2 (cs := [.ref 2, .ref 3, .ref 4, .nils, .nils]) rfl rfl (cs' := [.ref 2, .ref 3, .ref 4, .ref 5, .nils]) rfl rfl (T.nilB 1 4 46 3 (cs := [.ref 2, .ref 3, .ref 4, .ref 5, .nils]) rfl rfl (cs' := [.ref 2, .ref 3, .ref 4, .ref 5, .ref 6]) rfl rfl (T.rt (res_cellA (id := 1) (off := 0) (cs := [.ref 2, .ref 3, .ref 4, .ref 5, .ref 6]) (v := .agg [.ref 2, .ref 3, .ref 4, .ref 5, .ref 6]) ?_ ?_ ?_ ?_)))
   · rfl
   · rfl
   · exact fun K h => (loadRowA (row := [.ref 2, .ref 3, .ref 4, .ref 5, .ref 6]) (off := 0) Ty.k31 Ty.c31 rfl (cs := [.ref 2, .ref 3, .ref 4, .ref 5, .ref 6]) rfl h)
   refine res_tmpA (v := iI x2) rfl (res_done ?_)
   exact ret_own (.tup [.agg [.ref 0, .ref 1, .ref 2, .ref 3, .ref 4], iI r.2]) [] [2, 3, 4, 5, 6] (by decide) (none_kept _) rfl (rn_tup ⟨rn_agg ⟨rn_ref rfl, rn_ref rfl, rn_ref rfl, rn_ref rfl, rn_ref rfl, trivial⟩, rn_int (congrArg (fun r : State × Int => r.2) (Option.some.inj h)).symm, trivial⟩) (rw_arr rfl encI_p (congrArg (fun r : State × Int => r.1.At) (Option.some.inj h)).symm (rw_arr rfl (encL_p encItem_p) (congrArg (fun r : State × Int => r.1.Rings) (Option.some.inj h)).symm (rw_arr rfl encMemory_p (congrArg (fun r : State × Int => r.1.Memory) (Option.some.inj h)).symm (rw_arr rfl encChoice_p (congrArg (fun r : State × Int => r.1.Choices) (Option.some.inj h)).symm (rw_arr rfl encItem_p (congrArg (fun r : State × Int => r.1.Out) (Option.some.inj h)).symm (rw_nil)))))) ⟨rfl, rfl⟩
  replace h := ite_F h hb_1
  refine T.skip (T.seq ?_)
  obtain ⟨x4, hx4, h⟩ := bind_some h
  refine T.region (so (o_load_ptr rfl rfl (loadRowA Ty.k24 Ty.c24 rfl (cs := [sL encNode p0.Nodes, iI p0.Rings, iI p0.Room]) rfl (sm (sL (encL encItem) p1) rfl (so (o_callF (ac := [.agg [sL encNode p0.Nodes, iI p0.Rings, iI p0.Room], sL (encL encItem) p1]) (as0 := [.agg [sL encNode p0.Nodes, iI p0.Rings, iI p0.Room], sL (encL encItem) p1]) (aw0 := []) (aw1 := [aR 3 1 encI x4.At, aR 29 1 (encL encItem) x4.Rings, aR 66 3 encMemory x4.Memory, aR 94 2 encChoice x4.Choices, aR 46 3 encItem x4.Out]) (aw2 := [.box [sL encNode p0.Nodes, iI p0.Rings, iI p0.Room], .box [.nils, .nils, .nils, .nils, .nils], aR 3 1 encI x4.At, aR 29 1 (encL encItem) x4.Rings, aR 66 3 encMemory x4.Memory, aR 94 2 encChoice x4.Choices, aR 46 3 encItem x4.Out]) (v := .agg [.ref 0, .ref 1, .ref 2, .ref 3, .ref 4]) (v' := .agg [.ref 2, .ref 3, .ref 4, .ref 5, .ref 6]) (n0 := 2) (n1 := 5) [] rfl rfl rfl rfl (by decide) (rw_nil) ⟨rn_agg ⟨rn_s rfl, rn_int rfl, rn_int rfl, trivial⟩, rn_s rfl, trivial⟩ (FnX.of_fnO (move_start_c p0 p1 x4 hx4)) rfl (rm_agg (cs := [.ref 2, .ref 3, .ref 4, .ref 5, .ref 6]) (ds := [.ref 0, .ref 1, .ref 2, .ref 3, .ref 4]) ⟨rm_ref (by decide), rm_ref (by decide), rm_ref (by decide), rm_ref (by decide), rm_ref (by decide), trivial⟩) ⟨.inr ⟨rfl, rfl⟩, .inr ⟨rfl, rfl⟩, .inl ⟨0, _, by decide, rfl, rom_arr encI_p⟩, .inl ⟨1, _, by decide, rfl, rom_arr (encL_p encItem_p)⟩, .inl ⟨2, _, by decide, rfl, rom_arr encMemory_p⟩, .inl ⟨3, _, by decide, rfl, rom_arr encChoice_p⟩, .inl ⟨4, _, by decide, rfl, rom_arr encItem_p⟩, trivial⟩ (so (o_store_ptr Ty.c31 Ty.i31 rfl (vs := [.ref 2, .ref 3, .ref 4, .ref 5, .ref 6]) rfl rfl rfl rfl (cs' := [.ref 2, .ref 3, .ref 4, .ref 5, .ref 6]) rfl rfl (sa (iI 0) rfl (RS.nil (T.rt (res_cellA (id := 1) (off := 0) (cs := [.ref 2, .ref 3, .ref 4, .ref 5, .ref 6]) (v := .agg [.ref 2, .ref 3, .ref 4, .ref 5, .ref 6]) ?_ ?_ ?_ ?_))))))))))))
  · rfl
  · rfl
  · exact fun K h => (loadRowA (row := [.ref 2, .ref 3, .ref 4, .ref 5, .ref 6]) (off := 0) Ty.k31 Ty.c31 rfl (cs := [.ref 2, .ref 3, .ref 4, .ref 5, .ref 6]) rfl h)
  refine res_tmpA (v := iI 0) rfl (res_done ?_)
  exact ret_own (.tup [.agg [.ref 0, .ref 1, .ref 2, .ref 3, .ref 4], iI r.2]) [] [2, 3, 4, 5, 6] (by decide) (none_kept _) rfl (rn_tup ⟨rn_agg ⟨rn_ref rfl, rn_ref rfl, rn_ref rfl, rn_ref rfl, rn_ref rfl, trivial⟩, rn_int (congrArg (fun r : State × Int => r.2) (Option.some.inj h)).symm, trivial⟩) (rw_arr rfl encI_p (congrArg (fun r : State × Int => r.1.At) (Option.some.inj h)).symm (rw_arr rfl (encL_p encItem_p) (congrArg (fun r : State × Int => r.1.Rings) (Option.some.inj h)).symm (rw_arr rfl encMemory_p (congrArg (fun r : State × Int => r.1.Memory) (Option.some.inj h)).symm (rw_arr rfl encChoice_p (congrArg (fun r : State × Int => r.1.Choices) (Option.some.inj h)).symm (rw_arr rfl encItem_p (congrArg (fun r : State × Int => r.1.Out) (Option.some.inj h)).symm (rw_nil)))))) ⟨rfl, rfl⟩
theorem move_head_c (p0 : Net) (p1 : List (List Item)) (p2 : State) (p3 : Move) (r : Item × Bool) (h : move_head p0 p1 p2 p3 = some r) : Fn Try.prog 82 [.agg [sL encNode p0.Nodes, iI p0.Rings, iI p0.Room], sL (encL encItem) p1, .agg [sL encI p2.At, sL (encL encItem) p2.Rings, sL encMemory p2.Memory, sL encChoice p2.Choices, sL encItem p2.Out], .agg [iI p3.Node, iI p3.Lane]] (.tup [.agg [iI r.1.Key, iI r.1.Val, iI r.1.Dep], .bool r.2]) := by
  unfold move_head at h
  refine fn_of_T (N := 0) rfl Try.func82 rfl (by kernel_rfl) Try.ntmps82 rfl ?_
  show T _ _ _ _ (mkA 65 [(0, .agg [sL encNode p0.Nodes, iI p0.Rings, iI p0.Room]), (1, sL (encL encItem) p1), (2, .agg [sL encI p2.At, sL (encL encItem) p2.Rings, sL encMemory p2.Memory, sL encChoice p2.Choices, sL encItem p2.Out]), (3, .agg [iI p3.Node, iI p3.Lane])]) []
  refine T.seq (T.region (so (o_box (cs := [sL encNode p0.Nodes, iI p0.Rings, iI p0.Room]) rfl rfl rfl (so (o_box (cs := [sL encI p2.At, sL (encL encItem) p2.Rings, sL encMemory p2.Memory, sL encChoice p2.Choices, sL encItem p2.Out]) rfl rfl rfl (so (o_box (cs := [iI p3.Node, iI p3.Lane]) rfl rfl rfl (so (o_alloc Ty.z46 rfl rfl (sa (.bool false) rfl (RS.nil (T.seq ?_))))))))))))
  obtain ⟨x2, hx2, h⟩ := bind_some h
  refine T.region (sq (v_fieldAddr_ptr Ty.f24_0 rfl (off' := 0) rfl (so (o_load_ptr rfl rfl (loadRow1 Ty.k22 (c := sL encNode p0.Nodes) rfl (sq (v_fieldAddr_ptr Ty.f57_0 rfl (off' := 0) rfl (so (o_load_ptr rfl rfl (loadRow1 Ty.k3 (c := iI p3.Node) rfl (sq (v_index_sl Ty.s22 (fun _ => rfl) rfl rfl hx2 (so (o_load_elt rfl (loadRowA Ty.k40 Ty.c40 rfl (cs := [iI x2.Kind, iI x2.A, sL encI x2.In, sL encI x2.Out]) rfl (so (o_alloc Ty.z40 rfl rfl (so (o_store_ptr Ty.c40 Ty.i40 rfl (vs := [iI x2.Kind, iI x2.A, sL encI x2.In, sL encI x2.Out]) rfl rfl rfl rfl (cs' := [iI x2.Kind, iI x2.A, sL encI x2.In, sL encI x2.Out]) rfl rfl (RS.nil ?_))))))))))))))))))))
  refine T.seq (T.seq (T.region (sq (v_fieldAddr_ptr Ty.f40_0 rfl (off' := 0) rfl (so (o_load_ptr rfl rfl (loadRow1 Ty.k3 (c := iI x2.Kind) rfl (sq (v_eql rfl rfl (RS.nil (T.cond (b := x2.Kind == 1) rfl (fun hb_1 => ?_) (fun hb_1 => ?_))))))))))))
  ·replace h := ite_T h hb_1
   refine T.seq (T.seq ?_)
   obtain ⟨x5, hx5, h⟩ := bind_some h
   obtain ⟨x6, hx6, h⟩ := bind_some h
   refine T.drawn mixed (k := 13) rfl (rt0 0 rfl (v_fieldAddr_ptr Ty.f31_0 rfl (off' := 0) rfl (rt0 2 rfl (v_fieldAddr_ptr Ty.f40_1 rfl (off' := 1) rfl (rt0 6 rfl (v_move (v := sL (encL encItem) p1) rfl (rt0 7 rfl (v_fieldAddr_ptr Ty.f40_1 rfl (off' := 1) rfl (rl0 [8, 9, 10, 11, 12] 8 rfl (v_load_ptr rfl rfl (loadRow1 Ty.k3 (c := iI x2.A) rfl (rt0 9 rfl (v_index_sl Ty.s25 (fun _ => rfl) rfl rfl hx6 (rl0 [10, 11, 12] 10 rfl (v_load_elt rfl (loadRow1 Ty.k29 (c := sL encItem x6) rfl (rt0 11 rfl (v_len_sl Ty.s29 rfl (rl0 [1, 4, 5, 12] 1 rfl (v_load_ptr rfl rfl (loadRow1 Ty.k26 (c := sL encI p2.At) rfl ?_)))))))))))))))))))))
   refine ra1 3 (RO.op rfl rfl (o_load_ptr rfl rfl (loadRow1 Ty.k3 (c := iI x2.A) rfl (rt0 4 rfl (v_index_sl Ty.s26 (fun _ => rfl) rfl rfl hx5 (ra1 5 (RO.op rfl rfl (o_load_elt rfl (loadRow1 Ty.k3 (c := iI x5) rfl (rt0 12 rfl (v_eql rfl rfl (RA.done (by decide +kernel) (T.cond (b := x5 == ((x6).length : Int)) rfl (fun hb_2 => ?_) (fun hb_2 => ?_))))))))))))))
   ·replace h := ite_T h hb_2
    refine T.seq (T.region (sq (v_build (cs := [iI 0, iI 0, iI 0]) Ty.z46 Ty.p46 rfl (so (o_store_ptr Ty.c46 Ty.i46 rfl (vs := [iI 0, iI 0, iI 0]) rfl rfl rfl rfl (cs' := [iI 0, iI 0, iI 0]) rfl rfl (sa (.bool false) rfl (RS.nil (T.rt (res_cellA (id := 3) (off := 0) (cs := [iI 0, iI 0, iI 0]) (v := .agg [iI 0, iI 0, iI 0]) ?_ ?_ ?_ ?_)))))))))
    · rfl
    · rfl
    · exact fun K h => (loadRowA (row := [iI 0, iI 0, iI 0]) (off := 0) Ty.k46 Ty.c46 rfl (cs := [iI 0, iI 0, iI 0]) rfl h)
    refine res_tmpA (v := .bool false) rfl (res_done ?_)
    exact ret_data (v := .tup [.agg [iI 0, iI 0, iI 0], .bool false]) rfl (pure_tup _ (pures_mem (⟨pure_agg _ (pures_mem (⟨pure_int _ _, pure_int _ _, pure_int _ _, trivial⟩)), pure_bool _, trivial⟩))) ⟨congrArg (fun r : Item × Bool => (.tup [.agg [iI r.1.Key, iI r.1.Val, iI r.1.Dep], .bool r.2] : AV)) (Option.some.inj h), rfl⟩
   replace h := ite_F h hb_2
   refine T.skip (T.seq ?_)
   obtain ⟨x10, hx10, h⟩ := bind_some h
   obtain ⟨x11, hx11, h⟩ := bind_some h
   obtain ⟨x12, hx12, h⟩ := bind_some h
   refine T.drawn mixed (k := 15) rfl (rt0 0 rfl (v_move (v := sL (encL encItem) p1) rfl (rt0 1 rfl (v_fieldAddr_ptr Ty.f40_1 rfl (off' := 1) rfl (rt0 5 rfl (v_fieldAddr_ptr Ty.f31_0 rfl (off' := 0) rfl (rt0 7 rfl (v_fieldAddr_ptr Ty.f40_1 rfl (off' := 1) rfl (rl0 [2, 3, 4, 11, 12, 13, 14] 2 rfl (v_load_ptr rfl rfl (loadRow1 Ty.k3 (c := iI x2.A) rfl (rt0 3 rfl (v_index_sl Ty.s25 (fun _ => rfl) rfl rfl hx10 (rl0 [4, 11, 12, 13, 14] 4 rfl (v_load_elt rfl (loadRow1 Ty.k29 (c := sL encItem x10) rfl (rl0 [6, 9, 10, 11, 12, 13, 14] 6 rfl (v_load_ptr rfl rfl (loadRow1 Ty.k26 (c := sL encI p2.At) rfl (ra1 8 ?_))))))))))))))))))))
   refine RO.op rfl rfl (o_load_ptr rfl rfl (loadRow1 Ty.k3 (c := iI x2.A) rfl (rt0 9 rfl (v_index_sl Ty.s26 (fun _ => rfl) rfl rfl hx11 (ra1 10 (RO.op rfl rfl (o_load_elt rfl (loadRow1 Ty.k3 (c := iI x11) rfl (rt0 11 rfl (v_index_sl Ty.s29 (fun _ => rfl) rfl rfl hx12 (ra1 12 (RO.op rfl rfl (o_load_elt rfl (loadRowA Ty.k46 Ty.c46 rfl (cs := [iI x12.Key, iI x12.Val, iI x12.Dep]) rfl (ra1 13 (RO.op rfl rfl (o_store_ptr Ty.c46 Ty.i46 rfl (vs := [iI x12.Key, iI x12.Val, iI x12.Dep]) rfl rfl rfl rfl (cs' := [iI x12.Key, iI x12.Val, iI x12.Dep]) rfl rfl (rt0 14 rfl (v_assign (v := .bool true) rfl ?_)))))))))))))))))))
   refine RA.done (by decide +kernel) (T.rt (res_cellA (id := 3) (off := 0) (cs := [iI x12.Key, iI x12.Val, iI x12.Dep]) (v := .agg [iI x12.Key, iI x12.Val, iI x12.Dep]) ?_ ?_ ?_ ?_))
   · rfl
   · rfl
   · exact fun K h => (loadRowA (row := [iI x12.Key, iI x12.Val, iI x12.Dep]) (off := 0) Ty.k46 Ty.c46 rfl (cs := [iI x12.Key, iI x12.Val, iI x12.Dep]) rfl h)
   refine res_tmpA (v := .bool true) rfl (res_done ?_)
   exact ret_data (v := .tup [.agg [iI x12.Key, iI x12.Val, iI x12.Dep], .bool true]) rfl (pure_tup _ (pures_mem (⟨pure_agg _ (pures_mem (⟨pure_int _ _, pure_int _ _, pure_int _ _, trivial⟩)), pure_bool _, trivial⟩))) ⟨congrArg (fun r : Item × Bool => (.tup [.agg [iI r.1.Key, iI r.1.Val, iI r.1.Dep], .bool r.2] : AV)) (Option.some.inj h), rfl⟩
  replace h := ite_F h hb_1
  refine T.skip (T.seq ?_)
  obtain ⟨x15, hx15, h⟩ := bind_some h
  obtain ⟨x16, hx16, h⟩ := bind_some h
  refine T.drawn mixed (k := 11) rfl (rt0 0 rfl (v_fieldAddr_ptr Ty.f31_1 rfl (off' := 1) rfl (rt0 2 rfl (v_fieldAddr_ptr Ty.f40_2 rfl (off' := 2) rfl (rt0 4 rfl (v_fieldAddr_ptr Ty.f57_1 rfl (off' := 1) rfl (rl0 [1, 8, 9, 10] 1 rfl (v_load_ptr rfl rfl (loadRow1 Ty.k25 (c := sL (encL encItem) p2.Rings) rfl (rl0 [3, 6, 7, 8, 9, 10] 3 rfl (v_load_ptr rfl rfl (loadRow1 Ty.k26 (c := sL encI x2.In) rfl (ra1 5 (RO.op rfl rfl (o_load_ptr rfl rfl (loadRow1 Ty.k3 (c := iI p3.Lane) rfl (rt0 6 rfl (v_index_sl Ty.s26 (fun _ => rfl) rfl rfl hx15 (ra1 7 ?_)))))))))))))))))))
  refine RO.op rfl rfl (o_load_elt rfl (loadRow1 Ty.k3 (c := iI x15) rfl (rt0 8 rfl (v_index_sl Ty.s25 (fun _ => rfl) rfl rfl hx16 (ra1 9 (RO.op rfl rfl (o_load_elt rfl (loadRow1 Ty.k29 (c := sL encItem x16) rfl (rt0 10 rfl (v_assign (v := sL encItem x16) rfl (RA.done (by decide +kernel) (T.seq (T.seq (T.region (sm (sL encItem x16) rfl ?_)))))))))))))))
  refine sq (v_len_sl Ty.s29 rfl (sq (v_eql rfl rfl (RS.nil (T.cond (b := ((x16).length : Int) == 0) rfl (fun hb_3 => ?_) (fun hb_3 => ?_))))))
  ·replace h := ite_T h hb_3
   refine T.seq (T.region (sq (v_build (cs := [iI 0, iI 0, iI 0]) Ty.z46 Ty.p46 rfl (so (o_store_ptr Ty.c46 Ty.i46 rfl (vs := [iI 0, iI 0, iI 0]) rfl rfl rfl rfl (cs' := [iI 0, iI 0, iI 0]) rfl rfl (sa (.bool false) rfl (RS.nil (T.rt (res_cellA (id := 3) (off := 0) (cs := [iI 0, iI 0, iI 0]) (v := .agg [iI 0, iI 0, iI 0]) ?_ ?_ ?_ ?_)))))))))
   · rfl
   · rfl
   · exact fun K h => (loadRowA (row := [iI 0, iI 0, iI 0]) (off := 0) Ty.k46 Ty.c46 rfl (cs := [iI 0, iI 0, iI 0]) rfl h)
   refine res_tmpA (v := .bool false) rfl (res_done ?_)
   exact ret_data (v := .tup [.agg [iI 0, iI 0, iI 0], .bool false]) rfl (pure_tup _ (pures_mem (⟨pure_agg _ (pures_mem (⟨pure_int _ _, pure_int _ _, pure_int _ _, trivial⟩)), pure_bool _, trivial⟩))) ⟨congrArg (fun r : Item × Bool => (.tup [.agg [iI r.1.Key, iI r.1.Val, iI r.1.Dep], .bool r.2] : AV)) (Option.some.inj h), rfl⟩
  replace h := ite_F h hb_3
  refine T.skip (T.seq ?_)
  obtain ⟨x18, hx18, h⟩ := bind_some h
  refine T.region (sm (sL encItem x16) rfl (sq (v_index_sl Ty.s29 (fun _ => rfl) rfl rfl hx18 (so (o_load_elt rfl (loadRowA Ty.k46 Ty.c46 rfl (cs := [iI x18.Key, iI x18.Val, iI x18.Dep]) rfl (so (o_store_ptr Ty.c46 Ty.i46 rfl (vs := [iI x18.Key, iI x18.Val, iI x18.Dep]) rfl rfl rfl rfl (cs' := [iI x18.Key, iI x18.Val, iI x18.Dep]) rfl rfl (sa (.bool true) rfl (RS.nil (T.rt (res_cellA (id := 3) (off := 0) (cs := [iI x18.Key, iI x18.Val, iI x18.Dep]) (v := .agg [iI x18.Key, iI x18.Val, iI x18.Dep]) ?_ ?_ ?_ ?_))))))))))))
  · rfl
  · rfl
  · exact fun K h => (loadRowA (row := [iI x18.Key, iI x18.Val, iI x18.Dep]) (off := 0) Ty.k46 Ty.c46 rfl (cs := [iI x18.Key, iI x18.Val, iI x18.Dep]) rfl h)
  refine res_tmpA (v := .bool true) rfl (res_done ?_)
  exact ret_data (v := .tup [.agg [iI x18.Key, iI x18.Val, iI x18.Dep], .bool true]) rfl (pure_tup _ (pures_mem (⟨pure_agg _ (pures_mem (⟨pure_int _ _, pure_int _ _, pure_int _ _, trivial⟩)), pure_bool _, trivial⟩))) ⟨congrArg (fun r : Item × Bool => (.tup [.agg [iI r.1.Key, iI r.1.Val, iI r.1.Dep], .bool r.2] : AV)) (Option.some.inj h), rfl⟩
theorem stage_Lane_c (p0 : Item) (p1 : Int) (r : Int × Int) (h : stage_Lane p0 p1 = some r) : Fn Try.prog 116 [.agg [iI p0.Key, iI p0.Val, iI p0.Dep], iI p1] (.tup [iI r.1, iI r.2]) := by
  unfold stage_Lane at h
  refine fn_of_T (N := 0) rfl Try.func116 rfl (by kernel_rfl) Try.ntmps116 rfl ?_
  show T _ _ _ _ (mkA 20 [(0, .agg [iI p0.Key, iI p0.Val, iI p0.Dep]), (1, iI p1)]) []
  refine T.seq (T.region (so (o_box (cs := [iI p0.Key, iI p0.Val, iI p0.Dep]) rfl rfl rfl (sa (iI 0) rfl (sa (iI 0) rfl (RS.nil (T.seq (T.join (Z := Unit) (fun _ => mkA 20 [(1, iI p1), (2, .ptr 0 0), (11, .bool ((decide (p1 < 1)) || decide (p1 > 16)))]) (fun _ => [.box [iI p0.Key, iI p0.Val, iI p0.Dep]]) (fun _ => True) (fun _ _ => ?_) (fun hK => ?_)))))))))
  ·refine T.cond (b := ((decide (p1 < 1)) || decide (p1 > 16))) rfl (fun hb_2 => ?_) (fun hb_2 => ?_)
   ·replace h := ite_T h hb_2
    refine T.seq (T.region (sa (iI 0) rfl (sa (iI 3) rfl (RS.nil (T.rt (res_tmpA (v := iI 0) rfl (res_tmpA (v := iI 3) rfl (res_done ?_))))))))
    exact ret_data (v := .tup [iI 0, iI 3]) rfl (pure_tup _ (pures_mem (⟨pure_int _ _, pure_int _ _, trivial⟩))) ⟨congrArg (fun r : Int × Int => (.tup [iI r.1, iI r.2] : AV)) (Option.some.inj h), rfl⟩
   replace h := ite_F h hb_2
   refine T.skip (T.seq ?_)
   obtain ⟨x4, hx4, h⟩ := bind_some h
   obtain ⟨x5, hx5, h⟩ := bind_some h
   refine T.region (sq (v_fieldAddr_ptr Ty.f46_0 rfl (off' := 0) rfl (so (o_load_ptr rfl rfl (loadRow1 Ty.k3 (c := iI p0.Key) rfl (sm (iI p1) rfl (sq (v_rem rfl rfl hx4 (sm (iI p1) rfl (sq (v_add rfl rfl (sm (iI p1) rfl (sq (v_rem rfl rfl hx5 (sa (iI x5) rfl ?_)))))))))))))))
   refine sa (iI 0) rfl (RS.nil (T.rt (res_tmpA (v := iI x5) rfl (res_tmpA (v := iI 0) rfl (res_done ?_)))))
   exact ret_data (v := .tup [iI x5, iI 0]) rfl (pure_tup _ (pures_mem (⟨pure_int _ _, pure_int _ _, trivial⟩))) ⟨congrArg (fun r : Int × Int => (.tup [iI r.1, iI r.2] : AV)) (Option.some.inj h), rfl⟩
  refine T.region (sm (iI p1) rfl (sq (v_lss rfl rfl (sm (.bool (decide (p1 < 1))) rfl ?_))))
  rcases bool_cases (decide (p1 < 1)) with hb_1 | hb_1
  ·refine sn hb_1 (sn hb_1 (sq (v_pickT (v := .bool true) rfl hb_1 rfl (RS.nil ?_))))
   exact T.sub (hK () trivial) ⟨rfl, rfl, (congrArg AV.bool (by simp only [hb_1, bz, if_true, if_false, Bool.false_eq_true])).symm, trivial⟩
  refine yq hb_1 (v_move (v := iI p1) rfl (yq hb_1 (v_gtr rfl rfl (sq (v_pickF (v := .bool (decide (p1 > 16))) rfl hb_1 rfl (RS.nil ?_))))))
  exact T.sub (hK () trivial) ⟨rfl, rfl, (congrArg AV.bool (by simp only [hb_1, bz, if_true, if_false, Bool.false_eq_true])).symm, trivial⟩
theorem move_outs_c (p0 : Node) (p1 : Item) (r : List Int) (h : move_outs p0 p1 = some r) : Fn Try.prog 84 [.agg [iI p0.Kind, iI p0.A, sL encI p0.In, sL encI p0.Out], .agg [iI p1.Key, iI p1.Val, iI p1.Dep]] (sL encI r) := by
  unfold move_outs at h
  refine fn_of_T (N := 0) rfl Try.func84 rfl (by kernel_rfl) Try.ntmps84 rfl ?_
  show T _ _ _ _ (mkA 26 [(0, .agg [iI p0.Kind, iI p0.A, sL encI p0.In, sL encI p0.Out]), (1, .agg [iI p1.Key, iI p1.Val, iI p1.Dep])]) []
  refine T.seq (T.region (so (o_box (cs := [iI p0.Kind, iI p0.A, sL encI p0.In, sL encI p0.Out]) rfl rfl rfl (so (o_box (cs := [iI p1.Key, iI p1.Val, iI p1.Dep]) rfl rfl rfl (sa .nils rfl (RS.nil (T.seq (T.seq (T.region (sq (v_fieldAddr_ptr Ty.f40_0 rfl (off' := 0) rfl ?_))))))))))))
  refine so (o_load_ptr rfl rfl (loadRow1 Ty.k3 (c := iI p0.Kind) rfl (sq (v_neq rfl rfl (RS.nil (T.cond (b := p0.Kind != 7) rfl (fun hb_1 => ?_) (fun hb_1 => ?_)))))))
  ·replace h := ite_T h hb_1
   refine T.seq (T.region (sq (v_fieldAddr_ptr Ty.f40_3 rfl (off' := 3) rfl (so (o_load_ptr rfl rfl (loadRow1 Ty.k26 (c := sL encI p0.Out) rfl (sa (sL encI p0.Out) rfl (RS.nil (T.rt (res_tmpA (v := sL encI p0.Out) rfl (res_done ?_)))))))))))
   exact ret_data (v := sL encI p0.Out) rfl (pure_map encI_p _) ⟨congrArg (fun r : List Int => (sL encI r : AV)) (Option.some.inj h), rfl⟩
  replace h := ite_F h hb_1
  refine T.skip (T.seq ?_)
  obtain ⟨x2, hx2, h⟩ := bind_some h
  refine T.region (so (o_load_ptr rfl rfl (loadRowA Ty.k46 Ty.c46 rfl (cs := [iI p1.Key, iI p1.Val, iI p1.Dep]) rfl (sq (v_fieldAddr_ptr Ty.f40_3 rfl (off' := 3) rfl (so (o_load_ptr rfl rfl (loadRow1 Ty.k26 (c := sL encI p0.Out) rfl (sq (v_len_sl Ty.s26 rfl (so (o_call (as0 := [.agg [iI p1.Key, iI p1.Val, iI p1.Dep], iI ((p0.Out).length : Int)]) (as1 := [.agg [iI p1.Key, iI p1.Val, iI p1.Dep], iI ((p0.Out).length : Int)]) (caps := []) (aw1 := [.box [iI p0.Kind, iI p0.A, sL encI p0.In, sL encI p0.Out], .box [iI p1.Key, iI p1.Val, iI p1.Dep]]) rfl rfl rfl (k_flat (v := .tup [iI x2.1, iI x2.2]) (stage_Lane_c p1 ((p0.Out).length : Int) x2 hx2) (⟨pure_agg _ (pures_mem (⟨pure_int _ _, pure_int _ _, pure_int _ _, trivial⟩)), pure_int _ _, trivial⟩) rfl (sm (.tup [iI x2.1, iI x2.2]) rfl (sq (v_extract (v := iI x2.1) rfl rfl (sq (v_extract (v := iI x2.2) rfl rfl (sa (iI x2.1) rfl ?_)))))))))))))))))))
  refine sa (iI x2.2) rfl (RS.nil (T.seq ?_))
  obtain ⟨x4, hx4, h⟩ := bind_some h
  refine T.region (sq (v_fieldAddr_ptr Ty.f40_3 rfl (off' := 3) rfl (so (o_load_ptr rfl rfl (loadRow1 Ty.k26 (c := sL encI p0.Out) rfl (sm (iI x2.1) rfl (sm (iI x2.1) rfl (sq (v_add rfl rfl (so (o_slice_sl Ty.s26 (fun _ => rfl) rfl rfl rfl hx4 (sa (sL encI x4) rfl (RS.nil (T.rt ?_))))))))))))))
  refine res_tmpA (v := sL encI x4) rfl (res_done ?_)
  exact ret_data (v := sL encI x4) rfl (pure_map encI_p _) ⟨congrArg (fun r : List Int => (sL encI r : AV)) (Option.some.inj h), rfl⟩
theorem move_can_1_xbf12_c (p0 : Int) (p1 : List Int) (p2 : List (List Item)) (p3 : List Memory) (p4 : List Choice) (p5 : List Item) (p6 : List Node) (p7 : Int) (p8 : Int) (r : Bool) (h : move_can_1_xbf12 p0 p1 p2 p3 p4 p5 p6 p7 p8 = some r) : FnX Try.prog 96 [iI p0, .ptr 0 0, .ptr 1 0] [.box [sL encI p1, sL (encL encItem) p2, sL encMemory p3, sL encChoice p4, sL encItem p5], .box [sL encNode p6, iI p7, iI p8]] (.bool r) [.box [sL encI p1, sL (encL encItem) p2, sL encMemory p3, sL encChoice p4, sL encItem p5], .box [sL encNode p6, iI p7, iI p8]] := by
  unfold move_can_1_xbf12 at h
  refine fn_of_T (N := 2) rfl Try.func96 rfl (by kernel_rfl) Try.ntmps96 rfl ?_
  show T _ _ _ _ (mkA 14 [(0, iI p0), (1, .ptr 0 0), (2, .ptr 1 0)]) [.box [sL encI p1, sL (encL encItem) p2, sL encMemory p3, sL encChoice p4, sL encItem p5], .box [sL encNode p6, iI p7, iI p8]]
  refine T.seq (T.region (sa (.bool false) rfl (RS.nil (T.seq ?_))))
  obtain ⟨x2, hx2, h⟩ := bind_some h
  refine T.drawn mixed (k := 10) rfl (rt0 0 rfl (v_fieldAddr_ptr Ty.f31_1 rfl (off' := 1) rfl (rt0 2 rfl (v_move (v := iI p0) rfl (rt0 6 rfl (v_fieldAddr_ptr Ty.f24_2 rfl (off' := 2) rfl (rl0 [1, 3, 4, 5, 8, 9] 1 rfl (v_load_ptr rfl rfl (loadRow1 Ty.k25 (c := sL (encL encItem) p2) rfl (rt0 3 rfl (v_index_sl Ty.s25 (fun _ => rfl) rfl rfl hx2 (rl0 [4, 5, 8, 9] 4 rfl (v_load_elt rfl (loadRow1 Ty.k29 (c := sL encItem x2) rfl (rt0 5 rfl (v_len_sl Ty.s29 rfl (ra1 7 (RO.op rfl rfl (o_load_ptr rfl rfl (loadRow1 Ty.k3 (c := iI p8) rfl ?_))))))))))))))))))))
  refine rt0 8 rfl (v_geq rfl rfl (rt0 9 rfl (v_assign (v := .bool (decide (((x2).length : Int) ≥ p8))) rfl (RA.done (by decide +kernel) (T.rt (res_tmpA (v := .bool (decide (((x2).length : Int) ≥ p8))) rfl (res_done ?_)))))))
  exact ret_norm (v := .bool (decide (((x2).length : Int) ≥ p8))) (aw1 := [.box [sL encI p1, sL (encL encItem) p2, sL encMemory p3, sL encChoice p4, sL encItem p5], .box [sL encNode p6, iI p7, iI p8]]) (.bool r) [0, 1] rfl (by decide) (by decide) (rn_bool (congrArg (fun r : Bool => r) (Option.some.inj h)).symm) (rw_box (cs := [sL encI p1, sL (encL encItem) p2, sL encMemory p3, sL encChoice p4, sL encItem p5]) (ds := [sL encI p1, sL (encL encItem) p2, sL encMemory p3, sL encChoice p4, sL encItem p5]) rfl ⟨rn_s rfl, rn_s rfl, rn_s rfl, rn_s rfl, rn_s rfl, trivial⟩ (rw_box (cs := [sL encNode p6, iI p7, iI p8]) (ds := [sL encNode p6, iI p7, iI p8]) rfl ⟨rn_s rfl, rn_int rfl, rn_int rfl, trivial⟩ (rw_nil))) ⟨rfl, rfl⟩
theorem slices_IndexFunc_int_x9c8e_c (p0 : List Int) (p1 : List Int) (p2 : List (List Item)) (p3 : List Memory) (p4 : List Choice) (p5 : List Item) (p6 : List Node) (p7 : Int) (p8 : Int) (r : Int) (h : slices_IndexFunc_int_x9c8e p0 p1 p2 p3 p4 p5 p6 p7 p8 = some r) : FnX Try.prog 122 [sL encI p0, .func 96 [.ptr 0 0, .ptr 1 0]] [.box [sL encI p1, sL (encL encItem) p2, sL encMemory p3, sL encChoice p4, sL encItem p5], .box [sL encNode p6, iI p7, iI p8]] (iI r) [.box [sL encI p1, sL (encL encItem) p2, sL encMemory p3, sL encChoice p4, sL encItem p5], .box [sL encNode p6, iI p7, iI p8]] := by
  unfold slices_IndexFunc_int_x9c8e at h
  refine fn_of_T (N := 2) rfl Try.func122 rfl (by kernel_rfl) Try.ntmps122 rfl ?_
  show T _ _ _ _ (mkA 19 [(0, sL encI p0), (1, .func 96 [.ptr 0 0, .ptr 1 0])]) [.box [sL encI p1, sL (encL encItem) p2, sL encMemory p3, sL encChoice p4, sL encItem p5], .box [sL encNode p6, iI p7, iI p8]]
  refine T.seq (T.region (sa (iI 0) rfl (RS.nil (T.seq (T.seq (T.region (sm (sL encI p0) rfl (sq (v_len_sl Ty.s26 rfl (sm (iI 0) rfl ?_))))))))))
  refine RS.nil (T.block (T.iter (fun ss_5 : Int => mkA 19 [(0, sL encI p0), (1, .func 96 [.ptr 0 0, .ptr 1 0]), (7, iI ((p0).length : Int)), (8, iI ss_5)]) (fun ss_5 => [.box [sL encI p1, sL (encL encItem) p2, sL encMemory p3, sL encChoice p4, sL encItem p5], .box [sL encNode p6, iI p7, iI p8]]) h (Weak.mkN [] [0, 1] (by decide) (by decide) rfl ⟨rn_s rfl, rn_func ⟨rn_ptr rfl, rn_ptr rfl, trivial⟩, rn_int rfl, rn_int rfl, trivial⟩ (rw_bs [sL encI p1, sL (encL encItem) p2, sL encMemory p3, sL encChoice p4, sL encItem p5] rfl (rw_bs [sL encNode p6, iI p7, iI p8] rfl (rw_nil)))) (fun ss_5 v_6 h hv_6 => ?_)))
  revert hv_6 h; revert ss_5; intro s1 h hv_6
  replace h : slices_IndexFunc_int_x9c8e_l1 p0 p1 p2 p3 p4 p5 p6 p7 p8 s1 = some v_6 := h
  try dsimp only
  unfold slices_IndexFunc_int_x9c8e_l1 at h
  refine T.seq (T.region (sq (v_lss rfl rfl (RS.nil (T.seq (T.cond (b := decide (s1 < ((p0).length : Int))) rfl (fun hb_7 => ?_) (fun hb_7 => ?_)))))))
  ·replace h := ite_T h hb_7
   refine T.skip (T.seq (T.block (T.seq (T.region (sm (iI s1) rfl (sa (iI s1) rfl (RS.nil (T.seq ?_))))))))
   obtain ⟨x4, hx4, h⟩ := bind_some h
   obtain ⟨x5, hx5, h⟩ := bind_some h
   refine T.region (sm (.func 96 [.ptr 0 0, .ptr 1 0]) rfl (sm (sL encI p0) rfl (sm (iI s1) rfl (sq (v_index_sl Ty.s26 (fun _ => rfl) rfl rfl hx4 (so (o_load_elt rfl (loadRow1 Ty.k3 (c := iI x4) rfl (so (o_callF (ac := [iI x4, .ptr 0 0, .ptr 1 0]) (as0 := [iI x4, .ptr 0 0, .ptr 1 0]) (aw0 := [.box [sL encI p1, sL (encL encItem) p2, sL encMemory p3, sL encChoice p4, sL encItem p5], .box [sL encNode p6, iI p7, iI p8]]) (aw1 := [.box [sL encI p1, sL (encL encItem) p2, sL encMemory p3, sL encChoice p4, sL encItem p5], .box [sL encNode p6, iI p7, iI p8]]) (aw2 := [.box [sL encI p1, sL (encL encItem) p2, sL encMemory p3, sL encChoice p4, sL encItem p5], .box [sL encNode p6, iI p7, iI p8]]) (v := .bool x5) (v' := .bool x5) (n0 := 2) (n1 := 2) [0, 1] rfl rfl rfl rfl (by decide) (rw_box (cs := [sL encI p1, sL (encL encItem) p2, sL encMemory p3, sL encChoice p4, sL encItem p5]) (ds := [sL encI p1, sL (encL encItem) p2, sL encMemory p3, sL encChoice p4, sL encItem p5]) rfl ⟨rn_s rfl, rn_s rfl, rn_s rfl, rn_s rfl, rn_s rfl, trivial⟩ (rw_box (cs := [sL encNode p6, iI p7, iI p8]) (ds := [sL encNode p6, iI p7, iI p8]) rfl ⟨rn_s rfl, rn_int rfl, rn_int rfl, trivial⟩ (rw_nil))) ⟨rn_int rfl, rn_ptr rfl, rn_ptr rfl, trivial⟩ (move_can_1_xbf12_c x4 p1 p2 p3 p4 p5 p6 p7 p8 x5 hx5) rfl (rm_pure (pure_bool _)) ⟨.inl ⟨0, _, by decide, rfl, rom_box (cs := [sL encI p1, sL (encL encItem) p2, sL encMemory p3, sL encChoice p4, sL encItem p5]) (ds := [sL encI p1, sL (encL encItem) p2, sL encMemory p3, sL encChoice p4, sL encItem p5]) ⟨rm_pure (pure_map encI_p _), rm_pure (pure_map (encL_p encItem_p) _), rm_pure (pure_map encMemory_p _), rm_pure (pure_map encChoice_p _), rm_pure (pure_map encItem_p _), trivial⟩⟩, .inl ⟨1, _, by decide, rfl, rom_box (cs := [sL encNode p6, iI p7, iI p8]) (ds := [sL encNode p6, iI p7, iI p8]) ⟨rm_pure (pure_map encNode_p _), rm_pure (pure_int _ _), rm_pure (pure_int _ _), trivial⟩⟩, trivial⟩ (RS.nil (T.cond (b := x5) rfl (fun hb_8 => ?_) (fun hb_8 => ?_)))))))))))))
   ·replace h := ite_T h hb_8
    refine T.seq (T.region (sm (iI s1) rfl (sa (iI s1) rfl (RS.nil (T.rt ?_)))))
    obtain ⟨w_9, h, hw_9⟩ := map_inr h
    replace h := h.trans (congrArg some (hv_6 _ hw_9))
    refine res_tmpA (v := iI s1) rfl (res_done ?_)
    exact ret_norm (v := iI s1) (aw1 := [.box [sL encI p1, sL (encL encItem) p2, sL encMemory p3, sL encChoice p4, sL encItem p5], .box [sL encNode p6, iI p7, iI p8]]) (iI r) [0, 1] rfl (by decide) (by decide) (rn_int (congrArg (fun r : Int => r) (Option.some.inj h)).symm) (rw_box (cs := [sL encI p1, sL (encL encItem) p2, sL encMemory p3, sL encChoice p4, sL encItem p5]) (ds := [sL encI p1, sL (encL encItem) p2, sL encMemory p3, sL encChoice p4, sL encItem p5]) rfl ⟨rn_s rfl, rn_s rfl, rn_s rfl, rn_s rfl, rn_s rfl, trivial⟩ (rw_box (cs := [sL encNode p6, iI p7, iI p8]) (ds := [sL encNode p6, iI p7, iI p8]) rfl ⟨rn_s rfl, rn_int rfl, rn_int rfl, trivial⟩ (rw_nil))) ⟨rfl, rfl⟩
   replace h := ite_F h hb_8
   refine T.skip (T.region (sq (v_add rfl rfl (sm (iI (IntKind.i64.wrap (s1 + 1))) rfl (RS.nil ?_)))))
   exact ⟨IntKind.i64.wrap (s1 + 1), (Option.some.inj h).symm, Weak.mkN [] [0, 1] (by decide) (by decide) rfl ⟨rn_s rfl, rn_func ⟨rn_ptr rfl, rn_ptr rfl, trivial⟩, rn_int rfl, rn_int rfl, trivial⟩ (rw_bs [sL encI p1, sL (encL encItem) p2, sL encMemory p3, sL encChoice p4, sL encItem p5] rfl (rw_bs [sL encNode p6, iI p7, iI p8] rfl (rw_nil)))⟩
  replace h := ite_F h hb_7
  refine T.exit ?_
  obtain ⟨w_10, h, hw_10⟩ := map_inr h
  replace h := h.trans (congrArg some (hv_6 _ hw_10))
  refine T.seq (T.region (sa (iI (-1)) rfl (RS.nil (T.rt (res_tmpA (v := iI (-1)) rfl (res_done ?_))))))
  exact ret_norm (v := iI (-1)) (aw1 := [.box [sL encI p1, sL (encL encItem) p2, sL encMemory p3, sL encChoice p4, sL encItem p5], .box [sL encNode p6, iI p7, iI p8]]) (iI r) [0, 1] rfl (by decide) (by decide) (rn_int (congrArg (fun r : Int => r) (Option.some.inj h)).symm) (rw_box (cs := [sL encI p1, sL (encL encItem) p2, sL encMemory p3, sL encChoice p4, sL encItem p5]) (ds := [sL encI p1, sL (encL encItem) p2, sL encMemory p3, sL encChoice p4, sL encItem p5]) rfl ⟨rn_s rfl, rn_s rfl, rn_s rfl, rn_s rfl, rn_s rfl, trivial⟩ (rw_box (cs := [sL encNode p6, iI p7, iI p8]) (ds := [sL encNode p6, iI p7, iI p8]) rfl ⟨rn_s rfl, rn_int rfl, rn_int rfl, trivial⟩ (rw_nil))) ⟨rfl, rfl⟩
theorem slices_ContainsFunc_int_x9c8e_c (p0 : List Int) (p1 : List Int) (p2 : List (List Item)) (p3 : List Memory) (p4 : List Choice) (p5 : List Item) (p6 : List Node) (p7 : Int) (p8 : Int) (r : Bool) (h : slices_ContainsFunc_int_x9c8e p0 p1 p2 p3 p4 p5 p6 p7 p8 = some r) : FnX Try.prog 95 [sL encI p0, .func 96 [.ptr 0 0, .ptr 1 0]] [.box [sL encI p1, sL (encL encItem) p2, sL encMemory p3, sL encChoice p4, sL encItem p5], .box [sL encNode p6, iI p7, iI p8]] (.bool r) [.box [sL encI p1, sL (encL encItem) p2, sL encMemory p3, sL encChoice p4, sL encItem p5], .box [sL encNode p6, iI p7, iI p8]] := by
  unfold slices_ContainsFunc_int_x9c8e at h
  refine fn_of_T (N := 2) rfl Try.func95 rfl (by kernel_rfl) Try.ntmps95 rfl ?_
  show T _ _ _ _ (mkA 9 [(0, sL encI p0), (1, .func 96 [.ptr 0 0, .ptr 1 0])]) [.box [sL encI p1, sL (encL encItem) p2, sL encMemory p3, sL encChoice p4, sL encItem p5], .box [sL encNode p6, iI p7, iI p8]]
  refine T.seq (T.region (sa (.bool false) rfl (RS.nil (T.seq ?_))))
  obtain ⟨x2, hx2, h⟩ := bind_some h
  refine T.region (sm (sL encI p0) rfl (sm (.func 96 [.ptr 0 0, .ptr 1 0]) rfl (so (o_callF (ac := [sL encI p0, .func 96 [.ptr 0 0, .ptr 1 0]]) (as0 := [sL encI p0, .func 96 [.ptr 0 0, .ptr 1 0]]) (aw0 := [.box [sL encI p1, sL (encL encItem) p2, sL encMemory p3, sL encChoice p4, sL encItem p5], .box [sL encNode p6, iI p7, iI p8]]) (aw1 := [.box [sL encI p1, sL (encL encItem) p2, sL encMemory p3, sL encChoice p4, sL encItem p5], .box [sL encNode p6, iI p7, iI p8]]) (aw2 := [.box [sL encI p1, sL (encL encItem) p2, sL encMemory p3, sL encChoice p4, sL encItem p5], .box [sL encNode p6, iI p7, iI p8]]) (v := iI x2) (v' := iI x2) (n0 := 2) (n1 := 2) [0, 1] rfl rfl rfl rfl (by decide) (rw_box (cs := [sL encI p1, sL (encL encItem) p2, sL encMemory p3, sL encChoice p4, sL encItem p5]) (ds := [sL encI p1, sL (encL encItem) p2, sL encMemory p3, sL encChoice p4, sL encItem p5]) rfl ⟨rn_s rfl, rn_s rfl, rn_s rfl, rn_s rfl, rn_s rfl, trivial⟩ (rw_box (cs := [sL encNode p6, iI p7, iI p8]) (ds := [sL encNode p6, iI p7, iI p8]) rfl ⟨rn_s rfl, rn_int rfl, rn_int rfl, trivial⟩ (rw_nil))) ⟨rn_s rfl, rn_func ⟨rn_ptr rfl, rn_ptr rfl, trivial⟩, trivial⟩ (slices_IndexFunc_int_x9c8e_c p0 p1 p2 p3 p4 p5 p6 p7 p8 x2 hx2) rfl (rm_pure (pure_int _ _)) ⟨.inl ⟨0, _, by decide, rfl, rom_box (cs := [sL encI p1, sL (encL encItem) p2, sL encMemory p3, sL encChoice p4, sL encItem p5]) (ds := [sL encI p1, sL (encL encItem) p2, sL encMemory p3, sL encChoice p4, sL encItem p5]) ⟨rm_pure (pure_map encI_p _), rm_pure (pure_map (encL_p encItem_p) _), rm_pure (pure_map encMemory_p _), rm_pure (pure_map encChoice_p _), rm_pure (pure_map encItem_p _), trivial⟩⟩, .inl ⟨1, _, by decide, rfl, rom_box (cs := [sL encNode p6, iI p7, iI p8]) (ds := [sL encNode p6, iI p7, iI p8]) ⟨rm_pure (pure_map encNode_p _), rm_pure (pure_int _ _), rm_pure (pure_int _ _), trivial⟩⟩, trivial⟩ (sq (v_geq rfl rfl (sa (.bool (decide (x2 ≥ 0))) rfl (RS.nil (T.rt (res_tmpA (v := .bool (decide (x2 ≥ 0))) rfl (res_done ?_)))))))))))
  exact ret_norm (v := .bool (decide (x2 ≥ 0))) (aw1 := [.box [sL encI p1, sL (encL encItem) p2, sL encMemory p3, sL encChoice p4, sL encItem p5], .box [sL encNode p6, iI p7, iI p8]]) (.bool r) [0, 1] rfl (by decide) (by decide) (rn_bool (congrArg (fun r : Bool => r) (Option.some.inj h)).symm) (rw_box (cs := [sL encI p1, sL (encL encItem) p2, sL encMemory p3, sL encChoice p4, sL encItem p5]) (ds := [sL encI p1, sL (encL encItem) p2, sL encMemory p3, sL encChoice p4, sL encItem p5]) rfl ⟨rn_s rfl, rn_s rfl, rn_s rfl, rn_s rfl, rn_s rfl, trivial⟩ (rw_box (cs := [sL encNode p6, iI p7, iI p8]) (ds := [sL encNode p6, iI p7, iI p8]) rfl ⟨rn_s rfl, rn_int rfl, rn_int rfl, trivial⟩ (rw_nil))) ⟨rfl, rfl⟩
theorem stage_Check_c (p0 : Memory) (r : Int) (h : stage_Check p0 = some r) : Fn Try.prog 60 [.agg [iI p0.Sum, sL encKeyed p0.Keys, iI p0.Dep]] (iI r) := by
  unfold stage_Check at h
  refine fn_of_T (N := 0) rfl Try.func60 rfl (by kernel_rfl) Try.ntmps60 rfl ?_
  show T _ _ _ _ (mkA 40 [(0, .agg [iI p0.Sum, sL encKeyed p0.Keys, iI p0.Dep])]) []
  refine T.seq (T.region (so (o_box (cs := [iI p0.Sum, sL encKeyed p0.Keys, iI p0.Dep]) rfl rfl rfl (sa (iI 0) rfl (RS.nil (T.seq (T.seq (T.region (sq (v_fieldAddr_ptr Ty.f66_1 rfl (off' := 1) rfl (so (o_load_ptr rfl rfl (loadRow1 Ty.k64 (c := sL encKeyed p0.Keys) rfl ?_)))))))))))))
  refine sq (v_len_sl Ty.s64 rfl (sq (v_gtr rfl rfl (RS.nil (T.cond (b := decide (((p0.Keys).length : Int) > 6)) rfl (fun hb_1 => ?_) (fun hb_1 => ?_))))))
  ·replace h := ite_T h hb_1
   refine T.seq (T.region (sa (iI 2) rfl (RS.nil (T.rt (res_tmpA (v := iI 2) rfl (res_done ?_))))))
   exact ret_data (v := iI 2) rfl (pure_int _ _) ⟨congrArg (fun r : Int => (iI r : AV)) (Option.some.inj h), rfl⟩
  replace h := ite_F h hb_1
  refine T.skip (T.seq (T.seq (T.region (sq (v_fieldAddr_ptr Ty.f66_1 rfl (off' := 1) rfl (so (o_load_ptr rfl rfl (loadRow1 Ty.k64 (c := sL encKeyed p0.Keys) rfl (sq (v_len_sl Ty.s64 rfl (sm (iI 0) rfl (RS.nil (T.block ?_)))))))))))))
  refine T.iter (fun ss_18 : Int => mkA 40 [(1, .ptr 0 0), (10, sL encKeyed p0.Keys), (11, iI ((p0.Keys).length : Int)), (12, iI ss_18)]) (fun ss_18 => [.box [iI p0.Sum, sL encKeyed p0.Keys, iI p0.Dep]]) h (Weak.mkN [] [0] (by decide) (none_kept _) rfl ⟨rn_ptr rfl, rn_s rfl, rn_int rfl, rn_int rfl, trivial⟩ (rw_bs [iI p0.Sum, sL encKeyed p0.Keys, iI p0.Dep] rfl (rw_nil))) (fun ss_18 v_19 h hv_19 => ?_)
  revert hv_19 h; revert ss_18; intro s1 h hv_19
  replace h : stage_Check_l1 p0 s1 = some v_19 := h
  try dsimp only
  unfold stage_Check_l1 at h
  refine T.seq (T.region (sq (v_lss rfl rfl (RS.nil (T.seq (T.cond (b := decide (s1 < ((p0.Keys).length : Int))) rfl (fun hb_20 => ?_) (fun hb_20 => ?_)))))))
  ·replace h := ite_T h hb_20
   refine T.skip (T.seq (T.block (T.seq ?_)))
   obtain ⟨x3, hx3, h⟩ := bind_some h
   refine T.region (sm (iI s1) rfl (sq (v_index_sl Ty.s64 (fun _ => rfl) rfl rfl hx3 (so (o_load_elt rfl (loadRowA Ty.k69 Ty.c69 rfl (cs := [iI x3.Key, iI x3.N]) rfl (so (o_alloc Ty.z69 rfl rfl (sa (iI s1) rfl (so (o_store_ptr Ty.c69 Ty.i69 rfl (vs := [iI x3.Key, iI x3.N]) rfl rfl rfl rfl (cs' := [iI x3.Key, iI x3.N]) rfl rfl (RS.nil ?_))))))))))))
   obtain ⟨zt_23, hz, h⟩ := bind_some h
   revert hz h; revert zt_23; intro c5 hz h
   refine T.join (Z := Unit) (fun _ => mkA 40 [(1, .ptr 0 0), (10, sL encKeyed p0.Keys), (11, iI ((p0.Keys).length : Int)), (12, iI s1), (35, .bool c5)]) (fun _ => [.box [iI p0.Sum, sL encKeyed p0.Keys, iI p0.Dep]]) (fun _ => True) (fun _ _ => ?_) (fun hK => ?_)
   ·refine T.cond (b := c5) rfl (fun hb_24 => ?_) (fun hb_24 => ?_)
    ·replace h := ite_T h hb_24
     refine T.seq (T.region (sa (iI 4) rfl (RS.nil (T.rt ?_))))
     obtain ⟨w_25, h, hw_25⟩ := map_inr h
     replace h := h.trans (congrArg some (hv_19 _ hw_25))
     refine res_tmpA (v := iI 4) rfl (res_done ?_)
     exact ret_data (v := iI 4) rfl (pure_int _ _) ⟨congrArg (fun r : Int => (iI r : AV)) (Option.some.inj h), rfl⟩
    replace h := ite_F h hb_24
    refine T.skip (T.region (sq (v_add rfl rfl (sm (iI (IntKind.i64.wrap (s1 + 1))) rfl (RS.nil ?_)))))
    exact ⟨IntKind.i64.wrap (s1 + 1), (Option.some.inj h).symm, Weak.mkN [] [0] (by decide) (none_kept _) rfl ⟨rn_ptr rfl, rn_s rfl, rn_int rfl, rn_int rfl, trivial⟩ (rw_bs [iI p0.Sum, sL encKeyed p0.Keys, iI p0.Dep] rfl (rw_nil))⟩
   rcases bool_cases (decide (x3.N < 1)) with hb_21 | hb_21
   ·replace hz := ite_T hz hb_21
    refine T.drawn mixed (k := 19) rfl (rt0 0 rfl (v_fieldAddr_ptr Ty.f69_1 rfl (off' := 1) rfl (ra1 1 (RO.op rfl rfl (o_load_ptr rfl rfl (loadRow1 Ty.k3 (c := iI x3.N) rfl (rt0 2 rfl (v_lss rfl rfl (rt0 3 rfl (v_move (v := .bool (decide (x3.N < 1))) rfl (rt2 4 rfl hb_21 (rt2 5 rfl hb_21 (rt2 6 rfl hb_21 (rt3 7 rfl ?_))))))))))))))
    refine rt3 8 rfl (rt3 9 rfl (rt3 10 rfl (rt3 11 rfl (rt3 12 rfl (rt3 13 rfl (rt3 14 rfl (rt3 15 rfl (rt3 16 rfl (rt2 17 rfl hb_21 ?_)))))))))
    refine rt0 18 rfl (v_pickT (v := .bool true) rfl hb_21 rfl (RA.done (by decide +kernel) ?_))
    exact T.weakR (hK () trivial) (Weak.mkN [] [0] (by decide) (none_kept _) rfl ⟨rn_ptr rfl, rn_s rfl, rn_int rfl, rn_int rfl, rn_bool ((congrArg (fun p => p) (Option.some.inj hz)).symm), trivial⟩ (rw_bs [iI p0.Sum, sL encKeyed p0.Keys, iI p0.Dep] rfl (rw_nil)))
   replace hz := ite_F hz hb_21
   rcases bool_cases (decide (s1 > 0)) with hb_22 | hb_22
   ·replace hz := ite_T hz hb_22
    obtain ⟨x4, hx4, hz⟩ := bind_some hz
    refine T.drawn mixed (k := 19) rfl ?_
    let l28 : List (Nat × AV) := [(1, .ptr 0 0), (3, iI s1), (4, .ptr 1 0), (10, sL encKeyed p0.Keys), (11, iI ((p0.Keys).length : Int)), (12, iI s1), (13, .bool (decide (s1 < ((p0.Keys).length : Int)))), (14, iI s1), (15, .elt (encKeyed x3) 0), (16, .agg [iI x3.Key, iI x3.N])]
    let a28 : List Ob := [.box [iI p0.Sum, sL encKeyed p0.Keys, iI p0.Dep], .box [iI x3.Key, iI x3.N]]
    refine RA.join 0 #[true, true, true, true, true, true, true, true, true, true, true, true, true, true, true, true, true, true, true] (mkA 40 ((17, .ptr 1 1) :: (18, iI x3.N) :: (19, .bool (decide (x3.N < 1))) :: (20, .bool (decide (x3.N < 1))) :: (21, iI s1) :: (22, .bool (decide (s1 > 0))) :: (23, .bool (decide (s1 > 0))) :: (24, .ptr 0 1) :: (25, sL encKeyed p0.Keys) :: (26, iI s1) :: (27, iI (IntKind.i64.wrap (s1 - 1))) :: (28, .elt (encKeyed x4) 0) :: (29, .elt (encKeyed x4) 0) :: (30, iI x4.Key) :: (31, .ptr 1 0) :: (32, iI x3.Key) :: (33, .bool (decide (x4.Key ≥ x3.Key))) :: (34, .bool (decide (x4.Key ≥ x3.Key))) :: (35, .bool (decide (x4.Key ≥ x3.Key))) :: l28)) a28 ?_ (fun hS26 => ?_)
    ·refine RA.done (by decide +kernel) ?_
     exact T.weakR (hK () trivial) (Weak.mkN [] [0] (by decide) (none_kept _) rfl ⟨rn_ptr rfl, rn_s rfl, rn_int rfl, rn_int rfl, rn_bool ((congrArg (fun p => p) (Option.some.inj hz)).symm), trivial⟩ (rw_bs [iI p0.Sum, sL encKeyed p0.Keys, iI p0.Dep] rfl (rw_nil)))
    ·refine RA.join 4 #[true, true, true, true, true, true, true, true, true, true, true, true, true, false, true, true, false, false, false] (mkA 40 ((17, .ptr 1 1) :: (18, iI x3.N) :: (19, .bool (decide (x3.N < 1))) :: (20, .bool (decide (x3.N < 1))) :: (21, iI s1) :: (22, .bool (decide (s1 > 0))) :: (23, .bool (decide (s1 > 0))) :: (24, .ptr 0 1) :: (25, sL encKeyed p0.Keys) :: (26, iI s1) :: (27, iI (IntKind.i64.wrap (s1 - 1))) :: (28, .elt (encKeyed x4) 0) :: (29, .elt (encKeyed x4) 0) :: (31, .ptr 1 0) :: (32, iI x3.Key) :: l28)) a28 ?_ (fun hS27 => ?_)
     ·refine ra1 13 (RO.yes rfl rfl rfl rfl hb_22 (o_load_elt rfl (loadRow1 Ty.k3 (c := iI x4.Key) rfl (rt1 16 rfl hb_22 (v_geq rfl rfl (rt1 17 rfl hb_21 (v_pickT (v := .bool (decide (x4.Key ≥ x3.Key))) rfl hb_22 rfl (rt0 18 rfl (v_pickF (v := .bool (decide (x4.Key ≥ x3.Key))) rfl hb_21 rfl ?_)))))))))
      exact raS hS26 ⟨rfl, rfl, rfl, rfl, rfl, rfl, rfl, rfl, rfl, rfl, rfl, rfl, rfl, rfl, rfl, rfl, rfl, rfl, rfl, rfl, rfl, rfl, rfl, rfl, rfl, rfl, rfl, rfl, rfl, trivial⟩
     ·refine rt0 0 rfl (v_fieldAddr_ptr Ty.f69_1 rfl (off' := 1) rfl (ra1 1 (RO.op rfl rfl (o_load_ptr rfl rfl (loadRow1 Ty.k3 (c := iI x3.N) rfl (rt0 2 rfl (v_lss rfl rfl (rt0 3 rfl (v_move (v := .bool (decide (x3.N < 1))) rfl (rt1 4 rfl hb_21 (v_move (v := iI s1) rfl (rt1 5 rfl hb_21 (v_gtr rfl rfl (rt1 6 rfl hb_21 (v_move (v := .bool (decide (s1 > 0))) rfl (rt1 7 rfl hb_22 (v_fieldAddr_ptr Ty.f66_1 rfl (off' := 1) rfl (rt1 9 rfl hb_22 (v_move (v := iI s1) rfl ?_)))))))))))))))))))
      refine rt1 10 rfl hb_22 (v_sub rfl rfl (rt1 14 rfl hb_22 (v_fieldAddr_ptr Ty.f69_0 rfl (off' := 0) rfl (ra2 8 15 ?_ ?_))))
      ·refine RO.yes rfl rfl rfl rfl hb_22 (o_load_ptr rfl rfl (loadRow1 Ty.k64 (c := sL encKeyed p0.Keys) rfl (rt1 11 rfl hb_22 (v_index_sl Ty.s64 (fun _ => rfl) rfl rfl hx4 (rt1 12 rfl hb_22 (v_fieldAddr_elt Ty.f69_0 rfl (off' := 0) rfl (ra2 13 15 ?_ ?_)))))))
       ·refine RO.yes rfl rfl rfl rfl hb_22 (o_load_elt rfl (loadRow1 Ty.k3 (c := iI x4.Key) rfl (ra1 15 (RO.yes rfl rfl rfl rfl hb_22 (o_load_ptr rfl rfl (loadRow1 Ty.k3 (c := iI x3.Key) rfl (rt1 16 rfl hb_22 (v_geq rfl rfl (rt1 17 rfl hb_21 (v_pickT (v := .bool (decide (x4.Key ≥ x3.Key))) rfl hb_22 rfl (rt0 18 rfl (v_pickF (v := .bool (decide (x4.Key ≥ x3.Key))) rfl hb_21 rfl ?_))))))))))))
        exact raS hS26 ⟨rfl, rfl, rfl, rfl, rfl, rfl, rfl, rfl, rfl, rfl, rfl, rfl, rfl, rfl, rfl, rfl, rfl, rfl, rfl, rfl, rfl, rfl, rfl, rfl, rfl, rfl, rfl, rfl, rfl, trivial⟩
       ·refine RO.yes rfl rfl rfl rfl hb_22 (o_load_ptr rfl rfl (loadRow1 Ty.k3 (c := iI x3.Key) rfl ?_))
        exact raS hS27 ⟨rfl, rfl, rfl, rfl, rfl, rfl, rfl, rfl, rfl, rfl, rfl, rfl, rfl, rfl, rfl, rfl, rfl, rfl, rfl, rfl, rfl, rfl, rfl, rfl, rfl, trivial⟩
      ·refine RO.yes rfl rfl rfl rfl hb_22 (o_load_ptr rfl rfl (loadRow1 Ty.k3 (c := iI x3.Key) rfl (ra1 8 (RO.yes rfl rfl rfl rfl hb_22 (o_load_ptr rfl rfl (loadRow1 Ty.k64 (c := sL encKeyed p0.Keys) rfl (rt1 11 rfl hb_22 (v_index_sl Ty.s64 (fun _ => rfl) rfl rfl hx4 (rt1 12 rfl hb_22 (v_fieldAddr_elt Ty.f69_0 rfl (off' := 0) rfl ?_))))))))))
       exact raS hS27 ⟨rfl, rfl, rfl, rfl, rfl, rfl, rfl, rfl, rfl, rfl, rfl, rfl, rfl, rfl, rfl, rfl, rfl, rfl, rfl, rfl, rfl, rfl, rfl, rfl, rfl, trivial⟩
   replace hz := ite_F hz hb_22
   refine T.drawn mixed (k := 19) rfl (rt0 0 rfl (v_fieldAddr_ptr Ty.f69_1 rfl (off' := 1) rfl (ra1 1 (RO.op rfl rfl (o_load_ptr rfl rfl (loadRow1 Ty.k3 (c := iI x3.N) rfl (rt0 2 rfl (v_lss rfl rfl (rt0 3 rfl (v_move (v := .bool (decide (x3.N < 1))) rfl (rt1 4 rfl hb_21 (v_move (v := iI s1) rfl (rt1 5 rfl hb_21 (v_gtr rfl rfl (rt1 6 rfl hb_21 (v_move (v := .bool (decide (s1 > 0))) rfl (rt2 7 rfl hb_22 ?_)))))))))))))))))
   refine rt2 8 rfl hb_22 (rt2 9 rfl hb_22 (rt2 10 rfl hb_22 (rt2 11 rfl hb_22 (rt2 12 rfl hb_22 (rt2 13 rfl hb_22 (rt2 14 rfl hb_22 (rt2 15 rfl hb_22 (rt2 16 rfl hb_22 (rt1 17 rfl hb_21 (v_pickF (v := .bool false) rfl hb_22 rfl ?_))))))))))
   refine rt0 18 rfl (v_pickF (v := .bool false) rfl hb_21 rfl (RA.done (by decide +kernel) ?_))
   exact T.weakR (hK () trivial) (Weak.mkN [] [0] (by decide) (none_kept _) rfl ⟨rn_ptr rfl, rn_s rfl, rn_int rfl, rn_int rfl, rn_bool ((congrArg (fun p => p) (Option.some.inj hz)).symm), trivial⟩ (rw_bs [iI p0.Sum, sL encKeyed p0.Keys, iI p0.Dep] rfl (rw_nil)))
  replace h := ite_F h hb_20
  refine T.exit ?_
  obtain ⟨w_29, h, hw_29⟩ := map_inr h
  replace h := h.trans (congrArg some (hv_19 _ hw_29))
  refine T.seq (T.seq (T.region (sq (v_fieldAddr_ptr Ty.f66_2 rfl (off' := 2) rfl (so (o_load_ptr rfl rfl (loadRow1 Ty.k3 (c := iI p0.Dep) rfl (sq (v_lss rfl rfl (RS.nil (T.cond (b := decide (p0.Dep < 0)) rfl (fun hb_30 => ?_) (fun hb_30 => ?_))))))))))))
  ·replace h := ite_T h hb_30
   refine T.seq (T.region (sa (iI 3) rfl (RS.nil (T.rt (res_tmpA (v := iI 3) rfl (res_done ?_))))))
   exact ret_data (v := iI 3) rfl (pure_int _ _) ⟨congrArg (fun r : Int => (iI r : AV)) (Option.some.inj h), rfl⟩
  replace h := ite_F h hb_30
  refine T.skip (T.seq (T.region (sa (iI 0) rfl (RS.nil (T.rt (res_tmpA (v := iI 0) rfl (res_done ?_)))))))
  exact ret_data (v := iI 0) rfl (pure_int _ _) ⟨congrArg (fun r : Int => (iI r : AV)) (Option.some.inj h), rfl⟩
theorem slices_Clone_Keyed_c (p0 r : List Keyed) (h : slices_Clone_Keyed p0 = some r) : FnO Try.prog 121 [.sl (List.map encKeyed p0)] (.ref 0) [.arr 69 2 (List.map encKeyed r)] := by
  have hr : p0 = r := by
    unfold slices_Clone_Keyed app at h
    split at h
    · simpa using h
    · cases h
  refine fn_of_T (N := 0) rfl Try.func121 rfl (by kernel_rfl) Try.ntmps121 rfl ?_
  show T _ _ _ _ (mkA 8 [(0, .sl (List.map encKeyed p0))]) []
  refine T.seq ?_
  refine T.region ?_
  refine RS.op rfl (OP.q rfl (v_assign (v := .nils) rfl ?_))
  refine RS.nil ?_
  refine T.seq ?_
  refine T.seq ?_
  refine T.region ?_
  refine RS.op rfl (OP.q rfl (v_move (v := .sl (List.map encKeyed p0)) rfl ?_))
  refine RS.op rfl (OP.q rfl (v_nileq Ty.s64 rfl rfl (fun z hz => ?_)))
  refine RS.nil ?_
  refine T.cond (b := z) rfl (fun hb => ?_) (fun hb => ?_)
  · refine T.seq ?_
    refine T.region ?_
    refine RS.op rfl (OP.q rfl (v_assign (v := .nils) rfl ?_))
    refine RS.nil ?_
    refine T.ret ?_
    refine res_tmpA (v := .nils) rfl ?_
    refine res_done ?_
    have h0 : p0 = [] := List.map_eq_nil_iff.1 (hz hb)
    exact ret_own (.ref 0) [(0, 69, 2)] [0] (by decide) (none_kept _) rfl (rn_ref rfl) (rw_arr (en := encKeyed) (ys := []) rfl encKeyed_p (by rw [← hr, h0]) (rw_nil)) ⟨rfl, rfl⟩
  · refine T.skip ?_
    refine T.seq ?_
    refine T.region ?_
    refine RS.op rfl (o_buildSlice (rows := List.map encKeyed []) (vs := []) Ty.s64 Ty.z69 rfl rfl rfl rfl rfl (aw' := [.arr 69 2 (List.map encKeyed [])]) rfl ?_)
    refine RS.op rfl (OP.q rfl (v_move (v := .sl (List.map encKeyed p0)) rfl ?_))
    refine RS.op rfl (o_app_ref (en := encKeyed) (xs := ([] : List Keyed)) (ys := p0) (r := r) Ty.s64 (fun _ => rfl) rfl rfl rfl h rfl (aw' := [.dead, .arr 69 2 (List.map encKeyed r)]) rfl ?_)
    refine RS.op rfl (OP.q rfl (v_assign (v := .ref 1) rfl ?_))
    refine RS.nil ?_
    refine T.ret ?_
    refine res_tmpA (v := .ref 1) rfl ?_
    refine res_done ?_
    exact ret_own (.ref 0) [] [1] (by decide) (none_kept _) rfl (rn_ref rfl) (rw_arr rfl encKeyed_p rfl (rw_nil)) ⟨rfl, rfl⟩
theorem stage_Copy_c (p0 : Memory) (r : Memory) (h : stage_Copy p0 = some r) : FnO Try.prog 91 [.agg [iI p0.Sum, sL encKeyed p0.Keys, iI p0.Dep]] (.agg [iI r.Sum, .ref 0, iI r.Dep]) [aR 69 2 encKeyed r.Keys] := by
  unfold stage_Copy at h
  refine fn_of_T (N := 0) rfl Try.func91 rfl (by kernel_rfl) Try.ntmps91 rfl ?_
  show T _ _ _ _ (mkA 8 [(0, .agg [iI p0.Sum, sL encKeyed p0.Keys, iI p0.Dep])]) []
  refine T.seq (T.region (so (o_box (cs := [iI p0.Sum, sL encKeyed p0.Keys, iI p0.Dep]) rfl rfl rfl (so (o_alloc Ty.z66 rfl rfl (RS.nil (T.seq ?_)))))))
  obtain ⟨x2, hx2, h⟩ := bind_some h
  refine T.region (sq (v_fieldAddr_ptr Ty.f66_1 rfl (off' := 1) rfl (so (o_load_ptr rfl rfl (loadRow1 Ty.k64 (c := sL encKeyed p0.Keys) rfl (so (o_call (as0 := [sL encKeyed p0.Keys]) (as1 := [sL encKeyed p0.Keys]) (caps := []) (aw1 := [.box [iI p0.Sum, sL encKeyed p0.Keys, iI p0.Dep], .box [iI 0, .nils, iI 0]]) rfl rfl rfl (k_own' (v := .ref 0) (obs := [aR 69 2 encKeyed x2]) (v' := .ref 2) (slices_Clone_Keyed_c p0.Keys x2 hx2) (⟨pure_map encKeyed_p _, trivial⟩) rfl (obs_cons (flatOb_map fun _ => rfl) obs_nil) rfl rfl (sq (v_fieldAddr_ptr Ty.f66_1 rfl (off' := 1) rfl (so (o_store_ptr Ty.c64 Ty.i64 rfl (vs := [.ref 2]) rfl rfl rfl rfl (cs' := [iI p0.Sum, .ref 2, iI p0.Dep]) rfl rfl (RS.nil (T.seq (T.region (so (o_load_ptr rfl rfl (loadRowA Ty.k66 Ty.c66 rfl (cs := [iI p0.Sum, .ref 2, iI p0.Dep]) rfl ?_))))))))))))))))))
  refine so (o_store_ptr Ty.c66 Ty.i66 rfl (vs := [iI p0.Sum, .ref 2, iI p0.Dep]) rfl rfl rfl rfl (cs' := [iI p0.Sum, .ref 2, iI p0.Dep]) rfl rfl (RS.nil (T.rt (res_cellA (id := 1) (off := 0) (cs := [iI p0.Sum, .ref 2, iI p0.Dep]) (v := .agg [iI p0.Sum, .ref 2, iI p0.Dep]) ?_ ?_ ?_ ?_))))
  · rfl
  · rfl
  · exact fun K h => (loadRowA (row := [iI p0.Sum, .ref 2, iI p0.Dep]) (off := 0) Ty.k66 Ty.c66 rfl (cs := [iI p0.Sum, .ref 2, iI p0.Dep]) rfl h)
  refine res_done ?_
  exact ret_own (.agg [iI r.Sum, .ref 0, iI r.Dep]) [] [2] (by decide) (none_kept _) rfl (rn_agg ⟨rn_int (congrArg (fun r : Memory => r.Sum) (Option.some.inj h)).symm, rn_ref rfl, rn_int (congrArg (fun r : Memory => r.Dep) (Option.some.inj h)).symm, trivial⟩) (rw_arr rfl encKeyed_p (congrArg (fun r : Memory => r.Keys) (Option.some.inj h)).symm (rw_nil)) ⟨rfl, rfl⟩
theorem stage_mapped_1_c (p0 : Item) (r : Int) (h : stage_mapped_1 p0 = some r) : Fn Try.prog 131 [.agg [iI p0.Key, iI p0.Val, iI p0.Dep]] (iI r) := by
  unfold stage_mapped_1 at h
  refine fn_of_T (N := 0) rfl Try.func131 rfl (by kernel_rfl) Try.ntmps131 rfl ?_
  show T _ _ _ _ (mkA 6 [(0, .agg [iI p0.Key, iI p0.Val, iI p0.Dep])]) []
  refine T.seq (T.region (so (o_box (cs := [iI p0.Key, iI p0.Val, iI p0.Dep]) rfl rfl rfl (sa (iI 0) rfl (RS.nil (T.seq (T.region (sq (v_fieldAddr_ptr Ty.f46_1 rfl (off' := 1) rfl (so (o_load_ptr rfl rfl (loadRow1 Ty.k3 (c := iI p0.Val) rfl (sq (v_add rfl rfl ?_))))))))))))))
  refine sa (iI (IntKind.i64.wrap (p0.Val + 1))) rfl (RS.nil (T.rt (res_tmpA (v := iI (IntKind.i64.wrap (p0.Val + 1))) rfl (res_done ?_))))
  exact ret_data (v := iI (IntKind.i64.wrap (p0.Val + 1))) rfl (pure_int _ _) ⟨congrArg (fun r : Int => (iI r : AV)) (Option.some.inj h), rfl⟩
theorem stage_mapped_2_c (p0 : Item) (r : Int) (h : stage_mapped_2 p0 = some r) : Fn Try.prog 132 [.agg [iI p0.Key, iI p0.Val, iI p0.Dep]] (iI r) := by
  unfold stage_mapped_2 at h
  refine fn_of_T (N := 0) rfl Try.func132 rfl (by kernel_rfl) Try.ntmps132 rfl ?_
  show T _ _ _ _ (mkA 6 [(0, .agg [iI p0.Key, iI p0.Val, iI p0.Dep])]) []
  refine T.seq (T.region (so (o_box (cs := [iI p0.Key, iI p0.Val, iI p0.Dep]) rfl rfl rfl (sa (iI 0) rfl (RS.nil (T.seq (T.region (sq (v_fieldAddr_ptr Ty.f46_1 rfl (off' := 1) rfl (so (o_load_ptr rfl rfl (loadRow1 Ty.k3 (c := iI p0.Val) rfl (sq (v_mul rfl rfl ?_))))))))))))))
  refine sa (iI (IntKind.i64.wrap (2 * p0.Val))) rfl (RS.nil (T.rt (res_tmpA (v := iI (IntKind.i64.wrap (2 * p0.Val))) rfl (res_done ?_))))
  exact ret_data (v := iI (IntKind.i64.wrap (2 * p0.Val))) rfl (pure_int _ _) ⟨congrArg (fun r : Int => (iI r : AV)) (Option.some.inj h), rfl⟩
theorem stage_mapped_3_c (p0 : Item) (r : Int) (h : stage_mapped_3 p0 = some r) : Fn Try.prog 133 [.agg [iI p0.Key, iI p0.Val, iI p0.Dep]] (iI r) := by
  unfold stage_mapped_3 at h
  refine fn_of_T (N := 0) rfl Try.func133 rfl (by kernel_rfl) Try.ntmps133 rfl ?_
  show T _ _ _ _ (mkA 6 [(0, .agg [iI p0.Key, iI p0.Val, iI p0.Dep])]) []
  refine T.seq (T.region (so (o_box (cs := [iI p0.Key, iI p0.Val, iI p0.Dep]) rfl rfl rfl (sa (iI 0) rfl (RS.nil (T.seq (T.region (sq (v_fieldAddr_ptr Ty.f46_1 rfl (off' := 1) rfl (so (o_load_ptr rfl rfl (loadRow1 Ty.k3 (c := iI p0.Val) rfl (sq (v_neg rfl ?_))))))))))))))
  refine sa (iI (IntKind.i64.wrap (0 - p0.Val))) rfl (RS.nil (T.rt (res_tmpA (v := iI (IntKind.i64.wrap (0 - p0.Val))) rfl (res_done ?_))))
  exact ret_data (v := iI (IntKind.i64.wrap (0 - p0.Val))) rfl (pure_int _ _) ⟨congrArg (fun r : Int => (iI r : AV)) (Option.some.inj h), rfl⟩
theorem stage_mapped_4_c (p0 : Item) (r : Int) (h : stage_mapped_4 p0 = some r) : Fn Try.prog 134 [.agg [iI p0.Key, iI p0.Val, iI p0.Dep]] (iI r) := by
  unfold stage_mapped_4 at h
  refine fn_of_T (N := 0) rfl Try.func134 rfl (by kernel_rfl) Try.ntmps134 rfl ?_
  show T _ _ _ _ (mkA 8 [(0, .agg [iI p0.Key, iI p0.Val, iI p0.Dep])]) []
  refine T.seq (T.region (so (o_box (cs := [iI p0.Key, iI p0.Val, iI p0.Dep]) rfl rfl rfl (sa (iI 0) rfl (RS.nil (T.seq (T.region (sq (v_fieldAddr_ptr Ty.f46_1 rfl (off' := 1) rfl (so (o_load_ptr rfl rfl (loadRow1 Ty.k3 (c := iI p0.Val) rfl (sq (v_fieldAddr_ptr Ty.f46_0 rfl (off' := 0) rfl ?_))))))))))))))
  refine so (o_load_ptr rfl rfl (loadRow1 Ty.k3 (c := iI p0.Key) rfl (sq (v_add rfl rfl (sa (iI (IntKind.i64.wrap (p0.Val + p0.Key))) rfl (RS.nil (T.rt (res_tmpA (v := iI (IntKind.i64.wrap (p0.Val + p0.Key))) rfl (res_done ?_)))))))))
  exact ret_data (v := iI (IntKind.i64.wrap (p0.Val + p0.Key))) rfl (pure_int _ _) ⟨congrArg (fun r : Int => (iI r : AV)) (Option.some.inj h), rfl⟩
theorem stage_mapped_c (p0 : Int) (p1 : Item) (r : Item) (h : stage_mapped p0 p1 = some r) : Fn Try.prog 117 [iI p0, .agg [iI p1.Key, iI p1.Val, iI p1.Dep]] (.agg [iI r.Key, iI r.Val, iI r.Dep]) := by
  unfold stage_mapped at h
  refine fn_of_T (N := 0) rfl Try.func117 rfl (by kernel_rfl) Try.ntmps117 rfl ?_
  show T _ _ _ _ (mkA 14 [(0, iI p0), (1, .agg [iI p1.Key, iI p1.Val, iI p1.Dep])]) []
  refine T.seq (T.region (so (o_box (cs := [iI p1.Key, iI p1.Val, iI p1.Dep]) rfl rfl rfl (so (o_alloc Ty.z46 rfl rfl (RS.nil (T.seq (T.region (sq (v_build (cs := [.func 131 [], .func 132 [], .func 133 [], .func 134 []]) Ty.z180 Ty.p180 rfl (so (o_alloc Ty.z180 rfl rfl (so (o_store_ptr Ty.c180 Ty.i180 rfl (vs := [.func 131 [], .func 132 [], .func 133 [], .func 134 []]) rfl rfl rfl rfl (cs' := [.func 131 [], .func 132 [], .func 133 [], .func 134 []]) rfl rfl ?_))))))))))))))
  refine RS.nil ?_
  obtain ⟨zt_4, hz, h⟩ := bind_some h
  revert hz h; revert zt_4; intro c6 hz h
  refine T.join (Z := Unit) (fun _ => mkA 14 [(3, .ptr 0 0), (4, .ptr 1 0)]) (fun _ => [.box [iI p1.Key, iI c6, iI p1.Dep], .box [iI 0, iI 0, iI 0]]) (fun _ => True) (fun _ _ => ?_) (fun hK => ?_)
  ·refine T.seq (T.region (so (o_load_ptr rfl rfl (loadRowA Ty.k46 Ty.c46 rfl (cs := [iI p1.Key, iI c6, iI p1.Dep]) rfl (so (o_store_ptr Ty.c46 Ty.i46 rfl (vs := [iI p1.Key, iI c6, iI p1.Dep]) rfl rfl rfl rfl (cs' := [iI p1.Key, iI c6, iI p1.Dep]) rfl rfl (RS.nil (T.rt (res_cellA (id := 1) (off := 0) (cs := [iI p1.Key, iI c6, iI p1.Dep]) (v := .agg [iI p1.Key, iI c6, iI p1.Dep]) ?_ ?_ ?_ ?_)))))))))
   · rfl
   · rfl
   · exact fun K h => (loadRowA (row := [iI p1.Key, iI c6, iI p1.Dep]) (off := 0) Ty.k46 Ty.c46 rfl (cs := [iI p1.Key, iI c6, iI p1.Dep]) rfl h)
   refine res_done ?_
   exact ret_data (v := .agg [iI p1.Key, iI c6, iI p1.Dep]) rfl (pure_agg _ (pures_mem (⟨pure_int _ _, pure_int _ _, pure_int _ _, trivial⟩))) ⟨congrArg (fun r : Item => (.agg [iI r.Key, iI r.Val, iI r.Dep] : AV)) (Option.some.inj h), rfl⟩
  rcases bool_cases (p0 == 0) with hb_1 | hb_1
  ·replace hz := ite_T hz hb_1
   obtain ⟨x1, hx1, hz⟩ := bind_some hz
   refine T.drawn mixed (k := 7) rfl (rt0 0 rfl (v_move (v := iI p0) rfl (rt0 1 rfl (v_index_arr (q := 0) Try.underlying180 Ty.c179 Ty.i179 rfl rfl (by simpa using hb_1) rfl rfl (off' := 0) rfl (rl0 [2, 4, 5, 6] 2 rfl (v_load_ptr rfl rfl (loadRow1 Ty.k179 (c := .func 131 []) rfl (ra1 3 (RO.op rfl rfl (o_load_ptr rfl rfl (loadRowA Ty.k46 Ty.c46 rfl (cs := [iI p1.Key, iI p1.Val, iI p1.Dep]) rfl (ra1 4 (RO.op rfl rfl (o_call (as0 := [.agg [iI p1.Key, iI p1.Val, iI p1.Dep]]) (as1 := [.agg [iI p1.Key, iI p1.Val, iI p1.Dep]]) (caps := []) (aw1 := [.box [iI p1.Key, iI p1.Val, iI p1.Dep], .box [iI 0, iI 0, iI 0], .box [.func 131 [], .func 132 [], .func 133 [], .func 134 []]]) rfl rfl rfl (k_flat (v := iI x1) (stage_mapped_1_c p1 x1 hx1) (⟨pure_agg _ (pures_mem (⟨pure_int _ _, pure_int _ _, pure_int _ _, trivial⟩)), trivial⟩) rfl (rt0 5 rfl (v_fieldAddr_ptr Ty.f46_1 rfl (off' := 1) rfl (ra1 6 ?_))))))))))))))))))
   refine RO.op rfl rfl (o_store_ptr Ty.c3 Ty.i3 rfl (vs := [iI x1]) rfl rfl rfl rfl (cs' := [iI p1.Key, iI x1, iI p1.Dep]) rfl rfl (RA.done (by decide +kernel) ?_))
   exact T.weakR (hK () trivial) (Weak.mkN [] [0, 1] (by decide) (none_kept _) rfl ⟨rn_ptr rfl, rn_ptr rfl, trivial⟩ (rw_box (cs := [iI p1.Key, iI c6, iI p1.Dep]) (ds := [iI p1.Key, iI x1, iI p1.Dep]) rfl ⟨rn_int rfl, rn_int ((congrArg (fun p => p) (Option.some.inj hz)).symm), rn_int rfl, trivial⟩ (rw_bs [iI 0, iI 0, iI 0] rfl (rw_nil))))
  replace hz := ite_F hz hb_1
  rcases bool_cases (p0 == 1) with hb_2 | hb_2
  ·replace hz := ite_T hz hb_2
   obtain ⟨x2, hx2, hz⟩ := bind_some hz
   refine T.drawn mixed (k := 7) rfl (rt0 0 rfl (v_move (v := iI p0) rfl (rt0 1 rfl (v_index_arr (q := 1) Try.underlying180 Ty.c179 Ty.i179 rfl rfl (by simpa using hb_2) rfl rfl (off' := 1) rfl (rl0 [2, 4, 5, 6] 2 rfl (v_load_ptr rfl rfl (loadRow1 Ty.k179 (c := .func 132 []) rfl (ra1 3 (RO.op rfl rfl (o_load_ptr rfl rfl (loadRowA Ty.k46 Ty.c46 rfl (cs := [iI p1.Key, iI p1.Val, iI p1.Dep]) rfl (ra1 4 (RO.op rfl rfl (o_call (as0 := [.agg [iI p1.Key, iI p1.Val, iI p1.Dep]]) (as1 := [.agg [iI p1.Key, iI p1.Val, iI p1.Dep]]) (caps := []) (aw1 := [.box [iI p1.Key, iI p1.Val, iI p1.Dep], .box [iI 0, iI 0, iI 0], .box [.func 131 [], .func 132 [], .func 133 [], .func 134 []]]) rfl rfl rfl (k_flat (v := iI x2) (stage_mapped_2_c p1 x2 hx2) (⟨pure_agg _ (pures_mem (⟨pure_int _ _, pure_int _ _, pure_int _ _, trivial⟩)), trivial⟩) rfl (rt0 5 rfl (v_fieldAddr_ptr Ty.f46_1 rfl (off' := 1) rfl (ra1 6 ?_))))))))))))))))))
   refine RO.op rfl rfl (o_store_ptr Ty.c3 Ty.i3 rfl (vs := [iI x2]) rfl rfl rfl rfl (cs' := [iI p1.Key, iI x2, iI p1.Dep]) rfl rfl (RA.done (by decide +kernel) ?_))
   exact T.weakR (hK () trivial) (Weak.mkN [] [0, 1] (by decide) (none_kept _) rfl ⟨rn_ptr rfl, rn_ptr rfl, trivial⟩ (rw_box (cs := [iI p1.Key, iI c6, iI p1.Dep]) (ds := [iI p1.Key, iI x2, iI p1.Dep]) rfl ⟨rn_int rfl, rn_int ((congrArg (fun p => p) (Option.some.inj hz)).symm), rn_int rfl, trivial⟩ (rw_bs [iI 0, iI 0, iI 0] rfl (rw_nil))))
  replace hz := ite_F hz hb_2
  rcases bool_cases (p0 == 2) with hb_3 | hb_3
  ·replace hz := ite_T hz hb_3
   obtain ⟨x3, hx3, hz⟩ := bind_some hz
   refine T.drawn mixed (k := 7) rfl (rt0 0 rfl (v_move (v := iI p0) rfl (rt0 1 rfl (v_index_arr (q := 2) Try.underlying180 Ty.c179 Ty.i179 rfl rfl (by simpa using hb_3) rfl rfl (off' := 2) rfl (rl0 [2, 4, 5, 6] 2 rfl (v_load_ptr rfl rfl (loadRow1 Ty.k179 (c := .func 133 []) rfl (ra1 3 (RO.op rfl rfl (o_load_ptr rfl rfl (loadRowA Ty.k46 Ty.c46 rfl (cs := [iI p1.Key, iI p1.Val, iI p1.Dep]) rfl (ra1 4 (RO.op rfl rfl (o_call (as0 := [.agg [iI p1.Key, iI p1.Val, iI p1.Dep]]) (as1 := [.agg [iI p1.Key, iI p1.Val, iI p1.Dep]]) (caps := []) (aw1 := [.box [iI p1.Key, iI p1.Val, iI p1.Dep], .box [iI 0, iI 0, iI 0], .box [.func 131 [], .func 132 [], .func 133 [], .func 134 []]]) rfl rfl rfl (k_flat (v := iI x3) (stage_mapped_3_c p1 x3 hx3) (⟨pure_agg _ (pures_mem (⟨pure_int _ _, pure_int _ _, pure_int _ _, trivial⟩)), trivial⟩) rfl (rt0 5 rfl (v_fieldAddr_ptr Ty.f46_1 rfl (off' := 1) rfl (ra1 6 ?_))))))))))))))))))
   refine RO.op rfl rfl (o_store_ptr Ty.c3 Ty.i3 rfl (vs := [iI x3]) rfl rfl rfl rfl (cs' := [iI p1.Key, iI x3, iI p1.Dep]) rfl rfl (RA.done (by decide +kernel) ?_))
   exact T.weakR (hK () trivial) (Weak.mkN [] [0, 1] (by decide) (none_kept _) rfl ⟨rn_ptr rfl, rn_ptr rfl, trivial⟩ (rw_box (cs := [iI p1.Key, iI c6, iI p1.Dep]) (ds := [iI p1.Key, iI x3, iI p1.Dep]) rfl ⟨rn_int rfl, rn_int ((congrArg (fun p => p) (Option.some.inj hz)).symm), rn_int rfl, trivial⟩ (rw_bs [iI 0, iI 0, iI 0] rfl (rw_nil))))
  replace hz := ite_F hz hb_3
  obtain ⟨x4, hx4, hz⟩ := bind_some hz
  obtain ⟨x5, hx5, hz⟩ := bind_some hz
  refine T.drawn mixed (k := 7) rfl (rt0 0 rfl (v_move (v := iI p0) rfl (rt0 1 rfl (v_index_arr (q := 3) Try.underlying180 Ty.c179 Ty.i179 rfl rfl (isAt_some hx4) rfl rfl (off' := 3) rfl (rl0 [2, 4, 5, 6] 2 rfl (v_load_ptr rfl rfl (loadRow1 Ty.k179 (c := .func 134 []) rfl (ra1 3 (RO.op rfl rfl (o_load_ptr rfl rfl (loadRowA Ty.k46 Ty.c46 rfl (cs := [iI p1.Key, iI p1.Val, iI p1.Dep]) rfl (ra1 4 (RO.op rfl rfl (o_call (as0 := [.agg [iI p1.Key, iI p1.Val, iI p1.Dep]]) (as1 := [.agg [iI p1.Key, iI p1.Val, iI p1.Dep]]) (caps := []) (aw1 := [.box [iI p1.Key, iI p1.Val, iI p1.Dep], .box [iI 0, iI 0, iI 0], .box [.func 131 [], .func 132 [], .func 133 [], .func 134 []]]) rfl rfl rfl (k_flat (v := iI x5) (stage_mapped_4_c p1 x5 hx5) (⟨pure_agg _ (pures_mem (⟨pure_int _ _, pure_int _ _, pure_int _ _, trivial⟩)), trivial⟩) rfl (rt0 5 rfl (v_fieldAddr_ptr Ty.f46_1 rfl (off' := 1) rfl (ra1 6 ?_))))))))))))))))))
  refine RO.op rfl rfl (o_store_ptr Ty.c3 Ty.i3 rfl (vs := [iI x5]) rfl rfl rfl rfl (cs' := [iI p1.Key, iI x5, iI p1.Dep]) rfl rfl (RA.done (by decide +kernel) ?_))
  exact T.weakR (hK () trivial) (Weak.mkN [] [0, 1] (by decide) (none_kept _) rfl ⟨rn_ptr rfl, rn_ptr rfl, trivial⟩ (rw_box (cs := [iI p1.Key, iI c6, iI p1.Dep]) (ds := [iI p1.Key, iI x5, iI p1.Dep]) rfl ⟨rn_int rfl, rn_int ((congrArg (fun p => p) (Option.some.inj hz)).symm), rn_int rfl, trivial⟩ (rw_bs [iI 0, iI 0, iI 0] rfl (rw_nil))))
theorem stage_Step_1_c (p0 : Keyed) (p1 : Int) (r : Int) (h : stage_Step_1 p0 p1 = some r) : Fn Try.prog 119 [.agg [iI p0.Key, iI p0.N], iI p1] (iI r) := by
  unfold stage_Step_1 at h
  refine fn_of_T (N := 0) rfl Try.func119 rfl (by kernel_rfl) Try.ntmps119 rfl ?_
  show T _ _ _ _ (mkA 15 [(0, .agg [iI p0.Key, iI p0.N]), (1, iI p1)]) []
  refine T.seq (T.region (so (o_box (cs := [iI p0.Key, iI p0.N]) rfl rfl rfl (sa (iI 0) rfl (RS.nil (T.seq (T.block (T.seq (T.region (sq (v_fieldAddr_ptr Ty.f69_0 rfl (off' := 0) rfl ?_)))))))))))
  refine so (o_load_ptr rfl rfl (loadRow1 Ty.k3 (c := iI p0.Key) rfl (sm (iI p1) rfl (sq (v_lss rfl rfl (sa (.bool (decide (p0.Key < p1))) rfl (RS.nil (T.cond (b := decide (p0.Key < p1)) rfl (fun hb_1 => ?_) (fun hb_1 => ?_)))))))))
  ·replace h := ite_T h hb_1
   refine T.seq (T.region (sa (iI (-1)) rfl (RS.nil (T.rt (res_tmpA (v := iI (-1)) rfl (res_done ?_))))))
   exact ret_data (v := iI (-1)) rfl (pure_int _ _) ⟨congrArg (fun r : Int => (iI r : AV)) (Option.some.inj h), rfl⟩
  replace h := ite_F h hb_1
  refine T.seq (T.region (sq (v_fieldAddr_ptr Ty.f69_0 rfl (off' := 0) rfl (so (o_load_ptr rfl rfl (loadRow1 Ty.k3 (c := iI p0.Key) rfl (sm (iI p1) rfl (sq (v_gtr rfl rfl (sa (.bool (decide (p0.Key > p1))) rfl (RS.nil (T.cond (b := decide (p0.Key > p1)) rfl (fun hb_2 => ?_) (fun hb_2 => ?_)))))))))))))
  ·replace h := ite_T h hb_2
   refine T.seq (T.region (sa (iI 1) rfl (RS.nil (T.rt (res_tmpA (v := iI 1) rfl (res_done ?_))))))
   exact ret_data (v := iI 1) rfl (pure_int _ _) ⟨congrArg (fun r : Int => (iI r : AV)) (Option.some.inj h), rfl⟩
  replace h := ite_F h hb_2
  refine T.skip (T.seq (T.region (sa (iI 0) rfl (RS.nil (T.rt (res_tmpA (v := iI 0) rfl (res_done ?_)))))))
  exact ret_data (v := iI 0) rfl (pure_int _ _) ⟨congrArg (fun r : Int => (iI r : AV)) (Option.some.inj h), rfl⟩
theorem slices_BinarySearchFunc_Keyed_x37fe_c (p0 : List Keyed) (p1 : Int) (r : Int × Bool) (h : slices_BinarySearchFunc_Keyed_x37fe p0 p1 = some r) : Fn Try.prog 118 [sL encKeyed p0, iI p1, .func 119 []] (.tup [iI r.1, .bool r.2]) := by
  unfold slices_BinarySearchFunc_Keyed_x37fe at h
  refine fn_of_T (N := 0) rfl Try.func118 rfl (by kernel_rfl) Try.ntmps118 rfl ?_
  show T _ _ _ _ (mkA 49 [(0, sL encKeyed p0), (1, iI p1), (2, .func 119 [])]) []
  refine T.seq (T.region (sa (iI 0) rfl (sa (.bool false) rfl (RS.nil (T.seq (T.region (sm (sL encKeyed p0) rfl (sq (v_len_sl Ty.s64 rfl (sa (iI ((p0).length : Int)) rfl ?_))))))))))
  refine RS.nil (T.seq (T.region (sm (iI ((p0).length : Int)) rfl (sa (iI 0) rfl (sa (iI ((p0).length : Int)) rfl (RS.nil (T.seq (T.block (T.iter (fun ss_5 : Int × Int => mkA 49 [(0, sL encKeyed p0), (1, iI p1), (2, .func 119 []), (8, iI ((p0).length : Int)), (9, iI ss_5.1), (10, iI ss_5.2)]) (fun ss_5 => []) h (Weak.mkN [] [] (by decide) (none_kept _) rfl ⟨rn_s rfl, rn_int rfl, rn_func trivial, rn_int rfl, rn_int rfl, rn_int rfl, trivial⟩ (rw_nil)) (fun ss_5 v_6 h hv_6 => ?_))))))))))
  obtain ⟨s1, s2⟩ := ss_5
  replace h : slices_BinarySearchFunc_Keyed_x37fe_l1 p0 p1 s1 s2 = some v_6 := h
  try dsimp only
  unfold slices_BinarySearchFunc_Keyed_x37fe_l1 at h
  refine T.seq (T.seq (T.region (sm (iI s1) rfl (sm (iI s2) rfl (sq (v_lss rfl rfl (RS.nil (T.cond (b := decide (s1 < s2)) rfl (fun hb_7 => ?_) (fun hb_7 => ?_)))))))))
  ·replace h := ite_T h hb_7
   refine T.skip (T.block (T.seq ?_))
   obtain ⟨x4, hx4, h⟩ := bind_some h
   refine T.region (sm (iI s1) rfl (sm (iI s2) rfl (sq (v_add rfl rfl (so (o_conv Try.underlying3 Try.underlying116 rfl (sq (v_shr rfl rfl hx4 (so (o_conv Try.underlying116 Try.underlying3 rfl (sa (iI (IntKind.i64.wrap x4)) rfl (RS.nil (T.seq ?_)))))))))))))
   obtain ⟨x7, hx7, h⟩ := bind_some h
   obtain ⟨x8, hx8, h⟩ := bind_some h
   refine T.region (sm (.func 119 []) rfl (sm (sL encKeyed p0) rfl (sm (iI (IntKind.i64.wrap x4)) rfl (sq (v_index_sl Ty.s64 (fun _ => rfl) rfl rfl hx7 (so (o_load_elt rfl (loadRowA Ty.k69 Ty.c69 rfl (cs := [iI x7.Key, iI x7.N]) rfl (sm (iI p1) rfl (so (o_call (as0 := [.agg [iI x7.Key, iI x7.N], iI p1]) (as1 := [.agg [iI x7.Key, iI x7.N], iI p1]) (caps := []) (aw1 := []) rfl rfl rfl (k_flat (v := iI x8) (stage_Step_1_c x7 p1 x8 hx8) (⟨pure_agg _ (pures_mem (⟨pure_int _ _, pure_int _ _, trivial⟩)), pure_int _ _, trivial⟩) rfl (sq (v_lss rfl rfl (RS.nil ?_)))))))))))))))
   refine T.cond (b := decide (x8 < 0)) rfl (fun hb_8 => ?_) (fun hb_8 => ?_)
   ·replace h := ite_T h hb_8
    refine T.region (sm (iI (IntKind.i64.wrap x4)) rfl (sq (v_add rfl rfl (sa (iI (IntKind.i64.wrap ((IntKind.i64.wrap x4) + 1))) rfl (RS.nil ?_)))))
    exact ⟨(IntKind.i64.wrap ((IntKind.i64.wrap x4) + 1), s2), (Option.some.inj h).symm, Weak.mkN [] [] (by decide) (none_kept _) rfl ⟨rn_s rfl, rn_int rfl, rn_func trivial, rn_int rfl, rn_int rfl, rn_int rfl, trivial⟩ (rw_nil)⟩
   replace h := ite_F h hb_8
   refine T.region (sm (iI (IntKind.i64.wrap x4)) rfl (sa (iI (IntKind.i64.wrap x4)) rfl (RS.nil ?_)))
   exact ⟨(s1, IntKind.i64.wrap x4), (Option.some.inj h).symm, Weak.mkN [] [] (by decide) (none_kept _) rfl ⟨rn_s rfl, rn_int rfl, rn_func trivial, rn_int rfl, rn_int rfl, rn_int rfl, trivial⟩ (rw_nil)⟩
  replace h := ite_F h hb_7
  refine T.exit ?_
  obtain ⟨w_9, h, hw_9⟩ := map_inr h
  replace h := h.trans (congrArg some (hv_6 _ hw_9))
  obtain ⟨zt_11, hz, h⟩ := bind_some h
  revert hz h; revert zt_11; intro c11 hz h
  refine T.join (Z := Unit) (fun _ => mkA 49 [(6, iI s1), (7, .bool c11)]) (fun _ => []) (fun _ => True) (fun _ _ => ?_) (fun hK => ?_)
  ·refine T.rt (res_tmpA (v := iI s1) rfl (res_tmpA (v := .bool c11) rfl (res_done ?_)))
   exact ret_data (v := .tup [iI s1, .bool c11]) rfl (pure_tup _ (pures_mem (⟨pure_int _ _, pure_bool _, trivial⟩))) ⟨congrArg (fun r : Int × Bool => (.tup [iI r.1, .bool r.2] : AV)) (Option.some.inj h), rfl⟩
  refine T.region (sm (iI s1) rfl (sm (iI s1) rfl (sm (iI ((p0).length : Int)) rfl (sq (v_lss rfl rfl (sm (.bool (decide (s1 < ((p0).length : Int)))) rfl ?_))))))
  rcases bool_cases (decide (s1 < ((p0).length : Int))) with hb_10 | hb_10
  ·replace hz := ite_T hz hb_10
   obtain ⟨x9, hx9, hz⟩ := bind_some hz
   obtain ⟨x10, hx10, hz⟩ := bind_some hz
   refine yq hb_10 (v_move (v := .func 119 []) rfl (yq hb_10 (v_move (v := sL encKeyed p0) rfl (yq hb_10 (v_move (v := iI s1) rfl (yq hb_10 (v_index_sl Ty.s64 (fun _ => rfl) rfl rfl hx9 (yo hb_10 (o_load_elt rfl (loadRowA Ty.k69 Ty.c69 rfl (cs := [iI x9.Key, iI x9.N]) rfl (yq hb_10 (v_move (v := iI p1) rfl (yo hb_10 (o_call (as0 := [.agg [iI x9.Key, iI x9.N], iI p1]) (as1 := [.agg [iI x9.Key, iI x9.N], iI p1]) (caps := []) (aw1 := []) rfl rfl rfl (k_flat (v := iI x10) (stage_Step_1_c x9 p1 x10 hx10) (⟨pure_agg _ (pures_mem (⟨pure_int _ _, pure_int _ _, trivial⟩)), pure_int _ _, trivial⟩) rfl (yq hb_10 (v_eql rfl rfl (sq (v_pickT (v := .bool (x10 == 0)) rfl hb_10 rfl (sa (iI s1) rfl ?_))))))))))))))))))))
   refine sa (.bool (x10 == 0)) rfl (RS.nil ?_)
   exact T.sub (hK () trivial) ⟨rfl, (congrArg AV.bool ((congrArg (fun p => p) (Option.some.inj hz)).symm)).symm, trivial⟩
  replace hz := ite_F hz hb_10
  refine sn hb_10 (sn hb_10 (sn hb_10 (sn hb_10 (sn hb_10 (sn hb_10 (sn hb_10 (sn hb_10 (sq (v_pickF (v := .bool false) rfl hb_10 rfl (sa (iI s1) rfl ?_))))))))))
  refine sa (.bool false) rfl (RS.nil ?_)
  exact T.sub (hK () trivial) ⟨rfl, (congrArg AV.bool ((congrArg (fun p => p) (Option.some.inj hz)).symm)).symm, trivial⟩
theorem slices_Insert_Keyed_xe708_c (p0 : Int) (p1 : List Keyed) (p2 : List Keyed) (r : List Keyed) (h : slices_Insert_Keyed_xe708 p0 p1 p2 = some r) : FnX Try.prog 120 [.ref 0, iI p0, .ref 1] [aR 69 2 encKeyed p1, aR 69 2 encKeyed p2] (.ref 2) [.dead, .dead, aR 69 2 encKeyed r] := by
  unfold slices_Insert_Keyed_xe708 at h
  refine fn_of_T (N := 2) rfl Try.func120 rfl (by kernel_rfl) Try.ntmps120 rfl ?_
  show T _ _ _ _ (mkA 95 [(0, .ref 0), (1, iI p0), (2, .ref 1)]) [aR 69 2 encKeyed p1, aR 69 2 encKeyed p2]
  refine T.mvS 0 0 rfl rfl rfl rfl (T.exposeM 0 2 (xs := p1) rfl rfl (fun C hC => ?_))
  have h := allC_some h C hC
  unfold slices_Insert_Keyed_xe708_C at h
  refine T.seq (T.region (sa .nils rfl (RS.nil (T.seq ?_))))
  obtain ⟨x2, hx2, h⟩ := bind_some h
  refine T.region (sm (.vw 2 2 0 ((p1).length) (some C)) rfl (sm (iI p0) rfl (so (o_slice_vc Ty.s64 rfl rfl rfl hx2 (RS.nil (T.seq (T.region (sm (.ref 1) rfl (sq (v_len_ref (en := encKeyed) Ty.s64 rfl rfl (sa (iI ((p2).length : Int)) rfl ?_)))))))))))
  refine RS.nil (T.seq (T.seq (T.region (sm (iI ((p2).length : Int)) rfl (sq (v_eql rfl rfl (RS.nil (T.cond (b := ((p2).length : Int) == 0) rfl (fun hb_1 => ?_) (fun hb_1 => ?_)))))))))
  ·replace h := ite_T h hb_1
   cases h
  replace h := ite_F h hb_1
  refine T.skip (T.seq (T.region (sm (.vw 2 2 0 ((p1).length) (some C)) rfl (so (v_len_vw Ty.s64 rfl (sa (iI (((p1).length : Nat) : Int)) rfl (RS.nil (T.seq (T.seq (T.region ?_))))))))))
  refine sm (iI p0) rfl (sm (iI (((p1).length : Nat) : Int)) rfl (sq (v_eql rfl rfl (RS.nil (T.cond (b := p0 == (((p1).length : Nat) : Int)) rfl (fun hb_2 => ?_) (fun hb_2 => ?_))))))
  ·replace h := ite_T h hb_2
   refine T.seq ?_
   obtain ⟨x4, hx4, h⟩ := bind_some h
   refine T.region (sm (.vw 2 2 0 ((p1).length) (some C)) rfl (sm (.ref 1) rfl (so (o_app_vw (en := encKeyed) (xs := p1) (ys := p2) Ty.s64 (fun _ => rfl) rfl rfl rfl rfl rfl rfl hx4 rfl rfl (sa (.ref 3) rfl (RS.nil (T.rt (res_tmpA (v := .ref 3) rfl (res_done ?_)))))))))
   exact ret_own (.ref 2) [] [0, 1, 3] (by decide) (by decide) rfl (rn_ref rfl) (rw_dead rfl (rw_dead rfl (rw_arr rfl encKeyed_p (congrArg (fun r : List Keyed => r) (Option.some.inj h)).symm (rw_nil)))) ⟨rfl, rfl⟩
  replace h := ite_F h hb_2
  refine T.skip (T.seq (T.seq (T.region (sm (iI (((p1).length : Nat) : Int)) rfl (sm (iI ((p2).length : Int)) rfl (sq (v_add rfl rfl (sm (.vw 2 2 0 ((p1).length) (some C)) rfl (so (o_cap_vw Ty.s64 rfl (sq (v_gtr rfl rfl ?_))))))))))))
  refine RS.nil (T.cond (b := decide ((IntKind.i64.wrap ((((p1).length : Nat) : Int) + ((p2).length : Int))) > ((C : Nat) : Int))) rfl (fun hb_3 => ?_) (fun hb_3 => ?_))
  ·replace h := ite_T h hb_3
   refine T.seq ?_
   obtain ⟨x7, hx7, h⟩ := bind_some h
   obtain ⟨x8, hx8, h⟩ := bind_some h
   refine T.region (sm (.vw 2 2 0 ((p1).length) (some C)) rfl (sm (iI p0) rfl (so (o_slice_vh Ty.s64 rfl rfl hx7 (sm (iI (((p1).length : Nat) : Int)) rfl (sm (iI ((p2).length : Int)) rfl (sq (v_add rfl rfl (sm (iI p0) rfl (sq (v_sub rfl rfl (so (o_app_vz (en := encKeyed) (z0 := (⟨0, 0⟩ : Keyed)) (xs := p1) Ty.s64 Try.underlying3 Ty.z69 (fun _ => rfl) rfl rfl rfl hx8 rfl rfl ?_)))))))))))))
   refine sa (.ref 3) rfl (RS.nil (T.seq ?_))
   obtain ⟨x11, hx11, h⟩ := bind_some h
   obtain ⟨x12, hx12, h⟩ := bind_some h
   refine T.region (sm (.ref 3) rfl (sm (iI p0) rfl (so (o_slice_vw (en := encKeyed) (xs := x8) Ty.s64 rfl rfl rfl rfl hx11 (sm (.ref 1) rfl (so (o_copy_vr (en := encKeyed) (xs := x8) (ys := p2) Ty.s64 (fun _ => rfl) rfl rfl rfl rfl hx12 rfl (RS.nil (T.seq ?_)))))))))
   obtain ⟨x17, hx17, h⟩ := bind_some h
   obtain ⟨x18, hx18, h⟩ := bind_some h
   obtain ⟨x19, hx19, h⟩ := bind_some h
   obtain ⟨x20, hx20, h⟩ := bind_some h
   refine T.drawn mixed (k := 9) rfl ?_
   let l5 : List (Nat × AV) := [(0, .vw 2 2 0 ((p1).length) (some C)), (1, iI p0), (2, .ref 1), (6, .nils), (7, iI ((p2).length : Int)), (8, iI (((p1).length : Nat) : Int)), (9, .ref 3), (10, .vw 2 2 0 ((p1).length) (some C)), (11, iI p0), (12, .vw 2 2 (0 + (p0).toNat) (((((p1).length : Nat) : Int)).toNat - (p0).toNat) (some (C - (p0).toNat))), (13, .ref 1), (14, iI ((p2).length : Int)), (15, iI ((p2).length : Int)), (16, .bool (((p2).length : Int) == 0)), (18, .vw 2 2 0 ((p1).length) (some C)), (19, iI (((p1).length : Nat) : Int)), (20, iI p0), (21, iI (((p1).length : Nat) : Int)), (22, .bool (p0 == (((p1).length : Nat) : Int))), (26, iI (((p1).length : Nat) : Int)), (27, iI ((p2).length : Int)), (28, iI (IntKind.i64.wrap ((((p1).length : Nat) : Int) + ((p2).length : Int)))), (29, .vw 2 2 0 ((p1).length) (some C)), (30, iI ((C : Nat) : Int)), (31, .bool (decide ((IntKind.i64.wrap ((((p1).length : Nat) : Int) + ((p2).length : Int))) > ((C : Nat) : Int)))), (32, .vw 2 2 0 ((p1).length) (some C)), (33, iI p0), (34, .vw 2 2 0 ((p0).toNat) (some C)), (35, iI (((p1).length : Nat) : Int)), (36, iI ((p2).length : Int)), (37, iI (IntKind.i64.wrap ((((p1).length : Nat) : Int) + ((p2).length : Int)))), (38, iI p0), (39, iI (IntKind.i64.wrap ((IntKind.i64.wrap ((((p1).length : Nat) : Int) + ((p2).length : Int))) - p0))), (40, .ref 3), (41, .ref 3), (42, iI p0), (43, .vw 3 2 ((p0).toNat) ((((x8).length : Int)).toNat - (p0).toNat) none), (44, .ref 1), (45, iI ((min ((((x8).length : Int)).toNat - (p0).toNat) (p2).length : Nat) : Int))]
   let a5 : List Ob := [.dead, aR 69 2 encKeyed p2, aR 69 2 encKeyed p1, aR 69 2 encKeyed (cpy x8 ((p0).toNat) ((((x8).length : Int)).toNat - (p0).toNat) p2)]
   refine RA.join 1 #[true, true, true, true, true, true, true, true, false] (mkA 95 ((46, .ref 3) :: (47, iI p0) :: (48, iI ((p2).length : Int)) :: (49, iI (IntKind.i64.wrap (p0 + ((p2).length : Int)))) :: (50, .vw 3 2 ((IntKind.i64.wrap (p0 + ((p2).length : Int))).toNat) (((((cpy x8 ((p0).toNat) ((((x8).length : Int)).toNat - (p0).toNat) p2)).length : Int)).toNat - (IntKind.i64.wrap (p0 + ((p2).length : Int))).toNat) none) :: (51, .vw 2 2 0 ((p1).length) (some C)) :: (52, iI p0) :: (53, .vw 2 2 (0 + (p0).toNat) (((((p1).length : Nat) : Int)).toNat - (p0).toNat) (some (C - (p0).toNat))) :: l5)) a5 ?_ (fun hS4 => ?_)
   ·refine ra1 8 (RO.op rfl rfl (o_copy_v2 (en := encKeyed) (xs := (cpy x8 ((p0).toNat) ((((x8).length : Int)).toNat - (p0).toNat) p2)) (ys := p1) Ty.s64 (fun _ => rfl) rfl rfl rfl rfl hx19 hx20 rfl (RA.done (by decide +kernel) (T.seq (T.region (sm (.ref 3) rfl (sa (.ref 3) rfl (RS.nil (T.rt (res_tmpA (v := .ref 3) rfl ?_))))))))))
    refine res_done ?_
    exact ret_own (.ref 2) [] [0, 1, 3] (by decide) (by decide) rfl (rn_ref rfl) (rw_dead rfl (rw_dead rfl (rw_arr rfl encKeyed_p (congrArg (fun r : List Keyed => r) (Option.some.inj h)).symm (rw_nil)))) ⟨rfl, rfl⟩
   ·refine rt0 0 rfl (v_move (v := .ref 3) rfl (rt0 1 rfl (v_move (v := iI p0) rfl (rt0 2 rfl (v_move (v := iI ((p2).length : Int)) rfl (rt0 3 rfl (v_add rfl rfl (rt0 5 rfl (v_move (v := .vw 2 2 0 ((p1).length) (some C)) rfl (rt0 6 rfl (v_move (v := iI p0) rfl (ra2 4 7 ?_ ?_))))))))))))
    ·refine RO.op rfl rfl (o_slice_vw (en := encKeyed) (xs := (cpy x8 ((p0).toNat) ((((x8).length : Int)).toNat - (p0).toNat) p2)) Ty.s64 rfl rfl rfl rfl hx17 (ra1 7 (RO.op rfl rfl (o_slice_vc Ty.s64 rfl rfl rfl hx18 ?_))))
     exact raS hS4 ⟨rfl, rfl, rfl, rfl, rfl, rfl, rfl, rfl, rfl, rfl, rfl, rfl, rfl, rfl, rfl, rfl, rfl, rfl, rfl, rfl, rfl, rfl, rfl, rfl, rfl, rfl, rfl, rfl, rfl, rfl, rfl, rfl, rfl, rfl, rfl, rfl, rfl, rfl, rfl, rfl, rfl, rfl, rfl, rfl, rfl, rfl, rfl, trivial⟩
    ·refine RO.op rfl rfl (o_slice_vc Ty.s64 rfl rfl rfl hx18 (ra1 4 (RO.op rfl rfl (o_slice_vw (en := encKeyed) (xs := (cpy x8 ((p0).toNat) ((((x8).length : Int)).toNat - (p0).toNat) p2)) Ty.s64 rfl rfl rfl rfl hx17 ?_))))
     exact raS hS4 ⟨rfl, rfl, rfl, rfl, rfl, rfl, rfl, rfl, rfl, rfl, rfl, rfl, rfl, rfl, rfl, rfl, rfl, rfl, rfl, rfl, rfl, rfl, rfl, rfl, rfl, rfl, rfl, rfl, rfl, rfl, rfl, rfl, rfl, rfl, rfl, rfl, rfl, rfl, rfl, rfl, rfl, rfl, rfl, rfl, rfl, rfl, rfl, trivial⟩
  replace h := ite_F h hb_3
  refine T.skip (T.seq ?_)
  obtain ⟨x22, hx22, h⟩ := bind_some h
  refine T.region (sm (.vw 2 2 0 ((p1).length) (some C)) rfl (sm (iI (((p1).length : Nat) : Int)) rfl (sm (iI ((p2).length : Int)) rfl (sq (v_add rfl rfl (so (o_room (en := encKeyed) (xs := p1) Ty.s64 rfl rfl rfl rfl hx22 rfl rfl (sa (.ref 3) rfl (RS.nil (T.seq (T.seq ?_)))))))))))
  obtain ⟨x25, hx25, h⟩ := bind_some h
  obtain ⟨x26, hx26, h⟩ := bind_some h
  refine T.region (sm (.ref 1) rfl (sm (.ref 3) rfl (sm (iI p0) rfl (sm (iI ((p2).length : Int)) rfl (sq (v_add rfl rfl (so (o_slice_U (en := encKeyed) (xs := p1) Ty.s64 rfl rfl rfl rfl hx25 (so (o_overlaps (fn := Try.f135) (tS := 64) (tR := 4) (en := encKeyed) (xs := p1) (ys := p2) Try.func135 (by kernel_rfl) (by kernel_rfl) (by kernel_rfl) (by kernel_rfl) Ty.s64 rfl rfl rfl rfl hx26 (sq (v_not rfl (RS.nil ?_)))))))))))))
  refine T.cond (b := true) rfl (fun hb => ?_) (fun hb => ?_)
  ·refine T.seq ?_
   obtain ⟨x30, hx30, h⟩ := bind_some h
   obtain ⟨x31, hx31, h⟩ := bind_some h
   obtain ⟨x32, hx32, h⟩ := bind_some h
   refine T.drawn mixed (k := 9) rfl ?_
   let l7 : List (Nat × AV) := [(0, .ref 3), (1, iI p0), (2, .ref 1), (6, .nils), (7, iI ((p2).length : Int)), (8, iI (((p1).length : Nat) : Int)), (10, .vw 2 2 0 ((p1).length) (some C)), (11, iI p0), (12, .vw 2 2 (0 + (p0).toNat) (((((p1).length : Nat) : Int)).toNat - (p0).toNat) (some (C - (p0).toNat))), (13, .ref 1), (14, iI ((p2).length : Int)), (15, iI ((p2).length : Int)), (16, .bool (((p2).length : Int) == 0)), (18, .vw 2 2 0 ((p1).length) (some C)), (19, iI (((p1).length : Nat) : Int)), (20, iI p0), (21, iI (((p1).length : Nat) : Int)), (22, .bool (p0 == (((p1).length : Nat) : Int))), (26, iI (((p1).length : Nat) : Int)), (27, iI ((p2).length : Int)), (28, iI (IntKind.i64.wrap ((((p1).length : Nat) : Int) + ((p2).length : Int)))), (29, .vw 2 2 0 ((p1).length) (some C)), (30, iI ((C : Nat) : Int)), (31, .bool (decide ((IntKind.i64.wrap ((((p1).length : Nat) : Int) + ((p2).length : Int))) > ((C : Nat) : Int)))), (56, .vw 2 2 0 ((p1).length) (some C)), (57, iI (((p1).length : Nat) : Int)), (58, iI ((p2).length : Int)), (59, iI (IntKind.i64.wrap ((((p1).length : Nat) : Int) + ((p2).length : Int)))), (60, .ref 3), (61, .ref 1), (62, .ref 3), (63, iI p0), (64, iI ((p2).length : Int)), (65, iI (IntKind.i64.wrap (p0 + ((p2).length : Int)))), (66, .vw 3 2 ((IntKind.i64.wrap (p0 + ((p2).length : Int))).toNat) ((((((p1).length + x22) : Nat) : Int)).toNat - (IntKind.i64.wrap (p0 + ((p2).length : Int))).toNat) none), (67, .bool false), (68, .bool true)]
   let a7 : List Ob := [.dead, aR 69 2 encKeyed p2, .dead, .arrU 69 2 (List.map encKeyed p1) x22]
   refine RA.join 1 #[true, true, true, true, true, true, true, true, false] (mkA 95 ((69, .ref 3) :: (70, iI p0) :: (71, iI ((p2).length : Int)) :: (72, iI (IntKind.i64.wrap (p0 + ((p2).length : Int)))) :: (73, .vw 3 2 ((IntKind.i64.wrap (p0 + ((p2).length : Int))).toNat) ((((((p1).length + x22) : Nat) : Int)).toNat - (IntKind.i64.wrap (p0 + ((p2).length : Int))).toNat) none) :: (74, .ref 3) :: (75, iI p0) :: (76, .vw 3 2 ((p0).toNat) ((((((p1).length + x22) : Nat) : Int)).toNat - (p0).toNat) none) :: l7)) a7 ?_ (fun hS6 => ?_)
   ·refine ra1 8 (RO.op rfl rfl (o_copy_U (en := encKeyed) (xs := p1) Ty.s64 (fun _ => rfl) rfl rfl rfl hx32 rfl (RA.done (by decide +kernel) (T.seq ?_))))
    obtain ⟨x35, hx35, h⟩ := bind_some h
    obtain ⟨x36, hx36, h⟩ := bind_some h
    refine T.region (sm (.ref 3) rfl (sm (iI p0) rfl (so (o_slice_vw (en := encKeyed) (xs := x32) Ty.s64 rfl rfl rfl rfl hx35 (sm (.ref 1) rfl (so (o_copy_vr (en := encKeyed) (xs := x32) (ys := p2) Ty.s64 (fun _ => rfl) rfl rfl rfl rfl hx36 rfl (RS.nil (T.seq (T.region (sm (.ref 3) rfl ?_)))))))))))
    refine sa (.ref 3) rfl (RS.nil (T.rt (res_tmpA (v := .ref 3) rfl (res_done ?_))))
    exact ret_own (.ref 2) [] [0, 1, 3] (by decide) (by decide) rfl (rn_ref rfl) (rw_dead rfl (rw_dead rfl (rw_arr rfl encKeyed_p (congrArg (fun r : List Keyed => r) (Option.some.inj h)).symm (rw_nil)))) ⟨rfl, rfl⟩
   ·refine rt0 0 rfl (v_move (v := .ref 3) rfl (rt0 1 rfl (v_move (v := iI p0) rfl (rt0 2 rfl (v_move (v := iI ((p2).length : Int)) rfl (rt0 3 rfl (v_add rfl rfl (rt0 5 rfl (v_move (v := .ref 3) rfl (rt0 6 rfl (v_move (v := iI p0) rfl (ra2 4 7 ?_ ?_))))))))))))
    ·refine RO.op rfl rfl (o_slice_U (en := encKeyed) (xs := p1) Ty.s64 rfl rfl rfl rfl hx30 (ra1 7 (RO.op rfl rfl (o_slice_U (en := encKeyed) (xs := p1) Ty.s64 rfl rfl rfl rfl hx31 ?_))))
     exact raS hS6 ⟨rfl, rfl, rfl, rfl, rfl, rfl, rfl, rfl, rfl, rfl, rfl, rfl, rfl, rfl, rfl, rfl, rfl, rfl, rfl, rfl, rfl, rfl, rfl, rfl, rfl, rfl, rfl, rfl, rfl, rfl, rfl, rfl, rfl, rfl, rfl, rfl, rfl, rfl, rfl, rfl, rfl, rfl, rfl, rfl, rfl, trivial⟩
    ·refine RO.op rfl rfl (o_slice_U (en := encKeyed) (xs := p1) Ty.s64 rfl rfl rfl rfl hx31 (ra1 4 (RO.op rfl rfl (o_slice_U (en := encKeyed) (xs := p1) Ty.s64 rfl rfl rfl rfl hx30 ?_))))
     exact raS hS6 ⟨rfl, rfl, rfl, rfl, rfl, rfl, rfl, rfl, rfl, rfl, rfl, rfl, rfl, rfl, rfl, rfl, rfl, rfl, rfl, rfl, rfl, rfl, rfl, rfl, rfl, rfl, rfl, rfl, rfl, rfl, rfl, rfl, rfl, rfl, rfl, rfl, rfl, rfl, rfl, rfl, rfl, rfl, rfl, rfl, rfl, trivial⟩
  · cases hb
end Go.Proofs.Ytfbmoockopakjaa
