/-
  The code computes these functions. Printed by a program of ours (wip/gen.py).
-/
import Derived.Test.YtpndpdbabblphaaOq
import Derived.Test.YtpndpdbabblphaaEnc
import Derived.Test.YtpndpdbabblphaaSh
import Derived.Test.YtpndpdbabblphaaLj
namespace Go.Proofs.Ytpndpdbabblphaa
open Go.RowKit
set_option linter.unusedVariables false
set_option linter.unusedSimpArgs false
set_option maxRecDepth 100000
set_option maxHeartbeats 4000000
theorem slices_Equal_string_c (p0 : List (List UInt8)) (p1 : List (List UInt8)) (r : Bool) (h : slices_Equal_string p0 p1 = some r) : Fn Try.prog 24 [.sl (List.map encS p0), .sl (List.map encS p1)] (.bool r) := by
  unfold slices_Equal_string at h
  refine fn_of_T (N := 0) rfl Try.func24 rfl (by kernel_rfl) Try.ntmps24 rfl ?_
  show T _ _ _ _ (mkA 26 [(0, .sl (List.map encS p0)), (1, .sl (List.map encS p1))]) []
  refine T.seq (T.region (sa (.bool false) rfl (RS.nil (T.seq (T.seq (T.region (sm (.sl (List.map encS p0)) rfl (sq (v_len_sl Ty.s29 rfl (sm (.sl (List.map encS p1)) rfl ?_))))))))))
  refine sq (v_len_sl Ty.s29 rfl (sq (v_neq rfl rfl (RS.nil (T.cond (b := ((p0).length : Int) != ((p1).length : Int)) rfl (fun hb_1 => ?_) (fun hb_1 => ?_))))))
  ·replace h := ite_T h hb_1
   refine T.seq (T.region (sa (.bool false) rfl (RS.nil (T.rt (res_tmpA (v := .bool false) rfl (res_done ?_))))))
   exact ret_data (v := .bool false) rfl (pure_bool _) ⟨congrArg (fun r : Bool => (.bool r : AV)) (Option.some.inj h), rfl⟩
  replace h := ite_F h hb_1
  refine T.skip (T.seq (T.seq (T.region (sm (.sl (List.map encS p0)) rfl (sq (v_len_sl Ty.s29 rfl (sm (.int .i64 0) rfl (RS.nil (T.block (T.iter (fun ss_10 : Int => mkA 26 [(0, .sl (List.map encS p0)), (1, .sl (List.map encS p1)), (12, .int .i64 ((p0).length : Int)), (13, .int .i64 ss_10)]) (fun ss_10 => []) h (Weak.mkN [] [] (by decide) (none_kept _) rfl ⟨rn_s rfl, rn_s rfl, rn_int rfl, rn_int rfl, trivial⟩ (rw_nil)) (fun ss_10 v_11 h hv_11 => ?_)))))))))))
  revert hv_11 h; revert ss_10; intro s1 h hv_11
  replace h : slices_Equal_string_l1 p0 p1 s1 = some v_11 := h
  try dsimp only
  unfold slices_Equal_string_l1 at h
  refine T.seq (T.region (sq (v_lss rfl rfl (RS.nil (T.seq (T.cond (b := decide (s1 < ((p0).length : Int))) rfl (fun hb_12 => ?_) (fun hb_12 => ?_)))))))
  ·replace h := ite_T h hb_12
   refine T.skip (T.seq (T.block (T.seq (T.region (sm (.int .i64 s1) rfl (sa (.int .i64 s1) rfl (RS.nil (T.seq ?_))))))))
   obtain ⟨x4, hx4, h⟩ := bind_some h
   obtain ⟨x5, hx5, h⟩ := bind_some h
   refine T.drawn mixed (k := 9) rfl ?_
   let l14 : List (Nat × AV) := [(0, .sl (List.map encS p0)), (1, .sl (List.map encS p1)), (5, .int .i64 s1), (12, .int .i64 ((p0).length : Int)), (13, .int .i64 s1), (14, .bool (decide (s1 < ((p0).length : Int)))), (15, .int .i64 s1)]
   let a14 : List Ob := []
   refine RA.join 0 #[true, true, true, true, true, true, true, true, true] (mkA 26 ((16, .sl (List.map encS p0)) :: (17, .int .i64 s1) :: (18, .elt (encS x4) 0) :: (19, .str x4) :: (20, .sl (List.map encS p1)) :: (21, .int .i64 s1) :: (22, .elt (encS x5) 0) :: (23, .str x5) :: (24, .bool (!(x4 == x5))) :: l14)) a14 ?_ (fun hS13 => ?_)
   ·refine RA.done (by decide +kernel) (T.cond (b := !(x4 == x5)) rfl (fun hb_15 => ?_) (fun hb_15 => ?_))
    ·replace h := ite_T h hb_15
     refine T.seq (T.region (sa (.bool false) rfl (RS.nil (T.rt ?_))))
     obtain ⟨w_16, h, hw_16⟩ := map_inr h
     replace h := h.trans (congrArg some (hv_11 _ hw_16))
     refine res_tmpA (v := .bool false) rfl (res_done ?_)
     exact ret_data (v := .bool false) rfl (pure_bool _) ⟨congrArg (fun r : Bool => (.bool r : AV)) (Option.some.inj h), rfl⟩
    replace h := ite_F h hb_15
    refine T.skip (T.region (sq (v_add rfl rfl (sm (.int .i64 (IntKind.i64.wrap (s1 + 1))) rfl (RS.nil ?_)))))
    exact ⟨IntKind.i64.wrap (s1 + 1), (Option.some.inj h).symm, Weak.mkN [] [] (by decide) (none_kept _) rfl ⟨rn_s rfl, rn_s rfl, rn_int rfl, rn_int rfl, trivial⟩ (rw_nil)⟩
   ·refine RA.t0 (i := 0) (li' := #[true, false, false, false, false, false, false, false, false]) rfl (by decide +kernel) (by decide +kernel) (by decide +kernel) (by decide +kernel) rfl rfl (v_move (v := .sl (List.map encS p0)) rfl (RA.t0 (i := 1) (li' := #[true, true, false, false, false, false, false, false, false]) rfl (by decide +kernel) (by decide +kernel) (by decide +kernel) (by decide +kernel) rfl rfl (v_move (v := .int .i64 s1) rfl (RA.t0 (i := 2) (li' := #[true, true, true, false, false, false, false, false, false]) rfl (by decide +kernel) (by decide +kernel) (by decide +kernel) (by decide +kernel) rfl rfl (v_index_sl Ty.s29 (fun _ => rfl) rfl rfl hx4 (RA.t0 (i := 4) (li' := #[true, true, true, false, true, false, false, false, false]) rfl (by decide +kernel) (by decide +kernel) (by decide +kernel) (by decide +kernel) rfl rfl (v_move (v := .sl (List.map encS p1)) rfl (RA.t0 (i := 5) (li' := #[true, true, true, false, true, true, false, false, false]) rfl (by decide +kernel) (by decide +kernel) (by decide +kernel) (by decide +kernel) rfl rfl (v_move (v := .int .i64 s1) rfl (RA.t0 (i := 6) (li' := #[true, true, true, false, true, true, true, false, false]) rfl (by decide +kernel) (by decide +kernel) (by decide +kernel) (by decide +kernel) rfl rfl (v_index_sl Ty.s29 (fun _ => rfl) rfl rfl hx5 (RA.a2 (i1 := 3) (l1 := #[true, true, true, true, true, true, true, false, false]) (i2 := 7) (l2 := #[true, true, true, false, true, true, true, true, false]) (by decide +kernel) (by decide +kernel) (by decide +kernel) ?_ ?_))))))))))))
    ·refine RO.op rfl rfl (o_load_elt rfl (loadRow1 Ty.k9 (c := .str x4) rfl (RA.a1 (i1 := 7) (l1 := #[true, true, true, true, true, true, true, true, false]) (by decide +kernel) (by decide +kernel) (RO.op rfl rfl (o_load_elt rfl (loadRow1 Ty.k9 (c := .str x5) rfl (RA.t0 (i := 8) (li' := #[true, true, true, true, true, true, true, true, true]) rfl (by decide +kernel) (by decide +kernel) (by decide +kernel) (by decide +kernel) rfl rfl (v_sneq rfl rfl ?_))))))))
     exact RA.sub hS13 ⟨rfl, rfl, rfl, rfl, rfl, rfl, rfl, rfl, rfl, rfl, rfl, rfl, rfl, rfl, rfl, rfl, trivial⟩
    ·refine RO.op rfl rfl (o_load_elt rfl (loadRow1 Ty.k9 (c := .str x5) rfl (RA.a1 (i1 := 3) (l1 := #[true, true, true, true, true, true, true, true, false]) (by decide +kernel) (by decide +kernel) (RO.op rfl rfl (o_load_elt rfl (loadRow1 Ty.k9 (c := .str x4) rfl (RA.t0 (i := 8) (li' := #[true, true, true, true, true, true, true, true, true]) rfl (by decide +kernel) (by decide +kernel) (by decide +kernel) (by decide +kernel) rfl rfl (v_sneq rfl rfl ?_))))))))
     exact RA.sub hS13 ⟨rfl, rfl, rfl, rfl, rfl, rfl, rfl, rfl, rfl, rfl, rfl, rfl, rfl, rfl, rfl, rfl, trivial⟩
  replace h := ite_F h hb_12
  refine T.exit ?_
  obtain ⟨w_17, h, hw_17⟩ := map_inr h
  replace h := h.trans (congrArg some (hv_11 _ hw_17))
  refine T.seq (T.region (sa (.bool true) rfl (RS.nil (T.rt (res_tmpA (v := .bool true) rfl (res_done ?_))))))
  exact ret_data (v := .bool true) rfl (pure_bool _) ⟨congrArg (fun r : Bool => (.bool r : AV)) (Option.some.inj h), rfl⟩
theorem slices_Clone_string_c (p0 r : List (List UInt8)) (h : slices_Clone_string p0 = some r) : FnO Try.prog 42 [.sl (List.map encS p0)] (.ref 0) [.arr 9 1 (List.map encS r)] := by
  have hr : p0 = r := by
    unfold slices_Clone_string app at h
    split at h
    · simpa using h
    · cases h
  refine fn_of_T (N := 0) rfl Try.func42 rfl (by kernel_rfl) Try.ntmps42 rfl ?_
  show T _ _ _ _ (mkA 8 [(0, .sl (List.map encS p0))]) []
  refine T.seq ?_
  refine T.region ?_
  refine RS.op rfl (OP.q rfl (v_assign (v := .nils) rfl ?_))
  refine RS.nil ?_
  refine T.seq ?_
  refine T.seq ?_
  refine T.region ?_
  refine RS.op rfl (OP.q rfl (v_move (v := .sl (List.map encS p0)) rfl ?_))
  refine RS.op rfl (OP.q rfl (v_nileq Ty.s29 rfl rfl (fun z hz => ?_)))
  refine RS.nil ?_
  refine T.cond (b := z) rfl (fun hb => ?_) (fun hb => ?_)
  · refine T.seq ?_
    refine T.region ?_
    refine RS.op rfl (OP.q rfl (v_assign (v := .nils) rfl ?_))
    refine RS.nil ?_
    refine T.ret ?_
    refine res_tmpA (v := .nils) rfl ?_
    refine res_done ?_
    have h0 : p0 = [] := List.map_eq_nil_iff.1 (hz hb)
    exact ret_own (.ref 0) [(0, 9, 1)] [0] (by decide) (none_kept _) rfl (rn_ref rfl) (rw_arr (en := encS) (ys := []) rfl encS_p (by rw [← hr, h0]) (rw_nil)) ⟨rfl, rfl⟩
  · refine T.skip ?_
    refine T.seq ?_
    refine T.region ?_
    refine RS.op rfl (o_buildSlice (rows := List.map encS []) (vs := []) Ty.s29 Ty.z9 rfl rfl rfl rfl rfl (aw' := [.arr 9 1 (List.map encS [])]) rfl ?_)
    refine RS.op rfl (OP.q rfl (v_move (v := .sl (List.map encS p0)) rfl ?_))
    refine RS.op rfl (o_app_ref (en := encS) (xs := ([] : List (List UInt8))) (ys := p0) (r := r) Ty.s29 (fun _ => rfl) rfl rfl rfl h rfl (aw' := [.dead, .arr 9 1 (List.map encS r)]) rfl ?_)
    refine RS.op rfl (OP.q rfl (v_assign (v := .ref 1) rfl ?_))
    refine RS.nil ?_
    refine T.ret ?_
    refine res_tmpA (v := .ref 1) rfl ?_
    refine res_done ?_
    exact ret_own (.ref 0) [] [1] (by decide) (none_kept _) rfl (rn_ref rfl) (rw_arr rfl encS_p rfl (rw_nil)) ⟨rfl, rfl⟩
theorem slices_Clone_Write_c (p0 r : List Write) (h : slices_Clone_Write p0 = some r) : FnO Try.prog 43 [.sl (List.map encWrite p0)] (.ref 0) [.arr 76 2 (List.map encWrite r)] := by
  have hr : p0 = r := by
    unfold slices_Clone_Write app at h
    split at h
    · simpa using h
    · cases h
  refine fn_of_T (N := 0) rfl Try.func43 rfl (by kernel_rfl) Try.ntmps43 rfl ?_
  show T _ _ _ _ (mkA 8 [(0, .sl (List.map encWrite p0))]) []
  refine T.seq ?_
  refine T.region ?_
  refine RS.op rfl (OP.q rfl (v_assign (v := .nils) rfl ?_))
  refine RS.nil ?_
  refine T.seq ?_
  refine T.seq ?_
  refine T.region ?_
  refine RS.op rfl (OP.q rfl (v_move (v := .sl (List.map encWrite p0)) rfl ?_))
  refine RS.op rfl (OP.q rfl (v_nileq Ty.s70 rfl rfl (fun z hz => ?_)))
  refine RS.nil ?_
  refine T.cond (b := z) rfl (fun hb => ?_) (fun hb => ?_)
  · refine T.seq ?_
    refine T.region ?_
    refine RS.op rfl (OP.q rfl (v_assign (v := .nils) rfl ?_))
    refine RS.nil ?_
    refine T.ret ?_
    refine res_tmpA (v := .nils) rfl ?_
    refine res_done ?_
    have h0 : p0 = [] := List.map_eq_nil_iff.1 (hz hb)
    exact ret_own (.ref 0) [(0, 76, 2)] [0] (by decide) (none_kept _) rfl (rn_ref rfl) (rw_arr (en := encWrite) (ys := []) rfl encWrite_p (by rw [← hr, h0]) (rw_nil)) ⟨rfl, rfl⟩
  · refine T.skip ?_
    refine T.seq ?_
    refine T.region ?_
    refine RS.op rfl (o_buildSlice (rows := List.map encWrite []) (vs := []) Ty.s70 Ty.z76 rfl rfl rfl rfl rfl (aw' := [.arr 76 2 (List.map encWrite [])]) rfl ?_)
    refine RS.op rfl (OP.q rfl (v_move (v := .sl (List.map encWrite p0)) rfl ?_))
    refine RS.op rfl (o_app_ref (en := encWrite) (xs := ([] : List Write)) (ys := p0) (r := r) Ty.s70 (fun _ => rfl) rfl rfl rfl h rfl (aw' := [.dead, .arr 76 2 (List.map encWrite r)]) rfl ?_)
    refine RS.op rfl (OP.q rfl (v_assign (v := .ref 1) rfl ?_))
    refine RS.nil ?_
    refine T.ret ?_
    refine res_tmpA (v := .ref 1) rfl ?_
    refine res_done ?_
    exact ret_own (.ref 0) [] [1] (by decide) (none_kept _) rfl (rn_ref rfl) (rw_arr rfl encWrite_p rfl (rw_nil)) ⟨rfl, rfl⟩
theorem disk_Check_c (p0 : Disk) (r : Int) (h : disk_Check p0 = some r) : Fn Try.prog 48 [.agg [.sl (List.map encS p0.Sectors), .sl (List.map encWrite p0.Wait)]] (.int .i64 r) := by
  unfold disk_Check at h
  refine fn_of_T (N := 0) rfl Try.func48 rfl (by kernel_rfl) Try.ntmps48 rfl ?_
  show T _ _ _ _ (mkA 48 [(0, .agg [.sl (List.map encS p0.Sectors), .sl (List.map encWrite p0.Wait)])]) []
  refine T.seq (T.region (so (o_box (cs := [.sl (List.map encS p0.Sectors), .sl (List.map encWrite p0.Wait)]) rfl rfl (aw' := [.box [.sl (List.map encS p0.Sectors), .sl (List.map encWrite p0.Wait)]]) rfl (sa (.int .i64 0) rfl (RS.nil (T.seq (T.join (Z := Unit) (fun _ => mkA 48 [(1, .ptr 0 0), (16, .bool ((decide (((p0.Sectors).length : Int) > 200)) || decide (((p0.Wait).length : Int) > 300)))]) (fun _ => [.box [.sl (List.map encS p0.Sectors), .sl (List.map encWrite p0.Wait)]]) (fun _ => True) (fun _ _ => ?_) (fun hK => ?_))))))))
  ·refine T.cond (b := ((decide (((p0.Sectors).length : Int) > 200)) || decide (((p0.Wait).length : Int) > 300))) rfl (fun hb_2 => ?_) (fun hb_2 => ?_)
   ·replace h := ite_T h hb_2
    refine T.seq (T.region (sa (.int .i64 2) rfl (RS.nil (T.rt (res_tmpA (v := .int .i64 2) rfl (res_done ?_))))))
    exact ret_data (v := .int .i64 2) rfl (pure_int _ _) ⟨congrArg (fun r : Int => (.int .i64 r : AV)) (Option.some.inj h), rfl⟩
   replace h := ite_F h hb_2
   refine T.skip (T.seq (T.seq (T.region (sq (v_fieldAddr_ptr Ty.f72_0 rfl (off' := 0) rfl (so (o_load_ptr rfl rfl (loadRow1 Ty.k29 (c := .sl (List.map encS p0.Sectors)) rfl (sq (v_len_sl Ty.s29 rfl (sm (.int .i64 0) rfl (RS.nil (T.block ?_)))))))))))))
   refine T.iter (fun ss_7 : Int => mkA 48 [(1, .ptr 0 0), (18, .sl (List.map encS p0.Sectors)), (19, .int .i64 ((p0.Sectors).length : Int)), (20, .int .i64 ss_7)]) (fun ss_7 => [.box [.sl (List.map encS p0.Sectors), .sl (List.map encWrite p0.Wait)]]) h (Weak.mkN [] [0] (by decide) (none_kept _) rfl ⟨rn_ptr rfl, rn_s rfl, rn_int rfl, rn_int rfl, trivial⟩ (rw_bs [.sl (List.map encS p0.Sectors), .sl (List.map encWrite p0.Wait)] rfl (rw_nil))) (fun ss_7 v_8 h hv_8 => ?_)
   revert hv_8 h; revert ss_7; intro s2 h hv_8
   replace h : disk_Check_l2 p0 s2 = some v_8 := h
   try dsimp only
   unfold disk_Check_l2 at h
   refine T.seq (T.region (sq (v_lss rfl rfl (RS.nil (T.seq (T.cond (b := decide (s2 < ((p0.Sectors).length : Int))) rfl (fun hb_9 => ?_) (fun hb_9 => ?_)))))))
   ·replace h := ite_T h hb_9
    refine T.skip (T.seq (T.block (T.seq ?_)))
    obtain ⟨x4, hx4, h⟩ := bind_some h
    refine T.region (sq (v_index_sl Ty.s29 (fun _ => rfl) rfl rfl hx4 (so (o_load_elt rfl (loadRow1 Ty.k9 (c := .str x4) rfl (sa (.str x4) rfl (RS.nil (T.seq (T.region (sm (.str x4) rfl (sq (v_len_str Try.underlying9 rfl (sq (v_gtr rfl rfl ?_))))))))))))))
    refine RS.nil (T.cond (b := decide (((x4).length : Int) > 64)) rfl (fun hb_10 => ?_) (fun hb_10 => ?_))
    ·replace h := ite_T h hb_10
     refine T.seq (T.region (sa (.int .i64 2) rfl (RS.nil (T.rt ?_))))
     obtain ⟨w_11, h, hw_11⟩ := map_inr h
     replace h := h.trans (congrArg some (hv_8 _ hw_11))
     refine res_tmpA (v := .int .i64 2) rfl (res_done ?_)
     exact ret_data (v := .int .i64 2) rfl (pure_int _ _) ⟨congrArg (fun r : Int => (.int .i64 r : AV)) (Option.some.inj h), rfl⟩
    replace h := ite_F h hb_10
    refine T.skip (T.region (sq (v_add rfl rfl (sm (.int .i64 (IntKind.i64.wrap (s2 + 1))) rfl (RS.nil ?_)))))
    exact ⟨IntKind.i64.wrap (s2 + 1), (Option.some.inj h).symm, Weak.mkN [] [0] (by decide) (none_kept _) rfl ⟨rn_ptr rfl, rn_s rfl, rn_int rfl, rn_int rfl, trivial⟩ (rw_bs [.sl (List.map encS p0.Sectors), .sl (List.map encWrite p0.Wait)] rfl (rw_nil))⟩
   replace h := ite_F h hb_9
   refine T.exit ?_
   obtain ⟨w_12, h, hw_12⟩ := map_inr h
   replace h := h.trans (congrArg some (hv_8 _ hw_12))
   refine T.seq (T.seq (T.region (sq (v_fieldAddr_ptr Ty.f72_1 rfl (off' := 1) rfl (so (o_load_ptr rfl rfl (loadRow1 Ty.k70 (c := .sl (List.map encWrite p0.Wait)) rfl (sq (v_len_sl Ty.s70 rfl (sm (.int .i64 0) rfl (RS.nil (T.block (T.iter (fun ss_21 : Int => mkA 48 [(29, .sl (List.map encWrite p0.Wait)), (30, .int .i64 ((p0.Wait).length : Int)), (31, .int .i64 ss_21)]) (fun ss_21 => []) h (Weak.mkN [] [] (by decide) (none_kept _) rfl ⟨rn_s rfl, rn_int rfl, rn_int rfl, trivial⟩ (rw_nil)) (fun ss_21 v_22 h hv_22 => ?_))))))))))))))
   revert hv_22 h; revert ss_21; intro s5 h hv_22
   replace h : disk_Check_l1 p0 s5 = some v_22 := h
   try dsimp only
   unfold disk_Check_l1 at h
   refine T.seq (T.region (sq (v_lss rfl rfl (RS.nil (T.seq (T.cond (b := decide (s5 < ((p0.Wait).length : Int))) rfl (fun hb_23 => ?_) (fun hb_23 => ?_)))))))
   ·replace h := ite_T h hb_23
    refine T.skip (T.seq (T.block (T.seq ?_)))
    obtain ⟨x7, hx7, h⟩ := bind_some h
    refine T.region (sq (v_index_sl Ty.s70 (fun _ => rfl) rfl rfl hx7 (so (o_load_elt rfl (loadRowA Ty.k76 Ty.c76 rfl (cs := [.int .i64 x7.At, .str x7.Bytes]) rfl (so (o_alloc Ty.z76 rfl (aw' := [.box [.int .i64 0, .str []]]) rfl (so (o_store_ptr Ty.c76 Ty.i76 rfl (vs := [.int .i64 x7.At, .str x7.Bytes]) rfl rfl rfl rfl (cs' := [.int .i64 x7.At, .str x7.Bytes]) rfl (aw' := [.box [.int .i64 x7.At, .str x7.Bytes]]) rfl (RS.nil (T.seq (T.join (Z := Unit) (fun _ => mkA 48 [(6, .ptr 0 0), (29, .sl (List.map encWrite p0.Wait)), (30, .int .i64 ((p0.Wait).length : Int)), (31, .int .i64 s5), (42, .bool ((decide (x7.At < 0)) || decide (x7.At ≥ 200)))]) (fun _ => [.box [.int .i64 x7.At, .str x7.Bytes]]) (fun _ => True) (fun _ _ => ?_) (fun hK => ?_)))))))))))))
    ·refine T.cond (b := ((decide (x7.At < 0)) || decide (x7.At ≥ 200))) rfl (fun hb_25 => ?_) (fun hb_25 => ?_)
     ·replace h := ite_T h hb_25
      refine T.seq (T.region (sa (.int .i64 3) rfl (RS.nil (T.rt ?_))))
      obtain ⟨w_26, h, hw_26⟩ := map_inr h
      replace h := h.trans (congrArg some (hv_22 _ hw_26))
      refine res_tmpA (v := .int .i64 3) rfl (res_done ?_)
      exact ret_data (v := .int .i64 3) rfl (pure_int _ _) ⟨congrArg (fun r : Int => (.int .i64 r : AV)) (Option.some.inj h), rfl⟩
     replace h := ite_F h hb_25
     refine T.skip (T.seq (T.region (sq (v_fieldAddr_ptr Ty.f76_1 rfl (off' := 1) rfl (so (o_load_ptr rfl rfl (loadRow1 Ty.k9 (c := .str x7.Bytes) rfl (sq (v_len_str Try.underlying9 rfl (sq (v_gtr rfl rfl (RS.nil (T.cond (b := decide (((x7.Bytes).length : Int) > 64)) rfl (fun hb_27 => ?_) (fun hb_27 => ?_))))))))))))))
     ·replace h := ite_T h hb_27
      refine T.seq (T.region (sa (.int .i64 2) rfl (RS.nil (T.rt ?_))))
      obtain ⟨w_28, h, hw_28⟩ := map_inr h
      replace h := h.trans (congrArg some (hv_22 _ hw_28))
      refine res_tmpA (v := .int .i64 2) rfl (res_done ?_)
      exact ret_data (v := .int .i64 2) rfl (pure_int _ _) ⟨congrArg (fun r : Int => (.int .i64 r : AV)) (Option.some.inj h), rfl⟩
     replace h := ite_F h hb_27
     refine T.skip (T.region (sq (v_add rfl rfl (sm (.int .i64 (IntKind.i64.wrap (s5 + 1))) rfl (RS.nil ?_)))))
     exact ⟨IntKind.i64.wrap (s5 + 1), (Option.some.inj h).symm, Weak.mkN [] [] (by decide) (none_kept _) rfl ⟨rn_s rfl, rn_int rfl, rn_int rfl, trivial⟩ (rw_nil)⟩
    refine T.region (sq (v_fieldAddr_ptr Ty.f76_0 rfl (off' := 0) rfl (so (o_load_ptr rfl rfl (loadRow1 Ty.k3 (c := .int .i64 x7.At) rfl (sq (v_lss rfl rfl (sm (.bool (decide (x7.At < 0))) rfl ?_))))))))
    rcases bool_cases (decide (x7.At < 0)) with hb_24 | hb_24
    ·refine sn hb_24 (sn hb_24 (sn hb_24 (sq (v_pickT (v := .bool true) rfl hb_24 rfl (RS.nil ?_)))))
     exact T.weakR (hK () trivial) (Weak.mkN [] [0] (by decide) (none_kept _) rfl ⟨rn_ptr rfl, rn_s rfl, rn_int rfl, rn_int rfl, rn_bool (by simp only [hb_24, bz, if_true, if_false, Bool.false_eq_true]), trivial⟩ (rw_bs [.int .i64 x7.At, .str x7.Bytes] rfl (rw_nil)))
    refine yq hb_24 (v_fieldAddr_ptr Ty.f76_0 rfl (off' := 0) rfl (yo hb_24 (o_load_ptr rfl rfl (loadRow1 Ty.k3 (c := .int .i64 x7.At) rfl (yq hb_24 (v_geq rfl rfl (sq (v_pickF (v := .bool (decide (x7.At ≥ 200))) rfl hb_24 rfl (RS.nil ?_)))))))))
    exact T.weakR (hK () trivial) (Weak.mkN [] [0] (by decide) (none_kept _) rfl ⟨rn_ptr rfl, rn_s rfl, rn_int rfl, rn_int rfl, rn_bool (by simp only [hb_24, bz, if_true, if_false, Bool.false_eq_true]), trivial⟩ (rw_bs [.int .i64 x7.At, .str x7.Bytes] rfl (rw_nil)))
   replace h := ite_F h hb_23
   refine T.exit ?_
   obtain ⟨w_29, h, hw_29⟩ := map_inr h
   replace h := h.trans (congrArg some (hv_22 _ hw_29))
   refine T.seq (T.region (sa (.int .i64 0) rfl (RS.nil (T.rt (res_tmpA (v := .int .i64 0) rfl (res_done ?_))))))
   exact ret_data (v := .int .i64 0) rfl (pure_int _ _) ⟨congrArg (fun r : Int => (.int .i64 r : AV)) (Option.some.inj h), rfl⟩
  refine T.region (sq (v_fieldAddr_ptr Ty.f72_0 rfl (off' := 0) rfl (so (o_load_ptr rfl rfl (loadRow1 Ty.k29 (c := .sl (List.map encS p0.Sectors)) rfl (sq (v_len_sl Ty.s29 rfl (sq (v_gtr rfl rfl (sm (.bool (decide (((p0.Sectors).length : Int) > 200))) rfl ?_))))))))))
  rcases bool_cases (decide (((p0.Sectors).length : Int) > 200)) with hb_1 | hb_1
  ·refine sn hb_1 (sn hb_1 (sn hb_1 (sn hb_1 (sq (v_pickT (v := .bool true) rfl hb_1 rfl (RS.nil ?_))))))
   exact T.weakR (hK () trivial) (Weak.mkN [] [0] (by decide) (none_kept _) rfl ⟨rn_ptr rfl, rn_bool (by simp only [hb_1, bz, if_true, if_false, Bool.false_eq_true]), trivial⟩ (rw_bs [.sl (List.map encS p0.Sectors), .sl (List.map encWrite p0.Wait)] rfl (rw_nil)))
  refine yq hb_1 (v_fieldAddr_ptr Ty.f72_1 rfl (off' := 1) rfl (yo hb_1 (o_load_ptr rfl rfl (loadRow1 Ty.k70 (c := .sl (List.map encWrite p0.Wait)) rfl (yq hb_1 (v_len_sl Ty.s70 rfl (yq hb_1 (v_gtr rfl rfl (sq (v_pickF (v := .bool (decide (((p0.Wait).length : Int) > 300))) rfl hb_1 rfl (RS.nil ?_)))))))))))
  exact T.weakR (hK () trivial) (Weak.mkN [] [0] (by decide) (none_kept _) rfl ⟨rn_ptr rfl, rn_bool (by simp only [hb_1, bz, if_true, if_false, Bool.false_eq_true]), trivial⟩ (rw_bs [.sl (List.map encS p0.Sectors), .sl (List.map encWrite p0.Wait)] rfl (rw_nil)))
theorem disk_Read_c (p0 : Disk) (p1 : Int) (r : (List UInt8) × Int) (h : disk_Read p0 p1 = some r) : Fn Try.prog 45 [.agg [.sl (List.map encS p0.Sectors), .sl (List.map encWrite p0.Wait)], .int .i64 p1] (.tup [.str r.1, .int .i64 r.2]) := by
  unfold disk_Read at h
  refine fn_of_T (N := 0) rfl Try.func45 rfl (by kernel_rfl) Try.ntmps45 rfl ?_
  show T _ _ _ _ (mkA 46 [(0, .agg [.sl (List.map encS p0.Sectors), .sl (List.map encWrite p0.Wait)]), (1, .int .i64 p1)]) []
  refine T.seq (T.region (so (o_box (cs := [.sl (List.map encS p0.Sectors), .sl (List.map encWrite p0.Wait)]) rfl rfl (aw' := [.box [.sl (List.map encS p0.Sectors), .sl (List.map encWrite p0.Wait)]]) rfl (sa (.str []) rfl (sa (.int .i64 0) rfl (RS.nil (T.seq (T.seq ?_))))))))
  obtain ⟨x2, hx2, h⟩ := bind_some h
  refine T.region (so (o_load_ptr rfl rfl (loadRowA Ty.k72 Ty.c72 rfl (cs := [.sl (List.map encS p0.Sectors), .sl (List.map encWrite p0.Wait)]) rfl (so (o_call (as0 := [.agg [.sl (List.map encS p0.Sectors), .sl (List.map encWrite p0.Wait)]]) (as1 := [.agg [.sl (List.map encS p0.Sectors), .sl (List.map encWrite p0.Wait)]]) (caps := []) (aw1 := [.box [.sl (List.map encS p0.Sectors), .sl (List.map encWrite p0.Wait)]]) rfl rfl rfl (k_flat (v := .int .i64 x2) (disk_Check_c p0 x2 hx2) (⟨pure_agg _ (pures_mem (⟨pure_map encS_p _, pure_map encWrite_p _, trivial⟩)), trivial⟩) rfl (sa (.int .i64 x2) rfl (RS.nil (T.seq (T.region (sm (.int .i64 x2) rfl (sq (v_neq rfl rfl (RS.nil ?_))))))))))))))
  refine T.cond (b := x2 != 0) rfl (fun hb_1 => ?_) (fun hb_1 => ?_)
  ·replace h := ite_T h hb_1
   refine T.seq (T.region (sm (.int .i64 x2) rfl (sa (.str []) rfl (sa (.int .i64 x2) rfl (RS.nil (T.rt (res_tmpA (v := .str []) rfl (res_tmpA (v := .int .i64 x2) rfl (res_done ?_)))))))))
   exact ret_data (v := .tup [.str [], .int .i64 x2]) rfl (pure_tup _ (pures_mem (⟨pure_str _, pure_int _ _, trivial⟩))) ⟨congrArg (fun r : (List UInt8) × Int => (.tup [.str r.1, .int .i64 r.2] : AV)) (Option.some.inj h), rfl⟩
  replace h := ite_F h hb_1
  refine T.skip (T.seq (T.join (Z := Unit) (fun _ => mkA 46 [(1, .int .i64 p1), (2, .ptr 0 0), (20, .bool ((decide (p1 < 0)) || decide (p1 ≥ 200)))]) (fun _ => [.box [.sl (List.map encS p0.Sectors), .sl (List.map encWrite p0.Wait)]]) (fun _ => True) (fun _ _ => ?_) (fun hK => ?_)))
  ·refine T.cond (b := ((decide (p1 < 0)) || decide (p1 ≥ 200))) rfl (fun hb_3 => ?_) (fun hb_3 => ?_)
   ·replace h := ite_T h hb_3
    refine T.seq (T.region (sa (.str []) rfl (sa (.int .i64 3) rfl (RS.nil (T.rt (res_tmpA (v := .str []) rfl (res_tmpA (v := .int .i64 3) rfl (res_done ?_))))))))
    exact ret_data (v := .tup [.str [], .int .i64 3]) rfl (pure_tup _ (pures_mem (⟨pure_str _, pure_int _ _, trivial⟩))) ⟨congrArg (fun r : (List UInt8) × Int => (.tup [.str r.1, .int .i64 r.2] : AV)) (Option.some.inj h), rfl⟩
   replace h := ite_F h hb_3
   refine T.skip (T.seq (T.region (sa (.str []) rfl (RS.nil (T.join (Z := List UInt8) (fun zz_5 => mkA 46 [(1, .int .i64 p1), (2, .ptr 0 0), (7, .str zz_5)]) (fun zz_5 => [.box [.sl (List.map encS p0.Sectors), .sl (List.map encWrite p0.Wait)]]) (fun zz_5 => disk_Read_k2 p0 p1 zz_5 = some r) (fun zz_5 h => ?_) (fun hK2 => ?_))))))
   ·revert h; revert zz_5; intro z5 h
    replace h : disk_Read_k2 p0 p1 z5 = some r := h
    try dsimp only
    unfold disk_Read_k2 at h
    refine T.seq (T.seq (T.region (sq (v_fieldAddr_ptr Ty.f72_1 rfl (off' := 1) rfl (so (o_load_ptr rfl rfl (loadRow1 Ty.k70 (c := .sl (List.map encWrite p0.Wait)) rfl (sq (v_len_sl Ty.s70 rfl (sm (.int .i64 0) rfl (RS.nil (T.block (T.iter (fun ss_10 : (List UInt8) × Int => mkA 46 [(1, .int .i64 p1), (7, .str ss_10.1), (32, .sl (List.map encWrite p0.Wait)), (33, .int .i64 ((p0.Wait).length : Int)), (34, .int .i64 ss_10.2)]) (fun ss_10 => []) h (Weak.mkN [] [] (by decide) (none_kept _) rfl ⟨rn_int rfl, rn_str rfl, rn_s rfl, rn_int rfl, rn_int rfl, trivial⟩ (rw_nil)) (fun ss_10 v_11 h hv_11 => ?_))))))))))))))
    obtain ⟨s6, s7⟩ := ss_10
    replace h : disk_Read_l1 p0 p1 s6 s7 = some v_11 := h
    try dsimp only
    unfold disk_Read_l1 at h
    refine T.seq (T.region (sq (v_lss rfl rfl (RS.nil (T.seq (T.cond (b := decide (s7 < ((p0.Wait).length : Int))) rfl (fun hb_12 => ?_) (fun hb_12 => ?_)))))))
    ·replace h := ite_T h hb_12
     refine T.skip (T.seq (T.block (T.seq ?_)))
     obtain ⟨x9, hx9, h⟩ := bind_some h
     refine T.region (sq (v_index_sl Ty.s70 (fun _ => rfl) rfl rfl hx9 (so (o_load_elt rfl (loadRowA Ty.k76 Ty.c76 rfl (cs := [.int .i64 x9.At, .str x9.Bytes]) rfl (so (o_alloc Ty.z76 rfl (aw' := [.box [.int .i64 0, .str []]]) rfl (so (o_store_ptr Ty.c76 Ty.i76 rfl (vs := [.int .i64 x9.At, .str x9.Bytes]) rfl rfl rfl rfl (cs' := [.int .i64 x9.At, .str x9.Bytes]) rfl (aw' := [.box [.int .i64 x9.At, .str x9.Bytes]]) rfl (RS.nil (T.seq (T.region (sq (v_fieldAddr_ptr Ty.f76_0 rfl (off' := 0) rfl (so (o_load_ptr rfl rfl (loadRow1 Ty.k3 (c := .int .i64 x9.At) rfl ?_)))))))))))))))))
     refine sm (.int .i64 p1) rfl (sq (v_eql rfl rfl (RS.nil (T.cond (b := x9.At == p1) rfl (fun hb_13 => ?_) (fun hb_13 => ?_)))))
     ·replace h := ite_T h hb_13
      refine T.region (sq (v_fieldAddr_ptr Ty.f76_1 rfl (off' := 1) rfl (so (o_load_ptr rfl rfl (loadRow1 Ty.k9 (c := .str x9.Bytes) rfl (sa (.str x9.Bytes) rfl (RS.nil (T.region (sq (v_add rfl rfl (sm (.int .i64 (IntKind.i64.wrap (s7 + 1))) rfl (RS.nil ?_))))))))))))
      exact ⟨(x9.Bytes, IntKind.i64.wrap (s7 + 1)), (Option.some.inj h).symm, Weak.mkN [] [] (by decide) (none_kept _) rfl ⟨rn_int rfl, rn_str rfl, rn_s rfl, rn_int rfl, rn_int rfl, trivial⟩ (rw_nil)⟩
     replace h := ite_F h hb_13
     refine T.skip (T.region (sq (v_add rfl rfl (sm (.int .i64 (IntKind.i64.wrap (s7 + 1))) rfl (RS.nil ?_)))))
     exact ⟨(s6, IntKind.i64.wrap (s7 + 1)), (Option.some.inj h).symm, Weak.mkN [] [] (by decide) (none_kept _) rfl ⟨rn_int rfl, rn_str rfl, rn_s rfl, rn_int rfl, rn_int rfl, trivial⟩ (rw_nil)⟩
    replace h := ite_F h hb_12
    refine T.exit ?_
    obtain ⟨w_14, h, hw_14⟩ := map_inr h
    replace h := h.trans (congrArg some (hv_11 _ hw_14))
    refine T.seq (T.region (sm (.str s6) rfl (sa (.str s6) rfl (sa (.int .i64 0) rfl (RS.nil (T.rt (res_tmpA (v := .str s6) rfl (res_tmpA (v := .int .i64 0) rfl (res_done ?_)))))))))
    exact ret_data (v := .tup [.str s6, .int .i64 0]) rfl (pure_tup _ (pures_mem (⟨pure_str _, pure_int _ _, trivial⟩))) ⟨congrArg (fun r : (List UInt8) × Int => (.tup [.str r.1, .int .i64 r.2] : AV)) (Option.some.inj h), rfl⟩
   refine T.seq (T.region (sm (.int .i64 p1) rfl (sq (v_fieldAddr_ptr Ty.f72_0 rfl (off' := 0) rfl (so (o_load_ptr rfl rfl (loadRow1 Ty.k29 (c := .sl (List.map encS p0.Sectors)) rfl (sq (v_len_sl Ty.s29 rfl (sq (v_lss rfl rfl (RS.nil (T.cond (b := decide (p1 < ((p0.Sectors).length : Int))) rfl (fun hb_15 => ?_) (fun hb_15 => ?_))))))))))))))
   ·replace h := ite_T h hb_15
    obtain ⟨x4, hx4, h⟩ := bind_some h
    refine T.region (sq (v_fieldAddr_ptr Ty.f72_0 rfl (off' := 0) rfl (so (o_load_ptr rfl rfl (loadRow1 Ty.k29 (c := .sl (List.map encS p0.Sectors)) rfl (sm (.int .i64 p1) rfl (sq (v_index_sl Ty.s29 (fun _ => rfl) rfl rfl hx4 (so (o_load_elt rfl (loadRow1 Ty.k9 (c := .str x4) rfl (sa (.str x4) rfl (RS.nil ?_)))))))))))))
    exact T.sub (hK2 x4 h) ⟨rfl, rfl, rfl, trivial⟩
   replace h := ite_F h hb_15
   refine T.skip ?_
   exact T.sub (hK2 [] h) ⟨rfl, rfl, rfl, trivial⟩
  refine T.region (sm (.int .i64 p1) rfl (sq (v_lss rfl rfl (sm (.bool (decide (p1 < 0))) rfl ?_))))
  rcases bool_cases (decide (p1 < 0)) with hb_2 | hb_2
  ·refine sn hb_2 (sn hb_2 (sq (v_pickT (v := .bool true) rfl hb_2 rfl (RS.nil ?_))))
   exact T.weakR (hK () trivial) (Weak.mkN [] [0] (by decide) (none_kept _) rfl ⟨rn_int rfl, rn_ptr rfl, rn_bool (by simp only [hb_2, bz, if_true, if_false, Bool.false_eq_true]), trivial⟩ (rw_bs [.sl (List.map encS p0.Sectors), .sl (List.map encWrite p0.Wait)] rfl (rw_nil)))
  refine yq hb_2 (v_move (v := .int .i64 p1) rfl (yq hb_2 (v_geq rfl rfl (sq (v_pickF (v := .bool (decide (p1 ≥ 200))) rfl hb_2 rfl (RS.nil ?_))))))
  exact T.weakR (hK () trivial) (Weak.mkN [] [0] (by decide) (none_kept _) rfl ⟨rn_int rfl, rn_ptr rfl, rn_bool (by simp only [hb_2, bz, if_true, if_false, Bool.false_eq_true]), trivial⟩ (rw_bs [.sl (List.map encS p0.Sectors), .sl (List.map encWrite p0.Wait)] rfl (rw_nil)))
theorem crossref_CheckDisk_c (p0 : Disk) (r : Int) (h : crossref_CheckDisk p0 = some r) : Fn Try.prog 46 [.agg [.sl (List.map encS p0.Sectors), .sl (List.map encWrite p0.Wait)]] (.int .i64 r) := by
  unfold crossref_CheckDisk at h
  refine fn_of_T (N := 0) rfl Try.func46 rfl (by kernel_rfl) Try.ntmps46 rfl ?_
  show T _ _ _ _ (mkA 48 [(0, .agg [.sl (List.map encS p0.Sectors), .sl (List.map encWrite p0.Wait)])]) []
  refine T.seq (T.region (so (o_box (cs := [.sl (List.map encS p0.Sectors), .sl (List.map encWrite p0.Wait)]) rfl rfl (aw' := [.box [.sl (List.map encS p0.Sectors), .sl (List.map encWrite p0.Wait)]]) rfl (sa (.int .i64 0) rfl (RS.nil (T.seq (T.join (Z := Unit) (fun _ => mkA 48 [(1, .ptr 0 0), (16, .bool ((decide (((p0.Sectors).length : Int) > 200)) || decide (((p0.Wait).length : Int) > 300)))]) (fun _ => [.box [.sl (List.map encS p0.Sectors), .sl (List.map encWrite p0.Wait)]]) (fun _ => True) (fun _ _ => ?_) (fun hK => ?_))))))))
  ·refine T.cond (b := ((decide (((p0.Sectors).length : Int) > 200)) || decide (((p0.Wait).length : Int) > 300))) rfl (fun hb_2 => ?_) (fun hb_2 => ?_)
   ·replace h := ite_T h hb_2
    refine T.seq (T.region (sa (.int .i64 2) rfl (RS.nil (T.rt (res_tmpA (v := .int .i64 2) rfl (res_done ?_))))))
    exact ret_data (v := .int .i64 2) rfl (pure_int _ _) ⟨congrArg (fun r : Int => (.int .i64 r : AV)) (Option.some.inj h), rfl⟩
   replace h := ite_F h hb_2
   refine T.skip (T.seq (T.seq (T.region (sq (v_fieldAddr_ptr Ty.f72_0 rfl (off' := 0) rfl (so (o_load_ptr rfl rfl (loadRow1 Ty.k29 (c := .sl (List.map encS p0.Sectors)) rfl (sq (v_len_sl Ty.s29 rfl (sm (.int .i64 0) rfl (RS.nil (T.block ?_)))))))))))))
   refine T.iter (fun ss_7 : Int => mkA 48 [(1, .ptr 0 0), (18, .sl (List.map encS p0.Sectors)), (19, .int .i64 ((p0.Sectors).length : Int)), (20, .int .i64 ss_7)]) (fun ss_7 => [.box [.sl (List.map encS p0.Sectors), .sl (List.map encWrite p0.Wait)]]) h (Weak.mkN [] [0] (by decide) (none_kept _) rfl ⟨rn_ptr rfl, rn_s rfl, rn_int rfl, rn_int rfl, trivial⟩ (rw_bs [.sl (List.map encS p0.Sectors), .sl (List.map encWrite p0.Wait)] rfl (rw_nil))) (fun ss_7 v_8 h hv_8 => ?_)
   revert hv_8 h; revert ss_7; intro s2 h hv_8
   replace h : crossref_CheckDisk_l2 p0 s2 = some v_8 := h
   try dsimp only
   unfold crossref_CheckDisk_l2 at h
   refine T.seq (T.region (sq (v_lss rfl rfl (RS.nil (T.seq (T.cond (b := decide (s2 < ((p0.Sectors).length : Int))) rfl (fun hb_9 => ?_) (fun hb_9 => ?_)))))))
   ·replace h := ite_T h hb_9
    refine T.skip (T.seq (T.block (T.seq ?_)))
    obtain ⟨x4, hx4, h⟩ := bind_some h
    refine T.region (sq (v_index_sl Ty.s29 (fun _ => rfl) rfl rfl hx4 (so (o_load_elt rfl (loadRow1 Ty.k9 (c := .str x4) rfl (sa (.str x4) rfl (RS.nil (T.seq (T.region (sm (.str x4) rfl (sq (v_len_str Try.underlying9 rfl (sq (v_gtr rfl rfl ?_))))))))))))))
    refine RS.nil (T.cond (b := decide (((x4).length : Int) > 64)) rfl (fun hb_10 => ?_) (fun hb_10 => ?_))
    ·replace h := ite_T h hb_10
     refine T.seq (T.region (sa (.int .i64 2) rfl (RS.nil (T.rt ?_))))
     obtain ⟨w_11, h, hw_11⟩ := map_inr h
     replace h := h.trans (congrArg some (hv_8 _ hw_11))
     refine res_tmpA (v := .int .i64 2) rfl (res_done ?_)
     exact ret_data (v := .int .i64 2) rfl (pure_int _ _) ⟨congrArg (fun r : Int => (.int .i64 r : AV)) (Option.some.inj h), rfl⟩
    replace h := ite_F h hb_10
    refine T.skip (T.region (sq (v_add rfl rfl (sm (.int .i64 (IntKind.i64.wrap (s2 + 1))) rfl (RS.nil ?_)))))
    exact ⟨IntKind.i64.wrap (s2 + 1), (Option.some.inj h).symm, Weak.mkN [] [0] (by decide) (none_kept _) rfl ⟨rn_ptr rfl, rn_s rfl, rn_int rfl, rn_int rfl, trivial⟩ (rw_bs [.sl (List.map encS p0.Sectors), .sl (List.map encWrite p0.Wait)] rfl (rw_nil))⟩
   replace h := ite_F h hb_9
   refine T.exit ?_
   obtain ⟨w_12, h, hw_12⟩ := map_inr h
   replace h := h.trans (congrArg some (hv_8 _ hw_12))
   refine T.seq (T.seq (T.region (sq (v_fieldAddr_ptr Ty.f72_1 rfl (off' := 1) rfl (so (o_load_ptr rfl rfl (loadRow1 Ty.k70 (c := .sl (List.map encWrite p0.Wait)) rfl (sq (v_len_sl Ty.s70 rfl (sm (.int .i64 0) rfl (RS.nil (T.block (T.iter (fun ss_21 : Int => mkA 48 [(29, .sl (List.map encWrite p0.Wait)), (30, .int .i64 ((p0.Wait).length : Int)), (31, .int .i64 ss_21)]) (fun ss_21 => []) h (Weak.mkN [] [] (by decide) (none_kept _) rfl ⟨rn_s rfl, rn_int rfl, rn_int rfl, trivial⟩ (rw_nil)) (fun ss_21 v_22 h hv_22 => ?_))))))))))))))
   revert hv_22 h; revert ss_21; intro s5 h hv_22
   replace h : crossref_CheckDisk_l1 p0 s5 = some v_22 := h
   try dsimp only
   unfold crossref_CheckDisk_l1 at h
   refine T.seq (T.region (sq (v_lss rfl rfl (RS.nil (T.seq (T.cond (b := decide (s5 < ((p0.Wait).length : Int))) rfl (fun hb_23 => ?_) (fun hb_23 => ?_)))))))
   ·replace h := ite_T h hb_23
    refine T.skip (T.seq (T.block (T.seq ?_)))
    obtain ⟨x7, hx7, h⟩ := bind_some h
    refine T.region (sq (v_index_sl Ty.s70 (fun _ => rfl) rfl rfl hx7 (so (o_load_elt rfl (loadRowA Ty.k76 Ty.c76 rfl (cs := [.int .i64 x7.At, .str x7.Bytes]) rfl (so (o_alloc Ty.z76 rfl (aw' := [.box [.int .i64 0, .str []]]) rfl (so (o_store_ptr Ty.c76 Ty.i76 rfl (vs := [.int .i64 x7.At, .str x7.Bytes]) rfl rfl rfl rfl (cs' := [.int .i64 x7.At, .str x7.Bytes]) rfl (aw' := [.box [.int .i64 x7.At, .str x7.Bytes]]) rfl (RS.nil (T.seq (T.join (Z := Unit) (fun _ => mkA 48 [(6, .ptr 0 0), (29, .sl (List.map encWrite p0.Wait)), (30, .int .i64 ((p0.Wait).length : Int)), (31, .int .i64 s5), (42, .bool ((decide (x7.At < 0)) || decide (x7.At > 199)))]) (fun _ => [.box [.int .i64 x7.At, .str x7.Bytes]]) (fun _ => True) (fun _ _ => ?_) (fun hK => ?_)))))))))))))
    ·refine T.cond (b := ((decide (x7.At < 0)) || decide (x7.At > 199))) rfl (fun hb_25 => ?_) (fun hb_25 => ?_)
     ·replace h := ite_T h hb_25
      refine T.seq (T.region (sa (.int .i64 3) rfl (RS.nil (T.rt ?_))))
      obtain ⟨w_26, h, hw_26⟩ := map_inr h
      replace h := h.trans (congrArg some (hv_22 _ hw_26))
      refine res_tmpA (v := .int .i64 3) rfl (res_done ?_)
      exact ret_data (v := .int .i64 3) rfl (pure_int _ _) ⟨congrArg (fun r : Int => (.int .i64 r : AV)) (Option.some.inj h), rfl⟩
     replace h := ite_F h hb_25
     refine T.skip (T.seq (T.region (sq (v_fieldAddr_ptr Ty.f76_1 rfl (off' := 1) rfl (so (o_load_ptr rfl rfl (loadRow1 Ty.k9 (c := .str x7.Bytes) rfl (sq (v_len_str Try.underlying9 rfl (sq (v_gtr rfl rfl (RS.nil (T.cond (b := decide (((x7.Bytes).length : Int) > 64)) rfl (fun hb_27 => ?_) (fun hb_27 => ?_))))))))))))))
     ·replace h := ite_T h hb_27
      refine T.seq (T.region (sa (.int .i64 2) rfl (RS.nil (T.rt ?_))))
      obtain ⟨w_28, h, hw_28⟩ := map_inr h
      replace h := h.trans (congrArg some (hv_22 _ hw_28))
      refine res_tmpA (v := .int .i64 2) rfl (res_done ?_)
      exact ret_data (v := .int .i64 2) rfl (pure_int _ _) ⟨congrArg (fun r : Int => (.int .i64 r : AV)) (Option.some.inj h), rfl⟩
     replace h := ite_F h hb_27
     refine T.skip (T.region (sq (v_add rfl rfl (sm (.int .i64 (IntKind.i64.wrap (s5 + 1))) rfl (RS.nil ?_)))))
     exact ⟨IntKind.i64.wrap (s5 + 1), (Option.some.inj h).symm, Weak.mkN [] [] (by decide) (none_kept _) rfl ⟨rn_s rfl, rn_int rfl, rn_int rfl, trivial⟩ (rw_nil)⟩
    refine T.region (sq (v_fieldAddr_ptr Ty.f76_0 rfl (off' := 0) rfl (so (o_load_ptr rfl rfl (loadRow1 Ty.k3 (c := .int .i64 x7.At) rfl (sq (v_lss rfl rfl (sm (.bool (decide (x7.At < 0))) rfl ?_))))))))
    rcases bool_cases (decide (x7.At < 0)) with hb_24 | hb_24
    ·refine sn hb_24 (sn hb_24 (sn hb_24 (sq (v_pickT (v := .bool true) rfl hb_24 rfl (RS.nil ?_)))))
     exact T.weakR (hK () trivial) (Weak.mkN [] [0] (by decide) (none_kept _) rfl ⟨rn_ptr rfl, rn_s rfl, rn_int rfl, rn_int rfl, rn_bool (by simp only [hb_24, bz, if_true, if_false, Bool.false_eq_true]), trivial⟩ (rw_bs [.int .i64 x7.At, .str x7.Bytes] rfl (rw_nil)))
    refine yq hb_24 (v_fieldAddr_ptr Ty.f76_0 rfl (off' := 0) rfl (yo hb_24 (o_load_ptr rfl rfl (loadRow1 Ty.k3 (c := .int .i64 x7.At) rfl (yq hb_24 (v_gtr rfl rfl (sq (v_pickF (v := .bool (decide (x7.At > 199))) rfl hb_24 rfl (RS.nil ?_)))))))))
    exact T.weakR (hK () trivial) (Weak.mkN [] [0] (by decide) (none_kept _) rfl ⟨rn_ptr rfl, rn_s rfl, rn_int rfl, rn_int rfl, rn_bool (by simp only [hb_24, bz, if_true, if_false, Bool.false_eq_true]), trivial⟩ (rw_bs [.int .i64 x7.At, .str x7.Bytes] rfl (rw_nil)))
   replace h := ite_F h hb_23
   refine T.exit ?_
   obtain ⟨w_29, h, hw_29⟩ := map_inr h
   replace h := h.trans (congrArg some (hv_22 _ hw_29))
   refine T.seq (T.region (sa (.int .i64 0) rfl (RS.nil (T.rt (res_tmpA (v := .int .i64 0) rfl (res_done ?_))))))
   exact ret_data (v := .int .i64 0) rfl (pure_int _ _) ⟨congrArg (fun r : Int => (.int .i64 r : AV)) (Option.some.inj h), rfl⟩
  refine T.region (sq (v_fieldAddr_ptr Ty.f72_0 rfl (off' := 0) rfl (so (o_load_ptr rfl rfl (loadRow1 Ty.k29 (c := .sl (List.map encS p0.Sectors)) rfl (sq (v_len_sl Ty.s29 rfl (sq (v_gtr rfl rfl (sm (.bool (decide (((p0.Sectors).length : Int) > 200))) rfl ?_))))))))))
  rcases bool_cases (decide (((p0.Sectors).length : Int) > 200)) with hb_1 | hb_1
  ·refine sn hb_1 (sn hb_1 (sn hb_1 (sn hb_1 (sq (v_pickT (v := .bool true) rfl hb_1 rfl (RS.nil ?_))))))
   exact T.weakR (hK () trivial) (Weak.mkN [] [0] (by decide) (none_kept _) rfl ⟨rn_ptr rfl, rn_bool (by simp only [hb_1, bz, if_true, if_false, Bool.false_eq_true]), trivial⟩ (rw_bs [.sl (List.map encS p0.Sectors), .sl (List.map encWrite p0.Wait)] rfl (rw_nil)))
  refine yq hb_1 (v_fieldAddr_ptr Ty.f72_1 rfl (off' := 1) rfl (yo hb_1 (o_load_ptr rfl rfl (loadRow1 Ty.k70 (c := .sl (List.map encWrite p0.Wait)) rfl (yq hb_1 (v_len_sl Ty.s70 rfl (yq hb_1 (v_gtr rfl rfl (sq (v_pickF (v := .bool (decide (((p0.Wait).length : Int) > 300))) rfl hb_1 rfl (RS.nil ?_)))))))))))
  exact T.weakR (hK () trivial) (Weak.mkN [] [0] (by decide) (none_kept _) rfl ⟨rn_ptr rfl, rn_bool (by simp only [hb_1, bz, if_true, if_false, Bool.false_eq_true]), trivial⟩ (rw_bs [.sl (List.map encS p0.Sectors), .sl (List.map encWrite p0.Wait)] rfl (rw_nil)))
theorem disk_Write_c (p0 : Disk) (p1 : Int) (p2 : List UInt8) (r : Disk × Int) (h : disk_Write p0 p1 p2 = some r) : Fn Try.prog 44 [.agg [.sl (List.map encS p0.Sectors), .sl (List.map encWrite p0.Wait)], .int .i64 p1, .str p2] (.tup [.agg [.sl (List.map encS r.1.Sectors), .sl (List.map encWrite r.1.Wait)], .int .i64 r.2]) := by
  unfold disk_Write at h
  refine fn_of_T (N := 0) rfl Try.func44 rfl (by kernel_rfl) Try.ntmps44 rfl ?_
  show T _ _ _ _ (mkA 43 [(0, .agg [.sl (List.map encS p0.Sectors), .sl (List.map encWrite p0.Wait)]), (1, .int .i64 p1), (2, .str p2)]) []
  refine T.seq (T.region (so (o_box (cs := [.sl (List.map encS p0.Sectors), .sl (List.map encWrite p0.Wait)]) rfl rfl (aw' := [.box [.sl (List.map encS p0.Sectors), .sl (List.map encWrite p0.Wait)]]) rfl (so (o_alloc Ty.z72 rfl (aw' := [.box [.sl (List.map encS p0.Sectors), .sl (List.map encWrite p0.Wait)], .box [.nils, .nils]]) rfl (sa (.int .i64 0) rfl (RS.nil (T.seq (T.seq ?_)))))))))
  obtain ⟨x2, hx2, h⟩ := bind_some h
  refine T.region (so (o_load_ptr rfl rfl (loadRowA Ty.k72 Ty.c72 rfl (cs := [.sl (List.map encS p0.Sectors), .sl (List.map encWrite p0.Wait)]) rfl (so (o_call (as0 := [.agg [.sl (List.map encS p0.Sectors), .sl (List.map encWrite p0.Wait)]]) (as1 := [.agg [.sl (List.map encS p0.Sectors), .sl (List.map encWrite p0.Wait)]]) (caps := []) (aw1 := [.box [.sl (List.map encS p0.Sectors), .sl (List.map encWrite p0.Wait)], .box [.nils, .nils]]) rfl rfl rfl (k_flat (v := .int .i64 x2) (disk_Check_c p0 x2 hx2) (⟨pure_agg _ (pures_mem (⟨pure_map encS_p _, pure_map encWrite_p _, trivial⟩)), trivial⟩) rfl (sa (.int .i64 x2) rfl (RS.nil (T.seq (T.region (sm (.int .i64 x2) rfl (sq (v_neq rfl rfl (RS.nil ?_))))))))))))))
  refine T.cond (b := x2 != 0) rfl (fun hb_1 => ?_) (fun hb_1 => ?_)
  ·replace h := ite_T h hb_1
   refine T.seq (T.region (sq (v_build (cs := [.nils, .nils]) Ty.z72 Ty.p72 rfl (sm (.int .i64 x2) rfl (so (o_store_ptr Ty.c72 Ty.i72 rfl (vs := [.nils, .nils]) rfl rfl rfl rfl (cs' := [.nils, .nils]) rfl (aw' := [.box [.sl (List.map encS p0.Sectors), .sl (List.map encWrite p0.Wait)], .box [.nils, .nils]]) rfl (sa (.int .i64 x2) rfl (RS.nil (T.rt (res_cellA (id := 1) (off := 0) (cs := [.nils, .nils]) (v := .agg [.nils, .nils]) ?_ ?_ ?_ ?_))))))))))
   · rfl
   · rfl
   · exact fun K h => (loadRowA (row := [.nils, .nils]) (off := 0) Ty.k72 Ty.c72 rfl (cs := [.nils, .nils]) rfl h)
   refine res_tmpA (v := .int .i64 x2) rfl (res_done ?_)
   exact ret_data (v := .tup [.agg [.sl (List.map encS []), .sl (List.map encWrite [])], .int .i64 x2]) rfl (pure_tup _ (pures_mem (⟨pure_agg _ (pures_mem (⟨pure_map encS_p _, pure_map encWrite_p _, trivial⟩)), pure_int _ _, trivial⟩))) ⟨congrArg (fun r : Disk × Int => (.tup [.agg [.sl (List.map encS r.1.Sectors), .sl (List.map encWrite r.1.Wait)], .int .i64 r.2] : AV)) (Option.some.inj h), rfl⟩
  replace h := ite_F h hb_1
  refine T.skip (T.seq (T.join (Z := Unit) (fun _ => mkA 43 [(1, .int .i64 p1), (2, .str p2), (3, .ptr 0 0), (6, .ptr 1 0), (20, .bool ((decide (p1 < 0)) || decide (p1 ≥ 200)))]) (fun _ => [.box [.sl (List.map encS p0.Sectors), .sl (List.map encWrite p0.Wait)], .box [.nils, .nils]]) (fun _ => True) (fun _ _ => ?_) (fun hK => ?_)))
  ·refine T.cond (b := ((decide (p1 < 0)) || decide (p1 ≥ 200))) rfl (fun hb_3 => ?_) (fun hb_3 => ?_)
   ·replace h := ite_T h hb_3
    refine T.seq (T.region (sq (v_build (cs := [.nils, .nils]) Ty.z72 Ty.p72 rfl (so (o_store_ptr Ty.c72 Ty.i72 rfl (vs := [.nils, .nils]) rfl rfl rfl rfl (cs' := [.nils, .nils]) rfl (aw' := [.box [.sl (List.map encS p0.Sectors), .sl (List.map encWrite p0.Wait)], .box [.nils, .nils]]) rfl (sa (.int .i64 3) rfl (RS.nil (T.rt (res_cellA (id := 1) (off := 0) (cs := [.nils, .nils]) (v := .agg [.nils, .nils]) ?_ ?_ ?_ ?_)))))))))
    · rfl
    · rfl
    · exact fun K h => (loadRowA (row := [.nils, .nils]) (off := 0) Ty.k72 Ty.c72 rfl (cs := [.nils, .nils]) rfl h)
    refine res_tmpA (v := .int .i64 3) rfl (res_done ?_)
    exact ret_data (v := .tup [.agg [.sl (List.map encS []), .sl (List.map encWrite [])], .int .i64 3]) rfl (pure_tup _ (pures_mem (⟨pure_agg _ (pures_mem (⟨pure_map encS_p _, pure_map encWrite_p _, trivial⟩)), pure_int _ _, trivial⟩))) ⟨congrArg (fun r : Disk × Int => (.tup [.agg [.sl (List.map encS r.1.Sectors), .sl (List.map encWrite r.1.Wait)], .int .i64 r.2] : AV)) (Option.some.inj h), rfl⟩
   replace h := ite_F h hb_3
   refine T.skip (T.seq (T.seq (T.region (sm (.str p2) rfl (sq (v_len_str Try.underlying9 rfl (sq (v_gtr rfl rfl (RS.nil (T.cond (b := decide (((p2).length : Int) > 64)) rfl (fun hb_4 => ?_) (fun hb_4 => ?_)))))))))))
   ·replace h := ite_T h hb_4
    refine T.seq (T.region (sq (v_build (cs := [.nils, .nils]) Ty.z72 Ty.p72 rfl (so (o_store_ptr Ty.c72 Ty.i72 rfl (vs := [.nils, .nils]) rfl rfl rfl rfl (cs' := [.nils, .nils]) rfl (aw' := [.box [.sl (List.map encS p0.Sectors), .sl (List.map encWrite p0.Wait)], .box [.nils, .nils]]) rfl (sa (.int .i64 2) rfl (RS.nil (T.rt (res_cellA (id := 1) (off := 0) (cs := [.nils, .nils]) (v := .agg [.nils, .nils]) ?_ ?_ ?_ ?_)))))))))
    · rfl
    · rfl
    · exact fun K h => (loadRowA (row := [.nils, .nils]) (off := 0) Ty.k72 Ty.c72 rfl (cs := [.nils, .nils]) rfl h)
    refine res_tmpA (v := .int .i64 2) rfl (res_done ?_)
    exact ret_data (v := .tup [.agg [.sl (List.map encS []), .sl (List.map encWrite [])], .int .i64 2]) rfl (pure_tup _ (pures_mem (⟨pure_agg _ (pures_mem (⟨pure_map encS_p _, pure_map encWrite_p _, trivial⟩)), pure_int _ _, trivial⟩))) ⟨congrArg (fun r : Disk × Int => (.tup [.agg [.sl (List.map encS r.1.Sectors), .sl (List.map encWrite r.1.Wait)], .int .i64 r.2] : AV)) (Option.some.inj h), rfl⟩
   replace h := ite_F h hb_4
   refine T.skip (T.seq (T.seq (T.region (sq (v_fieldAddr_ptr Ty.f72_1 rfl (off' := 1) rfl (so (o_load_ptr rfl rfl (loadRow1 Ty.k70 (c := .sl (List.map encWrite p0.Wait)) rfl (sq (v_len_sl Ty.s70 rfl (sq (v_eql rfl rfl (RS.nil (T.cond (b := ((p0.Wait).length : Int) == 300) rfl (fun hb_5 => ?_) (fun hb_5 => ?_)))))))))))))))
   ·replace h := ite_T h hb_5
    refine T.seq (T.region (sq (v_build (cs := [.nils, .nils]) Ty.z72 Ty.p72 rfl (so (o_store_ptr Ty.c72 Ty.i72 rfl (vs := [.nils, .nils]) rfl rfl rfl rfl (cs' := [.nils, .nils]) rfl (aw' := [.box [.sl (List.map encS p0.Sectors), .sl (List.map encWrite p0.Wait)], .box [.nils, .nils]]) rfl (sa (.int .i64 8) rfl (RS.nil (T.rt (res_cellA (id := 1) (off := 0) (cs := [.nils, .nils]) (v := .agg [.nils, .nils]) ?_ ?_ ?_ ?_)))))))))
    · rfl
    · rfl
    · exact fun K h => (loadRowA (row := [.nils, .nils]) (off := 0) Ty.k72 Ty.c72 rfl (cs := [.nils, .nils]) rfl h)
    refine res_tmpA (v := .int .i64 8) rfl (res_done ?_)
    exact ret_data (v := .tup [.agg [.sl (List.map encS []), .sl (List.map encWrite [])], .int .i64 8]) rfl (pure_tup _ (pures_mem (⟨pure_agg _ (pures_mem (⟨pure_map encS_p _, pure_map encWrite_p _, trivial⟩)), pure_int _ _, trivial⟩))) ⟨congrArg (fun r : Disk × Int => (.tup [.agg [.sl (List.map encS r.1.Sectors), .sl (List.map encWrite r.1.Wait)], .int .i64 r.2] : AV)) (Option.some.inj h), rfl⟩
   replace h := ite_F h hb_5
   refine T.skip (T.seq ?_)
   obtain ⟨x7, hx7, h⟩ := bind_some h
   obtain ⟨x8, hx8, h⟩ := bind_some h
   obtain ⟨x9, hx9, h⟩ := bind_some h
   refine T.drawn mixed (k := 14) rfl ?_
   let l14 : List (Nat × AV) := [(1, .int .i64 p1), (2, .str p2), (3, .ptr 0 0), (6, .ptr 1 0), (20, .bool ((decide (p1 < 0)) || decide (p1 ≥ 200))), (22, .str p2), (23, .int .i64 ((p2).length : Int)), (24, .bool (decide (((p2).length : Int) > 64))), (26, .ptr 0 1), (27, .sl (List.map encWrite p0.Wait)), (28, .int .i64 ((p0.Wait).length : Int)), (29, .bool (((p0.Wait).length : Int) == 300))]
   let a14 : List Ob := [.box [.sl (List.map encS p0.Sectors), .sl (List.map encWrite p0.Wait)], .box [.nils, .nils]]
   refine RA.join 4 #[true, true, true, true, true, true, true, true, true, true, false, false, false, false] (mkA 43 ((31, .ptr 0 0) :: (32, .sl (List.map encS p0.Sectors)) :: (33, .ref 3) :: (34, .ptr 0 1) :: (35, .sl (List.map encWrite p0.Wait)) :: (36, .ref 4) :: (37, .int .i64 p1) :: (38, .str p2) :: (39, .agg [.int .i64 p1, .str p2]) :: (40, .ref 2) :: l14)) [.box [.sl (List.map encS p0.Sectors), .sl (List.map encWrite p0.Wait)], .box [.nils, .nils], .arr 76 2 (List.map encWrite [(⟨p1, p2⟩ : Write)]), .arr 9 1 (List.map encS x7), .arr 76 2 (List.map encWrite x8)] ?_ (fun hS6 => ?_)
   ·refine RA.a1 (i1 := 10) (l1 := #[true, true, true, true, true, true, true, true, true, true, true, false, false, false]) (by decide +kernel) (by decide +kernel) (RO.op rfl rfl (o_app_ref (en := encWrite) (xs := x8) (ys := ([(⟨p1, p2⟩ : Write)] : List Write)) Ty.s70 (fun _ => rfl) rfl rfl rfl hx9 rfl (aw' := [.box [.sl (List.map encS p0.Sectors), .sl (List.map encWrite p0.Wait)], .box [.nils, .nils], .dead, .arr 9 1 (List.map encS x7), .dead, .arr 76 2 (List.map encWrite x9)]) rfl (RA.t0 (i := 11) (li' := #[true, true, true, true, true, true, true, true, true, true, true, true, false, false]) rfl (by decide +kernel) (by decide +kernel) (by decide +kernel) (by decide +kernel) rfl rfl (v_build (cs := [.ref 3, .ref 5]) Ty.z72 Ty.p72 rfl (RA.a1 (i1 := 12) (l1 := #[true, true, true, true, true, true, true, true, true, true, true, true, true, false]) (by decide +kernel) (by decide +kernel) (RO.op rfl rfl (o_store_ptr Ty.c72 Ty.i72 rfl (vs := [.ref 3, .ref 5]) rfl rfl rfl rfl (cs' := [.ref 3, .ref 5]) rfl (aw' := [.box [.sl (List.map encS p0.Sectors), .sl (List.map encWrite p0.Wait)], .box [.ref 3, .ref 5], .dead, .arr 9 1 (List.map encS x7), .dead, .arr 76 2 (List.map encWrite x9)]) rfl (RA.t0 (i := 13) (li' := #[true, true, true, true, true, true, true, true, true, true, true, true, true, true]) rfl (by decide +kernel) (by decide +kernel) (by decide +kernel) (by decide +kernel) rfl rfl (v_assign (v := .int .i64 0) rfl (RA.done (by decide +kernel) (T.rt (res_cellA (id := 1) (off := 0) (cs := [.ref 3, .ref 5]) (v := .agg [.ref 3, .ref 5]) ?_ ?_ ?_ ?_))))))))))))
    · rfl
    · rfl
    · exact fun K h => (loadRowA (row := [.ref 3, .ref 5]) (off := 0) Ty.k72 Ty.c72 rfl (cs := [.ref 3, .ref 5]) rfl h)
    refine res_tmpA (v := .int .i64 0) rfl (res_done ?_)
    exact ret_data (v := .tup [.agg [.sl (List.map encS x7), .sl (List.map encWrite x9)], .int .i64 0]) rfl (pure_tup _ (pures_mem (⟨pure_agg _ (pures_mem (⟨pure_map encS_p _, pure_map encWrite_p _, trivial⟩)), pure_int _ _, trivial⟩))) ⟨congrArg (fun r : Disk × Int => (.tup [.agg [.sl (List.map encS r.1.Sectors), .sl (List.map encWrite r.1.Wait)], .int .i64 r.2] : AV)) (Option.some.inj h), rfl⟩
   ·refine RA.join 5 #[true, true, true, true, true, false, true, true, true, true, false, false, false, false] (mkA 43 ((31, .ptr 0 0) :: (32, .sl (List.map encS p0.Sectors)) :: (33, .ref 3) :: (34, .ptr 0 1) :: (35, .sl (List.map encWrite p0.Wait)) :: (37, .int .i64 p1) :: (38, .str p2) :: (39, .agg [.int .i64 p1, .str p2]) :: (40, .ref 2) :: l14)) [.box [.sl (List.map encS p0.Sectors), .sl (List.map encWrite p0.Wait)], .box [.nils, .nils], .arr 76 2 (List.map encWrite [(⟨p1, p2⟩ : Write)]), .arr 9 1 (List.map encS x7)] ?_ (fun hS7 => ?_)
    ·refine RA.a1 (i1 := 5) (l1 := #[true, true, true, true, true, true, true, true, true, true, false, false, false, false]) (by decide +kernel) (by decide +kernel) (RO.op rfl rfl (o_call (as0 := [.sl (List.map encWrite p0.Wait)]) (as1 := [.sl (List.map encWrite p0.Wait)]) (caps := []) (aw1 := [.box [.sl (List.map encS p0.Sectors), .sl (List.map encWrite p0.Wait)], .box [.nils, .nils], .arr 76 2 (List.map encWrite [(⟨p1, p2⟩ : Write)]), .arr 9 1 (List.map encS x7)]) rfl rfl rfl (k_own' (v := .ref 0) (obs := [.arr 76 2 (List.map encWrite x8)]) (v' := .ref 4) (aw' := [.box [.sl (List.map encS p0.Sectors), .sl (List.map encWrite p0.Wait)], .box [.nils, .nils], .arr 76 2 (List.map encWrite [(⟨p1, p2⟩ : Write)]), .arr 9 1 (List.map encS x7), .arr 76 2 (List.map encWrite x8)]) (slices_Clone_Write_c p0.Wait x8 hx8) (⟨pure_map encWrite_p _, trivial⟩) rfl (obs_cons (flatOb_map fun _ => rfl) obs_nil) rfl rfl ?_)))
     exact RA.sub hS6 ⟨rfl, rfl, rfl, rfl, rfl, rfl, rfl, rfl, rfl, rfl, rfl, rfl, rfl, rfl, rfl, rfl, rfl, rfl, rfl, rfl, rfl, rfl, trivial⟩
    ·refine RA.join 6 #[true, true, false, true, true, false, true, true, true, true, false, false, false, false] (mkA 43 ((31, .ptr 0 0) :: (32, .sl (List.map encS p0.Sectors)) :: (34, .ptr 0 1) :: (35, .sl (List.map encWrite p0.Wait)) :: (37, .int .i64 p1) :: (38, .str p2) :: (39, .agg [.int .i64 p1, .str p2]) :: (40, .ref 2) :: l14)) [.box [.sl (List.map encS p0.Sectors), .sl (List.map encWrite p0.Wait)], .box [.nils, .nils], .arr 76 2 (List.map encWrite [(⟨p1, p2⟩ : Write)])] ?_ (fun hS8 => ?_)
     ·refine RA.a1 (i1 := 2) (l1 := #[true, true, true, true, true, false, true, true, true, true, false, false, false, false]) (by decide +kernel) (by decide +kernel) (RO.op rfl rfl (o_call (as0 := [.sl (List.map encS p0.Sectors)]) (as1 := [.sl (List.map encS p0.Sectors)]) (caps := []) (aw1 := [.box [.sl (List.map encS p0.Sectors), .sl (List.map encWrite p0.Wait)], .box [.nils, .nils], .arr 76 2 (List.map encWrite [(⟨p1, p2⟩ : Write)])]) rfl rfl rfl (k_own' (v := .ref 0) (obs := [.arr 9 1 (List.map encS x7)]) (v' := .ref 3) (aw' := [.box [.sl (List.map encS p0.Sectors), .sl (List.map encWrite p0.Wait)], .box [.nils, .nils], .arr 76 2 (List.map encWrite [(⟨p1, p2⟩ : Write)]), .arr 9 1 (List.map encS x7)]) (slices_Clone_string_c p0.Sectors x7 hx7) (⟨pure_map encS_p _, trivial⟩) rfl (obs_cons (flatOb_map fun _ => rfl) obs_nil) rfl rfl ?_)))
      exact RA.sub hS7 ⟨rfl, rfl, rfl, rfl, rfl, rfl, rfl, rfl, rfl, rfl, rfl, rfl, rfl, rfl, rfl, rfl, rfl, rfl, rfl, rfl, rfl, trivial⟩
     ·refine RA.join 6 #[true, true, true, true, false, false, true, true, true, true, false, false, false, false] (mkA 43 ((31, .ptr 0 0) :: (32, .sl (List.map encS p0.Sectors)) :: (33, .ref 3) :: (34, .ptr 0 1) :: (37, .int .i64 p1) :: (38, .str p2) :: (39, .agg [.int .i64 p1, .str p2]) :: (40, .ref 2) :: l14)) [.box [.sl (List.map encS p0.Sectors), .sl (List.map encWrite p0.Wait)], .box [.nils, .nils], .arr 76 2 (List.map encWrite [(⟨p1, p2⟩ : Write)]), .arr 9 1 (List.map encS x7)] ?_ (fun hS9 => ?_)
      ·refine RA.a1 (i1 := 4) (l1 := #[true, true, true, true, true, false, true, true, true, true, false, false, false, false]) (by decide +kernel) (by decide +kernel) (RO.op rfl rfl (o_load_ptr rfl rfl (loadRow1 Ty.k70 (c := .sl (List.map encWrite p0.Wait)) rfl ?_)))
       exact RA.sub hS7 ⟨rfl, rfl, rfl, rfl, rfl, rfl, rfl, rfl, rfl, rfl, rfl, rfl, rfl, rfl, rfl, rfl, rfl, rfl, rfl, rfl, rfl, trivial⟩
      ·refine RA.join 6 #[true, true, true, true, true, false, true, true, true, false, false, false, false, false] (mkA 43 ((31, .ptr 0 0) :: (32, .sl (List.map encS p0.Sectors)) :: (33, .ref 2) :: (34, .ptr 0 1) :: (35, .sl (List.map encWrite p0.Wait)) :: (37, .int .i64 p1) :: (38, .str p2) :: (39, .agg [.int .i64 p1, .str p2]) :: l14)) [.box [.sl (List.map encS p0.Sectors), .sl (List.map encWrite p0.Wait)], .box [.nils, .nils], .arr 9 1 (List.map encS x7)] ?_ (fun hS10 => ?_)
       ·refine RA.a2 (i1 := 5) (l1 := #[true, true, true, true, true, true, true, true, true, false, false, false, false, false]) (i2 := 9) (l2 := #[true, true, true, true, true, false, true, true, true, true, false, false, false, false]) (by decide +kernel) (by decide +kernel) (by decide +kernel) ?_ ?_
        ·refine RO.op rfl rfl (o_call (as0 := [.sl (List.map encWrite p0.Wait)]) (as1 := [.sl (List.map encWrite p0.Wait)]) (caps := []) (aw1 := [.box [.sl (List.map encS p0.Sectors), .sl (List.map encWrite p0.Wait)], .box [.nils, .nils], .arr 9 1 (List.map encS x7)]) rfl rfl rfl (k_own' (v := .ref 0) (obs := [.arr 76 2 (List.map encWrite x8)]) (v' := .ref 3) (aw' := [.box [.sl (List.map encS p0.Sectors), .sl (List.map encWrite p0.Wait)], .box [.nils, .nils], .arr 9 1 (List.map encS x7), .arr 76 2 (List.map encWrite x8)]) (slices_Clone_Write_c p0.Wait x8 hx8) (⟨pure_map encWrite_p _, trivial⟩) rfl (obs_cons (flatOb_map fun _ => rfl) obs_nil) rfl rfl (RA.a1 (i1 := 9) (l1 := #[true, true, true, true, true, true, true, true, true, true, false, false, false, false]) (by decide +kernel) (by decide +kernel) (RO.op rfl rfl (o_buildSlice (rows := List.map encWrite [(⟨p1, p2⟩ : Write)]) (vs := [.agg [.int .i64 p1, .str p2]]) Ty.s70 Ty.z76 rfl rfl rfl rfl rfl (aw' := [.box [.sl (List.map encS p0.Sectors), .sl (List.map encWrite p0.Wait)], .box [.nils, .nils], .arr 9 1 (List.map encS x7), .arr 76 2 (List.map encWrite x8), .arr 76 2 (List.map encWrite [(⟨p1, p2⟩ : Write)])]) rfl ?_)))))
         exact RA.weakR hS6 (Weak.mkN [] [0, 1, 4, 2, 3] (by decide) (none_kept _) rfl ⟨rn_ptr rfl, rn_s rfl, rn_ref rfl, rn_ptr rfl, rn_s rfl, rn_ref rfl, rn_int rfl, rn_str rfl, rn_agg ⟨rn_int rfl, rn_str rfl, trivial⟩, rn_ref rfl, rn_int rfl, rn_str rfl, rn_ptr rfl, rn_ptr rfl, rn_bool rfl, rn_str rfl, rn_int rfl, rn_bool rfl, rn_ptr rfl, rn_s rfl, rn_int rfl, rn_bool rfl, trivial⟩ (rw_bs [.sl (List.map encS p0.Sectors), .sl (List.map encWrite p0.Wait)] rfl (rw_bs [.nils, .nils] rfl (rw_ar rfl rfl (rw_ar rfl rfl (rw_ar rfl rfl (rw_nil)))))))
        ·refine RO.op rfl rfl (o_buildSlice (rows := List.map encWrite [(⟨p1, p2⟩ : Write)]) (vs := [.agg [.int .i64 p1, .str p2]]) Ty.s70 Ty.z76 rfl rfl rfl rfl rfl (aw' := [.box [.sl (List.map encS p0.Sectors), .sl (List.map encWrite p0.Wait)], .box [.nils, .nils], .arr 9 1 (List.map encS x7), .arr 76 2 (List.map encWrite [(⟨p1, p2⟩ : Write)])]) rfl ?_)
         exact RA.weakR hS7 (Weak.mkN [] [0, 1, 3, 2] (by decide) (none_kept _) rfl ⟨rn_ptr rfl, rn_s rfl, rn_ref rfl, rn_ptr rfl, rn_s rfl, rn_int rfl, rn_str rfl, rn_agg ⟨rn_int rfl, rn_str rfl, trivial⟩, rn_ref rfl, rn_int rfl, rn_str rfl, rn_ptr rfl, rn_ptr rfl, rn_bool rfl, rn_str rfl, rn_int rfl, rn_bool rfl, rn_ptr rfl, rn_s rfl, rn_int rfl, rn_bool rfl, trivial⟩ (rw_bs [.sl (List.map encS p0.Sectors), .sl (List.map encWrite p0.Wait)] rfl (rw_bs [.nils, .nils] rfl (rw_ar rfl rfl (rw_ar rfl rfl (rw_nil))))))
       ·refine RA.join 7 #[true, true, false, true, false, false, true, true, true, true, false, false, false, false] (mkA 43 ((31, .ptr 0 0) :: (32, .sl (List.map encS p0.Sectors)) :: (34, .ptr 0 1) :: (37, .int .i64 p1) :: (38, .str p2) :: (39, .agg [.int .i64 p1, .str p2]) :: (40, .ref 2) :: l14)) [.box [.sl (List.map encS p0.Sectors), .sl (List.map encWrite p0.Wait)], .box [.nils, .nils], .arr 76 2 (List.map encWrite [(⟨p1, p2⟩ : Write)])] ?_ (fun hS11 => ?_)
        ·refine RA.a2 (i1 := 2) (l1 := #[true, true, true, true, false, false, true, true, true, true, false, false, false, false]) (i2 := 4) (l2 := #[true, true, false, true, true, false, true, true, true, true, false, false, false, false]) (by decide +kernel) (by decide +kernel) (by decide +kernel) ?_ ?_
         ·refine RO.op rfl rfl (o_call (as0 := [.sl (List.map encS p0.Sectors)]) (as1 := [.sl (List.map encS p0.Sectors)]) (caps := []) (aw1 := [.box [.sl (List.map encS p0.Sectors), .sl (List.map encWrite p0.Wait)], .box [.nils, .nils], .arr 76 2 (List.map encWrite [(⟨p1, p2⟩ : Write)])]) rfl rfl rfl (k_own' (v := .ref 0) (obs := [.arr 9 1 (List.map encS x7)]) (v' := .ref 3) (aw' := [.box [.sl (List.map encS p0.Sectors), .sl (List.map encWrite p0.Wait)], .box [.nils, .nils], .arr 76 2 (List.map encWrite [(⟨p1, p2⟩ : Write)]), .arr 9 1 (List.map encS x7)]) (slices_Clone_string_c p0.Sectors x7 hx7) (⟨pure_map encS_p _, trivial⟩) rfl (obs_cons (flatOb_map fun _ => rfl) obs_nil) rfl rfl ?_))
          exact RA.sub hS9 ⟨rfl, rfl, rfl, rfl, rfl, rfl, rfl, rfl, rfl, rfl, rfl, rfl, rfl, rfl, rfl, rfl, rfl, rfl, rfl, rfl, trivial⟩
         ·refine RO.op rfl rfl (o_load_ptr rfl rfl (loadRow1 Ty.k70 (c := .sl (List.map encWrite p0.Wait)) rfl ?_))
          exact RA.sub hS8 ⟨rfl, rfl, rfl, rfl, rfl, rfl, rfl, rfl, rfl, rfl, rfl, rfl, rfl, rfl, rfl, rfl, rfl, rfl, rfl, rfl, trivial⟩
        ·refine RA.join 7 #[true, false, false, true, true, false, true, true, true, true, false, false, false, false] (mkA 43 ((31, .ptr 0 0) :: (34, .ptr 0 1) :: (35, .sl (List.map encWrite p0.Wait)) :: (37, .int .i64 p1) :: (38, .str p2) :: (39, .agg [.int .i64 p1, .str p2]) :: (40, .ref 2) :: l14)) [.box [.sl (List.map encS p0.Sectors), .sl (List.map encWrite p0.Wait)], .box [.nils, .nils], .arr 76 2 (List.map encWrite [(⟨p1, p2⟩ : Write)])] ?_ (fun hS12 => ?_)
         ·refine RA.a1 (i1 := 1) (l1 := #[true, true, false, true, true, false, true, true, true, true, false, false, false, false]) (by decide +kernel) (by decide +kernel) (RO.op rfl rfl (o_load_ptr rfl rfl (loadRow1 Ty.k29 (c := .sl (List.map encS p0.Sectors)) rfl ?_)))
          exact RA.sub hS8 ⟨rfl, rfl, rfl, rfl, rfl, rfl, rfl, rfl, rfl, rfl, rfl, rfl, rfl, rfl, rfl, rfl, rfl, rfl, rfl, rfl, trivial⟩
         ·refine RA.join 7 #[true, true, false, true, true, false, true, true, true, false, false, false, false, false] (mkA 43 ((31, .ptr 0 0) :: (32, .sl (List.map encS p0.Sectors)) :: (34, .ptr 0 1) :: (35, .sl (List.map encWrite p0.Wait)) :: (37, .int .i64 p1) :: (38, .str p2) :: (39, .agg [.int .i64 p1, .str p2]) :: l14)) a14 ?_ (fun hS13 => ?_)
          ·refine RA.a2 (i1 := 2) (l1 := #[true, true, true, true, true, false, true, true, true, false, false, false, false, false]) (i2 := 9) (l2 := #[true, true, false, true, true, false, true, true, true, true, false, false, false, false]) (by decide +kernel) (by decide +kernel) (by decide +kernel) ?_ ?_
           ·refine RO.op rfl rfl (o_call (as0 := [.sl (List.map encS p0.Sectors)]) (as1 := [.sl (List.map encS p0.Sectors)]) (caps := []) (aw1 := [.box [.sl (List.map encS p0.Sectors), .sl (List.map encWrite p0.Wait)], .box [.nils, .nils]]) rfl rfl rfl (k_own' (v := .ref 0) (obs := [.arr 9 1 (List.map encS x7)]) (v' := .ref 2) (aw' := [.box [.sl (List.map encS p0.Sectors), .sl (List.map encWrite p0.Wait)], .box [.nils, .nils], .arr 9 1 (List.map encS x7)]) (slices_Clone_string_c p0.Sectors x7 hx7) (⟨pure_map encS_p _, trivial⟩) rfl (obs_cons (flatOb_map fun _ => rfl) obs_nil) rfl rfl ?_))
            exact RA.sub hS10 ⟨rfl, rfl, rfl, rfl, rfl, rfl, rfl, rfl, rfl, rfl, rfl, rfl, rfl, rfl, rfl, rfl, rfl, rfl, rfl, rfl, trivial⟩
           ·refine RO.op rfl rfl (o_buildSlice (rows := List.map encWrite [(⟨p1, p2⟩ : Write)]) (vs := [.agg [.int .i64 p1, .str p2]]) Ty.s70 Ty.z76 rfl rfl rfl rfl rfl (aw' := [.box [.sl (List.map encS p0.Sectors), .sl (List.map encWrite p0.Wait)], .box [.nils, .nils], .arr 76 2 (List.map encWrite [(⟨p1, p2⟩ : Write)])]) rfl ?_)
            exact RA.sub hS8 ⟨rfl, rfl, rfl, rfl, rfl, rfl, rfl, rfl, rfl, rfl, rfl, rfl, rfl, rfl, rfl, rfl, rfl, rfl, rfl, rfl, trivial⟩
          ·refine RA.t0 (i := 0) (li' := #[true, false, false, false, false, false, false, false, false, false, false, false, false, false]) rfl (by decide +kernel) (by decide +kernel) (by decide +kernel) (by decide +kernel) rfl rfl (v_fieldAddr_ptr Ty.f72_0 rfl (off' := 0) rfl (RA.t0 (i := 3) (li' := #[true, false, false, true, false, false, false, false, false, false, false, false, false, false]) rfl (by decide +kernel) (by decide +kernel) (by decide +kernel) (by decide +kernel) rfl rfl (v_fieldAddr_ptr Ty.f72_1 rfl (off' := 1) rfl (RA.t0 (i := 6) (li' := #[true, false, false, true, false, false, true, false, false, false, false, false, false, false]) rfl (by decide +kernel) (by decide +kernel) (by decide +kernel) (by decide +kernel) rfl rfl (v_move (v := .int .i64 p1) rfl (RA.t0 (i := 7) (li' := #[true, false, false, true, false, false, true, true, false, false, false, false, false, false]) rfl (by decide +kernel) (by decide +kernel) (by decide +kernel) (by decide +kernel) rfl rfl (v_move (v := .str p2) rfl (RA.t0 (i := 8) (li' := #[true, false, false, true, false, false, true, true, true, false, false, false, false, false]) rfl (by decide +kernel) (by decide +kernel) (by decide +kernel) (by decide +kernel) rfl rfl (v_build (cs := [.int .i64 p1, .str p2]) Ty.z76 Ty.p76 rfl (RA.a3 (i1 := 1) (l1 := #[true, true, false, true, false, false, true, true, true, false, false, false, false, false]) (i2 := 4) (l2 := #[true, false, false, true, true, false, true, true, true, false, false, false, false, false]) (i3 := 9) (l3 := #[true, false, false, true, false, false, true, true, true, true, false, false, false, false]) (by decide +kernel) (by decide +kernel) (by decide +kernel) (by decide +kernel) ?_ ?_ ?_))))))))))
           ·refine RO.op rfl rfl (o_load_ptr rfl rfl (loadRow1 Ty.k29 (c := .sl (List.map encS p0.Sectors)) rfl (RA.a3 (i1 := 2) (l1 := #[true, true, true, true, false, false, true, true, true, false, false, false, false, false]) (i2 := 4) (l2 := #[true, true, false, true, true, false, true, true, true, false, false, false, false, false]) (i3 := 9) (l3 := #[true, true, false, true, false, false, true, true, true, true, false, false, false, false]) (by decide +kernel) (by decide +kernel) (by decide +kernel) (by decide +kernel) ?_ ?_ ?_)))
            ·refine RO.op rfl rfl (o_call (as0 := [.sl (List.map encS p0.Sectors)]) (as1 := [.sl (List.map encS p0.Sectors)]) (caps := []) (aw1 := [.box [.sl (List.map encS p0.Sectors), .sl (List.map encWrite p0.Wait)], .box [.nils, .nils]]) rfl rfl rfl (k_own' (v := .ref 0) (obs := [.arr 9 1 (List.map encS x7)]) (v' := .ref 2) (aw' := [.box [.sl (List.map encS p0.Sectors), .sl (List.map encWrite p0.Wait)], .box [.nils, .nils], .arr 9 1 (List.map encS x7)]) (slices_Clone_string_c p0.Sectors x7 hx7) (⟨pure_map encS_p _, trivial⟩) rfl (obs_cons (flatOb_map fun _ => rfl) obs_nil) rfl rfl (RA.a2 (i1 := 4) (l1 := #[true, true, true, true, true, false, true, true, true, false, false, false, false, false]) (i2 := 9) (l2 := #[true, true, true, true, false, false, true, true, true, true, false, false, false, false]) (by decide +kernel) (by decide +kernel) (by decide +kernel) ?_ ?_)))
             ·refine RO.op rfl rfl (o_load_ptr rfl rfl (loadRow1 Ty.k70 (c := .sl (List.map encWrite p0.Wait)) rfl ?_))
              exact RA.sub hS10 ⟨rfl, rfl, rfl, rfl, rfl, rfl, rfl, rfl, rfl, rfl, rfl, rfl, rfl, rfl, rfl, rfl, rfl, rfl, rfl, rfl, trivial⟩
             ·refine RO.op rfl rfl (o_buildSlice (rows := List.map encWrite [(⟨p1, p2⟩ : Write)]) (vs := [.agg [.int .i64 p1, .str p2]]) Ty.s70 Ty.z76 rfl rfl rfl rfl rfl (aw' := [.box [.sl (List.map encS p0.Sectors), .sl (List.map encWrite p0.Wait)], .box [.nils, .nils], .arr 9 1 (List.map encS x7), .arr 76 2 (List.map encWrite [(⟨p1, p2⟩ : Write)])]) rfl ?_)
              exact RA.weakR hS9 (Weak.mkN [] [0, 1, 3, 2] (by decide) (none_kept _) rfl ⟨rn_ptr rfl, rn_s rfl, rn_ref rfl, rn_ptr rfl, rn_int rfl, rn_str rfl, rn_agg ⟨rn_int rfl, rn_str rfl, trivial⟩, rn_ref rfl, rn_int rfl, rn_str rfl, rn_ptr rfl, rn_ptr rfl, rn_bool rfl, rn_str rfl, rn_int rfl, rn_bool rfl, rn_ptr rfl, rn_s rfl, rn_int rfl, rn_bool rfl, trivial⟩ (rw_bs [.sl (List.map encS p0.Sectors), .sl (List.map encWrite p0.Wait)] rfl (rw_bs [.nils, .nils] rfl (rw_ar rfl rfl (rw_ar rfl rfl (rw_nil))))))
            ·refine RO.op rfl rfl (o_load_ptr rfl rfl (loadRow1 Ty.k70 (c := .sl (List.map encWrite p0.Wait)) rfl ?_))
             exact RA.sub hS13 ⟨rfl, rfl, rfl, rfl, rfl, rfl, rfl, rfl, rfl, rfl, rfl, rfl, rfl, rfl, rfl, rfl, rfl, rfl, rfl, trivial⟩
            ·refine RO.op rfl rfl (o_buildSlice (rows := List.map encWrite [(⟨p1, p2⟩ : Write)]) (vs := [.agg [.int .i64 p1, .str p2]]) Ty.s70 Ty.z76 rfl rfl rfl rfl rfl (aw' := [.box [.sl (List.map encS p0.Sectors), .sl (List.map encWrite p0.Wait)], .box [.nils, .nils], .arr 76 2 (List.map encWrite [(⟨p1, p2⟩ : Write)])]) rfl ?_)
             exact RA.sub hS11 ⟨rfl, rfl, rfl, rfl, rfl, rfl, rfl, rfl, rfl, rfl, rfl, rfl, rfl, rfl, rfl, rfl, rfl, rfl, rfl, trivial⟩
           ·refine RO.op rfl rfl (o_load_ptr rfl rfl (loadRow1 Ty.k70 (c := .sl (List.map encWrite p0.Wait)) rfl (RA.a2 (i1 := 1) (l1 := #[true, true, false, true, true, false, true, true, true, false, false, false, false, false]) (i2 := 9) (l2 := #[true, false, false, true, true, false, true, true, true, true, false, false, false, false]) (by decide +kernel) (by decide +kernel) (by decide +kernel) ?_ ?_)))
            ·refine RO.op rfl rfl (o_load_ptr rfl rfl (loadRow1 Ty.k29 (c := .sl (List.map encS p0.Sectors)) rfl ?_))
             exact RA.sub hS13 ⟨rfl, rfl, rfl, rfl, rfl, rfl, rfl, rfl, rfl, rfl, rfl, rfl, rfl, rfl, rfl, rfl, rfl, rfl, rfl, trivial⟩
            ·refine RO.op rfl rfl (o_buildSlice (rows := List.map encWrite [(⟨p1, p2⟩ : Write)]) (vs := [.agg [.int .i64 p1, .str p2]]) Ty.s70 Ty.z76 rfl rfl rfl rfl rfl (aw' := [.box [.sl (List.map encS p0.Sectors), .sl (List.map encWrite p0.Wait)], .box [.nils, .nils], .arr 76 2 (List.map encWrite [(⟨p1, p2⟩ : Write)])]) rfl ?_)
             exact RA.sub hS12 ⟨rfl, rfl, rfl, rfl, rfl, rfl, rfl, rfl, rfl, rfl, rfl, rfl, rfl, rfl, rfl, rfl, rfl, rfl, rfl, trivial⟩
           ·refine RO.op rfl rfl (o_buildSlice (rows := List.map encWrite [(⟨p1, p2⟩ : Write)]) (vs := [.agg [.int .i64 p1, .str p2]]) Ty.s70 Ty.z76 rfl rfl rfl rfl rfl (aw' := [.box [.sl (List.map encS p0.Sectors), .sl (List.map encWrite p0.Wait)], .box [.nils, .nils], .arr 76 2 (List.map encWrite [(⟨p1, p2⟩ : Write)])]) rfl (RA.a2 (i1 := 1) (l1 := #[true, true, false, true, false, false, true, true, true, true, false, false, false, false]) (i2 := 4) (l2 := #[true, false, false, true, true, false, true, true, true, true, false, false, false, false]) (by decide +kernel) (by decide +kernel) (by decide +kernel) ?_ ?_))
            ·refine RO.op rfl rfl (o_load_ptr rfl rfl (loadRow1 Ty.k29 (c := .sl (List.map encS p0.Sectors)) rfl ?_))
             exact RA.sub hS11 ⟨rfl, rfl, rfl, rfl, rfl, rfl, rfl, rfl, rfl, rfl, rfl, rfl, rfl, rfl, rfl, rfl, rfl, rfl, rfl, trivial⟩
            ·refine RO.op rfl rfl (o_load_ptr rfl rfl (loadRow1 Ty.k70 (c := .sl (List.map encWrite p0.Wait)) rfl ?_))
             exact RA.sub hS12 ⟨rfl, rfl, rfl, rfl, rfl, rfl, rfl, rfl, rfl, rfl, rfl, rfl, rfl, rfl, rfl, rfl, rfl, rfl, rfl, trivial⟩
  refine T.region (sm (.int .i64 p1) rfl (sq (v_lss rfl rfl (sm (.bool (decide (p1 < 0))) rfl ?_))))
  rcases bool_cases (decide (p1 < 0)) with hb_2 | hb_2
  ·refine sn hb_2 (sn hb_2 (sq (v_pickT (v := .bool true) rfl hb_2 rfl (RS.nil ?_))))
   exact T.weakR (hK () trivial) (Weak.mkN [] [0, 1] (by decide) (none_kept _) rfl ⟨rn_int rfl, rn_str rfl, rn_ptr rfl, rn_ptr rfl, rn_bool (by simp only [hb_2, bz, if_true, if_false, Bool.false_eq_true]), trivial⟩ (rw_bs [.sl (List.map encS p0.Sectors), .sl (List.map encWrite p0.Wait)] rfl (rw_bs [.nils, .nils] rfl (rw_nil))))
  refine yq hb_2 (v_move (v := .int .i64 p1) rfl (yq hb_2 (v_geq rfl rfl (sq (v_pickF (v := .bool (decide (p1 ≥ 200))) rfl hb_2 rfl (RS.nil ?_))))))
  exact T.weakR (hK () trivial) (Weak.mkN [] [0, 1] (by decide) (none_kept _) rfl ⟨rn_int rfl, rn_str rfl, rn_ptr rfl, rn_ptr rfl, rn_bool (by simp only [hb_2, bz, if_true, if_false, Bool.false_eq_true]), trivial⟩ (rw_bs [.sl (List.map encS p0.Sectors), .sl (List.map encWrite p0.Wait)] rfl (rw_bs [.nils, .nils] rfl (rw_nil))))
theorem disk_put_x866e_c (p0 : List Write) (p1 : List (List UInt8)) (r : List (List UInt8)) (h : disk_put_x866e p0 p1 = some r) : FnX Try.prog 67 [.ref 0, .sl (List.map encWrite p0)] [.arr 9 1 (List.map encS p1)] (.ref 1) [.dead, .arr 9 1 (List.map encS r)] := by
  unfold disk_put_x866e at h
  refine fn_of_T (N := 1) rfl Try.func67 rfl (by kernel_rfl) Try.ntmps67 rfl ?_
  show T _ _ _ _ (mkA 29 [(0, .ref 0), (1, .sl (List.map encWrite p0))]) [.arr 9 1 (List.map encS p1)]
  refine T.mvS 0 0 rfl rfl rfl (aw' := [.dead, .arr 9 1 (List.map encS p1)]) rfl (T.seq (T.region (sa .nils rfl (RS.nil (T.seq (T.seq (T.region (sm (.sl (List.map encWrite p0)) rfl (sq (v_len_sl Ty.s70 rfl ?_))))))))))
  refine sm (.int .i64 0) rfl (RS.nil (T.block (T.iter (fun ss_15 : Int × (List (List UInt8)) => mkA 29 [(0, .ref 1), (7, .sl (List.map encWrite p0)), (8, .int .i64 ((p0).length : Int)), (9, .int .i64 ss_15.1)]) (fun ss_15 => [.dead, .arr 9 1 (List.map encS ss_15.2)]) h (Weak.mkN [] [0, 1] (by decide) (by decide) rfl ⟨rn_ref rfl, rn_s rfl, rn_int rfl, rn_int rfl, trivial⟩ (rw_dead rfl (rw_ar rfl rfl (rw_nil)))) (fun ss_15 v_16 h hv_16 => ?_))))
  obtain ⟨s1, s2⟩ := ss_15
  replace h : disk_put_x866e_l2 p0 s1 s2 = some v_16 := h
  try dsimp only
  unfold disk_put_x866e_l2 at h
  refine T.seq (T.region (sq (v_lss rfl rfl (RS.nil (T.seq (T.cond (b := decide (s1 < ((p0).length : Int))) rfl (fun hb_17 => ?_) (fun hb_17 => ?_)))))))
  ·replace h := ite_T h hb_17
   refine T.skip (T.seq (T.block (T.seq ?_)))
   obtain ⟨x4, hx4, h⟩ := bind_some h
   refine T.region (sq (v_index_sl Ty.s70 (fun _ => rfl) rfl rfl hx4 (so (o_load_elt rfl (loadRowA Ty.k76 Ty.c76 rfl (cs := [.int .i64 x4.At, .str x4.Bytes]) rfl (so (o_alloc Ty.z76 rfl (aw' := [.dead, .arr 9 1 (List.map encS s2), .box [.int .i64 0, .str []]]) rfl (so (o_store_ptr Ty.c76 Ty.i76 rfl (vs := [.int .i64 x4.At, .str x4.Bytes]) rfl rfl rfl rfl (cs' := [.int .i64 x4.At, .str x4.Bytes]) rfl (aw' := [.dead, .arr 9 1 (List.map encS s2), .box [.int .i64 x4.At, .str x4.Bytes]]) rfl (RS.nil (T.seq (T.block (T.iter (fun ss_20 : List (List UInt8) => mkA 29 [(0, .ref 1), (6, .ptr 2 0), (7, .sl (List.map encWrite p0)), (8, .int .i64 ((p0).length : Int)), (9, .int .i64 s1)]) (fun ss_20 => [.dead, .arr 9 1 (List.map encS ss_20), .box [.int .i64 x4.At, .str x4.Bytes]]) h (Weak.mkN [] [0, 1, 2] (by decide) (by decide) rfl ⟨rn_ref rfl, rn_ptr rfl, rn_s rfl, rn_int rfl, rn_int rfl, trivial⟩ (rw_dead rfl (rw_ar rfl rfl (rw_bs [.int .i64 x4.At, .str x4.Bytes] rfl (rw_nil))))) (fun ss_20 v_21 h hv_21 => ?_))))))))))))))
   revert hv_21 h; revert ss_20; intro s5 h hv_21
   replace h : disk_put_x866e_l1 s1 x4 s5 = some v_21 := h
   try dsimp only
   unfold disk_put_x866e_l1 at h
   refine T.seq (T.seq (T.region (sm (.ref 1) rfl (sq (v_len_ref (en := encS) Ty.s29 rfl rfl (sq (v_fieldAddr_ptr Ty.f76_0 rfl (off' := 0) rfl (so (o_load_ptr rfl rfl (loadRow1 Ty.k3 (c := .int .i64 x4.At) rfl (sq (v_leq rfl rfl (RS.nil (T.cond (b := decide (((s5).length : Int) ≤ x4.At)) rfl (fun hb_22 => ?_) (fun hb_22 => ?_)))))))))))))))
   ·replace h := ite_T h hb_22
    refine T.skip (T.block ?_)
    obtain ⟨x6, hx6, h⟩ := bind_some h
    refine T.region (sm (.ref 1) rfl (so (o_buildSlice (rows := List.map encS [[]]) (vs := [.str []]) Ty.s29 Ty.z9 rfl rfl rfl rfl rfl (aw' := [.dead, .arr 9 1 (List.map encS s5), .box [.int .i64 x4.At, .str x4.Bytes], .arr 9 1 (List.map encS [[]])]) rfl (so (o_app_ref (en := encS) (xs := s5) (ys := ([[]] : List (List UInt8))) Ty.s29 (fun _ => rfl) rfl rfl rfl hx6 rfl (aw' := [.dead, .dead, .box [.int .i64 x4.At, .str x4.Bytes], .dead, .arr 9 1 (List.map encS x6)]) rfl (sa (.ref 4) rfl (RS.nil ?_)))))))
    exact ⟨x6, (Option.some.inj h).symm, Weak.mkN [] [0, 4, 2] (by decide) (by decide) rfl ⟨rn_ref rfl, rn_ptr rfl, rn_s rfl, rn_int rfl, rn_int rfl, trivial⟩ (rw_dead rfl (rw_ar rfl rfl (rw_bs [.int .i64 x4.At, .str x4.Bytes] rfl (rw_nil))))⟩
   replace h := ite_F h hb_22
   refine T.exit ?_
   obtain ⟨w_23, h, hw_23⟩ := map_inr h
   replace h := h.trans (congrArg some (hv_21 _ hw_23))
   obtain ⟨x7, hx7, h⟩ := bind_some h
   obtain ⟨x8, hx8, h⟩ := bind_some h
   refine T.region (sm (.ref 1) rfl (sq (v_fieldAddr_ptr Ty.f76_0 rfl (off' := 0) rfl (so (o_load_ptr rfl rfl (loadRow1 Ty.k3 (c := .int .i64 x4.At) rfl (sq (v_fieldAddr_ptr Ty.f76_1 rfl (off' := 1) rfl (so (o_load_ptr rfl rfl (loadRow1 Ty.k9 (c := .str x4.Bytes) rfl (sq (v_index_ref' (en := encS) Ty.s29 rfl rfl rfl hx7 (so (o_store_aptr' (en := encS) (a := x8) (a' := x4.Bytes) Ty.c9 Ty.i9 rfl (vs := [.str x4.Bytes]) rfl rfl rfl hx8 rfl rfl (aw' := [.dead, .arr 9 1 (List.map encS (List.set s5 x7 x4.Bytes)), .box [.int .i64 x4.At, .str x4.Bytes]]) rfl (RS.nil (T.region ?_)))))))))))))))))
   refine sq (v_add rfl rfl (sm (.int .i64 (IntKind.i64.wrap (s1 + 1))) rfl (RS.nil ?_)))
   exact ⟨(IntKind.i64.wrap (s1 + 1), (List.set s5 x7 x4.Bytes)), (Option.some.inj h).symm, Weak.mkN [] [0, 1] (by decide) (by decide) rfl ⟨rn_ref rfl, rn_s rfl, rn_int rfl, rn_int rfl, trivial⟩ (rw_dead rfl (rw_ar rfl rfl (rw_nil)))⟩
  replace h := ite_F h hb_17
  refine T.exit ?_
  obtain ⟨w_24, h, hw_24⟩ := map_inr h
  replace h := h.trans (congrArg some (hv_16 _ hw_24))
  refine T.seq (T.region (sm (.ref 1) rfl (sa (.ref 1) rfl (RS.nil (T.rt (res_tmpA (v := .ref 1) rfl (res_done ?_)))))))
  exact ret_own (.ref 1) [] [0, 1] (by decide) (by decide) rfl (rn_ref rfl) (rw_dead rfl (rw_arr rfl encS_p (congrArg (fun r : List (List UInt8) => r) (Option.some.inj h)).symm (rw_nil))) ⟨rfl, rfl⟩
theorem disk_Cut_c (p0 : Disk) (p1 : Int) (r : Disk × Int) (h : disk_Cut p0 p1 = some r) : Fn Try.prog 54 [.agg [.sl (List.map encS p0.Sectors), .sl (List.map encWrite p0.Wait)], .int .i64 p1] (.tup [.agg [.sl (List.map encS r.1.Sectors), .sl (List.map encWrite r.1.Wait)], .int .i64 r.2]) := by
  unfold disk_Cut at h
  refine fn_of_T (N := 0) rfl Try.func54 rfl (by kernel_rfl) Try.ntmps54 rfl ?_
  show T _ _ _ _ (mkA 32 [(0, .agg [.sl (List.map encS p0.Sectors), .sl (List.map encWrite p0.Wait)]), (1, .int .i64 p1)]) []
  refine T.seq (T.region (so (o_box (cs := [.sl (List.map encS p0.Sectors), .sl (List.map encWrite p0.Wait)]) rfl rfl (aw' := [.box [.sl (List.map encS p0.Sectors), .sl (List.map encWrite p0.Wait)]]) rfl (so (o_alloc Ty.z72 rfl (aw' := [.box [.sl (List.map encS p0.Sectors), .sl (List.map encWrite p0.Wait)], .box [.nils, .nils]]) rfl (sa (.int .i64 0) rfl (RS.nil (T.seq (T.seq ?_)))))))))
  obtain ⟨x2, hx2, h⟩ := bind_some h
  refine T.region (so (o_load_ptr rfl rfl (loadRowA Ty.k72 Ty.c72 rfl (cs := [.sl (List.map encS p0.Sectors), .sl (List.map encWrite p0.Wait)]) rfl (so (o_call (as0 := [.agg [.sl (List.map encS p0.Sectors), .sl (List.map encWrite p0.Wait)]]) (as1 := [.agg [.sl (List.map encS p0.Sectors), .sl (List.map encWrite p0.Wait)]]) (caps := []) (aw1 := [.box [.sl (List.map encS p0.Sectors), .sl (List.map encWrite p0.Wait)], .box [.nils, .nils]]) rfl rfl rfl (k_flat (v := .int .i64 x2) (disk_Check_c p0 x2 hx2) (⟨pure_agg _ (pures_mem (⟨pure_map encS_p _, pure_map encWrite_p _, trivial⟩)), trivial⟩) rfl (sa (.int .i64 x2) rfl (RS.nil (T.seq (T.region (sm (.int .i64 x2) rfl (sq (v_neq rfl rfl (RS.nil ?_))))))))))))))
  refine T.cond (b := x2 != 0) rfl (fun hb_1 => ?_) (fun hb_1 => ?_)
  ·replace h := ite_T h hb_1
   refine T.seq (T.region (sq (v_build (cs := [.nils, .nils]) Ty.z72 Ty.p72 rfl (sm (.int .i64 x2) rfl (so (o_store_ptr Ty.c72 Ty.i72 rfl (vs := [.nils, .nils]) rfl rfl rfl rfl (cs' := [.nils, .nils]) rfl (aw' := [.box [.sl (List.map encS p0.Sectors), .sl (List.map encWrite p0.Wait)], .box [.nils, .nils]]) rfl (sa (.int .i64 x2) rfl (RS.nil (T.rt (res_cellA (id := 1) (off := 0) (cs := [.nils, .nils]) (v := .agg [.nils, .nils]) ?_ ?_ ?_ ?_))))))))))
   · rfl
   · rfl
   · exact fun K h => (loadRowA (row := [.nils, .nils]) (off := 0) Ty.k72 Ty.c72 rfl (cs := [.nils, .nils]) rfl h)
   refine res_tmpA (v := .int .i64 x2) rfl (res_done ?_)
   exact ret_data (v := .tup [.agg [.sl (List.map encS []), .sl (List.map encWrite [])], .int .i64 x2]) rfl (pure_tup _ (pures_mem (⟨pure_agg _ (pures_mem (⟨pure_map encS_p _, pure_map encWrite_p _, trivial⟩)), pure_int _ _, trivial⟩))) ⟨congrArg (fun r : Disk × Int => (.tup [.agg [.sl (List.map encS r.1.Sectors), .sl (List.map encWrite r.1.Wait)], .int .i64 r.2] : AV)) (Option.some.inj h), rfl⟩
  replace h := ite_F h hb_1
  refine T.skip (T.seq (T.join (Z := Unit) (fun _ => mkA 32 [(1, .int .i64 p1), (2, .ptr 0 0), (4, .ptr 1 0), (21, .bool ((decide (p1 < 0)) || decide (p1 > ((p0.Wait).length : Int))))]) (fun _ => [.box [.sl (List.map encS p0.Sectors), .sl (List.map encWrite p0.Wait)], .box [.nils, .nils]]) (fun _ => True) (fun _ _ => ?_) (fun hK => ?_)))
  ·refine T.cond (b := ((decide (p1 < 0)) || decide (p1 > ((p0.Wait).length : Int)))) rfl (fun hb_3 => ?_) (fun hb_3 => ?_)
   ·replace h := ite_T h hb_3
    refine T.seq (T.region (sq (v_build (cs := [.nils, .nils]) Ty.z72 Ty.p72 rfl (so (o_store_ptr Ty.c72 Ty.i72 rfl (vs := [.nils, .nils]) rfl rfl rfl rfl (cs' := [.nils, .nils]) rfl (aw' := [.box [.sl (List.map encS p0.Sectors), .sl (List.map encWrite p0.Wait)], .box [.nils, .nils]]) rfl (sa (.int .i64 3) rfl (RS.nil (T.rt (res_cellA (id := 1) (off := 0) (cs := [.nils, .nils]) (v := .agg [.nils, .nils]) ?_ ?_ ?_ ?_)))))))))
    · rfl
    · rfl
    · exact fun K h => (loadRowA (row := [.nils, .nils]) (off := 0) Ty.k72 Ty.c72 rfl (cs := [.nils, .nils]) rfl h)
    refine res_tmpA (v := .int .i64 3) rfl (res_done ?_)
    exact ret_data (v := .tup [.agg [.sl (List.map encS []), .sl (List.map encWrite [])], .int .i64 3]) rfl (pure_tup _ (pures_mem (⟨pure_agg _ (pures_mem (⟨pure_map encS_p _, pure_map encWrite_p _, trivial⟩)), pure_int _ _, trivial⟩))) ⟨congrArg (fun r : Disk × Int => (.tup [.agg [.sl (List.map encS r.1.Sectors), .sl (List.map encWrite r.1.Wait)], .int .i64 r.2] : AV)) (Option.some.inj h), rfl⟩
   replace h := ite_F h hb_3
   refine T.skip (T.seq ?_)
   obtain ⟨x7, hx7, h⟩ := bind_some h
   obtain ⟨x8, hx8, h⟩ := bind_some h
   obtain ⟨x9, hx9, h⟩ := bind_some h
   refine T.drawn mixed (k := 11) rfl ?_
   let l6 : List (Nat × AV) := [(1, .int .i64 p1), (2, .ptr 0 0), (4, .ptr 1 0), (21, .bool ((decide (p1 < 0)) || decide (p1 > ((p0.Wait).length : Int))))]
   let a6 : List Ob := [.box [.sl (List.map encS p0.Sectors), .sl (List.map encWrite p0.Wait)], .box [.nils, .nils]]
   refine RA.join 4 #[true, true, true, true, true, true, true, false, false, false, false] (mkA 32 ((23, .ptr 0 0) :: (24, .sl (List.map encS p0.Sectors)) :: (25, .ref 2) :: (26, .ptr 0 1) :: (27, .sl (List.map encWrite p0.Wait)) :: (28, .int .i64 p1) :: (29, .sl (List.map encWrite x8)) :: l6)) [.box [.sl (List.map encS p0.Sectors), .sl (List.map encWrite p0.Wait)], .box [.nils, .nils], .arr 9 1 (List.map encS x7)] ?_ (fun hS4 => ?_)
   ·refine RA.a1 (i1 := 7) (l1 := #[true, true, true, true, true, true, true, true, false, false, false]) (by decide +kernel) (by decide +kernel) (RO.op rfl rfl (o_callF (ac := [.ref 2, .sl (List.map encWrite x8)]) (as0 := [.ref 0, .sl (List.map encWrite x8)]) (aw0 := [.arr 9 1 (List.map encS x7)]) (aw1 := [.dead, .arr 9 1 (List.map encS x9)]) (aw2 := [.box [.sl (List.map encS p0.Sectors), .sl (List.map encWrite p0.Wait)], .box [.nils, .nils], .dead, .arr 9 1 (List.map encS x9)]) (v := .ref 1) (v' := .ref 3) (n0 := 3) (n1 := 2) [2] rfl rfl rfl rfl (by decide) (rw_arr rfl encS_p rfl (rw_nil)) ⟨rn_ref rfl, rn_s rfl, trivial⟩ (disk_put_x866e_c x8 x7 x9 hx9) rfl (rm_ref (by decide)) ⟨.inr ⟨rfl, rfl⟩, .inr ⟨rfl, rfl⟩, .inl ⟨0, _, by decide, rfl, trivial⟩, .inl ⟨1, _, by decide, rfl, rom_arr encS_p⟩, trivial⟩ (RA.t0 (i := 8) (li' := #[true, true, true, true, true, true, true, true, true, false, false]) rfl (by decide +kernel) (by decide +kernel) (by decide +kernel) (by decide +kernel) rfl rfl (v_build (cs := [.ref 3, .nils]) Ty.z72 Ty.p72 rfl (RA.a1 (i1 := 9) (l1 := #[true, true, true, true, true, true, true, true, true, true, false]) (by decide +kernel) (by decide +kernel) (RO.op rfl rfl (o_store_ptr Ty.c72 Ty.i72 rfl (vs := [.ref 3, .nils]) rfl rfl rfl rfl (cs' := [.ref 3, .nils]) rfl (aw' := [.box [.sl (List.map encS p0.Sectors), .sl (List.map encWrite p0.Wait)], .box [.ref 3, .nils], .dead, .arr 9 1 (List.map encS x9)]) rfl (RA.t0 (i := 10) (li' := #[true, true, true, true, true, true, true, true, true, true, true]) rfl (by decide +kernel) (by decide +kernel) (by decide +kernel) (by decide +kernel) rfl rfl (v_assign (v := .int .i64 0) rfl (RA.done (by decide +kernel) (T.rt (res_cellA (id := 1) (off := 0) (cs := [.ref 3, .nils]) (v := .agg [.ref 3, .nils]) ?_ ?_ ?_ ?_))))))))))))
    · rfl
    · rfl
    · exact fun K h => (loadRowA (row := [.ref 3, .nils]) (off := 0) Ty.k72 Ty.c72 rfl (cs := [.ref 3, .nils]) rfl h)
    refine res_tmpA (v := .int .i64 0) rfl (res_done ?_)
    exact ret_data (v := .tup [.agg [.sl (List.map encS x9), .sl (List.map encWrite [])], .int .i64 0]) rfl (pure_tup _ (pures_mem (⟨pure_agg _ (pures_mem (⟨pure_map encS_p _, pure_map encWrite_p _, trivial⟩)), pure_int _ _, trivial⟩))) ⟨congrArg (fun r : Disk × Int => (.tup [.agg [.sl (List.map encS r.1.Sectors), .sl (List.map encWrite r.1.Wait)], .int .i64 r.2] : AV)) (Option.some.inj h), rfl⟩
   ·refine RA.join 5 #[true, true, false, true, true, true, true, false, false, false, false] (mkA 32 ((23, .ptr 0 0) :: (24, .sl (List.map encS p0.Sectors)) :: (26, .ptr 0 1) :: (27, .sl (List.map encWrite p0.Wait)) :: (28, .int .i64 p1) :: (29, .sl (List.map encWrite x8)) :: l6)) a6 ?_ (fun hS5 => ?_)
    ·refine RA.a1 (i1 := 2) (l1 := #[true, true, true, true, true, true, true, false, false, false, false]) (by decide +kernel) (by decide +kernel) (RO.op rfl rfl (o_call (as0 := [.sl (List.map encS p0.Sectors)]) (as1 := [.sl (List.map encS p0.Sectors)]) (caps := []) (aw1 := [.box [.sl (List.map encS p0.Sectors), .sl (List.map encWrite p0.Wait)], .box [.nils, .nils]]) rfl rfl rfl (k_own' (v := .ref 0) (obs := [.arr 9 1 (List.map encS x7)]) (v' := .ref 2) (aw' := [.box [.sl (List.map encS p0.Sectors), .sl (List.map encWrite p0.Wait)], .box [.nils, .nils], .arr 9 1 (List.map encS x7)]) (slices_Clone_string_c p0.Sectors x7 hx7) (⟨pure_map encS_p _, trivial⟩) rfl (obs_cons (flatOb_map fun _ => rfl) obs_nil) rfl rfl ?_)))
     exact RA.sub hS4 ⟨rfl, rfl, rfl, rfl, rfl, rfl, rfl, rfl, rfl, rfl, rfl, trivial⟩
    ·refine RA.t0 (i := 0) (li' := #[true, false, false, false, false, false, false, false, false, false, false]) rfl (by decide +kernel) (by decide +kernel) (by decide +kernel) (by decide +kernel) rfl rfl (v_fieldAddr_ptr Ty.f72_0 rfl (off' := 0) rfl (RA.t0 (i := 3) (li' := #[true, false, false, true, false, false, false, false, false, false, false]) rfl (by decide +kernel) (by decide +kernel) (by decide +kernel) (by decide +kernel) rfl rfl (v_fieldAddr_ptr Ty.f72_1 rfl (off' := 1) rfl (RA.t0 (i := 5) (li' := #[true, false, false, true, false, true, false, false, false, false, false]) rfl (by decide +kernel) (by decide +kernel) (by decide +kernel) (by decide +kernel) rfl rfl (v_move (v := .int .i64 p1) rfl (RA.a2 (i1 := 1) (l1 := #[true, true, false, true, false, true, false, false, false, false, false]) (i2 := 4) (l2 := #[true, false, false, true, true, true, false, false, false, false, false]) (by decide +kernel) (by decide +kernel) (by decide +kernel) ?_ ?_))))))
     ·refine RO.op rfl rfl (o_load_ptr rfl rfl (loadRow1 Ty.k29 (c := .sl (List.map encS p0.Sectors)) rfl (RA.a2 (i1 := 2) (l1 := #[true, true, true, true, false, true, false, false, false, false, false]) (i2 := 4) (l2 := #[true, true, false, true, true, true, false, false, false, false, false]) (by decide +kernel) (by decide +kernel) (by decide +kernel) ?_ ?_)))
      ·refine RO.op rfl rfl (o_call (as0 := [.sl (List.map encS p0.Sectors)]) (as1 := [.sl (List.map encS p0.Sectors)]) (caps := []) (aw1 := [.box [.sl (List.map encS p0.Sectors), .sl (List.map encWrite p0.Wait)], .box [.nils, .nils]]) rfl rfl rfl (k_own' (v := .ref 0) (obs := [.arr 9 1 (List.map encS x7)]) (v' := .ref 2) (aw' := [.box [.sl (List.map encS p0.Sectors), .sl (List.map encWrite p0.Wait)], .box [.nils, .nils], .arr 9 1 (List.map encS x7)]) (slices_Clone_string_c p0.Sectors x7 hx7) (⟨pure_map encS_p _, trivial⟩) rfl (obs_cons (flatOb_map fun _ => rfl) obs_nil) rfl rfl (RA.a1 (i1 := 4) (l1 := #[true, true, true, true, true, true, false, false, false, false, false]) (by decide +kernel) (by decide +kernel) (RO.op rfl rfl (o_load_ptr rfl rfl (loadRow1 Ty.k70 (c := .sl (List.map encWrite p0.Wait)) rfl (RA.t0 (i := 6) (li' := #[true, true, true, true, true, true, true, false, false, false, false]) rfl (by decide +kernel) (by decide +kernel) (by decide +kernel) (by decide +kernel) rfl rfl (v_slice_sl Ty.s70 (fun _ => rfl) rfl rfl rfl hx8 ?_))))))))
       exact RA.sub hS4 ⟨rfl, rfl, rfl, rfl, rfl, rfl, rfl, rfl, rfl, rfl, rfl, trivial⟩
      ·refine RO.op rfl rfl (o_load_ptr rfl rfl (loadRow1 Ty.k70 (c := .sl (List.map encWrite p0.Wait)) rfl (RA.t0 (i := 6) (li' := #[true, true, false, true, true, true, true, false, false, false, false]) rfl (by decide +kernel) (by decide +kernel) (by decide +kernel) (by decide +kernel) rfl rfl (v_slice_sl Ty.s70 (fun _ => rfl) rfl rfl rfl hx8 ?_))))
       exact RA.sub hS5 ⟨rfl, rfl, rfl, rfl, rfl, rfl, rfl, rfl, rfl, rfl, trivial⟩
     ·refine RO.op rfl rfl (o_load_ptr rfl rfl (loadRow1 Ty.k70 (c := .sl (List.map encWrite p0.Wait)) rfl (RA.t0 (i := 6) (li' := #[true, false, false, true, true, true, true, false, false, false, false]) rfl (by decide +kernel) (by decide +kernel) (by decide +kernel) (by decide +kernel) rfl rfl (v_slice_sl Ty.s70 (fun _ => rfl) rfl rfl rfl hx8 (RA.a1 (i1 := 1) (l1 := #[true, true, false, true, true, true, true, false, false, false, false]) (by decide +kernel) (by decide +kernel) (RO.op rfl rfl (o_load_ptr rfl rfl (loadRow1 Ty.k29 (c := .sl (List.map encS p0.Sectors)) rfl ?_))))))))
      exact RA.sub hS5 ⟨rfl, rfl, rfl, rfl, rfl, rfl, rfl, rfl, rfl, rfl, trivial⟩
  refine T.region (sm (.int .i64 p1) rfl (sq (v_lss rfl rfl (sm (.bool (decide (p1 < 0))) rfl ?_))))
  rcases bool_cases (decide (p1 < 0)) with hb_2 | hb_2
  ·refine sn hb_2 (sn hb_2 (sn hb_2 (sn hb_2 (sn hb_2 (sq (v_pickT (v := .bool true) rfl hb_2 rfl (RS.nil ?_)))))))
   exact T.weakR (hK () trivial) (Weak.mkN [] [0, 1] (by decide) (none_kept _) rfl ⟨rn_int rfl, rn_ptr rfl, rn_ptr rfl, rn_bool (by simp only [hb_2, bz, if_true, if_false, Bool.false_eq_true]), trivial⟩ (rw_bs [.sl (List.map encS p0.Sectors), .sl (List.map encWrite p0.Wait)] rfl (rw_bs [.nils, .nils] rfl (rw_nil))))
  refine yq hb_2 (v_move (v := .int .i64 p1) rfl (yq hb_2 (v_fieldAddr_ptr Ty.f72_1 rfl (off' := 1) rfl (yo hb_2 (o_load_ptr rfl rfl (loadRow1 Ty.k70 (c := .sl (List.map encWrite p0.Wait)) rfl (yq hb_2 (v_len_sl Ty.s70 rfl (yq hb_2 (v_gtr rfl rfl (sq (v_pickF (v := .bool (decide (p1 > ((p0.Wait).length : Int)))) rfl hb_2 rfl (RS.nil ?_)))))))))))))
  exact T.weakR (hK () trivial) (Weak.mkN [] [0, 1] (by decide) (none_kept _) rfl ⟨rn_int rfl, rn_ptr rfl, rn_ptr rfl, rn_bool (by simp only [hb_2, bz, if_true, if_false, Bool.false_eq_true]), trivial⟩ (rw_bs [.sl (List.map encS p0.Sectors), .sl (List.map encWrite p0.Wait)] rfl (rw_bs [.nils, .nils] rfl (rw_nil))))
theorem crosslaw_disked_c (r : Bool) (h : crosslaw_disked = some r) : Fn Try.prog 47 [] (.bool r) := by
  unfold crosslaw_disked at h
  refine fn_of_T (N := 0) rfl Try.func47 rfl (by kernel_rfl) Try.ntmps47 rfl ?_
  show T _ _ _ _ (mkA 58 []) []
  refine T.seq (T.region (sa (.bool false) rfl (RS.nil (T.seq ?_))))
  obtain ⟨x2, hx2, h⟩ := bind_some h
  refine T.region (sq (v_build (cs := [.nils, .nils]) Ty.z72 Ty.p72 rfl (so (o_call (as0 := [.agg [.nils, .nils], .int .i64 1, .str [97]]) (as1 := [.agg [.sl (List.map encS ((⟨[], []⟩ : Disk).Sectors)), .sl (List.map encWrite ((⟨[], []⟩ : Disk).Wait))], .int .i64 (1 : Int), .str ([97] : List UInt8)]) (caps := []) (aw1 := []) rfl rfl rfl (k_fn (v := .tup [.agg [.sl (List.map encS x2.1.Sectors), .sl (List.map encWrite x2.1.Wait)], .int .i64 x2.2]) (disk_Write_c (⟨[], []⟩ : Disk) (1 : Int) ([97] : List UInt8) x2 hx2) (⟨pure_agg _ (pures_mem (⟨pure_map encS_p _, pure_map encWrite_p _, trivial⟩)), pure_int _ _, pure_str _, trivial⟩) (pure_tup _ (pures_mem (⟨pure_agg _ (pures_mem (⟨pure_map encS_p _, pure_map encWrite_p _, trivial⟩)), pure_int _ _, trivial⟩))) (sm (.tup [.agg [.sl (List.map encS x2.1.Sectors), .sl (List.map encWrite x2.1.Wait)], .int .i64 x2.2]) rfl (sq (v_extract (v := .agg [.sl (List.map encS x2.1.Sectors), .sl (List.map encWrite x2.1.Wait)]) rfl rfl (sq (v_extract (v := .int .i64 x2.2) rfl rfl (so (o_alloc Ty.z72 rfl (aw' := [.box [.nils, .nils]]) rfl (so (o_store_ptr Ty.c72 Ty.i72 rfl (vs := [.sl (List.map encS x2.1.Sectors), .sl (List.map encWrite x2.1.Wait)]) rfl rfl rfl rfl (cs' := [.sl (List.map encS x2.1.Sectors), .sl (List.map encWrite x2.1.Wait)]) rfl (aw' := [.box [.sl (List.map encS x2.1.Sectors), .sl (List.map encWrite x2.1.Wait)]]) rfl (sa (.int .i64 x2.2) rfl (RS.nil ?_))))))))))))))))
  refine T.seq ?_
  obtain ⟨x4, hx4, h⟩ := bind_some h
  refine T.region (so (o_load_ptr rfl rfl (loadRowA Ty.k72 Ty.c72 rfl (cs := [.sl (List.map encS x2.1.Sectors), .sl (List.map encWrite x2.1.Wait)]) rfl (so (o_call (as0 := [.agg [.sl (List.map encS x2.1.Sectors), .sl (List.map encWrite x2.1.Wait)], .int .i64 0, .str [98]]) (as1 := [.agg [.sl (List.map encS x2.1.Sectors), .sl (List.map encWrite x2.1.Wait)], .int .i64 (0 : Int), .str ([98] : List UInt8)]) (caps := []) (aw1 := [.box [.sl (List.map encS x2.1.Sectors), .sl (List.map encWrite x2.1.Wait)]]) rfl rfl rfl (k_fn (v := .tup [.agg [.sl (List.map encS x4.1.Sectors), .sl (List.map encWrite x4.1.Wait)], .int .i64 x4.2]) (disk_Write_c x2.1 (0 : Int) ([98] : List UInt8) x4 hx4) (⟨pure_agg _ (pures_mem (⟨pure_map encS_p _, pure_map encWrite_p _, trivial⟩)), pure_int _ _, pure_str _, trivial⟩) (pure_tup _ (pures_mem (⟨pure_agg _ (pures_mem (⟨pure_map encS_p _, pure_map encWrite_p _, trivial⟩)), pure_int _ _, trivial⟩))) (sm (.tup [.agg [.sl (List.map encS x4.1.Sectors), .sl (List.map encWrite x4.1.Wait)], .int .i64 x4.2]) rfl (sq (v_extract (v := .agg [.sl (List.map encS x4.1.Sectors), .sl (List.map encWrite x4.1.Wait)]) rfl rfl (sq (v_extract (v := .int .i64 x4.2) rfl rfl (so (o_store_ptr Ty.c72 Ty.i72 rfl (vs := [.sl (List.map encS x4.1.Sectors), .sl (List.map encWrite x4.1.Wait)]) rfl rfl rfl rfl (cs' := [.sl (List.map encS x4.1.Sectors), .sl (List.map encWrite x4.1.Wait)]) rfl (aw' := [.box [.sl (List.map encS x4.1.Sectors), .sl (List.map encWrite x4.1.Wait)]]) rfl (sa (.int .i64 x4.2) rfl (RS.nil (T.seq ?_))))))))))))))))
  obtain ⟨x6, hx6, h⟩ := bind_some h
  refine T.region (so (o_load_ptr rfl rfl (loadRowA Ty.k72 Ty.c72 rfl (cs := [.sl (List.map encS x4.1.Sectors), .sl (List.map encWrite x4.1.Wait)]) rfl (so (o_call (as0 := [.agg [.sl (List.map encS x4.1.Sectors), .sl (List.map encWrite x4.1.Wait)], .int .i64 0]) (as1 := [.agg [.sl (List.map encS x4.1.Sectors), .sl (List.map encWrite x4.1.Wait)], .int .i64 (0 : Int)]) (caps := []) (aw1 := [.box [.sl (List.map encS x4.1.Sectors), .sl (List.map encWrite x4.1.Wait)]]) rfl rfl rfl (k_flat (v := .tup [.str x6.1, .int .i64 x6.2]) (disk_Read_c x4.1 (0 : Int) x6 hx6) (⟨pure_agg _ (pures_mem (⟨pure_map encS_p _, pure_map encWrite_p _, trivial⟩)), pure_int _ _, trivial⟩) rfl (sm (.tup [.str x6.1, .int .i64 x6.2]) rfl (sq (v_extract (v := .str x6.1) rfl rfl (sq (v_extract (v := .int .i64 x6.2) rfl rfl (sa (.str x6.1) rfl (sa (.int .i64 x6.2) rfl (RS.nil (T.seq ?_)))))))))))))))
  obtain ⟨x8, hx8, h⟩ := bind_some h
  refine T.region (so (o_load_ptr rfl rfl (loadRowA Ty.k72 Ty.c72 rfl (cs := [.sl (List.map encS x4.1.Sectors), .sl (List.map encWrite x4.1.Wait)]) rfl (so (o_call (as0 := [.agg [.sl (List.map encS x4.1.Sectors), .sl (List.map encWrite x4.1.Wait)], .int .i64 1]) (as1 := [.agg [.sl (List.map encS x4.1.Sectors), .sl (List.map encWrite x4.1.Wait)], .int .i64 (1 : Int)]) (caps := []) (aw1 := [.box [.sl (List.map encS x4.1.Sectors), .sl (List.map encWrite x4.1.Wait)]]) rfl rfl rfl (k_fn (v := .tup [.agg [.sl (List.map encS x8.1.Sectors), .sl (List.map encWrite x8.1.Wait)], .int .i64 x8.2]) (disk_Cut_c x4.1 (1 : Int) x8 hx8) (⟨pure_agg _ (pures_mem (⟨pure_map encS_p _, pure_map encWrite_p _, trivial⟩)), pure_int _ _, trivial⟩) (pure_tup _ (pures_mem (⟨pure_agg _ (pures_mem (⟨pure_map encS_p _, pure_map encWrite_p _, trivial⟩)), pure_int _ _, trivial⟩))) (sm (.tup [.agg [.sl (List.map encS x8.1.Sectors), .sl (List.map encWrite x8.1.Wait)], .int .i64 x8.2]) rfl (sq (v_extract (v := .agg [.sl (List.map encS x8.1.Sectors), .sl (List.map encWrite x8.1.Wait)]) rfl rfl (sq (v_extract (v := .int .i64 x8.2) rfl rfl (so (o_alloc Ty.z72 rfl (aw' := [.box [.sl (List.map encS x4.1.Sectors), .sl (List.map encWrite x4.1.Wait)], .box [.nils, .nils]]) rfl (so (o_store_ptr Ty.c72 Ty.i72 rfl (vs := [.sl (List.map encS x8.1.Sectors), .sl (List.map encWrite x8.1.Wait)]) rfl rfl rfl rfl (cs' := [.sl (List.map encS x8.1.Sectors), .sl (List.map encWrite x8.1.Wait)]) rfl (aw' := [.box [.sl (List.map encS x4.1.Sectors), .sl (List.map encWrite x4.1.Wait)], .box [.sl (List.map encS x8.1.Sectors), .sl (List.map encWrite x8.1.Wait)]]) rfl (sa (.int .i64 x8.2) rfl (RS.nil ?_)))))))))))))))))
  obtain ⟨zt_7, hz, h⟩ := bind_some h
  revert hz h; revert zt_7; intro c10 hz h
  refine T.join (Z := Unit) (fun _ => mkA 58 [(0, .bool c10)]) (fun _ => []) (fun _ => True) (fun _ _ => ?_) (fun hK => ?_)
  ·refine T.rt (res_tmpA (v := .bool c10) rfl (res_done ?_))
   exact ret_data (v := .bool c10) rfl (pure_bool _) ⟨congrArg (fun r : Bool => (.bool r : AV)) (Option.some.inj h), rfl⟩
  refine T.region (sm (.int .i64 x2.2) rfl (sq (v_eql rfl rfl (sm (.bool (x2.2 == 0)) rfl ?_))))
  rcases bool_cases (x2.2 == 0) with hb_1 | hb_1
  ·replace hz := ite_T hz hb_1
   refine yq hb_1 (v_move (v := .int .i64 x4.2) rfl (yq hb_1 (v_eql rfl rfl (sq (v_pickT (v := .bool (x4.2 == 0)) rfl hb_1 rfl (sm (.bool (x4.2 == 0)) rfl ?_))))))
   rcases bool_cases (x4.2 == 0) with hb_2 | hb_2
   ·replace hz := ite_T hz hb_2
    refine yq hb_2 (v_move (v := .int .i64 x6.2) rfl (yq hb_2 (v_eql rfl rfl (sq (v_pickT (v := .bool (x6.2 == 0)) rfl hb_2 rfl (sm (.bool (x6.2 == 0)) rfl ?_))))))
    rcases bool_cases (x6.2 == 0) with hb_3 | hb_3
    ·replace hz := ite_T hz hb_3
     refine yq hb_3 (v_move (v := .int .i64 x8.2) rfl (yq hb_3 (v_eql rfl rfl (sq (v_pickT (v := .bool (x8.2 == 0)) rfl hb_3 rfl (sm (.bool (x8.2 == 0)) rfl ?_))))))
     rcases bool_cases (x8.2 == 0) with hb_4 | hb_4
     ·replace hz := ite_T hz hb_4
      refine yq hb_4 (v_move (v := .str x6.1) rfl (yq hb_4 (v_seql rfl rfl (sq (v_pickT (v := .bool (x6.1 == [98])) rfl hb_4 rfl (sm (.bool (x6.1 == [98])) rfl ?_))))))
      rcases bool_cases (x6.1 == [98]) with hb_5 | hb_5
      ·replace hz := ite_T hz hb_5
       obtain ⟨x9, hx9, hz⟩ := bind_some hz
       refine yq hb_5 (v_fieldAddr_ptr Ty.f72_0 rfl (off' := 0) rfl (yo hb_5 (o_load_ptr rfl rfl (loadRow1 Ty.k29 (c := .sl (List.map encS x8.1.Sectors)) rfl (yo hb_5 (o_buildSlice (rows := List.map encS [[], [97]]) (vs := [.str [], .str [97]]) Ty.s29 Ty.z9 rfl rfl rfl rfl rfl (aw' := [.box [.sl (List.map encS x4.1.Sectors), .sl (List.map encWrite x4.1.Wait)], .box [.sl (List.map encS x8.1.Sectors), .sl (List.map encWrite x8.1.Wait)], .arr 9 1 (List.map encS [[], [97]])]) rfl (yo hb_5 (o_call (as0 := [.sl (List.map encS x8.1.Sectors), .ref 2]) (as1 := [.sl (List.map encS x8.1.Sectors), .sl (List.map encS ([[], [97]] : List (List UInt8)))]) (caps := []) (aw1 := [.box [.sl (List.map encS x4.1.Sectors), .sl (List.map encWrite x4.1.Wait)], .box [.sl (List.map encS x8.1.Sectors), .sl (List.map encWrite x8.1.Wait)], .dead]) rfl rfl rfl (k_flat (v := .bool x9) (slices_Equal_string_c x8.1.Sectors ([[], [97]] : List (List UInt8)) x9 hx9) (⟨pure_map encS_p _, pure_map encS_p _, trivial⟩) rfl (sq (v_pickT (v := .bool x9) rfl hb_5 rfl (sm (.bool x9) rfl ?_))))))))))))
       rcases bool_cases x9 with hb_6 | hb_6
       ·replace hz := ite_T hz hb_6
        refine yq hb_6 (v_fieldAddr_ptr Ty.f72_1 rfl (off' := 1) rfl (yo hb_6 (o_load_ptr rfl rfl (loadRow1 Ty.k70 (c := .sl (List.map encWrite x8.1.Wait)) rfl (yq hb_6 (v_len_sl Ty.s70 rfl (yq hb_6 (v_eql rfl rfl (sq (v_pickT (v := .bool (((x8.1.Wait).length : Int) == 0)) rfl hb_6 rfl (sa (.bool (((x8.1.Wait).length : Int) == 0)) rfl (RS.nil ?_))))))))))))
        exact T.weakR (hK () trivial) (Weak.mkN [] [] (by decide) (none_kept _) rfl ⟨rn_bool ((congrArg (fun p => p) (Option.some.inj hz)).symm), trivial⟩ (rw_nil))
       replace hz := ite_F hz hb_6
       refine sn hb_6 (sn hb_6 (sn hb_6 (sn hb_6 (sq (v_pickF (v := .bool false) rfl hb_6 rfl (sa (.bool false) rfl (RS.nil ?_)))))))
       exact T.weakR (hK () trivial) (Weak.mkN [] [] (by decide) (none_kept _) rfl ⟨rn_bool ((congrArg (fun p => p) (Option.some.inj hz)).symm), trivial⟩ (rw_nil))
      replace hz := ite_F hz hb_5
      refine sn hb_5 (sn hb_5 (sn hb_5 (sn hb_5 (sq (v_pickF (v := .bool false) rfl hb_5 rfl (sm (.bool false) rfl (sn rfl (sn rfl (sn rfl (sn rfl ?_))))))))))
      refine sq (v_pickF (v := .bool false) rfl rfl rfl (sa (.bool false) rfl (RS.nil ?_)))
      exact T.weakR (hK () trivial) (Weak.mkN [] [] (by decide) (none_kept _) rfl ⟨rn_bool ((congrArg (fun p => p) (Option.some.inj hz)).symm), trivial⟩ (rw_nil))
     replace hz := ite_F hz hb_4
     refine sn hb_4 (sn hb_4 (sq (v_pickF (v := .bool false) rfl hb_4 rfl (sm (.bool false) rfl (sn rfl (sn rfl (sn rfl (sn rfl (sq (v_pickF (v := .bool false) rfl rfl rfl (sm (.bool false) rfl ?_)))))))))))
     refine sn rfl (sn rfl (sn rfl (sn rfl (sq (v_pickF (v := .bool false) rfl rfl rfl (sa (.bool false) rfl (RS.nil ?_)))))))
     exact T.weakR (hK () trivial) (Weak.mkN [] [] (by decide) (none_kept _) rfl ⟨rn_bool ((congrArg (fun p => p) (Option.some.inj hz)).symm), trivial⟩ (rw_nil))
    replace hz := ite_F hz hb_3
    refine sn hb_3 (sn hb_3 (sq (v_pickF (v := .bool false) rfl hb_3 rfl (sm (.bool false) rfl (sn rfl (sn rfl (sq (v_pickF (v := .bool false) rfl rfl rfl (sm (.bool false) rfl (sn rfl (sn rfl ?_)))))))))))
    refine sn rfl (sn rfl (sq (v_pickF (v := .bool false) rfl rfl rfl (sm (.bool false) rfl (sn rfl (sn rfl (sn rfl (sn rfl (sq (v_pickF (v := .bool false) rfl rfl rfl (sa (.bool false) rfl ?_)))))))))))
    refine RS.nil ?_
    exact T.weakR (hK () trivial) (Weak.mkN [] [] (by decide) (none_kept _) rfl ⟨rn_bool ((congrArg (fun p => p) (Option.some.inj hz)).symm), trivial⟩ (rw_nil))
   replace hz := ite_F hz hb_2
   refine sn hb_2 (sn hb_2 (sq (v_pickF (v := .bool false) rfl hb_2 rfl (sm (.bool false) rfl (sn rfl (sn rfl (sq (v_pickF (v := .bool false) rfl rfl rfl (sm (.bool false) rfl (sn rfl (sn rfl ?_)))))))))))
   refine sq (v_pickF (v := .bool false) rfl rfl rfl (sm (.bool false) rfl (sn rfl (sn rfl (sn rfl (sn rfl (sq (v_pickF (v := .bool false) rfl rfl rfl (sm (.bool false) rfl (sn rfl (sn rfl ?_)))))))))))
   refine sn rfl (sn rfl (sq (v_pickF (v := .bool false) rfl rfl rfl (sa (.bool false) rfl (RS.nil ?_)))))
   exact T.weakR (hK () trivial) (Weak.mkN [] [] (by decide) (none_kept _) rfl ⟨rn_bool ((congrArg (fun p => p) (Option.some.inj hz)).symm), trivial⟩ (rw_nil))
  replace hz := ite_F hz hb_1
  refine sn hb_1 (sn hb_1 (sq (v_pickF (v := .bool false) rfl hb_1 rfl (sm (.bool false) rfl (sn rfl (sn rfl (sq (v_pickF (v := .bool false) rfl rfl rfl (sm (.bool false) rfl (sn rfl (sn rfl ?_)))))))))))
  refine sq (v_pickF (v := .bool false) rfl rfl rfl (sm (.bool false) rfl (sn rfl (sn rfl (sq (v_pickF (v := .bool false) rfl rfl rfl (sm (.bool false) rfl (sn rfl (sn rfl (sn rfl (sn rfl ?_)))))))))))
  refine sq (v_pickF (v := .bool false) rfl rfl rfl (sm (.bool false) rfl (sn rfl (sn rfl (sn rfl (sn rfl (sq (v_pickF (v := .bool false) rfl rfl rfl (sa (.bool false) rfl (RS.nil ?_))))))))))
  exact T.weakR (hK () trivial) (Weak.mkN [] [] (by decide) (none_kept _) rfl ⟨rn_bool ((congrArg (fun p => p) (Option.some.inj hz)).symm), trivial⟩ (rw_nil))
theorem slices_Equal_Write_c (p0 : List Write) (p1 : List Write) (r : Bool) (h : slices_Equal_Write p0 p1 = some r) : Fn Try.prog 52 [.sl (List.map encWrite p0), .sl (List.map encWrite p1)] (.bool r) := by
  unfold slices_Equal_Write at h
  refine fn_of_T (N := 0) rfl Try.func52 rfl (by kernel_rfl) Try.ntmps52 rfl ?_
  show T _ _ _ _ (mkA 26 [(0, .sl (List.map encWrite p0)), (1, .sl (List.map encWrite p1))]) []
  refine T.seq (T.region (sa (.bool false) rfl (RS.nil (T.seq (T.seq (T.region (sm (.sl (List.map encWrite p0)) rfl (sq (v_len_sl Ty.s70 rfl (sm (.sl (List.map encWrite p1)) rfl ?_))))))))))
  refine sq (v_len_sl Ty.s70 rfl (sq (v_neq rfl rfl (RS.nil (T.cond (b := ((p0).length : Int) != ((p1).length : Int)) rfl (fun hb_1 => ?_) (fun hb_1 => ?_))))))
  ·replace h := ite_T h hb_1
   refine T.seq (T.region (sa (.bool false) rfl (RS.nil (T.rt (res_tmpA (v := .bool false) rfl (res_done ?_))))))
   exact ret_data (v := .bool false) rfl (pure_bool _) ⟨congrArg (fun r : Bool => (.bool r : AV)) (Option.some.inj h), rfl⟩
  replace h := ite_F h hb_1
  refine T.skip (T.seq (T.seq (T.region (sm (.sl (List.map encWrite p0)) rfl (sq (v_len_sl Ty.s70 rfl (sm (.int .i64 0) rfl (RS.nil (T.block (T.iter (fun ss_10 : Int => mkA 26 [(0, .sl (List.map encWrite p0)), (1, .sl (List.map encWrite p1)), (12, .int .i64 ((p0).length : Int)), (13, .int .i64 ss_10)]) (fun ss_10 => []) h (Weak.mkN [] [] (by decide) (none_kept _) rfl ⟨rn_s rfl, rn_s rfl, rn_int rfl, rn_int rfl, trivial⟩ (rw_nil)) (fun ss_10 v_11 h hv_11 => ?_)))))))))))
  revert hv_11 h; revert ss_10; intro s1 h hv_11
  replace h : slices_Equal_Write_l1 p0 p1 s1 = some v_11 := h
  try dsimp only
  unfold slices_Equal_Write_l1 at h
  refine T.seq (T.region (sq (v_lss rfl rfl (RS.nil (T.seq (T.cond (b := decide (s1 < ((p0).length : Int))) rfl (fun hb_12 => ?_) (fun hb_12 => ?_)))))))
  ·replace h := ite_T h hb_12
   refine T.skip (T.seq (T.block (T.seq (T.region (sm (.int .i64 s1) rfl (sa (.int .i64 s1) rfl (RS.nil (T.seq ?_))))))))
   obtain ⟨x4, hx4, h⟩ := bind_some h
   obtain ⟨x5, hx5, h⟩ := bind_some h
   refine T.drawn mixed (k := 9) rfl ?_
   let l14 : List (Nat × AV) := [(0, .sl (List.map encWrite p0)), (1, .sl (List.map encWrite p1)), (5, .int .i64 s1), (12, .int .i64 ((p0).length : Int)), (13, .int .i64 s1), (14, .bool (decide (s1 < ((p0).length : Int)))), (15, .int .i64 s1)]
   let a14 : List Ob := []
   refine RA.join 0 #[true, true, true, true, true, true, true, true, true] (mkA 26 ((16, .sl (List.map encWrite p0)) :: (17, .int .i64 s1) :: (18, .elt (encWrite x4) 0) :: (19, .agg [.int .i64 x4.At, .str x4.Bytes]) :: (20, .sl (List.map encWrite p1)) :: (21, .int .i64 s1) :: (22, .elt (encWrite x5) 0) :: (23, .agg [.int .i64 x5.At, .str x5.Bytes]) :: (24, .bool (!(x4 == x5))) :: l14)) a14 ?_ (fun hS13 => ?_)
   ·refine RA.done (by decide +kernel) (T.cond (b := !(x4 == x5)) rfl (fun hb_15 => ?_) (fun hb_15 => ?_))
    ·replace h := ite_T h hb_15
     refine T.seq (T.region (sa (.bool false) rfl (RS.nil (T.rt ?_))))
     obtain ⟨w_16, h, hw_16⟩ := map_inr h
     replace h := h.trans (congrArg some (hv_11 _ hw_16))
     refine res_tmpA (v := .bool false) rfl (res_done ?_)
     exact ret_data (v := .bool false) rfl (pure_bool _) ⟨congrArg (fun r : Bool => (.bool r : AV)) (Option.some.inj h), rfl⟩
    replace h := ite_F h hb_15
    refine T.skip (T.region (sq (v_add rfl rfl (sm (.int .i64 (IntKind.i64.wrap (s1 + 1))) rfl (RS.nil ?_)))))
    exact ⟨IntKind.i64.wrap (s1 + 1), (Option.some.inj h).symm, Weak.mkN [] [] (by decide) (none_kept _) rfl ⟨rn_s rfl, rn_s rfl, rn_int rfl, rn_int rfl, trivial⟩ (rw_nil)⟩
   ·refine RA.t0 (i := 0) (li' := #[true, false, false, false, false, false, false, false, false]) rfl (by decide +kernel) (by decide +kernel) (by decide +kernel) (by decide +kernel) rfl rfl (v_move (v := .sl (List.map encWrite p0)) rfl (RA.t0 (i := 1) (li' := #[true, true, false, false, false, false, false, false, false]) rfl (by decide +kernel) (by decide +kernel) (by decide +kernel) (by decide +kernel) rfl rfl (v_move (v := .int .i64 s1) rfl (RA.t0 (i := 2) (li' := #[true, true, true, false, false, false, false, false, false]) rfl (by decide +kernel) (by decide +kernel) (by decide +kernel) (by decide +kernel) rfl rfl (v_index_sl Ty.s70 (fun _ => rfl) rfl rfl hx4 (RA.t0 (i := 4) (li' := #[true, true, true, false, true, false, false, false, false]) rfl (by decide +kernel) (by decide +kernel) (by decide +kernel) (by decide +kernel) rfl rfl (v_move (v := .sl (List.map encWrite p1)) rfl (RA.t0 (i := 5) (li' := #[true, true, true, false, true, true, false, false, false]) rfl (by decide +kernel) (by decide +kernel) (by decide +kernel) (by decide +kernel) rfl rfl (v_move (v := .int .i64 s1) rfl (RA.t0 (i := 6) (li' := #[true, true, true, false, true, true, true, false, false]) rfl (by decide +kernel) (by decide +kernel) (by decide +kernel) (by decide +kernel) rfl rfl (v_index_sl Ty.s70 (fun _ => rfl) rfl rfl hx5 (RA.a2 (i1 := 3) (l1 := #[true, true, true, true, true, true, true, false, false]) (i2 := 7) (l2 := #[true, true, true, false, true, true, true, true, false]) (by decide +kernel) (by decide +kernel) (by decide +kernel) ?_ ?_))))))))))))
    ·refine RO.op rfl rfl (o_load_elt rfl (loadRowA Ty.k76 Ty.c76 rfl (cs := [.int .i64 x4.At, .str x4.Bytes]) rfl (RA.a1 (i1 := 7) (l1 := #[true, true, true, true, true, true, true, true, false]) (by decide +kernel) (by decide +kernel) (RO.op rfl rfl (o_load_elt rfl (loadRowA Ty.k76 Ty.c76 rfl (cs := [.int .i64 x5.At, .str x5.Bytes]) rfl (RA.t0 (i := 8) (li' := #[true, true, true, true, true, true, true, true, true]) rfl (by decide +kernel) (by decide +kernel) (by decide +kernel) (by decide +kernel) rfl rfl (v_gneq (cs := [.int .i64 x4.At, .str x4.Bytes]) (ds := [.int .i64 x5.At, .str x5.Bytes]) (r := x4 == x5) Ty.q76 rfl rfl rfl rfl (encWrite_eq x4 x5) ?_))))))))
     exact RA.sub hS13 ⟨rfl, rfl, rfl, rfl, rfl, rfl, rfl, rfl, rfl, rfl, rfl, rfl, rfl, rfl, rfl, rfl, trivial⟩
    ·refine RO.op rfl rfl (o_load_elt rfl (loadRowA Ty.k76 Ty.c76 rfl (cs := [.int .i64 x5.At, .str x5.Bytes]) rfl (RA.a1 (i1 := 3) (l1 := #[true, true, true, true, true, true, true, true, false]) (by decide +kernel) (by decide +kernel) (RO.op rfl rfl (o_load_elt rfl (loadRowA Ty.k76 Ty.c76 rfl (cs := [.int .i64 x4.At, .str x4.Bytes]) rfl (RA.t0 (i := 8) (li' := #[true, true, true, true, true, true, true, true, true]) rfl (by decide +kernel) (by decide +kernel) (by decide +kernel) (by decide +kernel) rfl rfl (v_gneq (cs := [.int .i64 x4.At, .str x4.Bytes]) (ds := [.int .i64 x5.At, .str x5.Bytes]) (r := x4 == x5) Ty.q76 rfl rfl rfl rfl (encWrite_eq x4 x5) ?_))))))))
     exact RA.sub hS13 ⟨rfl, rfl, rfl, rfl, rfl, rfl, rfl, rfl, rfl, rfl, rfl, rfl, rfl, rfl, rfl, rfl, trivial⟩
  replace h := ite_F h hb_12
  refine T.exit ?_
  obtain ⟨w_17, h, hw_17⟩ := map_inr h
  replace h := h.trans (congrArg some (hv_11 _ hw_17))
  refine T.seq (T.region (sa (.bool true) rfl (RS.nil (T.rt (res_tmpA (v := .bool true) rfl (res_done ?_))))))
  exact ret_data (v := .bool true) rfl (pure_bool _) ⟨congrArg (fun r : Bool => (.bool r : AV)) (Option.some.inj h), rfl⟩
theorem crossref_SameDisk_c (p0 : Disk) (p1 : Disk) (r : Bool) (h : crossref_SameDisk p0 p1 = some r) : Fn Try.prog 49 [.agg [.sl (List.map encS p0.Sectors), .sl (List.map encWrite p0.Wait)], .agg [.sl (List.map encS p1.Sectors), .sl (List.map encWrite p1.Wait)]] (.bool r) := by
  unfold crossref_SameDisk at h
  refine fn_of_T (N := 0) rfl Try.func49 rfl (by kernel_rfl) Try.ntmps49 rfl ?_
  show T _ _ _ _ (mkA 17 [(0, .agg [.sl (List.map encS p0.Sectors), .sl (List.map encWrite p0.Wait)]), (1, .agg [.sl (List.map encS p1.Sectors), .sl (List.map encWrite p1.Wait)])]) []
  refine T.seq (T.region (so (o_box (cs := [.sl (List.map encS p0.Sectors), .sl (List.map encWrite p0.Wait)]) rfl rfl (aw' := [.box [.sl (List.map encS p0.Sectors), .sl (List.map encWrite p0.Wait)]]) rfl (so (o_box (cs := [.sl (List.map encS p1.Sectors), .sl (List.map encWrite p1.Wait)]) rfl rfl (aw' := [.box [.sl (List.map encS p0.Sectors), .sl (List.map encWrite p0.Wait)], .box [.sl (List.map encS p1.Sectors), .sl (List.map encWrite p1.Wait)]]) rfl (sa (.bool false) rfl (RS.nil ?_)))))))
  obtain ⟨x1, hx1, h⟩ := bind_some h
  obtain ⟨zt_2, hz, h⟩ := bind_some h
  revert hz h; revert zt_2; intro c3 hz h
  refine T.join (Z := Unit) (fun _ => mkA 17 [(4, .bool c3)]) (fun _ => []) (fun _ => True) (fun _ _ => ?_) (fun hK => ?_)
  ·refine T.rt (res_tmpA (v := .bool c3) rfl (res_done ?_))
   exact ret_data (v := .bool c3) rfl (pure_bool _) ⟨congrArg (fun r : Bool => (.bool r : AV)) (Option.some.inj h), rfl⟩
  refine T.region (sq (v_fieldAddr_ptr Ty.f72_0 rfl (off' := 0) rfl (so (o_load_ptr rfl rfl (loadRow1 Ty.k29 (c := .sl (List.map encS p0.Sectors)) rfl (sq (v_fieldAddr_ptr Ty.f72_0 rfl (off' := 0) rfl (so (o_load_ptr rfl rfl (loadRow1 Ty.k29 (c := .sl (List.map encS p1.Sectors)) rfl (so (o_call (as0 := [.sl (List.map encS p0.Sectors), .sl (List.map encS p1.Sectors)]) (as1 := [.sl (List.map encS p0.Sectors), .sl (List.map encS p1.Sectors)]) (caps := []) (aw1 := [.box [.sl (List.map encS p0.Sectors), .sl (List.map encWrite p0.Wait)], .box [.sl (List.map encS p1.Sectors), .sl (List.map encWrite p1.Wait)]]) rfl rfl rfl (k_flat (v := .bool x1) (slices_Equal_string_c p0.Sectors p1.Sectors x1 hx1) (⟨pure_map encS_p _, pure_map encS_p _, trivial⟩) rfl (sm (.bool x1) rfl ?_))))))))))))))
  rcases bool_cases x1 with hb_1 | hb_1
  ·replace hz := ite_T hz hb_1
   obtain ⟨x2, hx2, hz⟩ := bind_some hz
   refine yq hb_1 (v_fieldAddr_ptr Ty.f72_1 rfl (off' := 1) rfl (yo hb_1 (o_load_ptr rfl rfl (loadRow1 Ty.k70 (c := .sl (List.map encWrite p0.Wait)) rfl (yq hb_1 (v_fieldAddr_ptr Ty.f72_1 rfl (off' := 1) rfl (yo hb_1 (o_load_ptr rfl rfl (loadRow1 Ty.k70 (c := .sl (List.map encWrite p1.Wait)) rfl (yo hb_1 (o_call (as0 := [.sl (List.map encWrite p0.Wait), .sl (List.map encWrite p1.Wait)]) (as1 := [.sl (List.map encWrite p0.Wait), .sl (List.map encWrite p1.Wait)]) (caps := []) (aw1 := [.box [.sl (List.map encS p0.Sectors), .sl (List.map encWrite p0.Wait)], .box [.sl (List.map encS p1.Sectors), .sl (List.map encWrite p1.Wait)]]) rfl rfl rfl (k_flat (v := .bool x2) (slices_Equal_Write_c p0.Wait p1.Wait x2 hx2) (⟨pure_map encWrite_p _, pure_map encWrite_p _, trivial⟩) rfl (sq (v_pickT (v := .bool x2) rfl hb_1 rfl (sa (.bool x2) rfl (RS.nil ?_))))))))))))))))
   exact T.weakR (hK () trivial) (Weak.mkN [] [] (by decide) (none_kept _) rfl ⟨rn_bool ((congrArg (fun p => p) (Option.some.inj hz)).symm), trivial⟩ (rw_nil))
  replace hz := ite_F hz hb_1
  refine sn hb_1 (sn hb_1 (sn hb_1 (sn hb_1 (sn hb_1 (sq (v_pickF (v := .bool false) rfl hb_1 rfl (sa (.bool false) rfl (RS.nil ?_))))))))
  exact T.weakR (hK () trivial) (Weak.mkN [] [] (by decide) (none_kept _) rfl ⟨rn_bool ((congrArg (fun p => p) (Option.some.inj hz)).symm), trivial⟩ (rw_nil))
theorem crosslaw_noDisk_c (p0 : Disk) (r : Bool) (h : crosslaw_noDisk p0 = some r) : Fn Try.prog 50 [.agg [.sl (List.map encS p0.Sectors), .sl (List.map encWrite p0.Wait)]] (.bool r) := by
  unfold crosslaw_noDisk at h
  refine fn_of_T (N := 0) rfl Try.func50 rfl (by kernel_rfl) Try.ntmps50 rfl ?_
  show T _ _ _ _ (mkA 6 [(0, .agg [.sl (List.map encS p0.Sectors), .sl (List.map encWrite p0.Wait)])]) []
  refine T.seq (T.region (so (o_box (cs := [.sl (List.map encS p0.Sectors), .sl (List.map encWrite p0.Wait)]) rfl rfl (aw' := [.box [.sl (List.map encS p0.Sectors), .sl (List.map encWrite p0.Wait)]]) rfl (sa (.bool false) rfl (RS.nil (T.seq ?_))))))
  obtain ⟨x2, hx2, h⟩ := bind_some h
  refine T.region (so (o_load_ptr rfl rfl (loadRowA Ty.k72 Ty.c72 rfl (cs := [.sl (List.map encS p0.Sectors), .sl (List.map encWrite p0.Wait)]) rfl (sq (v_build (cs := [.nils, .nils]) Ty.z72 Ty.p72 rfl (so (o_call (as0 := [.agg [.sl (List.map encS p0.Sectors), .sl (List.map encWrite p0.Wait)], .agg [.nils, .nils]]) (as1 := [.agg [.sl (List.map encS p0.Sectors), .sl (List.map encWrite p0.Wait)], .agg [.sl (List.map encS ((⟨[], []⟩ : Disk).Sectors)), .sl (List.map encWrite ((⟨[], []⟩ : Disk).Wait))]]) (caps := []) (aw1 := [.box [.sl (List.map encS p0.Sectors), .sl (List.map encWrite p0.Wait)]]) rfl rfl rfl (k_flat (v := .bool x2) (crossref_SameDisk_c p0 (⟨[], []⟩ : Disk) x2 hx2) (⟨pure_agg _ (pures_mem (⟨pure_map encS_p _, pure_map encWrite_p _, trivial⟩)), pure_agg _ (pures_mem (⟨pure_map encS_p _, pure_map encWrite_p _, trivial⟩)), trivial⟩) rfl (sa (.bool x2) rfl (RS.nil (T.rt (res_tmpA (v := .bool x2) rfl (res_done ?_)))))))))))))
  exact ret_data (v := .bool x2) rfl (pure_bool _) ⟨congrArg (fun r : Bool => (.bool r : AV)) (Option.some.inj h), rfl⟩
theorem crossref_Done_c (p0 : List (List UInt8)) (p1 : List Write) (r : List (List UInt8)) (h : crossref_Done p0 p1 = some r) : FnO Try.prog 51 [.sl (List.map encS p0), .sl (List.map encWrite p1)] (.ref 0) [.arr 9 1 (List.map encS r)] := by
  unfold crossref_Done at h
  refine fn_of_T (N := 0) rfl Try.func51 rfl (by kernel_rfl) Try.ntmps51 rfl ?_
  show T _ _ _ _ (mkA 56 [(0, .sl (List.map encS p0)), (1, .sl (List.map encWrite p1))]) []
  refine T.seq (T.region (sa .nils rfl (RS.nil (T.seq (T.region (so (o_makeMap rfl (aw' := [.mp (List.map kI (List.map Prod.fst ([] : List (Int × (List UInt8))))) (List.map kS (List.map Prod.snd ([] : List (Int × (List UInt8)))))]) rfl (sa (.mpr 0) rfl (RS.nil (T.seq ?_))))))))))
  refine T.region (sm (.sl (List.map encS p0)) rfl (sq (v_len_sl Ty.s29 rfl (sa (.int .i64 ((p0).length : Int)) rfl (RS.nil (T.seq (T.seq (T.region (sm (.sl (List.map encS p0)) rfl (sq (v_len_sl Ty.s29 rfl ?_)))))))))))
  refine sm (.int .i64 0) rfl (RS.nil (T.block (T.iter (fun ss_3 : Int × (List (Int × (List UInt8))) => mkA 56 [(1, .sl (List.map encWrite p1)), (5, .mpr 0), (6, .int .i64 ((p0).length : Int)), (16, .sl (List.map encS p0)), (17, .int .i64 ((p0).length : Int)), (18, .int .i64 ss_3.1)]) (fun ss_3 => [.mp (List.map kI (List.map Prod.fst ss_3.2)) (List.map kS (List.map Prod.snd ss_3.2))]) h (Weak.mkN [] [0] (by decide) (none_kept _) rfl ⟨rn_s rfl, rn_mpr rfl, rn_int rfl, rn_s rfl, rn_int rfl, rn_int rfl, trivial⟩ (rw_mp (ek := kI) (ev := kS) (ys := ([] : List (Int × (List UInt8)))) rfl (fun _ => pure_int _ _) (fun _ => pure_str _) rfl (rw_nil))) (fun ss_3 v_4 h hv_4 => ?_))))
  obtain ⟨s1, s2⟩ := ss_3
  replace h : crossref_Done_l3 p0 p1 s1 s2 = some v_4 := h
  try dsimp only
  unfold crossref_Done_l3 at h
  refine T.seq (T.region (sq (v_lss rfl rfl (RS.nil (T.seq (T.cond (b := decide (s1 < ((p0).length : Int))) rfl (fun hb_5 => ?_) (fun hb_5 => ?_)))))))
  ·replace h := ite_T h hb_5
   refine T.skip (T.seq (T.block (T.seq ?_)))
   obtain ⟨x4, hx4, h⟩ := bind_some h
   refine T.region (sm (.int .i64 s1) rfl (sq (v_index_sl Ty.s29 (fun _ => rfl) rfl rfl hx4 (so (o_load_elt rfl (loadRow1 Ty.k9 (c := .str x4) rfl (sa (.int .i64 s1) rfl (sa (.str x4) rfl (RS.nil (T.region (sm (.mpr 0) rfl (sm (.int .i64 s1) rfl ?_))))))))))))
   refine sm (.str x4) rfl (so (o_mapPut (ek := kI) (ev := kS) (xs := s2) (k := s1) (a := x4) (.inl rfl) Try.underlying102 (KeyT.int Try.underlying3) rfl rfl rfl rfl (aw' := [.mp (List.map kI (List.map Prod.fst (mset s1 x4 s2))) (List.map kS (List.map Prod.snd (mset s1 x4 s2)))]) rfl (RS.nil (T.region (sq (v_add rfl rfl (sm (.int .i64 (IntKind.i64.wrap (s1 + 1))) rfl (RS.nil ?_))))))))
   exact ⟨(IntKind.i64.wrap (s1 + 1), (mset s1 x4 s2)), (Option.some.inj h).symm, Weak.mkN [] [0] (by decide) (none_kept _) rfl ⟨rn_s rfl, rn_mpr rfl, rn_int rfl, rn_s rfl, rn_int rfl, rn_int rfl, trivial⟩ (rw_mp (ek := kI) (ev := kS) (ys := (mset s1 x4 s2)) rfl (fun _ => pure_int _ _) (fun _ => pure_str _) rfl (rw_nil))⟩
  replace h := ite_F h hb_5
  refine T.exit ?_
  obtain ⟨w_6, h, hw_6⟩ := map_inr h
  replace h := h.trans (congrArg some (hv_4 _ hw_6))
  refine T.seq (T.seq (T.region (sm (.sl (List.map encWrite p1)) rfl (sq (v_len_sl Ty.s70 rfl (sm (.int .i64 0) rfl (RS.nil (T.block (T.iter (fun ss_9 : Int × Int × (List (Int × (List UInt8))) => mkA 56 [(5, .mpr 0), (6, .int .i64 ss_9.1), (27, .sl (List.map encWrite p1)), (28, .int .i64 ((p1).length : Int)), (29, .int .i64 ss_9.2.1)]) (fun ss_9 => [.mp (List.map kI (List.map Prod.fst ss_9.2.2)) (List.map kS (List.map Prod.snd ss_9.2.2))]) h (Weak.mkN [] [0] (by decide) (none_kept _) rfl ⟨rn_mpr rfl, rn_int rfl, rn_s rfl, rn_int rfl, rn_int rfl, trivial⟩ (rw_mp (ek := kI) (ev := kS) (ys := s2) rfl (fun _ => pure_int _ _) (fun _ => pure_str _) rfl (rw_nil))) (fun ss_9 v_10 h hv_10 => ?_))))))))))
  obtain ⟨s5, s6, s7⟩ := ss_9
  replace h : crossref_Done_l2 p1 s5 s6 s7 = some v_10 := h
  try dsimp only
  unfold crossref_Done_l2 at h
  refine T.seq (T.region (sq (v_lss rfl rfl (RS.nil (T.seq (T.cond (b := decide (s6 < ((p1).length : Int))) rfl (fun hb_11 => ?_) (fun hb_11 => ?_)))))))
  ·replace h := ite_T h hb_11
   refine T.skip (T.seq (T.block (T.seq ?_)))
   obtain ⟨x9, hx9, h⟩ := bind_some h
   refine T.region (sq (v_index_sl Ty.s70 (fun _ => rfl) rfl rfl hx9 (so (o_load_elt rfl (loadRowA Ty.k76 Ty.c76 rfl (cs := [.int .i64 x9.At, .str x9.Bytes]) rfl (so (o_alloc Ty.z76 rfl (aw' := [.mp (List.map kI (List.map Prod.fst s7)) (List.map kS (List.map Prod.snd s7)), .box [.int .i64 0, .str []]]) rfl (so (o_store_ptr Ty.c76 Ty.i76 rfl (vs := [.int .i64 x9.At, .str x9.Bytes]) rfl rfl rfl rfl (cs' := [.int .i64 x9.At, .str x9.Bytes]) rfl (aw' := [.mp (List.map kI (List.map Prod.fst s7)) (List.map kS (List.map Prod.snd s7)), .box [.int .i64 x9.At, .str x9.Bytes]]) rfl (RS.nil (T.seq (T.region (sm (.mpr 0) rfl (sq (v_fieldAddr_ptr Ty.f76_0 rfl (off' := 0) rfl ?_)))))))))))))))
   refine so (o_load_ptr rfl rfl (loadRow1 Ty.k3 (c := .int .i64 x9.At) rfl (sq (v_fieldAddr_ptr Ty.f76_1 rfl (off' := 1) rfl (so (o_load_ptr rfl rfl (loadRow1 Ty.k9 (c := .str x9.Bytes) rfl (so (o_mapPut (ek := kI) (ev := kS) (xs := s7) (k := x9.At) (a := x9.Bytes) (.inl rfl) Try.underlying102 (KeyT.int Try.underlying3) rfl rfl rfl rfl (aw' := [.mp (List.map kI (List.map Prod.fst (mset x9.At x9.Bytes s7))) (List.map kS (List.map Prod.snd (mset x9.At x9.Bytes s7))), .box [.int .i64 x9.At, .str x9.Bytes]]) rfl (RS.nil (T.region (sm (.int .i64 s5) rfl (sq (v_fieldAddr_ptr Ty.f76_0 rfl (off' := 0) rfl (so (o_load_ptr rfl rfl (loadRow1 Ty.k3 (c := .int .i64 x9.At) rfl (sq (v_add rfl rfl ?_)))))))))))))))))))
   refine sq (v_max rfl rfl (sa (.int .i64 (if (IntKind.i64.wrap (x9.At + 1)) > s5 then (IntKind.i64.wrap (x9.At + 1)) else s5)) rfl (RS.nil (T.region (sq (v_add rfl rfl (sm (.int .i64 (IntKind.i64.wrap (s6 + 1))) rfl (RS.nil ?_))))))))
   exact ⟨((if (IntKind.i64.wrap (x9.At + 1)) > s5 then (IntKind.i64.wrap (x9.At + 1)) else s5), IntKind.i64.wrap (s6 + 1), (mset x9.At x9.Bytes s7)), (Option.some.inj h).symm, Weak.mkN [] [0] (by decide) (none_kept _) rfl ⟨rn_mpr rfl, rn_int rfl, rn_s rfl, rn_int rfl, rn_int rfl, trivial⟩ (rw_mp (ek := kI) (ev := kS) (ys := (mset x9.At x9.Bytes s7)) rfl (fun _ => pure_int _ _) (fun _ => pure_str _) rfl (rw_nil))⟩
  replace h := ite_F h hb_11
  refine T.exit ?_
  obtain ⟨w_12, h, hw_12⟩ := map_inr h
  replace h := h.trans (congrArg some (hv_10 _ hw_12))
  refine T.seq (T.region (sa .nils rfl (RS.nil (T.seq (T.seq (T.region (sm (.int .i64 s5) rfl (sm (.int .i64 0) rfl (RS.nil ?_)))))))))
  refine T.block (T.iter (fun ss_15 : Int × (List (List UInt8)) => mkA 56 [(5, .mpr 0), (11, .ref 1), (44, .int .i64 s5), (45, .int .i64 ss_15.1)]) (fun ss_15 => [.mp (List.map kI (List.map Prod.fst s7)) (List.map kS (List.map Prod.snd s7)), .arr 9 1 (List.map encS ss_15.2)]) h (Weak.mkN [(11, 9, 1)] [0, 1] (by decide) (none_kept _) rfl ⟨rn_mpr rfl, rn_ref rfl, rn_int rfl, rn_int rfl, trivial⟩ (rw_mp (ek := kI) (ev := kS) (ys := s7) rfl (fun _ => pure_int _ _) (fun _ => pure_str _) rfl (rw_arr (en := encS) (ys := []) rfl encS_p rfl (rw_nil)))) (fun ss_15 v_16 h hv_16 => ?_))
  obtain ⟨s10, s11⟩ := ss_15
  replace h : crossref_Done_l1 s5 s7 s10 s11 = some v_16 := h
  try dsimp only
  unfold crossref_Done_l1 at h
  refine T.seq (T.region (sq (v_lss rfl rfl (RS.nil (T.seq (T.cond (b := decide (s10 < s5)) rfl (fun hb_17 => ?_) (fun hb_17 => ?_)))))))
  ·replace h := ite_T h hb_17
   refine T.skip (T.seq (T.block (T.seq (T.region (sm (.int .i64 s10) rfl (sa (.int .i64 s10) rfl (RS.nil ?_)))))))
   obtain ⟨x12, hx12, h⟩ := bind_some h
   refine T.region (sm (.ref 1) rfl (sm (.mpr 0) rfl (sm (.int .i64 s10) rfl (so (o_lookup (ek := kI) (ev := kS) (xs := s7) (k := s10) (z0 := []) Try.underlying102 (KeyT.int Try.underlying3) Ty.w9 (fun _ _ _ => .str []) rfl rfl rfl (so (o_buildSlice (rows := List.map encS [((mget s10 s7).getD [])]) (vs := [.str ((mget s10 s7).getD [])]) Ty.s29 Ty.z9 rfl rfl rfl rfl rfl (aw' := [.mp (List.map kI (List.map Prod.fst s7)) (List.map kS (List.map Prod.snd s7)), .arr 9 1 (List.map encS s11), .arr 9 1 (List.map encS [((mget s10 s7).getD [])])]) rfl (so (o_app_ref (en := encS) (xs := s11) (ys := ([((mget s10 s7).getD [])] : List (List UInt8))) Ty.s29 (fun _ => rfl) rfl rfl rfl hx12 rfl (aw' := [.mp (List.map kI (List.map Prod.fst s7)) (List.map kS (List.map Prod.snd s7)), .dead, .dead, .arr 9 1 (List.map encS x12)]) rfl (sa (.ref 3) rfl (RS.nil (T.region ?_))))))))))))
   refine sq (v_add rfl rfl (sm (.int .i64 (IntKind.i64.wrap (s10 + 1))) rfl (RS.nil ?_)))
   exact ⟨(IntKind.i64.wrap (s10 + 1), x12), (Option.some.inj h).symm, Weak.mkN [] [0, 3] (by decide) (none_kept _) rfl ⟨rn_mpr rfl, rn_ref rfl, rn_int rfl, rn_int rfl, trivial⟩ (rw_mp (ek := kI) (ev := kS) (ys := s7) rfl (fun _ => pure_int _ _) (fun _ => pure_str _) rfl (rw_ar rfl rfl (rw_nil)))⟩
  replace h := ite_F h hb_17
  refine T.exit ?_
  obtain ⟨w_18, h, hw_18⟩ := map_inr h
  replace h := h.trans (congrArg some (hv_16 _ hw_18))
  refine T.seq (T.region (sm (.ref 1) rfl (sa (.ref 1) rfl (RS.nil (T.rt (res_tmpA (v := .ref 1) rfl (res_done ?_)))))))
  exact ret_own (.ref 0) [] [1] (by decide) (none_kept _) rfl (rn_ref rfl) (rw_arr rfl encS_p (congrArg (fun r : List (List UInt8) => r) (Option.some.inj h)).symm (rw_nil)) ⟨rfl, rfl⟩
theorem disk_Flush_c (p0 : Disk) (r : Disk × Int) (h : disk_Flush p0 = some r) : Fn Try.prog 53 [.agg [.sl (List.map encS p0.Sectors), .sl (List.map encWrite p0.Wait)]] (.tup [.agg [.sl (List.map encS r.1.Sectors), .sl (List.map encWrite r.1.Wait)], .int .i64 r.2]) := by
  unfold disk_Flush at h
  refine fn_of_T (N := 0) rfl Try.func53 rfl (by kernel_rfl) Try.ntmps53 rfl ?_
  show T _ _ _ _ (mkA 11 [(0, .agg [.sl (List.map encS p0.Sectors), .sl (List.map encWrite p0.Wait)])]) []
  refine T.seq (T.region (so (o_box (cs := [.sl (List.map encS p0.Sectors), .sl (List.map encWrite p0.Wait)]) rfl rfl (aw' := [.box [.sl (List.map encS p0.Sectors), .sl (List.map encWrite p0.Wait)]]) rfl (so (o_alloc Ty.z72 rfl (aw' := [.box [.sl (List.map encS p0.Sectors), .sl (List.map encWrite p0.Wait)], .box [.nils, .nils]]) rfl (sa (.int .i64 0) rfl (RS.nil (T.seq ?_))))))))
  obtain ⟨x2, hx2, h⟩ := bind_some h
  refine T.region (so (o_load_ptr rfl rfl (loadRowA Ty.k72 Ty.c72 rfl (cs := [.sl (List.map encS p0.Sectors), .sl (List.map encWrite p0.Wait)]) rfl (sq (v_fieldAddr_ptr Ty.f72_1 rfl (off' := 1) rfl (so (o_load_ptr rfl rfl (loadRow1 Ty.k70 (c := .sl (List.map encWrite p0.Wait)) rfl (sq (v_len_sl Ty.s70 rfl (so (o_call (as0 := [.agg [.sl (List.map encS p0.Sectors), .sl (List.map encWrite p0.Wait)], .int .i64 ((p0.Wait).length : Int)]) (as1 := [.agg [.sl (List.map encS p0.Sectors), .sl (List.map encWrite p0.Wait)], .int .i64 ((p0.Wait).length : Int)]) (caps := []) (aw1 := [.box [.sl (List.map encS p0.Sectors), .sl (List.map encWrite p0.Wait)], .box [.nils, .nils]]) rfl rfl rfl (k_fn (v := .tup [.agg [.sl (List.map encS x2.1.Sectors), .sl (List.map encWrite x2.1.Wait)], .int .i64 x2.2]) (disk_Cut_c p0 ((p0.Wait).length : Int) x2 hx2) (⟨pure_agg _ (pures_mem (⟨pure_map encS_p _, pure_map encWrite_p _, trivial⟩)), pure_int _ _, trivial⟩) (pure_tup _ (pures_mem (⟨pure_agg _ (pures_mem (⟨pure_map encS_p _, pure_map encWrite_p _, trivial⟩)), pure_int _ _, trivial⟩))) (sq (v_extract (v := .agg [.sl (List.map encS x2.1.Sectors), .sl (List.map encWrite x2.1.Wait)]) rfl rfl (sq (v_extract (v := .int .i64 x2.2) rfl rfl (so (o_store_ptr Ty.c72 Ty.i72 rfl (vs := [.sl (List.map encS x2.1.Sectors), .sl (List.map encWrite x2.1.Wait)]) rfl rfl rfl rfl (cs' := [.sl (List.map encS x2.1.Sectors), .sl (List.map encWrite x2.1.Wait)]) rfl (aw' := [.box [.sl (List.map encS p0.Sectors), .sl (List.map encWrite p0.Wait)], .box [.sl (List.map encS x2.1.Sectors), .sl (List.map encWrite x2.1.Wait)]]) rfl (sa (.int .i64 x2.2) rfl ?_))))))))))))))))))))
  refine RS.nil (T.rt (res_cellA (id := 1) (off := 0) (cs := [.sl (List.map encS x2.1.Sectors), .sl (List.map encWrite x2.1.Wait)]) (v := .agg [.sl (List.map encS x2.1.Sectors), .sl (List.map encWrite x2.1.Wait)]) ?_ ?_ ?_ ?_))
  · rfl
  · rfl
  · exact fun K h => (loadRowA (row := [.sl (List.map encS x2.1.Sectors), .sl (List.map encWrite x2.1.Wait)]) (off := 0) Ty.k72 Ty.c72 rfl (cs := [.sl (List.map encS x2.1.Sectors), .sl (List.map encWrite x2.1.Wait)]) rfl h)
  refine res_tmpA (v := .int .i64 x2.2) rfl (res_done ?_)
  exact ret_data (v := .tup [.agg [.sl (List.map encS x2.1.Sectors), .sl (List.map encWrite x2.1.Wait)], .int .i64 x2.2]) rfl (pure_tup _ (pures_mem (⟨pure_agg _ (pures_mem (⟨pure_map encS_p _, pure_map encWrite_p _, trivial⟩)), pure_int _ _, trivial⟩))) ⟨congrArg (fun r : Disk × Int => (.tup [.agg [.sl (List.map encS r.1.Sectors), .sl (List.map encWrite r.1.Wait)], .int .i64 r.2] : AV)) (Option.some.inj h), rfl⟩
theorem disk_put_x7df1_c (p0 : List (List UInt8)) (p1 : List Write) (r : List (List UInt8)) (h : disk_put_x7df1 p0 p1 = some r) : FnX Try.prog 67 [.ref 0, .ref 1] [.arr 9 1 (List.map encS p0), .arr 76 2 (List.map encWrite p1)] (.ref 2) [.dead, .arr 76 2 (List.map encWrite p1), .arr 9 1 (List.map encS r)] := by
  unfold disk_put_x7df1 at h
  refine fn_of_T (N := 2) rfl Try.func67 rfl (by kernel_rfl) Try.ntmps67 rfl ?_
  show T _ _ _ _ (mkA 29 [(0, .ref 0), (1, .ref 1)]) [.arr 9 1 (List.map encS p0), .arr 76 2 (List.map encWrite p1)]
  refine T.mvS 0 0 rfl rfl rfl (aw' := [.dead, .arr 76 2 (List.map encWrite p1), .arr 9 1 (List.map encS p0)]) rfl (T.seq (T.region (sa .nils rfl (RS.nil (T.seq (T.seq (T.region (sm (.ref 1) rfl (sq (v_len_ref (en := encWrite) Ty.s70 rfl rfl ?_))))))))))
  refine sm (.int .i64 0) rfl (RS.nil (T.block (T.iter (fun ss_15 : Int × (List (List UInt8)) => mkA 29 [(0, .ref 2), (7, .ref 1), (8, .int .i64 ((p1).length : Int)), (9, .int .i64 ss_15.1)]) (fun ss_15 => [.dead, .arr 76 2 (List.map encWrite p1), .arr 9 1 (List.map encS ss_15.2)]) h (Weak.mkN [] [0, 1, 2] (by decide) (by decide) rfl ⟨rn_ref rfl, rn_ref rfl, rn_int rfl, rn_int rfl, trivial⟩ (rw_dead rfl (rw_ar rfl rfl (rw_ar rfl rfl (rw_nil))))) (fun ss_15 v_16 h hv_16 => ?_))))
  obtain ⟨s1, s2⟩ := ss_15
  replace h : disk_put_x7df1_l2 p1 s1 s2 = some v_16 := h
  try dsimp only
  unfold disk_put_x7df1_l2 at h
  refine T.seq (T.region (sq (v_lss rfl rfl (RS.nil (T.seq (T.cond (b := decide (s1 < ((p1).length : Int))) rfl (fun hb_17 => ?_) (fun hb_17 => ?_)))))))
  ·replace h := ite_T h hb_17
   refine T.skip (T.seq (T.block (T.seq ?_)))
   obtain ⟨x5, hx5, h⟩ := bind_some h
   obtain ⟨x6, hx6, h⟩ := bind_some h
   refine T.region (sq (v_index_ref' (en := encWrite) Ty.s70 rfl rfl rfl hx5 (so (o_load_aptr' (en := encWrite) (a := x6) rfl rfl hx6 (loadRowA Ty.k76 Ty.c76 rfl (cs := [.int .i64 x6.At, .str x6.Bytes]) rfl (so (o_alloc Ty.z76 rfl (aw' := [.dead, .arr 76 2 (List.map encWrite p1), .arr 9 1 (List.map encS s2), .box [.int .i64 0, .str []]]) rfl (so (o_store_ptr Ty.c76 Ty.i76 rfl (vs := [.int .i64 x6.At, .str x6.Bytes]) rfl rfl rfl rfl (cs' := [.int .i64 x6.At, .str x6.Bytes]) rfl (aw' := [.dead, .arr 76 2 (List.map encWrite p1), .arr 9 1 (List.map encS s2), .box [.int .i64 x6.At, .str x6.Bytes]]) rfl (RS.nil (T.seq (T.block (T.iter (fun ss_20 : List (List UInt8) => mkA 29 [(0, .ref 2), (6, .ptr 3 0), (7, .ref 1), (8, .int .i64 ((p1).length : Int)), (9, .int .i64 s1)]) (fun ss_20 => [.dead, .arr 76 2 (List.map encWrite p1), .arr 9 1 (List.map encS ss_20), .box [.int .i64 x6.At, .str x6.Bytes]]) h (Weak.mkN [] [0, 1, 2, 3] (by decide) (by decide) rfl ⟨rn_ref rfl, rn_ptr rfl, rn_ref rfl, rn_int rfl, rn_int rfl, trivial⟩ (rw_dead rfl (rw_ar rfl rfl (rw_ar rfl rfl (rw_bs [.int .i64 x6.At, .str x6.Bytes] rfl (rw_nil)))))) (fun ss_20 v_21 h hv_21 => ?_))))))))))))))
   revert hv_21 h; revert ss_20; intro s7 h hv_21
   replace h : disk_put_x7df1_l1 s1 x6 s7 = some v_21 := h
   try dsimp only
   unfold disk_put_x7df1_l1 at h
   refine T.seq (T.seq (T.region (sm (.ref 2) rfl (sq (v_len_ref (en := encS) Ty.s29 rfl rfl (sq (v_fieldAddr_ptr Ty.f76_0 rfl (off' := 0) rfl (so (o_load_ptr rfl rfl (loadRow1 Ty.k3 (c := .int .i64 x6.At) rfl (sq (v_leq rfl rfl (RS.nil (T.cond (b := decide (((s7).length : Int) ≤ x6.At)) rfl (fun hb_22 => ?_) (fun hb_22 => ?_)))))))))))))))
   ·replace h := ite_T h hb_22
    refine T.skip (T.block ?_)
    obtain ⟨x8, hx8, h⟩ := bind_some h
    refine T.region (sm (.ref 2) rfl (so (o_buildSlice (rows := List.map encS [[]]) (vs := [.str []]) Ty.s29 Ty.z9 rfl rfl rfl rfl rfl (aw' := [.dead, .arr 76 2 (List.map encWrite p1), .arr 9 1 (List.map encS s7), .box [.int .i64 x6.At, .str x6.Bytes], .arr 9 1 (List.map encS [[]])]) rfl (so (o_app_ref (en := encS) (xs := s7) (ys := ([[]] : List (List UInt8))) Ty.s29 (fun _ => rfl) rfl rfl rfl hx8 rfl (aw' := [.dead, .arr 76 2 (List.map encWrite p1), .dead, .box [.int .i64 x6.At, .str x6.Bytes], .dead, .arr 9 1 (List.map encS x8)]) rfl (sa (.ref 5) rfl (RS.nil ?_)))))))
    exact ⟨x8, (Option.some.inj h).symm, Weak.mkN [] [0, 1, 5, 3] (by decide) (by decide) rfl ⟨rn_ref rfl, rn_ptr rfl, rn_ref rfl, rn_int rfl, rn_int rfl, trivial⟩ (rw_dead rfl (rw_ar rfl rfl (rw_ar rfl rfl (rw_bs [.int .i64 x6.At, .str x6.Bytes] rfl (rw_nil)))))⟩
   replace h := ite_F h hb_22
   refine T.exit ?_
   obtain ⟨w_23, h, hw_23⟩ := map_inr h
   replace h := h.trans (congrArg some (hv_21 _ hw_23))
   obtain ⟨x9, hx9, h⟩ := bind_some h
   obtain ⟨x10, hx10, h⟩ := bind_some h
   refine T.region (sm (.ref 2) rfl (sq (v_fieldAddr_ptr Ty.f76_0 rfl (off' := 0) rfl (so (o_load_ptr rfl rfl (loadRow1 Ty.k3 (c := .int .i64 x6.At) rfl (sq (v_fieldAddr_ptr Ty.f76_1 rfl (off' := 1) rfl (so (o_load_ptr rfl rfl (loadRow1 Ty.k9 (c := .str x6.Bytes) rfl (sq (v_index_ref' (en := encS) Ty.s29 rfl rfl rfl hx9 (so (o_store_aptr' (en := encS) (a := x10) (a' := x6.Bytes) Ty.c9 Ty.i9 rfl (vs := [.str x6.Bytes]) rfl rfl rfl hx10 rfl rfl (aw' := [.dead, .arr 76 2 (List.map encWrite p1), .arr 9 1 (List.map encS (List.set s7 x9 x6.Bytes)), .box [.int .i64 x6.At, .str x6.Bytes]]) rfl (RS.nil (T.region ?_)))))))))))))))))
   refine sq (v_add rfl rfl (sm (.int .i64 (IntKind.i64.wrap (s1 + 1))) rfl (RS.nil ?_)))
   exact ⟨(IntKind.i64.wrap (s1 + 1), (List.set s7 x9 x6.Bytes)), (Option.some.inj h).symm, Weak.mkN [] [0, 1, 2] (by decide) (by decide) rfl ⟨rn_ref rfl, rn_ref rfl, rn_int rfl, rn_int rfl, trivial⟩ (rw_dead rfl (rw_ar rfl rfl (rw_ar rfl rfl (rw_nil))))⟩
  replace h := ite_F h hb_17
  refine T.exit ?_
  obtain ⟨w_24, h, hw_24⟩ := map_inr h
  replace h := h.trans (congrArg some (hv_16 _ hw_24))
  refine T.seq (T.region (sm (.ref 2) rfl (sa (.ref 2) rfl (RS.nil (T.rt (res_tmpA (v := .ref 2) rfl (res_done ?_)))))))
  exact ret_own (.ref 2) [] [0, 1, 2] (by decide) (by decide) rfl (rn_ref rfl) (rw_dead rfl (rw_arr rfl encWrite_p rfl (rw_arr rfl encS_p (congrArg (fun r : List (List UInt8) => r) (Option.some.inj h)).symm (rw_nil)))) ⟨rfl, rfl⟩
theorem disk_Some_c (p0 : Disk) (p1 : List Int) (r : Disk × Int) (h : disk_Some p0 p1 = some r) : Fn Try.prog 55 [.agg [.sl (List.map encS p0.Sectors), .sl (List.map encWrite p0.Wait)], .sl (List.map encI p1)] (.tup [.agg [.sl (List.map encS r.1.Sectors), .sl (List.map encWrite r.1.Wait)], .int .i64 r.2]) := by
  unfold disk_Some at h
  refine fn_of_T (N := 0) rfl Try.func55 rfl (by kernel_rfl) Try.ntmps55 rfl ?_
  show T _ _ _ _ (mkA 52 [(0, .agg [.sl (List.map encS p0.Sectors), .sl (List.map encWrite p0.Wait)]), (1, .sl (List.map encI p1))]) []
  refine T.seq (T.region (so (o_box (cs := [.sl (List.map encS p0.Sectors), .sl (List.map encWrite p0.Wait)]) rfl rfl (aw' := [.box [.sl (List.map encS p0.Sectors), .sl (List.map encWrite p0.Wait)]]) rfl (so (o_alloc Ty.z72 rfl (aw' := [.box [.sl (List.map encS p0.Sectors), .sl (List.map encWrite p0.Wait)], .box [.nils, .nils]]) rfl (sa (.int .i64 0) rfl (RS.nil (T.seq (T.seq ?_)))))))))
  obtain ⟨x2, hx2, h⟩ := bind_some h
  refine T.region (so (o_load_ptr rfl rfl (loadRowA Ty.k72 Ty.c72 rfl (cs := [.sl (List.map encS p0.Sectors), .sl (List.map encWrite p0.Wait)]) rfl (so (o_call (as0 := [.agg [.sl (List.map encS p0.Sectors), .sl (List.map encWrite p0.Wait)]]) (as1 := [.agg [.sl (List.map encS p0.Sectors), .sl (List.map encWrite p0.Wait)]]) (caps := []) (aw1 := [.box [.sl (List.map encS p0.Sectors), .sl (List.map encWrite p0.Wait)], .box [.nils, .nils]]) rfl rfl rfl (k_flat (v := .int .i64 x2) (disk_Check_c p0 x2 hx2) (⟨pure_agg _ (pures_mem (⟨pure_map encS_p _, pure_map encWrite_p _, trivial⟩)), trivial⟩) rfl (sa (.int .i64 x2) rfl (RS.nil (T.seq (T.region (sm (.int .i64 x2) rfl (sq (v_neq rfl rfl (RS.nil ?_))))))))))))))
  refine T.cond (b := x2 != 0) rfl (fun hb_1 => ?_) (fun hb_1 => ?_)
  ·replace h := ite_T h hb_1
   refine T.seq (T.region (sq (v_build (cs := [.nils, .nils]) Ty.z72 Ty.p72 rfl (sm (.int .i64 x2) rfl (so (o_store_ptr Ty.c72 Ty.i72 rfl (vs := [.nils, .nils]) rfl rfl rfl rfl (cs' := [.nils, .nils]) rfl (aw' := [.box [.sl (List.map encS p0.Sectors), .sl (List.map encWrite p0.Wait)], .box [.nils, .nils]]) rfl (sa (.int .i64 x2) rfl (RS.nil (T.rt (res_cellA (id := 1) (off := 0) (cs := [.nils, .nils]) (v := .agg [.nils, .nils]) ?_ ?_ ?_ ?_))))))))))
   · rfl
   · rfl
   · exact fun K h => (loadRowA (row := [.nils, .nils]) (off := 0) Ty.k72 Ty.c72 rfl (cs := [.nils, .nils]) rfl h)
   refine res_tmpA (v := .int .i64 x2) rfl (res_done ?_)
   exact ret_data (v := .tup [.agg [.sl (List.map encS []), .sl (List.map encWrite [])], .int .i64 x2]) rfl (pure_tup _ (pures_mem (⟨pure_agg _ (pures_mem (⟨pure_map encS_p _, pure_map encWrite_p _, trivial⟩)), pure_int _ _, trivial⟩))) ⟨congrArg (fun r : Disk × Int => (.tup [.agg [.sl (List.map encS r.1.Sectors), .sl (List.map encWrite r.1.Wait)], .int .i64 r.2] : AV)) (Option.some.inj h), rfl⟩
  replace h := ite_F h hb_1
  refine T.skip (T.seq ?_)
  obtain ⟨x4, hx4, h⟩ := bind_some h
  refine T.region (sq (v_fieldAddr_ptr Ty.f72_0 rfl (off' := 0) rfl (so (o_load_ptr rfl rfl (loadRow1 Ty.k29 (c := .sl (List.map encS p0.Sectors)) rfl (so (o_call (as0 := [.sl (List.map encS p0.Sectors)]) (as1 := [.sl (List.map encS p0.Sectors)]) (caps := []) (aw1 := [.box [.sl (List.map encS p0.Sectors), .sl (List.map encWrite p0.Wait)], .box [.nils, .nils]]) rfl rfl rfl (k_own' (v := .ref 0) (obs := [.arr 9 1 (List.map encS x4)]) (v' := .ref 2) (aw' := [.box [.sl (List.map encS p0.Sectors), .sl (List.map encWrite p0.Wait)], .box [.nils, .nils], .arr 9 1 (List.map encS x4)]) (slices_Clone_string_c p0.Sectors x4 hx4) (⟨pure_map encS_p _, trivial⟩) rfl (obs_cons (flatOb_map fun _ => rfl) obs_nil) rfl rfl (sa (.ref 2) rfl (RS.nil (T.seq (T.region (sa (.int .i64 (-1)) rfl (RS.nil ?_))))))))))))))
  refine T.seq (T.seq (T.region (sm (.sl (List.map encI p1)) rfl (sq (v_len_sl Ty.s24 rfl (sm (.int .i64 0) rfl (RS.nil (T.block (T.iter (fun ss_10 : Int × Int × (List (List UInt8)) => mkA 52 [(2, .ptr 0 0), (4, .ptr 1 0), (7, .ref 2), (8, .int .i64 ss_10.1), (20, .sl (List.map encI p1)), (21, .int .i64 ((p1).length : Int)), (22, .int .i64 ss_10.2.1)]) (fun ss_10 => [.box [.sl (List.map encS p0.Sectors), .sl (List.map encWrite p0.Wait)], .box [.nils, .nils], .arr 9 1 (List.map encS ss_10.2.2)]) h (Weak.mkN [] [0, 1, 2] (by decide) (none_kept _) rfl ⟨rn_ptr rfl, rn_ptr rfl, rn_ref rfl, rn_int rfl, rn_s rfl, rn_int rfl, rn_int rfl, trivial⟩ (rw_bs [.sl (List.map encS p0.Sectors), .sl (List.map encWrite p0.Wait)] rfl (rw_bs [.nils, .nils] rfl (rw_ar rfl rfl (rw_nil))))) (fun ss_10 v_11 h hv_11 => ?_))))))))))
  obtain ⟨s5, s6, s7⟩ := ss_10
  replace h : disk_Some_l1 p0 p1 s5 s6 s7 = some v_11 := h
  try dsimp only
  unfold disk_Some_l1 at h
  refine T.seq (T.region (sq (v_lss rfl rfl (RS.nil (T.seq (T.cond (b := decide (s6 < ((p1).length : Int))) rfl (fun hb_12 => ?_) (fun hb_12 => ?_)))))))
  ·replace h := ite_T h hb_12
   refine T.skip (T.seq (T.block (T.seq ?_)))
   obtain ⟨x9, hx9, h⟩ := bind_some h
   refine T.region (sq (v_index_sl Ty.s24 (fun _ => rfl) rfl rfl hx9 (so (o_load_elt rfl (loadRow1 Ty.k3 (c := .int .i64 x9) rfl (sa (.int .i64 x9) rfl (RS.nil (T.seq (T.join (Z := Unit) (fun _ => mkA 52 [(2, .ptr 0 0), (4, .ptr 1 0), (7, .ref 2), (8, .int .i64 s5), (10, .int .i64 x9), (20, .sl (List.map encI p1)), (21, .int .i64 ((p1).length : Int)), (22, .int .i64 s6), (34, .bool ((decide (x9 < 0)) || decide (x9 ≥ ((p0.Wait).length : Int))))]) (fun _ => [.box [.sl (List.map encS p0.Sectors), .sl (List.map encWrite p0.Wait)], .box [.nils, .nils], .arr 9 1 (List.map encS s7)]) (fun _ => True) (fun _ _ => ?_) (fun hK => ?_))))))))))
   ·refine T.cond (b := ((decide (x9 < 0)) || decide (x9 ≥ ((p0.Wait).length : Int)))) rfl (fun hb_14 => ?_) (fun hb_14 => ?_)
    ·replace h := ite_T h hb_14
     refine T.seq (T.region (sq (v_build (cs := [.nils, .nils]) Ty.z72 Ty.p72 rfl (so (o_store_ptr Ty.c72 Ty.i72 rfl (vs := [.nils, .nils]) rfl rfl rfl rfl (cs' := [.nils, .nils]) rfl (aw' := [.box [.sl (List.map encS p0.Sectors), .sl (List.map encWrite p0.Wait)], .box [.nils, .nils], .arr 9 1 (List.map encS s7)]) rfl (sa (.int .i64 3) rfl (RS.nil (T.rt ?_))))))))
     obtain ⟨w_15, h, hw_15⟩ := map_inr h
     replace h := h.trans (congrArg some (hv_11 _ hw_15))
     refine res_cellA (id := 1) (off := 0) (cs := [.nils, .nils]) (v := .agg [.nils, .nils]) ?_ ?_ ?_ ?_
     · rfl
     · rfl
     · exact fun K h => (loadRowA (row := [.nils, .nils]) (off := 0) Ty.k72 Ty.c72 rfl (cs := [.nils, .nils]) rfl h)
     refine res_tmpA (v := .int .i64 3) rfl (res_done ?_)
     exact ret_data (v := .tup [.agg [.sl (List.map encS []), .sl (List.map encWrite [])], .int .i64 3]) rfl (pure_tup _ (pures_mem (⟨pure_agg _ (pures_mem (⟨pure_map encS_p _, pure_map encWrite_p _, trivial⟩)), pure_int _ _, trivial⟩))) ⟨congrArg (fun r : Disk × Int => (.tup [.agg [.sl (List.map encS r.1.Sectors), .sl (List.map encWrite r.1.Wait)], .int .i64 r.2] : AV)) (Option.some.inj h), rfl⟩
    replace h := ite_F h hb_14
    refine T.skip (T.seq (T.seq (T.region (sm (.int .i64 x9) rfl (sm (.int .i64 s5) rfl (sq (v_leq rfl rfl (RS.nil (T.cond (b := decide (x9 ≤ s5)) rfl (fun hb_16 => ?_) (fun hb_16 => ?_))))))))))
    ·replace h := ite_T h hb_16
     refine T.seq (T.region (sq (v_build (cs := [.nils, .nils]) Ty.z72 Ty.p72 rfl (so (o_store_ptr Ty.c72 Ty.i72 rfl (vs := [.nils, .nils]) rfl rfl rfl rfl (cs' := [.nils, .nils]) rfl (aw' := [.box [.sl (List.map encS p0.Sectors), .sl (List.map encWrite p0.Wait)], .box [.nils, .nils], .arr 9 1 (List.map encS s7)]) rfl (sa (.int .i64 4) rfl (RS.nil (T.rt ?_))))))))
     obtain ⟨w_17, h, hw_17⟩ := map_inr h
     replace h := h.trans (congrArg some (hv_11 _ hw_17))
     refine res_cellA (id := 1) (off := 0) (cs := [.nils, .nils]) (v := .agg [.nils, .nils]) ?_ ?_ ?_ ?_
     · rfl
     · rfl
     · exact fun K h => (loadRowA (row := [.nils, .nils]) (off := 0) Ty.k72 Ty.c72 rfl (cs := [.nils, .nils]) rfl h)
     refine res_tmpA (v := .int .i64 4) rfl (res_done ?_)
     exact ret_data (v := .tup [.agg [.sl (List.map encS []), .sl (List.map encWrite [])], .int .i64 4]) rfl (pure_tup _ (pures_mem (⟨pure_agg _ (pures_mem (⟨pure_map encS_p _, pure_map encWrite_p _, trivial⟩)), pure_int _ _, trivial⟩))) ⟨congrArg (fun r : Disk × Int => (.tup [.agg [.sl (List.map encS r.1.Sectors), .sl (List.map encWrite r.1.Wait)], .int .i64 r.2] : AV)) (Option.some.inj h), rfl⟩
    replace h := ite_F h hb_16
    refine T.skip (T.seq (T.region (sm (.int .i64 x9) rfl (sa (.int .i64 x9) rfl (RS.nil ?_)))))
    obtain ⟨x11, hx11, h⟩ := bind_some h
    obtain ⟨x12, hx12, h⟩ := bind_some h
    refine T.region (sm (.ref 2) rfl (sq (v_fieldAddr_ptr Ty.f72_1 rfl (off' := 1) rfl (so (o_load_ptr rfl rfl (loadRow1 Ty.k70 (c := .sl (List.map encWrite p0.Wait)) rfl (sm (.int .i64 x9) rfl (sq (v_index_sl Ty.s70 (fun _ => rfl) rfl rfl hx11 (so (o_load_elt rfl (loadRowA Ty.k76 Ty.c76 rfl (cs := [.int .i64 x11.At, .str x11.Bytes]) rfl (so (o_buildSlice (rows := List.map encWrite [x11]) (vs := [.agg [.int .i64 x11.At, .str x11.Bytes]]) Ty.s70 Ty.z76 rfl rfl rfl rfl rfl (aw' := [.box [.sl (List.map encS p0.Sectors), .sl (List.map encWrite p0.Wait)], .box [.nils, .nils], .arr 9 1 (List.map encS s7), .arr 76 2 (List.map encWrite [x11])]) rfl (so (o_callF (ac := [.ref 2, .ref 3]) (as0 := [.ref 0, .ref 1]) (aw0 := [.arr 9 1 (List.map encS s7), .arr 76 2 (List.map encWrite ([x11] : List Write))]) (aw1 := [.dead, .arr 76 2 (List.map encWrite ([x11] : List Write)), .arr 9 1 (List.map encS x12)]) (aw2 := [.box [.sl (List.map encS p0.Sectors), .sl (List.map encWrite p0.Wait)], .box [.nils, .nils], .dead, .arr 76 2 (List.map encWrite ([x11] : List Write)), .arr 9 1 (List.map encS x12)]) (v := .ref 2) (v' := .ref 4) (n0 := 4) (n1 := 3) [2, 3] rfl rfl rfl rfl (by decide) (rw_arr rfl encS_p rfl (rw_arr rfl encWrite_p rfl (rw_nil))) ⟨rn_ref rfl, rn_ref rfl, trivial⟩ (disk_put_x7df1_c s7 ([x11] : List Write) x12 hx12) rfl (rm_ref (by decide)) ⟨.inr ⟨rfl, rfl⟩, .inr ⟨rfl, rfl⟩, .inl ⟨0, _, by decide, rfl, trivial⟩, .inl ⟨1, _, by decide, rfl, rom_arr encWrite_p⟩, .inl ⟨2, _, by decide, rfl, rom_arr encS_p⟩, trivial⟩ (sa (.ref 4) rfl ?_)))))))))))))))))
    refine RS.nil (T.region (sq (v_add rfl rfl (sm (.int .i64 (IntKind.i64.wrap (s6 + 1))) rfl (RS.nil ?_)))))
    exact ⟨(x9, IntKind.i64.wrap (s6 + 1), x12), (Option.some.inj h).symm, Weak.mkN [] [0, 1, 4] (by decide) (none_kept _) rfl ⟨rn_ptr rfl, rn_ptr rfl, rn_ref rfl, rn_int rfl, rn_s rfl, rn_int rfl, rn_int rfl, trivial⟩ (rw_bs [.sl (List.map encS p0.Sectors), .sl (List.map encWrite p0.Wait)] rfl (rw_bs [.nils, .nils] rfl (rw_ar rfl rfl (rw_nil))))⟩
   refine T.region (sm (.int .i64 x9) rfl (sq (v_lss rfl rfl (sm (.bool (decide (x9 < 0))) rfl ?_))))
   rcases bool_cases (decide (x9 < 0)) with hb_13 | hb_13
   ·refine sn hb_13 (sn hb_13 (sn hb_13 (sn hb_13 (sn hb_13 (sq (v_pickT (v := .bool true) rfl hb_13 rfl (RS.nil ?_)))))))
    exact T.weakR (hK () trivial) (Weak.mkN [] [0, 1, 2] (by decide) (none_kept _) rfl ⟨rn_ptr rfl, rn_ptr rfl, rn_ref rfl, rn_int rfl, rn_int rfl, rn_s rfl, rn_int rfl, rn_int rfl, rn_bool (by simp only [hb_13, bz, if_true, if_false, Bool.false_eq_true]), trivial⟩ (rw_bs [.sl (List.map encS p0.Sectors), .sl (List.map encWrite p0.Wait)] rfl (rw_bs [.nils, .nils] rfl (rw_ar rfl rfl (rw_nil)))))
   refine yq hb_13 (v_move (v := .int .i64 x9) rfl (yq hb_13 (v_fieldAddr_ptr Ty.f72_1 rfl (off' := 1) rfl (yo hb_13 (o_load_ptr rfl rfl (loadRow1 Ty.k70 (c := .sl (List.map encWrite p0.Wait)) rfl (yq hb_13 (v_len_sl Ty.s70 rfl (yq hb_13 (v_geq rfl rfl (sq (v_pickF (v := .bool (decide (x9 ≥ ((p0.Wait).length : Int)))) rfl hb_13 rfl (RS.nil ?_)))))))))))))
   exact T.weakR (hK () trivial) (Weak.mkN [] [0, 1, 2] (by decide) (none_kept _) rfl ⟨rn_ptr rfl, rn_ptr rfl, rn_ref rfl, rn_int rfl, rn_int rfl, rn_s rfl, rn_int rfl, rn_int rfl, rn_bool (by simp only [hb_13, bz, if_true, if_false, Bool.false_eq_true]), trivial⟩ (rw_bs [.sl (List.map encS p0.Sectors), .sl (List.map encWrite p0.Wait)] rfl (rw_bs [.nils, .nils] rfl (rw_ar rfl rfl (rw_nil)))))
  replace h := ite_F h hb_12
  refine T.exit ?_
  obtain ⟨w_18, h, hw_18⟩ := map_inr h
  replace h := h.trans (congrArg some (hv_11 _ hw_18))
  refine T.seq (T.region (sm (.ref 2) rfl (sq (v_build (cs := [.ref 2, .nils]) Ty.z72 Ty.p72 rfl (so (o_store_ptr Ty.c72 Ty.i72 rfl (vs := [.ref 2, .nils]) rfl rfl rfl rfl (cs' := [.ref 2, .nils]) rfl (aw' := [.box [.sl (List.map encS p0.Sectors), .sl (List.map encWrite p0.Wait)], .box [.ref 2, .nils], .arr 9 1 (List.map encS s7)]) rfl (sa (.int .i64 0) rfl (RS.nil (T.rt (res_cellA (id := 1) (off := 0) (cs := [.ref 2, .nils]) (v := .agg [.ref 2, .nils]) ?_ ?_ ?_ ?_))))))))))
  · rfl
  · rfl
  · exact fun K h => (loadRowA (row := [.ref 2, .nils]) (off := 0) Ty.k72 Ty.c72 rfl (cs := [.ref 2, .nils]) rfl h)
  refine res_tmpA (v := .int .i64 0) rfl (res_done ?_)
  exact ret_data (v := .tup [.agg [.sl (List.map encS s7), .sl (List.map encWrite [])], .int .i64 0]) rfl (pure_tup _ (pures_mem (⟨pure_agg _ (pures_mem (⟨pure_map encS_p _, pure_map encWrite_p _, trivial⟩)), pure_int _ _, trivial⟩))) ⟨congrArg (fun r : Disk × Int => (.tup [.agg [.sl (List.map encS r.1.Sectors), .sl (List.map encWrite r.1.Wait)], .int .i64 r.2] : AV)) (Option.some.inj h), rfl⟩
theorem strings_Join_c (p0 : List (List UInt8)) (p1 r : List UInt8) (h : strings_Join p0 p1 = some r) : Fn Try.prog 68 [.sl (List.map encS p0), .str p1] (.str r) := by
  unfold strings_Join joinB at h
  split at h
  · rename_i hc; cases h; exact join_fn p0 p1 hc.1 hc.2
  · cases h
theorem disk_All_c (p0 : Disk) (r : (List UInt8) × Int) (h : disk_All p0 = some r) : Fn Try.prog 56 [.agg [.sl (List.map encS p0.Sectors), .sl (List.map encWrite p0.Wait)]] (.tup [.str r.1, .int .i64 r.2]) := by
  unfold disk_All at h
  refine fn_of_T (N := 0) rfl Try.func56 rfl (by kernel_rfl) Try.ntmps56 rfl ?_
  show T _ _ _ _ (mkA 13 [(0, .agg [.sl (List.map encS p0.Sectors), .sl (List.map encWrite p0.Wait)])]) []
  refine T.seq (T.region (so (o_box (cs := [.sl (List.map encS p0.Sectors), .sl (List.map encWrite p0.Wait)]) rfl rfl (aw' := [.box [.sl (List.map encS p0.Sectors), .sl (List.map encWrite p0.Wait)]]) rfl (sa (.str []) rfl (sa (.int .i64 0) rfl (RS.nil (T.seq (T.seq ?_))))))))
  obtain ⟨x2, hx2, h⟩ := bind_some h
  refine T.region (so (o_load_ptr rfl rfl (loadRowA Ty.k72 Ty.c72 rfl (cs := [.sl (List.map encS p0.Sectors), .sl (List.map encWrite p0.Wait)]) rfl (so (o_call (as0 := [.agg [.sl (List.map encS p0.Sectors), .sl (List.map encWrite p0.Wait)]]) (as1 := [.agg [.sl (List.map encS p0.Sectors), .sl (List.map encWrite p0.Wait)]]) (caps := []) (aw1 := [.box [.sl (List.map encS p0.Sectors), .sl (List.map encWrite p0.Wait)]]) rfl rfl rfl (k_flat (v := .int .i64 x2) (disk_Check_c p0 x2 hx2) (⟨pure_agg _ (pures_mem (⟨pure_map encS_p _, pure_map encWrite_p _, trivial⟩)), trivial⟩) rfl (sa (.int .i64 x2) rfl (RS.nil (T.seq (T.region (sm (.int .i64 x2) rfl (sq (v_neq rfl rfl (RS.nil ?_))))))))))))))
  refine T.cond (b := x2 != 0) rfl (fun hb_1 => ?_) (fun hb_1 => ?_)
  ·replace h := ite_T h hb_1
   refine T.seq (T.region (sm (.int .i64 x2) rfl (sa (.str []) rfl (sa (.int .i64 x2) rfl (RS.nil (T.rt (res_tmpA (v := .str []) rfl (res_tmpA (v := .int .i64 x2) rfl (res_done ?_)))))))))
   exact ret_data (v := .tup [.str [], .int .i64 x2]) rfl (pure_tup _ (pures_mem (⟨pure_str _, pure_int _ _, trivial⟩))) ⟨congrArg (fun r : (List UInt8) × Int => (.tup [.str r.1, .int .i64 r.2] : AV)) (Option.some.inj h), rfl⟩
  replace h := ite_F h hb_1
  refine T.skip (T.seq ?_)
  obtain ⟨x4, hx4, h⟩ := bind_some h
  refine T.region (sq (v_fieldAddr_ptr Ty.f72_0 rfl (off' := 0) rfl (so (o_load_ptr rfl rfl (loadRow1 Ty.k29 (c := .sl (List.map encS p0.Sectors)) rfl (so (o_call (as0 := [.sl (List.map encS p0.Sectors), .str []]) (as1 := [.sl (List.map encS p0.Sectors), .str ([] : List UInt8)]) (caps := []) (aw1 := [.box [.sl (List.map encS p0.Sectors), .sl (List.map encWrite p0.Wait)]]) rfl rfl rfl (k_flat (v := .str x4) (strings_Join_c p0.Sectors ([] : List UInt8) x4 hx4) (⟨pure_map encS_p _, pure_str _, trivial⟩) rfl (sa (.str x4) rfl (sa (.int .i64 0) rfl (RS.nil (T.rt (res_tmpA (v := .str x4) rfl (res_tmpA (v := .int .i64 0) rfl ?_))))))))))))))
  refine res_done ?_
  exact ret_data (v := .tup [.str x4, .int .i64 0]) rfl (pure_tup _ (pures_mem (⟨pure_str _, pure_int _ _, trivial⟩))) ⟨congrArg (fun r : (List UInt8) × Int => (.tup [.str r.1, .int .i64 r.2] : AV)) (Option.some.inj h), rfl⟩
end Go.Proofs.Ytpndpdbabblphaa
