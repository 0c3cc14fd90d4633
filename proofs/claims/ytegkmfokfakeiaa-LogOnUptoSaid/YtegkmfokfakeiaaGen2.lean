/-
  The code computes these functions. Printed by a program of ours (wip/gen.py).
-/
import Derived.Test.YtegkmfokfakeiaaGen1
namespace Go.Proofs.Ytegkmfokfakeiaa
open Go.RowKit
set_option linter.unusedVariables false
set_option linter.unusedSimpArgs false
set_option maxRecDepth 100000
theorem disk_put_x866e_c (p0 : List Write) (p1 : List (List UInt8)) (r : List (List UInt8)) (h : disk_put_x866e p0 p1 = some r) : FnX Try.prog 65 [.ref 0, .sl (List.map encWrite p0)] [.arr 9 1 (List.map encS p1)] (.ref 1) [.dead, .arr 9 1 (List.map encS r)] := by
  unfold disk_put_x866e at h
  refine fn_of_T (N := 1) rfl Try.func65 rfl (by kernel_rfl) Try.ntmps65 rfl ?_
  show T _ _ _ _ (mkA 29 [(0, .ref 0), (1, .sl (List.map encWrite p0))]) [.arr 9 1 (List.map encS p1)]
  refine T.mvS 0 0 rfl rfl rfl (aw' := [.dead, .arr 9 1 (List.map encS p1)]) rfl ?_
  refine T.seq ?_
  refine T.region ?_
  refine RS.op rfl (OP.q rfl (v_assign (v := .nils) rfl ?_))
  refine RS.nil ?_
  refine T.seq ?_
  refine T.seq ?_
  refine T.region ?_
  refine RS.op rfl (OP.q rfl (v_move (v := .sl (List.map encWrite p0)) rfl ?_))
  refine RS.op rfl (OP.q rfl (v_len_sl Ty.s23 rfl ?_))
  refine RS.op rfl (OP.q rfl (v_move (v := .int .i64 0) rfl ?_))
  refine RS.nil ?_
  refine T.block ?_
  refine T.iter (fun ss_15 : Int × (List (List UInt8)) => mkA 29 [(0, .ref 1), (7, .sl (List.map encWrite p0)), (8, .int .i64 ((p0).length : Int)), (9, .int .i64 ss_15.1)]) (fun ss_15 => [.dead, .arr 9 1 (List.map encS ss_15.2)]) h (Weak.mkN [] [0, 1] (by decide) (by decide) rfl ⟨rn_ref rfl, rn_sl encWrite_p rfl, rn_int rfl, rn_int rfl, trivial⟩ (rw_dead rfl (rw_arr rfl encS_p rfl (rw_nil)))) (fun ss_15 v_16 h hv_16 => ?_)
  obtain ⟨s1, s2⟩ := ss_15
  replace h : disk_put_x866e_l2 p0 s1 s2 = some v_16 := h
  show T _ _ _ _ (mkA 29 [(0, .ref 1), (7, .sl (List.map encWrite p0)), (8, .int .i64 ((p0).length : Int)), (9, .int .i64 s1)]) [.dead, .arr 9 1 (List.map encS s2)]
  unfold disk_put_x866e_l2 at h
  refine T.seq ?_
  refine T.region ?_
  refine RS.op rfl (OP.q rfl (v_lss rfl rfl ?_))
  refine RS.nil ?_
  refine T.seq ?_
  refine T.cond (b := decide (s1 < ((p0).length : Int))) rfl (fun hb_17 => ?_) (fun hb_17 => ?_)
  · replace h := ite_T h hb_17
    refine T.skip ?_
    refine T.seq ?_
    refine T.block ?_
    refine T.seq ?_
    obtain ⟨x4, hx4, h⟩ := bind_some h
    refine T.region ?_
    refine RS.op rfl (OP.q rfl (v_index_sl Ty.s23 (fun _ => rfl) rfl rfl hx4 ?_))
    refine RS.op rfl (o_load_elt rfl (loadRowA Ty.k42 Ty.c42 rfl (cs := [.int .i64 x4.At, .str x4.Bytes]) rfl ?_))
    refine RS.op rfl (o_alloc Ty.z42 rfl (aw' := [.dead, .arr 9 1 (List.map encS s2), .box [.int .i64 0, .str []]]) rfl ?_)
    refine RS.op rfl (o_store_ptr Ty.c42 Ty.i42 rfl (vs := [.int .i64 x4.At, .str x4.Bytes]) rfl rfl rfl rfl (cs' := [.int .i64 x4.At, .str x4.Bytes]) rfl (aw' := [.dead, .arr 9 1 (List.map encS s2), .box [.int .i64 x4.At, .str x4.Bytes]]) rfl ?_)
    refine RS.nil ?_
    refine T.seq ?_
    refine T.block ?_
    refine T.iter (fun ss_20 : List (List UInt8) => mkA 29 [(0, .ref 1), (6, .ptr 2 0), (7, .sl (List.map encWrite p0)), (8, .int .i64 ((p0).length : Int)), (9, .int .i64 s1)]) (fun ss_20 => [.dead, .arr 9 1 (List.map encS ss_20), .box [.int .i64 x4.At, .str x4.Bytes]]) h (Weak.mkN [] [0, 1, 2] (by decide) (by decide) rfl ⟨rn_ref rfl, rn_ptr rfl, rn_sl encWrite_p rfl, rn_int rfl, rn_int rfl, trivial⟩ (rw_dead rfl (rw_arr rfl encS_p rfl (rw_box (cs := [.int .i64 x4.At, .str x4.Bytes]) (ds := [.int .i64 x4.At, .str x4.Bytes]) rfl ⟨rn_int rfl, rn_str rfl, trivial⟩ (rw_nil))))) (fun ss_20 v_21 h hv_21 => ?_)
    revert hv_21 h; revert ss_20; intro s5 h hv_21
    replace h : disk_put_x866e_l1 s1 x4 s5 = some v_21 := h
    show T _ _ _ _ (mkA 29 [(0, .ref 1), (6, .ptr 2 0), (7, .sl (List.map encWrite p0)), (8, .int .i64 ((p0).length : Int)), (9, .int .i64 s1)]) [.dead, .arr 9 1 (List.map encS s5), .box [.int .i64 x4.At, .str x4.Bytes]]
    unfold disk_put_x866e_l1 at h
    refine T.seq ?_
    refine T.seq ?_
    refine T.region ?_
    refine RS.op rfl (OP.q rfl (v_move (v := .ref 1) rfl ?_))
    refine RS.op rfl (OP.q rfl (v_len_ref (en := encS) Ty.s22 rfl rfl ?_))
    refine RS.op rfl (OP.q rfl (v_fieldAddr_ptr Ty.f42_0 rfl (off' := 0) rfl ?_))
    refine RS.op rfl (o_load_ptr rfl rfl (loadRow1 Ty.k3 (c := .int .i64 x4.At) rfl ?_))
    refine RS.op rfl (OP.q rfl (v_leq rfl rfl ?_))
    refine RS.nil ?_
    refine T.cond (b := decide (((s5).length : Int) ≤ x4.At)) rfl (fun hb_22 => ?_) (fun hb_22 => ?_)
    · replace h := ite_T h hb_22
      refine T.skip ?_
      refine T.block ?_
      obtain ⟨x6, hx6, h⟩ := bind_some h
      refine T.region ?_
      refine RS.op rfl (OP.q rfl (v_move (v := .ref 1) rfl ?_))
      refine RS.op rfl (o_buildSlice (rows := List.map encS [[]]) (vs := [.str []]) Ty.s22 Ty.z9 rfl rfl rfl rfl rfl (aw' := [.dead, .arr 9 1 (List.map encS s5), .box [.int .i64 x4.At, .str x4.Bytes], .arr 9 1 (List.map encS [[]])]) rfl ?_)
      refine RS.op rfl (o_app_ref (en := encS) (xs := s5) (ys := ([[]] : List (List UInt8))) Ty.s22 (fun _ => rfl) rfl rfl rfl hx6 rfl (aw' := [.dead, .dead, .box [.int .i64 x4.At, .str x4.Bytes], .dead, .arr 9 1 (List.map encS x6)]) rfl ?_)
      refine RS.op rfl (OP.q rfl (v_assign (v := .ref 4) rfl ?_))
      refine RS.nil ?_
      exact ⟨x6, (Option.some.inj h).symm, Weak.mkN [] [0, 4, 2] (by decide) (by decide) rfl ⟨rn_ref rfl, rn_ptr rfl, rn_sl encWrite_p rfl, rn_int rfl, rn_int rfl, trivial⟩ (rw_dead rfl (rw_arr rfl encS_p rfl (rw_box (cs := [.int .i64 x4.At, .str x4.Bytes]) (ds := [.int .i64 x4.At, .str x4.Bytes]) rfl ⟨rn_int rfl, rn_str rfl, trivial⟩ (rw_nil))))⟩
    · replace h := ite_F h hb_22
      refine T.exit ?_
      obtain ⟨w_23, h, hw_23⟩ := map_inr h
      replace h := h.trans (congrArg some (hv_21 _ hw_23))
      obtain ⟨x7, hx7, h⟩ := bind_some h
      obtain ⟨x8, hx8, h⟩ := bind_some h
      refine T.region ?_
      refine RS.op rfl (OP.q rfl (v_move (v := .ref 1) rfl ?_))
      refine RS.op rfl (OP.q rfl (v_fieldAddr_ptr Ty.f42_0 rfl (off' := 0) rfl ?_))
      refine RS.op rfl (o_load_ptr rfl rfl (loadRow1 Ty.k3 (c := .int .i64 x4.At) rfl ?_))
      refine RS.op rfl (OP.q rfl (v_fieldAddr_ptr Ty.f42_1 rfl (off' := 1) rfl ?_))
      refine RS.op rfl (o_load_ptr rfl rfl (loadRow1 Ty.k9 (c := .str x4.Bytes) rfl ?_))
      refine RS.op rfl (OP.q rfl (v_index_ref' (en := encS) Ty.s22 rfl rfl rfl hx7 ?_))
      refine RS.op rfl (o_store_aptr' (en := encS) (a := x8) (a' := x4.Bytes) Ty.c9 Ty.i9 rfl (vs := [.str x4.Bytes]) rfl rfl rfl hx8 rfl rfl (aw' := [.dead, .arr 9 1 (List.map encS (List.set s5 x7 x4.Bytes)), .box [.int .i64 x4.At, .str x4.Bytes]]) rfl ?_)
      refine RS.nil ?_
      refine T.region ?_
      refine RS.op rfl (OP.q rfl (v_add rfl rfl ?_))
      refine RS.op rfl (OP.q rfl (v_move (v := .int .i64 (IntKind.i64.wrap (s1 + 1))) rfl ?_))
      refine RS.nil ?_
      exact ⟨(IntKind.i64.wrap (s1 + 1), (List.set s5 x7 x4.Bytes)), (Option.some.inj h).symm, Weak.mkN [] [0, 1] (by decide) (by decide) rfl ⟨rn_ref rfl, rn_sl encWrite_p rfl, rn_int rfl, rn_int rfl, trivial⟩ (rw_dead rfl (rw_arr rfl encS_p rfl (rw_nil)))⟩
  · replace h := ite_F h hb_17
    refine T.exit ?_
    obtain ⟨w_24, h, hw_24⟩ := map_inr h
    replace h := h.trans (congrArg some (hv_16 _ hw_24))
    refine T.seq ?_
    refine T.region ?_
    refine RS.op rfl (OP.q rfl (v_move (v := .ref 1) rfl ?_))
    refine RS.op rfl (OP.q rfl (v_assign (v := .ref 1) rfl ?_))
    refine RS.nil ?_
    refine T.ret' (R := ?R25) ?hq25 ?_
    case hq25 => repeat (first | exact RetIs.base | refine RetIs.thn ?_ | refine RetIs.blk ?_ | refine RetIs.lq ?_)
    refine res_tmpA (v := .ref 1) rfl ?_
    refine res_done ?_
    exact ret_own (.ref 1) [] [0, 1] (by decide) (by decide) rfl (rn_ref rfl) (rw_dead rfl (rw_arr rfl encS_p (congrArg (fun r : List (List UInt8) => r) (Option.some.inj h)).symm (rw_nil))) ⟨rfl, rfl⟩
theorem disk_Cut_c (p0 : Disk) (p1 : Int) (r : Disk × Int) (h : disk_Cut p0 p1 = some r) : Fn Try.prog 27 [.agg [.sl (List.map encS p0.Sectors), .sl (List.map encWrite p0.Wait)], .int .i64 p1] (.tup [.agg [.sl (List.map encS r.1.Sectors), .sl (List.map encWrite r.1.Wait)], .int .i64 r.2]) := by
  unfold disk_Cut at h
  refine fn_of_T (N := 0) rfl Try.func27 rfl (by kernel_rfl) Try.ntmps27 rfl ?_
  show T _ _ _ _ (mkA 32 [(0, .agg [.sl (List.map encS p0.Sectors), .sl (List.map encWrite p0.Wait)]), (1, .int .i64 p1)]) []
  refine T.seq ?_
  refine T.region ?_
  refine RS.op rfl (o_box (cs := [.sl (List.map encS p0.Sectors), .sl (List.map encWrite p0.Wait)]) rfl rfl (aw' := [.box [.sl (List.map encS p0.Sectors), .sl (List.map encWrite p0.Wait)]]) rfl ?_)
  refine RS.op rfl (o_alloc Ty.z25 rfl (aw' := [.box [.sl (List.map encS p0.Sectors), .sl (List.map encWrite p0.Wait)], .box [.nils, .nils]]) rfl ?_)
  refine RS.op rfl (OP.q rfl (v_assign (v := .int .i64 0) rfl ?_))
  refine RS.nil ?_
  refine T.seq ?_
  refine T.seq ?_
  obtain ⟨x2, hx2, h⟩ := bind_some h
  refine T.region ?_
  refine RS.op rfl (o_load_ptr rfl rfl (loadRowA Ty.k25 Ty.c25 rfl (cs := [.sl (List.map encS p0.Sectors), .sl (List.map encWrite p0.Wait)]) rfl ?_))
  refine RS.op rfl (o_call (as0 := [.agg [.sl (List.map encS p0.Sectors), .sl (List.map encWrite p0.Wait)]]) (as1 := [.agg [.sl (List.map encS p0.Sectors), .sl (List.map encWrite p0.Wait)]]) (caps := []) (aw1 := [.box [.sl (List.map encS p0.Sectors), .sl (List.map encWrite p0.Wait)], .box [.nils, .nils]]) rfl rfl rfl (k_flat (v := .int .i64 x2) (disk_Check_c p0 x2 hx2) (⟨pure_agg _ (pures_mem (⟨pure_map encS_p _, pure_map encWrite_p _, trivial⟩)), trivial⟩) rfl ?_))
  refine RS.op rfl (OP.q rfl (v_assign (v := .int .i64 x2) rfl ?_))
  refine RS.nil ?_
  refine T.seq ?_
  refine T.region ?_
  refine RS.op rfl (OP.q rfl (v_move (v := .int .i64 x2) rfl ?_))
  refine RS.op rfl (OP.q rfl (v_neq rfl rfl ?_))
  refine RS.nil ?_
  refine T.cond (b := x2 != 0) rfl (fun hb_1 => ?_) (fun hb_1 => ?_)
  · replace h := ite_T h hb_1
    refine T.seq ?_
    refine T.region ?_
    refine RS.op rfl (OP.q rfl (v_build (cs := [.nils, .nils]) Ty.z25 Ty.p25 rfl ?_))
    refine RS.op rfl (OP.q rfl (v_move (v := .int .i64 x2) rfl ?_))
    refine RS.op rfl (o_store_ptr Ty.c25 Ty.i25 rfl (vs := [.nils, .nils]) rfl rfl rfl rfl (cs' := [.nils, .nils]) rfl (aw' := [.box [.sl (List.map encS p0.Sectors), .sl (List.map encWrite p0.Wait)], .box [.nils, .nils]]) rfl ?_)
    refine RS.op rfl (OP.q rfl (v_assign (v := .int .i64 x2) rfl ?_))
    refine RS.nil ?_
    refine T.ret' (R := ?R2) ?hq2 ?_
    case hq2 => repeat (first | exact RetIs.base | refine RetIs.thn ?_ | refine RetIs.blk ?_ | refine RetIs.lq ?_)
    refine res_cellA (id := 1) (off := 0) (cs := [.nils, .nils]) (v := .agg [.nils, .nils]) ?_ ?_ ?_ ?_
    · rfl
    · rfl
    · exact fun K h => (loadRowA (row := [.nils, .nils]) (off := 0) Ty.k25 Ty.c25 rfl (cs := [.nils, .nils]) rfl h)
    refine res_tmpA (v := .int .i64 x2) rfl ?_
    refine res_done ?_
    exact ret_data (v := .tup [.agg [.sl (List.map encS []), .sl (List.map encWrite [])], .int .i64 x2]) rfl (pure_tup _ (pures_mem (⟨pure_agg _ (pures_mem (⟨pure_map encS_p _, pure_map encWrite_p _, trivial⟩)), pure_int _ _, trivial⟩))) ⟨congrArg (fun r : Disk × Int => (.tup [.agg [.sl (List.map encS r.1.Sectors), .sl (List.map encWrite r.1.Wait)], .int .i64 r.2] : AV)) (Option.some.inj h), rfl⟩
  · replace h := ite_F h hb_1
    refine T.skip ?_
    refine T.seq ?_
    refine T.join (Z := Unit) (fun _ => mkA 32 [(1, .int .i64 p1), (2, .ptr 0 0), (4, .ptr 1 0), (21, .bool ((decide (p1 < 0)) || decide (p1 > ((p0.Wait).length : Int))))]) (fun _ => [.box [.sl (List.map encS p0.Sectors), .sl (List.map encWrite p0.Wait)], .box [.nils, .nils]]) (fun _ => True) (fun _ _ => ?_) (fun hK => ?_)
    · show T _ _ _ _ (mkA 32 [(1, .int .i64 p1), (2, .ptr 0 0), (4, .ptr 1 0), (21, .bool ((decide (p1 < 0)) || decide (p1 > ((p0.Wait).length : Int))))]) [.box [.sl (List.map encS p0.Sectors), .sl (List.map encWrite p0.Wait)], .box [.nils, .nils]]
      refine T.cond (b := ((decide (p1 < 0)) || decide (p1 > ((p0.Wait).length : Int)))) rfl (fun hb_4 => ?_) (fun hb_4 => ?_)
      · replace h := ite_T h hb_4
        refine T.seq ?_
        refine T.region ?_
        refine RS.op rfl (OP.q rfl (v_build (cs := [.nils, .nils]) Ty.z25 Ty.p25 rfl ?_))
        refine RS.op rfl (o_store_ptr Ty.c25 Ty.i25 rfl (vs := [.nils, .nils]) rfl rfl rfl rfl (cs' := [.nils, .nils]) rfl (aw' := [.box [.sl (List.map encS p0.Sectors), .sl (List.map encWrite p0.Wait)], .box [.nils, .nils]]) rfl ?_)
        refine RS.op rfl (OP.q rfl (v_assign (v := .int .i64 3) rfl ?_))
        refine RS.nil ?_
        refine T.ret' (R := ?R5) ?hq5 ?_
        case hq5 => repeat (first | exact RetIs.base | refine RetIs.thn ?_ | refine RetIs.blk ?_ | refine RetIs.lq ?_)
        refine res_cellA (id := 1) (off := 0) (cs := [.nils, .nils]) (v := .agg [.nils, .nils]) ?_ ?_ ?_ ?_
        · rfl
        · rfl
        · exact fun K h => (loadRowA (row := [.nils, .nils]) (off := 0) Ty.k25 Ty.c25 rfl (cs := [.nils, .nils]) rfl h)
        refine res_tmpA (v := .int .i64 3) rfl ?_
        refine res_done ?_
        exact ret_data (v := .tup [.agg [.sl (List.map encS []), .sl (List.map encWrite [])], .int .i64 3]) rfl (pure_tup _ (pures_mem (⟨pure_agg _ (pures_mem (⟨pure_map encS_p _, pure_map encWrite_p _, trivial⟩)), pure_int _ _, trivial⟩))) ⟨congrArg (fun r : Disk × Int => (.tup [.agg [.sl (List.map encS r.1.Sectors), .sl (List.map encWrite r.1.Wait)], .int .i64 r.2] : AV)) (Option.some.inj h), rfl⟩
      · replace h := ite_F h hb_4
        refine T.skip ?_
        refine T.seq ?_
        obtain ⟨x7, hx7, h⟩ := bind_some h
        obtain ⟨x8, hx8, h⟩ := bind_some h
        obtain ⟨x9, hx9, h⟩ := bind_some h
        refine T.drawn mixed (k := 11) rfl ?_
        refine RA.join 4 #[true, true, true, true, true, true, true, false, false, false, false] (mkA 32 [(1, .int .i64 p1), (2, .ptr 0 0), (4, .ptr 1 0), (21, .bool ((decide (p1 < 0)) || decide (p1 > ((p0.Wait).length : Int)))), (23, .ptr 0 0), (24, .sl (List.map encS p0.Sectors)), (25, .ref 2), (26, .ptr 0 1), (27, .sl (List.map encWrite p0.Wait)), (28, .int .i64 p1), (29, .sl (List.map encWrite x8))]) [.box [.sl (List.map encS p0.Sectors), .sl (List.map encWrite p0.Wait)], .box [.nils, .nils], .arr 9 1 (List.map encS x7)] ?_ (fun hS6 => ?_)
        · refine RA.a1 (i1 := 7) (l1 := #[true, true, true, true, true, true, true, true, false, false, false]) (by decide +kernel) (by decide +kernel) ?_
          refine RO.op rfl rfl (o_callF (ac := [.ref 2, .sl (List.map encWrite x8)]) (as0 := [.ref 0, .sl (List.map encWrite x8)]) (aw0 := [.arr 9 1 (List.map encS x7)]) (aw1 := [.dead, .arr 9 1 (List.map encS x9)]) (aw2 := [.box [.sl (List.map encS p0.Sectors), .sl (List.map encWrite p0.Wait)], .box [.nils, .nils], .dead, .arr 9 1 (List.map encS x9)]) (v := .ref 1) (v' := .ref 3) (n0 := 3) (n1 := 2) [2] rfl rfl rfl rfl (by decide) (rw_arr rfl encS_p rfl (rw_nil)) ⟨rn_ref rfl, rn_sl encWrite_p rfl, trivial⟩ (disk_put_x866e_c x8 x7 x9 hx9) rfl (rm_ref (by decide)) ⟨.inr ⟨rfl, rfl⟩, .inr ⟨rfl, rfl⟩, .inl ⟨0, _, by decide, rfl, trivial⟩, .inl ⟨1, _, by decide, rfl, rom_arr encS_p⟩, trivial⟩ ?_)
          refine RA.t0 (i := 8) (li' := #[true, true, true, true, true, true, true, true, true, false, false]) rfl (by decide +kernel) (by decide +kernel) (by decide +kernel) (by decide +kernel) rfl rfl (v_build (cs := [.ref 3, .nils]) Ty.z25 Ty.p25 rfl ?_)
          refine RA.a1 (i1 := 9) (l1 := #[true, true, true, true, true, true, true, true, true, true, false]) (by decide +kernel) (by decide +kernel) ?_
          refine RO.op rfl rfl (o_store_ptr Ty.c25 Ty.i25 rfl (vs := [.ref 3, .nils]) rfl rfl rfl rfl (cs' := [.ref 3, .nils]) rfl (aw' := [.box [.sl (List.map encS p0.Sectors), .sl (List.map encWrite p0.Wait)], .box [.ref 3, .nils], .dead, .arr 9 1 (List.map encS x9)]) rfl ?_)
          refine RA.t0 (i := 10) (li' := #[true, true, true, true, true, true, true, true, true, true, true]) rfl (by decide +kernel) (by decide +kernel) (by decide +kernel) (by decide +kernel) rfl rfl (v_assign (v := .int .i64 0) rfl ?_)
          refine RA.done (by decide +kernel) ?_
          refine T.ret' (R := ?R8) ?hq8 ?_
          case hq8 => repeat (first | exact RetIs.base | refine RetIs.thn ?_ | refine RetIs.blk ?_ | refine RetIs.lq ?_)
          refine res_cellA (id := 1) (off := 0) (cs := [.ref 3, .nils]) (v := .agg [.ref 3, .nils]) ?_ ?_ ?_ ?_
          · rfl
          · rfl
          · exact fun K h => (loadRowA (row := [.ref 3, .nils]) (off := 0) Ty.k25 Ty.c25 rfl (cs := [.ref 3, .nils]) rfl h)
          refine res_tmpA (v := .int .i64 0) rfl ?_
          refine res_done ?_
          exact ret_data (v := .tup [.agg [.sl (List.map encS x9), .sl (List.map encWrite [])], .int .i64 0]) rfl (pure_tup _ (pures_mem (⟨pure_agg _ (pures_mem (⟨pure_map encS_p _, pure_map encWrite_p _, trivial⟩)), pure_int _ _, trivial⟩))) ⟨congrArg (fun r : Disk × Int => (.tup [.agg [.sl (List.map encS r.1.Sectors), .sl (List.map encWrite r.1.Wait)], .int .i64 r.2] : AV)) (Option.some.inj h), rfl⟩
        · refine RA.join 5 #[true, true, false, true, true, true, true, false, false, false, false] (mkA 32 [(1, .int .i64 p1), (2, .ptr 0 0), (4, .ptr 1 0), (21, .bool ((decide (p1 < 0)) || decide (p1 > ((p0.Wait).length : Int)))), (23, .ptr 0 0), (24, .sl (List.map encS p0.Sectors)), (26, .ptr 0 1), (27, .sl (List.map encWrite p0.Wait)), (28, .int .i64 p1), (29, .sl (List.map encWrite x8))]) [.box [.sl (List.map encS p0.Sectors), .sl (List.map encWrite p0.Wait)], .box [.nils, .nils]] ?_ (fun hS7 => ?_)
          · refine RA.a1 (i1 := 2) (l1 := #[true, true, true, true, true, true, true, false, false, false, false]) (by decide +kernel) (by decide +kernel) ?_
            refine RO.op rfl rfl (o_call (as0 := [.sl (List.map encS p0.Sectors)]) (as1 := [.sl (List.map encS p0.Sectors)]) (caps := []) (aw1 := [.box [.sl (List.map encS p0.Sectors), .sl (List.map encWrite p0.Wait)], .box [.nils, .nils]]) rfl rfl rfl (k_own' (v := .ref 0) (obs := [.arr 9 1 (List.map encS x7)]) (v' := .ref 2) (aw' := [.box [.sl (List.map encS p0.Sectors), .sl (List.map encWrite p0.Wait)], .box [.nils, .nils], .arr 9 1 (List.map encS x7)]) (slices_Clone_string_c p0.Sectors x7 hx7) (⟨pure_map encS_p _, trivial⟩) rfl (obs_cons (flatOb_map fun _ => rfl) obs_nil) rfl rfl ?_))
            exact RA.weakR hS6 (Weak.mkN [] [0, 1, 2] (by decide) (none_kept _) rfl ⟨rn_int rfl, rn_ptr rfl, rn_ptr rfl, rn_bool rfl, rn_ptr rfl, rn_sl encS_p rfl, rn_ref rfl, rn_ptr rfl, rn_sl encWrite_p rfl, rn_int rfl, rn_sl encWrite_p rfl, trivial⟩ (rw_box (cs := [.sl (List.map encS p0.Sectors), .sl (List.map encWrite p0.Wait)]) (ds := [.sl (List.map encS p0.Sectors), .sl (List.map encWrite p0.Wait)]) rfl ⟨rn_sl encS_p rfl, rn_sl encWrite_p rfl, trivial⟩ (rw_box (cs := [.nils, .nils]) (ds := [.nils, .nils]) rfl ⟨rn_same pure_nils, rn_same pure_nils, trivial⟩ (rw_arr rfl encS_p rfl (rw_nil)))))
          · refine RA.t0 (i := 0) (li' := #[true, false, false, false, false, false, false, false, false, false, false]) rfl (by decide +kernel) (by decide +kernel) (by decide +kernel) (by decide +kernel) rfl rfl (v_fieldAddr_ptr Ty.f25_0 rfl (off' := 0) rfl ?_)
            refine RA.t0 (i := 3) (li' := #[true, false, false, true, false, false, false, false, false, false, false]) rfl (by decide +kernel) (by decide +kernel) (by decide +kernel) (by decide +kernel) rfl rfl (v_fieldAddr_ptr Ty.f25_1 rfl (off' := 1) rfl ?_)
            refine RA.t0 (i := 5) (li' := #[true, false, false, true, false, true, false, false, false, false, false]) rfl (by decide +kernel) (by decide +kernel) (by decide +kernel) (by decide +kernel) rfl rfl (v_move (v := .int .i64 p1) rfl ?_)
            refine RA.a2 (i1 := 1) (l1 := #[true, true, false, true, false, true, false, false, false, false, false]) (i2 := 4) (l2 := #[true, false, false, true, true, true, false, false, false, false, false]) (by decide +kernel) (by decide +kernel) (by decide +kernel) ?_ ?_
            · refine RO.op rfl rfl (o_load_ptr rfl rfl (loadRow1 Ty.k22 (c := .sl (List.map encS p0.Sectors)) rfl ?_))
              refine RA.a2 (i1 := 2) (l1 := #[true, true, true, true, false, true, false, false, false, false, false]) (i2 := 4) (l2 := #[true, true, false, true, true, true, false, false, false, false, false]) (by decide +kernel) (by decide +kernel) (by decide +kernel) ?_ ?_
              · refine RO.op rfl rfl (o_call (as0 := [.sl (List.map encS p0.Sectors)]) (as1 := [.sl (List.map encS p0.Sectors)]) (caps := []) (aw1 := [.box [.sl (List.map encS p0.Sectors), .sl (List.map encWrite p0.Wait)], .box [.nils, .nils]]) rfl rfl rfl (k_own' (v := .ref 0) (obs := [.arr 9 1 (List.map encS x7)]) (v' := .ref 2) (aw' := [.box [.sl (List.map encS p0.Sectors), .sl (List.map encWrite p0.Wait)], .box [.nils, .nils], .arr 9 1 (List.map encS x7)]) (slices_Clone_string_c p0.Sectors x7 hx7) (⟨pure_map encS_p _, trivial⟩) rfl (obs_cons (flatOb_map fun _ => rfl) obs_nil) rfl rfl ?_))
                refine RA.a1 (i1 := 4) (l1 := #[true, true, true, true, true, true, false, false, false, false, false]) (by decide +kernel) (by decide +kernel) ?_
                refine RO.op rfl rfl (o_load_ptr rfl rfl (loadRow1 Ty.k23 (c := .sl (List.map encWrite p0.Wait)) rfl ?_))
                refine RA.t0 (i := 6) (li' := #[true, true, true, true, true, true, true, false, false, false, false]) rfl (by decide +kernel) (by decide +kernel) (by decide +kernel) (by decide +kernel) rfl rfl (v_slice_sl Ty.s23 (fun _ => rfl) rfl rfl rfl hx8 ?_)
                exact RA.weakR hS6 (Weak.mkN [] [0, 1, 2] (by decide) (none_kept _) rfl ⟨rn_int rfl, rn_ptr rfl, rn_ptr rfl, rn_bool rfl, rn_ptr rfl, rn_sl encS_p rfl, rn_ref rfl, rn_ptr rfl, rn_sl encWrite_p rfl, rn_int rfl, rn_sl encWrite_p rfl, trivial⟩ (rw_box (cs := [.sl (List.map encS p0.Sectors), .sl (List.map encWrite p0.Wait)]) (ds := [.sl (List.map encS p0.Sectors), .sl (List.map encWrite p0.Wait)]) rfl ⟨rn_sl encS_p rfl, rn_sl encWrite_p rfl, trivial⟩ (rw_box (cs := [.nils, .nils]) (ds := [.nils, .nils]) rfl ⟨rn_same pure_nils, rn_same pure_nils, trivial⟩ (rw_arr rfl encS_p rfl (rw_nil)))))
              · refine RO.op rfl rfl (o_load_ptr rfl rfl (loadRow1 Ty.k23 (c := .sl (List.map encWrite p0.Wait)) rfl ?_))
                refine RA.t0 (i := 6) (li' := #[true, true, false, true, true, true, true, false, false, false, false]) rfl (by decide +kernel) (by decide +kernel) (by decide +kernel) (by decide +kernel) rfl rfl (v_slice_sl Ty.s23 (fun _ => rfl) rfl rfl rfl hx8 ?_)
                exact RA.weakR hS7 (Weak.mkN [] [0, 1] (by decide) (none_kept _) rfl ⟨rn_int rfl, rn_ptr rfl, rn_ptr rfl, rn_bool rfl, rn_ptr rfl, rn_sl encS_p rfl, rn_ptr rfl, rn_sl encWrite_p rfl, rn_int rfl, rn_sl encWrite_p rfl, trivial⟩ (rw_box (cs := [.sl (List.map encS p0.Sectors), .sl (List.map encWrite p0.Wait)]) (ds := [.sl (List.map encS p0.Sectors), .sl (List.map encWrite p0.Wait)]) rfl ⟨rn_sl encS_p rfl, rn_sl encWrite_p rfl, trivial⟩ (rw_box (cs := [.nils, .nils]) (ds := [.nils, .nils]) rfl ⟨rn_same pure_nils, rn_same pure_nils, trivial⟩ (rw_nil))))
            · refine RO.op rfl rfl (o_load_ptr rfl rfl (loadRow1 Ty.k23 (c := .sl (List.map encWrite p0.Wait)) rfl ?_))
              refine RA.t0 (i := 6) (li' := #[true, false, false, true, true, true, true, false, false, false, false]) rfl (by decide +kernel) (by decide +kernel) (by decide +kernel) (by decide +kernel) rfl rfl (v_slice_sl Ty.s23 (fun _ => rfl) rfl rfl rfl hx8 ?_)
              refine RA.a1 (i1 := 1) (l1 := #[true, true, false, true, true, true, true, false, false, false, false]) (by decide +kernel) (by decide +kernel) ?_
              refine RO.op rfl rfl (o_load_ptr rfl rfl (loadRow1 Ty.k22 (c := .sl (List.map encS p0.Sectors)) rfl ?_))
              exact RA.weakR hS7 (Weak.mkN [] [0, 1] (by decide) (none_kept _) rfl ⟨rn_int rfl, rn_ptr rfl, rn_ptr rfl, rn_bool rfl, rn_ptr rfl, rn_sl encS_p rfl, rn_ptr rfl, rn_sl encWrite_p rfl, rn_int rfl, rn_sl encWrite_p rfl, trivial⟩ (rw_box (cs := [.sl (List.map encS p0.Sectors), .sl (List.map encWrite p0.Wait)]) (ds := [.sl (List.map encS p0.Sectors), .sl (List.map encWrite p0.Wait)]) rfl ⟨rn_sl encS_p rfl, rn_sl encWrite_p rfl, trivial⟩ (rw_box (cs := [.nils, .nils]) (ds := [.nils, .nils]) rfl ⟨rn_same pure_nils, rn_same pure_nils, trivial⟩ (rw_nil))))
    · rcases bool_cases (decide (p1 < 0)) with hb_3 | hb_3
      · refine T.region ?_
        refine RS.op rfl (OP.q rfl (v_move (v := .int .i64 p1) rfl ?_))
        refine RS.op rfl (OP.q rfl (v_lss rfl rfl ?_))
        refine RS.op rfl (OP.q rfl (v_move (v := .bool (decide (p1 < 0))) rfl ?_))
        refine RS.no rfl rfl rfl hb_3 ?_
        refine RS.no rfl rfl rfl hb_3 ?_
        refine RS.no rfl rfl rfl hb_3 ?_
        refine RS.no rfl rfl rfl hb_3 ?_
        refine RS.no rfl rfl rfl hb_3 ?_
        refine RS.op rfl (OP.q rfl (v_pickT (v := .bool true) rfl hb_3 rfl ?_))
        refine RS.nil ?_
        exact T.weakR (hK () trivial) (Weak.mkN [] [0, 1] (by decide) (none_kept _) rfl ⟨rn_int rfl, rn_ptr rfl, rn_ptr rfl, rn_bool (by simp only [hb_3, Bool.true_or, Bool.or_true, Bool.false_or, Bool.or_false, Bool.true_and, Bool.and_true, Bool.false_and, Bool.and_false, Bool.not_true, Bool.not_false, if_true, if_false, Bool.false_eq_true, reduceIte]), trivial⟩ (rw_box (cs := [.sl (List.map encS p0.Sectors), .sl (List.map encWrite p0.Wait)]) (ds := [.sl (List.map encS p0.Sectors), .sl (List.map encWrite p0.Wait)]) rfl ⟨rn_sl encS_p rfl, rn_sl encWrite_p rfl, trivial⟩ (rw_box (cs := [.nils, .nils]) (ds := [.nils, .nils]) rfl ⟨rn_same pure_nils, rn_same pure_nils, trivial⟩ (rw_nil))))
      · refine T.region ?_
        refine RS.op rfl (OP.q rfl (v_move (v := .int .i64 p1) rfl ?_))
        refine RS.op rfl (OP.q rfl (v_lss rfl rfl ?_))
        refine RS.op rfl (OP.q rfl (v_move (v := .bool (decide (p1 < 0))) rfl ?_))
        refine RS.yes rfl rfl rfl hb_3 (OP.q rfl (v_move (v := .int .i64 p1) rfl ?_))
        refine RS.yes rfl rfl rfl hb_3 (OP.q rfl (v_fieldAddr_ptr Ty.f25_1 rfl (off' := 1) rfl ?_))
        refine RS.yes rfl rfl rfl hb_3 (o_load_ptr rfl rfl (loadRow1 Ty.k23 (c := .sl (List.map encWrite p0.Wait)) rfl ?_))
        refine RS.yes rfl rfl rfl hb_3 (OP.q rfl (v_len_sl Ty.s23 rfl ?_))
        refine RS.yes rfl rfl rfl hb_3 (OP.q rfl (v_gtr rfl rfl ?_))
        refine RS.op rfl (OP.q rfl (v_pickF (v := .bool (decide (p1 > ((p0.Wait).length : Int)))) rfl hb_3 rfl ?_))
        refine RS.nil ?_
        exact T.weakR (hK () trivial) (Weak.mkN [] [0, 1] (by decide) (none_kept _) rfl ⟨rn_int rfl, rn_ptr rfl, rn_ptr rfl, rn_bool (by simp only [hb_3, Bool.true_or, Bool.or_true, Bool.false_or, Bool.or_false, Bool.true_and, Bool.and_true, Bool.false_and, Bool.and_false, Bool.not_true, Bool.not_false, if_true, if_false, Bool.false_eq_true, reduceIte]), trivial⟩ (rw_box (cs := [.sl (List.map encS p0.Sectors), .sl (List.map encWrite p0.Wait)]) (ds := [.sl (List.map encS p0.Sectors), .sl (List.map encWrite p0.Wait)]) rfl ⟨rn_sl encS_p rfl, rn_sl encWrite_p rfl, trivial⟩ (rw_box (cs := [.nils, .nils]) (ds := [.nils, .nils]) rfl ⟨rn_same pure_nils, rn_same pure_nils, trivial⟩ (rw_nil))))
theorem disk_Flush_c (p0 : Disk) (r : Disk × Int) (h : disk_Flush p0 = some r) : Fn Try.prog 37 [.agg [.sl (List.map encS p0.Sectors), .sl (List.map encWrite p0.Wait)]] (.tup [.agg [.sl (List.map encS r.1.Sectors), .sl (List.map encWrite r.1.Wait)], .int .i64 r.2]) := by
  unfold disk_Flush at h
  refine fn_of_T (N := 0) rfl Try.func37 rfl (by kernel_rfl) Try.ntmps37 rfl ?_
  show T _ _ _ _ (mkA 11 [(0, .agg [.sl (List.map encS p0.Sectors), .sl (List.map encWrite p0.Wait)])]) []
  refine T.seq ?_
  refine T.region ?_
  refine RS.op rfl (o_box (cs := [.sl (List.map encS p0.Sectors), .sl (List.map encWrite p0.Wait)]) rfl rfl (aw' := [.box [.sl (List.map encS p0.Sectors), .sl (List.map encWrite p0.Wait)]]) rfl ?_)
  refine RS.op rfl (o_alloc Ty.z25 rfl (aw' := [.box [.sl (List.map encS p0.Sectors), .sl (List.map encWrite p0.Wait)], .box [.nils, .nils]]) rfl ?_)
  refine RS.op rfl (OP.q rfl (v_assign (v := .int .i64 0) rfl ?_))
  refine RS.nil ?_
  refine T.seq ?_
  obtain ⟨x2, hx2, h⟩ := bind_some h
  refine T.region ?_
  refine RS.op rfl (o_load_ptr rfl rfl (loadRowA Ty.k25 Ty.c25 rfl (cs := [.sl (List.map encS p0.Sectors), .sl (List.map encWrite p0.Wait)]) rfl ?_))
  refine RS.op rfl (OP.q rfl (v_fieldAddr_ptr Ty.f25_1 rfl (off' := 1) rfl ?_))
  refine RS.op rfl (o_load_ptr rfl rfl (loadRow1 Ty.k23 (c := .sl (List.map encWrite p0.Wait)) rfl ?_))
  refine RS.op rfl (OP.q rfl (v_len_sl Ty.s23 rfl ?_))
  refine RS.op rfl (o_call (as0 := [.agg [.sl (List.map encS p0.Sectors), .sl (List.map encWrite p0.Wait)], .int .i64 ((p0.Wait).length : Int)]) (as1 := [.agg [.sl (List.map encS p0.Sectors), .sl (List.map encWrite p0.Wait)], .int .i64 ((p0.Wait).length : Int)]) (caps := []) (aw1 := [.box [.sl (List.map encS p0.Sectors), .sl (List.map encWrite p0.Wait)], .box [.nils, .nils]]) rfl rfl rfl (k_fn (v := .tup [.agg [.sl (List.map encS x2.1.Sectors), .sl (List.map encWrite x2.1.Wait)], .int .i64 x2.2]) (disk_Cut_c p0 ((p0.Wait).length : Int) x2 hx2) (⟨pure_agg _ (pures_mem (⟨pure_map encS_p _, pure_map encWrite_p _, trivial⟩)), pure_int _ _, trivial⟩) (pure_tup _ (pures_mem (⟨pure_agg _ (pures_mem (⟨pure_map encS_p _, pure_map encWrite_p _, trivial⟩)), pure_int _ _, trivial⟩))) ?_))
  refine RS.op rfl (OP.q rfl (v_extract (v := .agg [.sl (List.map encS x2.1.Sectors), .sl (List.map encWrite x2.1.Wait)]) rfl rfl ?_))
  refine RS.op rfl (OP.q rfl (v_extract (v := .int .i64 x2.2) rfl rfl ?_))
  refine RS.op rfl (o_store_ptr Ty.c25 Ty.i25 rfl (vs := [.sl (List.map encS x2.1.Sectors), .sl (List.map encWrite x2.1.Wait)]) rfl rfl rfl rfl (cs' := [.sl (List.map encS x2.1.Sectors), .sl (List.map encWrite x2.1.Wait)]) rfl (aw' := [.box [.sl (List.map encS p0.Sectors), .sl (List.map encWrite p0.Wait)], .box [.sl (List.map encS x2.1.Sectors), .sl (List.map encWrite x2.1.Wait)]]) rfl ?_)
  refine RS.op rfl (OP.q rfl (v_assign (v := .int .i64 x2.2) rfl ?_))
  refine RS.nil ?_
  refine T.ret' (R := ?R1) ?hq1 ?_
  case hq1 => repeat (first | exact RetIs.base | refine RetIs.thn ?_ | refine RetIs.blk ?_ | refine RetIs.lq ?_)
  refine res_cellA (id := 1) (off := 0) (cs := [.sl (List.map encS x2.1.Sectors), .sl (List.map encWrite x2.1.Wait)]) (v := .agg [.sl (List.map encS x2.1.Sectors), .sl (List.map encWrite x2.1.Wait)]) ?_ ?_ ?_ ?_
  · rfl
  · rfl
  · exact fun K h => (loadRowA (row := [.sl (List.map encS x2.1.Sectors), .sl (List.map encWrite x2.1.Wait)]) (off := 0) Ty.k25 Ty.c25 rfl (cs := [.sl (List.map encS x2.1.Sectors), .sl (List.map encWrite x2.1.Wait)]) rfl h)
  refine res_tmpA (v := .int .i64 x2.2) rfl ?_
  refine res_done ?_
  exact ret_data (v := .tup [.agg [.sl (List.map encS x2.1.Sectors), .sl (List.map encWrite x2.1.Wait)], .int .i64 x2.2]) rfl (pure_tup _ (pures_mem (⟨pure_agg _ (pures_mem (⟨pure_map encS_p _, pure_map encWrite_p _, trivial⟩)), pure_int _ _, trivial⟩))) ⟨congrArg (fun r : Disk × Int => (.tup [.agg [.sl (List.map encS r.1.Sectors), .sl (List.map encWrite r.1.Wait)], .int .i64 r.2] : AV)) (Option.some.inj h), rfl⟩
theorem slices_Equal_Choice_c (p0 : List Choice) (p1 : List Choice) (r : Bool) (h : slices_Equal_Choice p0 p1 = some r) : Fn Try.prog 19 [.sl (List.map encChoice p0), .sl (List.map encChoice p1)] (.bool r) := by
  unfold slices_Equal_Choice at h
  refine fn_of_T (N := 0) rfl Try.func19 rfl (by kernel_rfl) Try.ntmps19 rfl ?_
  show T _ _ _ _ (mkA 26 [(0, .sl (List.map encChoice p0)), (1, .sl (List.map encChoice p1))]) []
  refine T.seq ?_
  refine T.region ?_
  refine RS.op rfl (OP.q rfl (v_assign (v := .bool false) rfl ?_))
  refine RS.nil ?_
  refine T.seq ?_
  refine T.seq ?_
  refine T.region ?_
  refine RS.op rfl (OP.q rfl (v_move (v := .sl (List.map encChoice p0)) rfl ?_))
  refine RS.op rfl (OP.q rfl (v_len_sl Ty.s26 rfl ?_))
  refine RS.op rfl (OP.q rfl (v_move (v := .sl (List.map encChoice p1)) rfl ?_))
  refine RS.op rfl (OP.q rfl (v_len_sl Ty.s26 rfl ?_))
  refine RS.op rfl (OP.q rfl (v_neq rfl rfl ?_))
  refine RS.nil ?_
  refine T.cond (b := ((p0).length : Int) != ((p1).length : Int)) rfl (fun hb_1 => ?_) (fun hb_1 => ?_)
  · replace h := ite_T h hb_1
    refine T.seq ?_
    refine T.region ?_
    refine RS.op rfl (OP.q rfl (v_assign (v := .bool false) rfl ?_))
    refine RS.nil ?_
    refine T.ret' (R := ?R2) ?hq2 ?_
    case hq2 => repeat (first | exact RetIs.base | refine RetIs.thn ?_ | refine RetIs.blk ?_ | refine RetIs.lq ?_)
    refine res_tmpA (v := .bool false) rfl ?_
    refine res_done ?_
    exact ret_data (v := .bool false) rfl (pure_bool _) ⟨congrArg (fun r : Bool => (.bool r : AV)) (Option.some.inj h), rfl⟩
  · replace h := ite_F h hb_1
    refine T.skip ?_
    refine T.seq ?_
    refine T.seq ?_
    refine T.region ?_
    refine RS.op rfl (OP.q rfl (v_move (v := .sl (List.map encChoice p0)) rfl ?_))
    refine RS.op rfl (OP.q rfl (v_len_sl Ty.s26 rfl ?_))
    refine RS.op rfl (OP.q rfl (v_move (v := .int .i64 0) rfl ?_))
    refine RS.nil ?_
    refine T.block ?_
    refine T.iter (fun ss_11 : Int => mkA 26 [(0, .sl (List.map encChoice p0)), (1, .sl (List.map encChoice p1)), (12, .int .i64 ((p0).length : Int)), (13, .int .i64 ss_11)]) (fun ss_11 => []) h (Weak.mkN [] [] (by decide) (none_kept _) rfl ⟨rn_sl encChoice_p rfl, rn_sl encChoice_p rfl, rn_int rfl, rn_int rfl, trivial⟩ (rw_nil)) (fun ss_11 v_12 h hv_12 => ?_)
    revert hv_12 h; revert ss_11; intro s1 h hv_12
    replace h : slices_Equal_Choice_l1 p0 p1 s1 = some v_12 := h
    show T _ _ _ _ (mkA 26 [(0, .sl (List.map encChoice p0)), (1, .sl (List.map encChoice p1)), (12, .int .i64 ((p0).length : Int)), (13, .int .i64 s1)]) []
    unfold slices_Equal_Choice_l1 at h
    refine T.seq ?_
    refine T.region ?_
    refine RS.op rfl (OP.q rfl (v_lss rfl rfl ?_))
    refine RS.nil ?_
    refine T.seq ?_
    refine T.cond (b := decide (s1 < ((p0).length : Int))) rfl (fun hb_13 => ?_) (fun hb_13 => ?_)
    · replace h := ite_T h hb_13
      refine T.skip ?_
      refine T.seq ?_
      refine T.block ?_
      refine T.seq ?_
      refine T.region ?_
      refine RS.op rfl (OP.q rfl (v_move (v := .int .i64 s1) rfl ?_))
      refine RS.op rfl (OP.q rfl (v_assign (v := .int .i64 s1) rfl ?_))
      refine RS.nil ?_
      refine T.seq ?_
      obtain ⟨x4, hx4, h⟩ := bind_some h
      obtain ⟨x5, hx5, h⟩ := bind_some h
      refine T.drawn mixed (k := 9) rfl ?_
      refine RA.join 0 #[true, true, true, true, true, true, true, true, true] (mkA 26 [(0, .sl (List.map encChoice p0)), (1, .sl (List.map encChoice p1)), (5, .int .i64 s1), (12, .int .i64 ((p0).length : Int)), (13, .int .i64 s1), (14, .bool (decide (s1 < ((p0).length : Int)))), (15, .int .i64 s1), (16, .sl (List.map encChoice p0)), (17, .int .i64 s1), (18, .elt (encChoice x4) 0), (19, .agg [.int .i64 x4.Node, .int .i64 x4.Lane]), (20, .sl (List.map encChoice p1)), (21, .int .i64 s1), (22, .elt (encChoice x5) 0), (23, .agg [.int .i64 x5.Node, .int .i64 x5.Lane]), (24, .bool (!(x4 == x5)))]) [] ?_ (fun hS14 => ?_)
      · refine RA.done (by decide +kernel) ?_
        refine T.cond (b := !(x4 == x5)) rfl (fun hb_15 => ?_) (fun hb_15 => ?_)
        · replace h := ite_T h hb_15
          refine T.seq ?_
          refine T.region ?_
          refine RS.op rfl (OP.q rfl (v_assign (v := .bool false) rfl ?_))
          refine RS.nil ?_
          refine T.ret' (R := ?R16) ?hq16 ?_
          case hq16 => repeat (first | exact RetIs.base | refine RetIs.thn ?_ | refine RetIs.blk ?_ | refine RetIs.lq ?_)
          obtain ⟨w_17, h, hw_17⟩ := map_inr h
          replace h := h.trans (congrArg some (hv_12 _ hw_17))
          refine res_tmpA (v := .bool false) rfl ?_
          refine res_done ?_
          exact ret_data (v := .bool false) rfl (pure_bool _) ⟨congrArg (fun r : Bool => (.bool r : AV)) (Option.some.inj h), rfl⟩
        · replace h := ite_F h hb_15
          refine T.skip ?_
          refine T.region ?_
          refine RS.op rfl (OP.q rfl (v_add rfl rfl ?_))
          refine RS.op rfl (OP.q rfl (v_move (v := .int .i64 (IntKind.i64.wrap (s1 + 1))) rfl ?_))
          refine RS.nil ?_
          exact ⟨IntKind.i64.wrap (s1 + 1), (Option.some.inj h).symm, Weak.mkN [] [] (by decide) (none_kept _) rfl ⟨rn_sl encChoice_p rfl, rn_sl encChoice_p rfl, rn_int rfl, rn_int rfl, trivial⟩ (rw_nil)⟩
      · refine RA.t0 (i := 0) (li' := #[true, false, false, false, false, false, false, false, false]) rfl (by decide +kernel) (by decide +kernel) (by decide +kernel) (by decide +kernel) rfl rfl (v_move (v := .sl (List.map encChoice p0)) rfl ?_)
        refine RA.t0 (i := 1) (li' := #[true, true, false, false, false, false, false, false, false]) rfl (by decide +kernel) (by decide +kernel) (by decide +kernel) (by decide +kernel) rfl rfl (v_move (v := .int .i64 s1) rfl ?_)
        refine RA.t0 (i := 2) (li' := #[true, true, true, false, false, false, false, false, false]) rfl (by decide +kernel) (by decide +kernel) (by decide +kernel) (by decide +kernel) rfl rfl (v_index_sl Ty.s26 (fun _ => rfl) rfl rfl hx4 ?_)
        refine RA.t0 (i := 4) (li' := #[true, true, true, false, true, false, false, false, false]) rfl (by decide +kernel) (by decide +kernel) (by decide +kernel) (by decide +kernel) rfl rfl (v_move (v := .sl (List.map encChoice p1)) rfl ?_)
        refine RA.t0 (i := 5) (li' := #[true, true, true, false, true, true, false, false, false]) rfl (by decide +kernel) (by decide +kernel) (by decide +kernel) (by decide +kernel) rfl rfl (v_move (v := .int .i64 s1) rfl ?_)
        refine RA.t0 (i := 6) (li' := #[true, true, true, false, true, true, true, false, false]) rfl (by decide +kernel) (by decide +kernel) (by decide +kernel) (by decide +kernel) rfl rfl (v_index_sl Ty.s26 (fun _ => rfl) rfl rfl hx5 ?_)
        refine RA.a2 (i1 := 3) (l1 := #[true, true, true, true, true, true, true, false, false]) (i2 := 7) (l2 := #[true, true, true, false, true, true, true, true, false]) (by decide +kernel) (by decide +kernel) (by decide +kernel) ?_ ?_
        · refine RO.op rfl rfl (o_load_elt rfl (loadRowA Ty.k36 Ty.c36 rfl (cs := [.int .i64 x4.Node, .int .i64 x4.Lane]) rfl ?_))
          refine RA.a1 (i1 := 7) (l1 := #[true, true, true, true, true, true, true, true, false]) (by decide +kernel) (by decide +kernel) ?_
          refine RO.op rfl rfl (o_load_elt rfl (loadRowA Ty.k36 Ty.c36 rfl (cs := [.int .i64 x5.Node, .int .i64 x5.Lane]) rfl ?_))
          refine RA.t0 (i := 8) (li' := #[true, true, true, true, true, true, true, true, true]) rfl (by decide +kernel) (by decide +kernel) (by decide +kernel) (by decide +kernel) rfl rfl (v_gneq (cs := [.int .i64 x4.Node, .int .i64 x4.Lane]) (ds := [.int .i64 x5.Node, .int .i64 x5.Lane]) (r := x4 == x5) Ty.q36 rfl rfl rfl rfl (encChoice_eq x4 x5) ?_)
          exact RA.weakR hS14 (Weak.mkN [] [] (by decide) (none_kept _) rfl ⟨rn_sl encChoice_p rfl, rn_sl encChoice_p rfl, rn_int rfl, rn_int rfl, rn_int rfl, rn_bool rfl, rn_int rfl, rn_sl encChoice_p rfl, rn_int rfl, rn_elt (encChoice_p _) (congrArg encChoice rfl), rn_agg ⟨rn_int rfl, rn_int rfl, trivial⟩, rn_sl encChoice_p rfl, rn_int rfl, rn_elt (encChoice_p _) (congrArg encChoice rfl), rn_agg ⟨rn_int rfl, rn_int rfl, trivial⟩, rn_bool rfl, trivial⟩ (rw_nil))
        · refine RO.op rfl rfl (o_load_elt rfl (loadRowA Ty.k36 Ty.c36 rfl (cs := [.int .i64 x5.Node, .int .i64 x5.Lane]) rfl ?_))
          refine RA.a1 (i1 := 3) (l1 := #[true, true, true, true, true, true, true, true, false]) (by decide +kernel) (by decide +kernel) ?_
          refine RO.op rfl rfl (o_load_elt rfl (loadRowA Ty.k36 Ty.c36 rfl (cs := [.int .i64 x4.Node, .int .i64 x4.Lane]) rfl ?_))
          refine RA.t0 (i := 8) (li' := #[true, true, true, true, true, true, true, true, true]) rfl (by decide +kernel) (by decide +kernel) (by decide +kernel) (by decide +kernel) rfl rfl (v_gneq (cs := [.int .i64 x4.Node, .int .i64 x4.Lane]) (ds := [.int .i64 x5.Node, .int .i64 x5.Lane]) (r := x4 == x5) Ty.q36 rfl rfl rfl rfl (encChoice_eq x4 x5) ?_)
          exact RA.weakR hS14 (Weak.mkN [] [] (by decide) (none_kept _) rfl ⟨rn_sl encChoice_p rfl, rn_sl encChoice_p rfl, rn_int rfl, rn_int rfl, rn_int rfl, rn_bool rfl, rn_int rfl, rn_sl encChoice_p rfl, rn_int rfl, rn_elt (encChoice_p _) (congrArg encChoice rfl), rn_agg ⟨rn_int rfl, rn_int rfl, trivial⟩, rn_sl encChoice_p rfl, rn_int rfl, rn_elt (encChoice_p _) (congrArg encChoice rfl), rn_agg ⟨rn_int rfl, rn_int rfl, trivial⟩, rn_bool rfl, trivial⟩ (rw_nil))
    · replace h := ite_F h hb_13
      refine T.exit ?_
      obtain ⟨w_18, h, hw_18⟩ := map_inr h
      replace h := h.trans (congrArg some (hv_12 _ hw_18))
      refine T.seq ?_
      refine T.region ?_
      refine RS.op rfl (OP.q rfl (v_assign (v := .bool true) rfl ?_))
      refine RS.nil ?_
      refine T.ret' (R := ?R19) ?hq19 ?_
      case hq19 => repeat (first | exact RetIs.base | refine RetIs.thn ?_ | refine RetIs.blk ?_ | refine RetIs.lq ?_)
      refine res_tmpA (v := .bool true) rfl ?_
      refine res_done ?_
      exact ret_data (v := .bool true) rfl (pure_bool _) ⟨congrArg (fun r : Bool => (.bool r : AV)) (Option.some.inj h), rfl⟩
theorem crosslaw_logged_c (r : Bool) (h : crosslaw_logged = some r) : Fn Try.prog 17 [] (.bool r) := by
  unfold crosslaw_logged at h
  refine fn_of_T (N := 0) rfl Try.func17 rfl (by kernel_rfl) Try.ntmps17 rfl ?_
  show T _ _ _ _ (mkA 51 []) []
  refine T.seq ?_
  refine T.region ?_
  refine RS.op rfl (OP.q rfl (v_assign (v := .bool false) rfl ?_))
  refine RS.nil ?_
  refine T.seq ?_
  obtain ⟨x4, hx4, h⟩ := bind_some h
  refine T.region ?_
  refine RS.op rfl (OP.q rfl (v_build (cs := [.nils, .nils]) Ty.z25 Ty.p25 rfl ?_))
  refine RS.op rfl (OP.q rfl (v_build (cs := [.int .i64 2, .int .i64 1]) Ty.z36 Ty.p36 rfl ?_))
  refine RS.op rfl (o_buildSlice (rows := List.map encChoice [(⟨2, 1⟩ : Choice)]) (vs := [.agg [.int .i64 2, .int .i64 1]]) Ty.s26 Ty.z36 rfl rfl rfl rfl rfl (aw' := [.arr 36 2 (List.map encChoice [(⟨2, 1⟩ : Choice)])]) rfl ?_)
  refine RS.fz 0 rfl rfl (aw' := [.dead]) rfl ?_
  refine RS.op rfl (o_call (as0 := [.agg [.nils, .nils], .int .i64 3, .int .i64 0, .sl (List.map encChoice [(⟨2, 1⟩ : Choice)])]) (as1 := [.agg [.sl (List.map encS ((⟨[], []⟩ : Disk).Sectors)), .sl (List.map encWrite ((⟨[], []⟩ : Disk).Wait))], .int .i64 (3 : Int), .int .i64 (0 : Int), .sl (List.map encChoice ([(⟨2, 1⟩ : Choice)] : List Choice))]) (caps := []) (aw1 := [.dead]) rfl rfl rfl (k_fn (v := .tup [.agg [.sl (List.map encS x4.1.Sectors), .sl (List.map encWrite x4.1.Wait)], .int .i64 x4.2.1, .int .i64 x4.2.2]) (log_Append_c (⟨[], []⟩ : Disk) (3 : Int) (0 : Int) ([(⟨2, 1⟩ : Choice)] : List Choice) x4 hx4) (⟨pure_agg _ (pures_mem (⟨pure_map encS_p _, pure_map encWrite_p _, trivial⟩)), pure_int _ _, pure_int _ _, pure_map encChoice_p _, trivial⟩) (pure_tup _ (pures_mem (⟨pure_agg _ (pures_mem (⟨pure_map encS_p _, pure_map encWrite_p _, trivial⟩)), pure_int _ _, pure_int _ _, trivial⟩))) ?_))
  refine RS.op rfl (OP.q rfl (v_move (v := .tup [.agg [.sl (List.map encS x4.1.Sectors), .sl (List.map encWrite x4.1.Wait)], .int .i64 x4.2.1, .int .i64 x4.2.2]) rfl ?_))
  refine RS.op rfl (OP.q rfl (v_extract (v := .agg [.sl (List.map encS x4.1.Sectors), .sl (List.map encWrite x4.1.Wait)]) rfl rfl ?_))
  refine RS.op rfl (OP.q rfl (v_extract (v := .int .i64 x4.2.1) rfl rfl ?_))
  refine RS.op rfl (OP.q rfl (v_extract (v := .int .i64 x4.2.2) rfl rfl ?_))
  refine RS.op rfl (o_alloc Ty.z25 rfl (aw' := [.dead, .box [.nils, .nils]]) rfl ?_)
  refine RS.op rfl (o_store_ptr Ty.c25 Ty.i25 rfl (vs := [.sl (List.map encS x4.1.Sectors), .sl (List.map encWrite x4.1.Wait)]) rfl rfl rfl rfl (cs' := [.sl (List.map encS x4.1.Sectors), .sl (List.map encWrite x4.1.Wait)]) rfl (aw' := [.dead, .box [.sl (List.map encS x4.1.Sectors), .sl (List.map encWrite x4.1.Wait)]]) rfl ?_)
  refine RS.op rfl (OP.q rfl (v_assign (v := .int .i64 x4.2.1) rfl ?_))
  refine RS.op rfl (OP.q rfl (v_assign (v := .int .i64 x4.2.2) rfl ?_))
  refine RS.nil ?_
  refine T.seq ?_
  obtain ⟨x6, hx6, h⟩ := bind_some h
  refine T.region ?_
  refine RS.op rfl (o_load_ptr rfl rfl (loadRowA Ty.k25 Ty.c25 rfl (cs := [.sl (List.map encS x4.1.Sectors), .sl (List.map encWrite x4.1.Wait)]) rfl ?_))
  refine RS.op rfl (o_call (as0 := [.agg [.sl (List.map encS x4.1.Sectors), .sl (List.map encWrite x4.1.Wait)]]) (as1 := [.agg [.sl (List.map encS x4.1.Sectors), .sl (List.map encWrite x4.1.Wait)]]) (caps := []) (aw1 := [.dead, .box [.sl (List.map encS x4.1.Sectors), .sl (List.map encWrite x4.1.Wait)]]) rfl rfl rfl (k_fn (v := .tup [.agg [.sl (List.map encS x6.1.Sectors), .sl (List.map encWrite x6.1.Wait)], .int .i64 x6.2]) (disk_Flush_c x4.1 x6 hx6) (⟨pure_agg _ (pures_mem (⟨pure_map encS_p _, pure_map encWrite_p _, trivial⟩)), trivial⟩) (pure_tup _ (pures_mem (⟨pure_agg _ (pures_mem (⟨pure_map encS_p _, pure_map encWrite_p _, trivial⟩)), pure_int _ _, trivial⟩))) ?_))
  refine RS.op rfl (OP.q rfl (v_move (v := .tup [.agg [.sl (List.map encS x6.1.Sectors), .sl (List.map encWrite x6.1.Wait)], .int .i64 x6.2]) rfl ?_))
  refine RS.op rfl (OP.q rfl (v_extract (v := .agg [.sl (List.map encS x6.1.Sectors), .sl (List.map encWrite x6.1.Wait)]) rfl rfl ?_))
  refine RS.op rfl (OP.q rfl (v_extract (v := .int .i64 x6.2) rfl rfl ?_))
  refine RS.op rfl (o_store_ptr Ty.c25 Ty.i25 rfl (vs := [.sl (List.map encS x6.1.Sectors), .sl (List.map encWrite x6.1.Wait)]) rfl rfl rfl rfl (cs' := [.sl (List.map encS x6.1.Sectors), .sl (List.map encWrite x6.1.Wait)]) rfl (aw' := [.dead, .box [.sl (List.map encS x6.1.Sectors), .sl (List.map encWrite x6.1.Wait)]]) rfl ?_)
  refine RS.op rfl (OP.q rfl (v_assign (v := .int .i64 x6.2) rfl ?_))
  refine RS.nil ?_
  refine T.seq ?_
  obtain ⟨x8, hx8, h⟩ := bind_some h
  refine T.region ?_
  refine RS.op rfl (o_load_ptr rfl rfl (loadRowA Ty.k25 Ty.c25 rfl (cs := [.sl (List.map encS x6.1.Sectors), .sl (List.map encWrite x6.1.Wait)]) rfl ?_))
  refine RS.op rfl (o_call (as0 := [.agg [.sl (List.map encS x6.1.Sectors), .sl (List.map encWrite x6.1.Wait)], .int .i64 3]) (as1 := [.agg [.sl (List.map encS x6.1.Sectors), .sl (List.map encWrite x6.1.Wait)], .int .i64 (3 : Int)]) (caps := []) (aw1 := [.dead, .box [.sl (List.map encS x6.1.Sectors), .sl (List.map encWrite x6.1.Wait)]]) rfl rfl rfl (k_own' (v := .tup [.ref 0, .int .i64 x8.2.1, .int .i64 x8.2.2]) (obs := [.arr 36 2 (List.map encChoice x8.1)]) (v' := .tup [.ref 2, .int .i64 x8.2.1, .int .i64 x8.2.2]) (aw' := [.dead, .box [.sl (List.map encS x6.1.Sectors), .sl (List.map encWrite x6.1.Wait)], .arr 36 2 (List.map encChoice x8.1)]) (log_Scan_c x6.1 (3 : Int) x8 hx8) (⟨pure_agg _ (pures_mem (⟨pure_map encS_p _, pure_map encWrite_p _, trivial⟩)), pure_int _ _, trivial⟩) rfl (obs_cons (flatOb_map fun _ => rfl) obs_nil) rfl rfl ?_))
  refine RS.op rfl (OP.q rfl (v_move (v := .tup [.ref 2, .int .i64 x8.2.1, .int .i64 x8.2.2]) rfl ?_))
  refine RS.op rfl (OP.q rfl (v_extract (v := .ref 2) rfl rfl ?_))
  refine RS.op rfl (OP.q rfl (v_extract (v := .int .i64 x8.2.1) rfl rfl ?_))
  refine RS.op rfl (OP.q rfl (v_extract (v := .int .i64 x8.2.2) rfl rfl ?_))
  refine RS.op rfl (OP.q rfl (v_assign (v := .ref 2) rfl ?_))
  refine RS.op rfl (OP.q rfl (v_assign (v := .int .i64 x8.2.1) rfl ?_))
  refine RS.op rfl (OP.q rfl (v_assign (v := .int .i64 x8.2.2) rfl ?_))
  refine RS.nil ?_
  obtain ⟨zt_6, hz, h⟩ := bind_some h
  revert hz h; revert zt_6; intro c10 hz h
  refine T.join (Z := Unit) (fun _ => mkA 51 [(0, .bool c10)]) (fun _ => []) (fun _ => True) (fun _ _ => ?_) (fun hK => ?_)
  · show T _ _ _ _ (mkA 51 [(0, .bool c10)]) []
    refine T.ret' (R := ?R7) ?hq7 ?_
    case hq7 => repeat (first | exact RetIs.base | refine RetIs.thn ?_ | refine RetIs.blk ?_ | refine RetIs.lq ?_)
    refine res_tmpA (v := .bool c10) rfl ?_
    refine res_done ?_
    exact ret_data (v := .bool c10) rfl (pure_bool _) ⟨congrArg (fun r : Bool => (.bool r : AV)) (Option.some.inj h), rfl⟩
  · rcases bool_cases (x4.2.2 == 0) with hb_1 | hb_1
    · replace hz := ite_T hz hb_1
      rcases bool_cases (x6.2 == 0) with hb_2 | hb_2
      · replace hz := ite_T hz hb_2
        rcases bool_cases (x8.2.2 == 0) with hb_3 | hb_3
        · replace hz := ite_T hz hb_3
          rcases bool_cases (x4.2.1 == 1) with hb_4 | hb_4
          · replace hz := ite_T hz hb_4
            rcases bool_cases (x8.2.1 == 1) with hb_5 | hb_5
            · replace hz := ite_T hz hb_5
              obtain ⟨x9, hx9, hz⟩ := bind_some hz
              refine T.region ?_
              refine RS.op rfl (OP.q rfl (v_move (v := .int .i64 x4.2.2) rfl ?_))
              refine RS.op rfl (OP.q rfl (v_eql rfl rfl ?_))
              refine RS.op rfl (OP.q rfl (v_move (v := .bool (x4.2.2 == 0)) rfl ?_))
              refine RS.yes rfl rfl rfl hb_1 (OP.q rfl (v_move (v := .int .i64 x6.2) rfl ?_))
              refine RS.yes rfl rfl rfl hb_1 (OP.q rfl (v_eql rfl rfl ?_))
              refine RS.op rfl (OP.q rfl (v_pickT (v := .bool (x6.2 == 0)) rfl hb_1 rfl ?_))
              refine RS.op rfl (OP.q rfl (v_move (v := .bool (x6.2 == 0)) rfl ?_))
              refine RS.yes rfl rfl rfl hb_2 (OP.q rfl (v_move (v := .int .i64 x8.2.2) rfl ?_))
              refine RS.yes rfl rfl rfl hb_2 (OP.q rfl (v_eql rfl rfl ?_))
              refine RS.op rfl (OP.q rfl (v_pickT (v := .bool (x8.2.2 == 0)) rfl hb_2 rfl ?_))
              refine RS.op rfl (OP.q rfl (v_move (v := .bool (x8.2.2 == 0)) rfl ?_))
              refine RS.yes rfl rfl rfl hb_3 (OP.q rfl (v_move (v := .int .i64 x4.2.1) rfl ?_))
              refine RS.yes rfl rfl rfl hb_3 (OP.q rfl (v_eql rfl rfl ?_))
              refine RS.op rfl (OP.q rfl (v_pickT (v := .bool (x4.2.1 == 1)) rfl hb_3 rfl ?_))
              refine RS.op rfl (OP.q rfl (v_move (v := .bool (x4.2.1 == 1)) rfl ?_))
              refine RS.yes rfl rfl rfl hb_4 (OP.q rfl (v_move (v := .int .i64 x8.2.1) rfl ?_))
              refine RS.yes rfl rfl rfl hb_4 (OP.q rfl (v_eql rfl rfl ?_))
              refine RS.op rfl (OP.q rfl (v_pickT (v := .bool (x8.2.1 == 1)) rfl hb_4 rfl ?_))
              refine RS.op rfl (OP.q rfl (v_move (v := .bool (x8.2.1 == 1)) rfl ?_))
              refine RS.yes rfl rfl rfl hb_5 (OP.q rfl (v_move (v := .ref 2) rfl ?_))
              refine RS.yes rfl rfl rfl hb_5 (OP.q rfl (v_build (cs := [.int .i64 2, .int .i64 1]) Ty.z36 Ty.p36 rfl ?_))
              refine RS.yes rfl rfl rfl hb_5 (o_buildSlice (rows := List.map encChoice [(⟨2, 1⟩ : Choice)]) (vs := [.agg [.int .i64 2, .int .i64 1]]) Ty.s26 Ty.z36 rfl rfl rfl rfl rfl (aw' := [.dead, .box [.sl (List.map encS x6.1.Sectors), .sl (List.map encWrite x6.1.Wait)], .arr 36 2 (List.map encChoice x8.1), .arr 36 2 (List.map encChoice [(⟨2, 1⟩ : Choice)])]) rfl ?_)
              refine RS.yes rfl rfl rfl hb_5 (o_call (as0 := [.ref 2, .ref 3]) (as1 := [.sl (List.map encChoice x8.1), .sl (List.map encChoice ([(⟨2, 1⟩ : Choice)] : List Choice))]) (caps := []) (aw1 := [.dead, .box [.sl (List.map encS x6.1.Sectors), .sl (List.map encWrite x6.1.Wait)], .dead, .dead]) rfl rfl rfl (k_flat (v := .bool x9) (slices_Equal_Choice_c x8.1 ([(⟨2, 1⟩ : Choice)] : List Choice) x9 hx9) (⟨pure_map encChoice_p _, pure_map encChoice_p _, trivial⟩) rfl ?_))
              refine RS.op rfl (OP.q rfl (v_pickT (v := .bool x9) rfl hb_5 rfl ?_))
              refine RS.op rfl (OP.q rfl (v_assign (v := .bool x9) rfl ?_))
              refine RS.nil ?_
              exact T.weakR (hK () trivial) (Weak.mkN [] [] (by decide) (none_kept _) rfl ⟨rn_bool ((congrArg (fun p => p) (Option.some.inj hz)).symm), trivial⟩ (rw_nil))
            · replace hz := ite_F hz hb_5
              refine T.region ?_
              refine RS.op rfl (OP.q rfl (v_move (v := .int .i64 x4.2.2) rfl ?_))
              refine RS.op rfl (OP.q rfl (v_eql rfl rfl ?_))
              refine RS.op rfl (OP.q rfl (v_move (v := .bool (x4.2.2 == 0)) rfl ?_))
              refine RS.yes rfl rfl rfl hb_1 (OP.q rfl (v_move (v := .int .i64 x6.2) rfl ?_))
              refine RS.yes rfl rfl rfl hb_1 (OP.q rfl (v_eql rfl rfl ?_))
              refine RS.op rfl (OP.q rfl (v_pickT (v := .bool (x6.2 == 0)) rfl hb_1 rfl ?_))
              refine RS.op rfl (OP.q rfl (v_move (v := .bool (x6.2 == 0)) rfl ?_))
              refine RS.yes rfl rfl rfl hb_2 (OP.q rfl (v_move (v := .int .i64 x8.2.2) rfl ?_))
              refine RS.yes rfl rfl rfl hb_2 (OP.q rfl (v_eql rfl rfl ?_))
              refine RS.op rfl (OP.q rfl (v_pickT (v := .bool (x8.2.2 == 0)) rfl hb_2 rfl ?_))
              refine RS.op rfl (OP.q rfl (v_move (v := .bool (x8.2.2 == 0)) rfl ?_))
              refine RS.yes rfl rfl rfl hb_3 (OP.q rfl (v_move (v := .int .i64 x4.2.1) rfl ?_))
              refine RS.yes rfl rfl rfl hb_3 (OP.q rfl (v_eql rfl rfl ?_))
              refine RS.op rfl (OP.q rfl (v_pickT (v := .bool (x4.2.1 == 1)) rfl hb_3 rfl ?_))
              refine RS.op rfl (OP.q rfl (v_move (v := .bool (x4.2.1 == 1)) rfl ?_))
              refine RS.yes rfl rfl rfl hb_4 (OP.q rfl (v_move (v := .int .i64 x8.2.1) rfl ?_))
              refine RS.yes rfl rfl rfl hb_4 (OP.q rfl (v_eql rfl rfl ?_))
              refine RS.op rfl (OP.q rfl (v_pickT (v := .bool (x8.2.1 == 1)) rfl hb_4 rfl ?_))
              refine RS.op rfl (OP.q rfl (v_move (v := .bool (x8.2.1 == 1)) rfl ?_))
              refine RS.no rfl rfl rfl hb_5 ?_
              refine RS.no rfl rfl rfl hb_5 ?_
              refine RS.no rfl rfl rfl hb_5 ?_
              refine RS.no rfl rfl rfl hb_5 ?_
              refine RS.op rfl (OP.q rfl (v_pickF (v := .bool false) rfl hb_5 rfl ?_))
              refine RS.op rfl (OP.q rfl (v_assign (v := .bool false) rfl ?_))
              refine RS.nil ?_
              exact T.weakR (hK () trivial) (Weak.mkN [] [] (by decide) (none_kept _) rfl ⟨rn_bool ((congrArg (fun p => p) (Option.some.inj hz)).symm), trivial⟩ (rw_nil))
          · replace hz := ite_F hz hb_4
            refine T.region ?_
            refine RS.op rfl (OP.q rfl (v_move (v := .int .i64 x4.2.2) rfl ?_))
            refine RS.op rfl (OP.q rfl (v_eql rfl rfl ?_))
            refine RS.op rfl (OP.q rfl (v_move (v := .bool (x4.2.2 == 0)) rfl ?_))
            refine RS.yes rfl rfl rfl hb_1 (OP.q rfl (v_move (v := .int .i64 x6.2) rfl ?_))
            refine RS.yes rfl rfl rfl hb_1 (OP.q rfl (v_eql rfl rfl ?_))
            refine RS.op rfl (OP.q rfl (v_pickT (v := .bool (x6.2 == 0)) rfl hb_1 rfl ?_))
            refine RS.op rfl (OP.q rfl (v_move (v := .bool (x6.2 == 0)) rfl ?_))
            refine RS.yes rfl rfl rfl hb_2 (OP.q rfl (v_move (v := .int .i64 x8.2.2) rfl ?_))
            refine RS.yes rfl rfl rfl hb_2 (OP.q rfl (v_eql rfl rfl ?_))
            refine RS.op rfl (OP.q rfl (v_pickT (v := .bool (x8.2.2 == 0)) rfl hb_2 rfl ?_))
            refine RS.op rfl (OP.q rfl (v_move (v := .bool (x8.2.2 == 0)) rfl ?_))
            refine RS.yes rfl rfl rfl hb_3 (OP.q rfl (v_move (v := .int .i64 x4.2.1) rfl ?_))
            refine RS.yes rfl rfl rfl hb_3 (OP.q rfl (v_eql rfl rfl ?_))
            refine RS.op rfl (OP.q rfl (v_pickT (v := .bool (x4.2.1 == 1)) rfl hb_3 rfl ?_))
            refine RS.op rfl (OP.q rfl (v_move (v := .bool (x4.2.1 == 1)) rfl ?_))
            refine RS.no rfl rfl rfl hb_4 ?_
            refine RS.no rfl rfl rfl hb_4 ?_
            refine RS.op rfl (OP.q rfl (v_pickF (v := .bool false) rfl hb_4 rfl ?_))
            refine RS.op rfl (OP.q rfl (v_move (v := .bool false) rfl ?_))
            refine RS.no rfl rfl rfl rfl ?_
            refine RS.no rfl rfl rfl rfl ?_
            refine RS.no rfl rfl rfl rfl ?_
            refine RS.no rfl rfl rfl rfl ?_
            refine RS.op rfl (OP.q rfl (v_pickF (v := .bool false) rfl rfl rfl ?_))
            refine RS.op rfl (OP.q rfl (v_assign (v := .bool false) rfl ?_))
            refine RS.nil ?_
            exact T.weakR (hK () trivial) (Weak.mkN [] [] (by decide) (none_kept _) rfl ⟨rn_bool ((congrArg (fun p => p) (Option.some.inj hz)).symm), trivial⟩ (rw_nil))
        · replace hz := ite_F hz hb_3
          refine T.region ?_
          refine RS.op rfl (OP.q rfl (v_move (v := .int .i64 x4.2.2) rfl ?_))
          refine RS.op rfl (OP.q rfl (v_eql rfl rfl ?_))
          refine RS.op rfl (OP.q rfl (v_move (v := .bool (x4.2.2 == 0)) rfl ?_))
          refine RS.yes rfl rfl rfl hb_1 (OP.q rfl (v_move (v := .int .i64 x6.2) rfl ?_))
          refine RS.yes rfl rfl rfl hb_1 (OP.q rfl (v_eql rfl rfl ?_))
          refine RS.op rfl (OP.q rfl (v_pickT (v := .bool (x6.2 == 0)) rfl hb_1 rfl ?_))
          refine RS.op rfl (OP.q rfl (v_move (v := .bool (x6.2 == 0)) rfl ?_))
          refine RS.yes rfl rfl rfl hb_2 (OP.q rfl (v_move (v := .int .i64 x8.2.2) rfl ?_))
          refine RS.yes rfl rfl rfl hb_2 (OP.q rfl (v_eql rfl rfl ?_))
          refine RS.op rfl (OP.q rfl (v_pickT (v := .bool (x8.2.2 == 0)) rfl hb_2 rfl ?_))
          refine RS.op rfl (OP.q rfl (v_move (v := .bool (x8.2.2 == 0)) rfl ?_))
          refine RS.no rfl rfl rfl hb_3 ?_
          refine RS.no rfl rfl rfl hb_3 ?_
          refine RS.op rfl (OP.q rfl (v_pickF (v := .bool false) rfl hb_3 rfl ?_))
          refine RS.op rfl (OP.q rfl (v_move (v := .bool false) rfl ?_))
          refine RS.no rfl rfl rfl rfl ?_
          refine RS.no rfl rfl rfl rfl ?_
          refine RS.op rfl (OP.q rfl (v_pickF (v := .bool false) rfl rfl rfl ?_))
          refine RS.op rfl (OP.q rfl (v_move (v := .bool false) rfl ?_))
          refine RS.no rfl rfl rfl rfl ?_
          refine RS.no rfl rfl rfl rfl ?_
          refine RS.no rfl rfl rfl rfl ?_
          refine RS.no rfl rfl rfl rfl ?_
          refine RS.op rfl (OP.q rfl (v_pickF (v := .bool false) rfl rfl rfl ?_))
          refine RS.op rfl (OP.q rfl (v_assign (v := .bool false) rfl ?_))
          refine RS.nil ?_
          exact T.weakR (hK () trivial) (Weak.mkN [] [] (by decide) (none_kept _) rfl ⟨rn_bool ((congrArg (fun p => p) (Option.some.inj hz)).symm), trivial⟩ (rw_nil))
      · replace hz := ite_F hz hb_2
        refine T.region ?_
        refine RS.op rfl (OP.q rfl (v_move (v := .int .i64 x4.2.2) rfl ?_))
        refine RS.op rfl (OP.q rfl (v_eql rfl rfl ?_))
        refine RS.op rfl (OP.q rfl (v_move (v := .bool (x4.2.2 == 0)) rfl ?_))
        refine RS.yes rfl rfl rfl hb_1 (OP.q rfl (v_move (v := .int .i64 x6.2) rfl ?_))
        refine RS.yes rfl rfl rfl hb_1 (OP.q rfl (v_eql rfl rfl ?_))
        refine RS.op rfl (OP.q rfl (v_pickT (v := .bool (x6.2 == 0)) rfl hb_1 rfl ?_))
        refine RS.op rfl (OP.q rfl (v_move (v := .bool (x6.2 == 0)) rfl ?_))
        refine RS.no rfl rfl rfl hb_2 ?_
        refine RS.no rfl rfl rfl hb_2 ?_
        refine RS.op rfl (OP.q rfl (v_pickF (v := .bool false) rfl hb_2 rfl ?_))
        refine RS.op rfl (OP.q rfl (v_move (v := .bool false) rfl ?_))
        refine RS.no rfl rfl rfl rfl ?_
        refine RS.no rfl rfl rfl rfl ?_
        refine RS.op rfl (OP.q rfl (v_pickF (v := .bool false) rfl rfl rfl ?_))
        refine RS.op rfl (OP.q rfl (v_move (v := .bool false) rfl ?_))
        refine RS.no rfl rfl rfl rfl ?_
        refine RS.no rfl rfl rfl rfl ?_
        refine RS.op rfl (OP.q rfl (v_pickF (v := .bool false) rfl rfl rfl ?_))
        refine RS.op rfl (OP.q rfl (v_move (v := .bool false) rfl ?_))
        refine RS.no rfl rfl rfl rfl ?_
        refine RS.no rfl rfl rfl rfl ?_
        refine RS.no rfl rfl rfl rfl ?_
        refine RS.no rfl rfl rfl rfl ?_
        refine RS.op rfl (OP.q rfl (v_pickF (v := .bool false) rfl rfl rfl ?_))
        refine RS.op rfl (OP.q rfl (v_assign (v := .bool false) rfl ?_))
        refine RS.nil ?_
        exact T.weakR (hK () trivial) (Weak.mkN [] [] (by decide) (none_kept _) rfl ⟨rn_bool ((congrArg (fun p => p) (Option.some.inj hz)).symm), trivial⟩ (rw_nil))
    · replace hz := ite_F hz hb_1
      refine T.region ?_
      refine RS.op rfl (OP.q rfl (v_move (v := .int .i64 x4.2.2) rfl ?_))
      refine RS.op rfl (OP.q rfl (v_eql rfl rfl ?_))
      refine RS.op rfl (OP.q rfl (v_move (v := .bool (x4.2.2 == 0)) rfl ?_))
      refine RS.no rfl rfl rfl hb_1 ?_
      refine RS.no rfl rfl rfl hb_1 ?_
      refine RS.op rfl (OP.q rfl (v_pickF (v := .bool false) rfl hb_1 rfl ?_))
      refine RS.op rfl (OP.q rfl (v_move (v := .bool false) rfl ?_))
      refine RS.no rfl rfl rfl rfl ?_
      refine RS.no rfl rfl rfl rfl ?_
      refine RS.op rfl (OP.q rfl (v_pickF (v := .bool false) rfl rfl rfl ?_))
      refine RS.op rfl (OP.q rfl (v_move (v := .bool false) rfl ?_))
      refine RS.no rfl rfl rfl rfl ?_
      refine RS.no rfl rfl rfl rfl ?_
      refine RS.op rfl (OP.q rfl (v_pickF (v := .bool false) rfl rfl rfl ?_))
      refine RS.op rfl (OP.q rfl (v_move (v := .bool false) rfl ?_))
      refine RS.no rfl rfl rfl rfl ?_
      refine RS.no rfl rfl rfl rfl ?_
      refine RS.op rfl (OP.q rfl (v_pickF (v := .bool false) rfl rfl rfl ?_))
      refine RS.op rfl (OP.q rfl (v_move (v := .bool false) rfl ?_))
      refine RS.no rfl rfl rfl rfl ?_
      refine RS.no rfl rfl rfl rfl ?_
      refine RS.no rfl rfl rfl rfl ?_
      refine RS.no rfl rfl rfl rfl ?_
      refine RS.op rfl (OP.q rfl (v_pickF (v := .bool false) rfl rfl rfl ?_))
      refine RS.op rfl (OP.q rfl (v_assign (v := .bool false) rfl ?_))
      refine RS.nil ?_
      exact T.weakR (hK () trivial) (Weak.mkN [] [] (by decide) (none_kept _) rfl ⟨rn_bool ((congrArg (fun p => p) (Option.some.inj hz)).symm), trivial⟩ (rw_nil))
theorem crossref_At_c (p0 : Int) (p1 : Int) (r : Int) (h : crossref_At p0 p1 = some r) : Fn Try.prog 26 [.int .i64 p0, .int .i64 p1] (.int .i64 r) := by
  unfold crossref_At at h
  refine fn_of_T (N := 0) rfl Try.func26 rfl (by kernel_rfl) Try.ntmps26 rfl ?_
  show T _ _ _ _ (mkA 14 [(0, .int .i64 p0), (1, .int .i64 p1)]) []
  refine T.seq ?_
  refine T.region ?_
  refine RS.op rfl (OP.q rfl (v_assign (v := .int .i64 0) rfl ?_))
  refine RS.nil ?_
  refine T.seq ?_
  obtain ⟨x2, hx2, h⟩ := bind_some h
  refine T.region ?_
  refine RS.op rfl (OP.q rfl (v_move (v := .int .i64 p0) rfl ?_))
  refine RS.op rfl (OP.q rfl (v_move (v := .int .i64 p1) rfl ?_))
  refine RS.op rfl (OP.q rfl (v_rem rfl rfl hx2 ?_))
  refine RS.op rfl (OP.q rfl (v_assign (v := .int .i64 x2) rfl ?_))
  refine RS.nil ?_
  refine T.seq ?_
  refine T.seq ?_
  refine T.region ?_
  refine RS.op rfl (OP.q rfl (v_move (v := .int .i64 x2) rfl ?_))
  refine RS.op rfl (OP.q rfl (v_lss rfl rfl ?_))
  refine RS.nil ?_
  refine T.cond (b := decide (x2 < 0)) rfl (fun hb_1 => ?_) (fun hb_1 => ?_)
  · replace h := ite_T h hb_1
    refine T.region ?_
    refine RS.op rfl (OP.q rfl (v_move (v := .int .i64 x2) rfl ?_))
    refine RS.op rfl (OP.q rfl (v_move (v := .int .i64 p1) rfl ?_))
    refine RS.op rfl (OP.q rfl (v_add rfl rfl ?_))
    refine RS.op rfl (OP.q rfl (v_assign (v := .int .i64 (IntKind.i64.wrap (x2 + p1))) rfl ?_))
    refine RS.nil ?_
    refine T.seq ?_
    refine T.region ?_
    refine RS.op rfl (OP.q rfl (v_move (v := .int .i64 (IntKind.i64.wrap (x2 + p1))) rfl ?_))
    refine RS.op rfl (OP.q rfl (v_assign (v := .int .i64 (IntKind.i64.wrap (x2 + p1))) rfl ?_))
    refine RS.nil ?_
    refine T.ret' (R := ?R2) ?hq2 ?_
    case hq2 => repeat (first | exact RetIs.base | refine RetIs.thn ?_ | refine RetIs.blk ?_ | refine RetIs.lq ?_)
    refine res_tmpA (v := .int .i64 (IntKind.i64.wrap (x2 + p1))) rfl ?_
    refine res_done ?_
    exact ret_data (v := .int .i64 (IntKind.i64.wrap (x2 + p1))) rfl (pure_int _ _) ⟨congrArg (fun r : Int => (.int .i64 r : AV)) (Option.some.inj h), rfl⟩
  · replace h := ite_F h hb_1
    refine T.skip ?_
    refine T.seq ?_
    refine T.region ?_
    refine RS.op rfl (OP.q rfl (v_move (v := .int .i64 x2) rfl ?_))
    refine RS.op rfl (OP.q rfl (v_assign (v := .int .i64 x2) rfl ?_))
    refine RS.nil ?_
    refine T.ret' (R := ?R3) ?hq3 ?_
    case hq3 => repeat (first | exact RetIs.base | refine RetIs.thn ?_ | refine RetIs.blk ?_ | refine RetIs.lq ?_)
    refine res_tmpA (v := .int .i64 x2) rfl ?_
    refine res_done ?_
    exact ret_data (v := .int .i64 x2) rfl (pure_int _ _) ⟨congrArg (fun r : Int => (.int .i64 r : AV)) (Option.some.inj h), rfl⟩
theorem slices_Grow_Choice_x0013_c (p0 : Int) (r : List Choice) (h : slices_Grow_Choice_x0013 p0 = some r) : FnO Try.prog 75 [.nils, .int .i64 p0] (.ref 0) [.arr 36 2 (List.map encChoice r)] := by
  unfold slices_Grow_Choice_x0013 at h
  refine fn_of_T (N := 0) rfl Try.func75 rfl (by kernel_rfl) Try.ntmps75 rfl ?_
  show T _ _ _ _ (mkA 27 [(0, .nils), (1, .int .i64 p0)]) []
  refine T.seq ?_
  refine T.region ?_
  refine RS.op rfl (OP.q rfl (v_assign (v := .nils) rfl ?_))
  refine RS.nil ?_
  refine T.seq ?_
  refine T.seq ?_
  refine T.region ?_
  refine RS.op rfl (OP.q rfl (v_move (v := .int .i64 p0) rfl ?_))
  refine RS.op rfl (OP.q rfl (v_lss rfl rfl ?_))
  refine RS.nil ?_
  refine T.cond (b := decide (p0 < 0)) rfl (fun hb_1 => ?_) (fun hb_1 => ?_)
  · replace h := ite_T h hb_1
    cases h
  · replace h := ite_F h hb_1
    refine T.skip ?_
    refine T.seq ?_
    refine T.seq ?_
    refine T.region ?_
    refine RS.op rfl (OP.q rfl (v_move (v := .int .i64 p0) rfl ?_))
    refine RS.op rfl (OP.q rfl (v_move (v := .nils) rfl ?_))
    refine RS.op rfl (o_cap_nil Ty.s26 rfl ?_)
    refine RS.op rfl (OP.q rfl (v_move (v := .nils) rfl ?_))
    refine RS.op rfl (OP.q rfl (v_len_nil Ty.s26 rfl ?_))
    refine RS.op rfl (OP.q rfl (v_sub rfl rfl ?_))
    refine RS.op rfl (OP.q rfl (v_sub rfl rfl ?_))
    refine RS.op rfl (OP.q rfl (v_assign (v := .int .i64 (IntKind.i64.wrap (p0 - (IntKind.i64.wrap (0 - 0))))) rfl ?_))
    refine RS.nil ?_
    refine T.seq ?_
    refine T.region ?_
    refine RS.op rfl (OP.q rfl (v_move (v := .int .i64 (IntKind.i64.wrap (p0 - (IntKind.i64.wrap (0 - 0))))) rfl ?_))
    refine RS.op rfl (OP.q rfl (v_gtr rfl rfl ?_))
    refine RS.nil ?_
    refine T.cond (b := decide ((IntKind.i64.wrap (p0 - (IntKind.i64.wrap (0 - 0)))) > 0)) rfl (fun hb_2 => ?_) (fun hb_2 => ?_)
    · replace h := ite_T h hb_2
      obtain ⟨x1, hx1, h⟩ := bind_some h
      obtain ⟨x2, hx2, h⟩ := bind_some h
      refine T.region ?_
      refine RS.op rfl (OP.q rfl (v_move (v := .nils) rfl ?_))
      refine RS.op rfl (OP.q rfl (v_move (v := .nils) rfl ?_))
      refine RS.op rfl (o_cap_nil Ty.s26 rfl ?_)
      refine RS.op rfl (o_slice_nil0 Ty.s26 rfl rfl ?_)
      refine RS.op rfl (OP.q rfl (v_move (v := .int .i64 (IntKind.i64.wrap (p0 - (IntKind.i64.wrap (0 - 0))))) rfl ?_))
      refine RS.op rfl (o_app_zn (en := encChoice) (z0 := (⟨0, 0⟩ : Choice)) Ty.s26 Try.underlying3 Ty.z36 (fun _ => rfl) rfl rfl hx1 rfl (aw' := [.arr 36 2 (List.map encChoice x1)]) rfl ?_)
      refine RS.op rfl (OP.q rfl (v_move (v := .nils) rfl ?_))
      refine RS.op rfl (OP.q rfl (v_len_nil Ty.s26 rfl ?_))
      refine RS.op rfl (o_slice_own (en := encChoice) (xs := x1) Ty.s26 rfl rfl rfl hx2 rfl (aw' := [.dead, .arr 36 2 (List.map encChoice x2)]) rfl ?_)
      refine RS.op rfl (OP.q rfl (v_assign (v := .ref 1) rfl ?_))
      refine RS.nil ?_
      refine T.seq ?_
      refine T.region ?_
      refine RS.op rfl (OP.q rfl (v_move (v := .ref 1) rfl ?_))
      refine RS.op rfl (OP.q rfl (v_assign (v := .ref 1) rfl ?_))
      refine RS.nil ?_
      refine T.ret' (R := ?R3) ?hq3 ?_
      case hq3 => repeat (first | exact RetIs.base | refine RetIs.thn ?_ | refine RetIs.blk ?_ | refine RetIs.lq ?_)
      refine res_tmpA (v := .ref 1) rfl ?_
      refine res_done ?_
      exact ret_own (.ref 0) [] [1] (by decide) (none_kept _) rfl (rn_ref rfl) (rw_arr rfl encChoice_p (congrArg (fun r : List Choice => r) (Option.some.inj h)).symm (rw_nil)) ⟨rfl, rfl⟩
    · replace h := ite_F h hb_2
      refine T.skip ?_
      refine T.seq ?_
      refine T.region ?_
      refine RS.op rfl (OP.q rfl (v_move (v := .nils) rfl ?_))
      refine RS.op rfl (OP.q rfl (v_assign (v := .nils) rfl ?_))
      refine RS.nil ?_
      refine T.ret' (R := ?R4) ?hq4 ?_
      case hq4 => repeat (first | exact RetIs.base | refine RetIs.thn ?_ | refine RetIs.blk ?_ | refine RetIs.lq ?_)
      refine res_tmpA (v := .nils) rfl ?_
      refine res_done ?_
      exact ret_own (.ref 0) [(0, 36, 2)] [0] (by decide) (none_kept _) rfl (rn_ref rfl) (rw_arr (en := encChoice) (ys := []) rfl encChoice_p (congrArg (fun r : List Choice => r) (Option.some.inj h)).symm (rw_nil)) ⟨rfl, rfl⟩
theorem slices_Concat_Choice_c (p0 : List (List Choice)) (r : List Choice) (h : slices_Concat_Choice p0 = some r) : FnO Try.prog 38 [.sl (List.map (encL encChoice) p0)] (.ref 0) [.arr 36 2 (List.map encChoice r)] := by
  unfold slices_Concat_Choice at h
  refine fn_of_T (N := 0) rfl Try.func38 rfl (by kernel_rfl) Try.ntmps38 rfl ?_
  show T _ _ _ _ (mkA 36 [(0, .sl (List.map (encL encChoice) p0))]) []
  refine T.seq ?_
  refine T.region ?_
  refine RS.op rfl (OP.q rfl (v_assign (v := .nils) rfl ?_))
  refine RS.nil ?_
  refine T.seq ?_
  refine T.region ?_
  refine RS.op rfl (OP.q rfl (v_assign (v := .int .i64 0) rfl ?_))
  refine RS.nil ?_
  refine T.seq ?_
  refine T.seq ?_
  refine T.region ?_
  refine RS.op rfl (OP.q rfl (v_move (v := .sl (List.map (encL encChoice) p0)) rfl ?_))
  refine RS.op rfl (OP.q rfl (v_len_sl Ty.s49 rfl ?_))
  refine RS.op rfl (OP.q rfl (v_move (v := .int .i64 0) rfl ?_))
  refine RS.nil ?_
  refine T.block ?_
  refine T.iter (fun ss_5 : Int × Int => mkA 36 [(0, .sl (List.map (encL encChoice) p0)), (3, .int .i64 ss_5.1), (9, .sl (List.map (encL encChoice) p0)), (10, .int .i64 ((p0).length : Int)), (11, .int .i64 ss_5.2)]) (fun ss_5 => []) h (Weak.mkN [] [] (by decide) (none_kept _) rfl ⟨rn_sl (encL_p encChoice_p) rfl, rn_int rfl, rn_sl (encL_p encChoice_p) rfl, rn_int rfl, rn_int rfl, trivial⟩ (rw_nil)) (fun ss_5 v_6 h hv_6 => ?_)
  obtain ⟨s1, s2⟩ := ss_5
  replace h : slices_Concat_Choice_l2 p0 s1 s2 = some v_6 := h
  show T _ _ _ _ (mkA 36 [(0, .sl (List.map (encL encChoice) p0)), (3, .int .i64 s1), (9, .sl (List.map (encL encChoice) p0)), (10, .int .i64 ((p0).length : Int)), (11, .int .i64 s2)]) []
  unfold slices_Concat_Choice_l2 at h
  refine T.seq ?_
  refine T.region ?_
  refine RS.op rfl (OP.q rfl (v_lss rfl rfl ?_))
  refine RS.nil ?_
  refine T.seq ?_
  refine T.cond (b := decide (s2 < ((p0).length : Int))) rfl (fun hb_7 => ?_) (fun hb_7 => ?_)
  · replace h := ite_T h hb_7
    refine T.skip ?_
    refine T.seq ?_
    refine T.block ?_
    refine T.seq ?_
    obtain ⟨x4, hx4, h⟩ := bind_some h
    refine T.region ?_
    refine RS.op rfl (OP.q rfl (v_index_sl Ty.s49 (fun _ => rfl) rfl rfl hx4 ?_))
    refine RS.op rfl (o_load_elt rfl (loadRow1 Ty.k26 (c := .sl (List.map encChoice x4)) rfl ?_))
    refine RS.op rfl (OP.q rfl (v_assign (v := .sl (List.map encChoice x4)) rfl ?_))
    refine RS.nil ?_
    refine T.seq ?_
    refine T.region ?_
    refine RS.op rfl (OP.q rfl (v_move (v := .int .i64 s1) rfl ?_))
    refine RS.op rfl (OP.q rfl (v_move (v := .sl (List.map encChoice x4)) rfl ?_))
    refine RS.op rfl (OP.q rfl (v_len_sl Ty.s26 rfl ?_))
    refine RS.op rfl (OP.q rfl (v_add rfl rfl ?_))
    refine RS.op rfl (OP.q rfl (v_assign (v := .int .i64 (IntKind.i64.wrap (s1 + ((x4).length : Int)))) rfl ?_))
    refine RS.nil ?_
    refine T.seq ?_
    refine T.region ?_
    refine RS.op rfl (OP.q rfl (v_move (v := .int .i64 (IntKind.i64.wrap (s1 + ((x4).length : Int)))) rfl ?_))
    refine RS.op rfl (OP.q rfl (v_lss rfl rfl ?_))
    refine RS.nil ?_
    refine T.cond (b := decide ((IntKind.i64.wrap (s1 + ((x4).length : Int))) < 0)) rfl (fun hb_8 => ?_) (fun hb_8 => ?_)
    · replace h := ite_T h hb_8
      cases h
    · replace h := ite_F h hb_8
      refine T.skip ?_
      refine T.region ?_
      refine RS.op rfl (OP.q rfl (v_add rfl rfl ?_))
      refine RS.op rfl (OP.q rfl (v_move (v := .int .i64 (IntKind.i64.wrap (s2 + 1))) rfl ?_))
      refine RS.nil ?_
      exact ⟨(IntKind.i64.wrap (s1 + ((x4).length : Int)), IntKind.i64.wrap (s2 + 1)), (Option.some.inj h).symm, Weak.mkN [] [] (by decide) (none_kept _) rfl ⟨rn_sl (encL_p encChoice_p) rfl, rn_int rfl, rn_sl (encL_p encChoice_p) rfl, rn_int rfl, rn_int rfl, trivial⟩ (rw_nil)⟩
  · replace h := ite_F h hb_7
    refine T.exit ?_
    obtain ⟨w_9, h, hw_9⟩ := map_inr h
    replace h := h.trans (congrArg some (hv_6 _ hw_9))
    refine T.seq ?_
    obtain ⟨x6, hx6, h⟩ := bind_some h
    refine T.region ?_
    refine RS.op rfl (OP.q rfl (v_move (v := .int .i64 s1) rfl ?_))
    refine RS.op rfl (o_callF (ac := [.nils, .int .i64 s1]) (as0 := [.nils, .int .i64 s1]) (aw0 := []) (aw1 := [.arr 36 2 (List.map encChoice x6)]) (aw2 := [.arr 36 2 (List.map encChoice x6)]) (v := .ref 0) (v' := .ref 0) (n0 := 0) (n1 := 1) [] rfl rfl rfl rfl (by decide) (rw_nil) ⟨rn_same pure_nils, rn_int rfl, trivial⟩ (FnX.of_fnO (slices_Grow_Choice_x0013_c s1 x6 hx6)) rfl (rm_ref (by decide)) ⟨.inl ⟨0, _, by decide, rfl, rom_arr encChoice_p⟩, trivial⟩ ?_)
    refine RS.op rfl (OP.q rfl (v_assign (v := .ref 0) rfl ?_))
    refine RS.nil ?_
    refine T.seq ?_
    refine T.seq ?_
    refine T.region ?_
    refine RS.op rfl (OP.q rfl (v_move (v := .sl (List.map (encL encChoice) p0)) rfl ?_))
    refine RS.op rfl (OP.q rfl (v_len_sl Ty.s49 rfl ?_))
    refine RS.op rfl (OP.q rfl (v_move (v := .int .i64 0) rfl ?_))
    refine RS.nil ?_
    refine T.block ?_
    refine T.iter (fun ss_12 : Int × (List Choice) => mkA 36 [(6, .ref 0), (25, .sl (List.map (encL encChoice) p0)), (26, .int .i64 ((p0).length : Int)), (27, .int .i64 ss_12.1)]) (fun ss_12 => [.arr 36 2 (List.map encChoice ss_12.2)]) h (Weak.mkN [] [0] (by decide) (none_kept _) rfl ⟨rn_ref rfl, rn_sl (encL_p encChoice_p) rfl, rn_int rfl, rn_int rfl, trivial⟩ (rw_arr rfl encChoice_p rfl (rw_nil))) (fun ss_12 v_13 h hv_13 => ?_)
    obtain ⟨s7, s8⟩ := ss_12
    replace h : slices_Concat_Choice_l1 p0 s7 s8 = some v_13 := h
    show T _ _ _ _ (mkA 36 [(6, .ref 0), (25, .sl (List.map (encL encChoice) p0)), (26, .int .i64 ((p0).length : Int)), (27, .int .i64 s7)]) [.arr 36 2 (List.map encChoice s8)]
    unfold slices_Concat_Choice_l1 at h
    refine T.seq ?_
    refine T.region ?_
    refine RS.op rfl (OP.q rfl (v_lss rfl rfl ?_))
    refine RS.nil ?_
    refine T.seq ?_
    refine T.cond (b := decide (s7 < ((p0).length : Int))) rfl (fun hb_14 => ?_) (fun hb_14 => ?_)
    · replace h := ite_T h hb_14
      refine T.skip ?_
      refine T.seq ?_
      refine T.block ?_
      refine T.seq ?_
      obtain ⟨x10, hx10, h⟩ := bind_some h
      refine T.region ?_
      refine RS.op rfl (OP.q rfl (v_index_sl Ty.s49 (fun _ => rfl) rfl rfl hx10 ?_))
      refine RS.op rfl (o_load_elt rfl (loadRow1 Ty.k26 (c := .sl (List.map encChoice x10)) rfl ?_))
      refine RS.op rfl (OP.q rfl (v_assign (v := .sl (List.map encChoice x10)) rfl ?_))
      refine RS.nil ?_
      obtain ⟨x11, hx11, h⟩ := bind_some h
      refine T.region ?_
      refine RS.op rfl (OP.q rfl (v_move (v := .ref 0) rfl ?_))
      refine RS.op rfl (OP.q rfl (v_move (v := .sl (List.map encChoice x10)) rfl ?_))
      refine RS.op rfl (o_app_ref (en := encChoice) (xs := s8) (ys := x10) Ty.s26 (fun _ => rfl) rfl rfl rfl hx11 rfl (aw' := [.dead, .arr 36 2 (List.map encChoice x11)]) rfl ?_)
      refine RS.op rfl (OP.q rfl (v_assign (v := .ref 1) rfl ?_))
      refine RS.nil ?_
      refine T.region ?_
      refine RS.op rfl (OP.q rfl (v_add rfl rfl ?_))
      refine RS.op rfl (OP.q rfl (v_move (v := .int .i64 (IntKind.i64.wrap (s7 + 1))) rfl ?_))
      refine RS.nil ?_
      exact ⟨(IntKind.i64.wrap (s7 + 1), x11), (Option.some.inj h).symm, Weak.mkN [] [1] (by decide) (none_kept _) rfl ⟨rn_ref rfl, rn_sl (encL_p encChoice_p) rfl, rn_int rfl, rn_int rfl, trivial⟩ (rw_arr rfl encChoice_p rfl (rw_nil))⟩
    · replace h := ite_F h hb_14
      refine T.exit ?_
      obtain ⟨w_15, h, hw_15⟩ := map_inr h
      replace h := h.trans (congrArg some (hv_13 _ hw_15))
      refine T.seq ?_
      refine T.region ?_
      refine RS.op rfl (OP.q rfl (v_move (v := .ref 0) rfl ?_))
      refine RS.op rfl (OP.q rfl (v_assign (v := .ref 0) rfl ?_))
      refine RS.nil ?_
      refine T.ret' (R := ?R16) ?hq16 ?_
      case hq16 => repeat (first | exact RetIs.base | refine RetIs.thn ?_ | refine RetIs.blk ?_ | refine RetIs.lq ?_)
      refine res_tmpA (v := .ref 0) rfl ?_
      refine res_done ?_
      exact ret_own (.ref 0) [] [0] (by decide) (none_kept _) rfl (rn_ref rfl) (rw_arr rfl encChoice_p (congrArg (fun r : List Choice => r) (Option.some.inj h)).symm (rw_nil)) ⟨rfl, rfl⟩
theorem crosslaw_LogOn_c (p0 : List Choice) (p1 : List Choice) (p2 : Int) (p3 : Int) (r : Bool) (h : crosslaw_LogOn p0 p1 p2 p3 = some r) : Fn Try.prog 9 [.sl (List.map encChoice p0), .sl (List.map encChoice p1), .int .i64 p2, .int .i64 p3] (.bool r) := by
  unfold crosslaw_LogOn at h
  refine fn_of_T (N := 0) rfl Try.func9 rfl (by kernel_rfl) Try.ntmps9 rfl ?_
  show T _ _ _ _ (mkA 101 [(0, .sl (List.map encChoice p0)), (1, .sl (List.map encChoice p1)), (2, .int .i64 p2), (3, .int .i64 p3)]) []
  refine T.seq ?_
  refine T.region ?_
  refine RS.op rfl (OP.q rfl (v_assign (v := .bool false) rfl ?_))
  refine RS.nil ?_
  refine T.seq ?_
  obtain ⟨x2, hx2, h⟩ := bind_some h
  refine T.region ?_
  refine RS.op rfl (OP.q rfl (v_build (cs := [.nils, .nils]) Ty.z25 Ty.p25 rfl ?_))
  refine RS.op rfl (OP.q rfl (v_move (v := .int .i64 p2) rfl ?_))
  refine RS.op rfl (OP.q rfl (v_move (v := .sl (List.map encChoice p0)) rfl ?_))
  refine RS.op rfl (o_call (as0 := [.agg [.nils, .nils], .int .i64 p2, .int .i64 0, .sl (List.map encChoice p0)]) (as1 := [.agg [.sl (List.map encS ((⟨[], []⟩ : Disk).Sectors)), .sl (List.map encWrite ((⟨[], []⟩ : Disk).Wait))], .int .i64 p2, .int .i64 (0 : Int), .sl (List.map encChoice p0)]) (caps := []) (aw1 := []) rfl rfl rfl (k_fn (v := .tup [.agg [.sl (List.map encS x2.1.Sectors), .sl (List.map encWrite x2.1.Wait)], .int .i64 x2.2.1, .int .i64 x2.2.2]) (log_Append_c (⟨[], []⟩ : Disk) p2 (0 : Int) p0 x2 hx2) (⟨pure_agg _ (pures_mem (⟨pure_map encS_p _, pure_map encWrite_p _, trivial⟩)), pure_int _ _, pure_int _ _, pure_map encChoice_p _, trivial⟩) (pure_tup _ (pures_mem (⟨pure_agg _ (pures_mem (⟨pure_map encS_p _, pure_map encWrite_p _, trivial⟩)), pure_int _ _, pure_int _ _, trivial⟩))) ?_))
  refine RS.op rfl (OP.q rfl (v_move (v := .tup [.agg [.sl (List.map encS x2.1.Sectors), .sl (List.map encWrite x2.1.Wait)], .int .i64 x2.2.1, .int .i64 x2.2.2]) rfl ?_))
  refine RS.op rfl (OP.q rfl (v_extract (v := .agg [.sl (List.map encS x2.1.Sectors), .sl (List.map encWrite x2.1.Wait)]) rfl rfl ?_))
  refine RS.op rfl (OP.q rfl (v_extract (v := .int .i64 x2.2.1) rfl rfl ?_))
  refine RS.op rfl (OP.q rfl (v_extract (v := .int .i64 x2.2.2) rfl rfl ?_))
  refine RS.op rfl (o_alloc Ty.z25 rfl (aw' := [.box [.nils, .nils]]) rfl ?_)
  refine RS.op rfl (o_store_ptr Ty.c25 Ty.i25 rfl (vs := [.sl (List.map encS x2.1.Sectors), .sl (List.map encWrite x2.1.Wait)]) rfl rfl rfl rfl (cs' := [.sl (List.map encS x2.1.Sectors), .sl (List.map encWrite x2.1.Wait)]) rfl (aw' := [.box [.sl (List.map encS x2.1.Sectors), .sl (List.map encWrite x2.1.Wait)]]) rfl ?_)
  refine RS.op rfl (OP.q rfl (v_assign (v := .int .i64 x2.2.1) rfl ?_))
  refine RS.op rfl (OP.q rfl (v_assign (v := .int .i64 x2.2.2) rfl ?_))
  refine RS.nil ?_
  refine T.seq ?_
  obtain ⟨x3, hx3, h⟩ := bind_some h
  refine T.join (Z := Unit) (fun _ => mkA 101 [(1, .sl (List.map encChoice p1)), (2, .int .i64 p2), (3, .int .i64 p3), (9, .ptr 0 0), (32, .bool ((!x3) || x2.2.2 != 0))]) (fun _ => [.box [.sl (List.map encS x2.1.Sectors), .sl (List.map encWrite x2.1.Wait)]]) (fun _ => True) (fun _ _ => ?_) (fun hK => ?_)
  · show T _ _ _ _ (mkA 101 [(1, .sl (List.map encChoice p1)), (2, .int .i64 p2), (3, .int .i64 p3), (9, .ptr 0 0), (32, .bool ((!x3) || x2.2.2 != 0))]) [.box [.sl (List.map encS x2.1.Sectors), .sl (List.map encWrite x2.1.Wait)]]
    refine T.cond (b := ((!x3) || x2.2.2 != 0)) rfl (fun hb_2 => ?_) (fun hb_2 => ?_)
    · replace h := ite_T h hb_2
      refine T.seq ?_
      obtain ⟨x6, hx6, h⟩ := bind_some h
      refine T.region ?_
      refine RS.op rfl (o_call (as0 := []) (as1 := []) (caps := []) (aw1 := [.box [.sl (List.map encS x2.1.Sectors), .sl (List.map encWrite x2.1.Wait)]]) rfl rfl rfl (k_flat (v := .bool x6) (crosslaw_logged_c x6 hx6) (trivial) rfl ?_))
      refine RS.op rfl (OP.q rfl (v_assign (v := .bool x6) rfl ?_))
      refine RS.nil ?_
      refine T.ret' (R := ?R3) ?hq3 ?_
      case hq3 => repeat (first | exact RetIs.base | refine RetIs.thn ?_ | refine RetIs.blk ?_ | refine RetIs.lq ?_)
      refine res_tmpA (v := .bool x6) rfl ?_
      refine res_done ?_
      exact ret_data (v := .bool x6) rfl (pure_bool _) ⟨congrArg (fun r : Bool => (.bool r : AV)) (Option.some.inj h), rfl⟩
    · replace h := ite_F h hb_2
      refine T.skip ?_
      refine T.seq ?_
      obtain ⟨x9, hx9, h⟩ := bind_some h
      obtain ⟨x10, hx10, h⟩ := bind_some h
      refine T.drawn mixed (k := 13) rfl ?_
      refine RA.join 6 #[true, true, true, true, true, true, true, false, false, false, false, false, false] (mkA 101 [(1, .sl (List.map encChoice p1)), (2, .int .i64 p2), (3, .int .i64 p3), (9, .ptr 0 0), (32, .bool ((!x3) || x2.2.2 != 0)), (35, .agg [.sl (List.map encS x2.1.Sectors), .sl (List.map encWrite x2.1.Wait)]), (36, .int .i64 p3), (37, .ptr 0 1), (38, .sl (List.map encWrite x2.1.Wait)), (39, .int .i64 ((x2.1.Wait).length : Int)), (40, .int .i64 (IntKind.i64.wrap (((x2.1.Wait).length : Int) + 1))), (41, .int .i64 x9)]) [.box [.sl (List.map encS x2.1.Sectors), .sl (List.map encWrite x2.1.Wait)]] ?_ (fun hS4 => ?_)
      · refine RA.a1 (i1 := 7) (l1 := #[true, true, true, true, true, true, true, true, false, false, false, false, false]) (by decide +kernel) (by decide +kernel) ?_
        refine RO.op rfl rfl (o_call (as0 := [.agg [.sl (List.map encS x2.1.Sectors), .sl (List.map encWrite x2.1.Wait)], .int .i64 x9]) (as1 := [.agg [.sl (List.map encS x2.1.Sectors), .sl (List.map encWrite x2.1.Wait)], .int .i64 x9]) (caps := []) (aw1 := [.box [.sl (List.map encS x2.1.Sectors), .sl (List.map encWrite x2.1.Wait)]]) rfl rfl rfl (k_fn (v := .tup [.agg [.sl (List.map encS x10.1.Sectors), .sl (List.map encWrite x10.1.Wait)], .int .i64 x10.2]) (disk_Cut_c x2.1 x9 x10 hx10) (⟨pure_agg _ (pures_mem (⟨pure_map encS_p _, pure_map encWrite_p _, trivial⟩)), pure_int _ _, trivial⟩) (pure_tup _ (pures_mem (⟨pure_agg _ (pures_mem (⟨pure_map encS_p _, pure_map encWrite_p _, trivial⟩)), pure_int _ _, trivial⟩))) ?_))
        refine RA.t0 (i := 8) (li' := #[true, true, true, true, true, true, true, true, true, false, false, false, false]) rfl (by decide +kernel) (by decide +kernel) (by decide +kernel) (by decide +kernel) rfl rfl (v_move (v := .tup [.agg [.sl (List.map encS x10.1.Sectors), .sl (List.map encWrite x10.1.Wait)], .int .i64 x10.2]) rfl ?_)
        refine RA.t0 (i := 9) (li' := #[true, true, true, true, true, true, true, true, true, true, false, false, false]) rfl (by decide +kernel) (by decide +kernel) (by decide +kernel) (by decide +kernel) rfl rfl (v_extract (v := .agg [.sl (List.map encS x10.1.Sectors), .sl (List.map encWrite x10.1.Wait)]) rfl rfl ?_)
        refine RA.t0 (i := 10) (li' := #[true, true, true, true, true, true, true, true, true, true, true, false, false]) rfl (by decide +kernel) (by decide +kernel) (by decide +kernel) (by decide +kernel) rfl rfl (v_extract (v := .int .i64 x10.2) rfl rfl ?_)
        refine RA.a1 (i1 := 11) (l1 := #[true, true, true, true, true, true, true, true, true, true, true, true, false]) (by decide +kernel) (by decide +kernel) ?_
        refine RO.op rfl rfl (o_store_ptr Ty.c25 Ty.i25 rfl (vs := [.sl (List.map encS x10.1.Sectors), .sl (List.map encWrite x10.1.Wait)]) rfl rfl rfl rfl (cs' := [.sl (List.map encS x10.1.Sectors), .sl (List.map encWrite x10.1.Wait)]) rfl (aw' := [.box [.sl (List.map encS x10.1.Sectors), .sl (List.map encWrite x10.1.Wait)]]) rfl ?_)
        refine RA.t0 (i := 12) (li' := #[true, true, true, true, true, true, true, true, true, true, true, true, true]) rfl (by decide +kernel) (by decide +kernel) (by decide +kernel) (by decide +kernel) rfl rfl (v_assign (v := .int .i64 x10.2) rfl ?_)
        refine RA.done (by decide +kernel) ?_
        refine T.seq ?_
        obtain ⟨x12, hx12, h⟩ := bind_some h
        refine T.region ?_
        refine RS.op rfl (o_load_ptr rfl rfl (loadRowA Ty.k25 Ty.c25 rfl (cs := [.sl (List.map encS x10.1.Sectors), .sl (List.map encWrite x10.1.Wait)]) rfl ?_))
        refine RS.op rfl (OP.q rfl (v_move (v := .int .i64 p2) rfl ?_))
        refine RS.op rfl (o_call (as0 := [.agg [.sl (List.map encS x10.1.Sectors), .sl (List.map encWrite x10.1.Wait)], .int .i64 p2]) (as1 := [.agg [.sl (List.map encS x10.1.Sectors), .sl (List.map encWrite x10.1.Wait)], .int .i64 p2]) (caps := []) (aw1 := [.box [.sl (List.map encS x10.1.Sectors), .sl (List.map encWrite x10.1.Wait)]]) rfl rfl rfl (k_own' (v := .tup [.ref 0, .int .i64 x12.2.1, .int .i64 x12.2.2]) (obs := [.arr 36 2 (List.map encChoice x12.1)]) (v' := .tup [.ref 1, .int .i64 x12.2.1, .int .i64 x12.2.2]) (aw' := [.box [.sl (List.map encS x10.1.Sectors), .sl (List.map encWrite x10.1.Wait)], .arr 36 2 (List.map encChoice x12.1)]) (log_Scan_c x10.1 p2 x12 hx12) (⟨pure_agg _ (pures_mem (⟨pure_map encS_p _, pure_map encWrite_p _, trivial⟩)), pure_int _ _, trivial⟩) rfl (obs_cons (flatOb_map fun _ => rfl) obs_nil) rfl rfl ?_))
        refine RS.op rfl (OP.q rfl (v_move (v := .tup [.ref 1, .int .i64 x12.2.1, .int .i64 x12.2.2]) rfl ?_))
        refine RS.op rfl (OP.q rfl (v_extract (v := .ref 1) rfl rfl ?_))
        refine RS.op rfl (OP.q rfl (v_extract (v := .int .i64 x12.2.1) rfl rfl ?_))
        refine RS.op rfl (OP.q rfl (v_extract (v := .int .i64 x12.2.2) rfl rfl ?_))
        refine RS.op rfl (OP.q rfl (v_assign (v := .ref 1) rfl ?_))
        refine RS.op rfl (OP.q rfl (v_assign (v := .int .i64 x12.2.1) rfl ?_))
        refine RS.op rfl (OP.q rfl (v_assign (v := .int .i64 x12.2.2) rfl ?_))
        refine RS.nil ?_
        refine T.seq ?_
        refine T.join (Z := Unit) (fun _ => mkA 101 [(1, .sl (List.map encChoice p1)), (2, .int .i64 p2), (9, .ptr 0 0), (12, .ref 1), (13, .int .i64 x12.2.1), (57, .bool ((x10.2 != 0) || x12.2.2 != 0))]) (fun _ => [.box [.sl (List.map encS x10.1.Sectors), .sl (List.map encWrite x10.1.Wait)], .arr 36 2 (List.map encChoice x12.1)]) (fun _ => True) (fun _ _ => ?_) (fun hK => ?_)
        · show T _ _ _ _ (mkA 101 [(1, .sl (List.map encChoice p1)), (2, .int .i64 p2), (9, .ptr 0 0), (12, .ref 1), (13, .int .i64 x12.2.1), (57, .bool ((x10.2 != 0) || x12.2.2 != 0))]) [.box [.sl (List.map encS x10.1.Sectors), .sl (List.map encWrite x10.1.Wait)], .arr 36 2 (List.map encChoice x12.1)]
          refine T.cond (b := ((x10.2 != 0) || x12.2.2 != 0)) rfl (fun hb_7 => ?_) (fun hb_7 => ?_)
          · replace h := ite_T h hb_7
            refine T.seq ?_
            refine T.region ?_
            refine RS.op rfl (OP.q rfl (v_assign (v := .bool false) rfl ?_))
            refine RS.nil ?_
            refine T.ret' (R := ?R8) ?hq8 ?_
            case hq8 => repeat (first | exact RetIs.base | refine RetIs.thn ?_ | refine RetIs.blk ?_ | refine RetIs.lq ?_)
            refine res_tmpA (v := .bool false) rfl ?_
            refine res_done ?_
            exact ret_data (v := .bool false) rfl (pure_bool _) ⟨congrArg (fun r : Bool => (.bool r : AV)) (Option.some.inj h), rfl⟩
          · replace h := ite_F h hb_7
            refine T.skip ?_
            refine T.seq ?_
            obtain ⟨x15, hx15, h⟩ := bind_some h
            refine T.region ?_
            refine RS.op rfl (o_load_ptr rfl rfl (loadRowA Ty.k25 Ty.c25 rfl (cs := [.sl (List.map encS x10.1.Sectors), .sl (List.map encWrite x10.1.Wait)]) rfl ?_))
            refine RS.op rfl (OP.q rfl (v_move (v := .int .i64 p2) rfl ?_))
            refine RS.op rfl (OP.q rfl (v_move (v := .int .i64 x12.2.1) rfl ?_))
            refine RS.op rfl (OP.q rfl (v_move (v := .sl (List.map encChoice p1)) rfl ?_))
            refine RS.op rfl (o_call (as0 := [.agg [.sl (List.map encS x10.1.Sectors), .sl (List.map encWrite x10.1.Wait)], .int .i64 p2, .int .i64 x12.2.1, .sl (List.map encChoice p1)]) (as1 := [.agg [.sl (List.map encS x10.1.Sectors), .sl (List.map encWrite x10.1.Wait)], .int .i64 p2, .int .i64 x12.2.1, .sl (List.map encChoice p1)]) (caps := []) (aw1 := [.box [.sl (List.map encS x10.1.Sectors), .sl (List.map encWrite x10.1.Wait)], .arr 36 2 (List.map encChoice x12.1)]) rfl rfl rfl (k_fn (v := .tup [.agg [.sl (List.map encS x15.1.Sectors), .sl (List.map encWrite x15.1.Wait)], .int .i64 x15.2.1, .int .i64 x15.2.2]) (log_Append_c x10.1 p2 x12.2.1 p1 x15 hx15) (⟨pure_agg _ (pures_mem (⟨pure_map encS_p _, pure_map encWrite_p _, trivial⟩)), pure_int _ _, pure_int _ _, pure_map encChoice_p _, trivial⟩) (pure_tup _ (pures_mem (⟨pure_agg _ (pures_mem (⟨pure_map encS_p _, pure_map encWrite_p _, trivial⟩)), pure_int _ _, pure_int _ _, trivial⟩))) ?_))
            refine RS.op rfl (OP.q rfl (v_move (v := .tup [.agg [.sl (List.map encS x15.1.Sectors), .sl (List.map encWrite x15.1.Wait)], .int .i64 x15.2.1, .int .i64 x15.2.2]) rfl ?_))
            refine RS.op rfl (OP.q rfl (v_extract (v := .agg [.sl (List.map encS x15.1.Sectors), .sl (List.map encWrite x15.1.Wait)]) rfl rfl ?_))
            refine RS.op rfl (OP.q rfl (v_extract (v := .int .i64 x15.2.1) rfl rfl ?_))
            refine RS.op rfl (OP.q rfl (v_extract (v := .int .i64 x15.2.2) rfl rfl ?_))
            refine RS.op rfl (o_alloc Ty.z25 rfl (aw' := [.box [.sl (List.map encS x10.1.Sectors), .sl (List.map encWrite x10.1.Wait)], .arr 36 2 (List.map encChoice x12.1), .box [.nils, .nils]]) rfl ?_)
            refine RS.op rfl (o_store_ptr Ty.c25 Ty.i25 rfl (vs := [.sl (List.map encS x15.1.Sectors), .sl (List.map encWrite x15.1.Wait)]) rfl rfl rfl rfl (cs' := [.sl (List.map encS x15.1.Sectors), .sl (List.map encWrite x15.1.Wait)]) rfl (aw' := [.box [.sl (List.map encS x10.1.Sectors), .sl (List.map encWrite x10.1.Wait)], .arr 36 2 (List.map encChoice x12.1), .box [.sl (List.map encS x15.1.Sectors), .sl (List.map encWrite x15.1.Wait)]]) rfl ?_)
            refine RS.op rfl (OP.q rfl (v_assign (v := .int .i64 x15.2.1) rfl ?_))
            refine RS.op rfl (OP.q rfl (v_assign (v := .int .i64 x15.2.2) rfl ?_))
            refine RS.nil ?_
            refine T.seq ?_
            refine T.seq ?_
            refine T.region ?_
            refine RS.op rfl (OP.q rfl (v_move (v := .int .i64 x15.2.2) rfl ?_))
            refine RS.op rfl (OP.q rfl (v_neq rfl rfl ?_))
            refine RS.nil ?_
            refine T.cond (b := x15.2.2 != 0) rfl (fun hb_9 => ?_) (fun hb_9 => ?_)
            · replace h := ite_T h hb_9
              refine T.join (Z := Unit) (fun _ => mkA 101 [(8, .bool ((x15.2.2 == 3) || x15.2.2 == 8))]) (fun _ => []) (fun _ => True) (fun _ _ => ?_) (fun hK => ?_)
              · show T _ _ _ _ (mkA 101 [(8, .bool ((x15.2.2 == 3) || x15.2.2 == 8))]) []
                refine T.ret' (R := ?R11) ?hq11 ?_
                case hq11 => repeat (first | exact RetIs.base | refine RetIs.thn ?_ | refine RetIs.blk ?_ | refine RetIs.lq ?_)
                refine res_tmpA (v := .bool ((x15.2.2 == 3) || x15.2.2 == 8)) rfl ?_
                refine res_done ?_
                exact ret_data (v := .bool ((x15.2.2 == 3) || x15.2.2 == 8)) rfl (pure_bool _) ⟨congrArg (fun r : Bool => (.bool r : AV)) (Option.some.inj h), rfl⟩
              · rcases bool_cases (x15.2.2 == 3) with hb_10 | hb_10
                · refine T.region ?_
                  refine RS.op rfl (OP.q rfl (v_move (v := .int .i64 x15.2.2) rfl ?_))
                  refine RS.op rfl (OP.q rfl (v_eql rfl rfl ?_))
                  refine RS.op rfl (OP.q rfl (v_move (v := .bool (x15.2.2 == 3)) rfl ?_))
                  refine RS.no rfl rfl rfl hb_10 ?_
                  refine RS.no rfl rfl rfl hb_10 ?_
                  refine RS.op rfl (OP.q rfl (v_pickT (v := .bool true) rfl hb_10 rfl ?_))
                  refine RS.op rfl (OP.q rfl (v_assign (v := .bool true) rfl ?_))
                  refine RS.nil ?_
                  exact T.weakR (hK () trivial) (Weak.mkN [] [] (by decide) (none_kept _) rfl ⟨rn_bool (by simp only [hb_10, Bool.true_or, Bool.or_true, Bool.false_or, Bool.or_false, Bool.true_and, Bool.and_true, Bool.false_and, Bool.and_false, Bool.not_true, Bool.not_false, if_true, if_false, Bool.false_eq_true, reduceIte]), trivial⟩ (rw_nil))
                · refine T.region ?_
                  refine RS.op rfl (OP.q rfl (v_move (v := .int .i64 x15.2.2) rfl ?_))
                  refine RS.op rfl (OP.q rfl (v_eql rfl rfl ?_))
                  refine RS.op rfl (OP.q rfl (v_move (v := .bool (x15.2.2 == 3)) rfl ?_))
                  refine RS.yes rfl rfl rfl hb_10 (OP.q rfl (v_move (v := .int .i64 x15.2.2) rfl ?_))
                  refine RS.yes rfl rfl rfl hb_10 (OP.q rfl (v_eql rfl rfl ?_))
                  refine RS.op rfl (OP.q rfl (v_pickF (v := .bool (x15.2.2 == 8)) rfl hb_10 rfl ?_))
                  refine RS.op rfl (OP.q rfl (v_assign (v := .bool (x15.2.2 == 8)) rfl ?_))
                  refine RS.nil ?_
                  exact T.weakR (hK () trivial) (Weak.mkN [] [] (by decide) (none_kept _) rfl ⟨rn_bool (by simp only [hb_10, Bool.true_or, Bool.or_true, Bool.false_or, Bool.or_false, Bool.true_and, Bool.and_true, Bool.false_and, Bool.and_false, Bool.not_true, Bool.not_false, if_true, if_false, Bool.false_eq_true, reduceIte]), trivial⟩ (rw_nil))
            · replace h := ite_F h hb_9
              refine T.skip ?_
              refine T.seq ?_
              obtain ⟨x18, hx18, h⟩ := bind_some h
              refine T.region ?_
              refine RS.op rfl (o_load_ptr rfl rfl (loadRowA Ty.k25 Ty.c25 rfl (cs := [.sl (List.map encS x15.1.Sectors), .sl (List.map encWrite x15.1.Wait)]) rfl ?_))
              refine RS.op rfl (o_call (as0 := [.agg [.sl (List.map encS x15.1.Sectors), .sl (List.map encWrite x15.1.Wait)]]) (as1 := [.agg [.sl (List.map encS x15.1.Sectors), .sl (List.map encWrite x15.1.Wait)]]) (caps := []) (aw1 := [.box [.sl (List.map encS x10.1.Sectors), .sl (List.map encWrite x10.1.Wait)], .arr 36 2 (List.map encChoice x12.1), .box [.sl (List.map encS x15.1.Sectors), .sl (List.map encWrite x15.1.Wait)]]) rfl rfl rfl (k_fn (v := .tup [.agg [.sl (List.map encS x18.1.Sectors), .sl (List.map encWrite x18.1.Wait)], .int .i64 x18.2]) (disk_Flush_c x15.1 x18 hx18) (⟨pure_agg _ (pures_mem (⟨pure_map encS_p _, pure_map encWrite_p _, trivial⟩)), trivial⟩) (pure_tup _ (pures_mem (⟨pure_agg _ (pures_mem (⟨pure_map encS_p _, pure_map encWrite_p _, trivial⟩)), pure_int _ _, trivial⟩))) ?_))
              refine RS.op rfl (OP.q rfl (v_move (v := .tup [.agg [.sl (List.map encS x18.1.Sectors), .sl (List.map encWrite x18.1.Wait)], .int .i64 x18.2]) rfl ?_))
              refine RS.op rfl (OP.q rfl (v_extract (v := .agg [.sl (List.map encS x18.1.Sectors), .sl (List.map encWrite x18.1.Wait)]) rfl rfl ?_))
              refine RS.op rfl (OP.q rfl (v_extract (v := .int .i64 x18.2) rfl rfl ?_))
              refine RS.op rfl (o_store_ptr Ty.c25 Ty.i25 rfl (vs := [.sl (List.map encS x18.1.Sectors), .sl (List.map encWrite x18.1.Wait)]) rfl rfl rfl rfl (cs' := [.sl (List.map encS x18.1.Sectors), .sl (List.map encWrite x18.1.Wait)]) rfl (aw' := [.box [.sl (List.map encS x10.1.Sectors), .sl (List.map encWrite x10.1.Wait)], .arr 36 2 (List.map encChoice x12.1), .box [.sl (List.map encS x18.1.Sectors), .sl (List.map encWrite x18.1.Wait)]]) rfl ?_)
              refine RS.op rfl (OP.q rfl (v_assign (v := .int .i64 x18.2) rfl ?_))
              refine RS.nil ?_
              refine T.seq ?_
              obtain ⟨x20, hx20, h⟩ := bind_some h
              refine T.region ?_
              refine RS.op rfl (o_load_ptr rfl rfl (loadRowA Ty.k25 Ty.c25 rfl (cs := [.sl (List.map encS x18.1.Sectors), .sl (List.map encWrite x18.1.Wait)]) rfl ?_))
              refine RS.op rfl (OP.q rfl (v_move (v := .int .i64 p2) rfl ?_))
              refine RS.op rfl (o_call (as0 := [.agg [.sl (List.map encS x18.1.Sectors), .sl (List.map encWrite x18.1.Wait)], .int .i64 p2]) (as1 := [.agg [.sl (List.map encS x18.1.Sectors), .sl (List.map encWrite x18.1.Wait)], .int .i64 p2]) (caps := []) (aw1 := [.box [.sl (List.map encS x10.1.Sectors), .sl (List.map encWrite x10.1.Wait)], .arr 36 2 (List.map encChoice x12.1), .box [.sl (List.map encS x18.1.Sectors), .sl (List.map encWrite x18.1.Wait)]]) rfl rfl rfl (k_own' (v := .tup [.ref 0, .int .i64 x20.2.1, .int .i64 x20.2.2]) (obs := [.arr 36 2 (List.map encChoice x20.1)]) (v' := .tup [.ref 3, .int .i64 x20.2.1, .int .i64 x20.2.2]) (aw' := [.box [.sl (List.map encS x10.1.Sectors), .sl (List.map encWrite x10.1.Wait)], .arr 36 2 (List.map encChoice x12.1), .box [.sl (List.map encS x18.1.Sectors), .sl (List.map encWrite x18.1.Wait)], .arr 36 2 (List.map encChoice x20.1)]) (log_Scan_c x18.1 p2 x20 hx20) (⟨pure_agg _ (pures_mem (⟨pure_map encS_p _, pure_map encWrite_p _, trivial⟩)), pure_int _ _, trivial⟩) rfl (obs_cons (flatOb_map fun _ => rfl) obs_nil) rfl rfl ?_))
              refine RS.op rfl (OP.q rfl (v_move (v := .tup [.ref 3, .int .i64 x20.2.1, .int .i64 x20.2.2]) rfl ?_))
              refine RS.op rfl (OP.q rfl (v_extract (v := .ref 3) rfl rfl ?_))
              refine RS.op rfl (OP.q rfl (v_extract (v := .int .i64 x20.2.1) rfl rfl ?_))
              refine RS.op rfl (OP.q rfl (v_extract (v := .int .i64 x20.2.2) rfl rfl ?_))
              refine RS.op rfl (OP.q rfl (v_assign (v := .ref 3) rfl ?_))
              refine RS.op rfl (OP.q rfl (v_assign (v := .int .i64 x20.2.1) rfl ?_))
              refine RS.op rfl (OP.q rfl (v_assign (v := .int .i64 x20.2.2) rfl ?_))
              refine RS.nil ?_
              obtain ⟨zt_14, hz, h⟩ := bind_some h
              revert hz h; revert zt_14; intro c23 hz h
              refine T.join (Z := Unit) (fun _ => mkA 101 [(8, .bool c23)]) (fun _ => []) (fun _ => True) (fun _ _ => ?_) (fun hK => ?_)
              · show T _ _ _ _ (mkA 101 [(8, .bool c23)]) []
                refine T.ret' (R := ?R15) ?hq15 ?_
                case hq15 => repeat (first | exact RetIs.base | refine RetIs.thn ?_ | refine RetIs.blk ?_ | refine RetIs.lq ?_)
                refine res_tmpA (v := .bool c23) rfl ?_
                refine res_done ?_
                exact ret_data (v := .bool c23) rfl (pure_bool _) ⟨congrArg (fun r : Bool => (.bool r : AV)) (Option.some.inj h), rfl⟩
              · rcases bool_cases (x18.2 == 0) with hb_12 | hb_12
                · replace hz := ite_T hz hb_12
                  rcases bool_cases (x20.2.2 == 0) with hb_13 | hb_13
                  · replace hz := ite_T hz hb_13
                    obtain ⟨x21, hx21, hz⟩ := bind_some hz
                    obtain ⟨x22, hx22, hz⟩ := bind_some hz
                    refine T.region ?_
                    refine RS.op rfl (OP.q rfl (v_move (v := .int .i64 x18.2) rfl ?_))
                    refine RS.op rfl (OP.q rfl (v_eql rfl rfl ?_))
                    refine RS.op rfl (OP.q rfl (v_move (v := .bool (x18.2 == 0)) rfl ?_))
                    refine RS.yes rfl rfl rfl hb_12 (OP.q rfl (v_move (v := .int .i64 x20.2.2) rfl ?_))
                    refine RS.yes rfl rfl rfl hb_12 (OP.q rfl (v_eql rfl rfl ?_))
                    refine RS.op rfl (OP.q rfl (v_pickT (v := .bool (x20.2.2 == 0)) rfl hb_12 rfl ?_))
                    refine RS.op rfl (OP.q rfl (v_move (v := .bool (x20.2.2 == 0)) rfl ?_))
                    refine RS.yes rfl rfl rfl hb_13 (OP.q rfl (v_move (v := .ref 3) rfl ?_))
                    refine RS.yes rfl rfl rfl hb_13 (OP.q rfl (v_move (v := .ref 1) rfl ?_))
                    refine RS.yes rfl rfl rfl hb_13 (OP.q rfl (v_move (v := .sl (List.map encChoice p1)) rfl ?_))
                    refine RS.fz 1 rfl rfl (aw' := [.box [.sl (List.map encS x10.1.Sectors), .sl (List.map encWrite x10.1.Wait)], .dead, .box [.sl (List.map encS x18.1.Sectors), .sl (List.map encWrite x18.1.Wait)], .arr 36 2 (List.map encChoice x20.1)]) rfl ?_
                    refine RS.yes rfl rfl rfl hb_13 (o_buildSlice (rows := List.map (encL encChoice) [x12.1, p1]) (vs := [.sl (List.map encChoice x12.1), .sl (List.map encChoice p1)]) Ty.s49 Ty.z26 rfl rfl rfl rfl rfl (aw' := [.box [.sl (List.map encS x10.1.Sectors), .sl (List.map encWrite x10.1.Wait)], .dead, .box [.sl (List.map encS x18.1.Sectors), .sl (List.map encWrite x18.1.Wait)], .arr 36 2 (List.map encChoice x20.1), .arr 26 1 (List.map (encL encChoice) [x12.1, p1])]) rfl ?_)
                    refine RS.yes rfl rfl rfl hb_13 (o_call (as0 := [.ref 4]) (as1 := [.sl (List.map (encL encChoice) ([x12.1, p1] : List (List Choice)))]) (caps := []) (aw1 := [.box [.sl (List.map encS x10.1.Sectors), .sl (List.map encWrite x10.1.Wait)], .dead, .box [.sl (List.map encS x18.1.Sectors), .sl (List.map encWrite x18.1.Wait)], .arr 36 2 (List.map encChoice x20.1), .dead]) rfl rfl rfl (k_own' (v := .ref 0) (obs := [.arr 36 2 (List.map encChoice x21)]) (v' := .ref 5) (aw' := [.box [.sl (List.map encS x10.1.Sectors), .sl (List.map encWrite x10.1.Wait)], .dead, .box [.sl (List.map encS x18.1.Sectors), .sl (List.map encWrite x18.1.Wait)], .arr 36 2 (List.map encChoice x20.1), .arr 26 1 (List.map (encL encChoice) [x12.1, p1]), .arr 36 2 (List.map encChoice x21)]) (slices_Concat_Choice_c ([x12.1, p1] : List (List Choice)) x21 hx21) (⟨pure_map (encL_p encChoice_p) _, trivial⟩) rfl (obs_cons (flatOb_map fun _ => rfl) obs_nil) rfl rfl ?_))
                    refine RS.yes rfl rfl rfl hb_13 (o_call (as0 := [.ref 3, .ref 5]) (as1 := [.sl (List.map encChoice x20.1), .sl (List.map encChoice x21)]) (caps := []) (aw1 := [.box [.sl (List.map encS x10.1.Sectors), .sl (List.map encWrite x10.1.Wait)], .dead, .box [.sl (List.map encS x18.1.Sectors), .sl (List.map encWrite x18.1.Wait)], .dead, .arr 26 1 (List.map (encL encChoice) [x12.1, p1]), .dead]) rfl rfl rfl (k_flat (v := .bool x22) (slices_Equal_Choice_c x20.1 x21 x22 hx22) (⟨pure_map encChoice_p _, pure_map encChoice_p _, trivial⟩) rfl ?_))
                    refine RS.op rfl (OP.q rfl (v_pickT (v := .bool x22) rfl hb_13 rfl ?_))
                    refine RS.op rfl (OP.q rfl (v_assign (v := .bool x22) rfl ?_))
                    refine RS.nil ?_
                    exact T.weakR (hK () trivial) (Weak.mkN [] [] (by decide) (none_kept _) rfl ⟨rn_bool ((congrArg (fun p => p) (Option.some.inj hz)).symm), trivial⟩ (rw_nil))
                  · replace hz := ite_F hz hb_13
                    refine T.region ?_
                    refine RS.op rfl (OP.q rfl (v_move (v := .int .i64 x18.2) rfl ?_))
                    refine RS.op rfl (OP.q rfl (v_eql rfl rfl ?_))
                    refine RS.op rfl (OP.q rfl (v_move (v := .bool (x18.2 == 0)) rfl ?_))
                    refine RS.yes rfl rfl rfl hb_12 (OP.q rfl (v_move (v := .int .i64 x20.2.2) rfl ?_))
                    refine RS.yes rfl rfl rfl hb_12 (OP.q rfl (v_eql rfl rfl ?_))
                    refine RS.op rfl (OP.q rfl (v_pickT (v := .bool (x20.2.2 == 0)) rfl hb_12 rfl ?_))
                    refine RS.op rfl (OP.q rfl (v_move (v := .bool (x20.2.2 == 0)) rfl ?_))
                    refine RS.no rfl rfl rfl hb_13 ?_
                    refine RS.no rfl rfl rfl hb_13 ?_
                    refine RS.no rfl rfl rfl hb_13 ?_
                    refine RS.no rfl rfl rfl hb_13 ?_
                    refine RS.no rfl rfl rfl hb_13 ?_
                    refine RS.no rfl rfl rfl hb_13 ?_
                    refine RS.op rfl (OP.q rfl (v_pickF (v := .bool false) rfl hb_13 rfl ?_))
                    refine RS.op rfl (OP.q rfl (v_assign (v := .bool false) rfl ?_))
                    refine RS.nil ?_
                    exact T.weakR (hK () trivial) (Weak.mkN [] [] (by decide) (none_kept _) rfl ⟨rn_bool ((congrArg (fun p => p) (Option.some.inj hz)).symm), trivial⟩ (rw_nil))
                · replace hz := ite_F hz hb_12
                  refine T.region ?_
                  refine RS.op rfl (OP.q rfl (v_move (v := .int .i64 x18.2) rfl ?_))
                  refine RS.op rfl (OP.q rfl (v_eql rfl rfl ?_))
                  refine RS.op rfl (OP.q rfl (v_move (v := .bool (x18.2 == 0)) rfl ?_))
                  refine RS.no rfl rfl rfl hb_12 ?_
                  refine RS.no rfl rfl rfl hb_12 ?_
                  refine RS.op rfl (OP.q rfl (v_pickF (v := .bool false) rfl hb_12 rfl ?_))
                  refine RS.op rfl (OP.q rfl (v_move (v := .bool false) rfl ?_))
                  refine RS.no rfl rfl rfl rfl ?_
                  refine RS.no rfl rfl rfl rfl ?_
                  refine RS.no rfl rfl rfl rfl ?_
                  refine RS.no rfl rfl rfl rfl ?_
                  refine RS.no rfl rfl rfl rfl ?_
                  refine RS.no rfl rfl rfl rfl ?_
                  refine RS.op rfl (OP.q rfl (v_pickF (v := .bool false) rfl rfl rfl ?_))
                  refine RS.op rfl (OP.q rfl (v_assign (v := .bool false) rfl ?_))
                  refine RS.nil ?_
                  exact T.weakR (hK () trivial) (Weak.mkN [] [] (by decide) (none_kept _) rfl ⟨rn_bool ((congrArg (fun p => p) (Option.some.inj hz)).symm), trivial⟩ (rw_nil))
        · rcases bool_cases (x10.2 != 0) with hb_6 | hb_6
          · refine T.region ?_
            refine RS.op rfl (OP.q rfl (v_move (v := .int .i64 x10.2) rfl ?_))
            refine RS.op rfl (OP.q rfl (v_neq rfl rfl ?_))
            refine RS.op rfl (OP.q rfl (v_move (v := .bool (x10.2 != 0)) rfl ?_))
            refine RS.no rfl rfl rfl hb_6 ?_
            refine RS.no rfl rfl rfl hb_6 ?_
            refine RS.op rfl (OP.q rfl (v_pickT (v := .bool true) rfl hb_6 rfl ?_))
            refine RS.nil ?_
            exact T.weakR (hK () trivial) (Weak.mkN [] [0, 1] (by decide) (none_kept _) rfl ⟨rn_sl encChoice_p rfl, rn_int rfl, rn_ptr rfl, rn_ref rfl, rn_int rfl, rn_bool (by simp only [hb_6, Bool.true_or, Bool.or_true, Bool.false_or, Bool.or_false, Bool.true_and, Bool.and_true, Bool.false_and, Bool.and_false, Bool.not_true, Bool.not_false, if_true, if_false, Bool.false_eq_true, reduceIte]), trivial⟩ (rw_box (cs := [.sl (List.map encS x10.1.Sectors), .sl (List.map encWrite x10.1.Wait)]) (ds := [.sl (List.map encS x10.1.Sectors), .sl (List.map encWrite x10.1.Wait)]) rfl ⟨rn_sl encS_p rfl, rn_sl encWrite_p rfl, trivial⟩ (rw_arr rfl encChoice_p rfl (rw_nil))))
          · refine T.region ?_
            refine RS.op rfl (OP.q rfl (v_move (v := .int .i64 x10.2) rfl ?_))
            refine RS.op rfl (OP.q rfl (v_neq rfl rfl ?_))
            refine RS.op rfl (OP.q rfl (v_move (v := .bool (x10.2 != 0)) rfl ?_))
            refine RS.yes rfl rfl rfl hb_6 (OP.q rfl (v_move (v := .int .i64 x12.2.2) rfl ?_))
            refine RS.yes rfl rfl rfl hb_6 (OP.q rfl (v_neq rfl rfl ?_))
            refine RS.op rfl (OP.q rfl (v_pickF (v := .bool (x12.2.2 != 0)) rfl hb_6 rfl ?_))
            refine RS.nil ?_
            exact T.weakR (hK () trivial) (Weak.mkN [] [0, 1] (by decide) (none_kept _) rfl ⟨rn_sl encChoice_p rfl, rn_int rfl, rn_ptr rfl, rn_ref rfl, rn_int rfl, rn_bool (by simp only [hb_6, Bool.true_or, Bool.or_true, Bool.false_or, Bool.or_false, Bool.true_and, Bool.and_true, Bool.false_and, Bool.and_false, Bool.not_true, Bool.not_false, if_true, if_false, Bool.false_eq_true, reduceIte]), trivial⟩ (rw_box (cs := [.sl (List.map encS x10.1.Sectors), .sl (List.map encWrite x10.1.Wait)]) (ds := [.sl (List.map encS x10.1.Sectors), .sl (List.map encWrite x10.1.Wait)]) rfl ⟨rn_sl encS_p rfl, rn_sl encWrite_p rfl, trivial⟩ (rw_arr rfl encChoice_p rfl (rw_nil))))
      · refine RA.join 7 #[true, true, true, true, true, true, false, false, false, false, false, false, false] (mkA 101 [(1, .sl (List.map encChoice p1)), (2, .int .i64 p2), (3, .int .i64 p3), (9, .ptr 0 0), (32, .bool ((!x3) || x2.2.2 != 0)), (35, .agg [.sl (List.map encS x2.1.Sectors), .sl (List.map encWrite x2.1.Wait)]), (36, .int .i64 p3), (37, .ptr 0 1), (38, .sl (List.map encWrite x2.1.Wait)), (39, .int .i64 ((x2.1.Wait).length : Int)), (40, .int .i64 (IntKind.i64.wrap (((x2.1.Wait).length : Int) + 1)))]) [.box [.sl (List.map encS x2.1.Sectors), .sl (List.map encWrite x2.1.Wait)]] ?_ (fun hS5 => ?_)
        · refine RA.a1 (i1 := 6) (l1 := #[true, true, true, true, true, true, true, false, false, false, false, false, false]) (by decide +kernel) (by decide +kernel) ?_
          refine RO.op rfl rfl (o_call (as0 := [.int .i64 p3, .int .i64 (IntKind.i64.wrap (((x2.1.Wait).length : Int) + 1))]) (as1 := [.int .i64 p3, .int .i64 (IntKind.i64.wrap (((x2.1.Wait).length : Int) + 1))]) (caps := []) (aw1 := [.box [.sl (List.map encS x2.1.Sectors), .sl (List.map encWrite x2.1.Wait)]]) rfl rfl rfl (k_flat (v := .int .i64 x9) (crossref_At_c p3 (IntKind.i64.wrap (((x2.1.Wait).length : Int) + 1)) x9 hx9) (⟨pure_int _ _, pure_int _ _, trivial⟩) rfl ?_))
          exact RA.weakR hS4 (Weak.mkN [] [0] (by decide) (none_kept _) rfl ⟨rn_sl encChoice_p rfl, rn_int rfl, rn_int rfl, rn_ptr rfl, rn_bool rfl, rn_agg ⟨rn_sl encS_p rfl, rn_sl encWrite_p rfl, trivial⟩, rn_int rfl, rn_ptr rfl, rn_sl encWrite_p rfl, rn_int rfl, rn_int rfl, rn_int rfl, trivial⟩ (rw_box (cs := [.sl (List.map encS x2.1.Sectors), .sl (List.map encWrite x2.1.Wait)]) (ds := [.sl (List.map encS x2.1.Sectors), .sl (List.map encWrite x2.1.Wait)]) rfl ⟨rn_sl encS_p rfl, rn_sl encWrite_p rfl, trivial⟩ (rw_nil)))
        · refine RA.t0 (i := 1) (li' := #[false, true, false, false, false, false, false, false, false, false, false, false, false]) rfl (by decide +kernel) (by decide +kernel) (by decide +kernel) (by decide +kernel) rfl rfl (v_move (v := .int .i64 p3) rfl ?_)
          refine RA.t0 (i := 2) (li' := #[false, true, true, false, false, false, false, false, false, false, false, false, false]) rfl (by decide +kernel) (by decide +kernel) (by decide +kernel) (by decide +kernel) rfl rfl (v_fieldAddr_ptr Ty.f25_1 rfl (off' := 1) rfl ?_)
          refine RA.a2 (i1 := 0) (l1 := #[true, true, true, false, false, false, false, false, false, false, false, false, false]) (i2 := 3) (l2 := #[false, true, true, true, false, false, false, false, false, false, false, false, false]) (by decide +kernel) (by decide +kernel) (by decide +kernel) ?_ ?_
          · refine RO.op rfl rfl (o_load_ptr rfl rfl (loadRowA Ty.k25 Ty.c25 rfl (cs := [.sl (List.map encS x2.1.Sectors), .sl (List.map encWrite x2.1.Wait)]) rfl ?_))
            refine RA.a1 (i1 := 3) (l1 := #[true, true, true, true, false, false, false, false, false, false, false, false, false]) (by decide +kernel) (by decide +kernel) ?_
            refine RO.op rfl rfl (o_load_ptr rfl rfl (loadRow1 Ty.k23 (c := .sl (List.map encWrite x2.1.Wait)) rfl ?_))
            refine RA.t0 (i := 4) (li' := #[true, true, true, true, true, false, false, false, false, false, false, false, false]) rfl (by decide +kernel) (by decide +kernel) (by decide +kernel) (by decide +kernel) rfl rfl (v_len_sl Ty.s23 rfl ?_)
            refine RA.t0 (i := 5) (li' := #[true, true, true, true, true, true, false, false, false, false, false, false, false]) rfl (by decide +kernel) (by decide +kernel) (by decide +kernel) (by decide +kernel) rfl rfl (v_add rfl rfl ?_)
            exact RA.weakR hS5 (Weak.mkN [] [0] (by decide) (none_kept _) rfl ⟨rn_sl encChoice_p rfl, rn_int rfl, rn_int rfl, rn_ptr rfl, rn_bool rfl, rn_agg ⟨rn_sl encS_p rfl, rn_sl encWrite_p rfl, trivial⟩, rn_int rfl, rn_ptr rfl, rn_sl encWrite_p rfl, rn_int rfl, rn_int rfl, trivial⟩ (rw_box (cs := [.sl (List.map encS x2.1.Sectors), .sl (List.map encWrite x2.1.Wait)]) (ds := [.sl (List.map encS x2.1.Sectors), .sl (List.map encWrite x2.1.Wait)]) rfl ⟨rn_sl encS_p rfl, rn_sl encWrite_p rfl, trivial⟩ (rw_nil)))
          · refine RO.op rfl rfl (o_load_ptr rfl rfl (loadRow1 Ty.k23 (c := .sl (List.map encWrite x2.1.Wait)) rfl ?_))
            refine RA.t0 (i := 4) (li' := #[false, true, true, true, true, false, false, false, false, false, false, false, false]) rfl (by decide +kernel) (by decide +kernel) (by decide +kernel) (by decide +kernel) rfl rfl (v_len_sl Ty.s23 rfl ?_)
            refine RA.t0 (i := 5) (li' := #[false, true, true, true, true, true, false, false, false, false, false, false, false]) rfl (by decide +kernel) (by decide +kernel) (by decide +kernel) (by decide +kernel) rfl rfl (v_add rfl rfl ?_)
            refine RA.a2 (i1 := 0) (l1 := #[true, true, true, true, true, true, false, false, false, false, false, false, false]) (i2 := 6) (l2 := #[false, true, true, true, true, true, true, false, false, false, false, false, false]) (by decide +kernel) (by decide +kernel) (by decide +kernel) ?_ ?_
            · refine RO.op rfl rfl (o_load_ptr rfl rfl (loadRowA Ty.k25 Ty.c25 rfl (cs := [.sl (List.map encS x2.1.Sectors), .sl (List.map encWrite x2.1.Wait)]) rfl ?_))
              exact RA.weakR hS5 (Weak.mkN [] [0] (by decide) (none_kept _) rfl ⟨rn_sl encChoice_p rfl, rn_int rfl, rn_int rfl, rn_ptr rfl, rn_bool rfl, rn_agg ⟨rn_sl encS_p rfl, rn_sl encWrite_p rfl, trivial⟩, rn_int rfl, rn_ptr rfl, rn_sl encWrite_p rfl, rn_int rfl, rn_int rfl, trivial⟩ (rw_box (cs := [.sl (List.map encS x2.1.Sectors), .sl (List.map encWrite x2.1.Wait)]) (ds := [.sl (List.map encS x2.1.Sectors), .sl (List.map encWrite x2.1.Wait)]) rfl ⟨rn_sl encS_p rfl, rn_sl encWrite_p rfl, trivial⟩ (rw_nil)))
            · refine RO.op rfl rfl (o_call (as0 := [.int .i64 p3, .int .i64 (IntKind.i64.wrap (((x2.1.Wait).length : Int) + 1))]) (as1 := [.int .i64 p3, .int .i64 (IntKind.i64.wrap (((x2.1.Wait).length : Int) + 1))]) (caps := []) (aw1 := [.box [.sl (List.map encS x2.1.Sectors), .sl (List.map encWrite x2.1.Wait)]]) rfl rfl rfl (k_flat (v := .int .i64 x9) (crossref_At_c p3 (IntKind.i64.wrap (((x2.1.Wait).length : Int) + 1)) x9 hx9) (⟨pure_int _ _, pure_int _ _, trivial⟩) rfl ?_))
              refine RA.a1 (i1 := 0) (l1 := #[true, true, true, true, true, true, true, false, false, false, false, false, false]) (by decide +kernel) (by decide +kernel) ?_
              refine RO.op rfl rfl (o_load_ptr rfl rfl (loadRowA Ty.k25 Ty.c25 rfl (cs := [.sl (List.map encS x2.1.Sectors), .sl (List.map encWrite x2.1.Wait)]) rfl ?_))
              exact RA.weakR hS4 (Weak.mkN [] [0] (by decide) (none_kept _) rfl ⟨rn_sl encChoice_p rfl, rn_int rfl, rn_int rfl, rn_ptr rfl, rn_bool rfl, rn_agg ⟨rn_sl encS_p rfl, rn_sl encWrite_p rfl, trivial⟩, rn_int rfl, rn_ptr rfl, rn_sl encWrite_p rfl, rn_int rfl, rn_int rfl, rn_int rfl, trivial⟩ (rw_box (cs := [.sl (List.map encS x2.1.Sectors), .sl (List.map encWrite x2.1.Wait)]) (ds := [.sl (List.map encS x2.1.Sectors), .sl (List.map encWrite x2.1.Wait)]) rfl ⟨rn_sl encS_p rfl, rn_sl encWrite_p rfl, trivial⟩ (rw_nil)))
  · rcases bool_cases (!x3) with hb_1 | hb_1
    · refine T.region ?_
      refine RS.op rfl (o_call (as0 := []) (as1 := []) (caps := []) (aw1 := [.box [.sl (List.map encS x2.1.Sectors), .sl (List.map encWrite x2.1.Wait)]]) rfl rfl rfl (k_flat (v := .bool x3) (crosslaw_logged_c x3 hx3) (trivial) rfl ?_))
      refine RS.op rfl (OP.q rfl (v_not rfl ?_))
      refine RS.op rfl (OP.q rfl (v_move (v := .bool (!x3)) rfl ?_))
      refine RS.no rfl rfl rfl hb_1 ?_
      refine RS.no rfl rfl rfl hb_1 ?_
      refine RS.op rfl (OP.q rfl (v_pickT (v := .bool true) rfl hb_1 rfl ?_))
      refine RS.nil ?_
      exact T.weakR (hK () trivial) (Weak.mkN [] [0] (by decide) (none_kept _) rfl ⟨rn_sl encChoice_p rfl, rn_int rfl, rn_int rfl, rn_ptr rfl, rn_bool (by simp only [hb_1, Bool.true_or, Bool.or_true, Bool.false_or, Bool.or_false, Bool.true_and, Bool.and_true, Bool.false_and, Bool.and_false, Bool.not_true, Bool.not_false, if_true, if_false, Bool.false_eq_true, reduceIte]), trivial⟩ (rw_box (cs := [.sl (List.map encS x2.1.Sectors), .sl (List.map encWrite x2.1.Wait)]) (ds := [.sl (List.map encS x2.1.Sectors), .sl (List.map encWrite x2.1.Wait)]) rfl ⟨rn_sl encS_p rfl, rn_sl encWrite_p rfl, trivial⟩ (rw_nil)))
    · refine T.region ?_
      refine RS.op rfl (o_call (as0 := []) (as1 := []) (caps := []) (aw1 := [.box [.sl (List.map encS x2.1.Sectors), .sl (List.map encWrite x2.1.Wait)]]) rfl rfl rfl (k_flat (v := .bool x3) (crosslaw_logged_c x3 hx3) (trivial) rfl ?_))
      refine RS.op rfl (OP.q rfl (v_not rfl ?_))
      refine RS.op rfl (OP.q rfl (v_move (v := .bool (!x3)) rfl ?_))
      refine RS.yes rfl rfl rfl hb_1 (OP.q rfl (v_move (v := .int .i64 x2.2.2) rfl ?_))
      refine RS.yes rfl rfl rfl hb_1 (OP.q rfl (v_neq rfl rfl ?_))
      refine RS.op rfl (OP.q rfl (v_pickF (v := .bool (x2.2.2 != 0)) rfl hb_1 rfl ?_))
      refine RS.nil ?_
      exact T.weakR (hK () trivial) (Weak.mkN [] [0] (by decide) (none_kept _) rfl ⟨rn_sl encChoice_p rfl, rn_int rfl, rn_int rfl, rn_ptr rfl, rn_bool (by simp only [hb_1, Bool.true_or, Bool.or_true, Bool.false_or, Bool.or_false, Bool.true_and, Bool.and_true, Bool.false_and, Bool.and_false, Bool.not_true, Bool.not_false, if_true, if_false, Bool.false_eq_true, reduceIte]), trivial⟩ (rw_box (cs := [.sl (List.map encS x2.1.Sectors), .sl (List.map encWrite x2.1.Wait)]) (ds := [.sl (List.map encS x2.1.Sectors), .sl (List.map encWrite x2.1.Wait)]) rfl ⟨rn_sl encS_p rfl, rn_sl encWrite_p rfl, trivial⟩ (rw_nil)))
end Go.Proofs.Ytegkmfokfakeiaa
