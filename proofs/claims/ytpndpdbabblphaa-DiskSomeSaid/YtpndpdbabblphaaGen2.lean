/-
  The code computes these functions. Printed by a program of ours (wip/gen.py).
-/
import Derived.Test.YtpndpdbabblphaaGen1
namespace Go.Proofs.Ytpndpdbabblphaa
open Go.RowKit
set_option linter.unusedVariables false
set_option linter.unusedSimpArgs false
set_option maxRecDepth 100000
theorem crosslaw_DiskSome_c (p0 : Disk) (p1 : Int) (r : Bool) (h : crosslaw_DiskSome p0 p1 = some r) : Fn Try.prog 16 [.agg [.sl (List.map encS p0.Sectors), .sl (List.map encWrite p0.Wait)], .int .i64 p1] (.bool r) := by
  unfold crosslaw_DiskSome at h
  refine fn_of_T (N := 0) rfl Try.func16 rfl (by kernel_rfl) Try.ntmps16 rfl ?_
  show T _ _ _ _ (mkA 101 [(0, .agg [.sl (List.map encS p0.Sectors), .sl (List.map encWrite p0.Wait)]), (1, .int .i64 p1)]) []
  refine T.seq ?_
  refine T.region ?_
  refine RS.op rfl (o_box (cs := [.sl (List.map encS p0.Sectors), .sl (List.map encWrite p0.Wait)]) rfl rfl (aw' := [.box [.sl (List.map encS p0.Sectors), .sl (List.map encWrite p0.Wait)]]) rfl ?_)
  refine RS.op rfl (OP.q rfl (v_assign (v := .bool false) rfl ?_))
  refine RS.nil ?_
  refine T.seq ?_
  obtain ⟨x2, hx2, h⟩ := bind_some h
  refine T.region ?_
  refine RS.op rfl (o_load_ptr rfl rfl (loadRowA Ty.k72 Ty.c72 rfl (cs := [.sl (List.map encS p0.Sectors), .sl (List.map encWrite p0.Wait)]) rfl ?_))
  refine RS.op rfl (o_call (as0 := [.agg [.sl (List.map encS p0.Sectors), .sl (List.map encWrite p0.Wait)]]) (as1 := [.agg [.sl (List.map encS p0.Sectors), .sl (List.map encWrite p0.Wait)]]) (caps := []) (aw1 := [.box [.sl (List.map encS p0.Sectors), .sl (List.map encWrite p0.Wait)]]) rfl rfl rfl (k_fn (v := .tup [.agg [.sl (List.map encS x2.1.Sectors), .sl (List.map encWrite x2.1.Wait)], .int .i64 x2.2]) (disk_Flush_c p0 x2 hx2) (⟨pure_agg _ (pures_mem (⟨pure_map encS_p _, pure_map encWrite_p _, trivial⟩)), trivial⟩) (pure_tup _ (pures_mem (⟨pure_agg _ (pures_mem (⟨pure_map encS_p _, pure_map encWrite_p _, trivial⟩)), pure_int _ _, trivial⟩))) ?_))
  refine RS.op rfl (OP.q rfl (v_move (v := .tup [.agg [.sl (List.map encS x2.1.Sectors), .sl (List.map encWrite x2.1.Wait)], .int .i64 x2.2]) rfl ?_))
  refine RS.op rfl (OP.q rfl (v_extract (v := .agg [.sl (List.map encS x2.1.Sectors), .sl (List.map encWrite x2.1.Wait)]) rfl rfl ?_))
  refine RS.op rfl (OP.q rfl (v_extract (v := .int .i64 x2.2) rfl rfl ?_))
  refine RS.op rfl (o_alloc Ty.z72 rfl (aw' := [.box [.sl (List.map encS p0.Sectors), .sl (List.map encWrite p0.Wait)], .box [.nils, .nils]]) rfl ?_)
  refine RS.op rfl (o_store_ptr Ty.c72 Ty.i72 rfl (vs := [.sl (List.map encS x2.1.Sectors), .sl (List.map encWrite x2.1.Wait)]) rfl rfl rfl rfl (cs' := [.sl (List.map encS x2.1.Sectors), .sl (List.map encWrite x2.1.Wait)]) rfl (aw' := [.box [.sl (List.map encS p0.Sectors), .sl (List.map encWrite p0.Wait)], .box [.sl (List.map encS x2.1.Sectors), .sl (List.map encWrite x2.1.Wait)]]) rfl ?_)
  refine RS.op rfl (OP.q rfl (v_assign (v := .int .i64 x2.2) rfl ?_))
  refine RS.nil ?_
  refine T.seq ?_
  obtain ⟨x3, hx3, h⟩ := bind_some h
  refine T.join (Z := Unit) (fun _ => mkA 101 [(1, .int .i64 p1), (2, .ptr 0 0), (5, .ptr 1 0), (26, .bool ((!x3) || x2.2 != 0))]) (fun _ => [.box [.sl (List.map encS p0.Sectors), .sl (List.map encWrite p0.Wait)], .box [.sl (List.map encS x2.1.Sectors), .sl (List.map encWrite x2.1.Wait)]]) (fun _ => True) (fun _ _ => ?_) (fun hK => ?_)
  · show T _ _ _ _ (mkA 101 [(1, .int .i64 p1), (2, .ptr 0 0), (5, .ptr 1 0), (26, .bool ((!x3) || x2.2 != 0))]) [.box [.sl (List.map encS p0.Sectors), .sl (List.map encWrite p0.Wait)], .box [.sl (List.map encS x2.1.Sectors), .sl (List.map encWrite x2.1.Wait)]]
    refine T.cond (b := ((!x3) || x2.2 != 0)) rfl (fun hb_2 => ?_) (fun hb_2 => ?_)
    · replace h := ite_T h hb_2
      refine T.seq ?_
      obtain ⟨x6, hx6, h⟩ := bind_some h
      refine T.region ?_
      refine RS.op rfl (o_call (as0 := []) (as1 := []) (caps := []) (aw1 := [.box [.sl (List.map encS p0.Sectors), .sl (List.map encWrite p0.Wait)], .box [.sl (List.map encS x2.1.Sectors), .sl (List.map encWrite x2.1.Wait)]]) rfl rfl rfl (k_flat (v := .bool x6) (crosslaw_disked_c x6 hx6) (trivial) rfl ?_))
      refine RS.op rfl (OP.q rfl (v_assign (v := .bool x6) rfl ?_))
      refine RS.nil ?_
      refine T.ret' (R := ?R3) ?hq3 ?_
      case hq3 => repeat (first | exact RetIs.base | refine RetIs.thn ?_ | refine RetIs.blk ?_ | refine RetIs.lq ?_)
      refine res_tmpA (v := .bool x6) rfl ?_
      refine res_done ?_
      exact ret_data (v := .bool x6) rfl (pure_bool _) ⟨congrArg (fun r : Bool => (.bool r : AV)) (Option.some.inj h), rfl⟩
    · replace h := ite_F h hb_2
      refine T.skip ?_
      refine T.seq ?_
      refine T.region ?_
      refine RS.op rfl (OP.q rfl (v_assign (v := .nils) rfl ?_))
      refine RS.nil ?_
      refine T.seq ?_
      refine T.seq ?_
      refine T.region ?_
      refine RS.op rfl (OP.q rfl (v_fieldAddr_ptr Ty.f72_1 rfl (off' := 1) rfl ?_))
      refine RS.op rfl (o_load_ptr rfl rfl (loadRow1 Ty.k70 (c := .sl (List.map encWrite p0.Wait)) rfl ?_))
      refine RS.op rfl (OP.q rfl (v_len_sl Ty.s70 rfl ?_))
      refine RS.op rfl (OP.q rfl (v_move (v := .int .i64 0) rfl ?_))
      refine RS.nil ?_
      refine T.block ?_
      refine T.iter (fun ss_6 : Int × (List Int) => mkA 101 [(1, .int .i64 p1), (2, .ptr 0 0), (5, .ptr 1 0), (7, .ref 2), (30, .int .i64 ((p0.Wait).length : Int)), (31, .int .i64 ss_6.1)]) (fun ss_6 => [.box [.sl (List.map encS p0.Sectors), .sl (List.map encWrite p0.Wait)], .box [.sl (List.map encS x2.1.Sectors), .sl (List.map encWrite x2.1.Wait)], .arr 3 1 (List.map encI ss_6.2)]) h (Weak.mkN [(7, 3, 1)] [0, 1, 2] (by decide) (none_kept _) rfl ⟨rn_int rfl, rn_ptr rfl, rn_ptr rfl, rn_ref rfl, rn_int rfl, rn_int rfl, trivial⟩ (rw_box (cs := [.sl (List.map encS p0.Sectors), .sl (List.map encWrite p0.Wait)]) (ds := [.sl (List.map encS p0.Sectors), .sl (List.map encWrite p0.Wait)]) rfl ⟨rn_sl encS_p rfl, rn_sl encWrite_p rfl, trivial⟩ (rw_box (cs := [.sl (List.map encS x2.1.Sectors), .sl (List.map encWrite x2.1.Wait)]) (ds := [.sl (List.map encS x2.1.Sectors), .sl (List.map encWrite x2.1.Wait)]) rfl ⟨rn_sl encS_p rfl, rn_sl encWrite_p rfl, trivial⟩ (rw_arr (en := encI) (ys := []) rfl encI_p rfl (rw_nil))))) (fun ss_6 v_7 h hv_7 => ?_)
      obtain ⟨s7, s8⟩ := ss_6
      replace h : crosslaw_DiskSome_l1 p0 p1 x2 s7 s8 = some v_7 := h
      show T _ _ _ _ (mkA 101 [(1, .int .i64 p1), (2, .ptr 0 0), (5, .ptr 1 0), (7, .ref 2), (30, .int .i64 ((p0.Wait).length : Int)), (31, .int .i64 s7)]) [.box [.sl (List.map encS p0.Sectors), .sl (List.map encWrite p0.Wait)], .box [.sl (List.map encS x2.1.Sectors), .sl (List.map encWrite x2.1.Wait)], .arr 3 1 (List.map encI s8)]
      unfold crosslaw_DiskSome_l1 at h
      refine T.seq ?_
      refine T.region ?_
      refine RS.op rfl (OP.q rfl (v_lss rfl rfl ?_))
      refine RS.nil ?_
      refine T.seq ?_
      refine T.cond (b := decide (s7 < ((p0.Wait).length : Int))) rfl (fun hb_8 => ?_) (fun hb_8 => ?_)
      · replace h := ite_T h hb_8
        refine T.skip ?_
        refine T.seq ?_
        refine T.block ?_
        refine T.seq ?_
        refine T.region ?_
        refine RS.op rfl (OP.q rfl (v_move (v := .int .i64 s7) rfl ?_))
        refine RS.op rfl (OP.q rfl (v_assign (v := .int .i64 s7) rfl ?_))
        refine RS.nil ?_
        obtain ⟨x9, hx9, h⟩ := bind_some h
        refine T.region ?_
        refine RS.op rfl (OP.q rfl (v_move (v := .ref 2) rfl ?_))
        refine RS.op rfl (OP.q rfl (v_move (v := .int .i64 s7) rfl ?_))
        refine RS.op rfl (o_buildSlice (rows := List.map encI [s7]) (vs := [.int .i64 s7]) Ty.s24 Ty.z3 rfl rfl rfl rfl rfl (aw' := [.box [.sl (List.map encS p0.Sectors), .sl (List.map encWrite p0.Wait)], .box [.sl (List.map encS x2.1.Sectors), .sl (List.map encWrite x2.1.Wait)], .arr 3 1 (List.map encI s8), .arr 3 1 (List.map encI [s7])]) rfl ?_)
        refine RS.op rfl (o_app_ref (en := encI) (xs := s8) (ys := ([s7] : List Int)) Ty.s24 (fun _ => rfl) rfl rfl rfl hx9 rfl (aw' := [.box [.sl (List.map encS p0.Sectors), .sl (List.map encWrite p0.Wait)], .box [.sl (List.map encS x2.1.Sectors), .sl (List.map encWrite x2.1.Wait)], .dead, .dead, .arr 3 1 (List.map encI x9)]) rfl ?_)
        refine RS.op rfl (OP.q rfl (v_assign (v := .ref 4) rfl ?_))
        refine RS.nil ?_
        refine T.region ?_
        refine RS.op rfl (OP.q rfl (v_add rfl rfl ?_))
        refine RS.op rfl (OP.q rfl (v_move (v := .int .i64 (IntKind.i64.wrap (s7 + 1))) rfl ?_))
        refine RS.nil ?_
        exact ⟨(IntKind.i64.wrap (s7 + 1), x9), (Option.some.inj h).symm, Weak.mkN [] [0, 1, 4] (by decide) (none_kept _) rfl ⟨rn_int rfl, rn_ptr rfl, rn_ptr rfl, rn_ref rfl, rn_int rfl, rn_int rfl, trivial⟩ (rw_box (cs := [.sl (List.map encS p0.Sectors), .sl (List.map encWrite p0.Wait)]) (ds := [.sl (List.map encS p0.Sectors), .sl (List.map encWrite p0.Wait)]) rfl ⟨rn_sl encS_p rfl, rn_sl encWrite_p rfl, trivial⟩ (rw_box (cs := [.sl (List.map encS x2.1.Sectors), .sl (List.map encWrite x2.1.Wait)]) (ds := [.sl (List.map encS x2.1.Sectors), .sl (List.map encWrite x2.1.Wait)]) rfl ⟨rn_sl encS_p rfl, rn_sl encWrite_p rfl, trivial⟩ (rw_arr rfl encI_p rfl (rw_nil))))⟩
      · replace h := ite_F h hb_8
        refine T.exit ?_
        obtain ⟨w_9, h, hw_9⟩ := map_inr h
        replace h := h.trans (congrArg some (hv_7 _ hw_9))
        refine T.seq ?_
        obtain ⟨x13, hx13, h⟩ := bind_some h
        refine T.region ?_
        refine RS.op rfl (o_load_ptr rfl rfl (loadRowA Ty.k72 Ty.c72 rfl (cs := [.sl (List.map encS p0.Sectors), .sl (List.map encWrite p0.Wait)]) rfl ?_))
        refine RS.op rfl (OP.q rfl (v_move (v := .ref 2) rfl ?_))
        refine RS.fz 2 rfl rfl (aw' := [.box [.sl (List.map encS p0.Sectors), .sl (List.map encWrite p0.Wait)], .box [.sl (List.map encS x2.1.Sectors), .sl (List.map encWrite x2.1.Wait)], .dead]) rfl ?_
        refine RS.op rfl (o_call (as0 := [.agg [.sl (List.map encS p0.Sectors), .sl (List.map encWrite p0.Wait)], .sl (List.map encI s8)]) (as1 := [.agg [.sl (List.map encS p0.Sectors), .sl (List.map encWrite p0.Wait)], .sl (List.map encI s8)]) (caps := []) (aw1 := [.box [.sl (List.map encS p0.Sectors), .sl (List.map encWrite p0.Wait)], .box [.sl (List.map encS x2.1.Sectors), .sl (List.map encWrite x2.1.Wait)], .dead]) rfl rfl rfl (k_fn (v := .tup [.agg [.sl (List.map encS x13.1.Sectors), .sl (List.map encWrite x13.1.Wait)], .int .i64 x13.2]) (disk_Some_c p0 s8 x13 hx13) (⟨pure_agg _ (pures_mem (⟨pure_map encS_p _, pure_map encWrite_p _, trivial⟩)), pure_map encI_p _, trivial⟩) (pure_tup _ (pures_mem (⟨pure_agg _ (pures_mem (⟨pure_map encS_p _, pure_map encWrite_p _, trivial⟩)), pure_int _ _, trivial⟩))) ?_))
        refine RS.op rfl (OP.q rfl (v_move (v := .tup [.agg [.sl (List.map encS x13.1.Sectors), .sl (List.map encWrite x13.1.Wait)], .int .i64 x13.2]) rfl ?_))
        refine RS.op rfl (OP.q rfl (v_extract (v := .agg [.sl (List.map encS x13.1.Sectors), .sl (List.map encWrite x13.1.Wait)]) rfl rfl ?_))
        refine RS.op rfl (OP.q rfl (v_extract (v := .int .i64 x13.2) rfl rfl ?_))
        refine RS.op rfl (o_alloc Ty.z72 rfl (aw' := [.box [.sl (List.map encS p0.Sectors), .sl (List.map encWrite p0.Wait)], .box [.sl (List.map encS x2.1.Sectors), .sl (List.map encWrite x2.1.Wait)], .dead, .box [.nils, .nils]]) rfl ?_)
        refine RS.op rfl (o_store_ptr Ty.c72 Ty.i72 rfl (vs := [.sl (List.map encS x13.1.Sectors), .sl (List.map encWrite x13.1.Wait)]) rfl rfl rfl rfl (cs' := [.sl (List.map encS x13.1.Sectors), .sl (List.map encWrite x13.1.Wait)]) rfl (aw' := [.box [.sl (List.map encS p0.Sectors), .sl (List.map encWrite p0.Wait)], .box [.sl (List.map encS x2.1.Sectors), .sl (List.map encWrite x2.1.Wait)], .dead, .box [.sl (List.map encS x13.1.Sectors), .sl (List.map encWrite x13.1.Wait)]]) rfl ?_)
        refine RS.op rfl (OP.q rfl (v_assign (v := .int .i64 x13.2) rfl ?_))
        refine RS.nil ?_
        refine T.seq ?_
        obtain ⟨x15, hx15, h⟩ := bind_some h
        refine T.region ?_
        refine RS.op rfl (OP.q rfl (v_move (v := .int .i64 p1) rfl ?_))
        refine RS.op rfl (OP.q rfl (v_fieldAddr_ptr Ty.f72_1 rfl (off' := 1) rfl ?_))
        refine RS.op rfl (o_load_ptr rfl rfl (loadRow1 Ty.k70 (c := .sl (List.map encWrite p0.Wait)) rfl ?_))
        refine RS.op rfl (OP.q rfl (v_len_sl Ty.s70 rfl ?_))
        refine RS.op rfl (OP.q rfl (v_add rfl rfl ?_))
        refine RS.op rfl (o_call (as0 := [.int .i64 p1, .int .i64 (IntKind.i64.wrap (((p0.Wait).length : Int) + 1))]) (as1 := [.int .i64 p1, .int .i64 (IntKind.i64.wrap (((p0.Wait).length : Int) + 1))]) (caps := []) (aw1 := [.box [.sl (List.map encS p0.Sectors), .sl (List.map encWrite p0.Wait)], .box [.sl (List.map encS x2.1.Sectors), .sl (List.map encWrite x2.1.Wait)], .dead, .box [.sl (List.map encS x13.1.Sectors), .sl (List.map encWrite x13.1.Wait)]]) rfl rfl rfl (k_flat (v := .int .i64 x15) (crossref_At_c p1 (IntKind.i64.wrap (((p0.Wait).length : Int) + 1)) x15 hx15) (⟨pure_int _ _, pure_int _ _, trivial⟩) rfl ?_))
        refine RS.op rfl (OP.q rfl (v_assign (v := .int .i64 x15) rfl ?_))
        refine RS.nil ?_
        refine T.seq ?_
        obtain ⟨x18, hx18, h⟩ := bind_some h
        obtain ⟨x19, hx19, h⟩ := bind_some h
        refine T.drawn mixed (k := 11) rfl ?_
        refine RA.join 2 #[true, true, true, true, true, true, true, true, true, false, false] (mkA 101 [(1, .int .i64 x15), (2, .ptr 0 0), (5, .ptr 1 0), (6, .int .i64 x13.2), (7, .sl (List.map encI s8)), (9, .ptr 3 0), (10, .ptr 4 0), (30, .int .i64 ((p0.Wait).length : Int)), (31, .int .i64 s7), (32, .bool (decide (s7 < ((p0.Wait).length : Int)))), (39, .tup [.agg [.sl (List.map encS x13.1.Sectors), .sl (List.map encWrite x13.1.Wait)], .int .i64 x13.2]), (40, .agg [.sl (List.map encS p0.Sectors), .sl (List.map encWrite p0.Wait)]), (41, .sl (List.map encI s8)), (42, .tup [.agg [.sl (List.map encS x13.1.Sectors), .sl (List.map encWrite x13.1.Wait)], .int .i64 x13.2]), (43, .agg [.sl (List.map encS x13.1.Sectors), .sl (List.map encWrite x13.1.Wait)]), (44, .int .i64 x13.2), (45, .int .i64 p1), (46, .ptr 0 1), (47, .sl (List.map encWrite p0.Wait)), (48, .int .i64 ((p0.Wait).length : Int)), (49, .int .i64 (IntKind.i64.wrap (((p0.Wait).length : Int) + 1))), (50, .int .i64 x15), (51, .tup [.agg [.sl (List.map encS x19.1.Sectors), .sl (List.map encWrite x19.1.Wait)], .int .i64 x19.2]), (52, .agg [.sl (List.map encS p0.Sectors), .sl (List.map encWrite p0.Wait)]), (53, .sl (List.map encI s8)), (54, .int .i64 x15), (55, .sl (List.map encI x18)), (56, .tup [.agg [.sl (List.map encS x19.1.Sectors), .sl (List.map encWrite x19.1.Wait)], .int .i64 x19.2]), (57, .agg [.sl (List.map encS x19.1.Sectors), .sl (List.map encWrite x19.1.Wait)]), (58, .int .i64 x19.2)]) [.box [.sl (List.map encS p0.Sectors), .sl (List.map encWrite p0.Wait)], .box [.sl (List.map encS x2.1.Sectors), .sl (List.map encWrite x2.1.Wait)], .dead, .box [.sl (List.map encS x13.1.Sectors), .sl (List.map encWrite x13.1.Wait)], .box [.nils, .nils]] ?_ (fun hS10 => ?_)
        · refine RA.a1 (i1 := 9) (l1 := #[true, true, true, true, true, true, true, true, true, true, false]) (by decide +kernel) (by decide +kernel) ?_
          refine RO.op rfl rfl (o_store_ptr Ty.c72 Ty.i72 rfl (vs := [.sl (List.map encS x19.1.Sectors), .sl (List.map encWrite x19.1.Wait)]) rfl rfl rfl rfl (cs' := [.sl (List.map encS x19.1.Sectors), .sl (List.map encWrite x19.1.Wait)]) rfl (aw' := [.box [.sl (List.map encS p0.Sectors), .sl (List.map encWrite p0.Wait)], .box [.sl (List.map encS x2.1.Sectors), .sl (List.map encWrite x2.1.Wait)], .dead, .box [.sl (List.map encS x13.1.Sectors), .sl (List.map encWrite x13.1.Wait)], .box [.sl (List.map encS x19.1.Sectors), .sl (List.map encWrite x19.1.Wait)]]) rfl ?_)
          refine RA.t0 (i := 10) (li' := #[true, true, true, true, true, true, true, true, true, true, true]) rfl (by decide +kernel) (by decide +kernel) (by decide +kernel) (by decide +kernel) rfl rfl (v_assign (v := .int .i64 x19.2) rfl ?_)
          refine RA.done (by decide +kernel) ?_
          refine T.seq ?_
          obtain ⟨x21, hx21, h⟩ := bind_some h
          refine T.region ?_
          refine RS.op rfl (o_load_ptr rfl rfl (loadRowA Ty.k72 Ty.c72 rfl (cs := [.sl (List.map encS p0.Sectors), .sl (List.map encWrite p0.Wait)]) rfl ?_))
          refine RS.op rfl (OP.q rfl (v_move (v := .int .i64 x15) rfl ?_))
          refine RS.op rfl (o_call (as0 := [.agg [.sl (List.map encS p0.Sectors), .sl (List.map encWrite p0.Wait)], .int .i64 x15]) (as1 := [.agg [.sl (List.map encS p0.Sectors), .sl (List.map encWrite p0.Wait)], .int .i64 x15]) (caps := []) (aw1 := [.box [.sl (List.map encS p0.Sectors), .sl (List.map encWrite p0.Wait)], .box [.sl (List.map encS x2.1.Sectors), .sl (List.map encWrite x2.1.Wait)], .dead, .box [.sl (List.map encS x13.1.Sectors), .sl (List.map encWrite x13.1.Wait)], .box [.sl (List.map encS x19.1.Sectors), .sl (List.map encWrite x19.1.Wait)]]) rfl rfl rfl (k_fn (v := .tup [.agg [.sl (List.map encS x21.1.Sectors), .sl (List.map encWrite x21.1.Wait)], .int .i64 x21.2]) (disk_Cut_c p0 x15 x21 hx21) (⟨pure_agg _ (pures_mem (⟨pure_map encS_p _, pure_map encWrite_p _, trivial⟩)), pure_int _ _, trivial⟩) (pure_tup _ (pures_mem (⟨pure_agg _ (pures_mem (⟨pure_map encS_p _, pure_map encWrite_p _, trivial⟩)), pure_int _ _, trivial⟩))) ?_))
          refine RS.op rfl (OP.q rfl (v_move (v := .tup [.agg [.sl (List.map encS x21.1.Sectors), .sl (List.map encWrite x21.1.Wait)], .int .i64 x21.2]) rfl ?_))
          refine RS.op rfl (OP.q rfl (v_extract (v := .agg [.sl (List.map encS x21.1.Sectors), .sl (List.map encWrite x21.1.Wait)]) rfl rfl ?_))
          refine RS.op rfl (OP.q rfl (v_extract (v := .int .i64 x21.2) rfl rfl ?_))
          refine RS.op rfl (o_alloc Ty.z72 rfl (aw' := [.box [.sl (List.map encS p0.Sectors), .sl (List.map encWrite p0.Wait)], .box [.sl (List.map encS x2.1.Sectors), .sl (List.map encWrite x2.1.Wait)], .dead, .box [.sl (List.map encS x13.1.Sectors), .sl (List.map encWrite x13.1.Wait)], .box [.sl (List.map encS x19.1.Sectors), .sl (List.map encWrite x19.1.Wait)], .box [.nils, .nils]]) rfl ?_)
          refine RS.op rfl (o_store_ptr Ty.c72 Ty.i72 rfl (vs := [.sl (List.map encS x21.1.Sectors), .sl (List.map encWrite x21.1.Wait)]) rfl rfl rfl rfl (cs' := [.sl (List.map encS x21.1.Sectors), .sl (List.map encWrite x21.1.Wait)]) rfl (aw' := [.box [.sl (List.map encS p0.Sectors), .sl (List.map encWrite p0.Wait)], .box [.sl (List.map encS x2.1.Sectors), .sl (List.map encWrite x2.1.Wait)], .dead, .box [.sl (List.map encS x13.1.Sectors), .sl (List.map encWrite x13.1.Wait)], .box [.sl (List.map encS x19.1.Sectors), .sl (List.map encWrite x19.1.Wait)], .box [.sl (List.map encS x21.1.Sectors), .sl (List.map encWrite x21.1.Wait)]]) rfl ?_)
          refine RS.op rfl (OP.q rfl (v_assign (v := .int .i64 x21.2) rfl ?_))
          refine RS.nil ?_
          refine T.seq ?_
          obtain ⟨x23, hx23, h⟩ := bind_some h
          refine T.region ?_
          refine RS.op rfl (o_load_ptr rfl rfl (loadRowA Ty.k72 Ty.c72 rfl (cs := [.sl (List.map encS p0.Sectors), .sl (List.map encWrite p0.Wait)]) rfl ?_))
          refine RS.op rfl (o_call (as0 := [.agg [.sl (List.map encS p0.Sectors), .sl (List.map encWrite p0.Wait)], .nils]) (as1 := [.agg [.sl (List.map encS p0.Sectors), .sl (List.map encWrite p0.Wait)], .sl (List.map encI ([] : List Int))]) (caps := []) (aw1 := [.box [.sl (List.map encS p0.Sectors), .sl (List.map encWrite p0.Wait)], .box [.sl (List.map encS x2.1.Sectors), .sl (List.map encWrite x2.1.Wait)], .dead, .box [.sl (List.map encS x13.1.Sectors), .sl (List.map encWrite x13.1.Wait)], .box [.sl (List.map encS x19.1.Sectors), .sl (List.map encWrite x19.1.Wait)], .box [.sl (List.map encS x21.1.Sectors), .sl (List.map encWrite x21.1.Wait)]]) rfl rfl rfl (k_fn (v := .tup [.agg [.sl (List.map encS x23.1.Sectors), .sl (List.map encWrite x23.1.Wait)], .int .i64 x23.2]) (disk_Some_c p0 ([] : List Int) x23 hx23) (⟨pure_agg _ (pures_mem (⟨pure_map encS_p _, pure_map encWrite_p _, trivial⟩)), pure_map encI_p _, trivial⟩) (pure_tup _ (pures_mem (⟨pure_agg _ (pures_mem (⟨pure_map encS_p _, pure_map encWrite_p _, trivial⟩)), pure_int _ _, trivial⟩))) ?_))
          refine RS.op rfl (OP.q rfl (v_move (v := .tup [.agg [.sl (List.map encS x23.1.Sectors), .sl (List.map encWrite x23.1.Wait)], .int .i64 x23.2]) rfl ?_))
          refine RS.op rfl (OP.q rfl (v_extract (v := .agg [.sl (List.map encS x23.1.Sectors), .sl (List.map encWrite x23.1.Wait)]) rfl rfl ?_))
          refine RS.op rfl (OP.q rfl (v_extract (v := .int .i64 x23.2) rfl rfl ?_))
          refine RS.op rfl (o_alloc Ty.z72 rfl (aw' := [.box [.sl (List.map encS p0.Sectors), .sl (List.map encWrite p0.Wait)], .box [.sl (List.map encS x2.1.Sectors), .sl (List.map encWrite x2.1.Wait)], .dead, .box [.sl (List.map encS x13.1.Sectors), .sl (List.map encWrite x13.1.Wait)], .box [.sl (List.map encS x19.1.Sectors), .sl (List.map encWrite x19.1.Wait)], .box [.sl (List.map encS x21.1.Sectors), .sl (List.map encWrite x21.1.Wait)], .box [.nils, .nils]]) rfl ?_)
          refine RS.op rfl (o_store_ptr Ty.c72 Ty.i72 rfl (vs := [.sl (List.map encS x23.1.Sectors), .sl (List.map encWrite x23.1.Wait)]) rfl rfl rfl rfl (cs' := [.sl (List.map encS x23.1.Sectors), .sl (List.map encWrite x23.1.Wait)]) rfl (aw' := [.box [.sl (List.map encS p0.Sectors), .sl (List.map encWrite p0.Wait)], .box [.sl (List.map encS x2.1.Sectors), .sl (List.map encWrite x2.1.Wait)], .dead, .box [.sl (List.map encS x13.1.Sectors), .sl (List.map encWrite x13.1.Wait)], .box [.sl (List.map encS x19.1.Sectors), .sl (List.map encWrite x19.1.Wait)], .box [.sl (List.map encS x21.1.Sectors), .sl (List.map encWrite x21.1.Wait)], .box [.sl (List.map encS x23.1.Sectors), .sl (List.map encWrite x23.1.Wait)]]) rfl ?_)
          refine RS.op rfl (OP.q rfl (v_assign (v := .int .i64 x23.2) rfl ?_))
          refine RS.nil ?_
          obtain ⟨zt_18, hz, h⟩ := bind_some h
          revert hz h; revert zt_18; intro c27 hz h
          refine T.join (Z := Unit) (fun _ => mkA 101 [(4, .bool c27)]) (fun _ => []) (fun _ => True) (fun _ _ => ?_) (fun hK => ?_)
          · show T _ _ _ _ (mkA 101 [(4, .bool c27)]) []
            refine T.ret' (R := ?R19) ?hq19 ?_
            case hq19 => repeat (first | exact RetIs.base | refine RetIs.thn ?_ | refine RetIs.blk ?_ | refine RetIs.lq ?_)
            refine res_tmpA (v := .bool c27) rfl ?_
            refine res_done ?_
            exact ret_data (v := .bool c27) rfl (pure_bool _) ⟨congrArg (fun r : Bool => (.bool r : AV)) (Option.some.inj h), rfl⟩
          · rcases bool_cases (x13.2 == 0) with hb_12 | hb_12
            · replace hz := ite_T hz hb_12
              rcases bool_cases (x19.2 == 0) with hb_13 | hb_13
              · replace hz := ite_T hz hb_13
                rcases bool_cases (x21.2 == 0) with hb_14 | hb_14
                · replace hz := ite_T hz hb_14
                  rcases bool_cases (x23.2 == 0) with hb_15 | hb_15
                  · replace hz := ite_T hz hb_15
                    obtain ⟨x24, hx24, hz⟩ := bind_some hz
                    rcases bool_cases x24 with hb_16 | hb_16
                    · replace hz := ite_T hz hb_16
                      obtain ⟨x25, hx25, hz⟩ := bind_some hz
                      rcases bool_cases x25 with hb_17 | hb_17
                      · replace hz := ite_T hz hb_17
                        obtain ⟨x26, hx26, hz⟩ := bind_some hz
                        refine T.region ?_
                        refine RS.op rfl (OP.q rfl (v_move (v := .int .i64 x13.2) rfl ?_))
                        refine RS.op rfl (OP.q rfl (v_eql rfl rfl ?_))
                        refine RS.op rfl (OP.q rfl (v_move (v := .bool (x13.2 == 0)) rfl ?_))
                        refine RS.yes rfl rfl rfl hb_12 (OP.q rfl (v_move (v := .int .i64 x19.2) rfl ?_))
                        refine RS.yes rfl rfl rfl hb_12 (OP.q rfl (v_eql rfl rfl ?_))
                        refine RS.op rfl (OP.q rfl (v_pickT (v := .bool (x19.2 == 0)) rfl hb_12 rfl ?_))
                        refine RS.op rfl (OP.q rfl (v_move (v := .bool (x19.2 == 0)) rfl ?_))
                        refine RS.yes rfl rfl rfl hb_13 (OP.q rfl (v_move (v := .int .i64 x21.2) rfl ?_))
                        refine RS.yes rfl rfl rfl hb_13 (OP.q rfl (v_eql rfl rfl ?_))
                        refine RS.op rfl (OP.q rfl (v_pickT (v := .bool (x21.2 == 0)) rfl hb_13 rfl ?_))
                        refine RS.op rfl (OP.q rfl (v_move (v := .bool (x21.2 == 0)) rfl ?_))
                        refine RS.yes rfl rfl rfl hb_14 (OP.q rfl (v_move (v := .int .i64 x23.2) rfl ?_))
                        refine RS.yes rfl rfl rfl hb_14 (OP.q rfl (v_eql rfl rfl ?_))
                        refine RS.op rfl (OP.q rfl (v_pickT (v := .bool (x23.2 == 0)) rfl hb_14 rfl ?_))
                        refine RS.op rfl (OP.q rfl (v_move (v := .bool (x23.2 == 0)) rfl ?_))
                        refine RS.yes rfl rfl rfl hb_15 (o_load_ptr rfl rfl (loadRowA Ty.k72 Ty.c72 rfl (cs := [.sl (List.map encS x13.1.Sectors), .sl (List.map encWrite x13.1.Wait)]) rfl ?_))
                        refine RS.yes rfl rfl rfl hb_15 (o_load_ptr rfl rfl (loadRowA Ty.k72 Ty.c72 rfl (cs := [.sl (List.map encS x2.1.Sectors), .sl (List.map encWrite x2.1.Wait)]) rfl ?_))
                        refine RS.yes rfl rfl rfl hb_15 (o_call (as0 := [.agg [.sl (List.map encS x13.1.Sectors), .sl (List.map encWrite x13.1.Wait)], .agg [.sl (List.map encS x2.1.Sectors), .sl (List.map encWrite x2.1.Wait)]]) (as1 := [.agg [.sl (List.map encS x13.1.Sectors), .sl (List.map encWrite x13.1.Wait)], .agg [.sl (List.map encS x2.1.Sectors), .sl (List.map encWrite x2.1.Wait)]]) (caps := []) (aw1 := [.box [.sl (List.map encS p0.Sectors), .sl (List.map encWrite p0.Wait)], .box [.sl (List.map encS x2.1.Sectors), .sl (List.map encWrite x2.1.Wait)], .dead, .box [.sl (List.map encS x13.1.Sectors), .sl (List.map encWrite x13.1.Wait)], .box [.sl (List.map encS x19.1.Sectors), .sl (List.map encWrite x19.1.Wait)], .box [.sl (List.map encS x21.1.Sectors), .sl (List.map encWrite x21.1.Wait)], .box [.sl (List.map encS x23.1.Sectors), .sl (List.map encWrite x23.1.Wait)]]) rfl rfl rfl (k_flat (v := .bool x24) (crossref_SameDisk_c x13.1 x2.1 x24 hx24) (⟨pure_agg _ (pures_mem (⟨pure_map encS_p _, pure_map encWrite_p _, trivial⟩)), pure_agg _ (pures_mem (⟨pure_map encS_p _, pure_map encWrite_p _, trivial⟩)), trivial⟩) rfl ?_))
                        refine RS.op rfl (OP.q rfl (v_pickT (v := .bool x24) rfl hb_15 rfl ?_))
                        refine RS.op rfl (OP.q rfl (v_move (v := .bool x24) rfl ?_))
                        refine RS.yes rfl rfl rfl hb_16 (o_load_ptr rfl rfl (loadRowA Ty.k72 Ty.c72 rfl (cs := [.sl (List.map encS x19.1.Sectors), .sl (List.map encWrite x19.1.Wait)]) rfl ?_))
                        refine RS.yes rfl rfl rfl hb_16 (o_load_ptr rfl rfl (loadRowA Ty.k72 Ty.c72 rfl (cs := [.sl (List.map encS x21.1.Sectors), .sl (List.map encWrite x21.1.Wait)]) rfl ?_))
                        refine RS.yes rfl rfl rfl hb_16 (o_call (as0 := [.agg [.sl (List.map encS x19.1.Sectors), .sl (List.map encWrite x19.1.Wait)], .agg [.sl (List.map encS x21.1.Sectors), .sl (List.map encWrite x21.1.Wait)]]) (as1 := [.agg [.sl (List.map encS x19.1.Sectors), .sl (List.map encWrite x19.1.Wait)], .agg [.sl (List.map encS x21.1.Sectors), .sl (List.map encWrite x21.1.Wait)]]) (caps := []) (aw1 := [.box [.sl (List.map encS p0.Sectors), .sl (List.map encWrite p0.Wait)], .box [.sl (List.map encS x2.1.Sectors), .sl (List.map encWrite x2.1.Wait)], .dead, .box [.sl (List.map encS x13.1.Sectors), .sl (List.map encWrite x13.1.Wait)], .box [.sl (List.map encS x19.1.Sectors), .sl (List.map encWrite x19.1.Wait)], .box [.sl (List.map encS x21.1.Sectors), .sl (List.map encWrite x21.1.Wait)], .box [.sl (List.map encS x23.1.Sectors), .sl (List.map encWrite x23.1.Wait)]]) rfl rfl rfl (k_flat (v := .bool x25) (crossref_SameDisk_c x19.1 x21.1 x25 hx25) (⟨pure_agg _ (pures_mem (⟨pure_map encS_p _, pure_map encWrite_p _, trivial⟩)), pure_agg _ (pures_mem (⟨pure_map encS_p _, pure_map encWrite_p _, trivial⟩)), trivial⟩) rfl ?_))
                        refine RS.op rfl (OP.q rfl (v_pickT (v := .bool x25) rfl hb_16 rfl ?_))
                        refine RS.op rfl (OP.q rfl (v_move (v := .bool x25) rfl ?_))
                        refine RS.yes rfl rfl rfl hb_17 (OP.q rfl (v_fieldAddr_ptr Ty.f72_0 rfl (off' := 0) rfl ?_))
                        refine RS.yes rfl rfl rfl hb_17 (o_load_ptr rfl rfl (loadRow1 Ty.k29 (c := .sl (List.map encS x23.1.Sectors)) rfl ?_))
                        refine RS.yes rfl rfl rfl hb_17 (OP.q rfl (v_fieldAddr_ptr Ty.f72_0 rfl (off' := 0) rfl ?_))
                        refine RS.yes rfl rfl rfl hb_17 (o_load_ptr rfl rfl (loadRow1 Ty.k29 (c := .sl (List.map encS p0.Sectors)) rfl ?_))
                        refine RS.yes rfl rfl rfl hb_17 (o_call (as0 := [.sl (List.map encS x23.1.Sectors), .sl (List.map encS p0.Sectors)]) (as1 := [.sl (List.map encS x23.1.Sectors), .sl (List.map encS p0.Sectors)]) (caps := []) (aw1 := [.box [.sl (List.map encS p0.Sectors), .sl (List.map encWrite p0.Wait)], .box [.sl (List.map encS x2.1.Sectors), .sl (List.map encWrite x2.1.Wait)], .dead, .box [.sl (List.map encS x13.1.Sectors), .sl (List.map encWrite x13.1.Wait)], .box [.sl (List.map encS x19.1.Sectors), .sl (List.map encWrite x19.1.Wait)], .box [.sl (List.map encS x21.1.Sectors), .sl (List.map encWrite x21.1.Wait)], .box [.sl (List.map encS x23.1.Sectors), .sl (List.map encWrite x23.1.Wait)]]) rfl rfl rfl (k_flat (v := .bool x26) (slices_Equal_string_c x23.1.Sectors p0.Sectors x26 hx26) (⟨pure_map encS_p _, pure_map encS_p _, trivial⟩) rfl ?_))
                        refine RS.op rfl (OP.q rfl (v_pickT (v := .bool x26) rfl hb_17 rfl ?_))
                        refine RS.op rfl (OP.q rfl (v_assign (v := .bool x26) rfl ?_))
                        refine RS.nil ?_
                        exact T.weakR (hK () trivial) (Weak.mkN [] [] (by decide) (none_kept _) rfl ⟨rn_bool ((congrArg (fun p => p) (Option.some.inj hz)).symm), trivial⟩ (rw_nil))
                      · replace hz := ite_F hz hb_17
                        refine T.region ?_
                        refine RS.op rfl (OP.q rfl (v_move (v := .int .i64 x13.2) rfl ?_))
                        refine RS.op rfl (OP.q rfl (v_eql rfl rfl ?_))
                        refine RS.op rfl (OP.q rfl (v_move (v := .bool (x13.2 == 0)) rfl ?_))
                        refine RS.yes rfl rfl rfl hb_12 (OP.q rfl (v_move (v := .int .i64 x19.2) rfl ?_))
                        refine RS.yes rfl rfl rfl hb_12 (OP.q rfl (v_eql rfl rfl ?_))
                        refine RS.op rfl (OP.q rfl (v_pickT (v := .bool (x19.2 == 0)) rfl hb_12 rfl ?_))
                        refine RS.op rfl (OP.q rfl (v_move (v := .bool (x19.2 == 0)) rfl ?_))
                        refine RS.yes rfl rfl rfl hb_13 (OP.q rfl (v_move (v := .int .i64 x21.2) rfl ?_))
                        refine RS.yes rfl rfl rfl hb_13 (OP.q rfl (v_eql rfl rfl ?_))
                        refine RS.op rfl (OP.q rfl (v_pickT (v := .bool (x21.2 == 0)) rfl hb_13 rfl ?_))
                        refine RS.op rfl (OP.q rfl (v_move (v := .bool (x21.2 == 0)) rfl ?_))
                        refine RS.yes rfl rfl rfl hb_14 (OP.q rfl (v_move (v := .int .i64 x23.2) rfl ?_))
                        refine RS.yes rfl rfl rfl hb_14 (OP.q rfl (v_eql rfl rfl ?_))
                        refine RS.op rfl (OP.q rfl (v_pickT (v := .bool (x23.2 == 0)) rfl hb_14 rfl ?_))
                        refine RS.op rfl (OP.q rfl (v_move (v := .bool (x23.2 == 0)) rfl ?_))
                        refine RS.yes rfl rfl rfl hb_15 (o_load_ptr rfl rfl (loadRowA Ty.k72 Ty.c72 rfl (cs := [.sl (List.map encS x13.1.Sectors), .sl (List.map encWrite x13.1.Wait)]) rfl ?_))
                        refine RS.yes rfl rfl rfl hb_15 (o_load_ptr rfl rfl (loadRowA Ty.k72 Ty.c72 rfl (cs := [.sl (List.map encS x2.1.Sectors), .sl (List.map encWrite x2.1.Wait)]) rfl ?_))
                        refine RS.yes rfl rfl rfl hb_15 (o_call (as0 := [.agg [.sl (List.map encS x13.1.Sectors), .sl (List.map encWrite x13.1.Wait)], .agg [.sl (List.map encS x2.1.Sectors), .sl (List.map encWrite x2.1.Wait)]]) (as1 := [.agg [.sl (List.map encS x13.1.Sectors), .sl (List.map encWrite x13.1.Wait)], .agg [.sl (List.map encS x2.1.Sectors), .sl (List.map encWrite x2.1.Wait)]]) (caps := []) (aw1 := [.box [.sl (List.map encS p0.Sectors), .sl (List.map encWrite p0.Wait)], .box [.sl (List.map encS x2.1.Sectors), .sl (List.map encWrite x2.1.Wait)], .dead, .box [.sl (List.map encS x13.1.Sectors), .sl (List.map encWrite x13.1.Wait)], .box [.sl (List.map encS x19.1.Sectors), .sl (List.map encWrite x19.1.Wait)], .box [.sl (List.map encS x21.1.Sectors), .sl (List.map encWrite x21.1.Wait)], .box [.sl (List.map encS x23.1.Sectors), .sl (List.map encWrite x23.1.Wait)]]) rfl rfl rfl (k_flat (v := .bool x24) (crossref_SameDisk_c x13.1 x2.1 x24 hx24) (⟨pure_agg _ (pures_mem (⟨pure_map encS_p _, pure_map encWrite_p _, trivial⟩)), pure_agg _ (pures_mem (⟨pure_map encS_p _, pure_map encWrite_p _, trivial⟩)), trivial⟩) rfl ?_))
                        refine RS.op rfl (OP.q rfl (v_pickT (v := .bool x24) rfl hb_15 rfl ?_))
                        refine RS.op rfl (OP.q rfl (v_move (v := .bool x24) rfl ?_))
                        refine RS.yes rfl rfl rfl hb_16 (o_load_ptr rfl rfl (loadRowA Ty.k72 Ty.c72 rfl (cs := [.sl (List.map encS x19.1.Sectors), .sl (List.map encWrite x19.1.Wait)]) rfl ?_))
                        refine RS.yes rfl rfl rfl hb_16 (o_load_ptr rfl rfl (loadRowA Ty.k72 Ty.c72 rfl (cs := [.sl (List.map encS x21.1.Sectors), .sl (List.map encWrite x21.1.Wait)]) rfl ?_))
                        refine RS.yes rfl rfl rfl hb_16 (o_call (as0 := [.agg [.sl (List.map encS x19.1.Sectors), .sl (List.map encWrite x19.1.Wait)], .agg [.sl (List.map encS x21.1.Sectors), .sl (List.map encWrite x21.1.Wait)]]) (as1 := [.agg [.sl (List.map encS x19.1.Sectors), .sl (List.map encWrite x19.1.Wait)], .agg [.sl (List.map encS x21.1.Sectors), .sl (List.map encWrite x21.1.Wait)]]) (caps := []) (aw1 := [.box [.sl (List.map encS p0.Sectors), .sl (List.map encWrite p0.Wait)], .box [.sl (List.map encS x2.1.Sectors), .sl (List.map encWrite x2.1.Wait)], .dead, .box [.sl (List.map encS x13.1.Sectors), .sl (List.map encWrite x13.1.Wait)], .box [.sl (List.map encS x19.1.Sectors), .sl (List.map encWrite x19.1.Wait)], .box [.sl (List.map encS x21.1.Sectors), .sl (List.map encWrite x21.1.Wait)], .box [.sl (List.map encS x23.1.Sectors), .sl (List.map encWrite x23.1.Wait)]]) rfl rfl rfl (k_flat (v := .bool x25) (crossref_SameDisk_c x19.1 x21.1 x25 hx25) (⟨pure_agg _ (pures_mem (⟨pure_map encS_p _, pure_map encWrite_p _, trivial⟩)), pure_agg _ (pures_mem (⟨pure_map encS_p _, pure_map encWrite_p _, trivial⟩)), trivial⟩) rfl ?_))
                        refine RS.op rfl (OP.q rfl (v_pickT (v := .bool x25) rfl hb_16 rfl ?_))
                        refine RS.op rfl (OP.q rfl (v_move (v := .bool x25) rfl ?_))
                        refine RS.no rfl rfl rfl hb_17 ?_
                        refine RS.no rfl rfl rfl hb_17 ?_
                        refine RS.no rfl rfl rfl hb_17 ?_
                        refine RS.no rfl rfl rfl hb_17 ?_
                        refine RS.no rfl rfl rfl hb_17 ?_
                        refine RS.op rfl (OP.q rfl (v_pickF (v := .bool false) rfl hb_17 rfl ?_))
                        refine RS.op rfl (OP.q rfl (v_assign (v := .bool false) rfl ?_))
                        refine RS.nil ?_
                        exact T.weakR (hK () trivial) (Weak.mkN [] [] (by decide) (none_kept _) rfl ⟨rn_bool ((congrArg (fun p => p) (Option.some.inj hz)).symm), trivial⟩ (rw_nil))
                    · replace hz := ite_F hz hb_16
                      refine T.region ?_
                      refine RS.op rfl (OP.q rfl (v_move (v := .int .i64 x13.2) rfl ?_))
                      refine RS.op rfl (OP.q rfl (v_eql rfl rfl ?_))
                      refine RS.op rfl (OP.q rfl (v_move (v := .bool (x13.2 == 0)) rfl ?_))
                      refine RS.yes rfl rfl rfl hb_12 (OP.q rfl (v_move (v := .int .i64 x19.2) rfl ?_))
                      refine RS.yes rfl rfl rfl hb_12 (OP.q rfl (v_eql rfl rfl ?_))
                      refine RS.op rfl (OP.q rfl (v_pickT (v := .bool (x19.2 == 0)) rfl hb_12 rfl ?_))
                      refine RS.op rfl (OP.q rfl (v_move (v := .bool (x19.2 == 0)) rfl ?_))
                      refine RS.yes rfl rfl rfl hb_13 (OP.q rfl (v_move (v := .int .i64 x21.2) rfl ?_))
                      refine RS.yes rfl rfl rfl hb_13 (OP.q rfl (v_eql rfl rfl ?_))
                      refine RS.op rfl (OP.q rfl (v_pickT (v := .bool (x21.2 == 0)) rfl hb_13 rfl ?_))
                      refine RS.op rfl (OP.q rfl (v_move (v := .bool (x21.2 == 0)) rfl ?_))
                      refine RS.yes rfl rfl rfl hb_14 (OP.q rfl (v_move (v := .int .i64 x23.2) rfl ?_))
                      refine RS.yes rfl rfl rfl hb_14 (OP.q rfl (v_eql rfl rfl ?_))
                      refine RS.op rfl (OP.q rfl (v_pickT (v := .bool (x23.2 == 0)) rfl hb_14 rfl ?_))
                      refine RS.op rfl (OP.q rfl (v_move (v := .bool (x23.2 == 0)) rfl ?_))
                      refine RS.yes rfl rfl rfl hb_15 (o_load_ptr rfl rfl (loadRowA Ty.k72 Ty.c72 rfl (cs := [.sl (List.map encS x13.1.Sectors), .sl (List.map encWrite x13.1.Wait)]) rfl ?_))
                      refine RS.yes rfl rfl rfl hb_15 (o_load_ptr rfl rfl (loadRowA Ty.k72 Ty.c72 rfl (cs := [.sl (List.map encS x2.1.Sectors), .sl (List.map encWrite x2.1.Wait)]) rfl ?_))
                      refine RS.yes rfl rfl rfl hb_15 (o_call (as0 := [.agg [.sl (List.map encS x13.1.Sectors), .sl (List.map encWrite x13.1.Wait)], .agg [.sl (List.map encS x2.1.Sectors), .sl (List.map encWrite x2.1.Wait)]]) (as1 := [.agg [.sl (List.map encS x13.1.Sectors), .sl (List.map encWrite x13.1.Wait)], .agg [.sl (List.map encS x2.1.Sectors), .sl (List.map encWrite x2.1.Wait)]]) (caps := []) (aw1 := [.box [.sl (List.map encS p0.Sectors), .sl (List.map encWrite p0.Wait)], .box [.sl (List.map encS x2.1.Sectors), .sl (List.map encWrite x2.1.Wait)], .dead, .box [.sl (List.map encS x13.1.Sectors), .sl (List.map encWrite x13.1.Wait)], .box [.sl (List.map encS x19.1.Sectors), .sl (List.map encWrite x19.1.Wait)], .box [.sl (List.map encS x21.1.Sectors), .sl (List.map encWrite x21.1.Wait)], .box [.sl (List.map encS x23.1.Sectors), .sl (List.map encWrite x23.1.Wait)]]) rfl rfl rfl (k_flat (v := .bool x24) (crossref_SameDisk_c x13.1 x2.1 x24 hx24) (⟨pure_agg _ (pures_mem (⟨pure_map encS_p _, pure_map encWrite_p _, trivial⟩)), pure_agg _ (pures_mem (⟨pure_map encS_p _, pure_map encWrite_p _, trivial⟩)), trivial⟩) rfl ?_))
                      refine RS.op rfl (OP.q rfl (v_pickT (v := .bool x24) rfl hb_15 rfl ?_))
                      refine RS.op rfl (OP.q rfl (v_move (v := .bool x24) rfl ?_))
                      refine RS.no rfl rfl rfl hb_16 ?_
                      refine RS.no rfl rfl rfl hb_16 ?_
                      refine RS.no rfl rfl rfl hb_16 ?_
                      refine RS.op rfl (OP.q rfl (v_pickF (v := .bool false) rfl hb_16 rfl ?_))
                      refine RS.op rfl (OP.q rfl (v_move (v := .bool false) rfl ?_))
                      refine RS.no rfl rfl rfl rfl ?_
                      refine RS.no rfl rfl rfl rfl ?_
                      refine RS.no rfl rfl rfl rfl ?_
                      refine RS.no rfl rfl rfl rfl ?_
                      refine RS.no rfl rfl rfl rfl ?_
                      refine RS.op rfl (OP.q rfl (v_pickF (v := .bool false) rfl rfl rfl ?_))
                      refine RS.op rfl (OP.q rfl (v_assign (v := .bool false) rfl ?_))
                      refine RS.nil ?_
                      exact T.weakR (hK () trivial) (Weak.mkN [] [] (by decide) (none_kept _) rfl ⟨rn_bool ((congrArg (fun p => p) (Option.some.inj hz)).symm), trivial⟩ (rw_nil))
                  · replace hz := ite_F hz hb_15
                    refine T.region ?_
                    refine RS.op rfl (OP.q rfl (v_move (v := .int .i64 x13.2) rfl ?_))
                    refine RS.op rfl (OP.q rfl (v_eql rfl rfl ?_))
                    refine RS.op rfl (OP.q rfl (v_move (v := .bool (x13.2 == 0)) rfl ?_))
                    refine RS.yes rfl rfl rfl hb_12 (OP.q rfl (v_move (v := .int .i64 x19.2) rfl ?_))
                    refine RS.yes rfl rfl rfl hb_12 (OP.q rfl (v_eql rfl rfl ?_))
                    refine RS.op rfl (OP.q rfl (v_pickT (v := .bool (x19.2 == 0)) rfl hb_12 rfl ?_))
                    refine RS.op rfl (OP.q rfl (v_move (v := .bool (x19.2 == 0)) rfl ?_))
                    refine RS.yes rfl rfl rfl hb_13 (OP.q rfl (v_move (v := .int .i64 x21.2) rfl ?_))
                    refine RS.yes rfl rfl rfl hb_13 (OP.q rfl (v_eql rfl rfl ?_))
                    refine RS.op rfl (OP.q rfl (v_pickT (v := .bool (x21.2 == 0)) rfl hb_13 rfl ?_))
                    refine RS.op rfl (OP.q rfl (v_move (v := .bool (x21.2 == 0)) rfl ?_))
                    refine RS.yes rfl rfl rfl hb_14 (OP.q rfl (v_move (v := .int .i64 x23.2) rfl ?_))
                    refine RS.yes rfl rfl rfl hb_14 (OP.q rfl (v_eql rfl rfl ?_))
                    refine RS.op rfl (OP.q rfl (v_pickT (v := .bool (x23.2 == 0)) rfl hb_14 rfl ?_))
                    refine RS.op rfl (OP.q rfl (v_move (v := .bool (x23.2 == 0)) rfl ?_))
                    refine RS.no rfl rfl rfl hb_15 ?_
                    refine RS.no rfl rfl rfl hb_15 ?_
                    refine RS.no rfl rfl rfl hb_15 ?_
                    refine RS.op rfl (OP.q rfl (v_pickF (v := .bool false) rfl hb_15 rfl ?_))
                    refine RS.op rfl (OP.q rfl (v_move (v := .bool false) rfl ?_))
                    refine RS.no rfl rfl rfl rfl ?_
                    refine RS.no rfl rfl rfl rfl ?_
                    refine RS.no rfl rfl rfl rfl ?_
                    refine RS.op rfl (OP.q rfl (v_pickF (v := .bool false) rfl rfl rfl ?_))
                    refine RS.op rfl (OP.q rfl (v_move (v := .bool false) rfl ?_))
                    refine RS.no rfl rfl rfl rfl ?_
                    refine RS.no rfl rfl rfl rfl ?_
                    refine RS.no rfl rfl rfl rfl ?_
                    refine RS.no rfl rfl rfl rfl ?_
                    refine RS.no rfl rfl rfl rfl ?_
                    refine RS.op rfl (OP.q rfl (v_pickF (v := .bool false) rfl rfl rfl ?_))
                    refine RS.op rfl (OP.q rfl (v_assign (v := .bool false) rfl ?_))
                    refine RS.nil ?_
                    exact T.weakR (hK () trivial) (Weak.mkN [] [] (by decide) (none_kept _) rfl ⟨rn_bool ((congrArg (fun p => p) (Option.some.inj hz)).symm), trivial⟩ (rw_nil))
                · replace hz := ite_F hz hb_14
                  refine T.region ?_
                  refine RS.op rfl (OP.q rfl (v_move (v := .int .i64 x13.2) rfl ?_))
                  refine RS.op rfl (OP.q rfl (v_eql rfl rfl ?_))
                  refine RS.op rfl (OP.q rfl (v_move (v := .bool (x13.2 == 0)) rfl ?_))
                  refine RS.yes rfl rfl rfl hb_12 (OP.q rfl (v_move (v := .int .i64 x19.2) rfl ?_))
                  refine RS.yes rfl rfl rfl hb_12 (OP.q rfl (v_eql rfl rfl ?_))
                  refine RS.op rfl (OP.q rfl (v_pickT (v := .bool (x19.2 == 0)) rfl hb_12 rfl ?_))
                  refine RS.op rfl (OP.q rfl (v_move (v := .bool (x19.2 == 0)) rfl ?_))
                  refine RS.yes rfl rfl rfl hb_13 (OP.q rfl (v_move (v := .int .i64 x21.2) rfl ?_))
                  refine RS.yes rfl rfl rfl hb_13 (OP.q rfl (v_eql rfl rfl ?_))
                  refine RS.op rfl (OP.q rfl (v_pickT (v := .bool (x21.2 == 0)) rfl hb_13 rfl ?_))
                  refine RS.op rfl (OP.q rfl (v_move (v := .bool (x21.2 == 0)) rfl ?_))
                  refine RS.no rfl rfl rfl hb_14 ?_
                  refine RS.no rfl rfl rfl hb_14 ?_
                  refine RS.op rfl (OP.q rfl (v_pickF (v := .bool false) rfl hb_14 rfl ?_))
                  refine RS.op rfl (OP.q rfl (v_move (v := .bool false) rfl ?_))
                  refine RS.no rfl rfl rfl rfl ?_
                  refine RS.no rfl rfl rfl rfl ?_
                  refine RS.no rfl rfl rfl rfl ?_
                  refine RS.op rfl (OP.q rfl (v_pickF (v := .bool false) rfl rfl rfl ?_))
                  refine RS.op rfl (OP.q rfl (v_move (v := .bool false) rfl ?_))
                  refine RS.no rfl rfl rfl rfl ?_
                  refine RS.no rfl rfl rfl rfl ?_
                  refine RS.no rfl rfl rfl rfl ?_
                  refine RS.op rfl (OP.q rfl (v_pickF (v := .bool false) rfl rfl rfl ?_))
                  refine RS.op rfl (OP.q rfl (v_move (v := .bool false) rfl ?_))
                  refine RS.no rfl rfl rfl rfl ?_
                  refine RS.no rfl rfl rfl rfl ?_
                  refine RS.no rfl rfl rfl rfl ?_
                  refine RS.no rfl rfl rfl rfl ?_
                  refine RS.no rfl rfl rfl rfl ?_
                  refine RS.op rfl (OP.q rfl (v_pickF (v := .bool false) rfl rfl rfl ?_))
                  refine RS.op rfl (OP.q rfl (v_assign (v := .bool false) rfl ?_))
                  refine RS.nil ?_
                  exact T.weakR (hK () trivial) (Weak.mkN [] [] (by decide) (none_kept _) rfl ⟨rn_bool ((congrArg (fun p => p) (Option.some.inj hz)).symm), trivial⟩ (rw_nil))
              · replace hz := ite_F hz hb_13
                refine T.region ?_
                refine RS.op rfl (OP.q rfl (v_move (v := .int .i64 x13.2) rfl ?_))
                refine RS.op rfl (OP.q rfl (v_eql rfl rfl ?_))
                refine RS.op rfl (OP.q rfl (v_move (v := .bool (x13.2 == 0)) rfl ?_))
                refine RS.yes rfl rfl rfl hb_12 (OP.q rfl (v_move (v := .int .i64 x19.2) rfl ?_))
                refine RS.yes rfl rfl rfl hb_12 (OP.q rfl (v_eql rfl rfl ?_))
                refine RS.op rfl (OP.q rfl (v_pickT (v := .bool (x19.2 == 0)) rfl hb_12 rfl ?_))
                refine RS.op rfl (OP.q rfl (v_move (v := .bool (x19.2 == 0)) rfl ?_))
                refine RS.no rfl rfl rfl hb_13 ?_
                refine RS.no rfl rfl rfl hb_13 ?_
                refine RS.op rfl (OP.q rfl (v_pickF (v := .bool false) rfl hb_13 rfl ?_))
                refine RS.op rfl (OP.q rfl (v_move (v := .bool false) rfl ?_))
                refine RS.no rfl rfl rfl rfl ?_
                refine RS.no rfl rfl rfl rfl ?_
                refine RS.op rfl (OP.q rfl (v_pickF (v := .bool false) rfl rfl rfl ?_))
                refine RS.op rfl (OP.q rfl (v_move (v := .bool false) rfl ?_))
                refine RS.no rfl rfl rfl rfl ?_
                refine RS.no rfl rfl rfl rfl ?_
                refine RS.no rfl rfl rfl rfl ?_
                refine RS.op rfl (OP.q rfl (v_pickF (v := .bool false) rfl rfl rfl ?_))
                refine RS.op rfl (OP.q rfl (v_move (v := .bool false) rfl ?_))
                refine RS.no rfl rfl rfl rfl ?_
                refine RS.no rfl rfl rfl rfl ?_
                refine RS.no rfl rfl rfl rfl ?_
                refine RS.op rfl (OP.q rfl (v_pickF (v := .bool false) rfl rfl rfl ?_))
                refine RS.op rfl (OP.q rfl (v_move (v := .bool false) rfl ?_))
                refine RS.no rfl rfl rfl rfl ?_
                refine RS.no rfl rfl rfl rfl ?_
                refine RS.no rfl rfl rfl rfl ?_
                refine RS.no rfl rfl rfl rfl ?_
                refine RS.no rfl rfl rfl rfl ?_
                refine RS.op rfl (OP.q rfl (v_pickF (v := .bool false) rfl rfl rfl ?_))
                refine RS.op rfl (OP.q rfl (v_assign (v := .bool false) rfl ?_))
                refine RS.nil ?_
                exact T.weakR (hK () trivial) (Weak.mkN [] [] (by decide) (none_kept _) rfl ⟨rn_bool ((congrArg (fun p => p) (Option.some.inj hz)).symm), trivial⟩ (rw_nil))
            · replace hz := ite_F hz hb_12
              refine T.region ?_
              refine RS.op rfl (OP.q rfl (v_move (v := .int .i64 x13.2) rfl ?_))
              refine RS.op rfl (OP.q rfl (v_eql rfl rfl ?_))
              refine RS.op rfl (OP.q rfl (v_move (v := .bool (x13.2 == 0)) rfl ?_))
              refine RS.no rfl rfl rfl hb_12 ?_
              refine RS.no rfl rfl rfl hb_12 ?_
              refine RS.op rfl (OP.q rfl (v_pickF (v := .bool false) rfl hb_12 rfl ?_))
              refine RS.op rfl (OP.q rfl (v_move (v := .bool false) rfl ?_))
              refine RS.no rfl rfl rfl rfl ?_
              refine RS.no rfl rfl rfl rfl ?_
              refine RS.op rfl (OP.q rfl (v_pickF (v := .bool false) rfl rfl rfl ?_))
              refine RS.op rfl (OP.q rfl (v_move (v := .bool false) rfl ?_))
              refine RS.no rfl rfl rfl rfl ?_
              refine RS.no rfl rfl rfl rfl ?_
              refine RS.op rfl (OP.q rfl (v_pickF (v := .bool false) rfl rfl rfl ?_))
              refine RS.op rfl (OP.q rfl (v_move (v := .bool false) rfl ?_))
              refine RS.no rfl rfl rfl rfl ?_
              refine RS.no rfl rfl rfl rfl ?_
              refine RS.no rfl rfl rfl rfl ?_
              refine RS.op rfl (OP.q rfl (v_pickF (v := .bool false) rfl rfl rfl ?_))
              refine RS.op rfl (OP.q rfl (v_move (v := .bool false) rfl ?_))
              refine RS.no rfl rfl rfl rfl ?_
              refine RS.no rfl rfl rfl rfl ?_
              refine RS.no rfl rfl rfl rfl ?_
              refine RS.op rfl (OP.q rfl (v_pickF (v := .bool false) rfl rfl rfl ?_))
              refine RS.op rfl (OP.q rfl (v_move (v := .bool false) rfl ?_))
              refine RS.no rfl rfl rfl rfl ?_
              refine RS.no rfl rfl rfl rfl ?_
              refine RS.no rfl rfl rfl rfl ?_
              refine RS.no rfl rfl rfl rfl ?_
              refine RS.no rfl rfl rfl rfl ?_
              refine RS.op rfl (OP.q rfl (v_pickF (v := .bool false) rfl rfl rfl ?_))
              refine RS.op rfl (OP.q rfl (v_assign (v := .bool false) rfl ?_))
              refine RS.nil ?_
              exact T.weakR (hK () trivial) (Weak.mkN [] [] (by decide) (none_kept _) rfl ⟨rn_bool ((congrArg (fun p => p) (Option.some.inj hz)).symm), trivial⟩ (rw_nil))
        · refine RA.join 6 #[true, true, true, true, false, false, false, false, true, false, false] (mkA 101 [(1, .int .i64 x15), (2, .ptr 0 0), (5, .ptr 1 0), (6, .int .i64 x13.2), (7, .sl (List.map encI s8)), (9, .ptr 3 0), (10, .ptr 4 0), (30, .int .i64 ((p0.Wait).length : Int)), (31, .int .i64 s7), (32, .bool (decide (s7 < ((p0.Wait).length : Int)))), (39, .tup [.agg [.sl (List.map encS x13.1.Sectors), .sl (List.map encWrite x13.1.Wait)], .int .i64 x13.2]), (40, .agg [.sl (List.map encS p0.Sectors), .sl (List.map encWrite p0.Wait)]), (41, .sl (List.map encI s8)), (42, .tup [.agg [.sl (List.map encS x13.1.Sectors), .sl (List.map encWrite x13.1.Wait)], .int .i64 x13.2]), (43, .agg [.sl (List.map encS x13.1.Sectors), .sl (List.map encWrite x13.1.Wait)]), (44, .int .i64 x13.2), (45, .int .i64 p1), (46, .ptr 0 1), (47, .sl (List.map encWrite p0.Wait)), (48, .int .i64 ((p0.Wait).length : Int)), (49, .int .i64 (IntKind.i64.wrap (((p0.Wait).length : Int) + 1))), (50, .int .i64 x15), (52, .agg [.sl (List.map encS p0.Sectors), .sl (List.map encWrite p0.Wait)]), (53, .sl (List.map encI s8)), (54, .int .i64 x15), (55, .sl (List.map encI x18))]) [.box [.sl (List.map encS p0.Sectors), .sl (List.map encWrite p0.Wait)], .box [.sl (List.map encS x2.1.Sectors), .sl (List.map encWrite x2.1.Wait)], .dead, .box [.sl (List.map encS x13.1.Sectors), .sl (List.map encWrite x13.1.Wait)], .box [.nils, .nils]] ?_ (fun hS11 => ?_)
          · refine RA.a1 (i1 := 4) (l1 := #[true, true, true, true, true, false, false, false, true, false, false]) (by decide +kernel) (by decide +kernel) ?_
            refine RO.op rfl rfl (o_call (as0 := [.agg [.sl (List.map encS p0.Sectors), .sl (List.map encWrite p0.Wait)], .sl (List.map encI x18)]) (as1 := [.agg [.sl (List.map encS p0.Sectors), .sl (List.map encWrite p0.Wait)], .sl (List.map encI x18)]) (caps := []) (aw1 := [.box [.sl (List.map encS p0.Sectors), .sl (List.map encWrite p0.Wait)], .box [.sl (List.map encS x2.1.Sectors), .sl (List.map encWrite x2.1.Wait)], .dead, .box [.sl (List.map encS x13.1.Sectors), .sl (List.map encWrite x13.1.Wait)], .box [.nils, .nils]]) rfl rfl rfl (k_fn (v := .tup [.agg [.sl (List.map encS x19.1.Sectors), .sl (List.map encWrite x19.1.Wait)], .int .i64 x19.2]) (disk_Some_c p0 x18 x19 hx19) (⟨pure_agg _ (pures_mem (⟨pure_map encS_p _, pure_map encWrite_p _, trivial⟩)), pure_map encI_p _, trivial⟩) (pure_tup _ (pures_mem (⟨pure_agg _ (pures_mem (⟨pure_map encS_p _, pure_map encWrite_p _, trivial⟩)), pure_int _ _, trivial⟩))) ?_))
            refine RA.t0 (i := 5) (li' := #[true, true, true, true, true, true, false, false, true, false, false]) rfl (by decide +kernel) (by decide +kernel) (by decide +kernel) (by decide +kernel) rfl rfl (v_move (v := .tup [.agg [.sl (List.map encS x19.1.Sectors), .sl (List.map encWrite x19.1.Wait)], .int .i64 x19.2]) rfl ?_)
            refine RA.t0 (i := 6) (li' := #[true, true, true, true, true, true, true, false, true, false, false]) rfl (by decide +kernel) (by decide +kernel) (by decide +kernel) (by decide +kernel) rfl rfl (v_extract (v := .agg [.sl (List.map encS x19.1.Sectors), .sl (List.map encWrite x19.1.Wait)]) rfl rfl ?_)
            refine RA.t0 (i := 7) (li' := #[true, true, true, true, true, true, true, true, true, false, false]) rfl (by decide +kernel) (by decide +kernel) (by decide +kernel) (by decide +kernel) rfl rfl (v_extract (v := .int .i64 x19.2) rfl rfl ?_)
            exact RA.weakR hS10 (Weak.mkN [] [0, 1, 2, 3, 4] (by decide) (none_kept _) rfl ⟨rn_int rfl, rn_ptr rfl, rn_ptr rfl, rn_int rfl, rn_sl encI_p rfl, rn_ptr rfl, rn_ptr rfl, rn_int rfl, rn_int rfl, rn_bool rfl, rn_tup ⟨rn_agg ⟨rn_sl encS_p rfl, rn_sl encWrite_p rfl, trivial⟩, rn_int rfl, trivial⟩, rn_agg ⟨rn_sl encS_p rfl, rn_sl encWrite_p rfl, trivial⟩, rn_sl encI_p rfl, rn_tup ⟨rn_agg ⟨rn_sl encS_p rfl, rn_sl encWrite_p rfl, trivial⟩, rn_int rfl, trivial⟩, rn_agg ⟨rn_sl encS_p rfl, rn_sl encWrite_p rfl, trivial⟩, rn_int rfl, rn_int rfl, rn_ptr rfl, rn_sl encWrite_p rfl, rn_int rfl, rn_int rfl, rn_int rfl, rn_tup ⟨rn_agg ⟨rn_sl encS_p rfl, rn_sl encWrite_p rfl, trivial⟩, rn_int rfl, trivial⟩, rn_agg ⟨rn_sl encS_p rfl, rn_sl encWrite_p rfl, trivial⟩, rn_sl encI_p rfl, rn_int rfl, rn_sl encI_p rfl, rn_tup ⟨rn_agg ⟨rn_sl encS_p rfl, rn_sl encWrite_p rfl, trivial⟩, rn_int rfl, trivial⟩, rn_agg ⟨rn_sl encS_p rfl, rn_sl encWrite_p rfl, trivial⟩, rn_int rfl, trivial⟩ (rw_box (cs := [.sl (List.map encS p0.Sectors), .sl (List.map encWrite p0.Wait)]) (ds := [.sl (List.map encS p0.Sectors), .sl (List.map encWrite p0.Wait)]) rfl ⟨rn_sl encS_p rfl, rn_sl encWrite_p rfl, trivial⟩ (rw_box (cs := [.sl (List.map encS x2.1.Sectors), .sl (List.map encWrite x2.1.Wait)]) (ds := [.sl (List.map encS x2.1.Sectors), .sl (List.map encWrite x2.1.Wait)]) rfl ⟨rn_sl encS_p rfl, rn_sl encWrite_p rfl, trivial⟩ (rw_dead rfl (rw_box (cs := [.sl (List.map encS x13.1.Sectors), .sl (List.map encWrite x13.1.Wait)]) (ds := [.sl (List.map encS x13.1.Sectors), .sl (List.map encWrite x13.1.Wait)]) rfl ⟨rn_sl encS_p rfl, rn_sl encWrite_p rfl, trivial⟩ (rw_box (cs := [.nils, .nils]) (ds := [.nils, .nils]) rfl ⟨rn_same pure_nils, rn_same pure_nils, trivial⟩ (rw_nil)))))))
          · refine RA.t0 (i := 1) (li' := #[false, true, false, false, false, false, false, false, false, false, false]) rfl (by decide +kernel) (by decide +kernel) (by decide +kernel) (by decide +kernel) rfl rfl (v_move (v := .sl (List.map encI s8)) rfl ?_)
            refine RA.t0 (i := 2) (li' := #[false, true, true, false, false, false, false, false, false, false, false]) rfl (by decide +kernel) (by decide +kernel) (by decide +kernel) (by decide +kernel) rfl rfl (v_move (v := .int .i64 x15) rfl ?_)
            refine RA.t0 (i := 3) (li' := #[false, true, true, true, false, false, false, false, false, false, false]) rfl (by decide +kernel) (by decide +kernel) (by decide +kernel) (by decide +kernel) rfl rfl (v_slice_sl Ty.s24 (fun _ => rfl) rfl rfl rfl hx18 ?_)
            refine RA.a2 (i1 := 0) (l1 := #[true, true, true, true, false, false, false, false, false, false, false]) (i2 := 8) (l2 := #[false, true, true, true, false, false, false, false, true, false, false]) (by decide +kernel) (by decide +kernel) (by decide +kernel) ?_ ?_
            · refine RO.op rfl rfl (o_load_ptr rfl rfl (loadRowA Ty.k72 Ty.c72 rfl (cs := [.sl (List.map encS p0.Sectors), .sl (List.map encWrite p0.Wait)]) rfl ?_))
              refine RA.a2 (i1 := 4) (l1 := #[true, true, true, true, true, false, false, false, false, false, false]) (i2 := 8) (l2 := #[true, true, true, true, false, false, false, false, true, false, false]) (by decide +kernel) (by decide +kernel) (by decide +kernel) ?_ ?_
              · refine RO.op rfl rfl (o_call (as0 := [.agg [.sl (List.map encS p0.Sectors), .sl (List.map encWrite p0.Wait)], .sl (List.map encI x18)]) (as1 := [.agg [.sl (List.map encS p0.Sectors), .sl (List.map encWrite p0.Wait)], .sl (List.map encI x18)]) (caps := []) (aw1 := [.box [.sl (List.map encS p0.Sectors), .sl (List.map encWrite p0.Wait)], .box [.sl (List.map encS x2.1.Sectors), .sl (List.map encWrite x2.1.Wait)], .dead, .box [.sl (List.map encS x13.1.Sectors), .sl (List.map encWrite x13.1.Wait)]]) rfl rfl rfl (k_fn (v := .tup [.agg [.sl (List.map encS x19.1.Sectors), .sl (List.map encWrite x19.1.Wait)], .int .i64 x19.2]) (disk_Some_c p0 x18 x19 hx19) (⟨pure_agg _ (pures_mem (⟨pure_map encS_p _, pure_map encWrite_p _, trivial⟩)), pure_map encI_p _, trivial⟩) (pure_tup _ (pures_mem (⟨pure_agg _ (pures_mem (⟨pure_map encS_p _, pure_map encWrite_p _, trivial⟩)), pure_int _ _, trivial⟩))) ?_))
                refine RA.t0 (i := 5) (li' := #[true, true, true, true, true, true, false, false, false, false, false]) rfl (by decide +kernel) (by decide +kernel) (by decide +kernel) (by decide +kernel) rfl rfl (v_move (v := .tup [.agg [.sl (List.map encS x19.1.Sectors), .sl (List.map encWrite x19.1.Wait)], .int .i64 x19.2]) rfl ?_)
                refine RA.t0 (i := 6) (li' := #[true, true, true, true, true, true, true, false, false, false, false]) rfl (by decide +kernel) (by decide +kernel) (by decide +kernel) (by decide +kernel) rfl rfl (v_extract (v := .agg [.sl (List.map encS x19.1.Sectors), .sl (List.map encWrite x19.1.Wait)]) rfl rfl ?_)
                refine RA.t0 (i := 7) (li' := #[true, true, true, true, true, true, true, true, false, false, false]) rfl (by decide +kernel) (by decide +kernel) (by decide +kernel) (by decide +kernel) rfl rfl (v_extract (v := .int .i64 x19.2) rfl rfl ?_)
                refine RA.a1 (i1 := 8) (l1 := #[true, true, true, true, true, true, true, true, true, false, false]) (by decide +kernel) (by decide +kernel) ?_
                refine RO.op rfl rfl (o_alloc Ty.z72 rfl (aw' := [.box [.sl (List.map encS p0.Sectors), .sl (List.map encWrite p0.Wait)], .box [.sl (List.map encS x2.1.Sectors), .sl (List.map encWrite x2.1.Wait)], .dead, .box [.sl (List.map encS x13.1.Sectors), .sl (List.map encWrite x13.1.Wait)], .box [.nils, .nils]]) rfl ?_)
                exact RA.weakR hS10 (Weak.mkN [] [0, 1, 2, 3, 4] (by decide) (none_kept _) rfl ⟨rn_int rfl, rn_ptr rfl, rn_ptr rfl, rn_int rfl, rn_sl encI_p rfl, rn_ptr rfl, rn_ptr rfl, rn_int rfl, rn_int rfl, rn_bool rfl, rn_tup ⟨rn_agg ⟨rn_sl encS_p rfl, rn_sl encWrite_p rfl, trivial⟩, rn_int rfl, trivial⟩, rn_agg ⟨rn_sl encS_p rfl, rn_sl encWrite_p rfl, trivial⟩, rn_sl encI_p rfl, rn_tup ⟨rn_agg ⟨rn_sl encS_p rfl, rn_sl encWrite_p rfl, trivial⟩, rn_int rfl, trivial⟩, rn_agg ⟨rn_sl encS_p rfl, rn_sl encWrite_p rfl, trivial⟩, rn_int rfl, rn_int rfl, rn_ptr rfl, rn_sl encWrite_p rfl, rn_int rfl, rn_int rfl, rn_int rfl, rn_tup ⟨rn_agg ⟨rn_sl encS_p rfl, rn_sl encWrite_p rfl, trivial⟩, rn_int rfl, trivial⟩, rn_agg ⟨rn_sl encS_p rfl, rn_sl encWrite_p rfl, trivial⟩, rn_sl encI_p rfl, rn_int rfl, rn_sl encI_p rfl, rn_tup ⟨rn_agg ⟨rn_sl encS_p rfl, rn_sl encWrite_p rfl, trivial⟩, rn_int rfl, trivial⟩, rn_agg ⟨rn_sl encS_p rfl, rn_sl encWrite_p rfl, trivial⟩, rn_int rfl, trivial⟩ (rw_box (cs := [.sl (List.map encS p0.Sectors), .sl (List.map encWrite p0.Wait)]) (ds := [.sl (List.map encS p0.Sectors), .sl (List.map encWrite p0.Wait)]) rfl ⟨rn_sl encS_p rfl, rn_sl encWrite_p rfl, trivial⟩ (rw_box (cs := [.sl (List.map encS x2.1.Sectors), .sl (List.map encWrite x2.1.Wait)]) (ds := [.sl (List.map encS x2.1.Sectors), .sl (List.map encWrite x2.1.Wait)]) rfl ⟨rn_sl encS_p rfl, rn_sl encWrite_p rfl, trivial⟩ (rw_dead rfl (rw_box (cs := [.sl (List.map encS x13.1.Sectors), .sl (List.map encWrite x13.1.Wait)]) (ds := [.sl (List.map encS x13.1.Sectors), .sl (List.map encWrite x13.1.Wait)]) rfl ⟨rn_sl encS_p rfl, rn_sl encWrite_p rfl, trivial⟩ (rw_box (cs := [.nils, .nils]) (ds := [.nils, .nils]) rfl ⟨rn_same pure_nils, rn_same pure_nils, trivial⟩ (rw_nil)))))))
              · refine RO.op rfl rfl (o_alloc Ty.z72 rfl (aw' := [.box [.sl (List.map encS p0.Sectors), .sl (List.map encWrite p0.Wait)], .box [.sl (List.map encS x2.1.Sectors), .sl (List.map encWrite x2.1.Wait)], .dead, .box [.sl (List.map encS x13.1.Sectors), .sl (List.map encWrite x13.1.Wait)], .box [.nils, .nils]]) rfl ?_)
                exact RA.weakR hS11 (Weak.mkN [] [0, 1, 2, 3, 4] (by decide) (none_kept _) rfl ⟨rn_int rfl, rn_ptr rfl, rn_ptr rfl, rn_int rfl, rn_sl encI_p rfl, rn_ptr rfl, rn_ptr rfl, rn_int rfl, rn_int rfl, rn_bool rfl, rn_tup ⟨rn_agg ⟨rn_sl encS_p rfl, rn_sl encWrite_p rfl, trivial⟩, rn_int rfl, trivial⟩, rn_agg ⟨rn_sl encS_p rfl, rn_sl encWrite_p rfl, trivial⟩, rn_sl encI_p rfl, rn_tup ⟨rn_agg ⟨rn_sl encS_p rfl, rn_sl encWrite_p rfl, trivial⟩, rn_int rfl, trivial⟩, rn_agg ⟨rn_sl encS_p rfl, rn_sl encWrite_p rfl, trivial⟩, rn_int rfl, rn_int rfl, rn_ptr rfl, rn_sl encWrite_p rfl, rn_int rfl, rn_int rfl, rn_int rfl, rn_agg ⟨rn_sl encS_p rfl, rn_sl encWrite_p rfl, trivial⟩, rn_sl encI_p rfl, rn_int rfl, rn_sl encI_p rfl, trivial⟩ (rw_box (cs := [.sl (List.map encS p0.Sectors), .sl (List.map encWrite p0.Wait)]) (ds := [.sl (List.map encS p0.Sectors), .sl (List.map encWrite p0.Wait)]) rfl ⟨rn_sl encS_p rfl, rn_sl encWrite_p rfl, trivial⟩ (rw_box (cs := [.sl (List.map encS x2.1.Sectors), .sl (List.map encWrite x2.1.Wait)]) (ds := [.sl (List.map encS x2.1.Sectors), .sl (List.map encWrite x2.1.Wait)]) rfl ⟨rn_sl encS_p rfl, rn_sl encWrite_p rfl, trivial⟩ (rw_dead rfl (rw_box (cs := [.sl (List.map encS x13.1.Sectors), .sl (List.map encWrite x13.1.Wait)]) (ds := [.sl (List.map encS x13.1.Sectors), .sl (List.map encWrite x13.1.Wait)]) rfl ⟨rn_sl encS_p rfl, rn_sl encWrite_p rfl, trivial⟩ (rw_box (cs := [.nils, .nils]) (ds := [.nils, .nils]) rfl ⟨rn_same pure_nils, rn_same pure_nils, trivial⟩ (rw_nil)))))))
            · refine RO.op rfl rfl (o_alloc Ty.z72 rfl (aw' := [.box [.sl (List.map encS p0.Sectors), .sl (List.map encWrite p0.Wait)], .box [.sl (List.map encS x2.1.Sectors), .sl (List.map encWrite x2.1.Wait)], .dead, .box [.sl (List.map encS x13.1.Sectors), .sl (List.map encWrite x13.1.Wait)], .box [.nils, .nils]]) rfl ?_)
              refine RA.a1 (i1 := 0) (l1 := #[true, true, true, true, false, false, false, false, true, false, false]) (by decide +kernel) (by decide +kernel) ?_
              refine RO.op rfl rfl (o_load_ptr rfl rfl (loadRowA Ty.k72 Ty.c72 rfl (cs := [.sl (List.map encS p0.Sectors), .sl (List.map encWrite p0.Wait)]) rfl ?_))
              exact RA.weakR hS11 (Weak.mkN [] [0, 1, 2, 3, 4] (by decide) (none_kept _) rfl ⟨rn_int rfl, rn_ptr rfl, rn_ptr rfl, rn_int rfl, rn_sl encI_p rfl, rn_ptr rfl, rn_ptr rfl, rn_int rfl, rn_int rfl, rn_bool rfl, rn_tup ⟨rn_agg ⟨rn_sl encS_p rfl, rn_sl encWrite_p rfl, trivial⟩, rn_int rfl, trivial⟩, rn_agg ⟨rn_sl encS_p rfl, rn_sl encWrite_p rfl, trivial⟩, rn_sl encI_p rfl, rn_tup ⟨rn_agg ⟨rn_sl encS_p rfl, rn_sl encWrite_p rfl, trivial⟩, rn_int rfl, trivial⟩, rn_agg ⟨rn_sl encS_p rfl, rn_sl encWrite_p rfl, trivial⟩, rn_int rfl, rn_int rfl, rn_ptr rfl, rn_sl encWrite_p rfl, rn_int rfl, rn_int rfl, rn_int rfl, rn_agg ⟨rn_sl encS_p rfl, rn_sl encWrite_p rfl, trivial⟩, rn_sl encI_p rfl, rn_int rfl, rn_sl encI_p rfl, trivial⟩ (rw_box (cs := [.sl (List.map encS p0.Sectors), .sl (List.map encWrite p0.Wait)]) (ds := [.sl (List.map encS p0.Sectors), .sl (List.map encWrite p0.Wait)]) rfl ⟨rn_sl encS_p rfl, rn_sl encWrite_p rfl, trivial⟩ (rw_box (cs := [.sl (List.map encS x2.1.Sectors), .sl (List.map encWrite x2.1.Wait)]) (ds := [.sl (List.map encS x2.1.Sectors), .sl (List.map encWrite x2.1.Wait)]) rfl ⟨rn_sl encS_p rfl, rn_sl encWrite_p rfl, trivial⟩ (rw_dead rfl (rw_box (cs := [.sl (List.map encS x13.1.Sectors), .sl (List.map encWrite x13.1.Wait)]) (ds := [.sl (List.map encS x13.1.Sectors), .sl (List.map encWrite x13.1.Wait)]) rfl ⟨rn_sl encS_p rfl, rn_sl encWrite_p rfl, trivial⟩ (rw_box (cs := [.nils, .nils]) (ds := [.nils, .nils]) rfl ⟨rn_same pure_nils, rn_same pure_nils, trivial⟩ (rw_nil)))))))
  · rcases bool_cases (!x3) with hb_1 | hb_1
    · refine T.region ?_
      refine RS.op rfl (o_call (as0 := []) (as1 := []) (caps := []) (aw1 := [.box [.sl (List.map encS p0.Sectors), .sl (List.map encWrite p0.Wait)], .box [.sl (List.map encS x2.1.Sectors), .sl (List.map encWrite x2.1.Wait)]]) rfl rfl rfl (k_flat (v := .bool x3) (crosslaw_disked_c x3 hx3) (trivial) rfl ?_))
      refine RS.op rfl (OP.q rfl (v_not rfl ?_))
      refine RS.op rfl (OP.q rfl (v_move (v := .bool (!x3)) rfl ?_))
      refine RS.no rfl rfl rfl hb_1 ?_
      refine RS.no rfl rfl rfl hb_1 ?_
      refine RS.op rfl (OP.q rfl (v_pickT (v := .bool true) rfl hb_1 rfl ?_))
      refine RS.nil ?_
      exact T.weakR (hK () trivial) (Weak.mkN [] [0, 1] (by decide) (none_kept _) rfl ⟨rn_int rfl, rn_ptr rfl, rn_ptr rfl, rn_bool (by simp only [hb_1, Bool.true_or, Bool.or_true, Bool.false_or, Bool.or_false, Bool.true_and, Bool.and_true, Bool.false_and, Bool.and_false, Bool.not_true, Bool.not_false, if_true, if_false, Bool.false_eq_true, reduceIte]), trivial⟩ (rw_box (cs := [.sl (List.map encS p0.Sectors), .sl (List.map encWrite p0.Wait)]) (ds := [.sl (List.map encS p0.Sectors), .sl (List.map encWrite p0.Wait)]) rfl ⟨rn_sl encS_p rfl, rn_sl encWrite_p rfl, trivial⟩ (rw_box (cs := [.sl (List.map encS x2.1.Sectors), .sl (List.map encWrite x2.1.Wait)]) (ds := [.sl (List.map encS x2.1.Sectors), .sl (List.map encWrite x2.1.Wait)]) rfl ⟨rn_sl encS_p rfl, rn_sl encWrite_p rfl, trivial⟩ (rw_nil))))
    · refine T.region ?_
      refine RS.op rfl (o_call (as0 := []) (as1 := []) (caps := []) (aw1 := [.box [.sl (List.map encS p0.Sectors), .sl (List.map encWrite p0.Wait)], .box [.sl (List.map encS x2.1.Sectors), .sl (List.map encWrite x2.1.Wait)]]) rfl rfl rfl (k_flat (v := .bool x3) (crosslaw_disked_c x3 hx3) (trivial) rfl ?_))
      refine RS.op rfl (OP.q rfl (v_not rfl ?_))
      refine RS.op rfl (OP.q rfl (v_move (v := .bool (!x3)) rfl ?_))
      refine RS.yes rfl rfl rfl hb_1 (OP.q rfl (v_move (v := .int .i64 x2.2) rfl ?_))
      refine RS.yes rfl rfl rfl hb_1 (OP.q rfl (v_neq rfl rfl ?_))
      refine RS.op rfl (OP.q rfl (v_pickF (v := .bool (x2.2 != 0)) rfl hb_1 rfl ?_))
      refine RS.nil ?_
      exact T.weakR (hK () trivial) (Weak.mkN [] [0, 1] (by decide) (none_kept _) rfl ⟨rn_int rfl, rn_ptr rfl, rn_ptr rfl, rn_bool (by simp only [hb_1, Bool.true_or, Bool.or_true, Bool.false_or, Bool.or_false, Bool.true_and, Bool.and_true, Bool.false_and, Bool.and_false, Bool.not_true, Bool.not_false, if_true, if_false, Bool.false_eq_true, reduceIte]), trivial⟩ (rw_box (cs := [.sl (List.map encS p0.Sectors), .sl (List.map encWrite p0.Wait)]) (ds := [.sl (List.map encS p0.Sectors), .sl (List.map encWrite p0.Wait)]) rfl ⟨rn_sl encS_p rfl, rn_sl encWrite_p rfl, trivial⟩ (rw_box (cs := [.sl (List.map encS x2.1.Sectors), .sl (List.map encWrite x2.1.Wait)]) (ds := [.sl (List.map encS x2.1.Sectors), .sl (List.map encWrite x2.1.Wait)]) rfl ⟨rn_sl encS_p rfl, rn_sl encWrite_p rfl, trivial⟩ (rw_nil))))
end Go.Proofs.Ytpndpdbabblphaa
