/-
  The code computes these functions. Printed by a program of ours (wip/gen.py).
-/
import Derived.Test.YtegkmfokfakeiaaGen2
namespace Go.Proofs.Ytegkmfokfakeiaa
open Go.RowKit
set_option linter.unusedVariables false
set_option linter.unusedSimpArgs false
set_option maxRecDepth 100000
theorem crosslaw_LogAppend_c (p0 : Disk) (p1 : Int) (p2 : Int) (p3 : List Choice) (r : Bool) (h : crosslaw_LogAppend p0 p1 p2 p3 = some r) : Fn Try.prog 4 [.agg [.sl (List.map encS p0.Sectors), .sl (List.map encWrite p0.Wait)], .int .i64 p1, .int .i64 p2, .sl (List.map encChoice p3)] (.bool r) := by
  unfold crosslaw_LogAppend at h
  refine fn_of_T (N := 0) rfl Try.func4 rfl (by kernel_rfl) Try.ntmps4 rfl ?_
  show T _ _ _ _ (mkA 169 [(0, .agg [.sl (List.map encS p0.Sectors), .sl (List.map encWrite p0.Wait)]), (1, .int .i64 p1), (2, .int .i64 p2), (3, .sl (List.map encChoice p3))]) []
  refine T.seq ?_
  refine T.region ?_
  refine RS.op rfl (o_box (cs := [.sl (List.map encS p0.Sectors), .sl (List.map encWrite p0.Wait)]) rfl rfl (aw' := [.box [.sl (List.map encS p0.Sectors), .sl (List.map encWrite p0.Wait)]]) rfl ?_)
  refine RS.op rfl (OP.q rfl (v_assign (v := .bool false) rfl ?_))
  refine RS.nil ?_
  refine T.seq ?_
  obtain ⟨x2, hx2, h⟩ := bind_some h
  refine T.region ?_
  refine RS.op rfl (o_load_ptr rfl rfl (loadRowA Ty.k25 Ty.c25 rfl (cs := [.sl (List.map encS p0.Sectors), .sl (List.map encWrite p0.Wait)]) rfl ?_))
  refine RS.op rfl (OP.q rfl (v_move (v := .int .i64 p1) rfl ?_))
  refine RS.op rfl (OP.q rfl (v_move (v := .int .i64 p2) rfl ?_))
  refine RS.op rfl (OP.q rfl (v_move (v := .sl (List.map encChoice p3)) rfl ?_))
  refine RS.op rfl (o_call (as0 := [.agg [.sl (List.map encS p0.Sectors), .sl (List.map encWrite p0.Wait)], .int .i64 p1, .int .i64 p2, .sl (List.map encChoice p3)]) (as1 := [.agg [.sl (List.map encS p0.Sectors), .sl (List.map encWrite p0.Wait)], .int .i64 p1, .int .i64 p2, .sl (List.map encChoice p3)]) (caps := []) (aw1 := [.box [.sl (List.map encS p0.Sectors), .sl (List.map encWrite p0.Wait)]]) rfl rfl rfl (k_fn (v := .tup [.agg [.sl (List.map encS x2.1.Sectors), .sl (List.map encWrite x2.1.Wait)], .int .i64 x2.2.1, .int .i64 x2.2.2]) (log_Append_c p0 p1 p2 p3 x2 hx2) (⟨pure_agg _ (pures_mem (⟨pure_map encS_p _, pure_map encWrite_p _, trivial⟩)), pure_int _ _, pure_int _ _, pure_map encChoice_p _, trivial⟩) (pure_tup _ (pures_mem (⟨pure_agg _ (pures_mem (⟨pure_map encS_p _, pure_map encWrite_p _, trivial⟩)), pure_int _ _, pure_int _ _, trivial⟩))) ?_))
  refine RS.op rfl (OP.q rfl (v_move (v := .tup [.agg [.sl (List.map encS x2.1.Sectors), .sl (List.map encWrite x2.1.Wait)], .int .i64 x2.2.1, .int .i64 x2.2.2]) rfl ?_))
  refine RS.op rfl (OP.q rfl (v_extract (v := .agg [.sl (List.map encS x2.1.Sectors), .sl (List.map encWrite x2.1.Wait)]) rfl rfl ?_))
  refine RS.op rfl (OP.q rfl (v_extract (v := .int .i64 x2.2.1) rfl rfl ?_))
  refine RS.op rfl (OP.q rfl (v_extract (v := .int .i64 x2.2.2) rfl rfl ?_))
  refine RS.op rfl (o_alloc Ty.z25 rfl (aw' := [.box [.sl (List.map encS p0.Sectors), .sl (List.map encWrite p0.Wait)], .box [.nils, .nils]]) rfl ?_)
  refine RS.op rfl (o_store_ptr Ty.c25 Ty.i25 rfl (vs := [.sl (List.map encS x2.1.Sectors), .sl (List.map encWrite x2.1.Wait)]) rfl rfl rfl rfl (cs' := [.sl (List.map encS x2.1.Sectors), .sl (List.map encWrite x2.1.Wait)]) rfl (aw' := [.box [.sl (List.map encS p0.Sectors), .sl (List.map encWrite p0.Wait)], .box [.sl (List.map encS x2.1.Sectors), .sl (List.map encWrite x2.1.Wait)]]) rfl ?_)
  refine RS.op rfl (OP.q rfl (v_assign (v := .int .i64 x2.2.1) rfl ?_))
  refine RS.op rfl (OP.q rfl (v_assign (v := .int .i64 x2.2.2) rfl ?_))
  refine RS.nil ?_
  refine T.seq ?_
  obtain ⟨x4, hx4, h⟩ := bind_some h
  refine T.region ?_
  refine RS.op rfl (o_load_ptr rfl rfl (loadRowA Ty.k25 Ty.c25 rfl (cs := [.sl (List.map encS p0.Sectors), .sl (List.map encWrite p0.Wait)]) rfl ?_))
  refine RS.op rfl (o_call (as0 := [.agg [.sl (List.map encS p0.Sectors), .sl (List.map encWrite p0.Wait)]]) (as1 := [.agg [.sl (List.map encS p0.Sectors), .sl (List.map encWrite p0.Wait)]]) (caps := []) (aw1 := [.box [.sl (List.map encS p0.Sectors), .sl (List.map encWrite p0.Wait)], .box [.sl (List.map encS x2.1.Sectors), .sl (List.map encWrite x2.1.Wait)]]) rfl rfl rfl (k_flat (v := .int .i64 x4) (crossref_CheckDisk_c p0 x4 hx4) (⟨pure_agg _ (pures_mem (⟨pure_map encS_p _, pure_map encWrite_p _, trivial⟩)), trivial⟩) rfl ?_))
  refine RS.op rfl (OP.q rfl (v_assign (v := .int .i64 x4) rfl ?_))
  refine RS.nil ?_
  refine T.join (Z := Int) (fun zz_6 => mkA 169 [(1, .int .i64 p1), (2, .int .i64 p2), (3, .sl (List.map encChoice p3)), (4, .ptr 0 0), (9, .ptr 1 0), (10, .int .i64 x2.2.1), (11, .int .i64 x2.2.2), (12, .int .i64 zz_6)]) (fun zz_6 => [.box [.sl (List.map encS p0.Sectors), .sl (List.map encWrite p0.Wait)], .box [.sl (List.map encS x2.1.Sectors), .sl (List.map encWrite x2.1.Wait)]]) (fun zz_6 => crosslaw_LogAppend_k4 p0 p1 p2 x2 p3 zz_6 = some r) (fun zz_6 h => ?_) (fun hK4 => ?_)
  · revert h; revert zz_6; intro z5 h
    replace h : crosslaw_LogAppend_k4 p0 p1 p2 x2 p3 z5 = some r := h
    show T _ _ _ _ (mkA 169 [(1, .int .i64 p1), (2, .int .i64 p2), (3, .sl (List.map encChoice p3)), (4, .ptr 0 0), (9, .ptr 1 0), (10, .int .i64 x2.2.1), (11, .int .i64 x2.2.2), (12, .int .i64 z5)]) [.box [.sl (List.map encS p0.Sectors), .sl (List.map encWrite p0.Wait)], .box [.sl (List.map encS x2.1.Sectors), .sl (List.map encWrite x2.1.Wait)]]
    unfold crosslaw_LogAppend_k4 at h
    refine T.seq ?_
    obtain ⟨x7, hx7, h⟩ := bind_some h
    refine T.region ?_
    refine RS.op rfl (OP.q rfl (v_fieldAddr_ptr Ty.f25_1 rfl (off' := 1) rfl ?_))
    refine RS.op rfl (o_load_ptr rfl rfl (loadRow1 Ty.k23 (c := .sl (List.map encWrite p0.Wait)) rfl ?_))
    refine RS.op rfl (o_call (as0 := [.sl (List.map encWrite p0.Wait)]) (as1 := [.sl (List.map encWrite p0.Wait)]) (caps := []) (aw1 := [.box [.sl (List.map encS p0.Sectors), .sl (List.map encWrite p0.Wait)], .box [.sl (List.map encS x2.1.Sectors), .sl (List.map encWrite x2.1.Wait)]]) rfl rfl rfl (k_own' (v := .ref 0) (obs := [.arr 42 2 (List.map encWrite x7)]) (v' := .ref 2) (aw' := [.box [.sl (List.map encS p0.Sectors), .sl (List.map encWrite p0.Wait)], .box [.sl (List.map encS x2.1.Sectors), .sl (List.map encWrite x2.1.Wait)], .arr 42 2 (List.map encWrite x7)]) (slices_Clone_Write_c p0.Wait x7 hx7) (⟨pure_map encWrite_p _, trivial⟩) rfl (obs_cons (flatOb_map fun _ => rfl) obs_nil) rfl rfl ?_))
    refine RS.op rfl (OP.q rfl (v_assign (v := .ref 2) rfl ?_))
    refine RS.nil ?_
    refine T.seq ?_
    refine T.region ?_
    refine RS.op rfl (OP.q rfl (v_move (v := .int .i64 p2) rfl ?_))
    refine RS.op rfl (OP.q rfl (v_assign (v := .int .i64 p2) rfl ?_))
    refine RS.nil ?_
    refine T.seq ?_
    refine T.seq ?_
    refine T.region ?_
    refine RS.op rfl (OP.q rfl (v_assign (v := .int .i64 0) rfl ?_))
    refine RS.nil ?_
    refine T.block ?_
    refine T.iter (fun ss_83 : Int × Int × Int × (List Write) => mkA 169 [(1, .int .i64 p1), (3, .sl (List.map encChoice p3)), (4, .ptr 0 0), (9, .ptr 1 0), (10, .int .i64 x2.2.1), (11, .int .i64 x2.2.2), (12, .int .i64 ss_83.1), (13, .ref 2), (14, .int .i64 ss_83.2.1), (15, .int .i64 ss_83.2.2.1)]) (fun ss_83 => [.box [.sl (List.map encS p0.Sectors), .sl (List.map encWrite p0.Wait)], .box [.sl (List.map encS x2.1.Sectors), .sl (List.map encWrite x2.1.Wait)], .arr 42 2 (List.map encWrite ss_83.2.2.2)]) h (Weak.mkN [] [0, 1, 2] (by decide) (none_kept _) rfl ⟨rn_int rfl, rn_sl encChoice_p rfl, rn_ptr rfl, rn_ptr rfl, rn_int rfl, rn_int rfl, rn_int rfl, rn_ref rfl, rn_int rfl, rn_int rfl, trivial⟩ (rw_box (cs := [.sl (List.map encS p0.Sectors), .sl (List.map encWrite p0.Wait)]) (ds := [.sl (List.map encS p0.Sectors), .sl (List.map encWrite p0.Wait)]) rfl ⟨rn_sl encS_p rfl, rn_sl encWrite_p rfl, trivial⟩ (rw_box (cs := [.sl (List.map encS x2.1.Sectors), .sl (List.map encWrite x2.1.Wait)]) (ds := [.sl (List.map encS x2.1.Sectors), .sl (List.map encWrite x2.1.Wait)]) rfl ⟨rn_sl encS_p rfl, rn_sl encWrite_p rfl, trivial⟩ (rw_arr rfl encWrite_p rfl (rw_nil))))) (fun ss_83 v_84 h hv_84 => ?_)
    obtain ⟨s8, s9, s10, s11⟩ := ss_83
    replace h : crosslaw_LogAppend_l3 p0 p1 x2 p3 s8 s9 s10 s11 = some v_84 := h
    show T _ _ _ _ (mkA 169 [(1, .int .i64 p1), (3, .sl (List.map encChoice p3)), (4, .ptr 0 0), (9, .ptr 1 0), (10, .int .i64 x2.2.1), (11, .int .i64 x2.2.2), (12, .int .i64 s8), (13, .ref 2), (14, .int .i64 s9), (15, .int .i64 s10)]) [.box [.sl (List.map encS p0.Sectors), .sl (List.map encWrite p0.Wait)], .box [.sl (List.map encS x2.1.Sectors), .sl (List.map encWrite x2.1.Wait)], .arr 42 2 (List.map encWrite s11)]
    unfold crosslaw_LogAppend_l3 at h
    refine T.seq ?_
    refine T.join (Z := Unit) (fun _ => mkA 169 [(1, .int .i64 p1), (3, .sl (List.map encChoice p3)), (4, .ptr 0 0), (9, .ptr 1 0), (10, .int .i64 x2.2.1), (11, .int .i64 x2.2.2), (12, .int .i64 s8), (13, .ref 2), (14, .int .i64 s9), (15, .int .i64 s10), (59, .bool ((s8 == 0) && decide (s10 < ((p3).length : Int))))]) (fun _ => [.box [.sl (List.map encS p0.Sectors), .sl (List.map encWrite p0.Wait)], .box [.sl (List.map encS x2.1.Sectors), .sl (List.map encWrite x2.1.Wait)], .arr 42 2 (List.map encWrite s11)]) (fun _ => True) (fun _ _ => ?_) (fun hK => ?_)
    · show T _ _ _ _ (mkA 169 [(1, .int .i64 p1), (3, .sl (List.map encChoice p3)), (4, .ptr 0 0), (9, .ptr 1 0), (10, .int .i64 x2.2.1), (11, .int .i64 x2.2.2), (12, .int .i64 s8), (13, .ref 2), (14, .int .i64 s9), (15, .int .i64 s10), (59, .bool ((s8 == 0) && decide (s10 < ((p3).length : Int))))]) [.box [.sl (List.map encS p0.Sectors), .sl (List.map encWrite p0.Wait)], .box [.sl (List.map encS x2.1.Sectors), .sl (List.map encWrite x2.1.Wait)], .arr 42 2 (List.map encWrite s11)]
      refine T.cond (b := ((s8 == 0) && decide (s10 < ((p3).length : Int)))) rfl (fun hb_86 => ?_) (fun hb_86 => ?_)
      · replace h := ite_T h hb_86
        refine T.skip ?_
        refine T.seq ?_
        refine T.block ?_
        refine T.seq ?_
        refine T.region ?_
        refine RS.op rfl (OP.q rfl (v_move (v := .int .i64 p1) rfl ?_))
        refine RS.op rfl (o_conv Try.underlying3 Try.underlying5 rfl ?_)
        refine RS.op rfl (o_buildSlice (rows := List.map enc8 [IntKind.u8.wrap p1]) (vs := [.int .u8 (IntKind.u8.wrap p1)]) Ty.s43 Ty.z5 rfl rfl rfl rfl rfl (aw' := [.box [.sl (List.map encS p0.Sectors), .sl (List.map encWrite p0.Wait)], .box [.sl (List.map encS x2.1.Sectors), .sl (List.map encWrite x2.1.Wait)], .arr 42 2 (List.map encWrite s11), .arr 5 1 (List.map enc8 [IntKind.u8.wrap p1])]) rfl ?_)
        refine RS.op rfl (o_conv_bytes (xs := [IntKind.u8.wrap p1]) Try.underlying43 Try.underlying5 Try.underlying9 rfl rfl ?_)
        refine RS.op rfl (OP.q rfl (v_assign (v := .str (toStr [IntKind.u8.wrap p1])) rfl ?_))
        refine RS.nil ?_
        refine T.seq ?_
        refine T.seq ?_
        obtain ⟨x14, hx14, h⟩ := bind_some h
        refine T.region ?_
        refine RS.op rfl (OP.q rfl (v_move (v := .sl (List.map encChoice p3)) rfl ?_))
        refine RS.op rfl (OP.q rfl (v_move (v := .int .i64 s10) rfl ?_))
        refine RS.op rfl (OP.q rfl (v_move (v := .int .i64 s10) rfl ?_))
        refine RS.op rfl (OP.q rfl (v_add rfl rfl ?_))
        refine RS.op rfl (OP.q rfl (v_move (v := .sl (List.map encChoice p3)) rfl ?_))
        refine RS.op rfl (OP.q rfl (v_len_sl Ty.s26 rfl ?_))
        refine RS.op rfl (OP.q rfl (v_min rfl rfl ?_))
        refine RS.op rfl (o_slice_sl Ty.s26 (fun _ => rfl) rfl rfl rfl hx14 ?_)
        refine RS.op rfl (OP.q rfl (v_len_sl Ty.s26 rfl ?_))
        refine RS.op rfl (OP.q rfl (v_move (v := .int .i64 0) rfl ?_))
        refine RS.nil ?_
        refine T.block ?_
        refine T.iter (fun ss_107 : Int × (List UInt8) × Int => mkA 169 [(1, .int .i64 p1), (3, .sl (List.map encChoice p3)), (4, .ptr 0 0), (9, .ptr 1 0), (10, .int .i64 x2.2.1), (11, .int .i64 x2.2.2), (12, .int .i64 ss_107.1), (13, .ref 2), (14, .int .i64 s9), (15, .int .i64 s10), (16, .str ss_107.2.1), (73, .sl (List.map encChoice x14)), (74, .int .i64 ((x14).length : Int)), (75, .int .i64 ss_107.2.2)]) (fun ss_107 => [.box [.sl (List.map encS p0.Sectors), .sl (List.map encWrite p0.Wait)], .box [.sl (List.map encS x2.1.Sectors), .sl (List.map encWrite x2.1.Wait)], .arr 42 2 (List.map encWrite s11)]) h (Weak.mkN [] [0, 1, 2] (by decide) (none_kept _) rfl ⟨rn_int rfl, rn_sl encChoice_p rfl, rn_ptr rfl, rn_ptr rfl, rn_int rfl, rn_int rfl, rn_int rfl, rn_ref rfl, rn_int rfl, rn_int rfl, rn_str rfl, rn_sl encChoice_p rfl, rn_int rfl, rn_int rfl, trivial⟩ (rw_box (cs := [.sl (List.map encS p0.Sectors), .sl (List.map encWrite p0.Wait)]) (ds := [.sl (List.map encS p0.Sectors), .sl (List.map encWrite p0.Wait)]) rfl ⟨rn_sl encS_p rfl, rn_sl encWrite_p rfl, trivial⟩ (rw_box (cs := [.sl (List.map encS x2.1.Sectors), .sl (List.map encWrite x2.1.Wait)]) (ds := [.sl (List.map encS x2.1.Sectors), .sl (List.map encWrite x2.1.Wait)]) rfl ⟨rn_sl encS_p rfl, rn_sl encWrite_p rfl, trivial⟩ (rw_arr rfl encWrite_p rfl (rw_nil))))) (fun ss_107 v_108 h hv_108 => ?_)
        obtain ⟨s15, s16, s17⟩ := ss_107
        replace h : crosslaw_LogAppend_l2 s9 s10 s11 x14 s15 s16 s17 = some v_108 := h
        show T _ _ _ _ (mkA 169 [(1, .int .i64 p1), (3, .sl (List.map encChoice p3)), (4, .ptr 0 0), (9, .ptr 1 0), (10, .int .i64 x2.2.1), (11, .int .i64 x2.2.2), (12, .int .i64 s15), (13, .ref 2), (14, .int .i64 s9), (15, .int .i64 s10), (16, .str s16), (73, .sl (List.map encChoice x14)), (74, .int .i64 ((x14).length : Int)), (75, .int .i64 s17)]) [.box [.sl (List.map encS p0.Sectors), .sl (List.map encWrite p0.Wait)], .box [.sl (List.map encS x2.1.Sectors), .sl (List.map encWrite x2.1.Wait)], .arr 42 2 (List.map encWrite s11)]
        unfold crosslaw_LogAppend_l2 at h
        refine T.seq ?_
        refine T.region ?_
        refine RS.op rfl (OP.q rfl (v_lss rfl rfl ?_))
        refine RS.nil ?_
        refine T.seq ?_
        refine T.cond (b := decide (s17 < ((x14).length : Int))) rfl (fun hb_109 => ?_) (fun hb_109 => ?_)
        · replace h := ite_T h hb_109
          refine T.skip ?_
          refine T.seq ?_
          refine T.block ?_
          refine T.seq ?_
          obtain ⟨x19, hx19, h⟩ := bind_some h
          refine T.region ?_
          refine RS.op rfl (OP.q rfl (v_index_sl Ty.s26 (fun _ => rfl) rfl rfl hx19 ?_))
          refine RS.op rfl (o_load_elt rfl (loadRowA Ty.k36 Ty.c36 rfl (cs := [.int .i64 x19.Node, .int .i64 x19.Lane]) rfl ?_))
          refine RS.op rfl (o_alloc Ty.z36 rfl (aw' := [.box [.sl (List.map encS p0.Sectors), .sl (List.map encWrite p0.Wait)], .box [.sl (List.map encS x2.1.Sectors), .sl (List.map encWrite x2.1.Wait)], .arr 42 2 (List.map encWrite s11), .box [.int .i64 0, .int .i64 0]]) rfl ?_)
          refine RS.op rfl (o_store_ptr Ty.c36 Ty.i36 rfl (vs := [.int .i64 x19.Node, .int .i64 x19.Lane]) rfl rfl rfl rfl (cs' := [.int .i64 x19.Node, .int .i64 x19.Lane]) rfl (aw' := [.box [.sl (List.map encS p0.Sectors), .sl (List.map encWrite p0.Wait)], .box [.sl (List.map encS x2.1.Sectors), .sl (List.map encWrite x2.1.Wait)], .arr 42 2 (List.map encWrite s11), .box [.int .i64 x19.Node, .int .i64 x19.Lane]]) rfl ?_)
          refine RS.nil ?_
          refine T.join (Z := Int) (fun zz_114 => mkA 169 [(1, .int .i64 p1), (3, .sl (List.map encChoice p3)), (4, .ptr 0 0), (9, .ptr 1 0), (10, .int .i64 x2.2.1), (11, .int .i64 x2.2.2), (12, .int .i64 zz_114), (13, .ref 2), (14, .int .i64 s9), (15, .int .i64 s10), (16, .str s16), (18, .ptr 3 0), (73, .sl (List.map encChoice x14)), (74, .int .i64 ((x14).length : Int)), (75, .int .i64 s17)]) (fun zz_114 => [.box [.sl (List.map encS p0.Sectors), .sl (List.map encWrite p0.Wait)], .box [.sl (List.map encS x2.1.Sectors), .sl (List.map encWrite x2.1.Wait)], .arr 42 2 (List.map encWrite s11), .box [.int .i64 x19.Node, .int .i64 x19.Lane]]) (fun zz_114 => crosslaw_LogAppend_k1 s16 s17 x19 zz_114 = some v_108) (fun zz_114 h => ?_) (fun hK1 => ?_)
          · revert h; revert zz_114; intro z20 h
            replace h : crosslaw_LogAppend_k1 s16 s17 x19 z20 = some v_108 := h
            show T _ _ _ _ (mkA 169 [(1, .int .i64 p1), (3, .sl (List.map encChoice p3)), (4, .ptr 0 0), (9, .ptr 1 0), (10, .int .i64 x2.2.1), (11, .int .i64 x2.2.2), (12, .int .i64 z20), (13, .ref 2), (14, .int .i64 s9), (15, .int .i64 s10), (16, .str s16), (18, .ptr 3 0), (73, .sl (List.map encChoice x14)), (74, .int .i64 ((x14).length : Int)), (75, .int .i64 s17)]) [.box [.sl (List.map encS p0.Sectors), .sl (List.map encWrite p0.Wait)], .box [.sl (List.map encS x2.1.Sectors), .sl (List.map encWrite x2.1.Wait)], .arr 42 2 (List.map encWrite s11), .box [.int .i64 x19.Node, .int .i64 x19.Lane]]
            unfold crosslaw_LogAppend_k1 at h
            obtain ⟨x21, hx21, h⟩ := bind_some h
            refine T.region ?_
            refine RS.op rfl (OP.q rfl (v_move (v := .str s16) rfl ?_))
            refine RS.op rfl (OP.q rfl (v_fieldAddr_ptr Ty.f36_0 rfl (off' := 0) rfl ?_))
            refine RS.op rfl (o_load_ptr rfl rfl (loadRow1 Ty.k3 (c := .int .i64 x19.Node) rfl ?_))
            refine RS.op rfl (o_conv Try.underlying3 Try.underlying5 rfl ?_)
            refine RS.op rfl (OP.q rfl (v_fieldAddr_ptr Ty.f36_1 rfl (off' := 1) rfl ?_))
            refine RS.op rfl (o_load_ptr rfl rfl (loadRow1 Ty.k3 (c := .int .i64 x19.Lane) rfl ?_))
            refine RS.op rfl (o_conv Try.underlying3 Try.underlying5 rfl ?_)
            refine RS.op rfl (o_buildSlice (rows := List.map enc8 [IntKind.u8.wrap x19.Node, IntKind.u8.wrap x19.Lane]) (vs := [.int .u8 (IntKind.u8.wrap x19.Node), .int .u8 (IntKind.u8.wrap x19.Lane)]) Ty.s43 Ty.z5 rfl rfl rfl rfl rfl (aw' := [.box [.sl (List.map encS p0.Sectors), .sl (List.map encWrite p0.Wait)], .box [.sl (List.map encS x2.1.Sectors), .sl (List.map encWrite x2.1.Wait)], .arr 42 2 (List.map encWrite s11), .box [.int .i64 x19.Node, .int .i64 x19.Lane], .arr 5 1 (List.map enc8 [IntKind.u8.wrap x19.Node, IntKind.u8.wrap x19.Lane])]) rfl ?_)
            refine RS.op rfl (o_conv_bytes (xs := [IntKind.u8.wrap x19.Node, IntKind.u8.wrap x19.Lane]) Try.underlying43 Try.underlying5 Try.underlying9 rfl rfl ?_)
            refine RS.op rfl (OP.q rfl (v_sadd rfl rfl hx21 ?_))
            refine RS.op rfl (OP.q rfl (v_assign (v := .str x21) rfl ?_))
            refine RS.nil ?_
            refine T.region ?_
            refine RS.op rfl (OP.q rfl (v_add rfl rfl ?_))
            refine RS.op rfl (OP.q rfl (v_move (v := .int .i64 (IntKind.i64.wrap (s17 + 1))) rfl ?_))
            refine RS.nil ?_
            exact ⟨(z20, x21, IntKind.i64.wrap (s17 + 1)), (Option.some.inj h).symm, Weak.mkN [] [0, 1, 2] (by decide) (none_kept _) rfl ⟨rn_int rfl, rn_sl encChoice_p rfl, rn_ptr rfl, rn_ptr rfl, rn_int rfl, rn_int rfl, rn_int rfl, rn_ref rfl, rn_int rfl, rn_int rfl, rn_str rfl, rn_sl encChoice_p rfl, rn_int rfl, rn_int rfl, trivial⟩ (rw_box (cs := [.sl (List.map encS p0.Sectors), .sl (List.map encWrite p0.Wait)]) (ds := [.sl (List.map encS p0.Sectors), .sl (List.map encWrite p0.Wait)]) rfl ⟨rn_sl encS_p rfl, rn_sl encWrite_p rfl, trivial⟩ (rw_box (cs := [.sl (List.map encS x2.1.Sectors), .sl (List.map encWrite x2.1.Wait)]) (ds := [.sl (List.map encS x2.1.Sectors), .sl (List.map encWrite x2.1.Wait)]) rfl ⟨rn_sl encS_p rfl, rn_sl encWrite_p rfl, trivial⟩ (rw_arr rfl encWrite_p rfl (rw_nil))))⟩
          · refine T.join (Z := Unit) (fun _ => mkA 169 [(1, .int .i64 p1), (3, .sl (List.map encChoice p3)), (4, .ptr 0 0), (9, .ptr 1 0), (10, .int .i64 x2.2.1), (11, .int .i64 x2.2.2), (12, .int .i64 s15), (13, .ref 2), (14, .int .i64 s9), (15, .int .i64 s10), (16, .str s16), (18, .ptr 3 0), (73, .sl (List.map encChoice x14)), (74, .int .i64 ((x14).length : Int)), (75, .int .i64 s17), (96, .bool ((decide (x19.Node < 0)) || ((decide (x19.Node > 11)) || ((decide (x19.Lane < 0)) || decide (x19.Lane > 15)))))]) (fun _ => [.box [.sl (List.map encS p0.Sectors), .sl (List.map encWrite p0.Wait)], .box [.sl (List.map encS x2.1.Sectors), .sl (List.map encWrite x2.1.Wait)], .arr 42 2 (List.map encWrite s11), .box [.int .i64 x19.Node, .int .i64 x19.Lane]]) (fun _ => True) (fun _ _ => ?_) (fun hK => ?_)
            · show T _ _ _ _ (mkA 169 [(1, .int .i64 p1), (3, .sl (List.map encChoice p3)), (4, .ptr 0 0), (9, .ptr 1 0), (10, .int .i64 x2.2.1), (11, .int .i64 x2.2.2), (12, .int .i64 s15), (13, .ref 2), (14, .int .i64 s9), (15, .int .i64 s10), (16, .str s16), (18, .ptr 3 0), (73, .sl (List.map encChoice x14)), (74, .int .i64 ((x14).length : Int)), (75, .int .i64 s17), (96, .bool ((decide (x19.Node < 0)) || ((decide (x19.Node > 11)) || ((decide (x19.Lane < 0)) || decide (x19.Lane > 15)))))]) [.box [.sl (List.map encS p0.Sectors), .sl (List.map encWrite p0.Wait)], .box [.sl (List.map encS x2.1.Sectors), .sl (List.map encWrite x2.1.Wait)], .arr 42 2 (List.map encWrite s11), .box [.int .i64 x19.Node, .int .i64 x19.Lane]]
              refine T.cond (b := ((decide (x19.Node < 0)) || ((decide (x19.Node > 11)) || ((decide (x19.Lane < 0)) || decide (x19.Lane > 15))))) rfl (fun hb_118 => ?_) (fun hb_118 => ?_)
              · replace h := ite_T h hb_118
                refine T.region ?_
                refine RS.op rfl (OP.q rfl (v_assign (v := .int .i64 3) rfl ?_))
                refine RS.nil ?_
                exact T.weakR (hK1 3 h) (Weak.mkN [] [0, 1, 2, 3] (by decide) (none_kept _) rfl ⟨rn_int rfl, rn_sl encChoice_p rfl, rn_ptr rfl, rn_ptr rfl, rn_int rfl, rn_int rfl, rn_int rfl, rn_ref rfl, rn_int rfl, rn_int rfl, rn_str rfl, rn_ptr rfl, rn_sl encChoice_p rfl, rn_int rfl, rn_int rfl, trivial⟩ (rw_box (cs := [.sl (List.map encS p0.Sectors), .sl (List.map encWrite p0.Wait)]) (ds := [.sl (List.map encS p0.Sectors), .sl (List.map encWrite p0.Wait)]) rfl ⟨rn_sl encS_p rfl, rn_sl encWrite_p rfl, trivial⟩ (rw_box (cs := [.sl (List.map encS x2.1.Sectors), .sl (List.map encWrite x2.1.Wait)]) (ds := [.sl (List.map encS x2.1.Sectors), .sl (List.map encWrite x2.1.Wait)]) rfl ⟨rn_sl encS_p rfl, rn_sl encWrite_p rfl, trivial⟩ (rw_arr rfl encWrite_p rfl (rw_box (cs := [.int .i64 x19.Node, .int .i64 x19.Lane]) (ds := [.int .i64 x19.Node, .int .i64 x19.Lane]) rfl ⟨rn_int rfl, rn_int rfl, trivial⟩ (rw_nil))))))
              · replace h := ite_F h hb_118
                refine T.skip ?_
                exact T.weakR (hK1 s15 h) (Weak.mkN [] [0, 1, 2, 3] (by decide) (none_kept _) rfl ⟨rn_int rfl, rn_sl encChoice_p rfl, rn_ptr rfl, rn_ptr rfl, rn_int rfl, rn_int rfl, rn_int rfl, rn_ref rfl, rn_int rfl, rn_int rfl, rn_str rfl, rn_ptr rfl, rn_sl encChoice_p rfl, rn_int rfl, rn_int rfl, trivial⟩ (rw_box (cs := [.sl (List.map encS p0.Sectors), .sl (List.map encWrite p0.Wait)]) (ds := [.sl (List.map encS p0.Sectors), .sl (List.map encWrite p0.Wait)]) rfl ⟨rn_sl encS_p rfl, rn_sl encWrite_p rfl, trivial⟩ (rw_box (cs := [.sl (List.map encS x2.1.Sectors), .sl (List.map encWrite x2.1.Wait)]) (ds := [.sl (List.map encS x2.1.Sectors), .sl (List.map encWrite x2.1.Wait)]) rfl ⟨rn_sl encS_p rfl, rn_sl encWrite_p rfl, trivial⟩ (rw_arr rfl encWrite_p rfl (rw_box (cs := [.int .i64 x19.Node, .int .i64 x19.Lane]) (ds := [.int .i64 x19.Node, .int .i64 x19.Lane]) rfl ⟨rn_int rfl, rn_int rfl, trivial⟩ (rw_nil))))))
            · rcases bool_cases (decide (x19.Node < 0)) with hb_115 | hb_115
              · refine T.region ?_
                refine RS.op rfl (OP.q rfl (v_fieldAddr_ptr Ty.f36_0 rfl (off' := 0) rfl ?_))
                refine RS.op rfl (o_load_ptr rfl rfl (loadRow1 Ty.k3 (c := .int .i64 x19.Node) rfl ?_))
                refine RS.op rfl (OP.q rfl (v_lss rfl rfl ?_))
                refine RS.op rfl (OP.q rfl (v_move (v := .bool (decide (x19.Node < 0))) rfl ?_))
                refine RS.no rfl rfl rfl hb_115 ?_
                refine RS.no rfl rfl rfl hb_115 ?_
                refine RS.no rfl rfl rfl hb_115 ?_
                refine RS.op rfl (OP.q rfl (v_pickT (v := .bool true) rfl hb_115 rfl ?_))
                refine RS.op rfl (OP.q rfl (v_move (v := .bool true) rfl ?_))
                refine RS.no rfl rfl rfl rfl ?_
                refine RS.no rfl rfl rfl rfl ?_
                refine RS.no rfl rfl rfl rfl ?_
                refine RS.op rfl (OP.q rfl (v_pickT (v := .bool true) rfl rfl rfl ?_))
                refine RS.op rfl (OP.q rfl (v_move (v := .bool true) rfl ?_))
                refine RS.no rfl rfl rfl rfl ?_
                refine RS.no rfl rfl rfl rfl ?_
                refine RS.no rfl rfl rfl rfl ?_
                refine RS.op rfl (OP.q rfl (v_pickT (v := .bool true) rfl rfl rfl ?_))
                refine RS.nil ?_
                exact T.weakR (hK () trivial) (Weak.mkN [] [0, 1, 2, 3] (by decide) (none_kept _) rfl ⟨rn_int rfl, rn_sl encChoice_p rfl, rn_ptr rfl, rn_ptr rfl, rn_int rfl, rn_int rfl, rn_int rfl, rn_ref rfl, rn_int rfl, rn_int rfl, rn_str rfl, rn_ptr rfl, rn_sl encChoice_p rfl, rn_int rfl, rn_int rfl, rn_bool (by simp only [hb_115, Bool.true_or, Bool.or_true, Bool.false_or, Bool.or_false, Bool.true_and, Bool.and_true, Bool.false_and, Bool.and_false, Bool.not_true, Bool.not_false, if_true, if_false, Bool.false_eq_true, reduceIte]), trivial⟩ (rw_box (cs := [.sl (List.map encS p0.Sectors), .sl (List.map encWrite p0.Wait)]) (ds := [.sl (List.map encS p0.Sectors), .sl (List.map encWrite p0.Wait)]) rfl ⟨rn_sl encS_p rfl, rn_sl encWrite_p rfl, trivial⟩ (rw_box (cs := [.sl (List.map encS x2.1.Sectors), .sl (List.map encWrite x2.1.Wait)]) (ds := [.sl (List.map encS x2.1.Sectors), .sl (List.map encWrite x2.1.Wait)]) rfl ⟨rn_sl encS_p rfl, rn_sl encWrite_p rfl, trivial⟩ (rw_arr rfl encWrite_p rfl (rw_box (cs := [.int .i64 x19.Node, .int .i64 x19.Lane]) (ds := [.int .i64 x19.Node, .int .i64 x19.Lane]) rfl ⟨rn_int rfl, rn_int rfl, trivial⟩ (rw_nil))))))
              · rcases bool_cases (decide (x19.Node > 11)) with hb_116 | hb_116
                · refine T.region ?_
                  refine RS.op rfl (OP.q rfl (v_fieldAddr_ptr Ty.f36_0 rfl (off' := 0) rfl ?_))
                  refine RS.op rfl (o_load_ptr rfl rfl (loadRow1 Ty.k3 (c := .int .i64 x19.Node) rfl ?_))
                  refine RS.op rfl (OP.q rfl (v_lss rfl rfl ?_))
                  refine RS.op rfl (OP.q rfl (v_move (v := .bool (decide (x19.Node < 0))) rfl ?_))
                  refine RS.yes rfl rfl rfl hb_115 (OP.q rfl (v_fieldAddr_ptr Ty.f36_0 rfl (off' := 0) rfl ?_))
                  refine RS.yes rfl rfl rfl hb_115 (o_load_ptr rfl rfl (loadRow1 Ty.k3 (c := .int .i64 x19.Node) rfl ?_))
                  refine RS.yes rfl rfl rfl hb_115 (OP.q rfl (v_gtr rfl rfl ?_))
                  refine RS.op rfl (OP.q rfl (v_pickF (v := .bool (decide (x19.Node > 11))) rfl hb_115 rfl ?_))
                  refine RS.op rfl (OP.q rfl (v_move (v := .bool (decide (x19.Node > 11))) rfl ?_))
                  refine RS.no rfl rfl rfl hb_116 ?_
                  refine RS.no rfl rfl rfl hb_116 ?_
                  refine RS.no rfl rfl rfl hb_116 ?_
                  refine RS.op rfl (OP.q rfl (v_pickT (v := .bool true) rfl hb_116 rfl ?_))
                  refine RS.op rfl (OP.q rfl (v_move (v := .bool true) rfl ?_))
                  refine RS.no rfl rfl rfl rfl ?_
                  refine RS.no rfl rfl rfl rfl ?_
                  refine RS.no rfl rfl rfl rfl ?_
                  refine RS.op rfl (OP.q rfl (v_pickT (v := .bool true) rfl rfl rfl ?_))
                  refine RS.nil ?_
                  exact T.weakR (hK () trivial) (Weak.mkN [] [0, 1, 2, 3] (by decide) (none_kept _) rfl ⟨rn_int rfl, rn_sl encChoice_p rfl, rn_ptr rfl, rn_ptr rfl, rn_int rfl, rn_int rfl, rn_int rfl, rn_ref rfl, rn_int rfl, rn_int rfl, rn_str rfl, rn_ptr rfl, rn_sl encChoice_p rfl, rn_int rfl, rn_int rfl, rn_bool (by simp only [hb_115, hb_116, Bool.true_or, Bool.or_true, Bool.false_or, Bool.or_false, Bool.true_and, Bool.and_true, Bool.false_and, Bool.and_false, Bool.not_true, Bool.not_false, if_true, if_false, Bool.false_eq_true, reduceIte]), trivial⟩ (rw_box (cs := [.sl (List.map encS p0.Sectors), .sl (List.map encWrite p0.Wait)]) (ds := [.sl (List.map encS p0.Sectors), .sl (List.map encWrite p0.Wait)]) rfl ⟨rn_sl encS_p rfl, rn_sl encWrite_p rfl, trivial⟩ (rw_box (cs := [.sl (List.map encS x2.1.Sectors), .sl (List.map encWrite x2.1.Wait)]) (ds := [.sl (List.map encS x2.1.Sectors), .sl (List.map encWrite x2.1.Wait)]) rfl ⟨rn_sl encS_p rfl, rn_sl encWrite_p rfl, trivial⟩ (rw_arr rfl encWrite_p rfl (rw_box (cs := [.int .i64 x19.Node, .int .i64 x19.Lane]) (ds := [.int .i64 x19.Node, .int .i64 x19.Lane]) rfl ⟨rn_int rfl, rn_int rfl, trivial⟩ (rw_nil))))))
                · rcases bool_cases (decide (x19.Lane < 0)) with hb_117 | hb_117
                  · refine T.region ?_
                    refine RS.op rfl (OP.q rfl (v_fieldAddr_ptr Ty.f36_0 rfl (off' := 0) rfl ?_))
                    refine RS.op rfl (o_load_ptr rfl rfl (loadRow1 Ty.k3 (c := .int .i64 x19.Node) rfl ?_))
                    refine RS.op rfl (OP.q rfl (v_lss rfl rfl ?_))
                    refine RS.op rfl (OP.q rfl (v_move (v := .bool (decide (x19.Node < 0))) rfl ?_))
                    refine RS.yes rfl rfl rfl hb_115 (OP.q rfl (v_fieldAddr_ptr Ty.f36_0 rfl (off' := 0) rfl ?_))
                    refine RS.yes rfl rfl rfl hb_115 (o_load_ptr rfl rfl (loadRow1 Ty.k3 (c := .int .i64 x19.Node) rfl ?_))
                    refine RS.yes rfl rfl rfl hb_115 (OP.q rfl (v_gtr rfl rfl ?_))
                    refine RS.op rfl (OP.q rfl (v_pickF (v := .bool (decide (x19.Node > 11))) rfl hb_115 rfl ?_))
                    refine RS.op rfl (OP.q rfl (v_move (v := .bool (decide (x19.Node > 11))) rfl ?_))
                    refine RS.yes rfl rfl rfl hb_116 (OP.q rfl (v_fieldAddr_ptr Ty.f36_1 rfl (off' := 1) rfl ?_))
                    refine RS.yes rfl rfl rfl hb_116 (o_load_ptr rfl rfl (loadRow1 Ty.k3 (c := .int .i64 x19.Lane) rfl ?_))
                    refine RS.yes rfl rfl rfl hb_116 (OP.q rfl (v_lss rfl rfl ?_))
                    refine RS.op rfl (OP.q rfl (v_pickF (v := .bool (decide (x19.Lane < 0))) rfl hb_116 rfl ?_))
                    refine RS.op rfl (OP.q rfl (v_move (v := .bool (decide (x19.Lane < 0))) rfl ?_))
                    refine RS.no rfl rfl rfl hb_117 ?_
                    refine RS.no rfl rfl rfl hb_117 ?_
                    refine RS.no rfl rfl rfl hb_117 ?_
                    refine RS.op rfl (OP.q rfl (v_pickT (v := .bool true) rfl hb_117 rfl ?_))
                    refine RS.nil ?_
                    exact T.weakR (hK () trivial) (Weak.mkN [] [0, 1, 2, 3] (by decide) (none_kept _) rfl ⟨rn_int rfl, rn_sl encChoice_p rfl, rn_ptr rfl, rn_ptr rfl, rn_int rfl, rn_int rfl, rn_int rfl, rn_ref rfl, rn_int rfl, rn_int rfl, rn_str rfl, rn_ptr rfl, rn_sl encChoice_p rfl, rn_int rfl, rn_int rfl, rn_bool (by simp only [hb_115, hb_116, hb_117, Bool.true_or, Bool.or_true, Bool.false_or, Bool.or_false, Bool.true_and, Bool.and_true, Bool.false_and, Bool.and_false, Bool.not_true, Bool.not_false, if_true, if_false, Bool.false_eq_true, reduceIte]), trivial⟩ (rw_box (cs := [.sl (List.map encS p0.Sectors), .sl (List.map encWrite p0.Wait)]) (ds := [.sl (List.map encS p0.Sectors), .sl (List.map encWrite p0.Wait)]) rfl ⟨rn_sl encS_p rfl, rn_sl encWrite_p rfl, trivial⟩ (rw_box (cs := [.sl (List.map encS x2.1.Sectors), .sl (List.map encWrite x2.1.Wait)]) (ds := [.sl (List.map encS x2.1.Sectors), .sl (List.map encWrite x2.1.Wait)]) rfl ⟨rn_sl encS_p rfl, rn_sl encWrite_p rfl, trivial⟩ (rw_arr rfl encWrite_p rfl (rw_box (cs := [.int .i64 x19.Node, .int .i64 x19.Lane]) (ds := [.int .i64 x19.Node, .int .i64 x19.Lane]) rfl ⟨rn_int rfl, rn_int rfl, trivial⟩ (rw_nil))))))
                  · refine T.region ?_
                    refine RS.op rfl (OP.q rfl (v_fieldAddr_ptr Ty.f36_0 rfl (off' := 0) rfl ?_))
                    refine RS.op rfl (o_load_ptr rfl rfl (loadRow1 Ty.k3 (c := .int .i64 x19.Node) rfl ?_))
                    refine RS.op rfl (OP.q rfl (v_lss rfl rfl ?_))
                    refine RS.op rfl (OP.q rfl (v_move (v := .bool (decide (x19.Node < 0))) rfl ?_))
                    refine RS.yes rfl rfl rfl hb_115 (OP.q rfl (v_fieldAddr_ptr Ty.f36_0 rfl (off' := 0) rfl ?_))
                    refine RS.yes rfl rfl rfl hb_115 (o_load_ptr rfl rfl (loadRow1 Ty.k3 (c := .int .i64 x19.Node) rfl ?_))
                    refine RS.yes rfl rfl rfl hb_115 (OP.q rfl (v_gtr rfl rfl ?_))
                    refine RS.op rfl (OP.q rfl (v_pickF (v := .bool (decide (x19.Node > 11))) rfl hb_115 rfl ?_))
                    refine RS.op rfl (OP.q rfl (v_move (v := .bool (decide (x19.Node > 11))) rfl ?_))
                    refine RS.yes rfl rfl rfl hb_116 (OP.q rfl (v_fieldAddr_ptr Ty.f36_1 rfl (off' := 1) rfl ?_))
                    refine RS.yes rfl rfl rfl hb_116 (o_load_ptr rfl rfl (loadRow1 Ty.k3 (c := .int .i64 x19.Lane) rfl ?_))
                    refine RS.yes rfl rfl rfl hb_116 (OP.q rfl (v_lss rfl rfl ?_))
                    refine RS.op rfl (OP.q rfl (v_pickF (v := .bool (decide (x19.Lane < 0))) rfl hb_116 rfl ?_))
                    refine RS.op rfl (OP.q rfl (v_move (v := .bool (decide (x19.Lane < 0))) rfl ?_))
                    refine RS.yes rfl rfl rfl hb_117 (OP.q rfl (v_fieldAddr_ptr Ty.f36_1 rfl (off' := 1) rfl ?_))
                    refine RS.yes rfl rfl rfl hb_117 (o_load_ptr rfl rfl (loadRow1 Ty.k3 (c := .int .i64 x19.Lane) rfl ?_))
                    refine RS.yes rfl rfl rfl hb_117 (OP.q rfl (v_gtr rfl rfl ?_))
                    refine RS.op rfl (OP.q rfl (v_pickF (v := .bool (decide (x19.Lane > 15))) rfl hb_117 rfl ?_))
                    refine RS.nil ?_
                    exact T.weakR (hK () trivial) (Weak.mkN [] [0, 1, 2, 3] (by decide) (none_kept _) rfl ⟨rn_int rfl, rn_sl encChoice_p rfl, rn_ptr rfl, rn_ptr rfl, rn_int rfl, rn_int rfl, rn_int rfl, rn_ref rfl, rn_int rfl, rn_int rfl, rn_str rfl, rn_ptr rfl, rn_sl encChoice_p rfl, rn_int rfl, rn_int rfl, rn_bool (by simp only [hb_115, hb_116, hb_117, Bool.true_or, Bool.or_true, Bool.false_or, Bool.or_false, Bool.true_and, Bool.and_true, Bool.false_and, Bool.and_false, Bool.not_true, Bool.not_false, if_true, if_false, Bool.false_eq_true, reduceIte]), trivial⟩ (rw_box (cs := [.sl (List.map encS p0.Sectors), .sl (List.map encWrite p0.Wait)]) (ds := [.sl (List.map encS p0.Sectors), .sl (List.map encWrite p0.Wait)]) rfl ⟨rn_sl encS_p rfl, rn_sl encWrite_p rfl, trivial⟩ (rw_box (cs := [.sl (List.map encS x2.1.Sectors), .sl (List.map encWrite x2.1.Wait)]) (ds := [.sl (List.map encS x2.1.Sectors), .sl (List.map encWrite x2.1.Wait)]) rfl ⟨rn_sl encS_p rfl, rn_sl encWrite_p rfl, trivial⟩ (rw_arr rfl encWrite_p rfl (rw_box (cs := [.int .i64 x19.Node, .int .i64 x19.Lane]) (ds := [.int .i64 x19.Node, .int .i64 x19.Lane]) rfl ⟨rn_int rfl, rn_int rfl, trivial⟩ (rw_nil))))))
        · replace h := ite_F h hb_109
          refine T.exit ?_
          obtain ⟨w_119, h, hw_119⟩ := map_inr h
          replace h := h.trans (congrArg some (hv_108 _ hw_119))
          refine T.block ?_
          refine T.seq ?_
          refine T.region ?_
          refine RS.op rfl (OP.q rfl (v_move (v := .int .i64 s15) rfl ?_))
          refine RS.op rfl (OP.q rfl (v_neq rfl rfl ?_))
          refine RS.op rfl (OP.q rfl (v_assign (v := .bool (s15 != 0)) rfl ?_))
          refine RS.nil ?_
          refine T.cond (b := s15 != 0) rfl (fun hb_120 => ?_) (fun hb_120 => ?_)
          · replace h := ite_T h hb_120
            refine T.skip ?_
            refine T.region ?_
            refine RS.op rfl (OP.q rfl (v_move (v := .int .i64 s10) rfl ?_))
            refine RS.op rfl (OP.q rfl (v_add rfl rfl ?_))
            refine RS.op rfl (OP.q rfl (v_assign (v := .int .i64 (IntKind.i64.wrap (s10 + 29))) rfl ?_))
            refine RS.nil ?_
            exact ⟨(s15, s9, IntKind.i64.wrap (s10 + 29), s11), (Option.some.inj h).symm, Weak.mkN [] [0, 1, 2] (by decide) (none_kept _) rfl ⟨rn_int rfl, rn_sl encChoice_p rfl, rn_ptr rfl, rn_ptr rfl, rn_int rfl, rn_int rfl, rn_int rfl, rn_ref rfl, rn_int rfl, rn_int rfl, trivial⟩ (rw_box (cs := [.sl (List.map encS p0.Sectors), .sl (List.map encWrite p0.Wait)]) (ds := [.sl (List.map encS p0.Sectors), .sl (List.map encWrite p0.Wait)]) rfl ⟨rn_sl encS_p rfl, rn_sl encWrite_p rfl, trivial⟩ (rw_box (cs := [.sl (List.map encS x2.1.Sectors), .sl (List.map encWrite x2.1.Wait)]) (ds := [.sl (List.map encS x2.1.Sectors), .sl (List.map encWrite x2.1.Wait)]) rfl ⟨rn_sl encS_p rfl, rn_sl encWrite_p rfl, trivial⟩ (rw_arr rfl encWrite_p rfl (rw_nil))))⟩
          · replace h := ite_F h hb_120
            refine T.join (Z := Unit) (fun _ => mkA 169 [(1, .int .i64 p1), (3, .sl (List.map encChoice p3)), (4, .ptr 0 0), (9, .ptr 1 0), (10, .int .i64 x2.2.1), (11, .int .i64 x2.2.2), (12, .int .i64 s15), (13, .ref 2), (14, .int .i64 s9), (15, .int .i64 s10), (16, .str s16), (121, .bool ((s9 == 80) || ((s11).length : Int) == 300))]) (fun _ => [.box [.sl (List.map encS p0.Sectors), .sl (List.map encWrite p0.Wait)], .box [.sl (List.map encS x2.1.Sectors), .sl (List.map encWrite x2.1.Wait)], .arr 42 2 (List.map encWrite s11)]) (fun _ => True) (fun _ _ => ?_) (fun hK => ?_)
            · show T _ _ _ _ (mkA 169 [(1, .int .i64 p1), (3, .sl (List.map encChoice p3)), (4, .ptr 0 0), (9, .ptr 1 0), (10, .int .i64 x2.2.1), (11, .int .i64 x2.2.2), (12, .int .i64 s15), (13, .ref 2), (14, .int .i64 s9), (15, .int .i64 s10), (16, .str s16), (121, .bool ((s9 == 80) || ((s11).length : Int) == 300))]) [.box [.sl (List.map encS p0.Sectors), .sl (List.map encWrite p0.Wait)], .box [.sl (List.map encS x2.1.Sectors), .sl (List.map encWrite x2.1.Wait)], .arr 42 2 (List.map encWrite s11)]
              refine T.cond (b := ((s9 == 80) || ((s11).length : Int) == 300)) rfl (fun hb_122 => ?_) (fun hb_122 => ?_)
              · replace h := ite_T h hb_122
                refine T.region ?_
                refine RS.op rfl (OP.q rfl (v_assign (v := .int .i64 8) rfl ?_))
                refine RS.nil ?_
                refine T.region ?_
                refine RS.op rfl (OP.q rfl (v_move (v := .int .i64 s10) rfl ?_))
                refine RS.op rfl (OP.q rfl (v_add rfl rfl ?_))
                refine RS.op rfl (OP.q rfl (v_assign (v := .int .i64 (IntKind.i64.wrap (s10 + 29))) rfl ?_))
                refine RS.nil ?_
                exact ⟨(8, s9, IntKind.i64.wrap (s10 + 29), s11), (Option.some.inj h).symm, Weak.mkN [] [0, 1, 2] (by decide) (none_kept _) rfl ⟨rn_int rfl, rn_sl encChoice_p rfl, rn_ptr rfl, rn_ptr rfl, rn_int rfl, rn_int rfl, rn_int rfl, rn_ref rfl, rn_int rfl, rn_int rfl, trivial⟩ (rw_box (cs := [.sl (List.map encS p0.Sectors), .sl (List.map encWrite p0.Wait)]) (ds := [.sl (List.map encS p0.Sectors), .sl (List.map encWrite p0.Wait)]) rfl ⟨rn_sl encS_p rfl, rn_sl encWrite_p rfl, trivial⟩ (rw_box (cs := [.sl (List.map encS x2.1.Sectors), .sl (List.map encWrite x2.1.Wait)]) (ds := [.sl (List.map encS x2.1.Sectors), .sl (List.map encWrite x2.1.Wait)]) rfl ⟨rn_sl encS_p rfl, rn_sl encWrite_p rfl, trivial⟩ (rw_arr rfl encWrite_p rfl (rw_nil))))⟩
              · replace h := ite_F h hb_122
                refine T.seq ?_
                obtain ⟨x25, hx25, h⟩ := bind_some h
                obtain ⟨x26, hx26, h⟩ := bind_some h
                refine T.region ?_
                refine RS.op rfl (OP.q rfl (v_move (v := .ref 2) rfl ?_))
                refine RS.op rfl (OP.q rfl (v_move (v := .int .i64 s9) rfl ?_))
                refine RS.op rfl (OP.q rfl (v_add rfl rfl ?_))
                refine RS.op rfl (OP.q rfl (v_move (v := .str s16) rfl ?_))
                refine RS.op rfl (o_call (as0 := [.str s16]) (as1 := [.str s16]) (caps := []) (aw1 := [.box [.sl (List.map encS p0.Sectors), .sl (List.map encWrite p0.Wait)], .box [.sl (List.map encS x2.1.Sectors), .sl (List.map encWrite x2.1.Wait)], .arr 42 2 (List.map encWrite s11)]) rfl rfl rfl (k_flat (v := .str x25) (crossref_Framed_c s16 x25 hx25) (⟨pure_str _, trivial⟩) rfl ?_))
                refine RS.op rfl (OP.q rfl (v_build (cs := [.int .i64 (IntKind.i64.wrap (120 + s9)), .str x25]) Ty.z42 Ty.p42 rfl ?_))
                refine RS.op rfl (o_buildSlice (rows := List.map encWrite [(⟨IntKind.i64.wrap (120 + s9), x25⟩ : Write)]) (vs := [.agg [.int .i64 (IntKind.i64.wrap (120 + s9)), .str x25]]) Ty.s23 Ty.z42 rfl rfl rfl rfl rfl (aw' := [.box [.sl (List.map encS p0.Sectors), .sl (List.map encWrite p0.Wait)], .box [.sl (List.map encS x2.1.Sectors), .sl (List.map encWrite x2.1.Wait)], .arr 42 2 (List.map encWrite s11), .arr 42 2 (List.map encWrite [(⟨IntKind.i64.wrap (120 + s9), x25⟩ : Write)])]) rfl ?_)
                refine RS.op rfl (o_app_ref (en := encWrite) (xs := s11) (ys := ([(⟨IntKind.i64.wrap (120 + s9), x25⟩ : Write)] : List Write)) Ty.s23 (fun _ => rfl) rfl rfl rfl hx26 rfl (aw' := [.box [.sl (List.map encS p0.Sectors), .sl (List.map encWrite p0.Wait)], .box [.sl (List.map encS x2.1.Sectors), .sl (List.map encWrite x2.1.Wait)], .dead, .dead, .arr 42 2 (List.map encWrite x26)]) rfl ?_)
                refine RS.op rfl (OP.q rfl (v_assign (v := .ref 4) rfl ?_))
                refine RS.nil ?_
                refine T.region ?_
                refine RS.op rfl (OP.q rfl (v_move (v := .int .i64 s9) rfl ?_))
                refine RS.op rfl (OP.q rfl (v_add rfl rfl ?_))
                refine RS.op rfl (OP.q rfl (v_assign (v := .int .i64 (IntKind.i64.wrap (s9 + 1))) rfl ?_))
                refine RS.nil ?_
                refine T.region ?_
                refine RS.op rfl (OP.q rfl (v_move (v := .int .i64 s10) rfl ?_))
                refine RS.op rfl (OP.q rfl (v_add rfl rfl ?_))
                refine RS.op rfl (OP.q rfl (v_assign (v := .int .i64 (IntKind.i64.wrap (s10 + 29))) rfl ?_))
                refine RS.nil ?_
                exact ⟨(s15, IntKind.i64.wrap (s9 + 1), IntKind.i64.wrap (s10 + 29), x26), (Option.some.inj h).symm, Weak.mkN [] [0, 1, 4] (by decide) (none_kept _) rfl ⟨rn_int rfl, rn_sl encChoice_p rfl, rn_ptr rfl, rn_ptr rfl, rn_int rfl, rn_int rfl, rn_int rfl, rn_ref rfl, rn_int rfl, rn_int rfl, trivial⟩ (rw_box (cs := [.sl (List.map encS p0.Sectors), .sl (List.map encWrite p0.Wait)]) (ds := [.sl (List.map encS p0.Sectors), .sl (List.map encWrite p0.Wait)]) rfl ⟨rn_sl encS_p rfl, rn_sl encWrite_p rfl, trivial⟩ (rw_box (cs := [.sl (List.map encS x2.1.Sectors), .sl (List.map encWrite x2.1.Wait)]) (ds := [.sl (List.map encS x2.1.Sectors), .sl (List.map encWrite x2.1.Wait)]) rfl ⟨rn_sl encS_p rfl, rn_sl encWrite_p rfl, trivial⟩ (rw_arr rfl encWrite_p rfl (rw_nil))))⟩
            · rcases bool_cases (s9 == 80) with hb_121 | hb_121
              · refine T.region ?_
                refine RS.op rfl (OP.q rfl (v_move (v := .int .i64 s9) rfl ?_))
                refine RS.op rfl (OP.q rfl (v_eql rfl rfl ?_))
                refine RS.op rfl (OP.q rfl (v_move (v := .bool (s9 == 80)) rfl ?_))
                refine RS.no rfl rfl rfl hb_121 ?_
                refine RS.no rfl rfl rfl hb_121 ?_
                refine RS.no rfl rfl rfl hb_121 ?_
                refine RS.op rfl (OP.q rfl (v_pickT (v := .bool true) rfl hb_121 rfl ?_))
                refine RS.op rfl (OP.q rfl (v_assign (v := .bool true) rfl ?_))
                refine RS.nil ?_
                exact T.weakR (hK () trivial) (Weak.mkN [] [0, 1, 2] (by decide) (none_kept _) rfl ⟨rn_int rfl, rn_sl encChoice_p rfl, rn_ptr rfl, rn_ptr rfl, rn_int rfl, rn_int rfl, rn_int rfl, rn_ref rfl, rn_int rfl, rn_int rfl, rn_str rfl, rn_bool (by simp only [hb_121, Bool.true_or, Bool.or_true, Bool.false_or, Bool.or_false, Bool.true_and, Bool.and_true, Bool.false_and, Bool.and_false, Bool.not_true, Bool.not_false, if_true, if_false, Bool.false_eq_true, reduceIte]), trivial⟩ (rw_box (cs := [.sl (List.map encS p0.Sectors), .sl (List.map encWrite p0.Wait)]) (ds := [.sl (List.map encS p0.Sectors), .sl (List.map encWrite p0.Wait)]) rfl ⟨rn_sl encS_p rfl, rn_sl encWrite_p rfl, trivial⟩ (rw_box (cs := [.sl (List.map encS x2.1.Sectors), .sl (List.map encWrite x2.1.Wait)]) (ds := [.sl (List.map encS x2.1.Sectors), .sl (List.map encWrite x2.1.Wait)]) rfl ⟨rn_sl encS_p rfl, rn_sl encWrite_p rfl, trivial⟩ (rw_arr rfl encWrite_p rfl (rw_nil)))))
              · refine T.region ?_
                refine RS.op rfl (OP.q rfl (v_move (v := .int .i64 s9) rfl ?_))
                refine RS.op rfl (OP.q rfl (v_eql rfl rfl ?_))
                refine RS.op rfl (OP.q rfl (v_move (v := .bool (s9 == 80)) rfl ?_))
                refine RS.yes rfl rfl rfl hb_121 (OP.q rfl (v_move (v := .ref 2) rfl ?_))
                refine RS.yes rfl rfl rfl hb_121 (OP.q rfl (v_len_ref (en := encWrite) Ty.s23 rfl rfl ?_))
                refine RS.yes rfl rfl rfl hb_121 (OP.q rfl (v_eql rfl rfl ?_))
                refine RS.op rfl (OP.q rfl (v_pickF (v := .bool (((s11).length : Int) == 300)) rfl hb_121 rfl ?_))
                refine RS.op rfl (OP.q rfl (v_assign (v := .bool (((s11).length : Int) == 300)) rfl ?_))
                refine RS.nil ?_
                exact T.weakR (hK () trivial) (Weak.mkN [] [0, 1, 2] (by decide) (none_kept _) rfl ⟨rn_int rfl, rn_sl encChoice_p rfl, rn_ptr rfl, rn_ptr rfl, rn_int rfl, rn_int rfl, rn_int rfl, rn_ref rfl, rn_int rfl, rn_int rfl, rn_str rfl, rn_bool (by simp only [hb_121, Bool.true_or, Bool.or_true, Bool.false_or, Bool.or_false, Bool.true_and, Bool.and_true, Bool.false_and, Bool.and_false, Bool.not_true, Bool.not_false, if_true, if_false, Bool.false_eq_true, reduceIte]), trivial⟩ (rw_box (cs := [.sl (List.map encS p0.Sectors), .sl (List.map encWrite p0.Wait)]) (ds := [.sl (List.map encS p0.Sectors), .sl (List.map encWrite p0.Wait)]) rfl ⟨rn_sl encS_p rfl, rn_sl encWrite_p rfl, trivial⟩ (rw_box (cs := [.sl (List.map encS x2.1.Sectors), .sl (List.map encWrite x2.1.Wait)]) (ds := [.sl (List.map encS x2.1.Sectors), .sl (List.map encWrite x2.1.Wait)]) rfl ⟨rn_sl encS_p rfl, rn_sl encWrite_p rfl, trivial⟩ (rw_arr rfl encWrite_p rfl (rw_nil)))))
      · replace h := ite_F h hb_86
        refine T.exit ?_
        obtain ⟨w_123, h, hw_123⟩ := map_inr h
        replace h := h.trans (congrArg some (hv_84 _ hw_123))
        refine T.seq ?_
        obtain ⟨x27, hx27, h⟩ := bind_some h
        refine T.join (Z := Unit) (fun _ => mkA 169 [(4, .ptr 0 0), (9, .ptr 1 0), (10, .int .i64 x2.2.1), (11, .int .i64 x2.2.2), (12, .int .i64 s8), (13, .ref 2), (14, .int .i64 s9), (134, .bool ((!x27) || s8 != 0))]) (fun _ => [.box [.sl (List.map encS p0.Sectors), .sl (List.map encWrite p0.Wait)], .box [.sl (List.map encS x2.1.Sectors), .sl (List.map encWrite x2.1.Wait)], .arr 42 2 (List.map encWrite s11)]) (fun _ => True) (fun _ _ => ?_) (fun hK => ?_)
        · show T _ _ _ _ (mkA 169 [(4, .ptr 0 0), (9, .ptr 1 0), (10, .int .i64 x2.2.1), (11, .int .i64 x2.2.2), (12, .int .i64 s8), (13, .ref 2), (14, .int .i64 s9), (134, .bool ((!x27) || s8 != 0))]) [.box [.sl (List.map encS p0.Sectors), .sl (List.map encWrite p0.Wait)], .box [.sl (List.map encS x2.1.Sectors), .sl (List.map encWrite x2.1.Wait)], .arr 42 2 (List.map encWrite s11)]
          refine T.cond (b := ((!x27) || s8 != 0)) rfl (fun hb_125 => ?_) (fun hb_125 => ?_)
          · replace h := ite_T h hb_125
            obtain ⟨x29, hx29, h⟩ := bind_some h
            obtain ⟨zt_129, hz, h⟩ := bind_some h
            revert hz h; revert zt_129; intro c31 hz h
            refine T.join (Z := Unit) (fun _ => mkA 169 [(8, .bool c31)]) (fun _ => []) (fun _ => True) (fun _ _ => ?_) (fun hK => ?_)
            · show T _ _ _ _ (mkA 169 [(8, .bool c31)]) []
              refine T.ret' (R := ?R130) ?hq130 ?_
              case hq130 => repeat (first | exact RetIs.base | refine RetIs.thn ?_ | refine RetIs.blk ?_ | refine RetIs.lq ?_)
              refine res_tmpA (v := .bool c31) rfl ?_
              refine res_done ?_
              exact ret_data (v := .bool c31) rfl (pure_bool _) ⟨congrArg (fun r : Bool => (.bool r : AV)) (Option.some.inj h), rfl⟩
            · rcases bool_cases x29 with hb_126 | hb_126
              · replace hz := ite_T hz hb_126
                rcases bool_cases (x2.2.2 == s8) with hb_127 | hb_127
                · replace hz := ite_T hz hb_127
                  obtain ⟨x30, hx30, hz⟩ := bind_some hz
                  rcases bool_cases x30 with hb_128 | hb_128
                  · replace hz := ite_T hz hb_128
                    refine T.region ?_
                    refine RS.op rfl (o_call (as0 := []) (as1 := []) (caps := []) (aw1 := [.box [.sl (List.map encS p0.Sectors), .sl (List.map encWrite p0.Wait)], .box [.sl (List.map encS x2.1.Sectors), .sl (List.map encWrite x2.1.Wait)], .arr 42 2 (List.map encWrite s11)]) rfl rfl rfl (k_flat (v := .bool x29) (crosslaw_logged_c x29 hx29) (trivial) rfl ?_))
                    refine RS.op rfl (OP.q rfl (v_move (v := .bool x29) rfl ?_))
                    refine RS.yes rfl rfl rfl hb_126 (OP.q rfl (v_move (v := .int .i64 x2.2.2) rfl ?_))
                    refine RS.yes rfl rfl rfl hb_126 (OP.q rfl (v_move (v := .int .i64 s8) rfl ?_))
                    refine RS.yes rfl rfl rfl hb_126 (OP.q rfl (v_eql rfl rfl ?_))
                    refine RS.op rfl (OP.q rfl (v_pickT (v := .bool (x2.2.2 == s8)) rfl hb_126 rfl ?_))
                    refine RS.op rfl (OP.q rfl (v_move (v := .bool (x2.2.2 == s8)) rfl ?_))
                    refine RS.yes rfl rfl rfl hb_127 (o_load_ptr rfl rfl (loadRowA Ty.k25 Ty.c25 rfl (cs := [.sl (List.map encS x2.1.Sectors), .sl (List.map encWrite x2.1.Wait)]) rfl ?_))
                    refine RS.yes rfl rfl rfl hb_127 (o_call (as0 := [.agg [.sl (List.map encS x2.1.Sectors), .sl (List.map encWrite x2.1.Wait)]]) (as1 := [.agg [.sl (List.map encS x2.1.Sectors), .sl (List.map encWrite x2.1.Wait)]]) (caps := []) (aw1 := [.box [.sl (List.map encS p0.Sectors), .sl (List.map encWrite p0.Wait)], .box [.sl (List.map encS x2.1.Sectors), .sl (List.map encWrite x2.1.Wait)], .arr 42 2 (List.map encWrite s11)]) rfl rfl rfl (k_flat (v := .bool x30) (crosslaw_noDisk_c x2.1 x30 hx30) (⟨pure_agg _ (pures_mem (⟨pure_map encS_p _, pure_map encWrite_p _, trivial⟩)), trivial⟩) rfl ?_))
                    refine RS.op rfl (OP.q rfl (v_pickT (v := .bool x30) rfl hb_127 rfl ?_))
                    refine RS.op rfl (OP.q rfl (v_move (v := .bool x30) rfl ?_))
                    refine RS.yes rfl rfl rfl hb_128 (OP.q rfl (v_move (v := .int .i64 x2.2.1) rfl ?_))
                    refine RS.yes rfl rfl rfl hb_128 (OP.q rfl (v_eql rfl rfl ?_))
                    refine RS.op rfl (OP.q rfl (v_pickT (v := .bool (x2.2.1 == 0)) rfl hb_128 rfl ?_))
                    refine RS.op rfl (OP.q rfl (v_assign (v := .bool (x2.2.1 == 0)) rfl ?_))
                    refine RS.nil ?_
                    exact T.weakR (hK () trivial) (Weak.mkN [] [] (by decide) (none_kept _) rfl ⟨rn_bool ((congrArg (fun p => p) (Option.some.inj hz)).symm), trivial⟩ (rw_nil))
                  · replace hz := ite_F hz hb_128
                    refine T.region ?_
                    refine RS.op rfl (o_call (as0 := []) (as1 := []) (caps := []) (aw1 := [.box [.sl (List.map encS p0.Sectors), .sl (List.map encWrite p0.Wait)], .box [.sl (List.map encS x2.1.Sectors), .sl (List.map encWrite x2.1.Wait)], .arr 42 2 (List.map encWrite s11)]) rfl rfl rfl (k_flat (v := .bool x29) (crosslaw_logged_c x29 hx29) (trivial) rfl ?_))
                    refine RS.op rfl (OP.q rfl (v_move (v := .bool x29) rfl ?_))
                    refine RS.yes rfl rfl rfl hb_126 (OP.q rfl (v_move (v := .int .i64 x2.2.2) rfl ?_))
                    refine RS.yes rfl rfl rfl hb_126 (OP.q rfl (v_move (v := .int .i64 s8) rfl ?_))
                    refine RS.yes rfl rfl rfl hb_126 (OP.q rfl (v_eql rfl rfl ?_))
                    refine RS.op rfl (OP.q rfl (v_pickT (v := .bool (x2.2.2 == s8)) rfl hb_126 rfl ?_))
                    refine RS.op rfl (OP.q rfl (v_move (v := .bool (x2.2.2 == s8)) rfl ?_))
                    refine RS.yes rfl rfl rfl hb_127 (o_load_ptr rfl rfl (loadRowA Ty.k25 Ty.c25 rfl (cs := [.sl (List.map encS x2.1.Sectors), .sl (List.map encWrite x2.1.Wait)]) rfl ?_))
                    refine RS.yes rfl rfl rfl hb_127 (o_call (as0 := [.agg [.sl (List.map encS x2.1.Sectors), .sl (List.map encWrite x2.1.Wait)]]) (as1 := [.agg [.sl (List.map encS x2.1.Sectors), .sl (List.map encWrite x2.1.Wait)]]) (caps := []) (aw1 := [.box [.sl (List.map encS p0.Sectors), .sl (List.map encWrite p0.Wait)], .box [.sl (List.map encS x2.1.Sectors), .sl (List.map encWrite x2.1.Wait)], .arr 42 2 (List.map encWrite s11)]) rfl rfl rfl (k_flat (v := .bool x30) (crosslaw_noDisk_c x2.1 x30 hx30) (⟨pure_agg _ (pures_mem (⟨pure_map encS_p _, pure_map encWrite_p _, trivial⟩)), trivial⟩) rfl ?_))
                    refine RS.op rfl (OP.q rfl (v_pickT (v := .bool x30) rfl hb_127 rfl ?_))
                    refine RS.op rfl (OP.q rfl (v_move (v := .bool x30) rfl ?_))
                    refine RS.no rfl rfl rfl hb_128 ?_
                    refine RS.no rfl rfl rfl hb_128 ?_
                    refine RS.op rfl (OP.q rfl (v_pickF (v := .bool false) rfl hb_128 rfl ?_))
                    refine RS.op rfl (OP.q rfl (v_assign (v := .bool false) rfl ?_))
                    refine RS.nil ?_
                    exact T.weakR (hK () trivial) (Weak.mkN [] [] (by decide) (none_kept _) rfl ⟨rn_bool ((congrArg (fun p => p) (Option.some.inj hz)).symm), trivial⟩ (rw_nil))
                · replace hz := ite_F hz hb_127
                  refine T.region ?_
                  refine RS.op rfl (o_call (as0 := []) (as1 := []) (caps := []) (aw1 := [.box [.sl (List.map encS p0.Sectors), .sl (List.map encWrite p0.Wait)], .box [.sl (List.map encS x2.1.Sectors), .sl (List.map encWrite x2.1.Wait)], .arr 42 2 (List.map encWrite s11)]) rfl rfl rfl (k_flat (v := .bool x29) (crosslaw_logged_c x29 hx29) (trivial) rfl ?_))
                  refine RS.op rfl (OP.q rfl (v_move (v := .bool x29) rfl ?_))
                  refine RS.yes rfl rfl rfl hb_126 (OP.q rfl (v_move (v := .int .i64 x2.2.2) rfl ?_))
                  refine RS.yes rfl rfl rfl hb_126 (OP.q rfl (v_move (v := .int .i64 s8) rfl ?_))
                  refine RS.yes rfl rfl rfl hb_126 (OP.q rfl (v_eql rfl rfl ?_))
                  refine RS.op rfl (OP.q rfl (v_pickT (v := .bool (x2.2.2 == s8)) rfl hb_126 rfl ?_))
                  refine RS.op rfl (OP.q rfl (v_move (v := .bool (x2.2.2 == s8)) rfl ?_))
                  refine RS.no rfl rfl rfl hb_127 ?_
                  refine RS.no rfl rfl rfl hb_127 ?_
                  refine RS.op rfl (OP.q rfl (v_pickF (v := .bool false) rfl hb_127 rfl ?_))
                  refine RS.op rfl (OP.q rfl (v_move (v := .bool false) rfl ?_))
                  refine RS.no rfl rfl rfl rfl ?_
                  refine RS.no rfl rfl rfl rfl ?_
                  refine RS.op rfl (OP.q rfl (v_pickF (v := .bool false) rfl rfl rfl ?_))
                  refine RS.op rfl (OP.q rfl (v_assign (v := .bool false) rfl ?_))
                  refine RS.nil ?_
                  exact T.weakR (hK () trivial) (Weak.mkN [] [] (by decide) (none_kept _) rfl ⟨rn_bool ((congrArg (fun p => p) (Option.some.inj hz)).symm), trivial⟩ (rw_nil))
              · replace hz := ite_F hz hb_126
                refine T.region ?_
                refine RS.op rfl (o_call (as0 := []) (as1 := []) (caps := []) (aw1 := [.box [.sl (List.map encS p0.Sectors), .sl (List.map encWrite p0.Wait)], .box [.sl (List.map encS x2.1.Sectors), .sl (List.map encWrite x2.1.Wait)], .arr 42 2 (List.map encWrite s11)]) rfl rfl rfl (k_flat (v := .bool x29) (crosslaw_logged_c x29 hx29) (trivial) rfl ?_))
                refine RS.op rfl (OP.q rfl (v_move (v := .bool x29) rfl ?_))
                refine RS.no rfl rfl rfl hb_126 ?_
                refine RS.no rfl rfl rfl hb_126 ?_
                refine RS.no rfl rfl rfl hb_126 ?_
                refine RS.op rfl (OP.q rfl (v_pickF (v := .bool false) rfl hb_126 rfl ?_))
                refine RS.op rfl (OP.q rfl (v_move (v := .bool false) rfl ?_))
                refine RS.no rfl rfl rfl rfl ?_
                refine RS.no rfl rfl rfl rfl ?_
                refine RS.op rfl (OP.q rfl (v_pickF (v := .bool false) rfl rfl rfl ?_))
                refine RS.op rfl (OP.q rfl (v_move (v := .bool false) rfl ?_))
                refine RS.no rfl rfl rfl rfl ?_
                refine RS.no rfl rfl rfl rfl ?_
                refine RS.op rfl (OP.q rfl (v_pickF (v := .bool false) rfl rfl rfl ?_))
                refine RS.op rfl (OP.q rfl (v_assign (v := .bool false) rfl ?_))
                refine RS.nil ?_
                exact T.weakR (hK () trivial) (Weak.mkN [] [] (by decide) (none_kept _) rfl ⟨rn_bool ((congrArg (fun p => p) (Option.some.inj hz)).symm), trivial⟩ (rw_nil))
          · replace h := ite_F h hb_125
            refine T.skip ?_
            obtain ⟨zt_134, hz, h⟩ := bind_some h
            revert hz h; revert zt_134; intro c34 hz h
            refine T.join (Z := Unit) (fun _ => mkA 169 [(8, .bool c34)]) (fun _ => []) (fun _ => True) (fun _ _ => ?_) (fun hK => ?_)
            · show T _ _ _ _ (mkA 169 [(8, .bool c34)]) []
              refine T.ret' (R := ?R135) ?hq135 ?_
              case hq135 => repeat (first | exact RetIs.base | refine RetIs.thn ?_ | refine RetIs.blk ?_ | refine RetIs.lq ?_)
              refine res_tmpA (v := .bool c34) rfl ?_
              refine res_done ?_
              exact ret_data (v := .bool c34) rfl (pure_bool _) ⟨congrArg (fun r : Bool => (.bool r : AV)) (Option.some.inj h), rfl⟩
            · rcases bool_cases (x2.2.2 == 0) with hb_131 | hb_131
              · replace hz := ite_T hz hb_131
                rcases bool_cases (x2.2.1 == s9) with hb_132 | hb_132
                · replace hz := ite_T hz hb_132
                  obtain ⟨x32, hx32, hz⟩ := bind_some hz
                  rcases bool_cases x32 with hb_133 | hb_133
                  · replace hz := ite_T hz hb_133
                    obtain ⟨x33, hx33, hz⟩ := bind_some hz
                    refine T.region ?_
                    refine RS.op rfl (OP.q rfl (v_move (v := .int .i64 x2.2.2) rfl ?_))
                    refine RS.op rfl (OP.q rfl (v_eql rfl rfl ?_))
                    refine RS.op rfl (OP.q rfl (v_move (v := .bool (x2.2.2 == 0)) rfl ?_))
                    refine RS.yes rfl rfl rfl hb_131 (OP.q rfl (v_move (v := .int .i64 x2.2.1) rfl ?_))
                    refine RS.yes rfl rfl rfl hb_131 (OP.q rfl (v_move (v := .int .i64 s9) rfl ?_))
                    refine RS.yes rfl rfl rfl hb_131 (OP.q rfl (v_eql rfl rfl ?_))
                    refine RS.op rfl (OP.q rfl (v_pickT (v := .bool (x2.2.1 == s9)) rfl hb_131 rfl ?_))
                    refine RS.op rfl (OP.q rfl (v_move (v := .bool (x2.2.1 == s9)) rfl ?_))
                    refine RS.yes rfl rfl rfl hb_132 (OP.q rfl (v_fieldAddr_ptr Ty.f25_0 rfl (off' := 0) rfl ?_))
                    refine RS.yes rfl rfl rfl hb_132 (o_load_ptr rfl rfl (loadRow1 Ty.k22 (c := .sl (List.map encS x2.1.Sectors)) rfl ?_))
                    refine RS.yes rfl rfl rfl hb_132 (OP.q rfl (v_fieldAddr_ptr Ty.f25_0 rfl (off' := 0) rfl ?_))
                    refine RS.yes rfl rfl rfl hb_132 (o_load_ptr rfl rfl (loadRow1 Ty.k22 (c := .sl (List.map encS p0.Sectors)) rfl ?_))
                    refine RS.yes rfl rfl rfl hb_132 (o_call (as0 := [.sl (List.map encS x2.1.Sectors), .sl (List.map encS p0.Sectors)]) (as1 := [.sl (List.map encS x2.1.Sectors), .sl (List.map encS p0.Sectors)]) (caps := []) (aw1 := [.box [.sl (List.map encS p0.Sectors), .sl (List.map encWrite p0.Wait)], .box [.sl (List.map encS x2.1.Sectors), .sl (List.map encWrite x2.1.Wait)], .arr 42 2 (List.map encWrite s11)]) rfl rfl rfl (k_flat (v := .bool x32) (slices_Equal_string_c x2.1.Sectors p0.Sectors x32 hx32) (⟨pure_map encS_p _, pure_map encS_p _, trivial⟩) rfl ?_))
                    refine RS.op rfl (OP.q rfl (v_pickT (v := .bool x32) rfl hb_132 rfl ?_))
                    refine RS.op rfl (OP.q rfl (v_move (v := .bool x32) rfl ?_))
                    refine RS.yes rfl rfl rfl hb_133 (OP.q rfl (v_fieldAddr_ptr Ty.f25_1 rfl (off' := 1) rfl ?_))
                    refine RS.yes rfl rfl rfl hb_133 (o_load_ptr rfl rfl (loadRow1 Ty.k23 (c := .sl (List.map encWrite x2.1.Wait)) rfl ?_))
                    refine RS.yes rfl rfl rfl hb_133 (OP.q rfl (v_move (v := .ref 2) rfl ?_))
                    refine RS.yes rfl rfl rfl hb_133 (o_call (as0 := [.sl (List.map encWrite x2.1.Wait), .ref 2]) (as1 := [.sl (List.map encWrite x2.1.Wait), .sl (List.map encWrite s11)]) (caps := []) (aw1 := [.box [.sl (List.map encS p0.Sectors), .sl (List.map encWrite p0.Wait)], .box [.sl (List.map encS x2.1.Sectors), .sl (List.map encWrite x2.1.Wait)], .dead]) rfl rfl rfl (k_flat (v := .bool x33) (slices_Equal_Write_c x2.1.Wait s11 x33 hx33) (⟨pure_map encWrite_p _, pure_map encWrite_p _, trivial⟩) rfl ?_))
                    refine RS.op rfl (OP.q rfl (v_pickT (v := .bool x33) rfl hb_133 rfl ?_))
                    refine RS.op rfl (OP.q rfl (v_assign (v := .bool x33) rfl ?_))
                    refine RS.nil ?_
                    exact T.weakR (hK () trivial) (Weak.mkN [] [] (by decide) (none_kept _) rfl ⟨rn_bool ((congrArg (fun p => p) (Option.some.inj hz)).symm), trivial⟩ (rw_nil))
                  · replace hz := ite_F hz hb_133
                    refine T.region ?_
                    refine RS.op rfl (OP.q rfl (v_move (v := .int .i64 x2.2.2) rfl ?_))
                    refine RS.op rfl (OP.q rfl (v_eql rfl rfl ?_))
                    refine RS.op rfl (OP.q rfl (v_move (v := .bool (x2.2.2 == 0)) rfl ?_))
                    refine RS.yes rfl rfl rfl hb_131 (OP.q rfl (v_move (v := .int .i64 x2.2.1) rfl ?_))
                    refine RS.yes rfl rfl rfl hb_131 (OP.q rfl (v_move (v := .int .i64 s9) rfl ?_))
                    refine RS.yes rfl rfl rfl hb_131 (OP.q rfl (v_eql rfl rfl ?_))
                    refine RS.op rfl (OP.q rfl (v_pickT (v := .bool (x2.2.1 == s9)) rfl hb_131 rfl ?_))
                    refine RS.op rfl (OP.q rfl (v_move (v := .bool (x2.2.1 == s9)) rfl ?_))
                    refine RS.yes rfl rfl rfl hb_132 (OP.q rfl (v_fieldAddr_ptr Ty.f25_0 rfl (off' := 0) rfl ?_))
                    refine RS.yes rfl rfl rfl hb_132 (o_load_ptr rfl rfl (loadRow1 Ty.k22 (c := .sl (List.map encS x2.1.Sectors)) rfl ?_))
                    refine RS.yes rfl rfl rfl hb_132 (OP.q rfl (v_fieldAddr_ptr Ty.f25_0 rfl (off' := 0) rfl ?_))
                    refine RS.yes rfl rfl rfl hb_132 (o_load_ptr rfl rfl (loadRow1 Ty.k22 (c := .sl (List.map encS p0.Sectors)) rfl ?_))
                    refine RS.yes rfl rfl rfl hb_132 (o_call (as0 := [.sl (List.map encS x2.1.Sectors), .sl (List.map encS p0.Sectors)]) (as1 := [.sl (List.map encS x2.1.Sectors), .sl (List.map encS p0.Sectors)]) (caps := []) (aw1 := [.box [.sl (List.map encS p0.Sectors), .sl (List.map encWrite p0.Wait)], .box [.sl (List.map encS x2.1.Sectors), .sl (List.map encWrite x2.1.Wait)], .arr 42 2 (List.map encWrite s11)]) rfl rfl rfl (k_flat (v := .bool x32) (slices_Equal_string_c x2.1.Sectors p0.Sectors x32 hx32) (⟨pure_map encS_p _, pure_map encS_p _, trivial⟩) rfl ?_))
                    refine RS.op rfl (OP.q rfl (v_pickT (v := .bool x32) rfl hb_132 rfl ?_))
                    refine RS.op rfl (OP.q rfl (v_move (v := .bool x32) rfl ?_))
                    refine RS.no rfl rfl rfl hb_133 ?_
                    refine RS.no rfl rfl rfl hb_133 ?_
                    refine RS.no rfl rfl rfl hb_133 ?_
                    refine RS.no rfl rfl rfl hb_133 ?_
                    refine RS.op rfl (OP.q rfl (v_pickF (v := .bool false) rfl hb_133 rfl ?_))
                    refine RS.op rfl (OP.q rfl (v_assign (v := .bool false) rfl ?_))
                    refine RS.nil ?_
                    exact T.weakR (hK () trivial) (Weak.mkN [] [] (by decide) (none_kept _) rfl ⟨rn_bool ((congrArg (fun p => p) (Option.some.inj hz)).symm), trivial⟩ (rw_nil))
                · replace hz := ite_F hz hb_132
                  refine T.region ?_
                  refine RS.op rfl (OP.q rfl (v_move (v := .int .i64 x2.2.2) rfl ?_))
                  refine RS.op rfl (OP.q rfl (v_eql rfl rfl ?_))
                  refine RS.op rfl (OP.q rfl (v_move (v := .bool (x2.2.2 == 0)) rfl ?_))
                  refine RS.yes rfl rfl rfl hb_131 (OP.q rfl (v_move (v := .int .i64 x2.2.1) rfl ?_))
                  refine RS.yes rfl rfl rfl hb_131 (OP.q rfl (v_move (v := .int .i64 s9) rfl ?_))
                  refine RS.yes rfl rfl rfl hb_131 (OP.q rfl (v_eql rfl rfl ?_))
                  refine RS.op rfl (OP.q rfl (v_pickT (v := .bool (x2.2.1 == s9)) rfl hb_131 rfl ?_))
                  refine RS.op rfl (OP.q rfl (v_move (v := .bool (x2.2.1 == s9)) rfl ?_))
                  refine RS.no rfl rfl rfl hb_132 ?_
                  refine RS.no rfl rfl rfl hb_132 ?_
                  refine RS.no rfl rfl rfl hb_132 ?_
                  refine RS.no rfl rfl rfl hb_132 ?_
                  refine RS.no rfl rfl rfl hb_132 ?_
                  refine RS.op rfl (OP.q rfl (v_pickF (v := .bool false) rfl hb_132 rfl ?_))
                  refine RS.op rfl (OP.q rfl (v_move (v := .bool false) rfl ?_))
                  refine RS.no rfl rfl rfl rfl ?_
                  refine RS.no rfl rfl rfl rfl ?_
                  refine RS.no rfl rfl rfl rfl ?_
                  refine RS.no rfl rfl rfl rfl ?_
                  refine RS.op rfl (OP.q rfl (v_pickF (v := .bool false) rfl rfl rfl ?_))
                  refine RS.op rfl (OP.q rfl (v_assign (v := .bool false) rfl ?_))
                  refine RS.nil ?_
                  exact T.weakR (hK () trivial) (Weak.mkN [] [] (by decide) (none_kept _) rfl ⟨rn_bool ((congrArg (fun p => p) (Option.some.inj hz)).symm), trivial⟩ (rw_nil))
              · replace hz := ite_F hz hb_131
                refine T.region ?_
                refine RS.op rfl (OP.q rfl (v_move (v := .int .i64 x2.2.2) rfl ?_))
                refine RS.op rfl (OP.q rfl (v_eql rfl rfl ?_))
                refine RS.op rfl (OP.q rfl (v_move (v := .bool (x2.2.2 == 0)) rfl ?_))
                refine RS.no rfl rfl rfl hb_131 ?_
                refine RS.no rfl rfl rfl hb_131 ?_
                refine RS.no rfl rfl rfl hb_131 ?_
                refine RS.op rfl (OP.q rfl (v_pickF (v := .bool false) rfl hb_131 rfl ?_))
                refine RS.op rfl (OP.q rfl (v_move (v := .bool false) rfl ?_))
                refine RS.no rfl rfl rfl rfl ?_
                refine RS.no rfl rfl rfl rfl ?_
                refine RS.no rfl rfl rfl rfl ?_
                refine RS.no rfl rfl rfl rfl ?_
                refine RS.no rfl rfl rfl rfl ?_
                refine RS.op rfl (OP.q rfl (v_pickF (v := .bool false) rfl rfl rfl ?_))
                refine RS.op rfl (OP.q rfl (v_move (v := .bool false) rfl ?_))
                refine RS.no rfl rfl rfl rfl ?_
                refine RS.no rfl rfl rfl rfl ?_
                refine RS.no rfl rfl rfl rfl ?_
                refine RS.no rfl rfl rfl rfl ?_
                refine RS.op rfl (OP.q rfl (v_pickF (v := .bool false) rfl rfl rfl ?_))
                refine RS.op rfl (OP.q rfl (v_assign (v := .bool false) rfl ?_))
                refine RS.nil ?_
                exact T.weakR (hK () trivial) (Weak.mkN [] [] (by decide) (none_kept _) rfl ⟨rn_bool ((congrArg (fun p => p) (Option.some.inj hz)).symm), trivial⟩ (rw_nil))
        · rcases bool_cases (!x27) with hb_124 | hb_124
          · refine T.region ?_
            refine RS.op rfl (o_call (as0 := []) (as1 := []) (caps := []) (aw1 := [.box [.sl (List.map encS p0.Sectors), .sl (List.map encWrite p0.Wait)], .box [.sl (List.map encS x2.1.Sectors), .sl (List.map encWrite x2.1.Wait)], .arr 42 2 (List.map encWrite s11)]) rfl rfl rfl (k_flat (v := .bool x27) (crosslaw_logged_c x27 hx27) (trivial) rfl ?_))
            refine RS.op rfl (OP.q rfl (v_not rfl ?_))
            refine RS.op rfl (OP.q rfl (v_move (v := .bool (!x27)) rfl ?_))
            refine RS.no rfl rfl rfl hb_124 ?_
            refine RS.no rfl rfl rfl hb_124 ?_
            refine RS.op rfl (OP.q rfl (v_pickT (v := .bool true) rfl hb_124 rfl ?_))
            refine RS.nil ?_
            exact T.weakR (hK () trivial) (Weak.mkN [] [0, 1, 2] (by decide) (none_kept _) rfl ⟨rn_ptr rfl, rn_ptr rfl, rn_int rfl, rn_int rfl, rn_int rfl, rn_ref rfl, rn_int rfl, rn_bool (by simp only [hb_124, Bool.true_or, Bool.or_true, Bool.false_or, Bool.or_false, Bool.true_and, Bool.and_true, Bool.false_and, Bool.and_false, Bool.not_true, Bool.not_false, if_true, if_false, Bool.false_eq_true, reduceIte]), trivial⟩ (rw_box (cs := [.sl (List.map encS p0.Sectors), .sl (List.map encWrite p0.Wait)]) (ds := [.sl (List.map encS p0.Sectors), .sl (List.map encWrite p0.Wait)]) rfl ⟨rn_sl encS_p rfl, rn_sl encWrite_p rfl, trivial⟩ (rw_box (cs := [.sl (List.map encS x2.1.Sectors), .sl (List.map encWrite x2.1.Wait)]) (ds := [.sl (List.map encS x2.1.Sectors), .sl (List.map encWrite x2.1.Wait)]) rfl ⟨rn_sl encS_p rfl, rn_sl encWrite_p rfl, trivial⟩ (rw_arr rfl encWrite_p rfl (rw_nil)))))
          · refine T.region ?_
            refine RS.op rfl (o_call (as0 := []) (as1 := []) (caps := []) (aw1 := [.box [.sl (List.map encS p0.Sectors), .sl (List.map encWrite p0.Wait)], .box [.sl (List.map encS x2.1.Sectors), .sl (List.map encWrite x2.1.Wait)], .arr 42 2 (List.map encWrite s11)]) rfl rfl rfl (k_flat (v := .bool x27) (crosslaw_logged_c x27 hx27) (trivial) rfl ?_))
            refine RS.op rfl (OP.q rfl (v_not rfl ?_))
            refine RS.op rfl (OP.q rfl (v_move (v := .bool (!x27)) rfl ?_))
            refine RS.yes rfl rfl rfl hb_124 (OP.q rfl (v_move (v := .int .i64 s8) rfl ?_))
            refine RS.yes rfl rfl rfl hb_124 (OP.q rfl (v_neq rfl rfl ?_))
            refine RS.op rfl (OP.q rfl (v_pickF (v := .bool (s8 != 0)) rfl hb_124 rfl ?_))
            refine RS.nil ?_
            exact T.weakR (hK () trivial) (Weak.mkN [] [0, 1, 2] (by decide) (none_kept _) rfl ⟨rn_ptr rfl, rn_ptr rfl, rn_int rfl, rn_int rfl, rn_int rfl, rn_ref rfl, rn_int rfl, rn_bool (by simp only [hb_124, Bool.true_or, Bool.or_true, Bool.false_or, Bool.or_false, Bool.true_and, Bool.and_true, Bool.false_and, Bool.and_false, Bool.not_true, Bool.not_false, if_true, if_false, Bool.false_eq_true, reduceIte]), trivial⟩ (rw_box (cs := [.sl (List.map encS p0.Sectors), .sl (List.map encWrite p0.Wait)]) (ds := [.sl (List.map encS p0.Sectors), .sl (List.map encWrite p0.Wait)]) rfl ⟨rn_sl encS_p rfl, rn_sl encWrite_p rfl, trivial⟩ (rw_box (cs := [.sl (List.map encS x2.1.Sectors), .sl (List.map encWrite x2.1.Wait)]) (ds := [.sl (List.map encS x2.1.Sectors), .sl (List.map encWrite x2.1.Wait)]) rfl ⟨rn_sl encS_p rfl, rn_sl encWrite_p rfl, trivial⟩ (rw_arr rfl encWrite_p rfl (rw_nil)))))
    · rcases bool_cases (s8 == 0) with hb_85 | hb_85
      · refine T.region ?_
        refine RS.op rfl (OP.q rfl (v_move (v := .int .i64 s8) rfl ?_))
        refine RS.op rfl (OP.q rfl (v_eql rfl rfl ?_))
        refine RS.op rfl (OP.q rfl (v_move (v := .bool (s8 == 0)) rfl ?_))
        refine RS.yes rfl rfl rfl hb_85 (OP.q rfl (v_move (v := .int .i64 s10) rfl ?_))
        refine RS.yes rfl rfl rfl hb_85 (OP.q rfl (v_move (v := .sl (List.map encChoice p3)) rfl ?_))
        refine RS.yes rfl rfl rfl hb_85 (OP.q rfl (v_len_sl Ty.s26 rfl ?_))
        refine RS.yes rfl rfl rfl hb_85 (OP.q rfl (v_lss rfl rfl ?_))
        refine RS.op rfl (OP.q rfl (v_pickT (v := .bool (decide (s10 < ((p3).length : Int)))) rfl hb_85 rfl ?_))
        refine RS.nil ?_
        exact T.weakR (hK () trivial) (Weak.mkN [] [0, 1, 2] (by decide) (none_kept _) rfl ⟨rn_int rfl, rn_sl encChoice_p rfl, rn_ptr rfl, rn_ptr rfl, rn_int rfl, rn_int rfl, rn_int rfl, rn_ref rfl, rn_int rfl, rn_int rfl, rn_bool (by simp only [hb_85, Bool.true_or, Bool.or_true, Bool.false_or, Bool.or_false, Bool.true_and, Bool.and_true, Bool.false_and, Bool.and_false, Bool.not_true, Bool.not_false, if_true, if_false, Bool.false_eq_true, reduceIte]), trivial⟩ (rw_box (cs := [.sl (List.map encS p0.Sectors), .sl (List.map encWrite p0.Wait)]) (ds := [.sl (List.map encS p0.Sectors), .sl (List.map encWrite p0.Wait)]) rfl ⟨rn_sl encS_p rfl, rn_sl encWrite_p rfl, trivial⟩ (rw_box (cs := [.sl (List.map encS x2.1.Sectors), .sl (List.map encWrite x2.1.Wait)]) (ds := [.sl (List.map encS x2.1.Sectors), .sl (List.map encWrite x2.1.Wait)]) rfl ⟨rn_sl encS_p rfl, rn_sl encWrite_p rfl, trivial⟩ (rw_arr rfl encWrite_p rfl (rw_nil)))))
      · refine T.region ?_
        refine RS.op rfl (OP.q rfl (v_move (v := .int .i64 s8) rfl ?_))
        refine RS.op rfl (OP.q rfl (v_eql rfl rfl ?_))
        refine RS.op rfl (OP.q rfl (v_move (v := .bool (s8 == 0)) rfl ?_))
        refine RS.no rfl rfl rfl hb_85 ?_
        refine RS.no rfl rfl rfl hb_85 ?_
        refine RS.no rfl rfl rfl hb_85 ?_
        refine RS.no rfl rfl rfl hb_85 ?_
        refine RS.op rfl (OP.q rfl (v_pickF (v := .bool false) rfl hb_85 rfl ?_))
        refine RS.nil ?_
        exact T.weakR (hK () trivial) (Weak.mkN [] [0, 1, 2] (by decide) (none_kept _) rfl ⟨rn_int rfl, rn_sl encChoice_p rfl, rn_ptr rfl, rn_ptr rfl, rn_int rfl, rn_int rfl, rn_int rfl, rn_ref rfl, rn_int rfl, rn_int rfl, rn_bool (by simp only [hb_85, Bool.true_or, Bool.or_true, Bool.false_or, Bool.or_false, Bool.true_and, Bool.and_true, Bool.false_and, Bool.and_false, Bool.not_true, Bool.not_false, if_true, if_false, Bool.false_eq_true, reduceIte]), trivial⟩ (rw_box (cs := [.sl (List.map encS p0.Sectors), .sl (List.map encWrite p0.Wait)]) (ds := [.sl (List.map encS p0.Sectors), .sl (List.map encWrite p0.Wait)]) rfl ⟨rn_sl encS_p rfl, rn_sl encWrite_p rfl, trivial⟩ (rw_box (cs := [.sl (List.map encS x2.1.Sectors), .sl (List.map encWrite x2.1.Wait)]) (ds := [.sl (List.map encS x2.1.Sectors), .sl (List.map encWrite x2.1.Wait)]) rfl ⟨rn_sl encS_p rfl, rn_sl encWrite_p rfl, trivial⟩ (rw_arr rfl encWrite_p rfl (rw_nil)))))
  · refine T.join (Z := Unit) (fun _ => mkA 169 [(1, .int .i64 p1), (2, .int .i64 p2), (3, .sl (List.map encChoice p3)), (4, .ptr 0 0), (9, .ptr 1 0), (10, .int .i64 x2.2.1), (11, .int .i64 x2.2.2), (12, .int .i64 x4), (47, .bool ((x4 == 0) && ((decide (p1 < 0)) || ((decide (p1 > 200)) || ((decide (p2 < 0)) || decide (p2 > 80))))))]) (fun _ => [.box [.sl (List.map encS p0.Sectors), .sl (List.map encWrite p0.Wait)], .box [.sl (List.map encS x2.1.Sectors), .sl (List.map encWrite x2.1.Wait)]]) (fun _ => True) (fun _ _ => ?_) (fun hK => ?_)
    · show T _ _ _ _ (mkA 169 [(1, .int .i64 p1), (2, .int .i64 p2), (3, .sl (List.map encChoice p3)), (4, .ptr 0 0), (9, .ptr 1 0), (10, .int .i64 x2.2.1), (11, .int .i64 x2.2.2), (12, .int .i64 x4), (47, .bool ((x4 == 0) && ((decide (p1 < 0)) || ((decide (p1 > 200)) || ((decide (p2 < 0)) || decide (p2 > 80))))))]) [.box [.sl (List.map encS p0.Sectors), .sl (List.map encWrite p0.Wait)], .box [.sl (List.map encS x2.1.Sectors), .sl (List.map encWrite x2.1.Wait)]]
      refine T.cond (b := ((x4 == 0) && ((decide (p1 < 0)) || ((decide (p1 > 200)) || ((decide (p2 < 0)) || decide (p2 > 80)))))) rfl (fun hb_140 => ?_) (fun hb_140 => ?_)
      · replace h := ite_T h hb_140
        refine T.region ?_
        refine RS.op rfl (OP.q rfl (v_assign (v := .int .i64 3) rfl ?_))
        refine RS.nil ?_
        exact T.weakR (hK4 3 h) (Weak.mkN [] [0, 1] (by decide) (none_kept _) rfl ⟨rn_int rfl, rn_int rfl, rn_sl encChoice_p rfl, rn_ptr rfl, rn_ptr rfl, rn_int rfl, rn_int rfl, rn_int rfl, trivial⟩ (rw_box (cs := [.sl (List.map encS p0.Sectors), .sl (List.map encWrite p0.Wait)]) (ds := [.sl (List.map encS p0.Sectors), .sl (List.map encWrite p0.Wait)]) rfl ⟨rn_sl encS_p rfl, rn_sl encWrite_p rfl, trivial⟩ (rw_box (cs := [.sl (List.map encS x2.1.Sectors), .sl (List.map encWrite x2.1.Wait)]) (ds := [.sl (List.map encS x2.1.Sectors), .sl (List.map encWrite x2.1.Wait)]) rfl ⟨rn_sl encS_p rfl, rn_sl encWrite_p rfl, trivial⟩ (rw_nil))))
      · replace h := ite_F h hb_140
        refine T.skip ?_
        exact T.weakR (hK4 x4 h) (Weak.mkN [] [0, 1] (by decide) (none_kept _) rfl ⟨rn_int rfl, rn_int rfl, rn_sl encChoice_p rfl, rn_ptr rfl, rn_ptr rfl, rn_int rfl, rn_int rfl, rn_int rfl, trivial⟩ (rw_box (cs := [.sl (List.map encS p0.Sectors), .sl (List.map encWrite p0.Wait)]) (ds := [.sl (List.map encS p0.Sectors), .sl (List.map encWrite p0.Wait)]) rfl ⟨rn_sl encS_p rfl, rn_sl encWrite_p rfl, trivial⟩ (rw_box (cs := [.sl (List.map encS x2.1.Sectors), .sl (List.map encWrite x2.1.Wait)]) (ds := [.sl (List.map encS x2.1.Sectors), .sl (List.map encWrite x2.1.Wait)]) rfl ⟨rn_sl encS_p rfl, rn_sl encWrite_p rfl, trivial⟩ (rw_nil))))
    · rcases bool_cases (x4 == 0) with hb_136 | hb_136
      · rcases bool_cases (decide (p1 < 0)) with hb_137 | hb_137
        · refine T.region ?_
          refine RS.op rfl (OP.q rfl (v_move (v := .int .i64 x4) rfl ?_))
          refine RS.op rfl (OP.q rfl (v_eql rfl rfl ?_))
          refine RS.op rfl (OP.q rfl (v_move (v := .bool (x4 == 0)) rfl ?_))
          refine RS.yes rfl rfl rfl hb_136 (OP.q rfl (v_move (v := .int .i64 p1) rfl ?_))
          refine RS.yes rfl rfl rfl hb_136 (OP.q rfl (v_lss rfl rfl ?_))
          refine RS.yes rfl rfl rfl hb_136 (OP.q rfl (v_move (v := .bool (decide (p1 < 0))) rfl ?_))
          refine RS.no rfl rfl rfl hb_137 ?_
          refine RS.no rfl rfl rfl hb_137 ?_
          refine RS.yes rfl rfl rfl hb_136 (OP.q rfl (v_pickT (v := .bool true) rfl hb_137 rfl ?_))
          refine RS.yes rfl rfl rfl hb_136 (OP.q rfl (v_move (v := .bool true) rfl ?_))
          refine RS.no rfl rfl rfl rfl ?_
          refine RS.no rfl rfl rfl rfl ?_
          refine RS.yes rfl rfl rfl hb_136 (OP.q rfl (v_pickT (v := .bool true) rfl rfl rfl ?_))
          refine RS.yes rfl rfl rfl hb_136 (OP.q rfl (v_move (v := .bool true) rfl ?_))
          refine RS.no rfl rfl rfl rfl ?_
          refine RS.no rfl rfl rfl rfl ?_
          refine RS.yes rfl rfl rfl hb_136 (OP.q rfl (v_pickT (v := .bool true) rfl rfl rfl ?_))
          refine RS.op rfl (OP.q rfl (v_pickT (v := .bool true) rfl hb_136 rfl ?_))
          refine RS.nil ?_
          exact T.weakR (hK () trivial) (Weak.mkN [] [0, 1] (by decide) (none_kept _) rfl ⟨rn_int rfl, rn_int rfl, rn_sl encChoice_p rfl, rn_ptr rfl, rn_ptr rfl, rn_int rfl, rn_int rfl, rn_int rfl, rn_bool (by simp only [hb_136, hb_137, Bool.true_or, Bool.or_true, Bool.false_or, Bool.or_false, Bool.true_and, Bool.and_true, Bool.false_and, Bool.and_false, Bool.not_true, Bool.not_false, if_true, if_false, Bool.false_eq_true, reduceIte]), trivial⟩ (rw_box (cs := [.sl (List.map encS p0.Sectors), .sl (List.map encWrite p0.Wait)]) (ds := [.sl (List.map encS p0.Sectors), .sl (List.map encWrite p0.Wait)]) rfl ⟨rn_sl encS_p rfl, rn_sl encWrite_p rfl, trivial⟩ (rw_box (cs := [.sl (List.map encS x2.1.Sectors), .sl (List.map encWrite x2.1.Wait)]) (ds := [.sl (List.map encS x2.1.Sectors), .sl (List.map encWrite x2.1.Wait)]) rfl ⟨rn_sl encS_p rfl, rn_sl encWrite_p rfl, trivial⟩ (rw_nil))))
        · rcases bool_cases (decide (p1 > 200)) with hb_138 | hb_138
          · refine T.region ?_
            refine RS.op rfl (OP.q rfl (v_move (v := .int .i64 x4) rfl ?_))
            refine RS.op rfl (OP.q rfl (v_eql rfl rfl ?_))
            refine RS.op rfl (OP.q rfl (v_move (v := .bool (x4 == 0)) rfl ?_))
            refine RS.yes rfl rfl rfl hb_136 (OP.q rfl (v_move (v := .int .i64 p1) rfl ?_))
            refine RS.yes rfl rfl rfl hb_136 (OP.q rfl (v_lss rfl rfl ?_))
            refine RS.yes rfl rfl rfl hb_136 (OP.q rfl (v_move (v := .bool (decide (p1 < 0))) rfl ?_))
            refine RS.yes rfl rfl rfl hb_137 (OP.q rfl (v_move (v := .int .i64 p1) rfl ?_))
            refine RS.yes rfl rfl rfl hb_137 (OP.q rfl (v_gtr rfl rfl ?_))
            refine RS.yes rfl rfl rfl hb_136 (OP.q rfl (v_pickF (v := .bool (decide (p1 > 200))) rfl hb_137 rfl ?_))
            refine RS.yes rfl rfl rfl hb_136 (OP.q rfl (v_move (v := .bool (decide (p1 > 200))) rfl ?_))
            refine RS.no rfl rfl rfl hb_138 ?_
            refine RS.no rfl rfl rfl hb_138 ?_
            refine RS.yes rfl rfl rfl hb_136 (OP.q rfl (v_pickT (v := .bool true) rfl hb_138 rfl ?_))
            refine RS.yes rfl rfl rfl hb_136 (OP.q rfl (v_move (v := .bool true) rfl ?_))
            refine RS.no rfl rfl rfl rfl ?_
            refine RS.no rfl rfl rfl rfl ?_
            refine RS.yes rfl rfl rfl hb_136 (OP.q rfl (v_pickT (v := .bool true) rfl rfl rfl ?_))
            refine RS.op rfl (OP.q rfl (v_pickT (v := .bool true) rfl hb_136 rfl ?_))
            refine RS.nil ?_
            exact T.weakR (hK () trivial) (Weak.mkN [] [0, 1] (by decide) (none_kept _) rfl ⟨rn_int rfl, rn_int rfl, rn_sl encChoice_p rfl, rn_ptr rfl, rn_ptr rfl, rn_int rfl, rn_int rfl, rn_int rfl, rn_bool (by simp only [hb_136, hb_137, hb_138, Bool.true_or, Bool.or_true, Bool.false_or, Bool.or_false, Bool.true_and, Bool.and_true, Bool.false_and, Bool.and_false, Bool.not_true, Bool.not_false, if_true, if_false, Bool.false_eq_true, reduceIte]), trivial⟩ (rw_box (cs := [.sl (List.map encS p0.Sectors), .sl (List.map encWrite p0.Wait)]) (ds := [.sl (List.map encS p0.Sectors), .sl (List.map encWrite p0.Wait)]) rfl ⟨rn_sl encS_p rfl, rn_sl encWrite_p rfl, trivial⟩ (rw_box (cs := [.sl (List.map encS x2.1.Sectors), .sl (List.map encWrite x2.1.Wait)]) (ds := [.sl (List.map encS x2.1.Sectors), .sl (List.map encWrite x2.1.Wait)]) rfl ⟨rn_sl encS_p rfl, rn_sl encWrite_p rfl, trivial⟩ (rw_nil))))
          · rcases bool_cases (decide (p2 < 0)) with hb_139 | hb_139
            · refine T.region ?_
              refine RS.op rfl (OP.q rfl (v_move (v := .int .i64 x4) rfl ?_))
              refine RS.op rfl (OP.q rfl (v_eql rfl rfl ?_))
              refine RS.op rfl (OP.q rfl (v_move (v := .bool (x4 == 0)) rfl ?_))
              refine RS.yes rfl rfl rfl hb_136 (OP.q rfl (v_move (v := .int .i64 p1) rfl ?_))
              refine RS.yes rfl rfl rfl hb_136 (OP.q rfl (v_lss rfl rfl ?_))
              refine RS.yes rfl rfl rfl hb_136 (OP.q rfl (v_move (v := .bool (decide (p1 < 0))) rfl ?_))
              refine RS.yes rfl rfl rfl hb_137 (OP.q rfl (v_move (v := .int .i64 p1) rfl ?_))
              refine RS.yes rfl rfl rfl hb_137 (OP.q rfl (v_gtr rfl rfl ?_))
              refine RS.yes rfl rfl rfl hb_136 (OP.q rfl (v_pickF (v := .bool (decide (p1 > 200))) rfl hb_137 rfl ?_))
              refine RS.yes rfl rfl rfl hb_136 (OP.q rfl (v_move (v := .bool (decide (p1 > 200))) rfl ?_))
              refine RS.yes rfl rfl rfl hb_138 (OP.q rfl (v_move (v := .int .i64 p2) rfl ?_))
              refine RS.yes rfl rfl rfl hb_138 (OP.q rfl (v_lss rfl rfl ?_))
              refine RS.yes rfl rfl rfl hb_136 (OP.q rfl (v_pickF (v := .bool (decide (p2 < 0))) rfl hb_138 rfl ?_))
              refine RS.yes rfl rfl rfl hb_136 (OP.q rfl (v_move (v := .bool (decide (p2 < 0))) rfl ?_))
              refine RS.no rfl rfl rfl hb_139 ?_
              refine RS.no rfl rfl rfl hb_139 ?_
              refine RS.yes rfl rfl rfl hb_136 (OP.q rfl (v_pickT (v := .bool true) rfl hb_139 rfl ?_))
              refine RS.op rfl (OP.q rfl (v_pickT (v := .bool true) rfl hb_136 rfl ?_))
              refine RS.nil ?_
              exact T.weakR (hK () trivial) (Weak.mkN [] [0, 1] (by decide) (none_kept _) rfl ⟨rn_int rfl, rn_int rfl, rn_sl encChoice_p rfl, rn_ptr rfl, rn_ptr rfl, rn_int rfl, rn_int rfl, rn_int rfl, rn_bool (by simp only [hb_136, hb_137, hb_138, hb_139, Bool.true_or, Bool.or_true, Bool.false_or, Bool.or_false, Bool.true_and, Bool.and_true, Bool.false_and, Bool.and_false, Bool.not_true, Bool.not_false, if_true, if_false, Bool.false_eq_true, reduceIte]), trivial⟩ (rw_box (cs := [.sl (List.map encS p0.Sectors), .sl (List.map encWrite p0.Wait)]) (ds := [.sl (List.map encS p0.Sectors), .sl (List.map encWrite p0.Wait)]) rfl ⟨rn_sl encS_p rfl, rn_sl encWrite_p rfl, trivial⟩ (rw_box (cs := [.sl (List.map encS x2.1.Sectors), .sl (List.map encWrite x2.1.Wait)]) (ds := [.sl (List.map encS x2.1.Sectors), .sl (List.map encWrite x2.1.Wait)]) rfl ⟨rn_sl encS_p rfl, rn_sl encWrite_p rfl, trivial⟩ (rw_nil))))
            · refine T.region ?_
              refine RS.op rfl (OP.q rfl (v_move (v := .int .i64 x4) rfl ?_))
              refine RS.op rfl (OP.q rfl (v_eql rfl rfl ?_))
              refine RS.op rfl (OP.q rfl (v_move (v := .bool (x4 == 0)) rfl ?_))
              refine RS.yes rfl rfl rfl hb_136 (OP.q rfl (v_move (v := .int .i64 p1) rfl ?_))
              refine RS.yes rfl rfl rfl hb_136 (OP.q rfl (v_lss rfl rfl ?_))
              refine RS.yes rfl rfl rfl hb_136 (OP.q rfl (v_move (v := .bool (decide (p1 < 0))) rfl ?_))
              refine RS.yes rfl rfl rfl hb_137 (OP.q rfl (v_move (v := .int .i64 p1) rfl ?_))
              refine RS.yes rfl rfl rfl hb_137 (OP.q rfl (v_gtr rfl rfl ?_))
              refine RS.yes rfl rfl rfl hb_136 (OP.q rfl (v_pickF (v := .bool (decide (p1 > 200))) rfl hb_137 rfl ?_))
              refine RS.yes rfl rfl rfl hb_136 (OP.q rfl (v_move (v := .bool (decide (p1 > 200))) rfl ?_))
              refine RS.yes rfl rfl rfl hb_138 (OP.q rfl (v_move (v := .int .i64 p2) rfl ?_))
              refine RS.yes rfl rfl rfl hb_138 (OP.q rfl (v_lss rfl rfl ?_))
              refine RS.yes rfl rfl rfl hb_136 (OP.q rfl (v_pickF (v := .bool (decide (p2 < 0))) rfl hb_138 rfl ?_))
              refine RS.yes rfl rfl rfl hb_136 (OP.q rfl (v_move (v := .bool (decide (p2 < 0))) rfl ?_))
              refine RS.yes rfl rfl rfl hb_139 (OP.q rfl (v_move (v := .int .i64 p2) rfl ?_))
              refine RS.yes rfl rfl rfl hb_139 (OP.q rfl (v_gtr rfl rfl ?_))
              refine RS.yes rfl rfl rfl hb_136 (OP.q rfl (v_pickF (v := .bool (decide (p2 > 80))) rfl hb_139 rfl ?_))
              refine RS.op rfl (OP.q rfl (v_pickT (v := .bool (decide (p2 > 80))) rfl hb_136 rfl ?_))
              refine RS.nil ?_
              exact T.weakR (hK () trivial) (Weak.mkN [] [0, 1] (by decide) (none_kept _) rfl ⟨rn_int rfl, rn_int rfl, rn_sl encChoice_p rfl, rn_ptr rfl, rn_ptr rfl, rn_int rfl, rn_int rfl, rn_int rfl, rn_bool (by simp only [hb_136, hb_137, hb_138, hb_139, Bool.true_or, Bool.or_true, Bool.false_or, Bool.or_false, Bool.true_and, Bool.and_true, Bool.false_and, Bool.and_false, Bool.not_true, Bool.not_false, if_true, if_false, Bool.false_eq_true, reduceIte]), trivial⟩ (rw_box (cs := [.sl (List.map encS p0.Sectors), .sl (List.map encWrite p0.Wait)]) (ds := [.sl (List.map encS p0.Sectors), .sl (List.map encWrite p0.Wait)]) rfl ⟨rn_sl encS_p rfl, rn_sl encWrite_p rfl, trivial⟩ (rw_box (cs := [.sl (List.map encS x2.1.Sectors), .sl (List.map encWrite x2.1.Wait)]) (ds := [.sl (List.map encS x2.1.Sectors), .sl (List.map encWrite x2.1.Wait)]) rfl ⟨rn_sl encS_p rfl, rn_sl encWrite_p rfl, trivial⟩ (rw_nil))))
      · refine T.region ?_
        refine RS.op rfl (OP.q rfl (v_move (v := .int .i64 x4) rfl ?_))
        refine RS.op rfl (OP.q rfl (v_eql rfl rfl ?_))
        refine RS.op rfl (OP.q rfl (v_move (v := .bool (x4 == 0)) rfl ?_))
        refine RS.no rfl rfl rfl hb_136 ?_
        refine RS.no rfl rfl rfl hb_136 ?_
        refine RS.no rfl rfl rfl hb_136 ?_
        refine RS.nou rfl rfl rfl ?_
        refine RS.nou rfl rfl rfl ?_
        refine RS.no rfl rfl rfl hb_136 ?_
        refine RS.no rfl rfl rfl hb_136 ?_
        refine RS.nou rfl rfl rfl ?_
        refine RS.nou rfl rfl rfl ?_
        refine RS.no rfl rfl rfl hb_136 ?_
        refine RS.no rfl rfl rfl hb_136 ?_
        refine RS.nou rfl rfl rfl ?_
        refine RS.nou rfl rfl rfl ?_
        refine RS.no rfl rfl rfl hb_136 ?_
        refine RS.op rfl (OP.q rfl (v_pickF (v := .bool false) rfl hb_136 rfl ?_))
        refine RS.nil ?_
        exact T.weakR (hK () trivial) (Weak.mkN [] [0, 1] (by decide) (none_kept _) rfl ⟨rn_int rfl, rn_int rfl, rn_sl encChoice_p rfl, rn_ptr rfl, rn_ptr rfl, rn_int rfl, rn_int rfl, rn_int rfl, rn_bool (by simp only [hb_136, Bool.true_or, Bool.or_true, Bool.false_or, Bool.or_false, Bool.true_and, Bool.and_true, Bool.false_and, Bool.and_false, Bool.not_true, Bool.not_false, if_true, if_false, Bool.false_eq_true, reduceIte]), trivial⟩ (rw_box (cs := [.sl (List.map encS p0.Sectors), .sl (List.map encWrite p0.Wait)]) (ds := [.sl (List.map encS p0.Sectors), .sl (List.map encWrite p0.Wait)]) rfl ⟨rn_sl encS_p rfl, rn_sl encWrite_p rfl, trivial⟩ (rw_box (cs := [.sl (List.map encS x2.1.Sectors), .sl (List.map encWrite x2.1.Wait)]) (ds := [.sl (List.map encS x2.1.Sectors), .sl (List.map encWrite x2.1.Wait)]) rfl ⟨rn_sl encS_p rfl, rn_sl encWrite_p rfl, trivial⟩ (rw_nil))))
end Go.Proofs.Ytegkmfokfakeiaa
