/-
  The code computes these functions. Printed by a program of ours (wip/gen.py).
-/
import Derived.Test.YtegkmfokfakeiaaGen2
namespace Go.Proofs.Ytegkmfokfakeiaa
open Go.RowKit
set_option linter.unusedVariables false
set_option linter.unusedSimpArgs false
set_option maxRecDepth 100000
set_option maxHeartbeats 4000000
theorem crossref_CheckNet_c (p0 : Net) (r : (List Int) × Int) (h : crossref_CheckNet p0 = some r) : FnO Try.prog 32 [.agg [.sl (List.map encNode p0.Nodes), .int .i64 p0.Rings, .int .i64 p0.Room]] (.tup [.ref 0, .int .i64 r.2]) [.arr 3 1 (List.map encI r.1)] := by
  unfold crossref_CheckNet at h
  refine fn_of_T (N := 0) rfl Try.func32 rfl (by kernel_rfl) Try.ntmps32 rfl ?_
  show T _ _ _ _ (mkA 249 [(0, .agg [.sl (List.map encNode p0.Nodes), .int .i64 p0.Rings, .int .i64 p0.Room])]) []
  refine T.seq ?_
  refine T.region ?_
  refine RS.op rfl (o_box (cs := [.sl (List.map encNode p0.Nodes), .int .i64 p0.Rings, .int .i64 p0.Room]) rfl rfl (aw' := [.box [.sl (List.map encNode p0.Nodes), .int .i64 p0.Rings, .int .i64 p0.Room]]) rfl ?_)
  refine RS.op rfl (OP.q rfl (v_assign (v := .nils) rfl ?_))
  refine RS.op rfl (OP.q rfl (v_assign (v := .int .i64 0) rfl ?_))
  refine RS.nil ?_
  refine T.seq ?_
  refine T.join (Z := Unit) (fun _ => mkA 249 [(1, .ptr 0 0), (48, .bool ((((p0.Nodes).length : Int) == 0) || ((decide (((p0.Nodes).length : Int) > 12)) || ((decide (p0.Rings < 0)) || decide (p0.Rings > 16)))))]) (fun _ => [.box [.sl (List.map encNode p0.Nodes), .int .i64 p0.Rings, .int .i64 p0.Room]]) (fun _ => True) (fun _ _ => ?_) (fun hK => ?_)
  · show T _ _ _ _ (mkA 249 [(1, .ptr 0 0), (48, .bool ((((p0.Nodes).length : Int) == 0) || ((decide (((p0.Nodes).length : Int) > 12)) || ((decide (p0.Rings < 0)) || decide (p0.Rings > 16)))))]) [.box [.sl (List.map encNode p0.Nodes), .int .i64 p0.Rings, .int .i64 p0.Room]]
    refine T.cond (b := ((((p0.Nodes).length : Int) == 0) || ((decide (((p0.Nodes).length : Int) > 12)) || ((decide (p0.Rings < 0)) || decide (p0.Rings > 16))))) rfl (fun hb_4 => ?_) (fun hb_4 => ?_)
    · replace h := ite_T h hb_4
      refine T.seq ?_
      refine T.region ?_
      refine RS.op rfl (OP.q rfl (v_assign (v := .nils) rfl ?_))
      refine RS.op rfl (OP.q rfl (v_assign (v := .int .i64 2) rfl ?_))
      refine RS.nil ?_
      refine T.ret' (R := ?R5) ?hq5 ?_
      case hq5 => repeat (first | exact RetIs.base | refine RetIs.thn ?_ | refine RetIs.blk ?_ | refine RetIs.lq ?_)
      refine res_tmpA (v := .nils) rfl ?_
      refine res_tmpA (v := .int .i64 2) rfl ?_
      refine res_done ?_
      exact ret_own (.tup [.ref 0, .int .i64 r.2]) [(0, 3, 1)] [1] (by decide) (none_kept _) rfl (rn_tup ⟨rn_ref rfl, rn_int (congrArg (fun r : (List Int) × Int => r.2) (Option.some.inj h)).symm, trivial⟩) (rw_arr (en := encI) (ys := []) rfl encI_p (congrArg (fun r : (List Int) × Int => r.1) (Option.some.inj h)).symm (rw_nil)) ⟨rfl, rfl⟩
    · replace h := ite_F h hb_4
      refine T.skip ?_
      refine T.seq ?_
      refine T.join (Z := Unit) (fun _ => mkA 249 [(1, .ptr 0 0), (56, .bool ((decide (p0.Room < 1)) || decide (p0.Room > 6)))]) (fun _ => [.box [.sl (List.map encNode p0.Nodes), .int .i64 p0.Rings, .int .i64 p0.Room]]) (fun _ => True) (fun _ _ => ?_) (fun hK => ?_)
      · show T _ _ _ _ (mkA 249 [(1, .ptr 0 0), (56, .bool ((decide (p0.Room < 1)) || decide (p0.Room > 6)))]) [.box [.sl (List.map encNode p0.Nodes), .int .i64 p0.Rings, .int .i64 p0.Room]]
        refine T.cond (b := ((decide (p0.Room < 1)) || decide (p0.Room > 6))) rfl (fun hb_7 => ?_) (fun hb_7 => ?_)
        · replace h := ite_T h hb_7
          refine T.seq ?_
          refine T.region ?_
          refine RS.op rfl (OP.q rfl (v_assign (v := .nils) rfl ?_))
          refine RS.op rfl (OP.q rfl (v_assign (v := .int .i64 3) rfl ?_))
          refine RS.nil ?_
          refine T.ret' (R := ?R8) ?hq8 ?_
          case hq8 => repeat (first | exact RetIs.base | refine RetIs.thn ?_ | refine RetIs.blk ?_ | refine RetIs.lq ?_)
          refine res_tmpA (v := .nils) rfl ?_
          refine res_tmpA (v := .int .i64 3) rfl ?_
          refine res_done ?_
          exact ret_own (.tup [.ref 0, .int .i64 r.2]) [(0, 3, 1)] [1] (by decide) (none_kept _) rfl (rn_tup ⟨rn_ref rfl, rn_int (congrArg (fun r : (List Int) × Int => r.2) (Option.some.inj h)).symm, trivial⟩) (rw_arr (en := encI) (ys := []) rfl encI_p (congrArg (fun r : (List Int) × Int => r.1) (Option.some.inj h)).symm (rw_nil)) ⟨rfl, rfl⟩
        · replace h := ite_F h hb_7
          refine T.skip ?_
          refine T.seq ?_
          refine T.region ?_
          refine RS.op rfl (o_makeMap rfl (aw' := [.box [.sl (List.map encNode p0.Nodes), .int .i64 p0.Rings, .int .i64 p0.Room], .mp (List.map kI (List.map Prod.fst ([] : List (Int × Int)))) (List.map kI (List.map Prod.snd ([] : List (Int × Int))))]) rfl ?_)
          refine RS.op rfl (o_makeMap rfl (aw' := [.box [.sl (List.map encNode p0.Nodes), .int .i64 p0.Rings, .int .i64 p0.Room], .mp (List.map kI (List.map Prod.fst ([] : List (Int × Int)))) (List.map kI (List.map Prod.snd ([] : List (Int × Int)))), .mp (List.map kI (List.map Prod.fst ([] : List (Int × Int)))) (List.map kI (List.map Prod.snd ([] : List (Int × Int))))]) rfl ?_)
          refine RS.op rfl (OP.q rfl (v_assign (v := .mpr 1) rfl ?_))
          refine RS.op rfl (OP.q rfl (v_assign (v := .mpr 2) rfl ?_))
          refine RS.nil ?_
          refine T.seq ?_
          refine T.region ?_
          refine RS.op rfl (OP.q rfl (v_assign (v := .int .i64 0) rfl ?_))
          refine RS.nil ?_
          refine T.seq ?_
          refine T.seq ?_
          refine T.region ?_
          refine RS.op rfl (OP.q rfl (v_fieldAddr_ptr Ty.f56_0 rfl (off' := 0) rfl ?_))
          refine RS.op rfl (o_load_ptr rfl rfl (loadRow1 Ty.k54 (c := .sl (List.map encNode p0.Nodes)) rfl ?_))
          refine RS.op rfl (OP.q rfl (v_len_sl Ty.s54 rfl ?_))
          refine RS.op rfl (OP.q rfl (v_move (v := .int .i64 0) rfl ?_))
          refine RS.nil ?_
          refine T.block ?_
          refine T.iter (fun ss_359 : Int × Int × (List (Int × Int)) × (List (Int × Int)) => mkA 249 [(1, .ptr 0 0), (4, .mpr 1), (5, .mpr 2), (6, .int .i64 ss_359.1), (60, .sl (List.map encNode p0.Nodes)), (61, .int .i64 ((p0.Nodes).length : Int)), (62, .int .i64 ss_359.2.1)]) (fun ss_359 => [.box [.sl (List.map encNode p0.Nodes), .int .i64 p0.Rings, .int .i64 p0.Room], .mp (List.map kI (List.map Prod.fst ss_359.2.2.1)) (List.map kI (List.map Prod.snd ss_359.2.2.1)), .mp (List.map kI (List.map Prod.fst ss_359.2.2.2)) (List.map kI (List.map Prod.snd ss_359.2.2.2))]) h (Weak.mkN [] [0, 1, 2] (by decide) (none_kept _) rfl ⟨rn_ptr rfl, rn_mpr rfl, rn_mpr rfl, rn_int rfl, rn_sl encNode_p rfl, rn_int rfl, rn_int rfl, trivial⟩ (rw_box (cs := [.sl (List.map encNode p0.Nodes), .int .i64 p0.Rings, .int .i64 p0.Room]) (ds := [.sl (List.map encNode p0.Nodes), .int .i64 p0.Rings, .int .i64 p0.Room]) rfl ⟨rn_sl encNode_p rfl, rn_int rfl, rn_int rfl, trivial⟩ (rw_mp (ek := kI) (ev := kI) (ys := ([] : List (Int × Int))) rfl (fun _ => pure_int _ _) (fun _ => pure_int _ _) rfl (rw_mp (ek := kI) (ev := kI) (ys := ([] : List (Int × Int))) rfl (fun _ => pure_int _ _) (fun _ => pure_int _ _) rfl (rw_nil))))) (fun ss_359 v_360 h hv_360 => ?_)
          obtain ⟨s3, s4, s5, s6⟩ := ss_359
          replace h : crossref_CheckNet_l7 p0 s3 s4 s5 s6 = some v_360 := h
          show T _ _ _ _ (mkA 249 [(1, .ptr 0 0), (4, .mpr 1), (5, .mpr 2), (6, .int .i64 s3), (60, .sl (List.map encNode p0.Nodes)), (61, .int .i64 ((p0.Nodes).length : Int)), (62, .int .i64 s4)]) [.box [.sl (List.map encNode p0.Nodes), .int .i64 p0.Rings, .int .i64 p0.Room], .mp (List.map kI (List.map Prod.fst s5)) (List.map kI (List.map Prod.snd s5)), .mp (List.map kI (List.map Prod.fst s6)) (List.map kI (List.map Prod.snd s6))]
          unfold crossref_CheckNet_l7 at h
          refine T.seq ?_
          refine T.region ?_
          refine RS.op rfl (OP.q rfl (v_lss rfl rfl ?_))
          refine RS.nil ?_
          refine T.seq ?_
          refine T.cond (b := decide (s4 < ((p0.Nodes).length : Int))) rfl (fun hb_361 => ?_) (fun hb_361 => ?_)
          · replace h := ite_T h hb_361
            refine T.skip ?_
            refine T.seq ?_
            refine T.block ?_
            refine T.seq ?_
            obtain ⟨x8, hx8, h⟩ := bind_some h
            refine T.region ?_
            refine RS.op rfl (OP.q rfl (v_move (v := .int .i64 s4) rfl ?_))
            refine RS.op rfl (OP.q rfl (v_index_sl Ty.s54 (fun _ => rfl) rfl rfl hx8 ?_))
            refine RS.op rfl (o_load_elt rfl (loadRowA Ty.k67 Ty.c67 rfl (cs := [.int .i64 x8.Kind, .int .i64 x8.A, .sl (List.map encI x8.In), .sl (List.map encI x8.Out)]) rfl ?_))
            refine RS.op rfl (o_alloc Ty.z67 rfl (aw' := [.box [.sl (List.map encNode p0.Nodes), .int .i64 p0.Rings, .int .i64 p0.Room], .mp (List.map kI (List.map Prod.fst s5)) (List.map kI (List.map Prod.snd s5)), .mp (List.map kI (List.map Prod.fst s6)) (List.map kI (List.map Prod.snd s6)), .box [.int .i64 0, .int .i64 0, .nils, .nils]]) rfl ?_)
            refine RS.op rfl (OP.q rfl (v_assign (v := .int .i64 s4) rfl ?_))
            refine RS.op rfl (o_store_ptr Ty.c67 Ty.i67 rfl (vs := [.int .i64 x8.Kind, .int .i64 x8.A, .sl (List.map encI x8.In), .sl (List.map encI x8.Out)]) rfl rfl rfl rfl (cs' := [.int .i64 x8.Kind, .int .i64 x8.A, .sl (List.map encI x8.In), .sl (List.map encI x8.Out)]) rfl (aw' := [.box [.sl (List.map encNode p0.Nodes), .int .i64 p0.Rings, .int .i64 p0.Room], .mp (List.map kI (List.map Prod.fst s5)) (List.map kI (List.map Prod.snd s5)), .mp (List.map kI (List.map Prod.fst s6)) (List.map kI (List.map Prod.snd s6)), .box [.int .i64 x8.Kind, .int .i64 x8.A, .sl (List.map encI x8.In), .sl (List.map encI x8.Out)]]) rfl ?_)
            refine RS.nil ?_
            refine T.seq ?_
            refine T.region ?_
            refine RS.op rfl (OP.q rfl (v_assign (v := .func 72 []) rfl ?_))
            refine RS.nil ?_
            refine T.seq ?_
            refine T.region ?_
            refine RS.op rfl (OP.q rfl (v_assign (v := .func 73 []) rfl ?_))
            refine RS.nil ?_
            refine T.seq ?_
            refine T.region ?_
            refine RS.op rfl (OP.q rfl (v_assign (v := .func 74 []) rfl ?_))
            refine RS.nil ?_
            refine T.join2 (Z := Unit) (fun zz_436 => mkA 249 [(1, .ptr 0 0), (4, .mpr 1), (5, .mpr 2), (6, .int .i64 s3), (7, .int .i64 s4), (8, .ptr 3 0), (60, .sl (List.map encNode p0.Nodes)), (61, .int .i64 ((p0.Nodes).length : Int)), (62, .int .i64 s4)]) (fun zz_436 => [.box [.sl (List.map encNode p0.Nodes), .int .i64 p0.Rings, .int .i64 p0.Room], .mp (List.map kI (List.map Prod.fst s5)) (List.map kI (List.map Prod.snd s5)), .mp (List.map kI (List.map Prod.fst s6)) (List.map kI (List.map Prod.snd s6)), .box [.int .i64 x8.Kind, .int .i64 x8.A, .sl (List.map encI x8.In), .sl (List.map encI x8.Out)]]) (fun zz_436 => crossref_CheckNet_k3 p0 s3 s4 s5 s6 x8 = some v_360) (fun zz_436 h => ?_) (fun hK3 => ?_)
            · replace h : crossref_CheckNet_k3 p0 s3 s4 s5 s6 x8 = some v_360 := h
              show T _ _ _ _ (mkA 249 [(1, .ptr 0 0), (4, .mpr 1), (5, .mpr 2), (6, .int .i64 s3), (7, .int .i64 s4), (8, .ptr 3 0), (60, .sl (List.map encNode p0.Nodes)), (61, .int .i64 ((p0.Nodes).length : Int)), (62, .int .i64 s4)]) [.box [.sl (List.map encNode p0.Nodes), .int .i64 p0.Rings, .int .i64 p0.Room], .mp (List.map kI (List.map Prod.fst s5)) (List.map kI (List.map Prod.snd s5)), .mp (List.map kI (List.map Prod.fst s6)) (List.map kI (List.map Prod.snd s6)), .box [.int .i64 x8.Kind, .int .i64 x8.A, .sl (List.map encI x8.In), .sl (List.map encI x8.Out)]]
              unfold crossref_CheckNet_k3 at h
              refine T.seq ?_
              refine T.region ?_
              refine RS.op rfl (o_makeMap rfl (aw' := [.box [.sl (List.map encNode p0.Nodes), .int .i64 p0.Rings, .int .i64 p0.Room], .mp (List.map kI (List.map Prod.fst s5)) (List.map kI (List.map Prod.snd s5)), .mp (List.map kI (List.map Prod.fst s6)) (List.map kI (List.map Prod.snd s6)), .box [.int .i64 x8.Kind, .int .i64 x8.A, .sl (List.map encI x8.In), .sl (List.map encI x8.Out)], .mp (List.map kI (List.map Prod.fst ([] : List (Int × Int)))) (List.map kI (List.map Prod.snd ([] : List (Int × Int))))]) rfl ?_)
              refine RS.op rfl (o_mapPut (ek := kI) (ev := kI) (xs := ([] : List (Int × Int))) (k := 1) (a := 3) (.inr rfl) Try.underlying60 (KeyT.int Try.underlying3) rfl rfl rfl rfl (aw' := [.box [.sl (List.map encNode p0.Nodes), .int .i64 p0.Rings, .int .i64 p0.Room], .mp (List.map kI (List.map Prod.fst s5)) (List.map kI (List.map Prod.snd s5)), .mp (List.map kI (List.map Prod.fst s6)) (List.map kI (List.map Prod.snd s6)), .box [.int .i64 x8.Kind, .int .i64 x8.A, .sl (List.map encI x8.In), .sl (List.map encI x8.Out)], .mp (List.map kI (List.map Prod.fst (mset 1 3 ([] : List (Int × Int))))) (List.map kI (List.map Prod.snd (mset 1 3 ([] : List (Int × Int)))))]) rfl ?_)
              refine RS.op rfl (o_mapPut (ek := kI) (ev := kI) (xs := (mset 1 3 ([] : List (Int × Int)))) (k := 2) (a := 3) (.inr rfl) Try.underlying60 (KeyT.int Try.underlying3) rfl rfl rfl rfl (aw' := [.box [.sl (List.map encNode p0.Nodes), .int .i64 p0.Rings, .int .i64 p0.Room], .mp (List.map kI (List.map Prod.fst s5)) (List.map kI (List.map Prod.snd s5)), .mp (List.map kI (List.map Prod.fst s6)) (List.map kI (List.map Prod.snd s6)), .box [.int .i64 x8.Kind, .int .i64 x8.A, .sl (List.map encI x8.In), .sl (List.map encI x8.Out)], .mp (List.map kI (List.map Prod.fst (mset 2 3 (mset 1 3 ([] : List (Int × Int)))))) (List.map kI (List.map Prod.snd (mset 2 3 (mset 1 3 ([] : List (Int × Int))))))]) rfl ?_)
              refine RS.op rfl (OP.q rfl (v_move (v := .mpr 4) rfl ?_))
              refine RS.op rfl (OP.q rfl (v_fieldAddr_ptr Ty.f67_0 rfl (off' := 0) rfl ?_))
              refine RS.op rfl (o_load_ptr rfl rfl (loadRow1 Ty.k3 (c := .int .i64 x8.Kind) rfl ?_))
              refine RS.op rfl (o_lookup (ek := kI) (ev := kI) (xs := (mset 2 3 (mset 1 3 ([] : List (Int × Int))))) (k := x8.Kind) (z0 := 0) Try.underlying60 (KeyT.int Try.underlying3) Ty.w3 (fun _ _ _ => .int _ _) rfl rfl rfl ?_)
              refine RS.op rfl (OP.q rfl (v_assign (v := .int .i64 ((mget x8.Kind (mset 2 3 (mset 1 3 ([] : List (Int × Int))))).getD 0)) rfl ?_))
              refine RS.nil ?_
              refine T.seq ?_
              refine T.join (Z := Unit) (fun _ => mkA 249 [(1, .ptr 0 0), (4, .mpr 1), (5, .mpr 2), (6, .int .i64 s3), (7, .int .i64 s4), (8, .ptr 3 0), (60, .sl (List.map encNode p0.Nodes)), (61, .int .i64 ((p0.Nodes).length : Int)), (62, .int .i64 s4), (130, .bool ((decide (x8.A < 0)) || decide (x8.A > ((mget x8.Kind (mset 2 3 (mset 1 3 ([] : List (Int × Int))))).getD 0))))]) (fun _ => [.box [.sl (List.map encNode p0.Nodes), .int .i64 p0.Rings, .int .i64 p0.Room], .mp (List.map kI (List.map Prod.fst s5)) (List.map kI (List.map Prod.snd s5)), .mp (List.map kI (List.map Prod.fst s6)) (List.map kI (List.map Prod.snd s6)), .box [.int .i64 x8.Kind, .int .i64 x8.A, .sl (List.map encI x8.In), .sl (List.map encI x8.Out)]]) (fun _ => True) (fun _ _ => ?_) (fun hK => ?_)
              · show T _ _ _ _ (mkA 249 [(1, .ptr 0 0), (4, .mpr 1), (5, .mpr 2), (6, .int .i64 s3), (7, .int .i64 s4), (8, .ptr 3 0), (60, .sl (List.map encNode p0.Nodes)), (61, .int .i64 ((p0.Nodes).length : Int)), (62, .int .i64 s4), (130, .bool ((decide (x8.A < 0)) || decide (x8.A > ((mget x8.Kind (mset 2 3 (mset 1 3 ([] : List (Int × Int))))).getD 0))))]) [.box [.sl (List.map encNode p0.Nodes), .int .i64 p0.Rings, .int .i64 p0.Room], .mp (List.map kI (List.map Prod.fst s5)) (List.map kI (List.map Prod.snd s5)), .mp (List.map kI (List.map Prod.fst s6)) (List.map kI (List.map Prod.snd s6)), .box [.int .i64 x8.Kind, .int .i64 x8.A, .sl (List.map encI x8.In), .sl (List.map encI x8.Out)]]
                refine T.cond (b := ((decide (x8.A < 0)) || decide (x8.A > ((mget x8.Kind (mset 2 3 (mset 1 3 ([] : List (Int × Int))))).getD 0)))) rfl (fun hb_438 => ?_) (fun hb_438 => ?_)
                · replace h := ite_T h hb_438
                  refine T.seq ?_
                  refine T.region ?_
                  refine RS.op rfl (OP.q rfl (v_assign (v := .nils) rfl ?_))
                  refine RS.op rfl (OP.q rfl (v_assign (v := .int .i64 3) rfl ?_))
                  refine RS.nil ?_
                  refine T.ret' (R := ?R439) ?hq439 ?_
                  case hq439 => repeat (first | exact RetIs.base | refine RetIs.thn ?_ | refine RetIs.blk ?_ | refine RetIs.lq ?_)
                  obtain ⟨w_440, h, hw_440⟩ := map_inr h
                  replace h := h.trans (congrArg some (hv_360 _ hw_440))
                  refine res_tmpA (v := .nils) rfl ?_
                  refine res_tmpA (v := .int .i64 3) rfl ?_
                  refine res_done ?_
                  exact ret_own (.tup [.ref 0, .int .i64 r.2]) [(0, 3, 1)] [4] (by decide) (none_kept _) rfl (rn_tup ⟨rn_ref rfl, rn_int (congrArg (fun r : (List Int) × Int => r.2) (Option.some.inj h)).symm, trivial⟩) (rw_arr (en := encI) (ys := []) rfl encI_p (congrArg (fun r : (List Int) × Int => r.1) (Option.some.inj h)).symm (rw_nil)) ⟨rfl, rfl⟩
                · replace h := ite_F h hb_438
                  refine T.skip ?_
                  refine T.seq ?_
                  refine T.seq ?_
                  refine T.region ?_
                  refine RS.op rfl (OP.q rfl (v_fieldAddr_ptr Ty.f67_2 rfl (off' := 2) rfl ?_))
                  refine RS.op rfl (o_load_ptr rfl rfl (loadRow1 Ty.k57 (c := .sl (List.map encI x8.In)) rfl ?_))
                  refine RS.op rfl (OP.q rfl (v_len_sl Ty.s57 rfl ?_))
                  refine RS.op rfl (OP.q rfl (v_move (v := .int .i64 0) rfl ?_))
                  refine RS.nil ?_
                  refine T.block ?_
                  refine T.iter (fun ss_453 : Int × (List (Int × Int)) => mkA 249 [(1, .ptr 0 0), (4, .mpr 1), (5, .mpr 2), (6, .int .i64 s3), (7, .int .i64 s4), (8, .ptr 3 0), (60, .sl (List.map encNode p0.Nodes)), (61, .int .i64 ((p0.Nodes).length : Int)), (62, .int .i64 s4), (132, .sl (List.map encI x8.In)), (133, .int .i64 ((x8.In).length : Int)), (134, .int .i64 ss_453.1)]) (fun ss_453 => [.box [.sl (List.map encNode p0.Nodes), .int .i64 p0.Rings, .int .i64 p0.Room], .mp (List.map kI (List.map Prod.fst s5)) (List.map kI (List.map Prod.snd s5)), .mp (List.map kI (List.map Prod.fst ss_453.2)) (List.map kI (List.map Prod.snd ss_453.2)), .box [.int .i64 x8.Kind, .int .i64 x8.A, .sl (List.map encI x8.In), .sl (List.map encI x8.Out)]]) h (Weak.mkN [] [0, 1, 2, 3] (by decide) (none_kept _) rfl ⟨rn_ptr rfl, rn_mpr rfl, rn_mpr rfl, rn_int rfl, rn_int rfl, rn_ptr rfl, rn_sl encNode_p rfl, rn_int rfl, rn_int rfl, rn_sl encI_p rfl, rn_int rfl, rn_int rfl, trivial⟩ (rw_box (cs := [.sl (List.map encNode p0.Nodes), .int .i64 p0.Rings, .int .i64 p0.Room]) (ds := [.sl (List.map encNode p0.Nodes), .int .i64 p0.Rings, .int .i64 p0.Room]) rfl ⟨rn_sl encNode_p rfl, rn_int rfl, rn_int rfl, trivial⟩ (rw_mp (ek := kI) (ev := kI) (ys := s5) rfl (fun _ => pure_int _ _) (fun _ => pure_int _ _) rfl (rw_mp (ek := kI) (ev := kI) (ys := s6) rfl (fun _ => pure_int _ _) (fun _ => pure_int _ _) rfl (rw_box (cs := [.int .i64 x8.Kind, .int .i64 x8.A, .sl (List.map encI x8.In), .sl (List.map encI x8.Out)]) (ds := [.int .i64 x8.Kind, .int .i64 x8.A, .sl (List.map encI x8.In), .sl (List.map encI x8.Out)]) rfl ⟨rn_int rfl, rn_int rfl, rn_sl encI_p rfl, rn_sl encI_p rfl, trivial⟩ (rw_nil)))))) (fun ss_453 v_454 h hv_454 => ?_)
                  obtain ⟨s34, s35⟩ := ss_453
                  replace h : crossref_CheckNet_l2 p0 s3 s4 s5 x8 s34 s35 = some v_454 := h
                  show T _ _ _ _ (mkA 249 [(1, .ptr 0 0), (4, .mpr 1), (5, .mpr 2), (6, .int .i64 s3), (7, .int .i64 s4), (8, .ptr 3 0), (60, .sl (List.map encNode p0.Nodes)), (61, .int .i64 ((p0.Nodes).length : Int)), (62, .int .i64 s4), (132, .sl (List.map encI x8.In)), (133, .int .i64 ((x8.In).length : Int)), (134, .int .i64 s34)]) [.box [.sl (List.map encNode p0.Nodes), .int .i64 p0.Rings, .int .i64 p0.Room], .mp (List.map kI (List.map Prod.fst s5)) (List.map kI (List.map Prod.snd s5)), .mp (List.map kI (List.map Prod.fst s35)) (List.map kI (List.map Prod.snd s35)), .box [.int .i64 x8.Kind, .int .i64 x8.A, .sl (List.map encI x8.In), .sl (List.map encI x8.Out)]]
                  unfold crossref_CheckNet_l2 at h
                  refine T.seq ?_
                  refine T.region ?_
                  refine RS.op rfl (OP.q rfl (v_lss rfl rfl ?_))
                  refine RS.nil ?_
                  refine T.seq ?_
                  refine T.cond (b := decide (s34 < ((x8.In).length : Int))) rfl (fun hb_455 => ?_) (fun hb_455 => ?_)
                  · replace h := ite_T h hb_455
                    refine T.skip ?_
                    refine T.seq ?_
                    refine T.block ?_
                    refine T.seq ?_
                    obtain ⟨x37, hx37, h⟩ := bind_some h
                    refine T.region ?_
                    refine RS.op rfl (OP.q rfl (v_index_sl Ty.s57 (fun _ => rfl) rfl rfl hx37 ?_))
                    refine RS.op rfl (o_load_elt rfl (loadRow1 Ty.k3 (c := .int .i64 x37) rfl ?_))
                    refine RS.op rfl (OP.q rfl (v_assign (v := .int .i64 x37) rfl ?_))
                    refine RS.nil ?_
                    refine T.seq ?_
                    refine T.join (Z := Unit) (fun _ => mkA 249 [(1, .ptr 0 0), (4, .mpr 1), (5, .mpr 2), (6, .int .i64 s3), (7, .int .i64 s4), (8, .ptr 3 0), (16, .int .i64 x37), (60, .sl (List.map encNode p0.Nodes)), (61, .int .i64 ((p0.Nodes).length : Int)), (62, .int .i64 s4), (132, .sl (List.map encI x8.In)), (133, .int .i64 ((x8.In).length : Int)), (134, .int .i64 s34), (145, .bool ((decide (x37 < 0)) || decide (x37 ≥ p0.Rings)))]) (fun _ => [.box [.sl (List.map encNode p0.Nodes), .int .i64 p0.Rings, .int .i64 p0.Room], .mp (List.map kI (List.map Prod.fst s5)) (List.map kI (List.map Prod.snd s5)), .mp (List.map kI (List.map Prod.fst s35)) (List.map kI (List.map Prod.snd s35)), .box [.int .i64 x8.Kind, .int .i64 x8.A, .sl (List.map encI x8.In), .sl (List.map encI x8.Out)]]) (fun _ => True) (fun _ _ => ?_) (fun hK => ?_)
                    · show T _ _ _ _ (mkA 249 [(1, .ptr 0 0), (4, .mpr 1), (5, .mpr 2), (6, .int .i64 s3), (7, .int .i64 s4), (8, .ptr 3 0), (16, .int .i64 x37), (60, .sl (List.map encNode p0.Nodes)), (61, .int .i64 ((p0.Nodes).length : Int)), (62, .int .i64 s4), (132, .sl (List.map encI x8.In)), (133, .int .i64 ((x8.In).length : Int)), (134, .int .i64 s34), (145, .bool ((decide (x37 < 0)) || decide (x37 ≥ p0.Rings)))]) [.box [.sl (List.map encNode p0.Nodes), .int .i64 p0.Rings, .int .i64 p0.Room], .mp (List.map kI (List.map Prod.fst s5)) (List.map kI (List.map Prod.snd s5)), .mp (List.map kI (List.map Prod.fst s35)) (List.map kI (List.map Prod.snd s35)), .box [.int .i64 x8.Kind, .int .i64 x8.A, .sl (List.map encI x8.In), .sl (List.map encI x8.Out)]]
                      refine T.cond (b := ((decide (x37 < 0)) || decide (x37 ≥ p0.Rings))) rfl (fun hb_457 => ?_) (fun hb_457 => ?_)
                      · replace h := ite_T h hb_457
                        refine T.seq ?_
                        refine T.region ?_
                        refine RS.op rfl (OP.q rfl (v_assign (v := .nils) rfl ?_))
                        refine RS.op rfl (OP.q rfl (v_assign (v := .int .i64 3) rfl ?_))
                        refine RS.nil ?_
                        refine T.ret' (R := ?R458) ?hq458 ?_
                        case hq458 => repeat (first | exact RetIs.base | refine RetIs.thn ?_ | refine RetIs.blk ?_ | refine RetIs.lq ?_)
                        obtain ⟨w_459, h, hw_459⟩ := map_inr h
                        replace h := h.trans (congrArg some (hv_454 _ hw_459))
                        obtain ⟨w_460, h, hw_460⟩ := map_inr h
                        replace h := h.trans (congrArg some (hv_360 _ hw_460))
                        refine res_tmpA (v := .nils) rfl ?_
                        refine res_tmpA (v := .int .i64 3) rfl ?_
                        refine res_done ?_
                        exact ret_own (.tup [.ref 0, .int .i64 r.2]) [(0, 3, 1)] [4] (by decide) (none_kept _) rfl (rn_tup ⟨rn_ref rfl, rn_int (congrArg (fun r : (List Int) × Int => r.2) (Option.some.inj h)).symm, trivial⟩) (rw_arr (en := encI) (ys := []) rfl encI_p (congrArg (fun r : (List Int) × Int => r.1) (Option.some.inj h)).symm (rw_nil)) ⟨rfl, rfl⟩
                      · replace h := ite_F h hb_457
                        refine T.skip ?_
                        refine T.seq ?_
                        refine T.seq ?_
                        refine T.region ?_
                        refine RS.op rfl (OP.q rfl (v_move (v := .mpr 2) rfl ?_))
                        refine RS.op rfl (OP.q rfl (v_move (v := .int .i64 x37) rfl ?_))
                        refine RS.op rfl (o_lookup_ok (ek := kI) (ev := kI) (xs := s35) (k := x37) (z0 := 0) Try.underlying60 (KeyT.int Try.underlying3) Ty.w3 (fun _ _ _ => .int _ _) rfl rfl rfl ?_)
                        refine RS.op rfl (OP.q rfl (v_move (v := .tup [.int .i64 ((mget x37 s35).getD 0), .bool ((mget x37 s35).isSome)]) rfl ?_))
                        refine RS.op rfl (OP.q rfl (v_extract (v := .int .i64 ((mget x37 s35).getD 0)) rfl rfl ?_))
                        refine RS.op rfl (OP.q rfl (v_extract (v := .bool ((mget x37 s35).isSome)) rfl rfl ?_))
                        refine RS.op rfl (OP.q rfl (v_assign (v := .int .i64 ((mget x37 s35).getD 0)) rfl ?_))
                        refine RS.op rfl (OP.q rfl (v_assign (v := .bool ((mget x37 s35).isSome)) rfl ?_))
                        refine RS.nil ?_
                        refine T.seq ?_
                        refine T.region ?_
                        refine RS.op rfl (OP.q rfl (v_move (v := .bool ((mget x37 s35).isSome)) rfl ?_))
                        refine RS.nil ?_
                        refine T.cond (b := (mget x37 s35).isSome) rfl (fun hb_461 => ?_) (fun hb_461 => ?_)
                        · replace h := ite_T h hb_461
                          refine T.seq ?_
                          refine T.region ?_
                          refine RS.op rfl (OP.q rfl (v_assign (v := .nils) rfl ?_))
                          refine RS.op rfl (OP.q rfl (v_assign (v := .int .i64 6) rfl ?_))
                          refine RS.nil ?_
                          refine T.ret' (R := ?R462) ?hq462 ?_
                          case hq462 => repeat (first | exact RetIs.base | refine RetIs.thn ?_ | refine RetIs.blk ?_ | refine RetIs.lq ?_)
                          obtain ⟨w_463, h, hw_463⟩ := map_inr h
                          replace h := h.trans (congrArg some (hv_454 _ hw_463))
                          obtain ⟨w_464, h, hw_464⟩ := map_inr h
                          replace h := h.trans (congrArg some (hv_360 _ hw_464))
                          refine res_tmpA (v := .nils) rfl ?_
                          refine res_tmpA (v := .int .i64 6) rfl ?_
                          refine res_done ?_
                          exact ret_own (.tup [.ref 0, .int .i64 r.2]) [(0, 3, 1)] [4] (by decide) (none_kept _) rfl (rn_tup ⟨rn_ref rfl, rn_int (congrArg (fun r : (List Int) × Int => r.2) (Option.some.inj h)).symm, trivial⟩) (rw_arr (en := encI) (ys := []) rfl encI_p (congrArg (fun r : (List Int) × Int => r.1) (Option.some.inj h)).symm (rw_nil)) ⟨rfl, rfl⟩
                        · replace h := ite_F h hb_461
                          refine T.skip ?_
                          refine T.region ?_
                          refine RS.op rfl (OP.q rfl (v_move (v := .mpr 2) rfl ?_))
                          refine RS.op rfl (OP.q rfl (v_move (v := .int .i64 x37) rfl ?_))
                          refine RS.op rfl (OP.q rfl (v_move (v := .int .i64 s4) rfl ?_))
                          refine RS.op rfl (o_mapPut (ek := kI) (ev := kI) (xs := s35) (k := x37) (a := s4) (.inl rfl) Try.underlying60 (KeyT.int Try.underlying3) rfl rfl rfl rfl (aw' := [.box [.sl (List.map encNode p0.Nodes), .int .i64 p0.Rings, .int .i64 p0.Room], .mp (List.map kI (List.map Prod.fst s5)) (List.map kI (List.map Prod.snd s5)), .mp (List.map kI (List.map Prod.fst (mset x37 s4 s35))) (List.map kI (List.map Prod.snd (mset x37 s4 s35))), .box [.int .i64 x8.Kind, .int .i64 x8.A, .sl (List.map encI x8.In), .sl (List.map encI x8.Out)]]) rfl ?_)
                          refine RS.nil ?_
                          refine T.region ?_
                          refine RS.op rfl (OP.q rfl (v_add rfl rfl ?_))
                          refine RS.op rfl (OP.q rfl (v_move (v := .int .i64 (IntKind.i64.wrap (s34 + 1))) rfl ?_))
                          refine RS.nil ?_
                          exact ⟨(IntKind.i64.wrap (s34 + 1), (mset x37 s4 s35)), (Option.some.inj h).symm, Weak.mkN [] [0, 1, 2, 3] (by decide) (none_kept _) rfl ⟨rn_ptr rfl, rn_mpr rfl, rn_mpr rfl, rn_int rfl, rn_int rfl, rn_ptr rfl, rn_sl encNode_p rfl, rn_int rfl, rn_int rfl, rn_sl encI_p rfl, rn_int rfl, rn_int rfl, trivial⟩ (rw_box (cs := [.sl (List.map encNode p0.Nodes), .int .i64 p0.Rings, .int .i64 p0.Room]) (ds := [.sl (List.map encNode p0.Nodes), .int .i64 p0.Rings, .int .i64 p0.Room]) rfl ⟨rn_sl encNode_p rfl, rn_int rfl, rn_int rfl, trivial⟩ (rw_mp (ek := kI) (ev := kI) (ys := s5) rfl (fun _ => pure_int _ _) (fun _ => pure_int _ _) rfl (rw_mp (ek := kI) (ev := kI) (ys := (mset x37 s4 s35)) rfl (fun _ => pure_int _ _) (fun _ => pure_int _ _) rfl (rw_box (cs := [.int .i64 x8.Kind, .int .i64 x8.A, .sl (List.map encI x8.In), .sl (List.map encI x8.Out)]) (ds := [.int .i64 x8.Kind, .int .i64 x8.A, .sl (List.map encI x8.In), .sl (List.map encI x8.Out)]) rfl ⟨rn_int rfl, rn_int rfl, rn_sl encI_p rfl, rn_sl encI_p rfl, trivial⟩ (rw_nil)))))⟩
                    · refine T.region ?_
                      refine RS.op rfl (OP.q rfl (v_move (v := .int .i64 x37) rfl ?_))
                      refine RS.op rfl (OP.q rfl (v_lss rfl rfl ?_))
                      refine RS.op rfl (OP.q rfl (v_move (v := .bool (decide (x37 < 0))) rfl ?_))
                      rcases bool_cases (decide (x37 < 0)) with hb_456 | hb_456
                      · refine RS.no rfl rfl rfl hb_456 ?_
                        refine RS.no rfl rfl rfl hb_456 ?_
                        refine RS.no rfl rfl rfl hb_456 ?_
                        refine RS.no rfl rfl rfl hb_456 ?_
                        refine RS.op rfl (OP.q rfl (v_pickT (v := .bool true) rfl hb_456 rfl ?_))
                        refine RS.nil ?_
                        exact T.weakR (hK () trivial) (Weak.mkN [] [0, 1, 2, 3] (by decide) (none_kept _) rfl ⟨rn_ptr rfl, rn_mpr rfl, rn_mpr rfl, rn_int rfl, rn_int rfl, rn_ptr rfl, rn_int rfl, rn_sl encNode_p rfl, rn_int rfl, rn_int rfl, rn_sl encI_p rfl, rn_int rfl, rn_int rfl, rn_bool (by simp only [hb_456, Bool.true_or, Bool.or_true, Bool.false_or, Bool.or_false, Bool.true_and, Bool.and_true, Bool.false_and, Bool.and_false, Bool.not_true, Bool.not_false, if_true, if_false, Bool.false_eq_true, reduceIte]), trivial⟩ (rw_box (cs := [.sl (List.map encNode p0.Nodes), .int .i64 p0.Rings, .int .i64 p0.Room]) (ds := [.sl (List.map encNode p0.Nodes), .int .i64 p0.Rings, .int .i64 p0.Room]) rfl ⟨rn_sl encNode_p rfl, rn_int rfl, rn_int rfl, trivial⟩ (rw_mp (ek := kI) (ev := kI) (ys := s5) rfl (fun _ => pure_int _ _) (fun _ => pure_int _ _) rfl (rw_mp (ek := kI) (ev := kI) (ys := s35) rfl (fun _ => pure_int _ _) (fun _ => pure_int _ _) rfl (rw_box (cs := [.int .i64 x8.Kind, .int .i64 x8.A, .sl (List.map encI x8.In), .sl (List.map encI x8.Out)]) (ds := [.int .i64 x8.Kind, .int .i64 x8.A, .sl (List.map encI x8.In), .sl (List.map encI x8.Out)]) rfl ⟨rn_int rfl, rn_int rfl, rn_sl encI_p rfl, rn_sl encI_p rfl, trivial⟩ (rw_nil))))))
                      · refine RS.yes rfl rfl rfl hb_456 (OP.q rfl (v_move (v := .int .i64 x37) rfl ?_))
                        refine RS.yes rfl rfl rfl hb_456 (OP.q rfl (v_fieldAddr_ptr Ty.f56_1 rfl (off' := 1) rfl ?_))
                        refine RS.yes rfl rfl rfl hb_456 (o_load_ptr rfl rfl (loadRow1 Ty.k3 (c := .int .i64 p0.Rings) rfl ?_))
                        refine RS.yes rfl rfl rfl hb_456 (OP.q rfl (v_geq rfl rfl ?_))
                        refine RS.op rfl (OP.q rfl (v_pickF (v := .bool (decide (x37 ≥ p0.Rings))) rfl hb_456 rfl ?_))
                        refine RS.nil ?_
                        exact T.weakR (hK () trivial) (Weak.mkN [] [0, 1, 2, 3] (by decide) (none_kept _) rfl ⟨rn_ptr rfl, rn_mpr rfl, rn_mpr rfl, rn_int rfl, rn_int rfl, rn_ptr rfl, rn_int rfl, rn_sl encNode_p rfl, rn_int rfl, rn_int rfl, rn_sl encI_p rfl, rn_int rfl, rn_int rfl, rn_bool (by simp only [hb_456, Bool.true_or, Bool.or_true, Bool.false_or, Bool.or_false, Bool.true_and, Bool.and_true, Bool.false_and, Bool.and_false, Bool.not_true, Bool.not_false, if_true, if_false, Bool.false_eq_true, reduceIte]), trivial⟩ (rw_box (cs := [.sl (List.map encNode p0.Nodes), .int .i64 p0.Rings, .int .i64 p0.Room]) (ds := [.sl (List.map encNode p0.Nodes), .int .i64 p0.Rings, .int .i64 p0.Room]) rfl ⟨rn_sl encNode_p rfl, rn_int rfl, rn_int rfl, trivial⟩ (rw_mp (ek := kI) (ev := kI) (ys := s5) rfl (fun _ => pure_int _ _) (fun _ => pure_int _ _) rfl (rw_mp (ek := kI) (ev := kI) (ys := s35) rfl (fun _ => pure_int _ _) (fun _ => pure_int _ _) rfl (rw_box (cs := [.int .i64 x8.Kind, .int .i64 x8.A, .sl (List.map encI x8.In), .sl (List.map encI x8.Out)]) (ds := [.int .i64 x8.Kind, .int .i64 x8.A, .sl (List.map encI x8.In), .sl (List.map encI x8.Out)]) rfl ⟨rn_int rfl, rn_int rfl, rn_sl encI_p rfl, rn_sl encI_p rfl, trivial⟩ (rw_nil))))))
                  · replace h := ite_F h hb_455
                    refine T.exit ?_
                    obtain ⟨w_465, h, hw_465⟩ := map_inr h
                    replace h := h.trans (congrArg some (hv_454 _ hw_465))
                    refine T.seq ?_
                    refine T.seq ?_
                    refine T.region ?_
                    refine RS.op rfl (OP.q rfl (v_fieldAddr_ptr Ty.f67_3 rfl (off' := 3) rfl ?_))
                    refine RS.op rfl (o_load_ptr rfl rfl (loadRow1 Ty.k57 (c := .sl (List.map encI x8.Out)) rfl ?_))
                    refine RS.op rfl (OP.q rfl (v_len_sl Ty.s57 rfl ?_))
                    refine RS.op rfl (OP.q rfl (v_move (v := .int .i64 0) rfl ?_))
                    refine RS.nil ?_
                    refine T.block ?_
                    refine T.iter (fun ss_478 : Int × (List (Int × Int)) => mkA 249 [(1, .ptr 0 0), (4, .mpr 1), (5, .mpr 2), (6, .int .i64 s3), (7, .int .i64 s4), (8, .ptr 3 0), (60, .sl (List.map encNode p0.Nodes)), (61, .int .i64 ((p0.Nodes).length : Int)), (62, .int .i64 s4), (158, .sl (List.map encI x8.Out)), (159, .int .i64 ((x8.Out).length : Int)), (160, .int .i64 ss_478.1)]) (fun ss_478 => [.box [.sl (List.map encNode p0.Nodes), .int .i64 p0.Rings, .int .i64 p0.Room], .mp (List.map kI (List.map Prod.fst ss_478.2)) (List.map kI (List.map Prod.snd ss_478.2)), .mp (List.map kI (List.map Prod.fst s35)) (List.map kI (List.map Prod.snd s35)), .box [.int .i64 x8.Kind, .int .i64 x8.A, .sl (List.map encI x8.In), .sl (List.map encI x8.Out)]]) h (Weak.mkN [] [0, 1, 2, 3] (by decide) (none_kept _) rfl ⟨rn_ptr rfl, rn_mpr rfl, rn_mpr rfl, rn_int rfl, rn_int rfl, rn_ptr rfl, rn_sl encNode_p rfl, rn_int rfl, rn_int rfl, rn_sl encI_p rfl, rn_int rfl, rn_int rfl, trivial⟩ (rw_box (cs := [.sl (List.map encNode p0.Nodes), .int .i64 p0.Rings, .int .i64 p0.Room]) (ds := [.sl (List.map encNode p0.Nodes), .int .i64 p0.Rings, .int .i64 p0.Room]) rfl ⟨rn_sl encNode_p rfl, rn_int rfl, rn_int rfl, trivial⟩ (rw_mp (ek := kI) (ev := kI) (ys := s5) rfl (fun _ => pure_int _ _) (fun _ => pure_int _ _) rfl (rw_mp (ek := kI) (ev := kI) (ys := s35) rfl (fun _ => pure_int _ _) (fun _ => pure_int _ _) rfl (rw_box (cs := [.int .i64 x8.Kind, .int .i64 x8.A, .sl (List.map encI x8.In), .sl (List.map encI x8.Out)]) (ds := [.int .i64 x8.Kind, .int .i64 x8.A, .sl (List.map encI x8.In), .sl (List.map encI x8.Out)]) rfl ⟨rn_int rfl, rn_int rfl, rn_sl encI_p rfl, rn_sl encI_p rfl, trivial⟩ (rw_nil)))))) (fun ss_478 v_479 h hv_479 => ?_)
                    obtain ⟨s39, s40⟩ := ss_478
                    replace h : crossref_CheckNet_l1 p0 s3 s4 x8 s35 s39 s40 = some v_479 := h
                    show T _ _ _ _ (mkA 249 [(1, .ptr 0 0), (4, .mpr 1), (5, .mpr 2), (6, .int .i64 s3), (7, .int .i64 s4), (8, .ptr 3 0), (60, .sl (List.map encNode p0.Nodes)), (61, .int .i64 ((p0.Nodes).length : Int)), (62, .int .i64 s4), (158, .sl (List.map encI x8.Out)), (159, .int .i64 ((x8.Out).length : Int)), (160, .int .i64 s39)]) [.box [.sl (List.map encNode p0.Nodes), .int .i64 p0.Rings, .int .i64 p0.Room], .mp (List.map kI (List.map Prod.fst s40)) (List.map kI (List.map Prod.snd s40)), .mp (List.map kI (List.map Prod.fst s35)) (List.map kI (List.map Prod.snd s35)), .box [.int .i64 x8.Kind, .int .i64 x8.A, .sl (List.map encI x8.In), .sl (List.map encI x8.Out)]]
                    unfold crossref_CheckNet_l1 at h
                    refine T.seq ?_
                    refine T.region ?_
                    refine RS.op rfl (OP.q rfl (v_lss rfl rfl ?_))
                    refine RS.nil ?_
                    refine T.seq ?_
                    refine T.cond (b := decide (s39 < ((x8.Out).length : Int))) rfl (fun hb_480 => ?_) (fun hb_480 => ?_)
                    · replace h := ite_T h hb_480
                      refine T.skip ?_
                      refine T.seq ?_
                      refine T.block ?_
                      refine T.seq ?_
                      obtain ⟨x42, hx42, h⟩ := bind_some h
                      refine T.region ?_
                      refine RS.op rfl (OP.q rfl (v_index_sl Ty.s57 (fun _ => rfl) rfl rfl hx42 ?_))
                      refine RS.op rfl (o_load_elt rfl (loadRow1 Ty.k3 (c := .int .i64 x42) rfl ?_))
                      refine RS.op rfl (OP.q rfl (v_assign (v := .int .i64 x42) rfl ?_))
                      refine RS.nil ?_
                      refine T.seq ?_
                      refine T.join (Z := Unit) (fun _ => mkA 249 [(1, .ptr 0 0), (4, .mpr 1), (5, .mpr 2), (6, .int .i64 s3), (7, .int .i64 s4), (8, .ptr 3 0), (20, .int .i64 x42), (60, .sl (List.map encNode p0.Nodes)), (61, .int .i64 ((p0.Nodes).length : Int)), (62, .int .i64 s4), (158, .sl (List.map encI x8.Out)), (159, .int .i64 ((x8.Out).length : Int)), (160, .int .i64 s39), (171, .bool ((decide (x42 < 0)) || decide (x42 ≥ p0.Rings)))]) (fun _ => [.box [.sl (List.map encNode p0.Nodes), .int .i64 p0.Rings, .int .i64 p0.Room], .mp (List.map kI (List.map Prod.fst s40)) (List.map kI (List.map Prod.snd s40)), .mp (List.map kI (List.map Prod.fst s35)) (List.map kI (List.map Prod.snd s35)), .box [.int .i64 x8.Kind, .int .i64 x8.A, .sl (List.map encI x8.In), .sl (List.map encI x8.Out)]]) (fun _ => True) (fun _ _ => ?_) (fun hK => ?_)
                      · show T _ _ _ _ (mkA 249 [(1, .ptr 0 0), (4, .mpr 1), (5, .mpr 2), (6, .int .i64 s3), (7, .int .i64 s4), (8, .ptr 3 0), (20, .int .i64 x42), (60, .sl (List.map encNode p0.Nodes)), (61, .int .i64 ((p0.Nodes).length : Int)), (62, .int .i64 s4), (158, .sl (List.map encI x8.Out)), (159, .int .i64 ((x8.Out).length : Int)), (160, .int .i64 s39), (171, .bool ((decide (x42 < 0)) || decide (x42 ≥ p0.Rings)))]) [.box [.sl (List.map encNode p0.Nodes), .int .i64 p0.Rings, .int .i64 p0.Room], .mp (List.map kI (List.map Prod.fst s40)) (List.map kI (List.map Prod.snd s40)), .mp (List.map kI (List.map Prod.fst s35)) (List.map kI (List.map Prod.snd s35)), .box [.int .i64 x8.Kind, .int .i64 x8.A, .sl (List.map encI x8.In), .sl (List.map encI x8.Out)]]
                        refine T.cond (b := ((decide (x42 < 0)) || decide (x42 ≥ p0.Rings))) rfl (fun hb_482 => ?_) (fun hb_482 => ?_)
                        · replace h := ite_T h hb_482
                          refine T.seq ?_
                          refine T.region ?_
                          refine RS.op rfl (OP.q rfl (v_assign (v := .nils) rfl ?_))
                          refine RS.op rfl (OP.q rfl (v_assign (v := .int .i64 3) rfl ?_))
                          refine RS.nil ?_
                          refine T.ret' (R := ?R483) ?hq483 ?_
                          case hq483 => repeat (first | exact RetIs.base | refine RetIs.thn ?_ | refine RetIs.blk ?_ | refine RetIs.lq ?_)
                          obtain ⟨w_484, h, hw_484⟩ := map_inr h
                          replace h := h.trans (congrArg some (hv_479 _ hw_484))
                          obtain ⟨w_485, h, hw_485⟩ := map_inr h
                          replace h := h.trans (congrArg some (hv_360 _ hw_485))
                          refine res_tmpA (v := .nils) rfl ?_
                          refine res_tmpA (v := .int .i64 3) rfl ?_
                          refine res_done ?_
                          exact ret_own (.tup [.ref 0, .int .i64 r.2]) [(0, 3, 1)] [4] (by decide) (none_kept _) rfl (rn_tup ⟨rn_ref rfl, rn_int (congrArg (fun r : (List Int) × Int => r.2) (Option.some.inj h)).symm, trivial⟩) (rw_arr (en := encI) (ys := []) rfl encI_p (congrArg (fun r : (List Int) × Int => r.1) (Option.some.inj h)).symm (rw_nil)) ⟨rfl, rfl⟩
                        · replace h := ite_F h hb_482
                          refine T.skip ?_
                          refine T.seq ?_
                          refine T.seq ?_
                          refine T.region ?_
                          refine RS.op rfl (OP.q rfl (v_move (v := .mpr 1) rfl ?_))
                          refine RS.op rfl (OP.q rfl (v_move (v := .int .i64 x42) rfl ?_))
                          refine RS.op rfl (o_lookup_ok (ek := kI) (ev := kI) (xs := s40) (k := x42) (z0 := 0) Try.underlying60 (KeyT.int Try.underlying3) Ty.w3 (fun _ _ _ => .int _ _) rfl rfl rfl ?_)
                          refine RS.op rfl (OP.q rfl (v_move (v := .tup [.int .i64 ((mget x42 s40).getD 0), .bool ((mget x42 s40).isSome)]) rfl ?_))
                          refine RS.op rfl (OP.q rfl (v_extract (v := .int .i64 ((mget x42 s40).getD 0)) rfl rfl ?_))
                          refine RS.op rfl (OP.q rfl (v_extract (v := .bool ((mget x42 s40).isSome)) rfl rfl ?_))
                          refine RS.op rfl (OP.q rfl (v_assign (v := .int .i64 ((mget x42 s40).getD 0)) rfl ?_))
                          refine RS.op rfl (OP.q rfl (v_assign (v := .bool ((mget x42 s40).isSome)) rfl ?_))
                          refine RS.nil ?_
                          refine T.seq ?_
                          refine T.region ?_
                          refine RS.op rfl (OP.q rfl (v_move (v := .bool ((mget x42 s40).isSome)) rfl ?_))
                          refine RS.nil ?_
                          refine T.cond (b := (mget x42 s40).isSome) rfl (fun hb_486 => ?_) (fun hb_486 => ?_)
                          · replace h := ite_T h hb_486
                            refine T.seq ?_
                            refine T.region ?_
                            refine RS.op rfl (OP.q rfl (v_assign (v := .nils) rfl ?_))
                            refine RS.op rfl (OP.q rfl (v_assign (v := .int .i64 6) rfl ?_))
                            refine RS.nil ?_
                            refine T.ret' (R := ?R487) ?hq487 ?_
                            case hq487 => repeat (first | exact RetIs.base | refine RetIs.thn ?_ | refine RetIs.blk ?_ | refine RetIs.lq ?_)
                            obtain ⟨w_488, h, hw_488⟩ := map_inr h
                            replace h := h.trans (congrArg some (hv_479 _ hw_488))
                            obtain ⟨w_489, h, hw_489⟩ := map_inr h
                            replace h := h.trans (congrArg some (hv_360 _ hw_489))
                            refine res_tmpA (v := .nils) rfl ?_
                            refine res_tmpA (v := .int .i64 6) rfl ?_
                            refine res_done ?_
                            exact ret_own (.tup [.ref 0, .int .i64 r.2]) [(0, 3, 1)] [4] (by decide) (none_kept _) rfl (rn_tup ⟨rn_ref rfl, rn_int (congrArg (fun r : (List Int) × Int => r.2) (Option.some.inj h)).symm, trivial⟩) (rw_arr (en := encI) (ys := []) rfl encI_p (congrArg (fun r : (List Int) × Int => r.1) (Option.some.inj h)).symm (rw_nil)) ⟨rfl, rfl⟩
                          · replace h := ite_F h hb_486
                            refine T.skip ?_
                            refine T.region ?_
                            refine RS.op rfl (OP.q rfl (v_move (v := .mpr 1) rfl ?_))
                            refine RS.op rfl (OP.q rfl (v_move (v := .int .i64 x42) rfl ?_))
                            refine RS.op rfl (OP.q rfl (v_move (v := .int .i64 s4) rfl ?_))
                            refine RS.op rfl (o_mapPut (ek := kI) (ev := kI) (xs := s40) (k := x42) (a := s4) (.inl rfl) Try.underlying60 (KeyT.int Try.underlying3) rfl rfl rfl rfl (aw' := [.box [.sl (List.map encNode p0.Nodes), .int .i64 p0.Rings, .int .i64 p0.Room], .mp (List.map kI (List.map Prod.fst (mset x42 s4 s40))) (List.map kI (List.map Prod.snd (mset x42 s4 s40))), .mp (List.map kI (List.map Prod.fst s35)) (List.map kI (List.map Prod.snd s35)), .box [.int .i64 x8.Kind, .int .i64 x8.A, .sl (List.map encI x8.In), .sl (List.map encI x8.Out)]]) rfl ?_)
                            refine RS.nil ?_
                            refine T.region ?_
                            refine RS.op rfl (OP.q rfl (v_add rfl rfl ?_))
                            refine RS.op rfl (OP.q rfl (v_move (v := .int .i64 (IntKind.i64.wrap (s39 + 1))) rfl ?_))
                            refine RS.nil ?_
                            exact ⟨(IntKind.i64.wrap (s39 + 1), (mset x42 s4 s40)), (Option.some.inj h).symm, Weak.mkN [] [0, 1, 2, 3] (by decide) (none_kept _) rfl ⟨rn_ptr rfl, rn_mpr rfl, rn_mpr rfl, rn_int rfl, rn_int rfl, rn_ptr rfl, rn_sl encNode_p rfl, rn_int rfl, rn_int rfl, rn_sl encI_p rfl, rn_int rfl, rn_int rfl, trivial⟩ (rw_box (cs := [.sl (List.map encNode p0.Nodes), .int .i64 p0.Rings, .int .i64 p0.Room]) (ds := [.sl (List.map encNode p0.Nodes), .int .i64 p0.Rings, .int .i64 p0.Room]) rfl ⟨rn_sl encNode_p rfl, rn_int rfl, rn_int rfl, trivial⟩ (rw_mp (ek := kI) (ev := kI) (ys := (mset x42 s4 s40)) rfl (fun _ => pure_int _ _) (fun _ => pure_int _ _) rfl (rw_mp (ek := kI) (ev := kI) (ys := s35) rfl (fun _ => pure_int _ _) (fun _ => pure_int _ _) rfl (rw_box (cs := [.int .i64 x8.Kind, .int .i64 x8.A, .sl (List.map encI x8.In), .sl (List.map encI x8.Out)]) (ds := [.int .i64 x8.Kind, .int .i64 x8.A, .sl (List.map encI x8.In), .sl (List.map encI x8.Out)]) rfl ⟨rn_int rfl, rn_int rfl, rn_sl encI_p rfl, rn_sl encI_p rfl, trivial⟩ (rw_nil)))))⟩
                      · refine T.region ?_
                        refine RS.op rfl (OP.q rfl (v_move (v := .int .i64 x42) rfl ?_))
                        refine RS.op rfl (OP.q rfl (v_lss rfl rfl ?_))
                        refine RS.op rfl (OP.q rfl (v_move (v := .bool (decide (x42 < 0))) rfl ?_))
                        rcases bool_cases (decide (x42 < 0)) with hb_481 | hb_481
                        · refine RS.no rfl rfl rfl hb_481 ?_
                          refine RS.no rfl rfl rfl hb_481 ?_
                          refine RS.no rfl rfl rfl hb_481 ?_
                          refine RS.no rfl rfl rfl hb_481 ?_
                          refine RS.op rfl (OP.q rfl (v_pickT (v := .bool true) rfl hb_481 rfl ?_))
                          refine RS.nil ?_
                          exact T.weakR (hK () trivial) (Weak.mkN [] [0, 1, 2, 3] (by decide) (none_kept _) rfl ⟨rn_ptr rfl, rn_mpr rfl, rn_mpr rfl, rn_int rfl, rn_int rfl, rn_ptr rfl, rn_int rfl, rn_sl encNode_p rfl, rn_int rfl, rn_int rfl, rn_sl encI_p rfl, rn_int rfl, rn_int rfl, rn_bool (by simp only [hb_481, Bool.true_or, Bool.or_true, Bool.false_or, Bool.or_false, Bool.true_and, Bool.and_true, Bool.false_and, Bool.and_false, Bool.not_true, Bool.not_false, if_true, if_false, Bool.false_eq_true, reduceIte]), trivial⟩ (rw_box (cs := [.sl (List.map encNode p0.Nodes), .int .i64 p0.Rings, .int .i64 p0.Room]) (ds := [.sl (List.map encNode p0.Nodes), .int .i64 p0.Rings, .int .i64 p0.Room]) rfl ⟨rn_sl encNode_p rfl, rn_int rfl, rn_int rfl, trivial⟩ (rw_mp (ek := kI) (ev := kI) (ys := s40) rfl (fun _ => pure_int _ _) (fun _ => pure_int _ _) rfl (rw_mp (ek := kI) (ev := kI) (ys := s35) rfl (fun _ => pure_int _ _) (fun _ => pure_int _ _) rfl (rw_box (cs := [.int .i64 x8.Kind, .int .i64 x8.A, .sl (List.map encI x8.In), .sl (List.map encI x8.Out)]) (ds := [.int .i64 x8.Kind, .int .i64 x8.A, .sl (List.map encI x8.In), .sl (List.map encI x8.Out)]) rfl ⟨rn_int rfl, rn_int rfl, rn_sl encI_p rfl, rn_sl encI_p rfl, trivial⟩ (rw_nil))))))
                        · refine RS.yes rfl rfl rfl hb_481 (OP.q rfl (v_move (v := .int .i64 x42) rfl ?_))
                          refine RS.yes rfl rfl rfl hb_481 (OP.q rfl (v_fieldAddr_ptr Ty.f56_1 rfl (off' := 1) rfl ?_))
                          refine RS.yes rfl rfl rfl hb_481 (o_load_ptr rfl rfl (loadRow1 Ty.k3 (c := .int .i64 p0.Rings) rfl ?_))
                          refine RS.yes rfl rfl rfl hb_481 (OP.q rfl (v_geq rfl rfl ?_))
                          refine RS.op rfl (OP.q rfl (v_pickF (v := .bool (decide (x42 ≥ p0.Rings))) rfl hb_481 rfl ?_))
                          refine RS.nil ?_
                          exact T.weakR (hK () trivial) (Weak.mkN [] [0, 1, 2, 3] (by decide) (none_kept _) rfl ⟨rn_ptr rfl, rn_mpr rfl, rn_mpr rfl, rn_int rfl, rn_int rfl, rn_ptr rfl, rn_int rfl, rn_sl encNode_p rfl, rn_int rfl, rn_int rfl, rn_sl encI_p rfl, rn_int rfl, rn_int rfl, rn_bool (by simp only [hb_481, Bool.true_or, Bool.or_true, Bool.false_or, Bool.or_false, Bool.true_and, Bool.and_true, Bool.false_and, Bool.and_false, Bool.not_true, Bool.not_false, if_true, if_false, Bool.false_eq_true, reduceIte]), trivial⟩ (rw_box (cs := [.sl (List.map encNode p0.Nodes), .int .i64 p0.Rings, .int .i64 p0.Room]) (ds := [.sl (List.map encNode p0.Nodes), .int .i64 p0.Rings, .int .i64 p0.Room]) rfl ⟨rn_sl encNode_p rfl, rn_int rfl, rn_int rfl, trivial⟩ (rw_mp (ek := kI) (ev := kI) (ys := s40) rfl (fun _ => pure_int _ _) (fun _ => pure_int _ _) rfl (rw_mp (ek := kI) (ev := kI) (ys := s35) rfl (fun _ => pure_int _ _) (fun _ => pure_int _ _) rfl (rw_box (cs := [.int .i64 x8.Kind, .int .i64 x8.A, .sl (List.map encI x8.In), .sl (List.map encI x8.Out)]) (ds := [.int .i64 x8.Kind, .int .i64 x8.A, .sl (List.map encI x8.In), .sl (List.map encI x8.Out)]) rfl ⟨rn_int rfl, rn_int rfl, rn_sl encI_p rfl, rn_sl encI_p rfl, trivial⟩ (rw_nil))))))
                    · replace h := ite_F h hb_480
                      refine T.exit ?_
                      obtain ⟨w_490, h, hw_490⟩ := map_inr h
                      replace h := h.trans (congrArg some (hv_479 _ hw_490))
                      refine T.seq ?_
                      refine T.region ?_
                      refine RS.op rfl (OP.q rfl (v_fieldAddr_ptr Ty.f67_0 rfl (off' := 0) rfl ?_))
                      refine RS.op rfl (o_load_ptr rfl rfl (loadRow1 Ty.k3 (c := .int .i64 x8.Kind) rfl ?_))
                      refine RS.op rfl (OP.q rfl (v_eql rfl rfl ?_))
                      refine RS.nil ?_
                      refine T.cond (b := x8.Kind == 8) rfl (fun hb_491 => ?_) (fun hb_491 => ?_)
                      · replace h := ite_T h hb_491
                        refine T.region ?_
                        refine RS.op rfl (OP.q rfl (v_move (v := .int .i64 s3) rfl ?_))
                        refine RS.op rfl (OP.q rfl (v_add rfl rfl ?_))
                        refine RS.op rfl (OP.q rfl (v_assign (v := .int .i64 (IntKind.i64.wrap (s3 + 1))) rfl ?_))
                        refine RS.nil ?_
                        refine T.region ?_
                        refine RS.op rfl (OP.q rfl (v_add rfl rfl ?_))
                        refine RS.op rfl (OP.q rfl (v_move (v := .int .i64 (IntKind.i64.wrap (s4 + 1))) rfl ?_))
                        refine RS.nil ?_
                        exact ⟨(IntKind.i64.wrap (s3 + 1), IntKind.i64.wrap (s4 + 1), s40, s35), (Option.some.inj h).symm, Weak.mkN [] [0, 1, 2] (by decide) (none_kept _) rfl ⟨rn_ptr rfl, rn_mpr rfl, rn_mpr rfl, rn_int rfl, rn_sl encNode_p rfl, rn_int rfl, rn_int rfl, trivial⟩ (rw_box (cs := [.sl (List.map encNode p0.Nodes), .int .i64 p0.Rings, .int .i64 p0.Room]) (ds := [.sl (List.map encNode p0.Nodes), .int .i64 p0.Rings, .int .i64 p0.Room]) rfl ⟨rn_sl encNode_p rfl, rn_int rfl, rn_int rfl, trivial⟩ (rw_mp (ek := kI) (ev := kI) (ys := s40) rfl (fun _ => pure_int _ _) (fun _ => pure_int _ _) rfl (rw_mp (ek := kI) (ev := kI) (ys := s35) rfl (fun _ => pure_int _ _) (fun _ => pure_int _ _) rfl (rw_nil))))⟩
                      · replace h := ite_F h hb_491
                        refine T.skip ?_
                        refine T.region ?_
                        refine RS.op rfl (OP.q rfl (v_add rfl rfl ?_))
                        refine RS.op rfl (OP.q rfl (v_move (v := .int .i64 (IntKind.i64.wrap (s4 + 1))) rfl ?_))
                        refine RS.nil ?_
                        exact ⟨(s3, IntKind.i64.wrap (s4 + 1), s40, s35), (Option.some.inj h).symm, Weak.mkN [] [0, 1, 2] (by decide) (none_kept _) rfl ⟨rn_ptr rfl, rn_mpr rfl, rn_mpr rfl, rn_int rfl, rn_sl encNode_p rfl, rn_int rfl, rn_int rfl, trivial⟩ (rw_box (cs := [.sl (List.map encNode p0.Nodes), .int .i64 p0.Rings, .int .i64 p0.Room]) (ds := [.sl (List.map encNode p0.Nodes), .int .i64 p0.Rings, .int .i64 p0.Room]) rfl ⟨rn_sl encNode_p rfl, rn_int rfl, rn_int rfl, trivial⟩ (rw_mp (ek := kI) (ev := kI) (ys := s40) rfl (fun _ => pure_int _ _) (fun _ => pure_int _ _) rfl (rw_mp (ek := kI) (ev := kI) (ys := s35) rfl (fun _ => pure_int _ _) (fun _ => pure_int _ _) rfl (rw_nil))))⟩
              · refine T.region ?_
                refine RS.op rfl (OP.q rfl (v_fieldAddr_ptr Ty.f67_1 rfl (off' := 1) rfl ?_))
                refine RS.op rfl (o_load_ptr rfl rfl (loadRow1 Ty.k3 (c := .int .i64 x8.A) rfl ?_))
                refine RS.op rfl (OP.q rfl (v_lss rfl rfl ?_))
                refine RS.op rfl (OP.q rfl (v_move (v := .bool (decide (x8.A < 0))) rfl ?_))
                rcases bool_cases (decide (x8.A < 0)) with hb_437 | hb_437
                · refine RS.no rfl rfl rfl hb_437 ?_
                  refine RS.no rfl rfl rfl hb_437 ?_
                  refine RS.no rfl rfl rfl hb_437 ?_
                  refine RS.no rfl rfl rfl hb_437 ?_
                  refine RS.op rfl (OP.q rfl (v_pickT (v := .bool true) rfl hb_437 rfl ?_))
                  refine RS.nil ?_
                  exact T.weakR (hK () trivial) (Weak.mkN [] [0, 1, 2, 3] (by decide) (none_kept _) rfl ⟨rn_ptr rfl, rn_mpr rfl, rn_mpr rfl, rn_int rfl, rn_int rfl, rn_ptr rfl, rn_sl encNode_p rfl, rn_int rfl, rn_int rfl, rn_bool (by simp only [hb_437, Bool.true_or, Bool.or_true, Bool.false_or, Bool.or_false, Bool.true_and, Bool.and_true, Bool.false_and, Bool.and_false, Bool.not_true, Bool.not_false, if_true, if_false, Bool.false_eq_true, reduceIte]), trivial⟩ (rw_box (cs := [.sl (List.map encNode p0.Nodes), .int .i64 p0.Rings, .int .i64 p0.Room]) (ds := [.sl (List.map encNode p0.Nodes), .int .i64 p0.Rings, .int .i64 p0.Room]) rfl ⟨rn_sl encNode_p rfl, rn_int rfl, rn_int rfl, trivial⟩ (rw_mp (ek := kI) (ev := kI) (ys := s5) rfl (fun _ => pure_int _ _) (fun _ => pure_int _ _) rfl (rw_mp (ek := kI) (ev := kI) (ys := s6) rfl (fun _ => pure_int _ _) (fun _ => pure_int _ _) rfl (rw_box (cs := [.int .i64 x8.Kind, .int .i64 x8.A, .sl (List.map encI x8.In), .sl (List.map encI x8.Out)]) (ds := [.int .i64 x8.Kind, .int .i64 x8.A, .sl (List.map encI x8.In), .sl (List.map encI x8.Out)]) rfl ⟨rn_int rfl, rn_int rfl, rn_sl encI_p rfl, rn_sl encI_p rfl, trivial⟩ (rw_nil))))))
                · refine RS.yes rfl rfl rfl hb_437 (OP.q rfl (v_fieldAddr_ptr Ty.f67_1 rfl (off' := 1) rfl ?_))
                  refine RS.yes rfl rfl rfl hb_437 (o_load_ptr rfl rfl (loadRow1 Ty.k3 (c := .int .i64 x8.A) rfl ?_))
                  refine RS.yes rfl rfl rfl hb_437 (OP.q rfl (v_move (v := .int .i64 ((mget x8.Kind (mset 2 3 (mset 1 3 ([] : List (Int × Int))))).getD 0)) rfl ?_))
                  refine RS.yes rfl rfl rfl hb_437 (OP.q rfl (v_gtr rfl rfl ?_))
                  refine RS.op rfl (OP.q rfl (v_pickF (v := .bool (decide (x8.A > ((mget x8.Kind (mset 2 3 (mset 1 3 ([] : List (Int × Int))))).getD 0)))) rfl hb_437 rfl ?_))
                  refine RS.nil ?_
                  exact T.weakR (hK () trivial) (Weak.mkN [] [0, 1, 2, 3] (by decide) (none_kept _) rfl ⟨rn_ptr rfl, rn_mpr rfl, rn_mpr rfl, rn_int rfl, rn_int rfl, rn_ptr rfl, rn_sl encNode_p rfl, rn_int rfl, rn_int rfl, rn_bool (by simp only [hb_437, Bool.true_or, Bool.or_true, Bool.false_or, Bool.or_false, Bool.true_and, Bool.and_true, Bool.false_and, Bool.and_false, Bool.not_true, Bool.not_false, if_true, if_false, Bool.false_eq_true, reduceIte]), trivial⟩ (rw_box (cs := [.sl (List.map encNode p0.Nodes), .int .i64 p0.Rings, .int .i64 p0.Room]) (ds := [.sl (List.map encNode p0.Nodes), .int .i64 p0.Rings, .int .i64 p0.Room]) rfl ⟨rn_sl encNode_p rfl, rn_int rfl, rn_int rfl, trivial⟩ (rw_mp (ek := kI) (ev := kI) (ys := s5) rfl (fun _ => pure_int _ _) (fun _ => pure_int _ _) rfl (rw_mp (ek := kI) (ev := kI) (ys := s6) rfl (fun _ => pure_int _ _) (fun _ => pure_int _ _) rfl (rw_box (cs := [.int .i64 x8.Kind, .int .i64 x8.A, .sl (List.map encI x8.In), .sl (List.map encI x8.Out)]) (ds := [.int .i64 x8.Kind, .int .i64 x8.A, .sl (List.map encI x8.In), .sl (List.map encI x8.Out)]) rfl ⟨rn_int rfl, rn_int rfl, rn_sl encI_p rfl, rn_sl encI_p rfl, trivial⟩ (rw_nil))))))
            · refine T.seq ?_
              refine T.region ?_
              refine RS.op rfl (o_makeMap rfl (aw' := [.box [.sl (List.map encNode p0.Nodes), .int .i64 p0.Rings, .int .i64 p0.Room], .mp (List.map kI (List.map Prod.fst s5)) (List.map kI (List.map Prod.snd s5)), .mp (List.map kI (List.map Prod.fst s6)) (List.map kI (List.map Prod.snd s6)), .box [.int .i64 x8.Kind, .int .i64 x8.A, .sl (List.map encI x8.In), .sl (List.map encI x8.Out)], .mp (List.map kI []) []]) rfl ?_)
              refine RS.op rfl (OP.q rfl (v_move (v := .func 74 []) rfl ?_))
              refine RS.op rfl (OP.q rfl (v_move (v := .func 72 []) rfl ?_))
              refine RS.op rfl (OP.q rfl (v_build (cs := [.func 74 [], .func 72 []]) Ty.z126 Ty.p126 rfl ?_))
              refine RS.op rfl (o_mapPut_av (ek := kI) (ks := []) (vs := []) (k := 1) (a := .agg [.func 74 [], .func 72 []]) (o2 := .mp (List.map kI [1]) [.agg [.func 74 [], .func 72 []]]) (.inr rfl) Try.underlying128 (KeyT.int Try.underlying3) rfl rfl rfl rfl rfl (aw' := [.box [.sl (List.map encNode p0.Nodes), .int .i64 p0.Rings, .int .i64 p0.Room], .mp (List.map kI (List.map Prod.fst s5)) (List.map kI (List.map Prod.snd s5)), .mp (List.map kI (List.map Prod.fst s6)) (List.map kI (List.map Prod.snd s6)), .box [.int .i64 x8.Kind, .int .i64 x8.A, .sl (List.map encI x8.In), .sl (List.map encI x8.Out)], .mp (List.map kI [1]) [.agg [.func 74 [], .func 72 []]]]) rfl ?_)
              refine RS.op rfl (OP.q rfl (v_move (v := .func 72 []) rfl ?_))
              refine RS.op rfl (OP.q rfl (v_move (v := .func 72 []) rfl ?_))
              refine RS.op rfl (OP.q rfl (v_build (cs := [.func 72 [], .func 72 []]) Ty.z126 Ty.p126 rfl ?_))
              refine RS.op rfl (o_mapPut_av (ek := kI) (ks := [1]) (vs := [.agg [.func 74 [], .func 72 []]]) (k := 2) (a := .agg [.func 72 [], .func 72 []]) (o2 := .mp (List.map kI [1, 2]) [.agg [.func 74 [], .func 72 []], .agg [.func 72 [], .func 72 []]]) (.inr rfl) Try.underlying128 (KeyT.int Try.underlying3) rfl rfl rfl rfl rfl (aw' := [.box [.sl (List.map encNode p0.Nodes), .int .i64 p0.Rings, .int .i64 p0.Room], .mp (List.map kI (List.map Prod.fst s5)) (List.map kI (List.map Prod.snd s5)), .mp (List.map kI (List.map Prod.fst s6)) (List.map kI (List.map Prod.snd s6)), .box [.int .i64 x8.Kind, .int .i64 x8.A, .sl (List.map encI x8.In), .sl (List.map encI x8.Out)], .mp (List.map kI [1, 2]) [.agg [.func 74 [], .func 72 []], .agg [.func 72 [], .func 72 []]]]) rfl ?_)
              refine RS.op rfl (OP.q rfl (v_move (v := .func 72 []) rfl ?_))
              refine RS.op rfl (OP.q rfl (v_move (v := .func 72 []) rfl ?_))
              refine RS.op rfl (OP.q rfl (v_build (cs := [.func 72 [], .func 72 []]) Ty.z126 Ty.p126 rfl ?_))
              refine RS.op rfl (o_mapPut_av (ek := kI) (ks := [1, 2]) (vs := [.agg [.func 74 [], .func 72 []], .agg [.func 72 [], .func 72 []]]) (k := 3) (a := .agg [.func 72 [], .func 72 []]) (o2 := .mp (List.map kI [1, 2, 3]) [.agg [.func 74 [], .func 72 []], .agg [.func 72 [], .func 72 []], .agg [.func 72 [], .func 72 []]]) (.inr rfl) Try.underlying128 (KeyT.int Try.underlying3) rfl rfl rfl rfl rfl (aw' := [.box [.sl (List.map encNode p0.Nodes), .int .i64 p0.Rings, .int .i64 p0.Room], .mp (List.map kI (List.map Prod.fst s5)) (List.map kI (List.map Prod.snd s5)), .mp (List.map kI (List.map Prod.fst s6)) (List.map kI (List.map Prod.snd s6)), .box [.int .i64 x8.Kind, .int .i64 x8.A, .sl (List.map encI x8.In), .sl (List.map encI x8.Out)], .mp (List.map kI [1, 2, 3]) [.agg [.func 74 [], .func 72 []], .agg [.func 72 [], .func 72 []], .agg [.func 72 [], .func 72 []]]]) rfl ?_)
              refine RS.op rfl (OP.q rfl (v_move (v := .func 72 []) rfl ?_))
              refine RS.op rfl (OP.q rfl (v_move (v := .func 72 []) rfl ?_))
              refine RS.op rfl (OP.q rfl (v_build (cs := [.func 72 [], .func 72 []]) Ty.z126 Ty.p126 rfl ?_))
              refine RS.op rfl (o_mapPut_av (ek := kI) (ks := [1, 2, 3]) (vs := [.agg [.func 74 [], .func 72 []], .agg [.func 72 [], .func 72 []], .agg [.func 72 [], .func 72 []]]) (k := 4) (a := .agg [.func 72 [], .func 72 []]) (o2 := .mp (List.map kI [1, 2, 3, 4]) [.agg [.func 74 [], .func 72 []], .agg [.func 72 [], .func 72 []], .agg [.func 72 [], .func 72 []], .agg [.func 72 [], .func 72 []]]) (.inr rfl) Try.underlying128 (KeyT.int Try.underlying3) rfl rfl rfl rfl rfl (aw' := [.box [.sl (List.map encNode p0.Nodes), .int .i64 p0.Rings, .int .i64 p0.Room], .mp (List.map kI (List.map Prod.fst s5)) (List.map kI (List.map Prod.snd s5)), .mp (List.map kI (List.map Prod.fst s6)) (List.map kI (List.map Prod.snd s6)), .box [.int .i64 x8.Kind, .int .i64 x8.A, .sl (List.map encI x8.In), .sl (List.map encI x8.Out)], .mp (List.map kI [1, 2, 3, 4]) [.agg [.func 74 [], .func 72 []], .agg [.func 72 [], .func 72 []], .agg [.func 72 [], .func 72 []], .agg [.func 72 [], .func 72 []]]]) rfl ?_)
              refine RS.op rfl (OP.q rfl (v_move (v := .func 72 []) rfl ?_))
              refine RS.op rfl (OP.q rfl (v_move (v := .func 73 []) rfl ?_))
              refine RS.op rfl (OP.q rfl (v_build (cs := [.func 72 [], .func 73 []]) Ty.z126 Ty.p126 rfl ?_))
              refine RS.op rfl (o_mapPut_av (ek := kI) (ks := [1, 2, 3, 4]) (vs := [.agg [.func 74 [], .func 72 []], .agg [.func 72 [], .func 72 []], .agg [.func 72 [], .func 72 []], .agg [.func 72 [], .func 72 []]]) (k := 5) (a := .agg [.func 72 [], .func 73 []]) (o2 := .mp (List.map kI [1, 2, 3, 4, 5]) [.agg [.func 74 [], .func 72 []], .agg [.func 72 [], .func 72 []], .agg [.func 72 [], .func 72 []], .agg [.func 72 [], .func 72 []], .agg [.func 72 [], .func 73 []]]) (.inr rfl) Try.underlying128 (KeyT.int Try.underlying3) rfl rfl rfl rfl rfl (aw' := [.box [.sl (List.map encNode p0.Nodes), .int .i64 p0.Rings, .int .i64 p0.Room], .mp (List.map kI (List.map Prod.fst s5)) (List.map kI (List.map Prod.snd s5)), .mp (List.map kI (List.map Prod.fst s6)) (List.map kI (List.map Prod.snd s6)), .box [.int .i64 x8.Kind, .int .i64 x8.A, .sl (List.map encI x8.In), .sl (List.map encI x8.Out)], .mp (List.map kI [1, 2, 3, 4, 5]) [.agg [.func 74 [], .func 72 []], .agg [.func 72 [], .func 72 []], .agg [.func 72 [], .func 72 []], .agg [.func 72 [], .func 72 []], .agg [.func 72 [], .func 73 []]]]) rfl ?_)
              refine RS.op rfl (OP.q rfl (v_move (v := .func 72 []) rfl ?_))
              refine RS.op rfl (OP.q rfl (v_move (v := .func 73 []) rfl ?_))
              refine RS.op rfl (OP.q rfl (v_build (cs := [.func 72 [], .func 73 []]) Ty.z126 Ty.p126 rfl ?_))
              refine RS.op rfl (o_mapPut_av (ek := kI) (ks := [1, 2, 3, 4, 5]) (vs := [.agg [.func 74 [], .func 72 []], .agg [.func 72 [], .func 72 []], .agg [.func 72 [], .func 72 []], .agg [.func 72 [], .func 72 []], .agg [.func 72 [], .func 73 []]]) (k := 7) (a := .agg [.func 72 [], .func 73 []]) (o2 := .mp (List.map kI [1, 2, 3, 4, 5, 7]) [.agg [.func 74 [], .func 72 []], .agg [.func 72 [], .func 72 []], .agg [.func 72 [], .func 72 []], .agg [.func 72 [], .func 72 []], .agg [.func 72 [], .func 73 []], .agg [.func 72 [], .func 73 []]]) (.inr rfl) Try.underlying128 (KeyT.int Try.underlying3) rfl rfl rfl rfl rfl (aw' := [.box [.sl (List.map encNode p0.Nodes), .int .i64 p0.Rings, .int .i64 p0.Room], .mp (List.map kI (List.map Prod.fst s5)) (List.map kI (List.map Prod.snd s5)), .mp (List.map kI (List.map Prod.fst s6)) (List.map kI (List.map Prod.snd s6)), .box [.int .i64 x8.Kind, .int .i64 x8.A, .sl (List.map encI x8.In), .sl (List.map encI x8.Out)], .mp (List.map kI [1, 2, 3, 4, 5, 7]) [.agg [.func 74 [], .func 72 []], .agg [.func 72 [], .func 72 []], .agg [.func 72 [], .func 72 []], .agg [.func 72 [], .func 72 []], .agg [.func 72 [], .func 73 []], .agg [.func 72 [], .func 73 []]]]) rfl ?_)
              refine RS.op rfl (OP.q rfl (v_move (v := .func 73 []) rfl ?_))
              refine RS.op rfl (OP.q rfl (v_move (v := .func 72 []) rfl ?_))
              refine RS.op rfl (OP.q rfl (v_build (cs := [.func 73 [], .func 72 []]) Ty.z126 Ty.p126 rfl ?_))
              refine RS.op rfl (o_mapPut_av (ek := kI) (ks := [1, 2, 3, 4, 5, 7]) (vs := [.agg [.func 74 [], .func 72 []], .agg [.func 72 [], .func 72 []], .agg [.func 72 [], .func 72 []], .agg [.func 72 [], .func 72 []], .agg [.func 72 [], .func 73 []], .agg [.func 72 [], .func 73 []]]) (k := 6) (a := .agg [.func 73 [], .func 72 []]) (o2 := .mp (List.map kI [1, 2, 3, 4, 5, 7, 6]) [.agg [.func 74 [], .func 72 []], .agg [.func 72 [], .func 72 []], .agg [.func 72 [], .func 72 []], .agg [.func 72 [], .func 72 []], .agg [.func 72 [], .func 73 []], .agg [.func 72 [], .func 73 []], .agg [.func 73 [], .func 72 []]]) (.inr rfl) Try.underlying128 (KeyT.int Try.underlying3) rfl rfl rfl rfl rfl (aw' := [.box [.sl (List.map encNode p0.Nodes), .int .i64 p0.Rings, .int .i64 p0.Room], .mp (List.map kI (List.map Prod.fst s5)) (List.map kI (List.map Prod.snd s5)), .mp (List.map kI (List.map Prod.fst s6)) (List.map kI (List.map Prod.snd s6)), .box [.int .i64 x8.Kind, .int .i64 x8.A, .sl (List.map encI x8.In), .sl (List.map encI x8.Out)], .mp (List.map kI [1, 2, 3, 4, 5, 7, 6]) [.agg [.func 74 [], .func 72 []], .agg [.func 72 [], .func 72 []], .agg [.func 72 [], .func 72 []], .agg [.func 72 [], .func 72 []], .agg [.func 72 [], .func 73 []], .agg [.func 72 [], .func 73 []], .agg [.func 73 [], .func 72 []]]]) rfl ?_)
              refine RS.op rfl (OP.q rfl (v_move (v := .func 72 []) rfl ?_))
              refine RS.op rfl (OP.q rfl (v_move (v := .func 74 []) rfl ?_))
              refine RS.op rfl (OP.q rfl (v_build (cs := [.func 72 [], .func 74 []]) Ty.z126 Ty.p126 rfl ?_))
              refine RS.op rfl (o_mapPut_av (ek := kI) (ks := [1, 2, 3, 4, 5, 7, 6]) (vs := [.agg [.func 74 [], .func 72 []], .agg [.func 72 [], .func 72 []], .agg [.func 72 [], .func 72 []], .agg [.func 72 [], .func 72 []], .agg [.func 72 [], .func 73 []], .agg [.func 72 [], .func 73 []], .agg [.func 73 [], .func 72 []]]) (k := 8) (a := .agg [.func 72 [], .func 74 []]) (o2 := .mp (List.map kI [1, 2, 3, 4, 5, 7, 6, 8]) [.agg [.func 74 [], .func 72 []], .agg [.func 72 [], .func 72 []], .agg [.func 72 [], .func 72 []], .agg [.func 72 [], .func 72 []], .agg [.func 72 [], .func 73 []], .agg [.func 72 [], .func 73 []], .agg [.func 73 [], .func 72 []], .agg [.func 72 [], .func 74 []]]) (.inr rfl) Try.underlying128 (KeyT.int Try.underlying3) rfl rfl rfl rfl rfl (aw' := [.box [.sl (List.map encNode p0.Nodes), .int .i64 p0.Rings, .int .i64 p0.Room], .mp (List.map kI (List.map Prod.fst s5)) (List.map kI (List.map Prod.snd s5)), .mp (List.map kI (List.map Prod.fst s6)) (List.map kI (List.map Prod.snd s6)), .box [.int .i64 x8.Kind, .int .i64 x8.A, .sl (List.map encI x8.In), .sl (List.map encI x8.Out)], .mp (List.map kI [1, 2, 3, 4, 5, 7, 6, 8]) [.agg [.func 74 [], .func 72 []], .agg [.func 72 [], .func 72 []], .agg [.func 72 [], .func 72 []], .agg [.func 72 [], .func 72 []], .agg [.func 72 [], .func 73 []], .agg [.func 72 [], .func 73 []], .agg [.func 73 [], .func 72 []], .agg [.func 72 [], .func 74 []]]]) rfl ?_)
              refine RS.op rfl (OP.q rfl (v_move (v := .mpr 4) rfl ?_))
              refine RS.op rfl (OP.q rfl (v_fieldAddr_ptr Ty.f67_0 rfl (off' := 0) rfl ?_))
              refine RS.op rfl (o_load_ptr rfl rfl (loadRow1 Ty.k3 (c := .int .i64 x8.Kind) rfl ?_))
              rcases bool_cases (x8.Kind == 1) with hb_500 | hb_500
              · replace h := ite_T h hb_500
                refine RS.op rfl (o_lookup_st_ok (ek := kI) (ks := [1, 2, 3, 4, 5, 7, 6, 8]) (vs := [.agg [.func 74 [], .func 72 []], .agg [.func 72 [], .func 72 []], .agg [.func 72 [], .func 72 []], .agg [.func 72 [], .func 72 []], .agg [.func 72 [], .func 73 []], .agg [.func 72 [], .func 73 []], .agg [.func 73 [], .func 72 []], .agg [.func 72 [], .func 74 []]]) (k := x8.Kind) (az := .agg [.nilf, .nilf]) (a := .agg [.func 74 [], .func 72 []]) (r := (some 0)) Try.underlying128 (KeyT.int Try.underlying3) Ty.w126 (fun _ _ _ => rel_agg (vs := [.nilFunc, .nilFunc]) (.cons (.nilf) (.cons (.nilf) (.nil))) rfl) rfl rfl rfl (kix_eq (eq_of_beq hb_500)) rfl ?_)
                refine RS.op rfl (OP.q rfl (v_move (v := .tup [.agg [.func 74 [], .func 72 []], .bool true]) rfl ?_))
                refine RS.op rfl (OP.q rfl (v_extract (v := .agg [.func 74 [], .func 72 []]) rfl rfl ?_))
                refine RS.op rfl (OP.q rfl (v_extract (v := .bool true) rfl rfl ?_))
                refine RS.op rfl (o_alloc Ty.z126 rfl (aw' := [.box [.sl (List.map encNode p0.Nodes), .int .i64 p0.Rings, .int .i64 p0.Room], .mp (List.map kI (List.map Prod.fst s5)) (List.map kI (List.map Prod.snd s5)), .mp (List.map kI (List.map Prod.fst s6)) (List.map kI (List.map Prod.snd s6)), .box [.int .i64 x8.Kind, .int .i64 x8.A, .sl (List.map encI x8.In), .sl (List.map encI x8.Out)], .mp (List.map kI [1, 2, 3, 4, 5, 7, 6, 8]) [.agg [.func 74 [], .func 72 []], .agg [.func 72 [], .func 72 []], .agg [.func 72 [], .func 72 []], .agg [.func 72 [], .func 72 []], .agg [.func 72 [], .func 73 []], .agg [.func 72 [], .func 73 []], .agg [.func 73 [], .func 72 []], .agg [.func 72 [], .func 74 []]], .box [.nilf, .nilf]]) rfl ?_)
                refine RS.op rfl (o_store_ptr Ty.c126 Ty.i126 rfl (vs := [.func 74 [], .func 72 []]) rfl rfl rfl rfl (cs' := [.func 74 [], .func 72 []]) rfl (aw' := [.box [.sl (List.map encNode p0.Nodes), .int .i64 p0.Rings, .int .i64 p0.Room], .mp (List.map kI (List.map Prod.fst s5)) (List.map kI (List.map Prod.snd s5)), .mp (List.map kI (List.map Prod.fst s6)) (List.map kI (List.map Prod.snd s6)), .box [.int .i64 x8.Kind, .int .i64 x8.A, .sl (List.map encI x8.In), .sl (List.map encI x8.Out)], .mp (List.map kI [1, 2, 3, 4, 5, 7, 6, 8]) [.agg [.func 74 [], .func 72 []], .agg [.func 72 [], .func 72 []], .agg [.func 72 [], .func 72 []], .agg [.func 72 [], .func 72 []], .agg [.func 72 [], .func 73 []], .agg [.func 72 [], .func 73 []], .agg [.func 73 [], .func 72 []], .agg [.func 72 [], .func 74 []]], .box [.func 74 [], .func 72 []]]) rfl ?_)
                refine RS.op rfl (OP.q rfl (v_assign (v := .bool true) rfl ?_))
                refine RS.nil ?_
                refine T.seq ?_
                refine T.seq ?_
                refine T.region ?_
                refine RS.op rfl (OP.q rfl (v_move (v := .bool true) rfl ?_))
                refine RS.op rfl (OP.q rfl (v_not rfl ?_))
                refine RS.nil ?_
                refine T.cond (b := false) rfl (fun hb => ?_) (fun hb => ?_)
                · cases hb
                · refine T.skip ?_
                  refine T.seq ?_
                  obtain ⟨x9, hx9, h⟩ := bind_some h
                  obtain ⟨zt_509, hz, h⟩ := bind_some h
                  revert hz h; revert zt_509; intro c11 hz h
                  refine T.join (Z := Unit) (fun _ => mkA 249 [(1, .ptr 0 0), (4, .mpr 1), (5, .mpr 2), (6, .int .i64 s3), (7, .int .i64 s4), (8, .ptr 3 0), (60, .sl (List.map encNode p0.Nodes)), (61, .int .i64 ((p0.Nodes).length : Int)), (62, .int .i64 s4), (116, .bool c11)]) (fun _ => [.box [.sl (List.map encNode p0.Nodes), .int .i64 p0.Rings, .int .i64 p0.Room], .mp (List.map kI (List.map Prod.fst s5)) (List.map kI (List.map Prod.snd s5)), .mp (List.map kI (List.map Prod.fst s6)) (List.map kI (List.map Prod.snd s6)), .box [.int .i64 x8.Kind, .int .i64 x8.A, .sl (List.map encI x8.In), .sl (List.map encI x8.Out)]]) (fun _ => True) (fun _ _ => ?_) (fun hK => ?_)
                  · show T _ _ _ _ (mkA 249 [(1, .ptr 0 0), (4, .mpr 1), (5, .mpr 2), (6, .int .i64 s3), (7, .int .i64 s4), (8, .ptr 3 0), (60, .sl (List.map encNode p0.Nodes)), (61, .int .i64 ((p0.Nodes).length : Int)), (62, .int .i64 s4), (116, .bool c11)]) [.box [.sl (List.map encNode p0.Nodes), .int .i64 p0.Rings, .int .i64 p0.Room], .mp (List.map kI (List.map Prod.fst s5)) (List.map kI (List.map Prod.snd s5)), .mp (List.map kI (List.map Prod.fst s6)) (List.map kI (List.map Prod.snd s6)), .box [.int .i64 x8.Kind, .int .i64 x8.A, .sl (List.map encI x8.In), .sl (List.map encI x8.Out)]]
                    refine T.cond (b := c11) rfl (fun hb_510 => ?_) (fun hb_510 => ?_)
                    · replace h := ite_T h hb_510
                      refine T.seq ?_
                      refine T.region ?_
                      refine RS.op rfl (OP.q rfl (v_assign (v := .nils) rfl ?_))
                      refine RS.op rfl (OP.q rfl (v_assign (v := .int .i64 4) rfl ?_))
                      refine RS.nil ?_
                      refine T.ret' (R := ?R511) ?hq511 ?_
                      case hq511 => repeat (first | exact RetIs.base | refine RetIs.thn ?_ | refine RetIs.blk ?_ | refine RetIs.lq ?_)
                      obtain ⟨w_512, h, hw_512⟩ := map_inr h
                      replace h := h.trans (congrArg some (hv_360 _ hw_512))
                      refine res_tmpA (v := .nils) rfl ?_
                      refine res_tmpA (v := .int .i64 4) rfl ?_
                      refine res_done ?_
                      exact ret_own (.tup [.ref 0, .int .i64 r.2]) [(0, 3, 1)] [4] (by decide) (none_kept _) rfl (rn_tup ⟨rn_ref rfl, rn_int (congrArg (fun r : (List Int) × Int => r.2) (Option.some.inj h)).symm, trivial⟩) (rw_arr (en := encI) (ys := []) rfl encI_p (congrArg (fun r : (List Int) × Int => r.1) (Option.some.inj h)).symm (rw_nil)) ⟨rfl, rfl⟩
                    · replace h := ite_F h hb_510
                      refine T.skip ?_
                      exact T.weakR (hK3 () h) (Weak.mkN [] [0, 1, 2, 3] (by decide) (none_kept _) rfl ⟨rn_ptr rfl, rn_mpr rfl, rn_mpr rfl, rn_int rfl, rn_int rfl, rn_ptr rfl, rn_sl encNode_p rfl, rn_int rfl, rn_int rfl, trivial⟩ (rw_box (cs := [.sl (List.map encNode p0.Nodes), .int .i64 p0.Rings, .int .i64 p0.Room]) (ds := [.sl (List.map encNode p0.Nodes), .int .i64 p0.Rings, .int .i64 p0.Room]) rfl ⟨rn_sl encNode_p rfl, rn_int rfl, rn_int rfl, trivial⟩ (rw_mp (ek := kI) (ev := kI) (ys := s5) rfl (fun _ => pure_int _ _) (fun _ => pure_int _ _) rfl (rw_mp (ek := kI) (ev := kI) (ys := s6) rfl (fun _ => pure_int _ _) (fun _ => pure_int _ _) rfl (rw_box (cs := [.int .i64 x8.Kind, .int .i64 x8.A, .sl (List.map encI x8.In), .sl (List.map encI x8.Out)]) (ds := [.int .i64 x8.Kind, .int .i64 x8.A, .sl (List.map encI x8.In), .sl (List.map encI x8.Out)]) rfl ⟨rn_int rfl, rn_int rfl, rn_sl encI_p rfl, rn_sl encI_p rfl, trivial⟩ (rw_nil))))))
                  · refine T.region ?_
                    refine RS.op rfl (OP.q rfl (v_fieldAddr_ptr Ty.f126_0 rfl (off' := 0) rfl ?_))
                    refine RS.op rfl (o_load_ptr rfl rfl (loadRow1 Ty.k122 (c := .func 74 []) rfl ?_))
                    refine RS.op rfl (OP.q rfl (v_fieldAddr_ptr Ty.f67_2 rfl (off' := 2) rfl ?_))
                    refine RS.op rfl (o_load_ptr rfl rfl (loadRow1 Ty.k57 (c := .sl (List.map encI x8.In)) rfl ?_))
                    refine RS.op rfl (OP.q rfl (v_len_sl Ty.s57 rfl ?_))
                    refine RS.op rfl (o_call (as0 := [.int .i64 ((x8.In).length : Int)]) (as1 := [.int .i64 ((x8.In).length : Int)]) (caps := []) (aw1 := [.box [.sl (List.map encNode p0.Nodes), .int .i64 p0.Rings, .int .i64 p0.Room], .mp (List.map kI (List.map Prod.fst s5)) (List.map kI (List.map Prod.snd s5)), .mp (List.map kI (List.map Prod.fst s6)) (List.map kI (List.map Prod.snd s6)), .box [.int .i64 x8.Kind, .int .i64 x8.A, .sl (List.map encI x8.In), .sl (List.map encI x8.Out)], .mp (List.map kI [1, 2, 3, 4, 5, 7, 6, 8]) [.agg [.func 74 [], .func 72 []], .agg [.func 72 [], .func 72 []], .agg [.func 72 [], .func 72 []], .agg [.func 72 [], .func 72 []], .agg [.func 72 [], .func 73 []], .agg [.func 72 [], .func 73 []], .agg [.func 73 [], .func 72 []], .agg [.func 72 [], .func 74 []]], .box [.func 74 [], .func 72 []]]) rfl rfl rfl (k_flat (v := .bool x9) (crossref_CheckNet_3_c ((x8.In).length : Int) x9 hx9) (⟨pure_int _ _, trivial⟩) rfl ?_))
                    refine RS.op rfl (OP.q rfl (v_not rfl ?_))
                    refine RS.op rfl (OP.q rfl (v_move (v := .bool (!x9)) rfl ?_))
                    rcases bool_cases (!x9) with hb_508 | hb_508
                    · replace hz := ite_T hz hb_508
                      refine RS.no rfl rfl rfl hb_508 ?_
                      refine RS.no rfl rfl rfl hb_508 ?_
                      refine RS.no rfl rfl rfl hb_508 ?_
                      refine RS.no rfl rfl rfl hb_508 ?_
                      refine RS.no rfl rfl rfl hb_508 ?_
                      refine RS.no rfl rfl rfl hb_508 ?_
                      refine RS.no rfl rfl rfl hb_508 ?_
                      refine RS.op rfl (OP.q rfl (v_pickT (v := .bool true) rfl hb_508 rfl ?_))
                      refine RS.nil ?_
                      exact T.weakR (hK () trivial) (Weak.mkN [] [0, 1, 2, 3] (by decide) (none_kept _) rfl ⟨rn_ptr rfl, rn_mpr rfl, rn_mpr rfl, rn_int rfl, rn_int rfl, rn_ptr rfl, rn_sl encNode_p rfl, rn_int rfl, rn_int rfl, rn_bool ((congrArg (fun p => p) (Option.some.inj hz)).symm), trivial⟩ (rw_box (cs := [.sl (List.map encNode p0.Nodes), .int .i64 p0.Rings, .int .i64 p0.Room]) (ds := [.sl (List.map encNode p0.Nodes), .int .i64 p0.Rings, .int .i64 p0.Room]) rfl ⟨rn_sl encNode_p rfl, rn_int rfl, rn_int rfl, trivial⟩ (rw_mp (ek := kI) (ev := kI) (ys := s5) rfl (fun _ => pure_int _ _) (fun _ => pure_int _ _) rfl (rw_mp (ek := kI) (ev := kI) (ys := s6) rfl (fun _ => pure_int _ _) (fun _ => pure_int _ _) rfl (rw_box (cs := [.int .i64 x8.Kind, .int .i64 x8.A, .sl (List.map encI x8.In), .sl (List.map encI x8.Out)]) (ds := [.int .i64 x8.Kind, .int .i64 x8.A, .sl (List.map encI x8.In), .sl (List.map encI x8.Out)]) rfl ⟨rn_int rfl, rn_int rfl, rn_sl encI_p rfl, rn_sl encI_p rfl, trivial⟩ (rw_nil))))))
                    · replace hz := ite_F hz hb_508
                      obtain ⟨x10, hx10, hz⟩ := bind_some hz
                      refine RS.yes rfl rfl rfl hb_508 (OP.q rfl (v_fieldAddr_ptr Ty.f126_1 rfl (off' := 1) rfl ?_))
                      refine RS.yes rfl rfl rfl hb_508 (o_load_ptr rfl rfl (loadRow1 Ty.k122 (c := .func 72 []) rfl ?_))
                      refine RS.yes rfl rfl rfl hb_508 (OP.q rfl (v_fieldAddr_ptr Ty.f67_3 rfl (off' := 3) rfl ?_))
                      refine RS.yes rfl rfl rfl hb_508 (o_load_ptr rfl rfl (loadRow1 Ty.k57 (c := .sl (List.map encI x8.Out)) rfl ?_))
                      refine RS.yes rfl rfl rfl hb_508 (OP.q rfl (v_len_sl Ty.s57 rfl ?_))
                      refine RS.yes rfl rfl rfl hb_508 (o_call (as0 := [.int .i64 ((x8.Out).length : Int)]) (as1 := [.int .i64 ((x8.Out).length : Int)]) (caps := []) (aw1 := [.box [.sl (List.map encNode p0.Nodes), .int .i64 p0.Rings, .int .i64 p0.Room], .mp (List.map kI (List.map Prod.fst s5)) (List.map kI (List.map Prod.snd s5)), .mp (List.map kI (List.map Prod.fst s6)) (List.map kI (List.map Prod.snd s6)), .box [.int .i64 x8.Kind, .int .i64 x8.A, .sl (List.map encI x8.In), .sl (List.map encI x8.Out)], .mp (List.map kI [1, 2, 3, 4, 5, 7, 6, 8]) [.agg [.func 74 [], .func 72 []], .agg [.func 72 [], .func 72 []], .agg [.func 72 [], .func 72 []], .agg [.func 72 [], .func 72 []], .agg [.func 72 [], .func 73 []], .agg [.func 72 [], .func 73 []], .agg [.func 73 [], .func 72 []], .agg [.func 72 [], .func 74 []]], .box [.func 74 [], .func 72 []]]) rfl rfl rfl (k_flat (v := .bool x10) (crossref_CheckNet_1_c ((x8.Out).length : Int) x10 hx10) (⟨pure_int _ _, trivial⟩) rfl ?_))
                      refine RS.yes rfl rfl rfl hb_508 (OP.q rfl (v_not rfl ?_))
                      refine RS.op rfl (OP.q rfl (v_pickF (v := .bool (!x10)) rfl hb_508 rfl ?_))
                      refine RS.nil ?_
                      exact T.weakR (hK () trivial) (Weak.mkN [] [0, 1, 2, 3] (by decide) (none_kept _) rfl ⟨rn_ptr rfl, rn_mpr rfl, rn_mpr rfl, rn_int rfl, rn_int rfl, rn_ptr rfl, rn_sl encNode_p rfl, rn_int rfl, rn_int rfl, rn_bool ((congrArg (fun p => p) (Option.some.inj hz)).symm), trivial⟩ (rw_box (cs := [.sl (List.map encNode p0.Nodes), .int .i64 p0.Rings, .int .i64 p0.Room]) (ds := [.sl (List.map encNode p0.Nodes), .int .i64 p0.Rings, .int .i64 p0.Room]) rfl ⟨rn_sl encNode_p rfl, rn_int rfl, rn_int rfl, trivial⟩ (rw_mp (ek := kI) (ev := kI) (ys := s5) rfl (fun _ => pure_int _ _) (fun _ => pure_int _ _) rfl (rw_mp (ek := kI) (ev := kI) (ys := s6) rfl (fun _ => pure_int _ _) (fun _ => pure_int _ _) rfl (rw_box (cs := [.int .i64 x8.Kind, .int .i64 x8.A, .sl (List.map encI x8.In), .sl (List.map encI x8.Out)]) (ds := [.int .i64 x8.Kind, .int .i64 x8.A, .sl (List.map encI x8.In), .sl (List.map encI x8.Out)]) rfl ⟨rn_int rfl, rn_int rfl, rn_sl encI_p rfl, rn_sl encI_p rfl, trivial⟩ (rw_nil))))))
              · replace h := ite_F h hb_500
                rcases bool_cases (x8.Kind == 2) with hb_501 | hb_501
                · replace h := ite_T h hb_501
                  refine RS.op rfl (o_lookup_st_ok (ek := kI) (ks := [1, 2, 3, 4, 5, 7, 6, 8]) (vs := [.agg [.func 74 [], .func 72 []], .agg [.func 72 [], .func 72 []], .agg [.func 72 [], .func 72 []], .agg [.func 72 [], .func 72 []], .agg [.func 72 [], .func 73 []], .agg [.func 72 [], .func 73 []], .agg [.func 73 [], .func 72 []], .agg [.func 72 [], .func 74 []]]) (k := x8.Kind) (az := .agg [.nilf, .nilf]) (a := .agg [.func 72 [], .func 72 []]) (r := (some 1)) Try.underlying128 (KeyT.int Try.underlying3) Ty.w126 (fun _ _ _ => rel_agg (vs := [.nilFunc, .nilFunc]) (.cons (.nilf) (.cons (.nilf) (.nil))) rfl) rfl rfl rfl (kix_ne (ne_of_beq_false hb_500) (kix_eq (eq_of_beq hb_501))) rfl ?_)
                  refine RS.op rfl (OP.q rfl (v_move (v := .tup [.agg [.func 72 [], .func 72 []], .bool true]) rfl ?_))
                  refine RS.op rfl (OP.q rfl (v_extract (v := .agg [.func 72 [], .func 72 []]) rfl rfl ?_))
                  refine RS.op rfl (OP.q rfl (v_extract (v := .bool true) rfl rfl ?_))
                  refine RS.op rfl (o_alloc Ty.z126 rfl (aw' := [.box [.sl (List.map encNode p0.Nodes), .int .i64 p0.Rings, .int .i64 p0.Room], .mp (List.map kI (List.map Prod.fst s5)) (List.map kI (List.map Prod.snd s5)), .mp (List.map kI (List.map Prod.fst s6)) (List.map kI (List.map Prod.snd s6)), .box [.int .i64 x8.Kind, .int .i64 x8.A, .sl (List.map encI x8.In), .sl (List.map encI x8.Out)], .mp (List.map kI [1, 2, 3, 4, 5, 7, 6, 8]) [.agg [.func 74 [], .func 72 []], .agg [.func 72 [], .func 72 []], .agg [.func 72 [], .func 72 []], .agg [.func 72 [], .func 72 []], .agg [.func 72 [], .func 73 []], .agg [.func 72 [], .func 73 []], .agg [.func 73 [], .func 72 []], .agg [.func 72 [], .func 74 []]], .box [.nilf, .nilf]]) rfl ?_)
                  refine RS.op rfl (o_store_ptr Ty.c126 Ty.i126 rfl (vs := [.func 72 [], .func 72 []]) rfl rfl rfl rfl (cs' := [.func 72 [], .func 72 []]) rfl (aw' := [.box [.sl (List.map encNode p0.Nodes), .int .i64 p0.Rings, .int .i64 p0.Room], .mp (List.map kI (List.map Prod.fst s5)) (List.map kI (List.map Prod.snd s5)), .mp (List.map kI (List.map Prod.fst s6)) (List.map kI (List.map Prod.snd s6)), .box [.int .i64 x8.Kind, .int .i64 x8.A, .sl (List.map encI x8.In), .sl (List.map encI x8.Out)], .mp (List.map kI [1, 2, 3, 4, 5, 7, 6, 8]) [.agg [.func 74 [], .func 72 []], .agg [.func 72 [], .func 72 []], .agg [.func 72 [], .func 72 []], .agg [.func 72 [], .func 72 []], .agg [.func 72 [], .func 73 []], .agg [.func 72 [], .func 73 []], .agg [.func 73 [], .func 72 []], .agg [.func 72 [], .func 74 []]], .box [.func 72 [], .func 72 []]]) rfl ?_)
                  refine RS.op rfl (OP.q rfl (v_assign (v := .bool true) rfl ?_))
                  refine RS.nil ?_
                  refine T.seq ?_
                  refine T.seq ?_
                  refine T.region ?_
                  refine RS.op rfl (OP.q rfl (v_move (v := .bool true) rfl ?_))
                  refine RS.op rfl (OP.q rfl (v_not rfl ?_))
                  refine RS.nil ?_
                  refine T.cond (b := false) rfl (fun hb => ?_) (fun hb => ?_)
                  · cases hb
                  · refine T.skip ?_
                    refine T.seq ?_
                    obtain ⟨x12, hx12, h⟩ := bind_some h
                    obtain ⟨zt_514, hz, h⟩ := bind_some h
                    revert hz h; revert zt_514; intro c14 hz h
                    refine T.join (Z := Unit) (fun _ => mkA 249 [(1, .ptr 0 0), (4, .mpr 1), (5, .mpr 2), (6, .int .i64 s3), (7, .int .i64 s4), (8, .ptr 3 0), (60, .sl (List.map encNode p0.Nodes)), (61, .int .i64 ((p0.Nodes).length : Int)), (62, .int .i64 s4), (116, .bool c14)]) (fun _ => [.box [.sl (List.map encNode p0.Nodes), .int .i64 p0.Rings, .int .i64 p0.Room], .mp (List.map kI (List.map Prod.fst s5)) (List.map kI (List.map Prod.snd s5)), .mp (List.map kI (List.map Prod.fst s6)) (List.map kI (List.map Prod.snd s6)), .box [.int .i64 x8.Kind, .int .i64 x8.A, .sl (List.map encI x8.In), .sl (List.map encI x8.Out)]]) (fun _ => True) (fun _ _ => ?_) (fun hK => ?_)
                    · show T _ _ _ _ (mkA 249 [(1, .ptr 0 0), (4, .mpr 1), (5, .mpr 2), (6, .int .i64 s3), (7, .int .i64 s4), (8, .ptr 3 0), (60, .sl (List.map encNode p0.Nodes)), (61, .int .i64 ((p0.Nodes).length : Int)), (62, .int .i64 s4), (116, .bool c14)]) [.box [.sl (List.map encNode p0.Nodes), .int .i64 p0.Rings, .int .i64 p0.Room], .mp (List.map kI (List.map Prod.fst s5)) (List.map kI (List.map Prod.snd s5)), .mp (List.map kI (List.map Prod.fst s6)) (List.map kI (List.map Prod.snd s6)), .box [.int .i64 x8.Kind, .int .i64 x8.A, .sl (List.map encI x8.In), .sl (List.map encI x8.Out)]]
                      refine T.cond (b := c14) rfl (fun hb_515 => ?_) (fun hb_515 => ?_)
                      · replace h := ite_T h hb_515
                        refine T.seq ?_
                        refine T.region ?_
                        refine RS.op rfl (OP.q rfl (v_assign (v := .nils) rfl ?_))
                        refine RS.op rfl (OP.q rfl (v_assign (v := .int .i64 4) rfl ?_))
                        refine RS.nil ?_
                        refine T.ret' (R := ?R516) ?hq516 ?_
                        case hq516 => repeat (first | exact RetIs.base | refine RetIs.thn ?_ | refine RetIs.blk ?_ | refine RetIs.lq ?_)
                        obtain ⟨w_517, h, hw_517⟩ := map_inr h
                        replace h := h.trans (congrArg some (hv_360 _ hw_517))
                        refine res_tmpA (v := .nils) rfl ?_
                        refine res_tmpA (v := .int .i64 4) rfl ?_
                        refine res_done ?_
                        exact ret_own (.tup [.ref 0, .int .i64 r.2]) [(0, 3, 1)] [4] (by decide) (none_kept _) rfl (rn_tup ⟨rn_ref rfl, rn_int (congrArg (fun r : (List Int) × Int => r.2) (Option.some.inj h)).symm, trivial⟩) (rw_arr (en := encI) (ys := []) rfl encI_p (congrArg (fun r : (List Int) × Int => r.1) (Option.some.inj h)).symm (rw_nil)) ⟨rfl, rfl⟩
                      · replace h := ite_F h hb_515
                        refine T.skip ?_
                        exact T.weakR (hK3 () h) (Weak.mkN [] [0, 1, 2, 3] (by decide) (none_kept _) rfl ⟨rn_ptr rfl, rn_mpr rfl, rn_mpr rfl, rn_int rfl, rn_int rfl, rn_ptr rfl, rn_sl encNode_p rfl, rn_int rfl, rn_int rfl, trivial⟩ (rw_box (cs := [.sl (List.map encNode p0.Nodes), .int .i64 p0.Rings, .int .i64 p0.Room]) (ds := [.sl (List.map encNode p0.Nodes), .int .i64 p0.Rings, .int .i64 p0.Room]) rfl ⟨rn_sl encNode_p rfl, rn_int rfl, rn_int rfl, trivial⟩ (rw_mp (ek := kI) (ev := kI) (ys := s5) rfl (fun _ => pure_int _ _) (fun _ => pure_int _ _) rfl (rw_mp (ek := kI) (ev := kI) (ys := s6) rfl (fun _ => pure_int _ _) (fun _ => pure_int _ _) rfl (rw_box (cs := [.int .i64 x8.Kind, .int .i64 x8.A, .sl (List.map encI x8.In), .sl (List.map encI x8.Out)]) (ds := [.int .i64 x8.Kind, .int .i64 x8.A, .sl (List.map encI x8.In), .sl (List.map encI x8.Out)]) rfl ⟨rn_int rfl, rn_int rfl, rn_sl encI_p rfl, rn_sl encI_p rfl, trivial⟩ (rw_nil))))))
                    · refine T.region ?_
                      refine RS.op rfl (OP.q rfl (v_fieldAddr_ptr Ty.f126_0 rfl (off' := 0) rfl ?_))
                      refine RS.op rfl (o_load_ptr rfl rfl (loadRow1 Ty.k122 (c := .func 72 []) rfl ?_))
                      refine RS.op rfl (OP.q rfl (v_fieldAddr_ptr Ty.f67_2 rfl (off' := 2) rfl ?_))
                      refine RS.op rfl (o_load_ptr rfl rfl (loadRow1 Ty.k57 (c := .sl (List.map encI x8.In)) rfl ?_))
                      refine RS.op rfl (OP.q rfl (v_len_sl Ty.s57 rfl ?_))
                      refine RS.op rfl (o_call (as0 := [.int .i64 ((x8.In).length : Int)]) (as1 := [.int .i64 ((x8.In).length : Int)]) (caps := []) (aw1 := [.box [.sl (List.map encNode p0.Nodes), .int .i64 p0.Rings, .int .i64 p0.Room], .mp (List.map kI (List.map Prod.fst s5)) (List.map kI (List.map Prod.snd s5)), .mp (List.map kI (List.map Prod.fst s6)) (List.map kI (List.map Prod.snd s6)), .box [.int .i64 x8.Kind, .int .i64 x8.A, .sl (List.map encI x8.In), .sl (List.map encI x8.Out)], .mp (List.map kI [1, 2, 3, 4, 5, 7, 6, 8]) [.agg [.func 74 [], .func 72 []], .agg [.func 72 [], .func 72 []], .agg [.func 72 [], .func 72 []], .agg [.func 72 [], .func 72 []], .agg [.func 72 [], .func 73 []], .agg [.func 72 [], .func 73 []], .agg [.func 73 [], .func 72 []], .agg [.func 72 [], .func 74 []]], .box [.func 72 [], .func 72 []]]) rfl rfl rfl (k_flat (v := .bool x12) (crossref_CheckNet_1_c ((x8.In).length : Int) x12 hx12) (⟨pure_int _ _, trivial⟩) rfl ?_))
                      refine RS.op rfl (OP.q rfl (v_not rfl ?_))
                      refine RS.op rfl (OP.q rfl (v_move (v := .bool (!x12)) rfl ?_))
                      rcases bool_cases (!x12) with hb_513 | hb_513
                      · replace hz := ite_T hz hb_513
                        refine RS.no rfl rfl rfl hb_513 ?_
                        refine RS.no rfl rfl rfl hb_513 ?_
                        refine RS.no rfl rfl rfl hb_513 ?_
                        refine RS.no rfl rfl rfl hb_513 ?_
                        refine RS.no rfl rfl rfl hb_513 ?_
                        refine RS.no rfl rfl rfl hb_513 ?_
                        refine RS.no rfl rfl rfl hb_513 ?_
                        refine RS.op rfl (OP.q rfl (v_pickT (v := .bool true) rfl hb_513 rfl ?_))
                        refine RS.nil ?_
                        exact T.weakR (hK () trivial) (Weak.mkN [] [0, 1, 2, 3] (by decide) (none_kept _) rfl ⟨rn_ptr rfl, rn_mpr rfl, rn_mpr rfl, rn_int rfl, rn_int rfl, rn_ptr rfl, rn_sl encNode_p rfl, rn_int rfl, rn_int rfl, rn_bool ((congrArg (fun p => p) (Option.some.inj hz)).symm), trivial⟩ (rw_box (cs := [.sl (List.map encNode p0.Nodes), .int .i64 p0.Rings, .int .i64 p0.Room]) (ds := [.sl (List.map encNode p0.Nodes), .int .i64 p0.Rings, .int .i64 p0.Room]) rfl ⟨rn_sl encNode_p rfl, rn_int rfl, rn_int rfl, trivial⟩ (rw_mp (ek := kI) (ev := kI) (ys := s5) rfl (fun _ => pure_int _ _) (fun _ => pure_int _ _) rfl (rw_mp (ek := kI) (ev := kI) (ys := s6) rfl (fun _ => pure_int _ _) (fun _ => pure_int _ _) rfl (rw_box (cs := [.int .i64 x8.Kind, .int .i64 x8.A, .sl (List.map encI x8.In), .sl (List.map encI x8.Out)]) (ds := [.int .i64 x8.Kind, .int .i64 x8.A, .sl (List.map encI x8.In), .sl (List.map encI x8.Out)]) rfl ⟨rn_int rfl, rn_int rfl, rn_sl encI_p rfl, rn_sl encI_p rfl, trivial⟩ (rw_nil))))))
                      · replace hz := ite_F hz hb_513
                        obtain ⟨x13, hx13, hz⟩ := bind_some hz
                        refine RS.yes rfl rfl rfl hb_513 (OP.q rfl (v_fieldAddr_ptr Ty.f126_1 rfl (off' := 1) rfl ?_))
                        refine RS.yes rfl rfl rfl hb_513 (o_load_ptr rfl rfl (loadRow1 Ty.k122 (c := .func 72 []) rfl ?_))
                        refine RS.yes rfl rfl rfl hb_513 (OP.q rfl (v_fieldAddr_ptr Ty.f67_3 rfl (off' := 3) rfl ?_))
                        refine RS.yes rfl rfl rfl hb_513 (o_load_ptr rfl rfl (loadRow1 Ty.k57 (c := .sl (List.map encI x8.Out)) rfl ?_))
                        refine RS.yes rfl rfl rfl hb_513 (OP.q rfl (v_len_sl Ty.s57 rfl ?_))
                        refine RS.yes rfl rfl rfl hb_513 (o_call (as0 := [.int .i64 ((x8.Out).length : Int)]) (as1 := [.int .i64 ((x8.Out).length : Int)]) (caps := []) (aw1 := [.box [.sl (List.map encNode p0.Nodes), .int .i64 p0.Rings, .int .i64 p0.Room], .mp (List.map kI (List.map Prod.fst s5)) (List.map kI (List.map Prod.snd s5)), .mp (List.map kI (List.map Prod.fst s6)) (List.map kI (List.map Prod.snd s6)), .box [.int .i64 x8.Kind, .int .i64 x8.A, .sl (List.map encI x8.In), .sl (List.map encI x8.Out)], .mp (List.map kI [1, 2, 3, 4, 5, 7, 6, 8]) [.agg [.func 74 [], .func 72 []], .agg [.func 72 [], .func 72 []], .agg [.func 72 [], .func 72 []], .agg [.func 72 [], .func 72 []], .agg [.func 72 [], .func 73 []], .agg [.func 72 [], .func 73 []], .agg [.func 73 [], .func 72 []], .agg [.func 72 [], .func 74 []]], .box [.func 72 [], .func 72 []]]) rfl rfl rfl (k_flat (v := .bool x13) (crossref_CheckNet_1_c ((x8.Out).length : Int) x13 hx13) (⟨pure_int _ _, trivial⟩) rfl ?_))
                        refine RS.yes rfl rfl rfl hb_513 (OP.q rfl (v_not rfl ?_))
                        refine RS.op rfl (OP.q rfl (v_pickF (v := .bool (!x13)) rfl hb_513 rfl ?_))
                        refine RS.nil ?_
                        exact T.weakR (hK () trivial) (Weak.mkN [] [0, 1, 2, 3] (by decide) (none_kept _) rfl ⟨rn_ptr rfl, rn_mpr rfl, rn_mpr rfl, rn_int rfl, rn_int rfl, rn_ptr rfl, rn_sl encNode_p rfl, rn_int rfl, rn_int rfl, rn_bool ((congrArg (fun p => p) (Option.some.inj hz)).symm), trivial⟩ (rw_box (cs := [.sl (List.map encNode p0.Nodes), .int .i64 p0.Rings, .int .i64 p0.Room]) (ds := [.sl (List.map encNode p0.Nodes), .int .i64 p0.Rings, .int .i64 p0.Room]) rfl ⟨rn_sl encNode_p rfl, rn_int rfl, rn_int rfl, trivial⟩ (rw_mp (ek := kI) (ev := kI) (ys := s5) rfl (fun _ => pure_int _ _) (fun _ => pure_int _ _) rfl (rw_mp (ek := kI) (ev := kI) (ys := s6) rfl (fun _ => pure_int _ _) (fun _ => pure_int _ _) rfl (rw_box (cs := [.int .i64 x8.Kind, .int .i64 x8.A, .sl (List.map encI x8.In), .sl (List.map encI x8.Out)]) (ds := [.int .i64 x8.Kind, .int .i64 x8.A, .sl (List.map encI x8.In), .sl (List.map encI x8.Out)]) rfl ⟨rn_int rfl, rn_int rfl, rn_sl encI_p rfl, rn_sl encI_p rfl, trivial⟩ (rw_nil))))))
                · replace h := ite_F h hb_501
                  rcases bool_cases (x8.Kind == 3) with hb_502 | hb_502
                  · replace h := ite_T h hb_502
                    refine RS.op rfl (o_lookup_st_ok (ek := kI) (ks := [1, 2, 3, 4, 5, 7, 6, 8]) (vs := [.agg [.func 74 [], .func 72 []], .agg [.func 72 [], .func 72 []], .agg [.func 72 [], .func 72 []], .agg [.func 72 [], .func 72 []], .agg [.func 72 [], .func 73 []], .agg [.func 72 [], .func 73 []], .agg [.func 73 [], .func 72 []], .agg [.func 72 [], .func 74 []]]) (k := x8.Kind) (az := .agg [.nilf, .nilf]) (a := .agg [.func 72 [], .func 72 []]) (r := (some 2)) Try.underlying128 (KeyT.int Try.underlying3) Ty.w126 (fun _ _ _ => rel_agg (vs := [.nilFunc, .nilFunc]) (.cons (.nilf) (.cons (.nilf) (.nil))) rfl) rfl rfl rfl (kix_ne (ne_of_beq_false hb_500) (kix_ne (ne_of_beq_false hb_501) (kix_eq (eq_of_beq hb_502)))) rfl ?_)
                    refine RS.op rfl (OP.q rfl (v_move (v := .tup [.agg [.func 72 [], .func 72 []], .bool true]) rfl ?_))
                    refine RS.op rfl (OP.q rfl (v_extract (v := .agg [.func 72 [], .func 72 []]) rfl rfl ?_))
                    refine RS.op rfl (OP.q rfl (v_extract (v := .bool true) rfl rfl ?_))
                    refine RS.op rfl (o_alloc Ty.z126 rfl (aw' := [.box [.sl (List.map encNode p0.Nodes), .int .i64 p0.Rings, .int .i64 p0.Room], .mp (List.map kI (List.map Prod.fst s5)) (List.map kI (List.map Prod.snd s5)), .mp (List.map kI (List.map Prod.fst s6)) (List.map kI (List.map Prod.snd s6)), .box [.int .i64 x8.Kind, .int .i64 x8.A, .sl (List.map encI x8.In), .sl (List.map encI x8.Out)], .mp (List.map kI [1, 2, 3, 4, 5, 7, 6, 8]) [.agg [.func 74 [], .func 72 []], .agg [.func 72 [], .func 72 []], .agg [.func 72 [], .func 72 []], .agg [.func 72 [], .func 72 []], .agg [.func 72 [], .func 73 []], .agg [.func 72 [], .func 73 []], .agg [.func 73 [], .func 72 []], .agg [.func 72 [], .func 74 []]], .box [.nilf, .nilf]]) rfl ?_)
                    refine RS.op rfl (o_store_ptr Ty.c126 Ty.i126 rfl (vs := [.func 72 [], .func 72 []]) rfl rfl rfl rfl (cs' := [.func 72 [], .func 72 []]) rfl (aw' := [.box [.sl (List.map encNode p0.Nodes), .int .i64 p0.Rings, .int .i64 p0.Room], .mp (List.map kI (List.map Prod.fst s5)) (List.map kI (List.map Prod.snd s5)), .mp (List.map kI (List.map Prod.fst s6)) (List.map kI (List.map Prod.snd s6)), .box [.int .i64 x8.Kind, .int .i64 x8.A, .sl (List.map encI x8.In), .sl (List.map encI x8.Out)], .mp (List.map kI [1, 2, 3, 4, 5, 7, 6, 8]) [.agg [.func 74 [], .func 72 []], .agg [.func 72 [], .func 72 []], .agg [.func 72 [], .func 72 []], .agg [.func 72 [], .func 72 []], .agg [.func 72 [], .func 73 []], .agg [.func 72 [], .func 73 []], .agg [.func 73 [], .func 72 []], .agg [.func 72 [], .func 74 []]], .box [.func 72 [], .func 72 []]]) rfl ?_)
                    refine RS.op rfl (OP.q rfl (v_assign (v := .bool true) rfl ?_))
                    refine RS.nil ?_
                    refine T.seq ?_
                    refine T.seq ?_
                    refine T.region ?_
                    refine RS.op rfl (OP.q rfl (v_move (v := .bool true) rfl ?_))
                    refine RS.op rfl (OP.q rfl (v_not rfl ?_))
                    refine RS.nil ?_
                    refine T.cond (b := false) rfl (fun hb => ?_) (fun hb => ?_)
                    · cases hb
                    · refine T.skip ?_
                      refine T.seq ?_
                      obtain ⟨x15, hx15, h⟩ := bind_some h
                      obtain ⟨zt_519, hz, h⟩ := bind_some h
                      revert hz h; revert zt_519; intro c17 hz h
                      refine T.join (Z := Unit) (fun _ => mkA 249 [(1, .ptr 0 0), (4, .mpr 1), (5, .mpr 2), (6, .int .i64 s3), (7, .int .i64 s4), (8, .ptr 3 0), (60, .sl (List.map encNode p0.Nodes)), (61, .int .i64 ((p0.Nodes).length : Int)), (62, .int .i64 s4), (116, .bool c17)]) (fun _ => [.box [.sl (List.map encNode p0.Nodes), .int .i64 p0.Rings, .int .i64 p0.Room], .mp (List.map kI (List.map Prod.fst s5)) (List.map kI (List.map Prod.snd s5)), .mp (List.map kI (List.map Prod.fst s6)) (List.map kI (List.map Prod.snd s6)), .box [.int .i64 x8.Kind, .int .i64 x8.A, .sl (List.map encI x8.In), .sl (List.map encI x8.Out)]]) (fun _ => True) (fun _ _ => ?_) (fun hK => ?_)
                      · show T _ _ _ _ (mkA 249 [(1, .ptr 0 0), (4, .mpr 1), (5, .mpr 2), (6, .int .i64 s3), (7, .int .i64 s4), (8, .ptr 3 0), (60, .sl (List.map encNode p0.Nodes)), (61, .int .i64 ((p0.Nodes).length : Int)), (62, .int .i64 s4), (116, .bool c17)]) [.box [.sl (List.map encNode p0.Nodes), .int .i64 p0.Rings, .int .i64 p0.Room], .mp (List.map kI (List.map Prod.fst s5)) (List.map kI (List.map Prod.snd s5)), .mp (List.map kI (List.map Prod.fst s6)) (List.map kI (List.map Prod.snd s6)), .box [.int .i64 x8.Kind, .int .i64 x8.A, .sl (List.map encI x8.In), .sl (List.map encI x8.Out)]]
                        refine T.cond (b := c17) rfl (fun hb_520 => ?_) (fun hb_520 => ?_)
                        · replace h := ite_T h hb_520
                          refine T.seq ?_
                          refine T.region ?_
                          refine RS.op rfl (OP.q rfl (v_assign (v := .nils) rfl ?_))
                          refine RS.op rfl (OP.q rfl (v_assign (v := .int .i64 4) rfl ?_))
                          refine RS.nil ?_
                          refine T.ret' (R := ?R521) ?hq521 ?_
                          case hq521 => repeat (first | exact RetIs.base | refine RetIs.thn ?_ | refine RetIs.blk ?_ | refine RetIs.lq ?_)
                          obtain ⟨w_522, h, hw_522⟩ := map_inr h
                          replace h := h.trans (congrArg some (hv_360 _ hw_522))
                          refine res_tmpA (v := .nils) rfl ?_
                          refine res_tmpA (v := .int .i64 4) rfl ?_
                          refine res_done ?_
                          exact ret_own (.tup [.ref 0, .int .i64 r.2]) [(0, 3, 1)] [4] (by decide) (none_kept _) rfl (rn_tup ⟨rn_ref rfl, rn_int (congrArg (fun r : (List Int) × Int => r.2) (Option.some.inj h)).symm, trivial⟩) (rw_arr (en := encI) (ys := []) rfl encI_p (congrArg (fun r : (List Int) × Int => r.1) (Option.some.inj h)).symm (rw_nil)) ⟨rfl, rfl⟩
                        · replace h := ite_F h hb_520
                          refine T.skip ?_
                          exact T.weakR (hK3 () h) (Weak.mkN [] [0, 1, 2, 3] (by decide) (none_kept _) rfl ⟨rn_ptr rfl, rn_mpr rfl, rn_mpr rfl, rn_int rfl, rn_int rfl, rn_ptr rfl, rn_sl encNode_p rfl, rn_int rfl, rn_int rfl, trivial⟩ (rw_box (cs := [.sl (List.map encNode p0.Nodes), .int .i64 p0.Rings, .int .i64 p0.Room]) (ds := [.sl (List.map encNode p0.Nodes), .int .i64 p0.Rings, .int .i64 p0.Room]) rfl ⟨rn_sl encNode_p rfl, rn_int rfl, rn_int rfl, trivial⟩ (rw_mp (ek := kI) (ev := kI) (ys := s5) rfl (fun _ => pure_int _ _) (fun _ => pure_int _ _) rfl (rw_mp (ek := kI) (ev := kI) (ys := s6) rfl (fun _ => pure_int _ _) (fun _ => pure_int _ _) rfl (rw_box (cs := [.int .i64 x8.Kind, .int .i64 x8.A, .sl (List.map encI x8.In), .sl (List.map encI x8.Out)]) (ds := [.int .i64 x8.Kind, .int .i64 x8.A, .sl (List.map encI x8.In), .sl (List.map encI x8.Out)]) rfl ⟨rn_int rfl, rn_int rfl, rn_sl encI_p rfl, rn_sl encI_p rfl, trivial⟩ (rw_nil))))))
                      · refine T.region ?_
                        refine RS.op rfl (OP.q rfl (v_fieldAddr_ptr Ty.f126_0 rfl (off' := 0) rfl ?_))
                        refine RS.op rfl (o_load_ptr rfl rfl (loadRow1 Ty.k122 (c := .func 72 []) rfl ?_))
                        refine RS.op rfl (OP.q rfl (v_fieldAddr_ptr Ty.f67_2 rfl (off' := 2) rfl ?_))
                        refine RS.op rfl (o_load_ptr rfl rfl (loadRow1 Ty.k57 (c := .sl (List.map encI x8.In)) rfl ?_))
                        refine RS.op rfl (OP.q rfl (v_len_sl Ty.s57 rfl ?_))
                        refine RS.op rfl (o_call (as0 := [.int .i64 ((x8.In).length : Int)]) (as1 := [.int .i64 ((x8.In).length : Int)]) (caps := []) (aw1 := [.box [.sl (List.map encNode p0.Nodes), .int .i64 p0.Rings, .int .i64 p0.Room], .mp (List.map kI (List.map Prod.fst s5)) (List.map kI (List.map Prod.snd s5)), .mp (List.map kI (List.map Prod.fst s6)) (List.map kI (List.map Prod.snd s6)), .box [.int .i64 x8.Kind, .int .i64 x8.A, .sl (List.map encI x8.In), .sl (List.map encI x8.Out)], .mp (List.map kI [1, 2, 3, 4, 5, 7, 6, 8]) [.agg [.func 74 [], .func 72 []], .agg [.func 72 [], .func 72 []], .agg [.func 72 [], .func 72 []], .agg [.func 72 [], .func 72 []], .agg [.func 72 [], .func 73 []], .agg [.func 72 [], .func 73 []], .agg [.func 73 [], .func 72 []], .agg [.func 72 [], .func 74 []]], .box [.func 72 [], .func 72 []]]) rfl rfl rfl (k_flat (v := .bool x15) (crossref_CheckNet_1_c ((x8.In).length : Int) x15 hx15) (⟨pure_int _ _, trivial⟩) rfl ?_))
                        refine RS.op rfl (OP.q rfl (v_not rfl ?_))
                        refine RS.op rfl (OP.q rfl (v_move (v := .bool (!x15)) rfl ?_))
                        rcases bool_cases (!x15) with hb_518 | hb_518
                        · replace hz := ite_T hz hb_518
                          refine RS.no rfl rfl rfl hb_518 ?_
                          refine RS.no rfl rfl rfl hb_518 ?_
                          refine RS.no rfl rfl rfl hb_518 ?_
                          refine RS.no rfl rfl rfl hb_518 ?_
                          refine RS.no rfl rfl rfl hb_518 ?_
                          refine RS.no rfl rfl rfl hb_518 ?_
                          refine RS.no rfl rfl rfl hb_518 ?_
                          refine RS.op rfl (OP.q rfl (v_pickT (v := .bool true) rfl hb_518 rfl ?_))
                          refine RS.nil ?_
                          exact T.weakR (hK () trivial) (Weak.mkN [] [0, 1, 2, 3] (by decide) (none_kept _) rfl ⟨rn_ptr rfl, rn_mpr rfl, rn_mpr rfl, rn_int rfl, rn_int rfl, rn_ptr rfl, rn_sl encNode_p rfl, rn_int rfl, rn_int rfl, rn_bool ((congrArg (fun p => p) (Option.some.inj hz)).symm), trivial⟩ (rw_box (cs := [.sl (List.map encNode p0.Nodes), .int .i64 p0.Rings, .int .i64 p0.Room]) (ds := [.sl (List.map encNode p0.Nodes), .int .i64 p0.Rings, .int .i64 p0.Room]) rfl ⟨rn_sl encNode_p rfl, rn_int rfl, rn_int rfl, trivial⟩ (rw_mp (ek := kI) (ev := kI) (ys := s5) rfl (fun _ => pure_int _ _) (fun _ => pure_int _ _) rfl (rw_mp (ek := kI) (ev := kI) (ys := s6) rfl (fun _ => pure_int _ _) (fun _ => pure_int _ _) rfl (rw_box (cs := [.int .i64 x8.Kind, .int .i64 x8.A, .sl (List.map encI x8.In), .sl (List.map encI x8.Out)]) (ds := [.int .i64 x8.Kind, .int .i64 x8.A, .sl (List.map encI x8.In), .sl (List.map encI x8.Out)]) rfl ⟨rn_int rfl, rn_int rfl, rn_sl encI_p rfl, rn_sl encI_p rfl, trivial⟩ (rw_nil))))))
                        · replace hz := ite_F hz hb_518
                          obtain ⟨x16, hx16, hz⟩ := bind_some hz
                          refine RS.yes rfl rfl rfl hb_518 (OP.q rfl (v_fieldAddr_ptr Ty.f126_1 rfl (off' := 1) rfl ?_))
                          refine RS.yes rfl rfl rfl hb_518 (o_load_ptr rfl rfl (loadRow1 Ty.k122 (c := .func 72 []) rfl ?_))
                          refine RS.yes rfl rfl rfl hb_518 (OP.q rfl (v_fieldAddr_ptr Ty.f67_3 rfl (off' := 3) rfl ?_))
                          refine RS.yes rfl rfl rfl hb_518 (o_load_ptr rfl rfl (loadRow1 Ty.k57 (c := .sl (List.map encI x8.Out)) rfl ?_))
                          refine RS.yes rfl rfl rfl hb_518 (OP.q rfl (v_len_sl Ty.s57 rfl ?_))
                          refine RS.yes rfl rfl rfl hb_518 (o_call (as0 := [.int .i64 ((x8.Out).length : Int)]) (as1 := [.int .i64 ((x8.Out).length : Int)]) (caps := []) (aw1 := [.box [.sl (List.map encNode p0.Nodes), .int .i64 p0.Rings, .int .i64 p0.Room], .mp (List.map kI (List.map Prod.fst s5)) (List.map kI (List.map Prod.snd s5)), .mp (List.map kI (List.map Prod.fst s6)) (List.map kI (List.map Prod.snd s6)), .box [.int .i64 x8.Kind, .int .i64 x8.A, .sl (List.map encI x8.In), .sl (List.map encI x8.Out)], .mp (List.map kI [1, 2, 3, 4, 5, 7, 6, 8]) [.agg [.func 74 [], .func 72 []], .agg [.func 72 [], .func 72 []], .agg [.func 72 [], .func 72 []], .agg [.func 72 [], .func 72 []], .agg [.func 72 [], .func 73 []], .agg [.func 72 [], .func 73 []], .agg [.func 73 [], .func 72 []], .agg [.func 72 [], .func 74 []]], .box [.func 72 [], .func 72 []]]) rfl rfl rfl (k_flat (v := .bool x16) (crossref_CheckNet_1_c ((x8.Out).length : Int) x16 hx16) (⟨pure_int _ _, trivial⟩) rfl ?_))
                          refine RS.yes rfl rfl rfl hb_518 (OP.q rfl (v_not rfl ?_))
                          refine RS.op rfl (OP.q rfl (v_pickF (v := .bool (!x16)) rfl hb_518 rfl ?_))
                          refine RS.nil ?_
                          exact T.weakR (hK () trivial) (Weak.mkN [] [0, 1, 2, 3] (by decide) (none_kept _) rfl ⟨rn_ptr rfl, rn_mpr rfl, rn_mpr rfl, rn_int rfl, rn_int rfl, rn_ptr rfl, rn_sl encNode_p rfl, rn_int rfl, rn_int rfl, rn_bool ((congrArg (fun p => p) (Option.some.inj hz)).symm), trivial⟩ (rw_box (cs := [.sl (List.map encNode p0.Nodes), .int .i64 p0.Rings, .int .i64 p0.Room]) (ds := [.sl (List.map encNode p0.Nodes), .int .i64 p0.Rings, .int .i64 p0.Room]) rfl ⟨rn_sl encNode_p rfl, rn_int rfl, rn_int rfl, trivial⟩ (rw_mp (ek := kI) (ev := kI) (ys := s5) rfl (fun _ => pure_int _ _) (fun _ => pure_int _ _) rfl (rw_mp (ek := kI) (ev := kI) (ys := s6) rfl (fun _ => pure_int _ _) (fun _ => pure_int _ _) rfl (rw_box (cs := [.int .i64 x8.Kind, .int .i64 x8.A, .sl (List.map encI x8.In), .sl (List.map encI x8.Out)]) (ds := [.int .i64 x8.Kind, .int .i64 x8.A, .sl (List.map encI x8.In), .sl (List.map encI x8.Out)]) rfl ⟨rn_int rfl, rn_int rfl, rn_sl encI_p rfl, rn_sl encI_p rfl, trivial⟩ (rw_nil))))))
                  · replace h := ite_F h hb_502
                    rcases bool_cases (x8.Kind == 4) with hb_503 | hb_503
                    · replace h := ite_T h hb_503
                      refine RS.op rfl (o_lookup_st_ok (ek := kI) (ks := [1, 2, 3, 4, 5, 7, 6, 8]) (vs := [.agg [.func 74 [], .func 72 []], .agg [.func 72 [], .func 72 []], .agg [.func 72 [], .func 72 []], .agg [.func 72 [], .func 72 []], .agg [.func 72 [], .func 73 []], .agg [.func 72 [], .func 73 []], .agg [.func 73 [], .func 72 []], .agg [.func 72 [], .func 74 []]]) (k := x8.Kind) (az := .agg [.nilf, .nilf]) (a := .agg [.func 72 [], .func 72 []]) (r := (some 3)) Try.underlying128 (KeyT.int Try.underlying3) Ty.w126 (fun _ _ _ => rel_agg (vs := [.nilFunc, .nilFunc]) (.cons (.nilf) (.cons (.nilf) (.nil))) rfl) rfl rfl rfl (kix_ne (ne_of_beq_false hb_500) (kix_ne (ne_of_beq_false hb_501) (kix_ne (ne_of_beq_false hb_502) (kix_eq (eq_of_beq hb_503))))) rfl ?_)
                      refine RS.op rfl (OP.q rfl (v_move (v := .tup [.agg [.func 72 [], .func 72 []], .bool true]) rfl ?_))
                      refine RS.op rfl (OP.q rfl (v_extract (v := .agg [.func 72 [], .func 72 []]) rfl rfl ?_))
                      refine RS.op rfl (OP.q rfl (v_extract (v := .bool true) rfl rfl ?_))
                      refine RS.op rfl (o_alloc Ty.z126 rfl (aw' := [.box [.sl (List.map encNode p0.Nodes), .int .i64 p0.Rings, .int .i64 p0.Room], .mp (List.map kI (List.map Prod.fst s5)) (List.map kI (List.map Prod.snd s5)), .mp (List.map kI (List.map Prod.fst s6)) (List.map kI (List.map Prod.snd s6)), .box [.int .i64 x8.Kind, .int .i64 x8.A, .sl (List.map encI x8.In), .sl (List.map encI x8.Out)], .mp (List.map kI [1, 2, 3, 4, 5, 7, 6, 8]) [.agg [.func 74 [], .func 72 []], .agg [.func 72 [], .func 72 []], .agg [.func 72 [], .func 72 []], .agg [.func 72 [], .func 72 []], .agg [.func 72 [], .func 73 []], .agg [.func 72 [], .func 73 []], .agg [.func 73 [], .func 72 []], .agg [.func 72 [], .func 74 []]], .box [.nilf, .nilf]]) rfl ?_)
                      refine RS.op rfl (o_store_ptr Ty.c126 Ty.i126 rfl (vs := [.func 72 [], .func 72 []]) rfl rfl rfl rfl (cs' := [.func 72 [], .func 72 []]) rfl (aw' := [.box [.sl (List.map encNode p0.Nodes), .int .i64 p0.Rings, .int .i64 p0.Room], .mp (List.map kI (List.map Prod.fst s5)) (List.map kI (List.map Prod.snd s5)), .mp (List.map kI (List.map Prod.fst s6)) (List.map kI (List.map Prod.snd s6)), .box [.int .i64 x8.Kind, .int .i64 x8.A, .sl (List.map encI x8.In), .sl (List.map encI x8.Out)], .mp (List.map kI [1, 2, 3, 4, 5, 7, 6, 8]) [.agg [.func 74 [], .func 72 []], .agg [.func 72 [], .func 72 []], .agg [.func 72 [], .func 72 []], .agg [.func 72 [], .func 72 []], .agg [.func 72 [], .func 73 []], .agg [.func 72 [], .func 73 []], .agg [.func 73 [], .func 72 []], .agg [.func 72 [], .func 74 []]], .box [.func 72 [], .func 72 []]]) rfl ?_)
                      refine RS.op rfl (OP.q rfl (v_assign (v := .bool true) rfl ?_))
                      refine RS.nil ?_
                      refine T.seq ?_
                      refine T.seq ?_
                      refine T.region ?_
                      refine RS.op rfl (OP.q rfl (v_move (v := .bool true) rfl ?_))
                      refine RS.op rfl (OP.q rfl (v_not rfl ?_))
                      refine RS.nil ?_
                      refine T.cond (b := false) rfl (fun hb => ?_) (fun hb => ?_)
                      · cases hb
                      · refine T.skip ?_
                        refine T.seq ?_
                        obtain ⟨x18, hx18, h⟩ := bind_some h
                        obtain ⟨zt_524, hz, h⟩ := bind_some h
                        revert hz h; revert zt_524; intro c20 hz h
                        refine T.join (Z := Unit) (fun _ => mkA 249 [(1, .ptr 0 0), (4, .mpr 1), (5, .mpr 2), (6, .int .i64 s3), (7, .int .i64 s4), (8, .ptr 3 0), (60, .sl (List.map encNode p0.Nodes)), (61, .int .i64 ((p0.Nodes).length : Int)), (62, .int .i64 s4), (116, .bool c20)]) (fun _ => [.box [.sl (List.map encNode p0.Nodes), .int .i64 p0.Rings, .int .i64 p0.Room], .mp (List.map kI (List.map Prod.fst s5)) (List.map kI (List.map Prod.snd s5)), .mp (List.map kI (List.map Prod.fst s6)) (List.map kI (List.map Prod.snd s6)), .box [.int .i64 x8.Kind, .int .i64 x8.A, .sl (List.map encI x8.In), .sl (List.map encI x8.Out)]]) (fun _ => True) (fun _ _ => ?_) (fun hK => ?_)
                        · show T _ _ _ _ (mkA 249 [(1, .ptr 0 0), (4, .mpr 1), (5, .mpr 2), (6, .int .i64 s3), (7, .int .i64 s4), (8, .ptr 3 0), (60, .sl (List.map encNode p0.Nodes)), (61, .int .i64 ((p0.Nodes).length : Int)), (62, .int .i64 s4), (116, .bool c20)]) [.box [.sl (List.map encNode p0.Nodes), .int .i64 p0.Rings, .int .i64 p0.Room], .mp (List.map kI (List.map Prod.fst s5)) (List.map kI (List.map Prod.snd s5)), .mp (List.map kI (List.map Prod.fst s6)) (List.map kI (List.map Prod.snd s6)), .box [.int .i64 x8.Kind, .int .i64 x8.A, .sl (List.map encI x8.In), .sl (List.map encI x8.Out)]]
                          refine T.cond (b := c20) rfl (fun hb_525 => ?_) (fun hb_525 => ?_)
                          · replace h := ite_T h hb_525
                            refine T.seq ?_
                            refine T.region ?_
                            refine RS.op rfl (OP.q rfl (v_assign (v := .nils) rfl ?_))
                            refine RS.op rfl (OP.q rfl (v_assign (v := .int .i64 4) rfl ?_))
                            refine RS.nil ?_
                            refine T.ret' (R := ?R526) ?hq526 ?_
                            case hq526 => repeat (first | exact RetIs.base | refine RetIs.thn ?_ | refine RetIs.blk ?_ | refine RetIs.lq ?_)
                            obtain ⟨w_527, h, hw_527⟩ := map_inr h
                            replace h := h.trans (congrArg some (hv_360 _ hw_527))
                            refine res_tmpA (v := .nils) rfl ?_
                            refine res_tmpA (v := .int .i64 4) rfl ?_
                            refine res_done ?_
                            exact ret_own (.tup [.ref 0, .int .i64 r.2]) [(0, 3, 1)] [4] (by decide) (none_kept _) rfl (rn_tup ⟨rn_ref rfl, rn_int (congrArg (fun r : (List Int) × Int => r.2) (Option.some.inj h)).symm, trivial⟩) (rw_arr (en := encI) (ys := []) rfl encI_p (congrArg (fun r : (List Int) × Int => r.1) (Option.some.inj h)).symm (rw_nil)) ⟨rfl, rfl⟩
                          · replace h := ite_F h hb_525
                            refine T.skip ?_
                            exact T.weakR (hK3 () h) (Weak.mkN [] [0, 1, 2, 3] (by decide) (none_kept _) rfl ⟨rn_ptr rfl, rn_mpr rfl, rn_mpr rfl, rn_int rfl, rn_int rfl, rn_ptr rfl, rn_sl encNode_p rfl, rn_int rfl, rn_int rfl, trivial⟩ (rw_box (cs := [.sl (List.map encNode p0.Nodes), .int .i64 p0.Rings, .int .i64 p0.Room]) (ds := [.sl (List.map encNode p0.Nodes), .int .i64 p0.Rings, .int .i64 p0.Room]) rfl ⟨rn_sl encNode_p rfl, rn_int rfl, rn_int rfl, trivial⟩ (rw_mp (ek := kI) (ev := kI) (ys := s5) rfl (fun _ => pure_int _ _) (fun _ => pure_int _ _) rfl (rw_mp (ek := kI) (ev := kI) (ys := s6) rfl (fun _ => pure_int _ _) (fun _ => pure_int _ _) rfl (rw_box (cs := [.int .i64 x8.Kind, .int .i64 x8.A, .sl (List.map encI x8.In), .sl (List.map encI x8.Out)]) (ds := [.int .i64 x8.Kind, .int .i64 x8.A, .sl (List.map encI x8.In), .sl (List.map encI x8.Out)]) rfl ⟨rn_int rfl, rn_int rfl, rn_sl encI_p rfl, rn_sl encI_p rfl, trivial⟩ (rw_nil))))))
                        · refine T.region ?_
                          refine RS.op rfl (OP.q rfl (v_fieldAddr_ptr Ty.f126_0 rfl (off' := 0) rfl ?_))
                          refine RS.op rfl (o_load_ptr rfl rfl (loadRow1 Ty.k122 (c := .func 72 []) rfl ?_))
                          refine RS.op rfl (OP.q rfl (v_fieldAddr_ptr Ty.f67_2 rfl (off' := 2) rfl ?_))
                          refine RS.op rfl (o_load_ptr rfl rfl (loadRow1 Ty.k57 (c := .sl (List.map encI x8.In)) rfl ?_))
                          refine RS.op rfl (OP.q rfl (v_len_sl Ty.s57 rfl ?_))
                          refine RS.op rfl (o_call (as0 := [.int .i64 ((x8.In).length : Int)]) (as1 := [.int .i64 ((x8.In).length : Int)]) (caps := []) (aw1 := [.box [.sl (List.map encNode p0.Nodes), .int .i64 p0.Rings, .int .i64 p0.Room], .mp (List.map kI (List.map Prod.fst s5)) (List.map kI (List.map Prod.snd s5)), .mp (List.map kI (List.map Prod.fst s6)) (List.map kI (List.map Prod.snd s6)), .box [.int .i64 x8.Kind, .int .i64 x8.A, .sl (List.map encI x8.In), .sl (List.map encI x8.Out)], .mp (List.map kI [1, 2, 3, 4, 5, 7, 6, 8]) [.agg [.func 74 [], .func 72 []], .agg [.func 72 [], .func 72 []], .agg [.func 72 [], .func 72 []], .agg [.func 72 [], .func 72 []], .agg [.func 72 [], .func 73 []], .agg [.func 72 [], .func 73 []], .agg [.func 73 [], .func 72 []], .agg [.func 72 [], .func 74 []]], .box [.func 72 [], .func 72 []]]) rfl rfl rfl (k_flat (v := .bool x18) (crossref_CheckNet_1_c ((x8.In).length : Int) x18 hx18) (⟨pure_int _ _, trivial⟩) rfl ?_))
                          refine RS.op rfl (OP.q rfl (v_not rfl ?_))
                          refine RS.op rfl (OP.q rfl (v_move (v := .bool (!x18)) rfl ?_))
                          rcases bool_cases (!x18) with hb_523 | hb_523
                          · replace hz := ite_T hz hb_523
                            refine RS.no rfl rfl rfl hb_523 ?_
                            refine RS.no rfl rfl rfl hb_523 ?_
                            refine RS.no rfl rfl rfl hb_523 ?_
                            refine RS.no rfl rfl rfl hb_523 ?_
                            refine RS.no rfl rfl rfl hb_523 ?_
                            refine RS.no rfl rfl rfl hb_523 ?_
                            refine RS.no rfl rfl rfl hb_523 ?_
                            refine RS.op rfl (OP.q rfl (v_pickT (v := .bool true) rfl hb_523 rfl ?_))
                            refine RS.nil ?_
                            exact T.weakR (hK () trivial) (Weak.mkN [] [0, 1, 2, 3] (by decide) (none_kept _) rfl ⟨rn_ptr rfl, rn_mpr rfl, rn_mpr rfl, rn_int rfl, rn_int rfl, rn_ptr rfl, rn_sl encNode_p rfl, rn_int rfl, rn_int rfl, rn_bool ((congrArg (fun p => p) (Option.some.inj hz)).symm), trivial⟩ (rw_box (cs := [.sl (List.map encNode p0.Nodes), .int .i64 p0.Rings, .int .i64 p0.Room]) (ds := [.sl (List.map encNode p0.Nodes), .int .i64 p0.Rings, .int .i64 p0.Room]) rfl ⟨rn_sl encNode_p rfl, rn_int rfl, rn_int rfl, trivial⟩ (rw_mp (ek := kI) (ev := kI) (ys := s5) rfl (fun _ => pure_int _ _) (fun _ => pure_int _ _) rfl (rw_mp (ek := kI) (ev := kI) (ys := s6) rfl (fun _ => pure_int _ _) (fun _ => pure_int _ _) rfl (rw_box (cs := [.int .i64 x8.Kind, .int .i64 x8.A, .sl (List.map encI x8.In), .sl (List.map encI x8.Out)]) (ds := [.int .i64 x8.Kind, .int .i64 x8.A, .sl (List.map encI x8.In), .sl (List.map encI x8.Out)]) rfl ⟨rn_int rfl, rn_int rfl, rn_sl encI_p rfl, rn_sl encI_p rfl, trivial⟩ (rw_nil))))))
                          · replace hz := ite_F hz hb_523
                            obtain ⟨x19, hx19, hz⟩ := bind_some hz
                            refine RS.yes rfl rfl rfl hb_523 (OP.q rfl (v_fieldAddr_ptr Ty.f126_1 rfl (off' := 1) rfl ?_))
                            refine RS.yes rfl rfl rfl hb_523 (o_load_ptr rfl rfl (loadRow1 Ty.k122 (c := .func 72 []) rfl ?_))
                            refine RS.yes rfl rfl rfl hb_523 (OP.q rfl (v_fieldAddr_ptr Ty.f67_3 rfl (off' := 3) rfl ?_))
                            refine RS.yes rfl rfl rfl hb_523 (o_load_ptr rfl rfl (loadRow1 Ty.k57 (c := .sl (List.map encI x8.Out)) rfl ?_))
                            refine RS.yes rfl rfl rfl hb_523 (OP.q rfl (v_len_sl Ty.s57 rfl ?_))
                            refine RS.yes rfl rfl rfl hb_523 (o_call (as0 := [.int .i64 ((x8.Out).length : Int)]) (as1 := [.int .i64 ((x8.Out).length : Int)]) (caps := []) (aw1 := [.box [.sl (List.map encNode p0.Nodes), .int .i64 p0.Rings, .int .i64 p0.Room], .mp (List.map kI (List.map Prod.fst s5)) (List.map kI (List.map Prod.snd s5)), .mp (List.map kI (List.map Prod.fst s6)) (List.map kI (List.map Prod.snd s6)), .box [.int .i64 x8.Kind, .int .i64 x8.A, .sl (List.map encI x8.In), .sl (List.map encI x8.Out)], .mp (List.map kI [1, 2, 3, 4, 5, 7, 6, 8]) [.agg [.func 74 [], .func 72 []], .agg [.func 72 [], .func 72 []], .agg [.func 72 [], .func 72 []], .agg [.func 72 [], .func 72 []], .agg [.func 72 [], .func 73 []], .agg [.func 72 [], .func 73 []], .agg [.func 73 [], .func 72 []], .agg [.func 72 [], .func 74 []]], .box [.func 72 [], .func 72 []]]) rfl rfl rfl (k_flat (v := .bool x19) (crossref_CheckNet_1_c ((x8.Out).length : Int) x19 hx19) (⟨pure_int _ _, trivial⟩) rfl ?_))
                            refine RS.yes rfl rfl rfl hb_523 (OP.q rfl (v_not rfl ?_))
                            refine RS.op rfl (OP.q rfl (v_pickF (v := .bool (!x19)) rfl hb_523 rfl ?_))
                            refine RS.nil ?_
                            exact T.weakR (hK () trivial) (Weak.mkN [] [0, 1, 2, 3] (by decide) (none_kept _) rfl ⟨rn_ptr rfl, rn_mpr rfl, rn_mpr rfl, rn_int rfl, rn_int rfl, rn_ptr rfl, rn_sl encNode_p rfl, rn_int rfl, rn_int rfl, rn_bool ((congrArg (fun p => p) (Option.some.inj hz)).symm), trivial⟩ (rw_box (cs := [.sl (List.map encNode p0.Nodes), .int .i64 p0.Rings, .int .i64 p0.Room]) (ds := [.sl (List.map encNode p0.Nodes), .int .i64 p0.Rings, .int .i64 p0.Room]) rfl ⟨rn_sl encNode_p rfl, rn_int rfl, rn_int rfl, trivial⟩ (rw_mp (ek := kI) (ev := kI) (ys := s5) rfl (fun _ => pure_int _ _) (fun _ => pure_int _ _) rfl (rw_mp (ek := kI) (ev := kI) (ys := s6) rfl (fun _ => pure_int _ _) (fun _ => pure_int _ _) rfl (rw_box (cs := [.int .i64 x8.Kind, .int .i64 x8.A, .sl (List.map encI x8.In), .sl (List.map encI x8.Out)]) (ds := [.int .i64 x8.Kind, .int .i64 x8.A, .sl (List.map encI x8.In), .sl (List.map encI x8.Out)]) rfl ⟨rn_int rfl, rn_int rfl, rn_sl encI_p rfl, rn_sl encI_p rfl, trivial⟩ (rw_nil))))))
                    · replace h := ite_F h hb_503
                      rcases bool_cases (x8.Kind == 5) with hb_504 | hb_504
                      · replace h := ite_T h hb_504
                        refine RS.op rfl (o_lookup_st_ok (ek := kI) (ks := [1, 2, 3, 4, 5, 7, 6, 8]) (vs := [.agg [.func 74 [], .func 72 []], .agg [.func 72 [], .func 72 []], .agg [.func 72 [], .func 72 []], .agg [.func 72 [], .func 72 []], .agg [.func 72 [], .func 73 []], .agg [.func 72 [], .func 73 []], .agg [.func 73 [], .func 72 []], .agg [.func 72 [], .func 74 []]]) (k := x8.Kind) (az := .agg [.nilf, .nilf]) (a := .agg [.func 72 [], .func 73 []]) (r := (some 4)) Try.underlying128 (KeyT.int Try.underlying3) Ty.w126 (fun _ _ _ => rel_agg (vs := [.nilFunc, .nilFunc]) (.cons (.nilf) (.cons (.nilf) (.nil))) rfl) rfl rfl rfl (kix_ne (ne_of_beq_false hb_500) (kix_ne (ne_of_beq_false hb_501) (kix_ne (ne_of_beq_false hb_502) (kix_ne (ne_of_beq_false hb_503) (kix_eq (eq_of_beq hb_504)))))) rfl ?_)
                        refine RS.op rfl (OP.q rfl (v_move (v := .tup [.agg [.func 72 [], .func 73 []], .bool true]) rfl ?_))
                        refine RS.op rfl (OP.q rfl (v_extract (v := .agg [.func 72 [], .func 73 []]) rfl rfl ?_))
                        refine RS.op rfl (OP.q rfl (v_extract (v := .bool true) rfl rfl ?_))
                        refine RS.op rfl (o_alloc Ty.z126 rfl (aw' := [.box [.sl (List.map encNode p0.Nodes), .int .i64 p0.Rings, .int .i64 p0.Room], .mp (List.map kI (List.map Prod.fst s5)) (List.map kI (List.map Prod.snd s5)), .mp (List.map kI (List.map Prod.fst s6)) (List.map kI (List.map Prod.snd s6)), .box [.int .i64 x8.Kind, .int .i64 x8.A, .sl (List.map encI x8.In), .sl (List.map encI x8.Out)], .mp (List.map kI [1, 2, 3, 4, 5, 7, 6, 8]) [.agg [.func 74 [], .func 72 []], .agg [.func 72 [], .func 72 []], .agg [.func 72 [], .func 72 []], .agg [.func 72 [], .func 72 []], .agg [.func 72 [], .func 73 []], .agg [.func 72 [], .func 73 []], .agg [.func 73 [], .func 72 []], .agg [.func 72 [], .func 74 []]], .box [.nilf, .nilf]]) rfl ?_)
                        refine RS.op rfl (o_store_ptr Ty.c126 Ty.i126 rfl (vs := [.func 72 [], .func 73 []]) rfl rfl rfl rfl (cs' := [.func 72 [], .func 73 []]) rfl (aw' := [.box [.sl (List.map encNode p0.Nodes), .int .i64 p0.Rings, .int .i64 p0.Room], .mp (List.map kI (List.map Prod.fst s5)) (List.map kI (List.map Prod.snd s5)), .mp (List.map kI (List.map Prod.fst s6)) (List.map kI (List.map Prod.snd s6)), .box [.int .i64 x8.Kind, .int .i64 x8.A, .sl (List.map encI x8.In), .sl (List.map encI x8.Out)], .mp (List.map kI [1, 2, 3, 4, 5, 7, 6, 8]) [.agg [.func 74 [], .func 72 []], .agg [.func 72 [], .func 72 []], .agg [.func 72 [], .func 72 []], .agg [.func 72 [], .func 72 []], .agg [.func 72 [], .func 73 []], .agg [.func 72 [], .func 73 []], .agg [.func 73 [], .func 72 []], .agg [.func 72 [], .func 74 []]], .box [.func 72 [], .func 73 []]]) rfl ?_)
                        refine RS.op rfl (OP.q rfl (v_assign (v := .bool true) rfl ?_))
                        refine RS.nil ?_
                        refine T.seq ?_
                        refine T.seq ?_
                        refine T.region ?_
                        refine RS.op rfl (OP.q rfl (v_move (v := .bool true) rfl ?_))
                        refine RS.op rfl (OP.q rfl (v_not rfl ?_))
                        refine RS.nil ?_
                        refine T.cond (b := false) rfl (fun hb => ?_) (fun hb => ?_)
                        · cases hb
                        · refine T.skip ?_
                          refine T.seq ?_
                          obtain ⟨x21, hx21, h⟩ := bind_some h
                          obtain ⟨zt_529, hz, h⟩ := bind_some h
                          revert hz h; revert zt_529; intro c23 hz h
                          refine T.join (Z := Unit) (fun _ => mkA 249 [(1, .ptr 0 0), (4, .mpr 1), (5, .mpr 2), (6, .int .i64 s3), (7, .int .i64 s4), (8, .ptr 3 0), (60, .sl (List.map encNode p0.Nodes)), (61, .int .i64 ((p0.Nodes).length : Int)), (62, .int .i64 s4), (116, .bool c23)]) (fun _ => [.box [.sl (List.map encNode p0.Nodes), .int .i64 p0.Rings, .int .i64 p0.Room], .mp (List.map kI (List.map Prod.fst s5)) (List.map kI (List.map Prod.snd s5)), .mp (List.map kI (List.map Prod.fst s6)) (List.map kI (List.map Prod.snd s6)), .box [.int .i64 x8.Kind, .int .i64 x8.A, .sl (List.map encI x8.In), .sl (List.map encI x8.Out)]]) (fun _ => True) (fun _ _ => ?_) (fun hK => ?_)
                          · show T _ _ _ _ (mkA 249 [(1, .ptr 0 0), (4, .mpr 1), (5, .mpr 2), (6, .int .i64 s3), (7, .int .i64 s4), (8, .ptr 3 0), (60, .sl (List.map encNode p0.Nodes)), (61, .int .i64 ((p0.Nodes).length : Int)), (62, .int .i64 s4), (116, .bool c23)]) [.box [.sl (List.map encNode p0.Nodes), .int .i64 p0.Rings, .int .i64 p0.Room], .mp (List.map kI (List.map Prod.fst s5)) (List.map kI (List.map Prod.snd s5)), .mp (List.map kI (List.map Prod.fst s6)) (List.map kI (List.map Prod.snd s6)), .box [.int .i64 x8.Kind, .int .i64 x8.A, .sl (List.map encI x8.In), .sl (List.map encI x8.Out)]]
                            refine T.cond (b := c23) rfl (fun hb_530 => ?_) (fun hb_530 => ?_)
                            · replace h := ite_T h hb_530
                              refine T.seq ?_
                              refine T.region ?_
                              refine RS.op rfl (OP.q rfl (v_assign (v := .nils) rfl ?_))
                              refine RS.op rfl (OP.q rfl (v_assign (v := .int .i64 4) rfl ?_))
                              refine RS.nil ?_
                              refine T.ret' (R := ?R531) ?hq531 ?_
                              case hq531 => repeat (first | exact RetIs.base | refine RetIs.thn ?_ | refine RetIs.blk ?_ | refine RetIs.lq ?_)
                              obtain ⟨w_532, h, hw_532⟩ := map_inr h
                              replace h := h.trans (congrArg some (hv_360 _ hw_532))
                              refine res_tmpA (v := .nils) rfl ?_
                              refine res_tmpA (v := .int .i64 4) rfl ?_
                              refine res_done ?_
                              exact ret_own (.tup [.ref 0, .int .i64 r.2]) [(0, 3, 1)] [4] (by decide) (none_kept _) rfl (rn_tup ⟨rn_ref rfl, rn_int (congrArg (fun r : (List Int) × Int => r.2) (Option.some.inj h)).symm, trivial⟩) (rw_arr (en := encI) (ys := []) rfl encI_p (congrArg (fun r : (List Int) × Int => r.1) (Option.some.inj h)).symm (rw_nil)) ⟨rfl, rfl⟩
                            · replace h := ite_F h hb_530
                              refine T.skip ?_
                              exact T.weakR (hK3 () h) (Weak.mkN [] [0, 1, 2, 3] (by decide) (none_kept _) rfl ⟨rn_ptr rfl, rn_mpr rfl, rn_mpr rfl, rn_int rfl, rn_int rfl, rn_ptr rfl, rn_sl encNode_p rfl, rn_int rfl, rn_int rfl, trivial⟩ (rw_box (cs := [.sl (List.map encNode p0.Nodes), .int .i64 p0.Rings, .int .i64 p0.Room]) (ds := [.sl (List.map encNode p0.Nodes), .int .i64 p0.Rings, .int .i64 p0.Room]) rfl ⟨rn_sl encNode_p rfl, rn_int rfl, rn_int rfl, trivial⟩ (rw_mp (ek := kI) (ev := kI) (ys := s5) rfl (fun _ => pure_int _ _) (fun _ => pure_int _ _) rfl (rw_mp (ek := kI) (ev := kI) (ys := s6) rfl (fun _ => pure_int _ _) (fun _ => pure_int _ _) rfl (rw_box (cs := [.int .i64 x8.Kind, .int .i64 x8.A, .sl (List.map encI x8.In), .sl (List.map encI x8.Out)]) (ds := [.int .i64 x8.Kind, .int .i64 x8.A, .sl (List.map encI x8.In), .sl (List.map encI x8.Out)]) rfl ⟨rn_int rfl, rn_int rfl, rn_sl encI_p rfl, rn_sl encI_p rfl, trivial⟩ (rw_nil))))))
                          · refine T.region ?_
                            refine RS.op rfl (OP.q rfl (v_fieldAddr_ptr Ty.f126_0 rfl (off' := 0) rfl ?_))
                            refine RS.op rfl (o_load_ptr rfl rfl (loadRow1 Ty.k122 (c := .func 72 []) rfl ?_))
                            refine RS.op rfl (OP.q rfl (v_fieldAddr_ptr Ty.f67_2 rfl (off' := 2) rfl ?_))
                            refine RS.op rfl (o_load_ptr rfl rfl (loadRow1 Ty.k57 (c := .sl (List.map encI x8.In)) rfl ?_))
                            refine RS.op rfl (OP.q rfl (v_len_sl Ty.s57 rfl ?_))
                            refine RS.op rfl (o_call (as0 := [.int .i64 ((x8.In).length : Int)]) (as1 := [.int .i64 ((x8.In).length : Int)]) (caps := []) (aw1 := [.box [.sl (List.map encNode p0.Nodes), .int .i64 p0.Rings, .int .i64 p0.Room], .mp (List.map kI (List.map Prod.fst s5)) (List.map kI (List.map Prod.snd s5)), .mp (List.map kI (List.map Prod.fst s6)) (List.map kI (List.map Prod.snd s6)), .box [.int .i64 x8.Kind, .int .i64 x8.A, .sl (List.map encI x8.In), .sl (List.map encI x8.Out)], .mp (List.map kI [1, 2, 3, 4, 5, 7, 6, 8]) [.agg [.func 74 [], .func 72 []], .agg [.func 72 [], .func 72 []], .agg [.func 72 [], .func 72 []], .agg [.func 72 [], .func 72 []], .agg [.func 72 [], .func 73 []], .agg [.func 72 [], .func 73 []], .agg [.func 73 [], .func 72 []], .agg [.func 72 [], .func 74 []]], .box [.func 72 [], .func 73 []]]) rfl rfl rfl (k_flat (v := .bool x21) (crossref_CheckNet_1_c ((x8.In).length : Int) x21 hx21) (⟨pure_int _ _, trivial⟩) rfl ?_))
                            refine RS.op rfl (OP.q rfl (v_not rfl ?_))
                            refine RS.op rfl (OP.q rfl (v_move (v := .bool (!x21)) rfl ?_))
                            rcases bool_cases (!x21) with hb_528 | hb_528
                            · replace hz := ite_T hz hb_528
                              refine RS.no rfl rfl rfl hb_528 ?_
                              refine RS.no rfl rfl rfl hb_528 ?_
                              refine RS.no rfl rfl rfl hb_528 ?_
                              refine RS.no rfl rfl rfl hb_528 ?_
                              refine RS.no rfl rfl rfl hb_528 ?_
                              refine RS.no rfl rfl rfl hb_528 ?_
                              refine RS.no rfl rfl rfl hb_528 ?_
                              refine RS.op rfl (OP.q rfl (v_pickT (v := .bool true) rfl hb_528 rfl ?_))
                              refine RS.nil ?_
                              exact T.weakR (hK () trivial) (Weak.mkN [] [0, 1, 2, 3] (by decide) (none_kept _) rfl ⟨rn_ptr rfl, rn_mpr rfl, rn_mpr rfl, rn_int rfl, rn_int rfl, rn_ptr rfl, rn_sl encNode_p rfl, rn_int rfl, rn_int rfl, rn_bool ((congrArg (fun p => p) (Option.some.inj hz)).symm), trivial⟩ (rw_box (cs := [.sl (List.map encNode p0.Nodes), .int .i64 p0.Rings, .int .i64 p0.Room]) (ds := [.sl (List.map encNode p0.Nodes), .int .i64 p0.Rings, .int .i64 p0.Room]) rfl ⟨rn_sl encNode_p rfl, rn_int rfl, rn_int rfl, trivial⟩ (rw_mp (ek := kI) (ev := kI) (ys := s5) rfl (fun _ => pure_int _ _) (fun _ => pure_int _ _) rfl (rw_mp (ek := kI) (ev := kI) (ys := s6) rfl (fun _ => pure_int _ _) (fun _ => pure_int _ _) rfl (rw_box (cs := [.int .i64 x8.Kind, .int .i64 x8.A, .sl (List.map encI x8.In), .sl (List.map encI x8.Out)]) (ds := [.int .i64 x8.Kind, .int .i64 x8.A, .sl (List.map encI x8.In), .sl (List.map encI x8.Out)]) rfl ⟨rn_int rfl, rn_int rfl, rn_sl encI_p rfl, rn_sl encI_p rfl, trivial⟩ (rw_nil))))))
                            · replace hz := ite_F hz hb_528
                              obtain ⟨x22, hx22, hz⟩ := bind_some hz
                              refine RS.yes rfl rfl rfl hb_528 (OP.q rfl (v_fieldAddr_ptr Ty.f126_1 rfl (off' := 1) rfl ?_))
                              refine RS.yes rfl rfl rfl hb_528 (o_load_ptr rfl rfl (loadRow1 Ty.k122 (c := .func 73 []) rfl ?_))
                              refine RS.yes rfl rfl rfl hb_528 (OP.q rfl (v_fieldAddr_ptr Ty.f67_3 rfl (off' := 3) rfl ?_))
                              refine RS.yes rfl rfl rfl hb_528 (o_load_ptr rfl rfl (loadRow1 Ty.k57 (c := .sl (List.map encI x8.Out)) rfl ?_))
                              refine RS.yes rfl rfl rfl hb_528 (OP.q rfl (v_len_sl Ty.s57 rfl ?_))
                              refine RS.yes rfl rfl rfl hb_528 (o_call (as0 := [.int .i64 ((x8.Out).length : Int)]) (as1 := [.int .i64 ((x8.Out).length : Int)]) (caps := []) (aw1 := [.box [.sl (List.map encNode p0.Nodes), .int .i64 p0.Rings, .int .i64 p0.Room], .mp (List.map kI (List.map Prod.fst s5)) (List.map kI (List.map Prod.snd s5)), .mp (List.map kI (List.map Prod.fst s6)) (List.map kI (List.map Prod.snd s6)), .box [.int .i64 x8.Kind, .int .i64 x8.A, .sl (List.map encI x8.In), .sl (List.map encI x8.Out)], .mp (List.map kI [1, 2, 3, 4, 5, 7, 6, 8]) [.agg [.func 74 [], .func 72 []], .agg [.func 72 [], .func 72 []], .agg [.func 72 [], .func 72 []], .agg [.func 72 [], .func 72 []], .agg [.func 72 [], .func 73 []], .agg [.func 72 [], .func 73 []], .agg [.func 73 [], .func 72 []], .agg [.func 72 [], .func 74 []]], .box [.func 72 [], .func 73 []]]) rfl rfl rfl (k_flat (v := .bool x22) (crossref_CheckNet_2_c ((x8.Out).length : Int) x22 hx22) (⟨pure_int _ _, trivial⟩) rfl ?_))
                              refine RS.yes rfl rfl rfl hb_528 (OP.q rfl (v_not rfl ?_))
                              refine RS.op rfl (OP.q rfl (v_pickF (v := .bool (!x22)) rfl hb_528 rfl ?_))
                              refine RS.nil ?_
                              exact T.weakR (hK () trivial) (Weak.mkN [] [0, 1, 2, 3] (by decide) (none_kept _) rfl ⟨rn_ptr rfl, rn_mpr rfl, rn_mpr rfl, rn_int rfl, rn_int rfl, rn_ptr rfl, rn_sl encNode_p rfl, rn_int rfl, rn_int rfl, rn_bool ((congrArg (fun p => p) (Option.some.inj hz)).symm), trivial⟩ (rw_box (cs := [.sl (List.map encNode p0.Nodes), .int .i64 p0.Rings, .int .i64 p0.Room]) (ds := [.sl (List.map encNode p0.Nodes), .int .i64 p0.Rings, .int .i64 p0.Room]) rfl ⟨rn_sl encNode_p rfl, rn_int rfl, rn_int rfl, trivial⟩ (rw_mp (ek := kI) (ev := kI) (ys := s5) rfl (fun _ => pure_int _ _) (fun _ => pure_int _ _) rfl (rw_mp (ek := kI) (ev := kI) (ys := s6) rfl (fun _ => pure_int _ _) (fun _ => pure_int _ _) rfl (rw_box (cs := [.int .i64 x8.Kind, .int .i64 x8.A, .sl (List.map encI x8.In), .sl (List.map encI x8.Out)]) (ds := [.int .i64 x8.Kind, .int .i64 x8.A, .sl (List.map encI x8.In), .sl (List.map encI x8.Out)]) rfl ⟨rn_int rfl, rn_int rfl, rn_sl encI_p rfl, rn_sl encI_p rfl, trivial⟩ (rw_nil))))))
                      · replace h := ite_F h hb_504
                        rcases bool_cases (x8.Kind == 7) with hb_505 | hb_505
                        · replace h := ite_T h hb_505
                          refine RS.op rfl (o_lookup_st_ok (ek := kI) (ks := [1, 2, 3, 4, 5, 7, 6, 8]) (vs := [.agg [.func 74 [], .func 72 []], .agg [.func 72 [], .func 72 []], .agg [.func 72 [], .func 72 []], .agg [.func 72 [], .func 72 []], .agg [.func 72 [], .func 73 []], .agg [.func 72 [], .func 73 []], .agg [.func 73 [], .func 72 []], .agg [.func 72 [], .func 74 []]]) (k := x8.Kind) (az := .agg [.nilf, .nilf]) (a := .agg [.func 72 [], .func 73 []]) (r := (some 5)) Try.underlying128 (KeyT.int Try.underlying3) Ty.w126 (fun _ _ _ => rel_agg (vs := [.nilFunc, .nilFunc]) (.cons (.nilf) (.cons (.nilf) (.nil))) rfl) rfl rfl rfl (kix_ne (ne_of_beq_false hb_500) (kix_ne (ne_of_beq_false hb_501) (kix_ne (ne_of_beq_false hb_502) (kix_ne (ne_of_beq_false hb_503) (kix_ne (ne_of_beq_false hb_504) (kix_eq (eq_of_beq hb_505))))))) rfl ?_)
                          refine RS.op rfl (OP.q rfl (v_move (v := .tup [.agg [.func 72 [], .func 73 []], .bool true]) rfl ?_))
                          refine RS.op rfl (OP.q rfl (v_extract (v := .agg [.func 72 [], .func 73 []]) rfl rfl ?_))
                          refine RS.op rfl (OP.q rfl (v_extract (v := .bool true) rfl rfl ?_))
                          refine RS.op rfl (o_alloc Ty.z126 rfl (aw' := [.box [.sl (List.map encNode p0.Nodes), .int .i64 p0.Rings, .int .i64 p0.Room], .mp (List.map kI (List.map Prod.fst s5)) (List.map kI (List.map Prod.snd s5)), .mp (List.map kI (List.map Prod.fst s6)) (List.map kI (List.map Prod.snd s6)), .box [.int .i64 x8.Kind, .int .i64 x8.A, .sl (List.map encI x8.In), .sl (List.map encI x8.Out)], .mp (List.map kI [1, 2, 3, 4, 5, 7, 6, 8]) [.agg [.func 74 [], .func 72 []], .agg [.func 72 [], .func 72 []], .agg [.func 72 [], .func 72 []], .agg [.func 72 [], .func 72 []], .agg [.func 72 [], .func 73 []], .agg [.func 72 [], .func 73 []], .agg [.func 73 [], .func 72 []], .agg [.func 72 [], .func 74 []]], .box [.nilf, .nilf]]) rfl ?_)
                          refine RS.op rfl (o_store_ptr Ty.c126 Ty.i126 rfl (vs := [.func 72 [], .func 73 []]) rfl rfl rfl rfl (cs' := [.func 72 [], .func 73 []]) rfl (aw' := [.box [.sl (List.map encNode p0.Nodes), .int .i64 p0.Rings, .int .i64 p0.Room], .mp (List.map kI (List.map Prod.fst s5)) (List.map kI (List.map Prod.snd s5)), .mp (List.map kI (List.map Prod.fst s6)) (List.map kI (List.map Prod.snd s6)), .box [.int .i64 x8.Kind, .int .i64 x8.A, .sl (List.map encI x8.In), .sl (List.map encI x8.Out)], .mp (List.map kI [1, 2, 3, 4, 5, 7, 6, 8]) [.agg [.func 74 [], .func 72 []], .agg [.func 72 [], .func 72 []], .agg [.func 72 [], .func 72 []], .agg [.func 72 [], .func 72 []], .agg [.func 72 [], .func 73 []], .agg [.func 72 [], .func 73 []], .agg [.func 73 [], .func 72 []], .agg [.func 72 [], .func 74 []]], .box [.func 72 [], .func 73 []]]) rfl ?_)
                          refine RS.op rfl (OP.q rfl (v_assign (v := .bool true) rfl ?_))
                          refine RS.nil ?_
                          refine T.seq ?_
                          refine T.seq ?_
                          refine T.region ?_
                          refine RS.op rfl (OP.q rfl (v_move (v := .bool true) rfl ?_))
                          refine RS.op rfl (OP.q rfl (v_not rfl ?_))
                          refine RS.nil ?_
                          refine T.cond (b := false) rfl (fun hb => ?_) (fun hb => ?_)
                          · cases hb
                          · refine T.skip ?_
                            refine T.seq ?_
                            obtain ⟨x24, hx24, h⟩ := bind_some h
                            obtain ⟨zt_534, hz, h⟩ := bind_some h
                            revert hz h; revert zt_534; intro c26 hz h
                            refine T.join (Z := Unit) (fun _ => mkA 249 [(1, .ptr 0 0), (4, .mpr 1), (5, .mpr 2), (6, .int .i64 s3), (7, .int .i64 s4), (8, .ptr 3 0), (60, .sl (List.map encNode p0.Nodes)), (61, .int .i64 ((p0.Nodes).length : Int)), (62, .int .i64 s4), (116, .bool c26)]) (fun _ => [.box [.sl (List.map encNode p0.Nodes), .int .i64 p0.Rings, .int .i64 p0.Room], .mp (List.map kI (List.map Prod.fst s5)) (List.map kI (List.map Prod.snd s5)), .mp (List.map kI (List.map Prod.fst s6)) (List.map kI (List.map Prod.snd s6)), .box [.int .i64 x8.Kind, .int .i64 x8.A, .sl (List.map encI x8.In), .sl (List.map encI x8.Out)]]) (fun _ => True) (fun _ _ => ?_) (fun hK => ?_)
                            · show T _ _ _ _ (mkA 249 [(1, .ptr 0 0), (4, .mpr 1), (5, .mpr 2), (6, .int .i64 s3), (7, .int .i64 s4), (8, .ptr 3 0), (60, .sl (List.map encNode p0.Nodes)), (61, .int .i64 ((p0.Nodes).length : Int)), (62, .int .i64 s4), (116, .bool c26)]) [.box [.sl (List.map encNode p0.Nodes), .int .i64 p0.Rings, .int .i64 p0.Room], .mp (List.map kI (List.map Prod.fst s5)) (List.map kI (List.map Prod.snd s5)), .mp (List.map kI (List.map Prod.fst s6)) (List.map kI (List.map Prod.snd s6)), .box [.int .i64 x8.Kind, .int .i64 x8.A, .sl (List.map encI x8.In), .sl (List.map encI x8.Out)]]
                              refine T.cond (b := c26) rfl (fun hb_535 => ?_) (fun hb_535 => ?_)
                              · replace h := ite_T h hb_535
                                refine T.seq ?_
                                refine T.region ?_
                                refine RS.op rfl (OP.q rfl (v_assign (v := .nils) rfl ?_))
                                refine RS.op rfl (OP.q rfl (v_assign (v := .int .i64 4) rfl ?_))
                                refine RS.nil ?_
                                refine T.ret' (R := ?R536) ?hq536 ?_
                                case hq536 => repeat (first | exact RetIs.base | refine RetIs.thn ?_ | refine RetIs.blk ?_ | refine RetIs.lq ?_)
                                obtain ⟨w_537, h, hw_537⟩ := map_inr h
                                replace h := h.trans (congrArg some (hv_360 _ hw_537))
                                refine res_tmpA (v := .nils) rfl ?_
                                refine res_tmpA (v := .int .i64 4) rfl ?_
                                refine res_done ?_
                                exact ret_own (.tup [.ref 0, .int .i64 r.2]) [(0, 3, 1)] [4] (by decide) (none_kept _) rfl (rn_tup ⟨rn_ref rfl, rn_int (congrArg (fun r : (List Int) × Int => r.2) (Option.some.inj h)).symm, trivial⟩) (rw_arr (en := encI) (ys := []) rfl encI_p (congrArg (fun r : (List Int) × Int => r.1) (Option.some.inj h)).symm (rw_nil)) ⟨rfl, rfl⟩
                              · replace h := ite_F h hb_535
                                refine T.skip ?_
                                exact T.weakR (hK3 () h) (Weak.mkN [] [0, 1, 2, 3] (by decide) (none_kept _) rfl ⟨rn_ptr rfl, rn_mpr rfl, rn_mpr rfl, rn_int rfl, rn_int rfl, rn_ptr rfl, rn_sl encNode_p rfl, rn_int rfl, rn_int rfl, trivial⟩ (rw_box (cs := [.sl (List.map encNode p0.Nodes), .int .i64 p0.Rings, .int .i64 p0.Room]) (ds := [.sl (List.map encNode p0.Nodes), .int .i64 p0.Rings, .int .i64 p0.Room]) rfl ⟨rn_sl encNode_p rfl, rn_int rfl, rn_int rfl, trivial⟩ (rw_mp (ek := kI) (ev := kI) (ys := s5) rfl (fun _ => pure_int _ _) (fun _ => pure_int _ _) rfl (rw_mp (ek := kI) (ev := kI) (ys := s6) rfl (fun _ => pure_int _ _) (fun _ => pure_int _ _) rfl (rw_box (cs := [.int .i64 x8.Kind, .int .i64 x8.A, .sl (List.map encI x8.In), .sl (List.map encI x8.Out)]) (ds := [.int .i64 x8.Kind, .int .i64 x8.A, .sl (List.map encI x8.In), .sl (List.map encI x8.Out)]) rfl ⟨rn_int rfl, rn_int rfl, rn_sl encI_p rfl, rn_sl encI_p rfl, trivial⟩ (rw_nil))))))
                            · refine T.region ?_
                              refine RS.op rfl (OP.q rfl (v_fieldAddr_ptr Ty.f126_0 rfl (off' := 0) rfl ?_))
                              refine RS.op rfl (o_load_ptr rfl rfl (loadRow1 Ty.k122 (c := .func 72 []) rfl ?_))
                              refine RS.op rfl (OP.q rfl (v_fieldAddr_ptr Ty.f67_2 rfl (off' := 2) rfl ?_))
                              refine RS.op rfl (o_load_ptr rfl rfl (loadRow1 Ty.k57 (c := .sl (List.map encI x8.In)) rfl ?_))
                              refine RS.op rfl (OP.q rfl (v_len_sl Ty.s57 rfl ?_))
                              refine RS.op rfl (o_call (as0 := [.int .i64 ((x8.In).length : Int)]) (as1 := [.int .i64 ((x8.In).length : Int)]) (caps := []) (aw1 := [.box [.sl (List.map encNode p0.Nodes), .int .i64 p0.Rings, .int .i64 p0.Room], .mp (List.map kI (List.map Prod.fst s5)) (List.map kI (List.map Prod.snd s5)), .mp (List.map kI (List.map Prod.fst s6)) (List.map kI (List.map Prod.snd s6)), .box [.int .i64 x8.Kind, .int .i64 x8.A, .sl (List.map encI x8.In), .sl (List.map encI x8.Out)], .mp (List.map kI [1, 2, 3, 4, 5, 7, 6, 8]) [.agg [.func 74 [], .func 72 []], .agg [.func 72 [], .func 72 []], .agg [.func 72 [], .func 72 []], .agg [.func 72 [], .func 72 []], .agg [.func 72 [], .func 73 []], .agg [.func 72 [], .func 73 []], .agg [.func 73 [], .func 72 []], .agg [.func 72 [], .func 74 []]], .box [.func 72 [], .func 73 []]]) rfl rfl rfl (k_flat (v := .bool x24) (crossref_CheckNet_1_c ((x8.In).length : Int) x24 hx24) (⟨pure_int _ _, trivial⟩) rfl ?_))
                              refine RS.op rfl (OP.q rfl (v_not rfl ?_))
                              refine RS.op rfl (OP.q rfl (v_move (v := .bool (!x24)) rfl ?_))
                              rcases bool_cases (!x24) with hb_533 | hb_533
                              · replace hz := ite_T hz hb_533
                                refine RS.no rfl rfl rfl hb_533 ?_
                                refine RS.no rfl rfl rfl hb_533 ?_
                                refine RS.no rfl rfl rfl hb_533 ?_
                                refine RS.no rfl rfl rfl hb_533 ?_
                                refine RS.no rfl rfl rfl hb_533 ?_
                                refine RS.no rfl rfl rfl hb_533 ?_
                                refine RS.no rfl rfl rfl hb_533 ?_
                                refine RS.op rfl (OP.q rfl (v_pickT (v := .bool true) rfl hb_533 rfl ?_))
                                refine RS.nil ?_
                                exact T.weakR (hK () trivial) (Weak.mkN [] [0, 1, 2, 3] (by decide) (none_kept _) rfl ⟨rn_ptr rfl, rn_mpr rfl, rn_mpr rfl, rn_int rfl, rn_int rfl, rn_ptr rfl, rn_sl encNode_p rfl, rn_int rfl, rn_int rfl, rn_bool ((congrArg (fun p => p) (Option.some.inj hz)).symm), trivial⟩ (rw_box (cs := [.sl (List.map encNode p0.Nodes), .int .i64 p0.Rings, .int .i64 p0.Room]) (ds := [.sl (List.map encNode p0.Nodes), .int .i64 p0.Rings, .int .i64 p0.Room]) rfl ⟨rn_sl encNode_p rfl, rn_int rfl, rn_int rfl, trivial⟩ (rw_mp (ek := kI) (ev := kI) (ys := s5) rfl (fun _ => pure_int _ _) (fun _ => pure_int _ _) rfl (rw_mp (ek := kI) (ev := kI) (ys := s6) rfl (fun _ => pure_int _ _) (fun _ => pure_int _ _) rfl (rw_box (cs := [.int .i64 x8.Kind, .int .i64 x8.A, .sl (List.map encI x8.In), .sl (List.map encI x8.Out)]) (ds := [.int .i64 x8.Kind, .int .i64 x8.A, .sl (List.map encI x8.In), .sl (List.map encI x8.Out)]) rfl ⟨rn_int rfl, rn_int rfl, rn_sl encI_p rfl, rn_sl encI_p rfl, trivial⟩ (rw_nil))))))
                              · replace hz := ite_F hz hb_533
                                obtain ⟨x25, hx25, hz⟩ := bind_some hz
                                refine RS.yes rfl rfl rfl hb_533 (OP.q rfl (v_fieldAddr_ptr Ty.f126_1 rfl (off' := 1) rfl ?_))
                                refine RS.yes rfl rfl rfl hb_533 (o_load_ptr rfl rfl (loadRow1 Ty.k122 (c := .func 73 []) rfl ?_))
                                refine RS.yes rfl rfl rfl hb_533 (OP.q rfl (v_fieldAddr_ptr Ty.f67_3 rfl (off' := 3) rfl ?_))
                                refine RS.yes rfl rfl rfl hb_533 (o_load_ptr rfl rfl (loadRow1 Ty.k57 (c := .sl (List.map encI x8.Out)) rfl ?_))
                                refine RS.yes rfl rfl rfl hb_533 (OP.q rfl (v_len_sl Ty.s57 rfl ?_))
                                refine RS.yes rfl rfl rfl hb_533 (o_call (as0 := [.int .i64 ((x8.Out).length : Int)]) (as1 := [.int .i64 ((x8.Out).length : Int)]) (caps := []) (aw1 := [.box [.sl (List.map encNode p0.Nodes), .int .i64 p0.Rings, .int .i64 p0.Room], .mp (List.map kI (List.map Prod.fst s5)) (List.map kI (List.map Prod.snd s5)), .mp (List.map kI (List.map Prod.fst s6)) (List.map kI (List.map Prod.snd s6)), .box [.int .i64 x8.Kind, .int .i64 x8.A, .sl (List.map encI x8.In), .sl (List.map encI x8.Out)], .mp (List.map kI [1, 2, 3, 4, 5, 7, 6, 8]) [.agg [.func 74 [], .func 72 []], .agg [.func 72 [], .func 72 []], .agg [.func 72 [], .func 72 []], .agg [.func 72 [], .func 72 []], .agg [.func 72 [], .func 73 []], .agg [.func 72 [], .func 73 []], .agg [.func 73 [], .func 72 []], .agg [.func 72 [], .func 74 []]], .box [.func 72 [], .func 73 []]]) rfl rfl rfl (k_flat (v := .bool x25) (crossref_CheckNet_2_c ((x8.Out).length : Int) x25 hx25) (⟨pure_int _ _, trivial⟩) rfl ?_))
                                refine RS.yes rfl rfl rfl hb_533 (OP.q rfl (v_not rfl ?_))
                                refine RS.op rfl (OP.q rfl (v_pickF (v := .bool (!x25)) rfl hb_533 rfl ?_))
                                refine RS.nil ?_
                                exact T.weakR (hK () trivial) (Weak.mkN [] [0, 1, 2, 3] (by decide) (none_kept _) rfl ⟨rn_ptr rfl, rn_mpr rfl, rn_mpr rfl, rn_int rfl, rn_int rfl, rn_ptr rfl, rn_sl encNode_p rfl, rn_int rfl, rn_int rfl, rn_bool ((congrArg (fun p => p) (Option.some.inj hz)).symm), trivial⟩ (rw_box (cs := [.sl (List.map encNode p0.Nodes), .int .i64 p0.Rings, .int .i64 p0.Room]) (ds := [.sl (List.map encNode p0.Nodes), .int .i64 p0.Rings, .int .i64 p0.Room]) rfl ⟨rn_sl encNode_p rfl, rn_int rfl, rn_int rfl, trivial⟩ (rw_mp (ek := kI) (ev := kI) (ys := s5) rfl (fun _ => pure_int _ _) (fun _ => pure_int _ _) rfl (rw_mp (ek := kI) (ev := kI) (ys := s6) rfl (fun _ => pure_int _ _) (fun _ => pure_int _ _) rfl (rw_box (cs := [.int .i64 x8.Kind, .int .i64 x8.A, .sl (List.map encI x8.In), .sl (List.map encI x8.Out)]) (ds := [.int .i64 x8.Kind, .int .i64 x8.A, .sl (List.map encI x8.In), .sl (List.map encI x8.Out)]) rfl ⟨rn_int rfl, rn_int rfl, rn_sl encI_p rfl, rn_sl encI_p rfl, trivial⟩ (rw_nil))))))
                        · replace h := ite_F h hb_505
                          rcases bool_cases (x8.Kind == 6) with hb_506 | hb_506
                          · replace h := ite_T h hb_506
                            refine RS.op rfl (o_lookup_st_ok (ek := kI) (ks := [1, 2, 3, 4, 5, 7, 6, 8]) (vs := [.agg [.func 74 [], .func 72 []], .agg [.func 72 [], .func 72 []], .agg [.func 72 [], .func 72 []], .agg [.func 72 [], .func 72 []], .agg [.func 72 [], .func 73 []], .agg [.func 72 [], .func 73 []], .agg [.func 73 [], .func 72 []], .agg [.func 72 [], .func 74 []]]) (k := x8.Kind) (az := .agg [.nilf, .nilf]) (a := .agg [.func 73 [], .func 72 []]) (r := (some 6)) Try.underlying128 (KeyT.int Try.underlying3) Ty.w126 (fun _ _ _ => rel_agg (vs := [.nilFunc, .nilFunc]) (.cons (.nilf) (.cons (.nilf) (.nil))) rfl) rfl rfl rfl (kix_ne (ne_of_beq_false hb_500) (kix_ne (ne_of_beq_false hb_501) (kix_ne (ne_of_beq_false hb_502) (kix_ne (ne_of_beq_false hb_503) (kix_ne (ne_of_beq_false hb_504) (kix_ne (ne_of_beq_false hb_505) (kix_eq (eq_of_beq hb_506)))))))) rfl ?_)
                            refine RS.op rfl (OP.q rfl (v_move (v := .tup [.agg [.func 73 [], .func 72 []], .bool true]) rfl ?_))
                            refine RS.op rfl (OP.q rfl (v_extract (v := .agg [.func 73 [], .func 72 []]) rfl rfl ?_))
                            refine RS.op rfl (OP.q rfl (v_extract (v := .bool true) rfl rfl ?_))
                            refine RS.op rfl (o_alloc Ty.z126 rfl (aw' := [.box [.sl (List.map encNode p0.Nodes), .int .i64 p0.Rings, .int .i64 p0.Room], .mp (List.map kI (List.map Prod.fst s5)) (List.map kI (List.map Prod.snd s5)), .mp (List.map kI (List.map Prod.fst s6)) (List.map kI (List.map Prod.snd s6)), .box [.int .i64 x8.Kind, .int .i64 x8.A, .sl (List.map encI x8.In), .sl (List.map encI x8.Out)], .mp (List.map kI [1, 2, 3, 4, 5, 7, 6, 8]) [.agg [.func 74 [], .func 72 []], .agg [.func 72 [], .func 72 []], .agg [.func 72 [], .func 72 []], .agg [.func 72 [], .func 72 []], .agg [.func 72 [], .func 73 []], .agg [.func 72 [], .func 73 []], .agg [.func 73 [], .func 72 []], .agg [.func 72 [], .func 74 []]], .box [.nilf, .nilf]]) rfl ?_)
                            refine RS.op rfl (o_store_ptr Ty.c126 Ty.i126 rfl (vs := [.func 73 [], .func 72 []]) rfl rfl rfl rfl (cs' := [.func 73 [], .func 72 []]) rfl (aw' := [.box [.sl (List.map encNode p0.Nodes), .int .i64 p0.Rings, .int .i64 p0.Room], .mp (List.map kI (List.map Prod.fst s5)) (List.map kI (List.map Prod.snd s5)), .mp (List.map kI (List.map Prod.fst s6)) (List.map kI (List.map Prod.snd s6)), .box [.int .i64 x8.Kind, .int .i64 x8.A, .sl (List.map encI x8.In), .sl (List.map encI x8.Out)], .mp (List.map kI [1, 2, 3, 4, 5, 7, 6, 8]) [.agg [.func 74 [], .func 72 []], .agg [.func 72 [], .func 72 []], .agg [.func 72 [], .func 72 []], .agg [.func 72 [], .func 72 []], .agg [.func 72 [], .func 73 []], .agg [.func 72 [], .func 73 []], .agg [.func 73 [], .func 72 []], .agg [.func 72 [], .func 74 []]], .box [.func 73 [], .func 72 []]]) rfl ?_)
                            refine RS.op rfl (OP.q rfl (v_assign (v := .bool true) rfl ?_))
                            refine RS.nil ?_
                            refine T.seq ?_
                            refine T.seq ?_
                            refine T.region ?_
                            refine RS.op rfl (OP.q rfl (v_move (v := .bool true) rfl ?_))
                            refine RS.op rfl (OP.q rfl (v_not rfl ?_))
                            refine RS.nil ?_
                            refine T.cond (b := false) rfl (fun hb => ?_) (fun hb => ?_)
                            · cases hb
                            · refine T.skip ?_
                              refine T.seq ?_
                              obtain ⟨x27, hx27, h⟩ := bind_some h
                              obtain ⟨zt_539, hz, h⟩ := bind_some h
                              revert hz h; revert zt_539; intro c29 hz h
                              refine T.join (Z := Unit) (fun _ => mkA 249 [(1, .ptr 0 0), (4, .mpr 1), (5, .mpr 2), (6, .int .i64 s3), (7, .int .i64 s4), (8, .ptr 3 0), (60, .sl (List.map encNode p0.Nodes)), (61, .int .i64 ((p0.Nodes).length : Int)), (62, .int .i64 s4), (116, .bool c29)]) (fun _ => [.box [.sl (List.map encNode p0.Nodes), .int .i64 p0.Rings, .int .i64 p0.Room], .mp (List.map kI (List.map Prod.fst s5)) (List.map kI (List.map Prod.snd s5)), .mp (List.map kI (List.map Prod.fst s6)) (List.map kI (List.map Prod.snd s6)), .box [.int .i64 x8.Kind, .int .i64 x8.A, .sl (List.map encI x8.In), .sl (List.map encI x8.Out)]]) (fun _ => True) (fun _ _ => ?_) (fun hK => ?_)
                              · show T _ _ _ _ (mkA 249 [(1, .ptr 0 0), (4, .mpr 1), (5, .mpr 2), (6, .int .i64 s3), (7, .int .i64 s4), (8, .ptr 3 0), (60, .sl (List.map encNode p0.Nodes)), (61, .int .i64 ((p0.Nodes).length : Int)), (62, .int .i64 s4), (116, .bool c29)]) [.box [.sl (List.map encNode p0.Nodes), .int .i64 p0.Rings, .int .i64 p0.Room], .mp (List.map kI (List.map Prod.fst s5)) (List.map kI (List.map Prod.snd s5)), .mp (List.map kI (List.map Prod.fst s6)) (List.map kI (List.map Prod.snd s6)), .box [.int .i64 x8.Kind, .int .i64 x8.A, .sl (List.map encI x8.In), .sl (List.map encI x8.Out)]]
                                refine T.cond (b := c29) rfl (fun hb_540 => ?_) (fun hb_540 => ?_)
                                · replace h := ite_T h hb_540
                                  refine T.seq ?_
                                  refine T.region ?_
                                  refine RS.op rfl (OP.q rfl (v_assign (v := .nils) rfl ?_))
                                  refine RS.op rfl (OP.q rfl (v_assign (v := .int .i64 4) rfl ?_))
                                  refine RS.nil ?_
                                  refine T.ret' (R := ?R541) ?hq541 ?_
                                  case hq541 => repeat (first | exact RetIs.base | refine RetIs.thn ?_ | refine RetIs.blk ?_ | refine RetIs.lq ?_)
                                  obtain ⟨w_542, h, hw_542⟩ := map_inr h
                                  replace h := h.trans (congrArg some (hv_360 _ hw_542))
                                  refine res_tmpA (v := .nils) rfl ?_
                                  refine res_tmpA (v := .int .i64 4) rfl ?_
                                  refine res_done ?_
                                  exact ret_own (.tup [.ref 0, .int .i64 r.2]) [(0, 3, 1)] [4] (by decide) (none_kept _) rfl (rn_tup ⟨rn_ref rfl, rn_int (congrArg (fun r : (List Int) × Int => r.2) (Option.some.inj h)).symm, trivial⟩) (rw_arr (en := encI) (ys := []) rfl encI_p (congrArg (fun r : (List Int) × Int => r.1) (Option.some.inj h)).symm (rw_nil)) ⟨rfl, rfl⟩
                                · replace h := ite_F h hb_540
                                  refine T.skip ?_
                                  exact T.weakR (hK3 () h) (Weak.mkN [] [0, 1, 2, 3] (by decide) (none_kept _) rfl ⟨rn_ptr rfl, rn_mpr rfl, rn_mpr rfl, rn_int rfl, rn_int rfl, rn_ptr rfl, rn_sl encNode_p rfl, rn_int rfl, rn_int rfl, trivial⟩ (rw_box (cs := [.sl (List.map encNode p0.Nodes), .int .i64 p0.Rings, .int .i64 p0.Room]) (ds := [.sl (List.map encNode p0.Nodes), .int .i64 p0.Rings, .int .i64 p0.Room]) rfl ⟨rn_sl encNode_p rfl, rn_int rfl, rn_int rfl, trivial⟩ (rw_mp (ek := kI) (ev := kI) (ys := s5) rfl (fun _ => pure_int _ _) (fun _ => pure_int _ _) rfl (rw_mp (ek := kI) (ev := kI) (ys := s6) rfl (fun _ => pure_int _ _) (fun _ => pure_int _ _) rfl (rw_box (cs := [.int .i64 x8.Kind, .int .i64 x8.A, .sl (List.map encI x8.In), .sl (List.map encI x8.Out)]) (ds := [.int .i64 x8.Kind, .int .i64 x8.A, .sl (List.map encI x8.In), .sl (List.map encI x8.Out)]) rfl ⟨rn_int rfl, rn_int rfl, rn_sl encI_p rfl, rn_sl encI_p rfl, trivial⟩ (rw_nil))))))
                              · refine T.region ?_
                                refine RS.op rfl (OP.q rfl (v_fieldAddr_ptr Ty.f126_0 rfl (off' := 0) rfl ?_))
                                refine RS.op rfl (o_load_ptr rfl rfl (loadRow1 Ty.k122 (c := .func 73 []) rfl ?_))
                                refine RS.op rfl (OP.q rfl (v_fieldAddr_ptr Ty.f67_2 rfl (off' := 2) rfl ?_))
                                refine RS.op rfl (o_load_ptr rfl rfl (loadRow1 Ty.k57 (c := .sl (List.map encI x8.In)) rfl ?_))
                                refine RS.op rfl (OP.q rfl (v_len_sl Ty.s57 rfl ?_))
                                refine RS.op rfl (o_call (as0 := [.int .i64 ((x8.In).length : Int)]) (as1 := [.int .i64 ((x8.In).length : Int)]) (caps := []) (aw1 := [.box [.sl (List.map encNode p0.Nodes), .int .i64 p0.Rings, .int .i64 p0.Room], .mp (List.map kI (List.map Prod.fst s5)) (List.map kI (List.map Prod.snd s5)), .mp (List.map kI (List.map Prod.fst s6)) (List.map kI (List.map Prod.snd s6)), .box [.int .i64 x8.Kind, .int .i64 x8.A, .sl (List.map encI x8.In), .sl (List.map encI x8.Out)], .mp (List.map kI [1, 2, 3, 4, 5, 7, 6, 8]) [.agg [.func 74 [], .func 72 []], .agg [.func 72 [], .func 72 []], .agg [.func 72 [], .func 72 []], .agg [.func 72 [], .func 72 []], .agg [.func 72 [], .func 73 []], .agg [.func 72 [], .func 73 []], .agg [.func 73 [], .func 72 []], .agg [.func 72 [], .func 74 []]], .box [.func 73 [], .func 72 []]]) rfl rfl rfl (k_flat (v := .bool x27) (crossref_CheckNet_2_c ((x8.In).length : Int) x27 hx27) (⟨pure_int _ _, trivial⟩) rfl ?_))
                                refine RS.op rfl (OP.q rfl (v_not rfl ?_))
                                refine RS.op rfl (OP.q rfl (v_move (v := .bool (!x27)) rfl ?_))
                                rcases bool_cases (!x27) with hb_538 | hb_538
                                · replace hz := ite_T hz hb_538
                                  refine RS.no rfl rfl rfl hb_538 ?_
                                  refine RS.no rfl rfl rfl hb_538 ?_
                                  refine RS.no rfl rfl rfl hb_538 ?_
                                  refine RS.no rfl rfl rfl hb_538 ?_
                                  refine RS.no rfl rfl rfl hb_538 ?_
                                  refine RS.no rfl rfl rfl hb_538 ?_
                                  refine RS.no rfl rfl rfl hb_538 ?_
                                  refine RS.op rfl (OP.q rfl (v_pickT (v := .bool true) rfl hb_538 rfl ?_))
                                  refine RS.nil ?_
                                  exact T.weakR (hK () trivial) (Weak.mkN [] [0, 1, 2, 3] (by decide) (none_kept _) rfl ⟨rn_ptr rfl, rn_mpr rfl, rn_mpr rfl, rn_int rfl, rn_int rfl, rn_ptr rfl, rn_sl encNode_p rfl, rn_int rfl, rn_int rfl, rn_bool ((congrArg (fun p => p) (Option.some.inj hz)).symm), trivial⟩ (rw_box (cs := [.sl (List.map encNode p0.Nodes), .int .i64 p0.Rings, .int .i64 p0.Room]) (ds := [.sl (List.map encNode p0.Nodes), .int .i64 p0.Rings, .int .i64 p0.Room]) rfl ⟨rn_sl encNode_p rfl, rn_int rfl, rn_int rfl, trivial⟩ (rw_mp (ek := kI) (ev := kI) (ys := s5) rfl (fun _ => pure_int _ _) (fun _ => pure_int _ _) rfl (rw_mp (ek := kI) (ev := kI) (ys := s6) rfl (fun _ => pure_int _ _) (fun _ => pure_int _ _) rfl (rw_box (cs := [.int .i64 x8.Kind, .int .i64 x8.A, .sl (List.map encI x8.In), .sl (List.map encI x8.Out)]) (ds := [.int .i64 x8.Kind, .int .i64 x8.A, .sl (List.map encI x8.In), .sl (List.map encI x8.Out)]) rfl ⟨rn_int rfl, rn_int rfl, rn_sl encI_p rfl, rn_sl encI_p rfl, trivial⟩ (rw_nil))))))
                                · replace hz := ite_F hz hb_538
                                  obtain ⟨x28, hx28, hz⟩ := bind_some hz
                                  refine RS.yes rfl rfl rfl hb_538 (OP.q rfl (v_fieldAddr_ptr Ty.f126_1 rfl (off' := 1) rfl ?_))
                                  refine RS.yes rfl rfl rfl hb_538 (o_load_ptr rfl rfl (loadRow1 Ty.k122 (c := .func 72 []) rfl ?_))
                                  refine RS.yes rfl rfl rfl hb_538 (OP.q rfl (v_fieldAddr_ptr Ty.f67_3 rfl (off' := 3) rfl ?_))
                                  refine RS.yes rfl rfl rfl hb_538 (o_load_ptr rfl rfl (loadRow1 Ty.k57 (c := .sl (List.map encI x8.Out)) rfl ?_))
                                  refine RS.yes rfl rfl rfl hb_538 (OP.q rfl (v_len_sl Ty.s57 rfl ?_))
                                  refine RS.yes rfl rfl rfl hb_538 (o_call (as0 := [.int .i64 ((x8.Out).length : Int)]) (as1 := [.int .i64 ((x8.Out).length : Int)]) (caps := []) (aw1 := [.box [.sl (List.map encNode p0.Nodes), .int .i64 p0.Rings, .int .i64 p0.Room], .mp (List.map kI (List.map Prod.fst s5)) (List.map kI (List.map Prod.snd s5)), .mp (List.map kI (List.map Prod.fst s6)) (List.map kI (List.map Prod.snd s6)), .box [.int .i64 x8.Kind, .int .i64 x8.A, .sl (List.map encI x8.In), .sl (List.map encI x8.Out)], .mp (List.map kI [1, 2, 3, 4, 5, 7, 6, 8]) [.agg [.func 74 [], .func 72 []], .agg [.func 72 [], .func 72 []], .agg [.func 72 [], .func 72 []], .agg [.func 72 [], .func 72 []], .agg [.func 72 [], .func 73 []], .agg [.func 72 [], .func 73 []], .agg [.func 73 [], .func 72 []], .agg [.func 72 [], .func 74 []]], .box [.func 73 [], .func 72 []]]) rfl rfl rfl (k_flat (v := .bool x28) (crossref_CheckNet_1_c ((x8.Out).length : Int) x28 hx28) (⟨pure_int _ _, trivial⟩) rfl ?_))
                                  refine RS.yes rfl rfl rfl hb_538 (OP.q rfl (v_not rfl ?_))
                                  refine RS.op rfl (OP.q rfl (v_pickF (v := .bool (!x28)) rfl hb_538 rfl ?_))
                                  refine RS.nil ?_
                                  exact T.weakR (hK () trivial) (Weak.mkN [] [0, 1, 2, 3] (by decide) (none_kept _) rfl ⟨rn_ptr rfl, rn_mpr rfl, rn_mpr rfl, rn_int rfl, rn_int rfl, rn_ptr rfl, rn_sl encNode_p rfl, rn_int rfl, rn_int rfl, rn_bool ((congrArg (fun p => p) (Option.some.inj hz)).symm), trivial⟩ (rw_box (cs := [.sl (List.map encNode p0.Nodes), .int .i64 p0.Rings, .int .i64 p0.Room]) (ds := [.sl (List.map encNode p0.Nodes), .int .i64 p0.Rings, .int .i64 p0.Room]) rfl ⟨rn_sl encNode_p rfl, rn_int rfl, rn_int rfl, trivial⟩ (rw_mp (ek := kI) (ev := kI) (ys := s5) rfl (fun _ => pure_int _ _) (fun _ => pure_int _ _) rfl (rw_mp (ek := kI) (ev := kI) (ys := s6) rfl (fun _ => pure_int _ _) (fun _ => pure_int _ _) rfl (rw_box (cs := [.int .i64 x8.Kind, .int .i64 x8.A, .sl (List.map encI x8.In), .sl (List.map encI x8.Out)]) (ds := [.int .i64 x8.Kind, .int .i64 x8.A, .sl (List.map encI x8.In), .sl (List.map encI x8.Out)]) rfl ⟨rn_int rfl, rn_int rfl, rn_sl encI_p rfl, rn_sl encI_p rfl, trivial⟩ (rw_nil))))))
                          · replace h := ite_F h hb_506
                            rcases bool_cases (x8.Kind == 8) with hb_507 | hb_507
                            · replace h := ite_T h hb_507
                              refine RS.op rfl (o_lookup_st_ok (ek := kI) (ks := [1, 2, 3, 4, 5, 7, 6, 8]) (vs := [.agg [.func 74 [], .func 72 []], .agg [.func 72 [], .func 72 []], .agg [.func 72 [], .func 72 []], .agg [.func 72 [], .func 72 []], .agg [.func 72 [], .func 73 []], .agg [.func 72 [], .func 73 []], .agg [.func 73 [], .func 72 []], .agg [.func 72 [], .func 74 []]]) (k := x8.Kind) (az := .agg [.nilf, .nilf]) (a := .agg [.func 72 [], .func 74 []]) (r := (some 7)) Try.underlying128 (KeyT.int Try.underlying3) Ty.w126 (fun _ _ _ => rel_agg (vs := [.nilFunc, .nilFunc]) (.cons (.nilf) (.cons (.nilf) (.nil))) rfl) rfl rfl rfl (kix_ne (ne_of_beq_false hb_500) (kix_ne (ne_of_beq_false hb_501) (kix_ne (ne_of_beq_false hb_502) (kix_ne (ne_of_beq_false hb_503) (kix_ne (ne_of_beq_false hb_504) (kix_ne (ne_of_beq_false hb_505) (kix_ne (ne_of_beq_false hb_506) (kix_eq (eq_of_beq hb_507))))))))) rfl ?_)
                              refine RS.op rfl (OP.q rfl (v_move (v := .tup [.agg [.func 72 [], .func 74 []], .bool true]) rfl ?_))
                              refine RS.op rfl (OP.q rfl (v_extract (v := .agg [.func 72 [], .func 74 []]) rfl rfl ?_))
                              refine RS.op rfl (OP.q rfl (v_extract (v := .bool true) rfl rfl ?_))
                              refine RS.op rfl (o_alloc Ty.z126 rfl (aw' := [.box [.sl (List.map encNode p0.Nodes), .int .i64 p0.Rings, .int .i64 p0.Room], .mp (List.map kI (List.map Prod.fst s5)) (List.map kI (List.map Prod.snd s5)), .mp (List.map kI (List.map Prod.fst s6)) (List.map kI (List.map Prod.snd s6)), .box [.int .i64 x8.Kind, .int .i64 x8.A, .sl (List.map encI x8.In), .sl (List.map encI x8.Out)], .mp (List.map kI [1, 2, 3, 4, 5, 7, 6, 8]) [.agg [.func 74 [], .func 72 []], .agg [.func 72 [], .func 72 []], .agg [.func 72 [], .func 72 []], .agg [.func 72 [], .func 72 []], .agg [.func 72 [], .func 73 []], .agg [.func 72 [], .func 73 []], .agg [.func 73 [], .func 72 []], .agg [.func 72 [], .func 74 []]], .box [.nilf, .nilf]]) rfl ?_)
                              refine RS.op rfl (o_store_ptr Ty.c126 Ty.i126 rfl (vs := [.func 72 [], .func 74 []]) rfl rfl rfl rfl (cs' := [.func 72 [], .func 74 []]) rfl (aw' := [.box [.sl (List.map encNode p0.Nodes), .int .i64 p0.Rings, .int .i64 p0.Room], .mp (List.map kI (List.map Prod.fst s5)) (List.map kI (List.map Prod.snd s5)), .mp (List.map kI (List.map Prod.fst s6)) (List.map kI (List.map Prod.snd s6)), .box [.int .i64 x8.Kind, .int .i64 x8.A, .sl (List.map encI x8.In), .sl (List.map encI x8.Out)], .mp (List.map kI [1, 2, 3, 4, 5, 7, 6, 8]) [.agg [.func 74 [], .func 72 []], .agg [.func 72 [], .func 72 []], .agg [.func 72 [], .func 72 []], .agg [.func 72 [], .func 72 []], .agg [.func 72 [], .func 73 []], .agg [.func 72 [], .func 73 []], .agg [.func 73 [], .func 72 []], .agg [.func 72 [], .func 74 []]], .box [.func 72 [], .func 74 []]]) rfl ?_)
                              refine RS.op rfl (OP.q rfl (v_assign (v := .bool true) rfl ?_))
                              refine RS.nil ?_
                              refine T.seq ?_
                              refine T.seq ?_
                              refine T.region ?_
                              refine RS.op rfl (OP.q rfl (v_move (v := .bool true) rfl ?_))
                              refine RS.op rfl (OP.q rfl (v_not rfl ?_))
                              refine RS.nil ?_
                              refine T.cond (b := false) rfl (fun hb => ?_) (fun hb => ?_)
                              · cases hb
                              · refine T.skip ?_
                                refine T.seq ?_
                                obtain ⟨x30, hx30, h⟩ := bind_some h
                                obtain ⟨zt_544, hz, h⟩ := bind_some h
                                revert hz h; revert zt_544; intro c32 hz h
                                refine T.join (Z := Unit) (fun _ => mkA 249 [(1, .ptr 0 0), (4, .mpr 1), (5, .mpr 2), (6, .int .i64 s3), (7, .int .i64 s4), (8, .ptr 3 0), (60, .sl (List.map encNode p0.Nodes)), (61, .int .i64 ((p0.Nodes).length : Int)), (62, .int .i64 s4), (116, .bool c32)]) (fun _ => [.box [.sl (List.map encNode p0.Nodes), .int .i64 p0.Rings, .int .i64 p0.Room], .mp (List.map kI (List.map Prod.fst s5)) (List.map kI (List.map Prod.snd s5)), .mp (List.map kI (List.map Prod.fst s6)) (List.map kI (List.map Prod.snd s6)), .box [.int .i64 x8.Kind, .int .i64 x8.A, .sl (List.map encI x8.In), .sl (List.map encI x8.Out)]]) (fun _ => True) (fun _ _ => ?_) (fun hK => ?_)
                                · show T _ _ _ _ (mkA 249 [(1, .ptr 0 0), (4, .mpr 1), (5, .mpr 2), (6, .int .i64 s3), (7, .int .i64 s4), (8, .ptr 3 0), (60, .sl (List.map encNode p0.Nodes)), (61, .int .i64 ((p0.Nodes).length : Int)), (62, .int .i64 s4), (116, .bool c32)]) [.box [.sl (List.map encNode p0.Nodes), .int .i64 p0.Rings, .int .i64 p0.Room], .mp (List.map kI (List.map Prod.fst s5)) (List.map kI (List.map Prod.snd s5)), .mp (List.map kI (List.map Prod.fst s6)) (List.map kI (List.map Prod.snd s6)), .box [.int .i64 x8.Kind, .int .i64 x8.A, .sl (List.map encI x8.In), .sl (List.map encI x8.Out)]]
                                  refine T.cond (b := c32) rfl (fun hb_545 => ?_) (fun hb_545 => ?_)
                                  · replace h := ite_T h hb_545
                                    refine T.seq ?_
                                    refine T.region ?_
                                    refine RS.op rfl (OP.q rfl (v_assign (v := .nils) rfl ?_))
                                    refine RS.op rfl (OP.q rfl (v_assign (v := .int .i64 4) rfl ?_))
                                    refine RS.nil ?_
                                    refine T.ret' (R := ?R546) ?hq546 ?_
                                    case hq546 => repeat (first | exact RetIs.base | refine RetIs.thn ?_ | refine RetIs.blk ?_ | refine RetIs.lq ?_)
                                    obtain ⟨w_547, h, hw_547⟩ := map_inr h
                                    replace h := h.trans (congrArg some (hv_360 _ hw_547))
                                    refine res_tmpA (v := .nils) rfl ?_
                                    refine res_tmpA (v := .int .i64 4) rfl ?_
                                    refine res_done ?_
                                    exact ret_own (.tup [.ref 0, .int .i64 r.2]) [(0, 3, 1)] [4] (by decide) (none_kept _) rfl (rn_tup ⟨rn_ref rfl, rn_int (congrArg (fun r : (List Int) × Int => r.2) (Option.some.inj h)).symm, trivial⟩) (rw_arr (en := encI) (ys := []) rfl encI_p (congrArg (fun r : (List Int) × Int => r.1) (Option.some.inj h)).symm (rw_nil)) ⟨rfl, rfl⟩
                                  · replace h := ite_F h hb_545
                                    refine T.skip ?_
                                    exact T.weakR (hK3 () h) (Weak.mkN [] [0, 1, 2, 3] (by decide) (none_kept _) rfl ⟨rn_ptr rfl, rn_mpr rfl, rn_mpr rfl, rn_int rfl, rn_int rfl, rn_ptr rfl, rn_sl encNode_p rfl, rn_int rfl, rn_int rfl, trivial⟩ (rw_box (cs := [.sl (List.map encNode p0.Nodes), .int .i64 p0.Rings, .int .i64 p0.Room]) (ds := [.sl (List.map encNode p0.Nodes), .int .i64 p0.Rings, .int .i64 p0.Room]) rfl ⟨rn_sl encNode_p rfl, rn_int rfl, rn_int rfl, trivial⟩ (rw_mp (ek := kI) (ev := kI) (ys := s5) rfl (fun _ => pure_int _ _) (fun _ => pure_int _ _) rfl (rw_mp (ek := kI) (ev := kI) (ys := s6) rfl (fun _ => pure_int _ _) (fun _ => pure_int _ _) rfl (rw_box (cs := [.int .i64 x8.Kind, .int .i64 x8.A, .sl (List.map encI x8.In), .sl (List.map encI x8.Out)]) (ds := [.int .i64 x8.Kind, .int .i64 x8.A, .sl (List.map encI x8.In), .sl (List.map encI x8.Out)]) rfl ⟨rn_int rfl, rn_int rfl, rn_sl encI_p rfl, rn_sl encI_p rfl, trivial⟩ (rw_nil))))))
                                · refine T.region ?_
                                  refine RS.op rfl (OP.q rfl (v_fieldAddr_ptr Ty.f126_0 rfl (off' := 0) rfl ?_))
                                  refine RS.op rfl (o_load_ptr rfl rfl (loadRow1 Ty.k122 (c := .func 72 []) rfl ?_))
                                  refine RS.op rfl (OP.q rfl (v_fieldAddr_ptr Ty.f67_2 rfl (off' := 2) rfl ?_))
                                  refine RS.op rfl (o_load_ptr rfl rfl (loadRow1 Ty.k57 (c := .sl (List.map encI x8.In)) rfl ?_))
                                  refine RS.op rfl (OP.q rfl (v_len_sl Ty.s57 rfl ?_))
                                  refine RS.op rfl (o_call (as0 := [.int .i64 ((x8.In).length : Int)]) (as1 := [.int .i64 ((x8.In).length : Int)]) (caps := []) (aw1 := [.box [.sl (List.map encNode p0.Nodes), .int .i64 p0.Rings, .int .i64 p0.Room], .mp (List.map kI (List.map Prod.fst s5)) (List.map kI (List.map Prod.snd s5)), .mp (List.map kI (List.map Prod.fst s6)) (List.map kI (List.map Prod.snd s6)), .box [.int .i64 x8.Kind, .int .i64 x8.A, .sl (List.map encI x8.In), .sl (List.map encI x8.Out)], .mp (List.map kI [1, 2, 3, 4, 5, 7, 6, 8]) [.agg [.func 74 [], .func 72 []], .agg [.func 72 [], .func 72 []], .agg [.func 72 [], .func 72 []], .agg [.func 72 [], .func 72 []], .agg [.func 72 [], .func 73 []], .agg [.func 72 [], .func 73 []], .agg [.func 73 [], .func 72 []], .agg [.func 72 [], .func 74 []]], .box [.func 72 [], .func 74 []]]) rfl rfl rfl (k_flat (v := .bool x30) (crossref_CheckNet_1_c ((x8.In).length : Int) x30 hx30) (⟨pure_int _ _, trivial⟩) rfl ?_))
                                  refine RS.op rfl (OP.q rfl (v_not rfl ?_))
                                  refine RS.op rfl (OP.q rfl (v_move (v := .bool (!x30)) rfl ?_))
                                  rcases bool_cases (!x30) with hb_543 | hb_543
                                  · replace hz := ite_T hz hb_543
                                    refine RS.no rfl rfl rfl hb_543 ?_
                                    refine RS.no rfl rfl rfl hb_543 ?_
                                    refine RS.no rfl rfl rfl hb_543 ?_
                                    refine RS.no rfl rfl rfl hb_543 ?_
                                    refine RS.no rfl rfl rfl hb_543 ?_
                                    refine RS.no rfl rfl rfl hb_543 ?_
                                    refine RS.no rfl rfl rfl hb_543 ?_
                                    refine RS.op rfl (OP.q rfl (v_pickT (v := .bool true) rfl hb_543 rfl ?_))
                                    refine RS.nil ?_
                                    exact T.weakR (hK () trivial) (Weak.mkN [] [0, 1, 2, 3] (by decide) (none_kept _) rfl ⟨rn_ptr rfl, rn_mpr rfl, rn_mpr rfl, rn_int rfl, rn_int rfl, rn_ptr rfl, rn_sl encNode_p rfl, rn_int rfl, rn_int rfl, rn_bool ((congrArg (fun p => p) (Option.some.inj hz)).symm), trivial⟩ (rw_box (cs := [.sl (List.map encNode p0.Nodes), .int .i64 p0.Rings, .int .i64 p0.Room]) (ds := [.sl (List.map encNode p0.Nodes), .int .i64 p0.Rings, .int .i64 p0.Room]) rfl ⟨rn_sl encNode_p rfl, rn_int rfl, rn_int rfl, trivial⟩ (rw_mp (ek := kI) (ev := kI) (ys := s5) rfl (fun _ => pure_int _ _) (fun _ => pure_int _ _) rfl (rw_mp (ek := kI) (ev := kI) (ys := s6) rfl (fun _ => pure_int _ _) (fun _ => pure_int _ _) rfl (rw_box (cs := [.int .i64 x8.Kind, .int .i64 x8.A, .sl (List.map encI x8.In), .sl (List.map encI x8.Out)]) (ds := [.int .i64 x8.Kind, .int .i64 x8.A, .sl (List.map encI x8.In), .sl (List.map encI x8.Out)]) rfl ⟨rn_int rfl, rn_int rfl, rn_sl encI_p rfl, rn_sl encI_p rfl, trivial⟩ (rw_nil))))))
                                  · replace hz := ite_F hz hb_543
                                    obtain ⟨x31, hx31, hz⟩ := bind_some hz
                                    refine RS.yes rfl rfl rfl hb_543 (OP.q rfl (v_fieldAddr_ptr Ty.f126_1 rfl (off' := 1) rfl ?_))
                                    refine RS.yes rfl rfl rfl hb_543 (o_load_ptr rfl rfl (loadRow1 Ty.k122 (c := .func 74 []) rfl ?_))
                                    refine RS.yes rfl rfl rfl hb_543 (OP.q rfl (v_fieldAddr_ptr Ty.f67_3 rfl (off' := 3) rfl ?_))
                                    refine RS.yes rfl rfl rfl hb_543 (o_load_ptr rfl rfl (loadRow1 Ty.k57 (c := .sl (List.map encI x8.Out)) rfl ?_))
                                    refine RS.yes rfl rfl rfl hb_543 (OP.q rfl (v_len_sl Ty.s57 rfl ?_))
                                    refine RS.yes rfl rfl rfl hb_543 (o_call (as0 := [.int .i64 ((x8.Out).length : Int)]) (as1 := [.int .i64 ((x8.Out).length : Int)]) (caps := []) (aw1 := [.box [.sl (List.map encNode p0.Nodes), .int .i64 p0.Rings, .int .i64 p0.Room], .mp (List.map kI (List.map Prod.fst s5)) (List.map kI (List.map Prod.snd s5)), .mp (List.map kI (List.map Prod.fst s6)) (List.map kI (List.map Prod.snd s6)), .box [.int .i64 x8.Kind, .int .i64 x8.A, .sl (List.map encI x8.In), .sl (List.map encI x8.Out)], .mp (List.map kI [1, 2, 3, 4, 5, 7, 6, 8]) [.agg [.func 74 [], .func 72 []], .agg [.func 72 [], .func 72 []], .agg [.func 72 [], .func 72 []], .agg [.func 72 [], .func 72 []], .agg [.func 72 [], .func 73 []], .agg [.func 72 [], .func 73 []], .agg [.func 73 [], .func 72 []], .agg [.func 72 [], .func 74 []]], .box [.func 72 [], .func 74 []]]) rfl rfl rfl (k_flat (v := .bool x31) (crossref_CheckNet_3_c ((x8.Out).length : Int) x31 hx31) (⟨pure_int _ _, trivial⟩) rfl ?_))
                                    refine RS.yes rfl rfl rfl hb_543 (OP.q rfl (v_not rfl ?_))
                                    refine RS.op rfl (OP.q rfl (v_pickF (v := .bool (!x31)) rfl hb_543 rfl ?_))
                                    refine RS.nil ?_
                                    exact T.weakR (hK () trivial) (Weak.mkN [] [0, 1, 2, 3] (by decide) (none_kept _) rfl ⟨rn_ptr rfl, rn_mpr rfl, rn_mpr rfl, rn_int rfl, rn_int rfl, rn_ptr rfl, rn_sl encNode_p rfl, rn_int rfl, rn_int rfl, rn_bool ((congrArg (fun p => p) (Option.some.inj hz)).symm), trivial⟩ (rw_box (cs := [.sl (List.map encNode p0.Nodes), .int .i64 p0.Rings, .int .i64 p0.Room]) (ds := [.sl (List.map encNode p0.Nodes), .int .i64 p0.Rings, .int .i64 p0.Room]) rfl ⟨rn_sl encNode_p rfl, rn_int rfl, rn_int rfl, trivial⟩ (rw_mp (ek := kI) (ev := kI) (ys := s5) rfl (fun _ => pure_int _ _) (fun _ => pure_int _ _) rfl (rw_mp (ek := kI) (ev := kI) (ys := s6) rfl (fun _ => pure_int _ _) (fun _ => pure_int _ _) rfl (rw_box (cs := [.int .i64 x8.Kind, .int .i64 x8.A, .sl (List.map encI x8.In), .sl (List.map encI x8.Out)]) (ds := [.int .i64 x8.Kind, .int .i64 x8.A, .sl (List.map encI x8.In), .sl (List.map encI x8.Out)]) rfl ⟨rn_int rfl, rn_int rfl, rn_sl encI_p rfl, rn_sl encI_p rfl, trivial⟩ (rw_nil))))))
                            · replace h := ite_F h hb_507
                              refine RS.op rfl (o_lookup_st_ok (ek := kI) (ks := [1, 2, 3, 4, 5, 7, 6, 8]) (vs := [.agg [.func 74 [], .func 72 []], .agg [.func 72 [], .func 72 []], .agg [.func 72 [], .func 72 []], .agg [.func 72 [], .func 72 []], .agg [.func 72 [], .func 73 []], .agg [.func 72 [], .func 73 []], .agg [.func 73 [], .func 72 []], .agg [.func 72 [], .func 74 []]]) (k := x8.Kind) (az := .agg [.nilf, .nilf]) (a := .agg [.nilf, .nilf]) (r := none) Try.underlying128 (KeyT.int Try.underlying3) Ty.w126 (fun _ _ _ => rel_agg (vs := [.nilFunc, .nilFunc]) (.cons (.nilf) (.cons (.nilf) (.nil))) rfl) rfl rfl rfl (kix_ne (ne_of_beq_false hb_500) (kix_ne (ne_of_beq_false hb_501) (kix_ne (ne_of_beq_false hb_502) (kix_ne (ne_of_beq_false hb_503) (kix_ne (ne_of_beq_false hb_504) (kix_ne (ne_of_beq_false hb_505) (kix_ne (ne_of_beq_false hb_506) (kix_ne (ne_of_beq_false hb_507) kix_nil)))))))) rfl ?_)
                              refine RS.op rfl (OP.q rfl (v_move (v := .tup [.agg [.nilf, .nilf], .bool false]) rfl ?_))
                              refine RS.op rfl (OP.q rfl (v_extract (v := .agg [.nilf, .nilf]) rfl rfl ?_))
                              refine RS.op rfl (OP.q rfl (v_extract (v := .bool false) rfl rfl ?_))
                              refine RS.op rfl (o_alloc Ty.z126 rfl (aw' := [.box [.sl (List.map encNode p0.Nodes), .int .i64 p0.Rings, .int .i64 p0.Room], .mp (List.map kI (List.map Prod.fst s5)) (List.map kI (List.map Prod.snd s5)), .mp (List.map kI (List.map Prod.fst s6)) (List.map kI (List.map Prod.snd s6)), .box [.int .i64 x8.Kind, .int .i64 x8.A, .sl (List.map encI x8.In), .sl (List.map encI x8.Out)], .mp (List.map kI [1, 2, 3, 4, 5, 7, 6, 8]) [.agg [.func 74 [], .func 72 []], .agg [.func 72 [], .func 72 []], .agg [.func 72 [], .func 72 []], .agg [.func 72 [], .func 72 []], .agg [.func 72 [], .func 73 []], .agg [.func 72 [], .func 73 []], .agg [.func 73 [], .func 72 []], .agg [.func 72 [], .func 74 []]], .box [.nilf, .nilf]]) rfl ?_)
                              refine RS.op rfl (o_store_ptr Ty.c126 Ty.i126 rfl (vs := [.nilf, .nilf]) rfl rfl rfl rfl (cs' := [.nilf, .nilf]) rfl (aw' := [.box [.sl (List.map encNode p0.Nodes), .int .i64 p0.Rings, .int .i64 p0.Room], .mp (List.map kI (List.map Prod.fst s5)) (List.map kI (List.map Prod.snd s5)), .mp (List.map kI (List.map Prod.fst s6)) (List.map kI (List.map Prod.snd s6)), .box [.int .i64 x8.Kind, .int .i64 x8.A, .sl (List.map encI x8.In), .sl (List.map encI x8.Out)], .mp (List.map kI [1, 2, 3, 4, 5, 7, 6, 8]) [.agg [.func 74 [], .func 72 []], .agg [.func 72 [], .func 72 []], .agg [.func 72 [], .func 72 []], .agg [.func 72 [], .func 72 []], .agg [.func 72 [], .func 73 []], .agg [.func 72 [], .func 73 []], .agg [.func 73 [], .func 72 []], .agg [.func 72 [], .func 74 []]], .box [.nilf, .nilf]]) rfl ?_)
                              refine RS.op rfl (OP.q rfl (v_assign (v := .bool false) rfl ?_))
                              refine RS.nil ?_
                              refine T.seq ?_
                              refine T.seq ?_
                              refine T.region ?_
                              refine RS.op rfl (OP.q rfl (v_move (v := .bool false) rfl ?_))
                              refine RS.op rfl (OP.q rfl (v_not rfl ?_))
                              refine RS.nil ?_
                              refine T.cond (b := true) rfl (fun hb => ?_) (fun hb => ?_)
                              · refine T.seq ?_
                                refine T.region ?_
                                refine RS.op rfl (OP.q rfl (v_assign (v := .nils) rfl ?_))
                                refine RS.op rfl (OP.q rfl (v_assign (v := .int .i64 5) rfl ?_))
                                refine RS.nil ?_
                                refine T.ret' (R := ?R548) ?hq548 ?_
                                case hq548 => repeat (first | exact RetIs.base | refine RetIs.thn ?_ | refine RetIs.blk ?_ | refine RetIs.lq ?_)
                                obtain ⟨w_549, h, hw_549⟩ := map_inr h
                                replace h := h.trans (congrArg some (hv_360 _ hw_549))
                                refine res_tmpA (v := .nils) rfl ?_
                                refine res_tmpA (v := .int .i64 5) rfl ?_
                                refine res_done ?_
                                exact ret_own (.tup [.ref 0, .int .i64 r.2]) [(0, 3, 1)] [6] (by decide) (none_kept _) rfl (rn_tup ⟨rn_ref rfl, rn_int (congrArg (fun r : (List Int) × Int => r.2) (Option.some.inj h)).symm, trivial⟩) (rw_arr (en := encI) (ys := []) rfl encI_p (congrArg (fun r : (List Int) × Int => r.1) (Option.some.inj h)).symm (rw_nil)) ⟨rfl, rfl⟩
                              · cases hb
          · replace h := ite_F h hb_361
            refine T.exit ?_
            obtain ⟨w_550, h, hw_550⟩ := map_inr h
            replace h := h.trans (congrArg some (hv_360 _ hw_550))
            refine T.seq ?_
            refine T.join (Z := Unit) (fun _ => mkA 249 [(1, .ptr 0 0), (4, .mpr 1), (6, .int .i64 s3), (200, .bool ((((s5).length : Int) != p0.Rings) || ((s6).length : Int) != p0.Rings))]) (fun _ => [.box [.sl (List.map encNode p0.Nodes), .int .i64 p0.Rings, .int .i64 p0.Room], .mp (List.map kI (List.map Prod.fst s5)) (List.map kI (List.map Prod.snd s5))]) (fun _ => True) (fun _ _ => ?_) (fun hK => ?_)
            · show T _ _ _ _ (mkA 249 [(1, .ptr 0 0), (4, .mpr 1), (6, .int .i64 s3), (200, .bool ((((s5).length : Int) != p0.Rings) || ((s6).length : Int) != p0.Rings))]) [.box [.sl (List.map encNode p0.Nodes), .int .i64 p0.Rings, .int .i64 p0.Room], .mp (List.map kI (List.map Prod.fst s5)) (List.map kI (List.map Prod.snd s5))]
              refine T.cond (b := ((((s5).length : Int) != p0.Rings) || ((s6).length : Int) != p0.Rings)) rfl (fun hb_552 => ?_) (fun hb_552 => ?_)
              · replace h := ite_T h hb_552
                refine T.seq ?_
                refine T.region ?_
                refine RS.op rfl (OP.q rfl (v_assign (v := .nils) rfl ?_))
                refine RS.op rfl (OP.q rfl (v_assign (v := .int .i64 9) rfl ?_))
                refine RS.nil ?_
                refine T.ret' (R := ?R553) ?hq553 ?_
                case hq553 => repeat (first | exact RetIs.base | refine RetIs.thn ?_ | refine RetIs.blk ?_ | refine RetIs.lq ?_)
                refine res_tmpA (v := .nils) rfl ?_
                refine res_tmpA (v := .int .i64 9) rfl ?_
                refine res_done ?_
                exact ret_own (.tup [.ref 0, .int .i64 r.2]) [(0, 3, 1)] [2] (by decide) (none_kept _) rfl (rn_tup ⟨rn_ref rfl, rn_int (congrArg (fun r : (List Int) × Int => r.2) (Option.some.inj h)).symm, trivial⟩) (rw_arr (en := encI) (ys := []) rfl encI_p (congrArg (fun r : (List Int) × Int => r.1) (Option.some.inj h)).symm (rw_nil)) ⟨rfl, rfl⟩
              · replace h := ite_F h hb_552
                refine T.skip ?_
                refine T.seq ?_
                refine T.seq ?_
                refine T.region ?_
                refine RS.op rfl (OP.q rfl (v_move (v := .int .i64 s3) rfl ?_))
                refine RS.op rfl (OP.q rfl (v_neq rfl rfl ?_))
                refine RS.nil ?_
                refine T.cond (b := s3 != 1) rfl (fun hb_554 => ?_) (fun hb_554 => ?_)
                · replace h := ite_T h hb_554
                  refine T.seq ?_
                  refine T.region ?_
                  refine RS.op rfl (OP.q rfl (v_assign (v := .nils) rfl ?_))
                  refine RS.op rfl (OP.q rfl (v_assign (v := .int .i64 4) rfl ?_))
                  refine RS.nil ?_
                  refine T.ret' (R := ?R555) ?hq555 ?_
                  case hq555 => repeat (first | exact RetIs.base | refine RetIs.thn ?_ | refine RetIs.blk ?_ | refine RetIs.lq ?_)
                  refine res_tmpA (v := .nils) rfl ?_
                  refine res_tmpA (v := .int .i64 4) rfl ?_
                  refine res_done ?_
                  exact ret_own (.tup [.ref 0, .int .i64 r.2]) [(0, 3, 1)] [2] (by decide) (none_kept _) rfl (rn_tup ⟨rn_ref rfl, rn_int (congrArg (fun r : (List Int) × Int => r.2) (Option.some.inj h)).symm, trivial⟩) (rw_arr (en := encI) (ys := []) rfl encI_p (congrArg (fun r : (List Int) × Int => r.1) (Option.some.inj h)).symm (rw_nil)) ⟨rfl, rfl⟩
                · replace h := ite_F h hb_554
                  refine T.skip ?_
                  refine T.seq ?_
                  refine T.region ?_
                  refine RS.op rfl (OP.q rfl (v_assign (v := .nils) rfl ?_))
                  refine RS.nil ?_
                  refine T.seq ?_
                  refine T.seq ?_
                  refine T.region ?_
                  refine RS.op rfl (OP.q rfl (v_fieldAddr_ptr Ty.f56_0 rfl (off' := 0) rfl ?_))
                  refine RS.op rfl (o_load_ptr rfl rfl (loadRow1 Ty.k54 (c := .sl (List.map encNode p0.Nodes)) rfl ?_))
                  refine RS.op rfl (OP.q rfl (v_len_sl Ty.s54 rfl ?_))
                  refine RS.op rfl (OP.q rfl (v_move (v := .int .i64 0) rfl ?_))
                  refine RS.nil ?_
                  refine T.block ?_
                  refine T.iter (fun ss_634 : Int × (List Int) => mkA 249 [(1, .ptr 0 0), (4, .mpr 1), (23, .ref 2), (205, .int .i64 ((p0.Nodes).length : Int)), (206, .int .i64 ss_634.1)]) (fun ss_634 => [.box [.sl (List.map encNode p0.Nodes), .int .i64 p0.Rings, .int .i64 p0.Room], .mp (List.map kI (List.map Prod.fst s5)) (List.map kI (List.map Prod.snd s5)), .arr 3 1 (List.map encI ss_634.2)]) h (Weak.mkN [(23, 3, 1)] [0, 1, 2] (by decide) (none_kept _) rfl ⟨rn_ptr rfl, rn_mpr rfl, rn_ref rfl, rn_int rfl, rn_int rfl, trivial⟩ (rw_box (cs := [.sl (List.map encNode p0.Nodes), .int .i64 p0.Rings, .int .i64 p0.Room]) (ds := [.sl (List.map encNode p0.Nodes), .int .i64 p0.Rings, .int .i64 p0.Room]) rfl ⟨rn_sl encNode_p rfl, rn_int rfl, rn_int rfl, trivial⟩ (rw_mp (ek := kI) (ev := kI) (ys := s5) rfl (fun _ => pure_int _ _) (fun _ => pure_int _ _) rfl (rw_arr (en := encI) (ys := []) rfl encI_p rfl (rw_nil))))) (fun ss_634 v_635 h hv_635 => ?_)
                  obtain ⟨s45, s46⟩ := ss_634
                  replace h : crossref_CheckNet_l6 p0 s5 s45 s46 = some v_635 := h
                  show T _ _ _ _ (mkA 249 [(1, .ptr 0 0), (4, .mpr 1), (23, .ref 2), (205, .int .i64 ((p0.Nodes).length : Int)), (206, .int .i64 s45)]) [.box [.sl (List.map encNode p0.Nodes), .int .i64 p0.Rings, .int .i64 p0.Room], .mp (List.map kI (List.map Prod.fst s5)) (List.map kI (List.map Prod.snd s5)), .arr 3 1 (List.map encI s46)]
                  unfold crossref_CheckNet_l6 at h
                  refine T.seq ?_
                  refine T.region ?_
                  refine RS.op rfl (OP.q rfl (v_lss rfl rfl ?_))
                  refine RS.nil ?_
                  refine T.seq ?_
                  refine T.cond (b := decide (s45 < ((p0.Nodes).length : Int))) rfl (fun hb_636 => ?_) (fun hb_636 => ?_)
                  · replace h := ite_T h hb_636
                    refine T.skip ?_
                    refine T.seq ?_
                    refine T.block ?_
                    refine T.seq ?_
                    refine T.region ?_
                    refine RS.op rfl (OP.q rfl (v_assign (v := .int .i64 (-1)) rfl ?_))
                    refine RS.nil ?_
                    refine T.seq ?_
                    refine T.seq ?_
                    refine T.region ?_
                    refine RS.op rfl (OP.q rfl (v_fieldAddr_ptr Ty.f56_0 rfl (off' := 0) rfl ?_))
                    refine RS.op rfl (o_load_ptr rfl rfl (loadRow1 Ty.k54 (c := .sl (List.map encNode p0.Nodes)) rfl ?_))
                    refine RS.op rfl (OP.q rfl (v_len_sl Ty.s54 rfl ?_))
                    refine RS.op rfl (OP.q rfl (v_sub rfl rfl ?_))
                    refine RS.op rfl (OP.q rfl (v_assign (v := .int .i64 (IntKind.i64.wrap (((p0.Nodes).length : Int) - 1))) rfl ?_))
                    refine RS.nil ?_
                    refine T.block ?_
                    refine T.iter (fun ss_659 : Int × Int => mkA 249 [(1, .ptr 0 0), (4, .mpr 1), (23, .ref 2), (24, .int .i64 ss_659.1), (25, .int .i64 ss_659.2), (205, .int .i64 ((p0.Nodes).length : Int)), (206, .int .i64 s45)]) (fun ss_659 => [.box [.sl (List.map encNode p0.Nodes), .int .i64 p0.Rings, .int .i64 p0.Room], .mp (List.map kI (List.map Prod.fst s5)) (List.map kI (List.map Prod.snd s5)), .arr 3 1 (List.map encI s46)]) h (Weak.mkN [] [0, 1, 2] (by decide) (none_kept _) rfl ⟨rn_ptr rfl, rn_mpr rfl, rn_ref rfl, rn_int rfl, rn_int rfl, rn_int rfl, rn_int rfl, trivial⟩ (rw_box (cs := [.sl (List.map encNode p0.Nodes), .int .i64 p0.Rings, .int .i64 p0.Room]) (ds := [.sl (List.map encNode p0.Nodes), .int .i64 p0.Rings, .int .i64 p0.Room]) rfl ⟨rn_sl encNode_p rfl, rn_int rfl, rn_int rfl, trivial⟩ (rw_mp (ek := kI) (ev := kI) (ys := s5) rfl (fun _ => pure_int _ _) (fun _ => pure_int _ _) rfl (rw_arr rfl encI_p rfl (rw_nil))))) (fun ss_659 v_660 h hv_660 => ?_)
                    obtain ⟨s47, s48⟩ := ss_659
                    replace h : crossref_CheckNet_l5 p0 s5 s45 s46 s47 s48 = some v_660 := h
                    show T _ _ _ _ (mkA 249 [(1, .ptr 0 0), (4, .mpr 1), (23, .ref 2), (24, .int .i64 s47), (25, .int .i64 s48), (205, .int .i64 ((p0.Nodes).length : Int)), (206, .int .i64 s45)]) [.box [.sl (List.map encNode p0.Nodes), .int .i64 p0.Rings, .int .i64 p0.Room], .mp (List.map kI (List.map Prod.fst s5)) (List.map kI (List.map Prod.snd s5)), .arr 3 1 (List.map encI s46)]
                    unfold crossref_CheckNet_l5 at h
                    refine T.seq ?_
                    refine T.seq ?_
                    refine T.region ?_
                    refine RS.op rfl (OP.q rfl (v_move (v := .int .i64 s48) rfl ?_))
                    refine RS.op rfl (OP.q rfl (v_geq rfl rfl ?_))
                    refine RS.nil ?_
                    refine T.cond (b := decide (s48 ≥ 0)) rfl (fun hb_661 => ?_) (fun hb_661 => ?_)
                    · replace h := ite_T h hb_661
                      refine T.skip ?_
                      refine T.seq ?_
                      refine T.block ?_
                      refine T.seq ?_
                      refine T.seq ?_
                      obtain ⟨x50, hx50, h⟩ := bind_some h
                      refine T.region ?_
                      refine RS.op rfl (OP.q rfl (v_move (v := .ref 2) rfl ?_))
                      refine RS.op rfl (OP.q rfl (v_move (v := .int .i64 s48) rfl ?_))
                      refine RS.op rfl (o_call (as0 := [.ref 2, .int .i64 s48]) (as1 := [.sl (List.map encI s46), .int .i64 s48]) (caps := []) (aw1 := [.box [.sl (List.map encNode p0.Nodes), .int .i64 p0.Rings, .int .i64 p0.Room], .mp (List.map kI (List.map Prod.fst s5)) (List.map kI (List.map Prod.snd s5)), .dead]) rfl rfl rfl (k_flat (v := .bool x50) (slices_Contains_int_c s46 s48 x50 hx50) (⟨pure_map encI_p _, pure_int _ _, trivial⟩) rfl ?_))
                      refine RS.nil ?_
                      refine T.cond (b := x50) rfl (fun hb_662 => ?_) (fun hb_662 => ?_)
                      · replace h := ite_T h hb_662
                        refine T.exit ?_
                        refine T.region ?_
                        refine RS.op rfl (OP.q rfl (v_move (v := .int .i64 s48) rfl ?_))
                        refine RS.op rfl (OP.q rfl (v_sub rfl rfl ?_))
                        refine RS.op rfl (OP.q rfl (v_assign (v := .int .i64 (IntKind.i64.wrap (s48 - 1))) rfl ?_))
                        refine RS.nil ?_
                        exact ⟨(s47, IntKind.i64.wrap (s48 - 1)), (Option.some.inj h).symm, Weak.mkN [] [0, 1, 2] (by decide) (none_kept _) rfl ⟨rn_ptr rfl, rn_mpr rfl, rn_ref rfl, rn_int rfl, rn_int rfl, rn_int rfl, rn_int rfl, trivial⟩ (rw_box (cs := [.sl (List.map encNode p0.Nodes), .int .i64 p0.Rings, .int .i64 p0.Room]) (ds := [.sl (List.map encNode p0.Nodes), .int .i64 p0.Rings, .int .i64 p0.Room]) rfl ⟨rn_sl encNode_p rfl, rn_int rfl, rn_int rfl, trivial⟩ (rw_mp (ek := kI) (ev := kI) (ys := s5) rfl (fun _ => pure_int _ _) (fun _ => pure_int _ _) rfl (rw_arr rfl encI_p rfl (rw_nil))))⟩
                      · replace h := ite_F h hb_662
                        refine T.skip ?_
                        refine T.seq ?_
                        refine T.region ?_
                        refine RS.op rfl (OP.q rfl (v_assign (v := .bool true) rfl ?_))
                        refine RS.nil ?_
                        refine T.seq ?_
                        refine T.seq ?_
                        obtain ⟨x52, hx52, h⟩ := bind_some h
                        refine T.region ?_
                        refine RS.op rfl (OP.q rfl (v_fieldAddr_ptr Ty.f56_0 rfl (off' := 0) rfl ?_))
                        refine RS.op rfl (o_load_ptr rfl rfl (loadRow1 Ty.k54 (c := .sl (List.map encNode p0.Nodes)) rfl ?_))
                        refine RS.op rfl (OP.q rfl (v_move (v := .int .i64 s48) rfl ?_))
                        refine RS.op rfl (OP.q rfl (v_index_sl Ty.s54 (fun _ => rfl) rfl rfl hx52 ?_))
                        refine RS.op rfl (OP.q rfl (v_fieldAddr_elt Ty.f67_2 rfl (off' := 2) rfl ?_))
                        refine RS.op rfl (o_load_elt rfl (loadRow1 Ty.k57 (c := .sl (List.map encI x52.In)) rfl ?_))
                        refine RS.op rfl (OP.q rfl (v_len_sl Ty.s57 rfl ?_))
                        refine RS.op rfl (OP.q rfl (v_move (v := .int .i64 0) rfl ?_))
                        refine RS.nil ?_
                        refine T.block ?_
                        refine T.iter (fun ss_666 : Bool × Int => mkA 249 [(1, .ptr 0 0), (4, .mpr 1), (23, .ref 2), (24, .int .i64 s47), (25, .int .i64 s48), (26, .bool ss_666.1), (205, .int .i64 ((p0.Nodes).length : Int)), (206, .int .i64 s45), (224, .sl (List.map encI x52.In)), (225, .int .i64 ((x52.In).length : Int)), (226, .int .i64 ss_666.2)]) (fun ss_666 => [.box [.sl (List.map encNode p0.Nodes), .int .i64 p0.Rings, .int .i64 p0.Room], .mp (List.map kI (List.map Prod.fst s5)) (List.map kI (List.map Prod.snd s5)), .arr 3 1 (List.map encI s46)]) h (Weak.mkN [] [0, 1, 2] (by decide) (none_kept _) rfl ⟨rn_ptr rfl, rn_mpr rfl, rn_ref rfl, rn_int rfl, rn_int rfl, rn_bool rfl, rn_int rfl, rn_int rfl, rn_sl encI_p rfl, rn_int rfl, rn_int rfl, trivial⟩ (rw_box (cs := [.sl (List.map encNode p0.Nodes), .int .i64 p0.Rings, .int .i64 p0.Room]) (ds := [.sl (List.map encNode p0.Nodes), .int .i64 p0.Rings, .int .i64 p0.Room]) rfl ⟨rn_sl encNode_p rfl, rn_int rfl, rn_int rfl, trivial⟩ (rw_mp (ek := kI) (ev := kI) (ys := s5) rfl (fun _ => pure_int _ _) (fun _ => pure_int _ _) rfl (rw_arr rfl encI_p rfl (rw_nil))))) (fun ss_666 v_667 h hv_667 => ?_)
                        obtain ⟨s53, s54⟩ := ss_666
                        replace h : crossref_CheckNet_l4 s5 s46 s47 s48 x52 s53 s54 = some v_667 := h
                        show T _ _ _ _ (mkA 249 [(1, .ptr 0 0), (4, .mpr 1), (23, .ref 2), (24, .int .i64 s47), (25, .int .i64 s48), (26, .bool s53), (205, .int .i64 ((p0.Nodes).length : Int)), (206, .int .i64 s45), (224, .sl (List.map encI x52.In)), (225, .int .i64 ((x52.In).length : Int)), (226, .int .i64 s54)]) [.box [.sl (List.map encNode p0.Nodes), .int .i64 p0.Rings, .int .i64 p0.Room], .mp (List.map kI (List.map Prod.fst s5)) (List.map kI (List.map Prod.snd s5)), .arr 3 1 (List.map encI s46)]
                        unfold crossref_CheckNet_l4 at h
                        refine T.seq ?_
                        refine T.region ?_
                        refine RS.op rfl (OP.q rfl (v_lss rfl rfl ?_))
                        refine RS.nil ?_
                        refine T.seq ?_
                        refine T.cond (b := decide (s54 < ((x52.In).length : Int))) rfl (fun hb_668 => ?_) (fun hb_668 => ?_)
                        · replace h := ite_T h hb_668
                          refine T.skip ?_
                          refine T.seq ?_
                          refine T.block ?_
                          refine T.seq ?_
                          obtain ⟨x56, hx56, h⟩ := bind_some h
                          refine T.region ?_
                          refine RS.op rfl (OP.q rfl (v_index_sl Ty.s57 (fun _ => rfl) rfl rfl hx56 ?_))
                          refine RS.op rfl (o_load_elt rfl (loadRow1 Ty.k3 (c := .int .i64 x56) rfl ?_))
                          refine RS.op rfl (OP.q rfl (v_assign (v := .int .i64 x56) rfl ?_))
                          refine RS.nil ?_
                          refine T.region ?_
                          refine RS.op rfl (OP.q rfl (v_move (v := .bool s53) rfl ?_))
                          refine RS.op rfl (OP.q rfl (v_move (v := .bool s53) rfl ?_))
                          rcases bool_cases s53 with hb_669 | hb_669
                          · replace h := ite_T h hb_669
                            obtain ⟨x57, hx57, h⟩ := bind_some h
                            refine RS.yes rfl rfl rfl hb_669 (OP.q rfl (v_move (v := .ref 2) rfl ?_))
                            refine RS.yes rfl rfl rfl hb_669 (OP.q rfl (v_move (v := .mpr 1) rfl ?_))
                            refine RS.yes rfl rfl rfl hb_669 (OP.q rfl (v_move (v := .int .i64 x56) rfl ?_))
                            refine RS.yes rfl rfl rfl hb_669 (o_lookup (ek := kI) (ev := kI) (xs := s5) (k := x56) (z0 := 0) Try.underlying60 (KeyT.int Try.underlying3) Ty.w3 (fun _ _ _ => .int _ _) rfl rfl rfl ?_)
                            refine RS.yes rfl rfl rfl hb_669 (o_call (as0 := [.ref 2, .int .i64 ((mget x56 s5).getD 0)]) (as1 := [.sl (List.map encI s46), .int .i64 ((mget x56 s5).getD 0)]) (caps := []) (aw1 := [.box [.sl (List.map encNode p0.Nodes), .int .i64 p0.Rings, .int .i64 p0.Room], .mp (List.map kI (List.map Prod.fst s5)) (List.map kI (List.map Prod.snd s5)), .dead]) rfl rfl rfl (k_flat (v := .bool x57) (slices_Contains_int_c s46 ((mget x56 s5).getD 0) x57 hx57) (⟨pure_map encI_p _, pure_int _ _, trivial⟩) rfl ?_))
                            refine RS.op rfl (OP.q rfl (v_pickT (v := .bool x57) rfl hb_669 rfl ?_))
                            refine RS.op rfl (OP.q rfl (v_assign (v := .bool x57) rfl ?_))
                            refine RS.nil ?_
                            refine T.region ?_
                            refine RS.op rfl (OP.q rfl (v_add rfl rfl ?_))
                            refine RS.op rfl (OP.q rfl (v_move (v := .int .i64 (IntKind.i64.wrap (s54 + 1))) rfl ?_))
                            refine RS.nil ?_
                            exact ⟨(x57, IntKind.i64.wrap (s54 + 1)), (Option.some.inj h).symm, Weak.mkN [] [0, 1, 2] (by decide) (none_kept _) rfl ⟨rn_ptr rfl, rn_mpr rfl, rn_ref rfl, rn_int rfl, rn_int rfl, rn_bool rfl, rn_int rfl, rn_int rfl, rn_sl encI_p rfl, rn_int rfl, rn_int rfl, trivial⟩ (rw_box (cs := [.sl (List.map encNode p0.Nodes), .int .i64 p0.Rings, .int .i64 p0.Room]) (ds := [.sl (List.map encNode p0.Nodes), .int .i64 p0.Rings, .int .i64 p0.Room]) rfl ⟨rn_sl encNode_p rfl, rn_int rfl, rn_int rfl, trivial⟩ (rw_mp (ek := kI) (ev := kI) (ys := s5) rfl (fun _ => pure_int _ _) (fun _ => pure_int _ _) rfl (rw_arr rfl encI_p rfl (rw_nil))))⟩
                          · replace h := ite_F h hb_669
                            refine RS.no rfl rfl rfl hb_669 ?_
                            refine RS.no rfl rfl rfl hb_669 ?_
                            refine RS.no rfl rfl rfl hb_669 ?_
                            refine RS.no rfl rfl rfl hb_669 ?_
                            refine RS.no rfl rfl rfl hb_669 ?_
                            refine RS.op rfl (OP.q rfl (v_pickF (v := .bool false) rfl hb_669 rfl ?_))
                            refine RS.op rfl (OP.q rfl (v_assign (v := .bool false) rfl ?_))
                            refine RS.nil ?_
                            refine T.region ?_
                            refine RS.op rfl (OP.q rfl (v_add rfl rfl ?_))
                            refine RS.op rfl (OP.q rfl (v_move (v := .int .i64 (IntKind.i64.wrap (s54 + 1))) rfl ?_))
                            refine RS.nil ?_
                            exact ⟨(false, IntKind.i64.wrap (s54 + 1)), (Option.some.inj h).symm, Weak.mkN [] [0, 1, 2] (by decide) (none_kept _) rfl ⟨rn_ptr rfl, rn_mpr rfl, rn_ref rfl, rn_int rfl, rn_int rfl, rn_bool rfl, rn_int rfl, rn_int rfl, rn_sl encI_p rfl, rn_int rfl, rn_int rfl, trivial⟩ (rw_box (cs := [.sl (List.map encNode p0.Nodes), .int .i64 p0.Rings, .int .i64 p0.Room]) (ds := [.sl (List.map encNode p0.Nodes), .int .i64 p0.Rings, .int .i64 p0.Room]) rfl ⟨rn_sl encNode_p rfl, rn_int rfl, rn_int rfl, trivial⟩ (rw_mp (ek := kI) (ev := kI) (ys := s5) rfl (fun _ => pure_int _ _) (fun _ => pure_int _ _) rfl (rw_arr rfl encI_p rfl (rw_nil))))⟩
                        · replace h := ite_F h hb_668
                          refine T.exit ?_
                          obtain ⟨w_670, h, hw_670⟩ := map_inr h
                          replace h := h.trans (congrArg some (hv_667 _ hw_670))
                          refine T.seq ?_
                          refine T.region ?_
                          refine RS.op rfl (OP.q rfl (v_move (v := .bool s53) rfl ?_))
                          refine RS.nil ?_
                          refine T.cond (b := s53) rfl (fun hb_671 => ?_) (fun hb_671 => ?_)
                          · replace h := ite_T h hb_671
                            refine T.region ?_
                            refine RS.op rfl (OP.q rfl (v_move (v := .int .i64 s48) rfl ?_))
                            refine RS.op rfl (OP.q rfl (v_assign (v := .int .i64 s48) rfl ?_))
                            refine RS.nil ?_
                            refine T.region ?_
                            refine RS.op rfl (OP.q rfl (v_move (v := .int .i64 s48) rfl ?_))
                            refine RS.op rfl (OP.q rfl (v_sub rfl rfl ?_))
                            refine RS.op rfl (OP.q rfl (v_assign (v := .int .i64 (IntKind.i64.wrap (s48 - 1))) rfl ?_))
                            refine RS.nil ?_
                            exact ⟨(s48, IntKind.i64.wrap (s48 - 1)), (Option.some.inj h).symm, Weak.mkN [] [0, 1, 2] (by decide) (none_kept _) rfl ⟨rn_ptr rfl, rn_mpr rfl, rn_ref rfl, rn_int rfl, rn_int rfl, rn_int rfl, rn_int rfl, trivial⟩ (rw_box (cs := [.sl (List.map encNode p0.Nodes), .int .i64 p0.Rings, .int .i64 p0.Room]) (ds := [.sl (List.map encNode p0.Nodes), .int .i64 p0.Rings, .int .i64 p0.Room]) rfl ⟨rn_sl encNode_p rfl, rn_int rfl, rn_int rfl, trivial⟩ (rw_mp (ek := kI) (ev := kI) (ys := s5) rfl (fun _ => pure_int _ _) (fun _ => pure_int _ _) rfl (rw_arr rfl encI_p rfl (rw_nil))))⟩
                          · replace h := ite_F h hb_671
                            refine T.skip ?_
                            refine T.region ?_
                            refine RS.op rfl (OP.q rfl (v_move (v := .int .i64 s48) rfl ?_))
                            refine RS.op rfl (OP.q rfl (v_sub rfl rfl ?_))
                            refine RS.op rfl (OP.q rfl (v_assign (v := .int .i64 (IntKind.i64.wrap (s48 - 1))) rfl ?_))
                            refine RS.nil ?_
                            exact ⟨(s47, IntKind.i64.wrap (s48 - 1)), (Option.some.inj h).symm, Weak.mkN [] [0, 1, 2] (by decide) (none_kept _) rfl ⟨rn_ptr rfl, rn_mpr rfl, rn_ref rfl, rn_int rfl, rn_int rfl, rn_int rfl, rn_int rfl, trivial⟩ (rw_box (cs := [.sl (List.map encNode p0.Nodes), .int .i64 p0.Rings, .int .i64 p0.Room]) (ds := [.sl (List.map encNode p0.Nodes), .int .i64 p0.Rings, .int .i64 p0.Room]) rfl ⟨rn_sl encNode_p rfl, rn_int rfl, rn_int rfl, trivial⟩ (rw_mp (ek := kI) (ev := kI) (ys := s5) rfl (fun _ => pure_int _ _) (fun _ => pure_int _ _) rfl (rw_arr rfl encI_p rfl (rw_nil))))⟩
                    · replace h := ite_F h hb_661
                      refine T.exit ?_
                      obtain ⟨w_672, h, hw_672⟩ := map_inr h
                      replace h := h.trans (congrArg some (hv_660 _ hw_672))
                      refine T.seq ?_
                      refine T.seq ?_
                      refine T.region ?_
                      refine RS.op rfl (OP.q rfl (v_move (v := .int .i64 s47) rfl ?_))
                      refine RS.op rfl (OP.q rfl (v_lss rfl rfl ?_))
                      refine RS.nil ?_
                      refine T.cond (b := decide (s47 < 0)) rfl (fun hb_673 => ?_) (fun hb_673 => ?_)
                      · replace h := ite_T h hb_673
                        refine T.seq ?_
                        refine T.region ?_
                        refine RS.op rfl (OP.q rfl (v_assign (v := .nils) rfl ?_))
                        refine RS.op rfl (OP.q rfl (v_assign (v := .int .i64 7) rfl ?_))
                        refine RS.nil ?_
                        refine T.ret' (R := ?R674) ?hq674 ?_
                        case hq674 => repeat (first | exact RetIs.base | refine RetIs.thn ?_ | refine RetIs.blk ?_ | refine RetIs.lq ?_)
                        obtain ⟨w_675, h, hw_675⟩ := map_inr h
                        replace h := h.trans (congrArg some (hv_635 _ hw_675))
                        refine res_tmpA (v := .nils) rfl ?_
                        refine res_tmpA (v := .int .i64 7) rfl ?_
                        refine res_done ?_
                        exact ret_own (.tup [.ref 0, .int .i64 r.2]) [(0, 3, 1)] [3] (by decide) (none_kept _) rfl (rn_tup ⟨rn_ref rfl, rn_int (congrArg (fun r : (List Int) × Int => r.2) (Option.some.inj h)).symm, trivial⟩) (rw_arr (en := encI) (ys := []) rfl encI_p (congrArg (fun r : (List Int) × Int => r.1) (Option.some.inj h)).symm (rw_nil)) ⟨rfl, rfl⟩
                      · replace h := ite_F h hb_673
                        refine T.skip ?_
                        obtain ⟨x58, hx58, h⟩ := bind_some h
                        refine T.region ?_
                        refine RS.op rfl (OP.q rfl (v_move (v := .ref 2) rfl ?_))
                        refine RS.op rfl (OP.q rfl (v_move (v := .int .i64 s47) rfl ?_))
                        refine RS.op rfl (o_buildSlice (rows := List.map encI [s47]) (vs := [.int .i64 s47]) Ty.s57 Ty.z3 rfl rfl rfl rfl rfl (aw' := [.box [.sl (List.map encNode p0.Nodes), .int .i64 p0.Rings, .int .i64 p0.Room], .mp (List.map kI (List.map Prod.fst s5)) (List.map kI (List.map Prod.snd s5)), .arr 3 1 (List.map encI s46), .arr 3 1 (List.map encI [s47])]) rfl ?_)
                        refine RS.op rfl (o_app_ref (en := encI) (xs := s46) (ys := ([s47] : List Int)) Ty.s57 (fun _ => rfl) rfl rfl rfl hx58 rfl (aw' := [.box [.sl (List.map encNode p0.Nodes), .int .i64 p0.Rings, .int .i64 p0.Room], .mp (List.map kI (List.map Prod.fst s5)) (List.map kI (List.map Prod.snd s5)), .dead, .dead, .arr 3 1 (List.map encI x58)]) rfl ?_)
                        refine RS.op rfl (OP.q rfl (v_assign (v := .ref 4) rfl ?_))
                        refine RS.nil ?_
                        refine T.region ?_
                        refine RS.op rfl (OP.q rfl (v_add rfl rfl ?_))
                        refine RS.op rfl (OP.q rfl (v_move (v := .int .i64 (IntKind.i64.wrap (s45 + 1))) rfl ?_))
                        refine RS.nil ?_
                        exact ⟨(IntKind.i64.wrap (s45 + 1), x58), (Option.some.inj h).symm, Weak.mkN [] [0, 1, 4] (by decide) (none_kept _) rfl ⟨rn_ptr rfl, rn_mpr rfl, rn_ref rfl, rn_int rfl, rn_int rfl, trivial⟩ (rw_box (cs := [.sl (List.map encNode p0.Nodes), .int .i64 p0.Rings, .int .i64 p0.Room]) (ds := [.sl (List.map encNode p0.Nodes), .int .i64 p0.Rings, .int .i64 p0.Room]) rfl ⟨rn_sl encNode_p rfl, rn_int rfl, rn_int rfl, trivial⟩ (rw_mp (ek := kI) (ev := kI) (ys := s5) rfl (fun _ => pure_int _ _) (fun _ => pure_int _ _) rfl (rw_arr rfl encI_p rfl (rw_nil))))⟩
                  · replace h := ite_F h hb_636
                    refine T.exit ?_
                    obtain ⟨w_676, h, hw_676⟩ := map_inr h
                    replace h := h.trans (congrArg some (hv_635 _ hw_676))
                    refine T.seq ?_
                    refine T.region ?_
                    refine RS.op rfl (OP.q rfl (v_move (v := .ref 2) rfl ?_))
                    refine RS.op rfl (OP.q rfl (v_assign (v := .ref 2) rfl ?_))
                    refine RS.op rfl (OP.q rfl (v_assign (v := .int .i64 0) rfl ?_))
                    refine RS.nil ?_
                    refine T.ret' (R := ?R677) ?hq677 ?_
                    case hq677 => repeat (first | exact RetIs.base | refine RetIs.thn ?_ | refine RetIs.blk ?_ | refine RetIs.lq ?_)
                    refine res_tmpA (v := .ref 2) rfl ?_
                    refine res_tmpA (v := .int .i64 0) rfl ?_
                    refine res_done ?_
                    exact ret_own (.tup [.ref 0, .int .i64 r.2]) [] [2] (by decide) (none_kept _) rfl (rn_tup ⟨rn_ref rfl, rn_int (congrArg (fun r : (List Int) × Int => r.2) (Option.some.inj h)).symm, trivial⟩) (rw_arr rfl encI_p (congrArg (fun r : (List Int) × Int => r.1) (Option.some.inj h)).symm (rw_nil)) ⟨rfl, rfl⟩
            · refine T.region ?_
              refine RS.op rfl (OP.q rfl (v_move (v := .mpr 1) rfl ?_))
              refine RS.op rfl (o_len_mp (ek := kI) (ev := kI) (xs := s5) Try.underlying60 rfl rfl ?_)
              refine RS.op rfl (OP.q rfl (v_fieldAddr_ptr Ty.f56_1 rfl (off' := 1) rfl ?_))
              refine RS.op rfl (o_load_ptr rfl rfl (loadRow1 Ty.k3 (c := .int .i64 p0.Rings) rfl ?_))
              refine RS.op rfl (OP.q rfl (v_neq rfl rfl ?_))
              refine RS.op rfl (OP.q rfl (v_move (v := .bool (((s5).length : Int) != p0.Rings)) rfl ?_))
              rcases bool_cases (((s5).length : Int) != p0.Rings) with hb_551 | hb_551
              · refine RS.no rfl rfl rfl hb_551 ?_
                refine RS.no rfl rfl rfl hb_551 ?_
                refine RS.no rfl rfl rfl hb_551 ?_
                refine RS.no rfl rfl rfl hb_551 ?_
                refine RS.no rfl rfl rfl hb_551 ?_
                refine RS.op rfl (OP.q rfl (v_pickT (v := .bool true) rfl hb_551 rfl ?_))
                refine RS.nil ?_
                exact T.weakR (hK () trivial) (Weak.mkN [] [0, 1] (by decide) (none_kept _) rfl ⟨rn_ptr rfl, rn_mpr rfl, rn_int rfl, rn_bool (by simp only [hb_551, Bool.true_or, Bool.or_true, Bool.false_or, Bool.or_false, Bool.true_and, Bool.and_true, Bool.false_and, Bool.and_false, Bool.not_true, Bool.not_false, if_true, if_false, Bool.false_eq_true, reduceIte]), trivial⟩ (rw_box (cs := [.sl (List.map encNode p0.Nodes), .int .i64 p0.Rings, .int .i64 p0.Room]) (ds := [.sl (List.map encNode p0.Nodes), .int .i64 p0.Rings, .int .i64 p0.Room]) rfl ⟨rn_sl encNode_p rfl, rn_int rfl, rn_int rfl, trivial⟩ (rw_mp (ek := kI) (ev := kI) (ys := s5) rfl (fun _ => pure_int _ _) (fun _ => pure_int _ _) rfl (rw_nil))))
              · refine RS.yes rfl rfl rfl hb_551 (OP.q rfl (v_move (v := .mpr 2) rfl ?_))
                refine RS.yes rfl rfl rfl hb_551 (o_len_mp (ek := kI) (ev := kI) (xs := s6) Try.underlying60 rfl rfl ?_)
                refine RS.yes rfl rfl rfl hb_551 (OP.q rfl (v_fieldAddr_ptr Ty.f56_1 rfl (off' := 1) rfl ?_))
                refine RS.yes rfl rfl rfl hb_551 (o_load_ptr rfl rfl (loadRow1 Ty.k3 (c := .int .i64 p0.Rings) rfl ?_))
                refine RS.yes rfl rfl rfl hb_551 (OP.q rfl (v_neq rfl rfl ?_))
                refine RS.op rfl (OP.q rfl (v_pickF (v := .bool (((s6).length : Int) != p0.Rings)) rfl hb_551 rfl ?_))
                refine RS.nil ?_
                exact T.weakR (hK () trivial) (Weak.mkN [] [0, 1] (by decide) (none_kept _) rfl ⟨rn_ptr rfl, rn_mpr rfl, rn_int rfl, rn_bool (by simp only [hb_551, Bool.true_or, Bool.or_true, Bool.false_or, Bool.or_false, Bool.true_and, Bool.and_true, Bool.false_and, Bool.and_false, Bool.not_true, Bool.not_false, if_true, if_false, Bool.false_eq_true, reduceIte]), trivial⟩ (rw_box (cs := [.sl (List.map encNode p0.Nodes), .int .i64 p0.Rings, .int .i64 p0.Room]) (ds := [.sl (List.map encNode p0.Nodes), .int .i64 p0.Rings, .int .i64 p0.Room]) rfl ⟨rn_sl encNode_p rfl, rn_int rfl, rn_int rfl, trivial⟩ (rw_mp (ek := kI) (ev := kI) (ys := s5) rfl (fun _ => pure_int _ _) (fun _ => pure_int _ _) rfl (rw_nil))))
      · refine T.region ?_
        refine RS.op rfl (OP.q rfl (v_fieldAddr_ptr Ty.f56_2 rfl (off' := 2) rfl ?_))
        refine RS.op rfl (o_load_ptr rfl rfl (loadRow1 Ty.k3 (c := .int .i64 p0.Room) rfl ?_))
        refine RS.op rfl (OP.q rfl (v_lss rfl rfl ?_))
        refine RS.op rfl (OP.q rfl (v_move (v := .bool (decide (p0.Room < 1))) rfl ?_))
        rcases bool_cases (decide (p0.Room < 1)) with hb_6 | hb_6
        · refine RS.no rfl rfl rfl hb_6 ?_
          refine RS.no rfl rfl rfl hb_6 ?_
          refine RS.no rfl rfl rfl hb_6 ?_
          refine RS.op rfl (OP.q rfl (v_pickT (v := .bool true) rfl hb_6 rfl ?_))
          refine RS.nil ?_
          exact T.weakR (hK () trivial) (Weak.mkN [] [0] (by decide) (none_kept _) rfl ⟨rn_ptr rfl, rn_bool (by simp only [hb_6, Bool.true_or, Bool.or_true, Bool.false_or, Bool.or_false, Bool.true_and, Bool.and_true, Bool.false_and, Bool.and_false, Bool.not_true, Bool.not_false, if_true, if_false, Bool.false_eq_true, reduceIte]), trivial⟩ (rw_box (cs := [.sl (List.map encNode p0.Nodes), .int .i64 p0.Rings, .int .i64 p0.Room]) (ds := [.sl (List.map encNode p0.Nodes), .int .i64 p0.Rings, .int .i64 p0.Room]) rfl ⟨rn_sl encNode_p rfl, rn_int rfl, rn_int rfl, trivial⟩ (rw_nil)))
        · refine RS.yes rfl rfl rfl hb_6 (OP.q rfl (v_fieldAddr_ptr Ty.f56_2 rfl (off' := 2) rfl ?_))
          refine RS.yes rfl rfl rfl hb_6 (o_load_ptr rfl rfl (loadRow1 Ty.k3 (c := .int .i64 p0.Room) rfl ?_))
          refine RS.yes rfl rfl rfl hb_6 (OP.q rfl (v_gtr rfl rfl ?_))
          refine RS.op rfl (OP.q rfl (v_pickF (v := .bool (decide (p0.Room > 6))) rfl hb_6 rfl ?_))
          refine RS.nil ?_
          exact T.weakR (hK () trivial) (Weak.mkN [] [0] (by decide) (none_kept _) rfl ⟨rn_ptr rfl, rn_bool (by simp only [hb_6, Bool.true_or, Bool.or_true, Bool.false_or, Bool.or_false, Bool.true_and, Bool.and_true, Bool.false_and, Bool.and_false, Bool.not_true, Bool.not_false, if_true, if_false, Bool.false_eq_true, reduceIte]), trivial⟩ (rw_box (cs := [.sl (List.map encNode p0.Nodes), .int .i64 p0.Rings, .int .i64 p0.Room]) (ds := [.sl (List.map encNode p0.Nodes), .int .i64 p0.Rings, .int .i64 p0.Room]) rfl ⟨rn_sl encNode_p rfl, rn_int rfl, rn_int rfl, trivial⟩ (rw_nil)))
  · refine T.region ?_
    refine RS.op rfl (OP.q rfl (v_fieldAddr_ptr Ty.f56_0 rfl (off' := 0) rfl ?_))
    refine RS.op rfl (o_load_ptr rfl rfl (loadRow1 Ty.k54 (c := .sl (List.map encNode p0.Nodes)) rfl ?_))
    refine RS.op rfl (OP.q rfl (v_len_sl Ty.s54 rfl ?_))
    refine RS.op rfl (OP.q rfl (v_eql rfl rfl ?_))
    refine RS.op rfl (OP.q rfl (v_move (v := .bool (((p0.Nodes).length : Int) == 0)) rfl ?_))
    rcases bool_cases (((p0.Nodes).length : Int) == 0) with hb_1 | hb_1
    · refine RS.no rfl rfl rfl hb_1 ?_
      refine RS.no rfl rfl rfl hb_1 ?_
      refine RS.no rfl rfl rfl hb_1 ?_
      refine RS.no rfl rfl rfl hb_1 ?_
      refine RS.op rfl (OP.q rfl (v_pickT (v := .bool true) rfl hb_1 rfl ?_))
      refine RS.op rfl (OP.q rfl (v_move (v := .bool true) rfl ?_))
      refine RS.no rfl rfl rfl rfl ?_
      refine RS.no rfl rfl rfl rfl ?_
      refine RS.no rfl rfl rfl rfl ?_
      refine RS.op rfl (OP.q rfl (v_pickT (v := .bool true) rfl rfl rfl ?_))
      refine RS.op rfl (OP.q rfl (v_move (v := .bool true) rfl ?_))
      refine RS.no rfl rfl rfl rfl ?_
      refine RS.no rfl rfl rfl rfl ?_
      refine RS.no rfl rfl rfl rfl ?_
      refine RS.op rfl (OP.q rfl (v_pickT (v := .bool true) rfl rfl rfl ?_))
      refine RS.nil ?_
      exact T.weakR (hK () trivial) (Weak.mkN [] [0] (by decide) (none_kept _) rfl ⟨rn_ptr rfl, rn_bool (by simp only [hb_1, Bool.true_or, Bool.or_true, Bool.false_or, Bool.or_false, Bool.true_and, Bool.and_true, Bool.false_and, Bool.and_false, Bool.not_true, Bool.not_false, if_true, if_false, Bool.false_eq_true, reduceIte]), trivial⟩ (rw_box (cs := [.sl (List.map encNode p0.Nodes), .int .i64 p0.Rings, .int .i64 p0.Room]) (ds := [.sl (List.map encNode p0.Nodes), .int .i64 p0.Rings, .int .i64 p0.Room]) rfl ⟨rn_sl encNode_p rfl, rn_int rfl, rn_int rfl, trivial⟩ (rw_nil)))
    · refine RS.yes rfl rfl rfl hb_1 (OP.q rfl (v_fieldAddr_ptr Ty.f56_0 rfl (off' := 0) rfl ?_))
      refine RS.yes rfl rfl rfl hb_1 (o_load_ptr rfl rfl (loadRow1 Ty.k54 (c := .sl (List.map encNode p0.Nodes)) rfl ?_))
      refine RS.yes rfl rfl rfl hb_1 (OP.q rfl (v_len_sl Ty.s54 rfl ?_))
      refine RS.yes rfl rfl rfl hb_1 (OP.q rfl (v_gtr rfl rfl ?_))
      refine RS.op rfl (OP.q rfl (v_pickF (v := .bool (decide (((p0.Nodes).length : Int) > 12))) rfl hb_1 rfl ?_))
      refine RS.op rfl (OP.q rfl (v_move (v := .bool (decide (((p0.Nodes).length : Int) > 12))) rfl ?_))
      rcases bool_cases (decide (((p0.Nodes).length : Int) > 12)) with hb_2 | hb_2
      · refine RS.no rfl rfl rfl hb_2 ?_
        refine RS.no rfl rfl rfl hb_2 ?_
        refine RS.no rfl rfl rfl hb_2 ?_
        refine RS.op rfl (OP.q rfl (v_pickT (v := .bool true) rfl hb_2 rfl ?_))
        refine RS.op rfl (OP.q rfl (v_move (v := .bool true) rfl ?_))
        refine RS.no rfl rfl rfl rfl ?_
        refine RS.no rfl rfl rfl rfl ?_
        refine RS.no rfl rfl rfl rfl ?_
        refine RS.op rfl (OP.q rfl (v_pickT (v := .bool true) rfl rfl rfl ?_))
        refine RS.nil ?_
        exact T.weakR (hK () trivial) (Weak.mkN [] [0] (by decide) (none_kept _) rfl ⟨rn_ptr rfl, rn_bool (by simp only [hb_1, hb_2, Bool.true_or, Bool.or_true, Bool.false_or, Bool.or_false, Bool.true_and, Bool.and_true, Bool.false_and, Bool.and_false, Bool.not_true, Bool.not_false, if_true, if_false, Bool.false_eq_true, reduceIte]), trivial⟩ (rw_box (cs := [.sl (List.map encNode p0.Nodes), .int .i64 p0.Rings, .int .i64 p0.Room]) (ds := [.sl (List.map encNode p0.Nodes), .int .i64 p0.Rings, .int .i64 p0.Room]) rfl ⟨rn_sl encNode_p rfl, rn_int rfl, rn_int rfl, trivial⟩ (rw_nil)))
      · refine RS.yes rfl rfl rfl hb_2 (OP.q rfl (v_fieldAddr_ptr Ty.f56_1 rfl (off' := 1) rfl ?_))
        refine RS.yes rfl rfl rfl hb_2 (o_load_ptr rfl rfl (loadRow1 Ty.k3 (c := .int .i64 p0.Rings) rfl ?_))
        refine RS.yes rfl rfl rfl hb_2 (OP.q rfl (v_lss rfl rfl ?_))
        refine RS.op rfl (OP.q rfl (v_pickF (v := .bool (decide (p0.Rings < 0))) rfl hb_2 rfl ?_))
        refine RS.op rfl (OP.q rfl (v_move (v := .bool (decide (p0.Rings < 0))) rfl ?_))
        rcases bool_cases (decide (p0.Rings < 0)) with hb_3 | hb_3
        · refine RS.no rfl rfl rfl hb_3 ?_
          refine RS.no rfl rfl rfl hb_3 ?_
          refine RS.no rfl rfl rfl hb_3 ?_
          refine RS.op rfl (OP.q rfl (v_pickT (v := .bool true) rfl hb_3 rfl ?_))
          refine RS.nil ?_
          exact T.weakR (hK () trivial) (Weak.mkN [] [0] (by decide) (none_kept _) rfl ⟨rn_ptr rfl, rn_bool (by simp only [hb_1, hb_2, hb_3, Bool.true_or, Bool.or_true, Bool.false_or, Bool.or_false, Bool.true_and, Bool.and_true, Bool.false_and, Bool.and_false, Bool.not_true, Bool.not_false, if_true, if_false, Bool.false_eq_true, reduceIte]), trivial⟩ (rw_box (cs := [.sl (List.map encNode p0.Nodes), .int .i64 p0.Rings, .int .i64 p0.Room]) (ds := [.sl (List.map encNode p0.Nodes), .int .i64 p0.Rings, .int .i64 p0.Room]) rfl ⟨rn_sl encNode_p rfl, rn_int rfl, rn_int rfl, trivial⟩ (rw_nil)))
        · refine RS.yes rfl rfl rfl hb_3 (OP.q rfl (v_fieldAddr_ptr Ty.f56_1 rfl (off' := 1) rfl ?_))
          refine RS.yes rfl rfl rfl hb_3 (o_load_ptr rfl rfl (loadRow1 Ty.k3 (c := .int .i64 p0.Rings) rfl ?_))
          refine RS.yes rfl rfl rfl hb_3 (OP.q rfl (v_gtr rfl rfl ?_))
          refine RS.op rfl (OP.q rfl (v_pickF (v := .bool (decide (p0.Rings > 16))) rfl hb_3 rfl ?_))
          refine RS.nil ?_
          exact T.weakR (hK () trivial) (Weak.mkN [] [0] (by decide) (none_kept _) rfl ⟨rn_ptr rfl, rn_bool (by simp only [hb_1, hb_2, hb_3, Bool.true_or, Bool.or_true, Bool.false_or, Bool.or_false, Bool.true_and, Bool.and_true, Bool.false_and, Bool.and_false, Bool.not_true, Bool.not_false, if_true, if_false, Bool.false_eq_true, reduceIte]), trivial⟩ (rw_box (cs := [.sl (List.map encNode p0.Nodes), .int .i64 p0.Rings, .int .i64 p0.Room]) (ds := [.sl (List.map encNode p0.Nodes), .int .i64 p0.Rings, .int .i64 p0.Room]) rfl ⟨rn_sl encNode_p rfl, rn_int rfl, rn_int rfl, trivial⟩ (rw_nil)))
end Go.Proofs.Ytegkmfokfakeiaa
