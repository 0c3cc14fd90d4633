/-
  Names: each constant has its value.
-/
import Derived.Test.YtpndpdbabblphaaEqI
namespace Go.Proofs.Ytpndpdbabblphaa
open Go.RowKit
set_option linter.unusedVariables false
set_option linter.unusedSimpArgs false
set_option maxRecDepth 100000
def errs : List Int := (List.range 14).map Int.ofNat
theorem errs_len : errs.length = 14 := by simp [errs]
theorem errs_lit : errs.map encI = [[.int .i64 0], [.int .i64 1], [.int .i64 2], [.int .i64 3], [.int .i64 4], [.int .i64 5], [.int .i64 6], [.int .i64 7], [.int .i64 8], [.int .i64 9], [.int .i64 10], [.int .i64 11], [.int .i64 12], [.int .i64 13]] := rfl
theorem errs_get {k : Nat} {x : Int} (h : errs[k]? = some x) : x = (k : Int) := by
  have hk : k < 14 := by rw [← errs_len]; exact (List.getElem?_eq_some_iff.1 h).1
  simpa [errs, List.getElem?_map, List.getElem?_range hk, eq_comm] using h
set_option maxHeartbeats 4000000 in
theorem names_calls : Fn Try.prog 3 [] (.bool true) := by
  refine ACalls.of_vc Try.func3 rfl (by kernel_rfl) ?_
  simp (maxSteps := 1000000) (implicitDefEqProofs := false) only [go_sem, reduceCtorEq, Nat.reduceEqDiff, Nat.reduceAdd, Nat.reduceSub, Nat.reduceMul, Nat.reduceLeDiff, Nat.reducePow, Nat.reduceLT, Nat.reduceGT, Nat.reduceLeDiff, Int.reduceLE, Int.reduceLT, Int.reduceToNat, Int.cast_ofNat_Int, not_false_eq_true, not_true_eq_false, if_true, if_false, List.getElem?_map, Option.map_eq_some_iff, forall_exists_index, and_imp, forall_apply_eq_imp_iff₂, Try.ntmps3, Try.results3]
  refine Loop.by (fun k : Nat => mkF 28 [(7, .sl (errs.map encI)), (8, .int .i64 14), (9, .int .i64 k)]) (fun _ => []) (fun k => 14 - k) (fun k => k ≤ 14) 0 (by omega) (Weak.by [] (by simp) (by simp) ?_ (by simp [RenW])) ?_
  · have e := ren_pure (ρ := []) (pure_ints errs)
    rw [errs_lit] at e ⊢
    simp [mkF, RenL, ren_any, ren_pure (pure_int _ _), e]
  · intro k hk
    simp (maxSteps := 1000000) (implicitDefEqProofs := false) only [go_sem, reduceCtorEq, Nat.reduceEqDiff, Nat.reduceAdd, Nat.reduceSub, Nat.reduceMul, Nat.reduceLeDiff, Nat.reducePow, Nat.reduceLT, Nat.reduceGT, Nat.reduceLeDiff, Int.reduceLE, Int.reduceLT, Int.reduceToNat, Int.cast_ofNat_Int, not_false_eq_true, not_true_eq_false, if_true, if_false, List.getElem?_map, Option.map_eq_some_iff, forall_exists_index, and_imp, forall_apply_eq_imp_iff₂, errs_len, encI, Try.results3]
    refine ite_i (fun hlt => ?_) (fun hge => ?_)
    · simp at hlt
      refine ⟨by omega, by omega, fun x hx => ite_i (fun hne => ?_) (fun heq => ?_)⟩
      · rw [errs_get hx] at hne
        simp at hne
      · refine Loop.back (k + 1) (by omega) (by omega) (Weak.by [] (by simp) (by simp) ?_ (by simp [RenW]))
        simp [RenL, ren_any, wrap_succ (k := k) (n := 14) (by omega) (by omega), ren_pure (pure_int _ _), ren_pure (pure_ints _)]
    · refine CallK.flat (equal_ints [12, 16, 6, 4, 20, 6, 2000, 500, 4000, 64, 200, 300, 60, 600, 200, 60] [12, 16, 6, 4, 20, 6, 2000, 500, 4000, 64, 200, 300, 60, 600, 200, 60] (by simp)) (by simp [pure_sl, pure_int]) rfl ?_
      simp (maxSteps := 1000000) (implicitDefEqProofs := false) only [go_sem, reduceCtorEq, Nat.reduceEqDiff, Nat.reduceAdd, Nat.reduceSub, Nat.reduceMul, Nat.reduceLeDiff, Nat.reducePow, Nat.reduceLT, Nat.reduceGT, Nat.reduceLeDiff, Int.reduceLE, Int.reduceLT, Int.reduceToNat, Int.cast_ofNat_Int, not_false_eq_true, not_true_eq_false, if_true, if_false, List.getElem?_map, Option.map_eq_some_iff, forall_exists_index, and_imp, forall_apply_eq_imp_iff₂, Try.results3]
      refine ite_i (fun _ => ?_) (fun h => absurd rfl h)
      refine CallK.flat (equal_ints [1, 2, 3, 4, 5, 6, 7, 8, 1, 2, 3, 4, 5, 6, 7] [1, 2, 3, 4, 5, 6, 7, 8, 1, 2, 3, 4, 5, 6, 7] (by simp)) (by simp [pure_sl, pure_int]) rfl ?_
      simp (maxSteps := 1000000) (implicitDefEqProofs := false) only [go_sem, reduceCtorEq, Nat.reduceEqDiff, Nat.reduceAdd, Nat.reduceSub, Nat.reduceMul, Nat.reduceLeDiff, Nat.reducePow, Nat.reduceLT, Nat.reduceGT, Nat.reduceLeDiff, Int.reduceLE, Int.reduceLT, Int.reduceToNat, Int.cast_ofNat_Int, not_false_eq_true, not_true_eq_false, if_true, if_false, List.getElem?_map, Option.map_eq_some_iff, forall_exists_index, and_imp, forall_apply_eq_imp_iff₂, Try.results3]
      exact Ret.data (pure_bool _) ⟨rfl, rfl⟩

end Go.Proofs.Ytpndpdbabblphaa
