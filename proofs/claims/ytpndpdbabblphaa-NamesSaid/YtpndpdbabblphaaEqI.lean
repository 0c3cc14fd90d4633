/-
  slices.Equal of numbers.
-/
import Derived.Test.YtpndpdbabblphaaCore
namespace Go.Proofs.Ytpndpdbabblphaa
open Go.RowKit
set_option linter.unusedVariables false
set_option linter.unusedSimpArgs false
set_option maxRecDepth 100000
set_option maxHeartbeats 1000000 in
theorem equal_ints (a b : List Int) (ha : a.length ≤ 1099511627776) : Fn Try.prog 18 [.sl (a.map encI), .sl (b.map encI)] (.bool (a == b)) := by
  refine ACalls.of_vc Try.func18 rfl (by kernel_rfl) ?_
  simp (maxSteps := 1000000) (implicitDefEqProofs := false) only [go_sem, reduceCtorEq, Nat.reduceEqDiff, Nat.reduceAdd, Nat.reduceSub, Nat.reduceMul, Nat.reduceLeDiff, Nat.reducePow, Nat.reduceLT, Nat.reduceGT, Nat.reduceLeDiff, Int.reduceLE, Int.reduceLT, Int.reduceToNat, Int.cast_ofNat_Int, not_false_eq_true, not_true_eq_false, if_true, if_false, List.getElem?_map, Option.map_eq_some_iff, forall_exists_index, and_imp, forall_apply_eq_imp_iff₂, Try.ntmps18, Try.results18]
  refine ite_i (fun h => ?_) (fun h => ?_)
  · refine Ret.data (pure_bool _) ⟨?_, rfl⟩
    simp [retAV] at h ⊢
    intro e; subst e; exact h rfl
  · simp at h
    refine Loop.by (fun k : Nat => mkF 26 [(0, .sl (a.map encI)), (1, .sl (b.map encI)), (12, .int .i64 a.length), (13, .int .i64 k)]) (fun _ => [])
      (fun k => a.length - k) (fun k => k ≤ a.length ∧ (a == b) = (a.drop k == b.drop k)) 0 ⟨by omega, by simp⟩ (Weak.by [] (by simp) (by simp) ?_ ?_) ?_
    · simp [mkF, RenL, ren_any, ren_pure (pure_int _ _), ren_pure (pure_ints _)]
    · simp [RenW]
    · rintro k ⟨hk, hinv⟩
      simp (maxSteps := 1000000) (implicitDefEqProofs := false) only [go_sem, reduceCtorEq, Nat.reduceEqDiff, Nat.reduceAdd, Nat.reduceSub, Nat.reduceMul, Nat.reduceLeDiff, Nat.reducePow, Nat.reduceLT, Nat.reduceGT, Nat.reduceLeDiff, Int.reduceLE, Int.reduceLT, Int.reduceToNat, Int.cast_ofNat_Int, not_false_eq_true, not_true_eq_false, if_true, if_false, List.getElem?_map, Option.map_eq_some_iff, forall_exists_index, and_imp, forall_apply_eq_imp_iff₂]
      refine ite_i (fun hlt => ?_) (fun hge => ?_)
      · simp at hlt
        refine Drawn.quiet mixed (by kernel_rfl) ?_
        simp (maxSteps := 1000000) (implicitDefEqProofs := false) only [go_sem, reduceCtorEq, Nat.reduceEqDiff, Nat.reduceAdd, Nat.reduceSub, Nat.reduceMul, Nat.reduceLeDiff, Nat.reducePow, Nat.reduceLT, Nat.reduceGT, Nat.reduceLeDiff, Int.reduceLE, Int.reduceLT, Int.reduceToNat, Int.cast_ofNat_Int, not_false_eq_true, not_true_eq_false, if_true, if_false, List.getElem?_map, Option.map_eq_some_iff, forall_exists_index, and_imp, forall_apply_eq_imp_iff₂, encI, Try.results18]
        refine ⟨by omega, by omega, fun x hx => ⟨by omega, by omega, fun y hy => ite_i (fun hne => ?_) (fun heq => ?_)⟩⟩
        · refine Ret.data (pure_bool _) ⟨?_, rfl⟩
          have hne' : x ≠ y := by simpa using hne
          rw [hinv, drop_cons hx, drop_cons hy]
          simp [retAV, hne']
        · have he : x = y := by simpa using heq
          subst he
          refine Loop.back (k + 1) (by omega) ⟨by omega, by rw [hinv, drop_cons hx, drop_cons hy]; simp⟩ (Weak.by [] (by simp) (by simp) ?_ (by simp [RenW]))
          simp [RenL, ren_any, wrap_succ hlt ha, ren_pure (pure_int _ _), ren_pure (pure_ints _)]
      · simp at hge
        simp (maxSteps := 1000000) (implicitDefEqProofs := false) only [go_sem, reduceCtorEq, Nat.reduceEqDiff, Nat.reduceAdd, Nat.reduceSub, Nat.reduceMul, Nat.reduceLeDiff, Nat.reducePow, Nat.reduceLT, Nat.reduceGT, Nat.reduceLeDiff, Int.reduceLE, Int.reduceLT, Int.reduceToNat, Int.cast_ofNat_Int, not_false_eq_true, not_true_eq_false, if_true, if_false, List.getElem?_map, Option.map_eq_some_iff, forall_exists_index, and_imp, forall_apply_eq_imp_iff₂, Try.results18]
        refine Ret.data (pure_bool _) ⟨?_, rfl⟩
        rw [hinv, List.drop_of_length_le hge, List.drop_of_length_le (by omega)]
        rfl

end Go.Proofs.Ytpndpdbabblphaa
