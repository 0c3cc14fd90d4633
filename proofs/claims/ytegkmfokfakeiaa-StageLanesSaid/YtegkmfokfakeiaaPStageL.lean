/-
  The law StageLanes.
-/
import Derived.Test.YtegkmfokfakeiaaPStage
namespace Go.Proofs.Ytegkmfokfakeiaa
set_option linter.unusedVariables false
set_option linter.unusedSimpArgs false

theorem StageLanes_true (x : Item) (v r : Int) (gx : gItem x) (gv : gI v) (gr : gI r) : crosslaw_StageLanes x v r = some true := by
  have lane : ∀ (y : Item), (1 ≤ r ∧ r ≤ 16) → stage_Lane y r = some (y.Key % r, 0) := fun y hr => by
    unfold stage_Lane
    rw [if_neg (by simp; omega)]
    unfold rem
    rw [if_neg (by omega), Option.bind_some, if_neg (by omega), Option.bind_some]
    have h1 := Int.tmod_lt_of_pos y.Key (show 0 < r by omega)
    have h2 := Int.lt_tmod_of_pos y.Key (show 0 < r by omega)
    rw [wrap_ok (by omega) (by omega)]
    have h3 : (y.Key.tmod r + r).tmod r = y.Key % r := by
      rw [Int.tmod_eq_emod_of_nonneg (by omega), Int.add_emod_right, Int.tmod_eq_emod]
      have hn : ((r.natAbs : Nat) : Int) = r := by omega
      split <;> simp [hn, Int.sub_emod_right]
    rw [h3]
  unfold crosslaw_StageLanes
  rw [staged_true]
  by_cases hr : 1 ≤ r ∧ r ≤ 16
  · rw [lane x hr]
    simp only [Option.bind_some]
    rw [if_neg (by simp), lane _ hr]
    simp only [Option.bind_some]
    have h1 := Int.emod_nonneg x.Key (show r ≠ 0 by omega)
    have h2 := Int.emod_lt_of_pos x.Key (show 0 < r by omega)
    rw [if_neg (by simp; omega)]
    split
    · rfl
    · rename_i hb
      simp at hb
      rw [lane _ hr]
      simp only [Option.bind_some]
      rw [wrap_ok (by omega) (by omega), Int.add_emod_right]
      simp
  · have : stage_Lane x r = some (0, 3) := by
      unfold stage_Lane
      rw [if_pos (by simp; omega)]
    rw [this]
    simp

end Go.Proofs.Ytegkmfokfakeiaa
