/-
  What this program's data are as values; small words for the proofs.
-/
import Derived.Test.YtpndpdbabblphaaTy
namespace Go.Proofs.Ytpndpdbabblphaa
open Go.RowKit
set_option linter.unusedVariables false
set_option linter.unusedSimpArgs false

theorem mixed : Try.prog.follows .mixedOrders = true := by kernel_rfl
theorem ite_i {c : Prop} [Decidable c] {A B : Prop} (h1 : c → A) (h2 : ¬ c → B) : if c then A else B := by
  by_cases h : c
  · rw [if_pos h]; exact h1 h
  · rw [if_neg h]; exact h2 h
theorem wrap_in (n : Int) (h0 : -9223372036854775808 ≤ n) (h1 : n ≤ 9223372036854775807) : IntKind.i64.wrap n = n := IntWalk.i64_in n ⟨h0, h1⟩
theorem wrap_succ {k n : Nat} (h : k < n) (hn : n ≤ 1099511627776) : IntKind.i64.wrap ((k : Int) + 1) = ((k + 1 : Nat) : Int) := by rw [wrap_in _ (by omega) (by omega)]; rfl

def encI (n : Int) : List AV := [.int .i64 n]
def encS (s : List UInt8) : List AV := [.str s]
theorem pure_ints (l : List Int) : Pure (.sl (l.map encI)) := pure_sl _ (by simp [encI, pure_int])
theorem pure_strs (l : List (List UInt8)) : Pure (.sl (l.map encS)) := pure_sl _ (by simp [encS, pure_str])

theorem drop_cons {α : Type} {l : List α} {k : Nat} {x : α} (h : l[k]? = some x) : l.drop k = x :: l.drop (k + 1) := by
  obtain ⟨hlt, rfl⟩ := List.getElem?_eq_some_iff.1 h
  exact List.drop_eq_getElem_cons hlt
theorem get_some {α : Type} {l : List α} {k : Nat} (h : k < l.length) : ∃ x, l[k]? = some x := ⟨_, List.getElem?_eq_getElem h⟩

end Go.Proofs.Ytpndpdbabblphaa
