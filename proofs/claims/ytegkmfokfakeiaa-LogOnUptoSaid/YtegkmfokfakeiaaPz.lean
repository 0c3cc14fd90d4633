/-
  More plain words.
-/
import Derived.Test.YtegkmfokfakeiaaPl
namespace Go.Proofs.Ytegkmfokfakeiaa

/-- append of n zeros. -/
def appz {α : Type} (xs : List α) (m : Int) (z : α) : Option (List α) := if 0 < m ∧ xs.length + m.toNat ≤ 1099511627776 then some (xs ++ List.replicate m.toNat z) else none
end Go.Proofs.Ytegkmfokfakeiaa
