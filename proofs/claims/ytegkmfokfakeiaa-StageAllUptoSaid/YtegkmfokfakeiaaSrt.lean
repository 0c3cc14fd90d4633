/-
  Sorting of keyed counts: the plain word.
-/
import Derived.Test.YtegkmfokfakeiaaData
import Derived.Sort.Defs
namespace Go.Proofs.Ytegkmfokfakeiaa

instance : Inhabited Keyed := ⟨⟨0, 0⟩⟩
def ltK (a b : Keyed) : Bool := decide (a.Key < b.Key)
noncomputable def sortK (xs : List Keyed) : Option (List Keyed) := if xs.length ≤ 1 then some xs else if xs.length ≤ 12 then some (Sort.insertionSort ltK xs.toArray 0 xs.toArray.size).toList else none
end Go.Proofs.Ytegkmfokfakeiaa
