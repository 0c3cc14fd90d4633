/-
  No cell of these rows narrows 'for every input' (looked for: loops, veiled, ifaces, maps, wideKeys, modest, calm, conditions, laid).
  DERIVED. THE GIVEN ROWS OF THIS SEAT. 2 by the template 'for every input the law returns true; each argument reads behind the call as it read before'; 0 by the template 'total and deterministic' (their statements: YtchmpaaofmihcaaTotals.lean).
  GIVEN WITH THE SEED: the statements are not yours to turn. If you find one false, say at which input.
  Laid BY PROGRAM, IN A SANDBOX (cutbox-rows.mjs): the forced cells as the released guide's own fill.sh prints them over the translation 786a143656f82b24… (all of the seat's roots in one cut). By AI agents, Wed Nov 11 2026. No macro, syntax, notation, axiom, sorry.
-/
import Derived.Test.YtchmpaaofmihcaaChecked
import GoSem.Claim
import GoSem.ClaimJoined
import GoSem.ClaimMapViews
import Derived.JoinedTies
import Derived.KernelRfl
namespace Go.Proofs.Ytchmpaaofmihcaa
/- THE CELL 'sum', in the pinned program and in every row, IS THE sha256 OF THE DUMP (.gsa) THAT YtchmpaaofmihcaaProg.lean LOADS. Nothing in Lean hashes anything: it is a label: what it is worth is what the hold of that sum in a sandbox is worth. -/
noncomputable def Try.pinned : Pinned := { name := "ytchmpaaofmihcaa", sum := "786a143656f82b24a8de981c4e7d238a06afebf0e853a97d2cba179f25db9d31", checked := Try.checked }
namespace Rows
def none {H : Type} : Left H := { results := [], args := [] }

/-- 'crosslaw.SaveOne': WHATEVER THE INPUT: true; the input reads as it did. -/
def saveOneSpec : ChangeSpec := { name := "saveOne", fn := fun _ => fun
  | [d1, d2, d3, d4] => { results := [.lit (.bool true)], args := [d1, d2, d3, d4] }
  | _ => none }
def saveOneRow : OpenClaim := { program := "ytchmpaaofmihcaa", sum := "786a143656f82b24a8de981c4e7d238a06afebf0e853a97d2cba179f25db9d31", func := "crossroads/crosslaw.SaveOne", spec := "saveOne", inPlace := ["internal/abi.NoEscape", "slices.overlaps[crossroads/api.Keyed]"], unfollowed := true, recurses := true, apart := false }
def SaveOneSaid : Prop := saveOneRow.holds Try.pinned (OpenSpec.ofChange saveOneSpec)

/-- ITS FALSE NEIGHBOUR: 'it returns false'. Refute it at one input. -/
def saveOneWrong : ChangeSpec := { name := "saveOne", fn := fun _ => fun
  | [d1, d2, d3, d4] => { results := [.lit (.bool false)], args := [d1, d2, d3, d4] }
  | _ => none }
def SaveOneWrongFalsely : Prop := saveOneRow.holds Try.pinned (OpenSpec.ofChange saveOneWrong)

/-- 'crosslaw.SaveCut': WHATEVER THE INPUT: true; the input reads as it did. -/
def saveCutSpec : ChangeSpec := { name := "saveCut", fn := fun _ => fun
  | [d1, d2, d3, d4, d5] => { results := [.lit (.bool true)], args := [d1, d2, d3, d4, d5] }
  | _ => none }
def saveCutRow : OpenClaim := { program := "ytchmpaaofmihcaa", sum := "786a143656f82b24a8de981c4e7d238a06afebf0e853a97d2cba179f25db9d31", func := "crossroads/crosslaw.SaveCut", spec := "saveCut", inPlace := ["slices.overlaps[crossroads/api.Keyed]", "internal/abi.NoEscape"], unfollowed := true, recurses := true, apart := false }
def SaveCutSaid : Prop := saveCutRow.holds Try.pinned (OpenSpec.ofChange saveCutSpec)

/-- ITS FALSE NEIGHBOUR: 'it returns false'. Refute it at one input. -/
def saveCutWrong : ChangeSpec := { name := "saveCut", fn := fun _ => fun
  | [d1, d2, d3, d4, d5] => { results := [.lit (.bool false)], args := [d1, d2, d3, d4, d5] }
  | _ => none }
def SaveCutWrongFalsely : Prop := saveCutRow.holds Try.pinned (OpenSpec.ofChange saveCutWrong)

/- THE SECOND FORM. 'bulk': how many values and letters a reading holds, each counted each time it is reached (what is shared counts as often as it is met; a slice's spare places count too). A statement '..UptoSaid' is the law's where the arguments, and the package variables that the reading takes, are together of bulk at most 1048576: NARROWER than '..Said'. Prove '..Said' where nothing that the law and all that it calls make is longer than what came in: it says more and counts as full. Else prove '..UptoSaid'. A law counts once. -/
mutual
def uptoBulk {H : Type} : DataW H → Nat
  | .lit (.string bytes) => bytes.length + 1
  | .lit _ => 1
  | .nil => 1
  | .ptr d => uptoBulk d + 1
  | .slice elems spare => uptoBulkAll elems + uptoBulkAll spare + 1
  | .agg parts => uptoBulkAll parts + 1
  | .iface _ d => uptoBulk d + 1
  | .map entries => uptoBulkEntries entries + 1
  | .held _ => 1
def uptoBulkAll {H : Type} : List (DataW H) → Nat
  | [] => 0
  | d :: r => uptoBulk d + uptoBulkAll r
def uptoBulkEntries {H : Type} : List (Lit × DataW H) → Nat
  | [] => 0
  | x :: r => uptoBulkEntry x + uptoBulkEntries r
def uptoBulkEntry {H : Type} : Lit × DataW H → Nat
  | (.string bytes, d) => bytes.length + uptoBulk d + 1
  | (_, d) => uptoBulk d + 1
 end
def uptoSmall : (H : Type) → List (DataW H) → Bool := fun _ ds => decide (uptoBulkAll ds ≤ 1048576)
def OpenSpec.upto (s : _root_.Go.ChangeSpec) : _root_.Go.OpenSpec := { _root_.Go.OpenSpec.ofChange s with cond := some uptoSmall }

/-- 'crosslaw.SaveOne', WHERE WHAT IT READS IS OF BULK AT MOST 1048576: true; the input reads as it did. -/
def saveOneUptoRow : OpenClaim := { program := "ytchmpaaofmihcaa", sum := "786a143656f82b24a8de981c4e7d238a06afebf0e853a97d2cba179f25db9d31", func := "crossroads/crosslaw.SaveOne", spec := "saveOne", inPlace := ["internal/abi.NoEscape", "slices.overlaps[crossroads/api.Keyed]"], unfollowed := true, recurses := true, apart := false, narrowed := true }
def SaveOneUptoSaid : Prop := saveOneUptoRow.holds Try.pinned (OpenSpec.upto saveOneSpec)

/-- 'crosslaw.SaveCut', WHERE WHAT IT READS IS OF BULK AT MOST 1048576: true; the input reads as it did. -/
def saveCutUptoRow : OpenClaim := { program := "ytchmpaaofmihcaa", sum := "786a143656f82b24a8de981c4e7d238a06afebf0e853a97d2cba179f25db9d31", func := "crossroads/crosslaw.SaveCut", spec := "saveCut", inPlace := ["slices.overlaps[crossroads/api.Keyed]", "internal/abi.NoEscape"], unfollowed := true, recurses := true, apart := false, narrowed := true }
def SaveCutUptoSaid : Prop := saveCutUptoRow.holds Try.pinned (OpenSpec.upto saveCutSpec)

end Rows
end Go.Proofs.Ytchmpaaofmihcaa
