/-
  No cell of these rows narrows 'for every input' (looked for: loops, veiled, ifaces, maps, wideKeys, modest, calm, conditions, laid).
  DERIVED. THE GIVEN ROWS OF THIS SEAT. 3 by the template 'for every input the law returns true; each argument reads behind the call as it read before'; 0 by the template 'total and deterministic' (their statements: YtchmpaaofmihcaaGreatTotals.lean).
  GIVEN WITH THE SEED: the statements are not yours to turn. If you find one false, say at which input.
  Laid BY PROGRAM, IN A SANDBOX (cutbox-rows.mjs): the forced cells as the released guide's own fill.sh prints them over the translation 3657c71ed9c02ac9… (all of the seat's roots in one cut). By AI agents, Wed Nov 11 2026. No macro, syntax, notation, axiom, sorry.
-/
import Derived.Test.YtchmpaaofmihcaaGreatChecked
import GoSem.Claim
import GoSem.ClaimJoined
import GoSem.ClaimMapViews
import Derived.JoinedTies
import Derived.KernelRfl
namespace Go.Proofs.YtchmpaaofmihcaaGreat
/- THE CELL 'sum', in the pinned program and in every row, IS THE sha256 OF THE DUMP (.gsa) THAT YtchmpaaofmihcaaGreatProg.lean LOADS. Nothing in Lean hashes anything: it is a label: what it is worth is what the hold of that sum in a sandbox is worth. -/
noncomputable def Tryz.pinned : Pinned := { name := "ytchmpaaofmihcaagreat", sum := "3657c71ed9c02ac9dc0de6cf4e351b053ccc0aef90563e62841c5f2f77187910", checked := Tryz.checked }
namespace Rows
def none {H : Type} : Left H := { results := [], args := [] }

/-- 'crosslaw.SavePut': WHATEVER THE INPUT: true; the input reads as it did. -/
def savePutSpec : ChangeSpec := { name := "savePut", fn := fun _ => fun
  | [d1, d2, d3, d4] => { results := [.lit (.bool true)], args := [d1, d2, d3, d4] }
  | _ => none }
def savePutRow : OpenClaim := { program := "ytchmpaaofmihcaagreat", sum := "3657c71ed9c02ac9dc0de6cf4e351b053ccc0aef90563e62841c5f2f77187910", func := "crossroads/crosslaw.SavePut", spec := "savePut", inPlace := ["slices.overlaps[crossroads/api.Keyed]", "internal/abi.NoEscape"], unfollowed := true, recurses := true, apart := false }
def SavePutSaid : Prop := savePutRow.holds Tryz.pinned (OpenSpec.ofChange savePutSpec)

/-- ITS FALSE NEIGHBOUR: 'it returns false'. Refute it at one input. -/
def savePutWrong : ChangeSpec := { name := "savePut", fn := fun _ => fun
  | [d1, d2, d3, d4] => { results := [.lit (.bool false)], args := [d1, d2, d3, d4] }
  | _ => none }
def SavePutWrongFalsely : Prop := savePutRow.holds Tryz.pinned (OpenSpec.ofChange savePutWrong)

/-- 'crosslaw.SaveGet': WHATEVER THE INPUT: true; the input reads as it did. -/
def saveGetSpec : ChangeSpec := { name := "saveGet", fn := fun _ => fun
  | [d1, d2] => { results := [.lit (.bool true)], args := [d1, d2] }
  | _ => none }
def saveGetRow : OpenClaim := { program := "ytchmpaaofmihcaagreat", sum := "3657c71ed9c02ac9dc0de6cf4e351b053ccc0aef90563e62841c5f2f77187910", func := "crossroads/crosslaw.SaveGet", spec := "saveGet", inPlace := ["slices.overlaps[crossroads/api.Keyed]", "internal/abi.NoEscape"], unfollowed := true, recurses := true, apart := false }
def SaveGetSaid : Prop := saveGetRow.holds Tryz.pinned (OpenSpec.ofChange saveGetSpec)

/-- ITS FALSE NEIGHBOUR: 'it returns false'. Refute it at one input. -/
def saveGetWrong : ChangeSpec := { name := "saveGet", fn := fun _ => fun
  | [d1, d2] => { results := [.lit (.bool false)], args := [d1, d2] }
  | _ => none }
def SaveGetWrongFalsely : Prop := saveGetRow.holds Tryz.pinned (OpenSpec.ofChange saveGetWrong)

/-- 'crosslaw.SaveBytes': WHATEVER THE INPUT: true; the input reads as it did. -/
def saveBytesSpec : ChangeSpec := { name := "saveBytes", fn := fun _ => fun
  | [d1, d2, d3, d4] => { results := [.lit (.bool true)], args := [d1, d2, d3, d4] }
  | _ => none }
def saveBytesRow : OpenClaim := { program := "ytchmpaaofmihcaagreat", sum := "3657c71ed9c02ac9dc0de6cf4e351b053ccc0aef90563e62841c5f2f77187910", func := "crossroads/crosslaw.SaveBytes", spec := "saveBytes", inPlace := ["internal/abi.NoEscape", "slices.overlaps[crossroads/api.Keyed]"], unfollowed := true, recurses := true, apart := false }
def SaveBytesSaid : Prop := saveBytesRow.holds Tryz.pinned (OpenSpec.ofChange saveBytesSpec)

/-- ITS FALSE NEIGHBOUR: 'it returns false'. Refute it at one input. -/
def saveBytesWrong : ChangeSpec := { name := "saveBytes", fn := fun _ => fun
  | [d1, d2, d3, d4] => { results := [.lit (.bool false)], args := [d1, d2, d3, d4] }
  | _ => none }
def SaveBytesWrongFalsely : Prop := saveBytesRow.holds Tryz.pinned (OpenSpec.ofChange saveBytesWrong)

/- THE SECOND FORM. 'bulk': how many values and letters a reading holds, each counted each time it is reached (what is shared counts as often as it is met; a slice's spare places count too). A statement '..UptoSaid' is the law's where the arguments, and the package variables that the reading takes, are together of bulk at most 1048576: NARROWER than '..Said'. Prove '..Said' where nothing that the law and all that it calls make is longer than what came in: it says more and counts as full. Else prove '..UptoSaid'. A law counts once. -/
mutual
def uptoBulk {H : Type} : DataW H → Nat
  | .lit (.string bytes) => bytes.length + 1
  | .lit _ => 1
  | .nil => 1
  | .ptr d => uptoBulk d + 1
  | .slice elems spare => uptoBulkAll elems + uptoBulkAll spare + 1
  | .agg parts => uptoBulkAll parts + 1
  | .iface _ d => uptoBulk d + 1
  | .map entries => uptoBulkEntries entries + 1
  | .held _ => 1
def uptoBulkAll {H : Type} : List (DataW H) → Nat
  | [] => 0
  | d :: r => uptoBulk d + uptoBulkAll r
def uptoBulkEntries {H : Type} : List (Lit × DataW H) → Nat
  | [] => 0
  | x :: r => uptoBulkEntry x + uptoBulkEntries r
def uptoBulkEntry {H : Type} : Lit × DataW H → Nat
  | (.string bytes, d) => bytes.length + uptoBulk d + 1
  | (_, d) => uptoBulk d + 1
 end
def uptoSmall : (H : Type) → List (DataW H) → Bool := fun _ ds => decide (uptoBulkAll ds ≤ 1048576)
def OpenSpec.upto (s : _root_.Go.ChangeSpec) : _root_.Go.OpenSpec := { _root_.Go.OpenSpec.ofChange s with cond := some uptoSmall }

/-- 'crosslaw.SavePut', WHERE WHAT IT READS IS OF BULK AT MOST 1048576: true; the input reads as it did. -/
def savePutUptoRow : OpenClaim := { program := "ytchmpaaofmihcaagreat", sum := "3657c71ed9c02ac9dc0de6cf4e351b053ccc0aef90563e62841c5f2f77187910", func := "crossroads/crosslaw.SavePut", spec := "savePut", inPlace := ["slices.overlaps[crossroads/api.Keyed]", "internal/abi.NoEscape"], unfollowed := true, recurses := true, apart := false, narrowed := true }
def SavePutUptoSaid : Prop := savePutUptoRow.holds Tryz.pinned (OpenSpec.upto savePutSpec)

/-- 'crosslaw.SaveGet', WHERE WHAT IT READS IS OF BULK AT MOST 1048576: true; the input reads as it did. -/
def saveGetUptoRow : OpenClaim := { program := "ytchmpaaofmihcaagreat", sum := "3657c71ed9c02ac9dc0de6cf4e351b053ccc0aef90563e62841c5f2f77187910", func := "crossroads/crosslaw.SaveGet", spec := "saveGet", inPlace := ["slices.overlaps[crossroads/api.Keyed]", "internal/abi.NoEscape"], unfollowed := true, recurses := true, apart := false, narrowed := true }
def SaveGetUptoSaid : Prop := saveGetUptoRow.holds Tryz.pinned (OpenSpec.upto saveGetSpec)

/-- 'crosslaw.SaveBytes', WHERE WHAT IT READS IS OF BULK AT MOST 1048576: true; the input reads as it did. -/
def saveBytesUptoRow : OpenClaim := { program := "ytchmpaaofmihcaagreat", sum := "3657c71ed9c02ac9dc0de6cf4e351b053ccc0aef90563e62841c5f2f77187910", func := "crossroads/crosslaw.SaveBytes", spec := "saveBytes", inPlace := ["internal/abi.NoEscape", "slices.overlaps[crossroads/api.Keyed]"], unfollowed := true, recurses := true, apart := false, narrowed := true }
def SaveBytesUptoSaid : Prop := saveBytesUptoRow.holds Tryz.pinned (OpenSpec.upto saveBytesSpec)

end Rows
end Go.Proofs.YtchmpaaofmihcaaGreat
