/-
  No cell of these rows narrows 'for every input' (looked for: loops, veiled, ifaces, maps, wideKeys, modest, calm, conditions, laid).
  DERIVED. THE GIVEN ROWS OF THIS SEAT. 9 by the template 'for every input the law returns true; each argument reads behind the call as it read before'; 0 by the template 'total and deterministic' (their statements: YtfbmoockopakjaaTotals.lean).
  GIVEN WITH THE SEED: the statements are not yours to turn. If you find one false, say at which input.
  Laid BY PROGRAM, IN A SANDBOX (cutbox-rows.mjs): the forced cells as the released guide's own fill.sh prints them over the translation 4d8d19ea4121c72a… (all of the seat's roots in one cut). By AI agents, Wed Nov 11 2026. No macro, syntax, notation, axiom, sorry.
-/
import Derived.Test.YtfbmoockopakjaaChecked
import GoSem.Claim
import GoSem.ClaimJoined
import GoSem.ClaimMapViews
import Derived.JoinedTies
import Derived.KernelRfl
namespace Go.Proofs.Ytfbmoockopakjaa
/- THE CELL 'sum', in the pinned program and in every row, IS THE sha256 OF THE DUMP (.gsa) THAT YtfbmoockopakjaaProg.lean LOADS. Nothing in Lean hashes anything: it is a label: what it is worth is what the hold of that sum in a sandbox is worth. -/
noncomputable def Try.pinned : Pinned := { name := "ytfbmoockopakjaa", sum := "4d8d19ea4121c72a8f6dea52d911eb01e3c9f8b180a5c2c05e622f763dffdd6e", checked := Try.checked }
namespace Rows
def none {H : Type} : Left H := { results := [], args := [] }

/-- 'crosslaw.MoveDrains': WHATEVER THE INPUT: true; the input reads as it did. -/
def moveDrainsSpec : ChangeSpec := { name := "moveDrains", fn := fun _ => fun
  | [d1, d2, d3] => { results := [.lit (.bool true)], args := [d1, d2, d3] }
  | _ => none }
def moveDrainsRow : OpenClaim := { program := "ytfbmoockopakjaa", sum := "4d8d19ea4121c72a8f6dea52d911eb01e3c9f8b180a5c2c05e622f763dffdd6e", func := "crossroads/crosslaw.MoveDrains", spec := "moveDrains", inPlace := ["slices.overlaps[crossroads/api.Keyed]"], unfollowed := true, recurses := true, apart := false }
def MoveDrainsSaid : Prop := moveDrainsRow.holds Try.pinned (OpenSpec.ofChange moveDrainsSpec)

/-- ITS FALSE NEIGHBOUR: 'it returns false'. Refute it at one input. -/
def moveDrainsWrong : ChangeSpec := { name := "moveDrains", fn := fun _ => fun
  | [d1, d2, d3] => { results := [.lit (.bool false)], args := [d1, d2, d3] }
  | _ => none }
def MoveDrainsWrongFalsely : Prop := moveDrainsRow.holds Try.pinned (OpenSpec.ofChange moveDrainsWrong)

/-- 'crosslaw.MoveHangs': WHATEVER THE INPUT: true; the input reads as it did. -/
def moveHangsSpec : ChangeSpec := { name := "moveHangs", fn := fun _ => fun
  | [d1, d2, d3] => { results := [.lit (.bool true)], args := [d1, d2, d3] }
  | _ => none }
def moveHangsRow : OpenClaim := { program := "ytfbmoockopakjaa", sum := "4d8d19ea4121c72a8f6dea52d911eb01e3c9f8b180a5c2c05e622f763dffdd6e", func := "crossroads/crosslaw.MoveHangs", spec := "moveHangs", inPlace := ["slices.overlaps[crossroads/api.Keyed]"], unfollowed := true, recurses := true, apart := false }
def MoveHangsSaid : Prop := moveHangsRow.holds Try.pinned (OpenSpec.ofChange moveHangsSpec)

/-- ITS FALSE NEIGHBOUR: 'it returns false'. Refute it at one input. -/
def moveHangsWrong : ChangeSpec := { name := "moveHangs", fn := fun _ => fun
  | [d1, d2, d3] => { results := [.lit (.bool false)], args := [d1, d2, d3] }
  | _ => none }
def MoveHangsWrongFalsely : Prop := moveHangsRow.holds Try.pinned (OpenSpec.ofChange moveHangsWrong)

/-- 'crosslaw.MoveOne': WHATEVER THE INPUT: true; the input reads as it did. -/
def moveOneSpec : ChangeSpec := { name := "moveOne", fn := fun _ => fun
  | [d1, d2, d3, d4] => { results := [.lit (.bool true)], args := [d1, d2, d3, d4] }
  | _ => none }
def moveOneRow : OpenClaim := { program := "ytfbmoockopakjaa", sum := "4d8d19ea4121c72a8f6dea52d911eb01e3c9f8b180a5c2c05e622f763dffdd6e", func := "crossroads/crosslaw.MoveOne", spec := "moveOne", inPlace := ["slices.overlaps[crossroads/api.Keyed]"], unfollowed := true, recurses := true, apart := false }
def MoveOneSaid : Prop := moveOneRow.holds Try.pinned (OpenSpec.ofChange moveOneSpec)

/-- ITS FALSE NEIGHBOUR: 'it returns false'. Refute it at one input. -/
def moveOneWrong : ChangeSpec := { name := "moveOne", fn := fun _ => fun
  | [d1, d2, d3, d4] => { results := [.lit (.bool false)], args := [d1, d2, d3, d4] }
  | _ => none }
def MoveOneWrongFalsely : Prop := moveOneRow.holds Try.pinned (OpenSpec.ofChange moveOneWrong)

/-- 'crosslaw.MoveEither': WHATEVER THE INPUT: true; the input reads as it did. -/
def moveEitherSpec : ChangeSpec := { name := "moveEither", fn := fun _ => fun
  | [d1, d2, d3, d4, d5] => { results := [.lit (.bool true)], args := [d1, d2, d3, d4, d5] }
  | _ => none }
def moveEitherRow : OpenClaim := { program := "ytfbmoockopakjaa", sum := "4d8d19ea4121c72a8f6dea52d911eb01e3c9f8b180a5c2c05e622f763dffdd6e", func := "crossroads/crosslaw.MoveEither", spec := "moveEither", inPlace := ["slices.overlaps[crossroads/api.Keyed]"], unfollowed := true, recurses := true, apart := false }
def MoveEitherSaid : Prop := moveEitherRow.holds Try.pinned (OpenSpec.ofChange moveEitherSpec)

/-- ITS FALSE NEIGHBOUR: 'it returns false'. Refute it at one input. -/
def moveEitherWrong : ChangeSpec := { name := "moveEither", fn := fun _ => fun
  | [d1, d2, d3, d4, d5] => { results := [.lit (.bool false)], args := [d1, d2, d3, d4, d5] }
  | _ => none }
def MoveEitherWrongFalsely : Prop := moveEitherRow.holds Try.pinned (OpenSpec.ofChange moveEitherWrong)

/-- 'crosslaw.TrailBegins': WHATEVER THE INPUT: true; the input reads as it did. -/
def trailBeginsSpec : ChangeSpec := { name := "trailBegins", fn := fun _ => fun
  | [d1, d2, d3, d4] => { results := [.lit (.bool true)], args := [d1, d2, d3, d4] }
  | _ => none }
def trailBeginsRow : OpenClaim := { program := "ytfbmoockopakjaa", sum := "4d8d19ea4121c72a8f6dea52d911eb01e3c9f8b180a5c2c05e622f763dffdd6e", func := "crossroads/crosslaw.TrailBegins", spec := "trailBegins", inPlace := ["slices.overlaps[crossroads/api.Keyed]"], unfollowed := true, recurses := true, apart := false }
def TrailBeginsSaid : Prop := trailBeginsRow.holds Try.pinned (OpenSpec.ofChange trailBeginsSpec)

/-- ITS FALSE NEIGHBOUR: 'it returns false'. Refute it at one input. -/
def trailBeginsWrong : ChangeSpec := { name := "trailBegins", fn := fun _ => fun
  | [d1, d2, d3, d4] => { results := [.lit (.bool false)], args := [d1, d2, d3, d4] }
  | _ => none }
def TrailBeginsWrongFalsely : Prop := trailBeginsRow.holds Try.pinned (OpenSpec.ofChange trailBeginsWrong)

/-- 'crosslaw.TrailFirst': WHATEVER THE INPUT: true; the input reads as it did. -/
def trailFirstSpec : ChangeSpec := { name := "trailFirst", fn := fun _ => fun
  | [d1, d2, d3, d4, d5] => { results := [.lit (.bool true)], args := [d1, d2, d3, d4, d5] }
  | _ => none }
def trailFirstRow : OpenClaim := { program := "ytfbmoockopakjaa", sum := "4d8d19ea4121c72a8f6dea52d911eb01e3c9f8b180a5c2c05e622f763dffdd6e", func := "crossroads/crosslaw.TrailFirst", spec := "trailFirst", inPlace := ["slices.overlaps[crossroads/api.Keyed]"], unfollowed := true, recurses := true, apart := false }
def TrailFirstSaid : Prop := trailFirstRow.holds Try.pinned (OpenSpec.ofChange trailFirstSpec)

/-- ITS FALSE NEIGHBOUR: 'it returns false'. Refute it at one input. -/
def trailFirstWrong : ChangeSpec := { name := "trailFirst", fn := fun _ => fun
  | [d1, d2, d3, d4, d5] => { results := [.lit (.bool false)], args := [d1, d2, d3, d4, d5] }
  | _ => none }
def TrailFirstWrongFalsely : Prop := trailFirstRow.holds Try.pinned (OpenSpec.ofChange trailFirstWrong)

/-- 'crosslaw.TrailLanes': WHATEVER THE INPUT: true; the input reads as it did. -/
def trailLanesSpec : ChangeSpec := { name := "trailLanes", fn := fun _ => fun
  | [d1, d2, d3] => { results := [.lit (.bool true)], args := [d1, d2, d3] }
  | _ => none }
def trailLanesRow : OpenClaim := { program := "ytfbmoockopakjaa", sum := "4d8d19ea4121c72a8f6dea52d911eb01e3c9f8b180a5c2c05e622f763dffdd6e", func := "crossroads/crosslaw.TrailLanes", spec := "trailLanes", inPlace := ["slices.overlaps[crossroads/api.Keyed]"], unfollowed := true, recurses := true, apart := false }
def TrailLanesSaid : Prop := trailLanesRow.holds Try.pinned (OpenSpec.ofChange trailLanesSpec)

/-- ITS FALSE NEIGHBOUR: 'it returns false'. Refute it at one input. -/
def trailLanesWrong : ChangeSpec := { name := "trailLanes", fn := fun _ => fun
  | [d1, d2, d3] => { results := [.lit (.bool false)], args := [d1, d2, d3] }
  | _ => none }
def TrailLanesWrongFalsely : Prop := trailLanesRow.holds Try.pinned (OpenSpec.ofChange trailLanesWrong)

/-- 'crosslaw.TrailSame': WHATEVER THE INPUT: true; the input reads as it did. -/
def trailSameSpec : ChangeSpec := { name := "trailSame", fn := fun _ => fun
  | [d1, d2, d3, d4] => { results := [.lit (.bool true)], args := [d1, d2, d3, d4] }
  | _ => none }
def trailSameRow : OpenClaim := { program := "ytfbmoockopakjaa", sum := "4d8d19ea4121c72a8f6dea52d911eb01e3c9f8b180a5c2c05e622f763dffdd6e", func := "crossroads/crosslaw.TrailSame", spec := "trailSame", inPlace := ["slices.overlaps[crossroads/api.Keyed]"], unfollowed := true, recurses := true, apart := false }
def TrailSameSaid : Prop := trailSameRow.holds Try.pinned (OpenSpec.ofChange trailSameSpec)

/-- ITS FALSE NEIGHBOUR: 'it returns false'. Refute it at one input. -/
def trailSameWrong : ChangeSpec := { name := "trailSame", fn := fun _ => fun
  | [d1, d2, d3, d4] => { results := [.lit (.bool false)], args := [d1, d2, d3, d4] }
  | _ => none }
def TrailSameWrongFalsely : Prop := trailSameRow.holds Try.pinned (OpenSpec.ofChange trailSameWrong)

/-- 'crosslaw.MoveAll': WHATEVER THE INPUT: true; the input reads as it did. -/
def moveAllSpec : ChangeSpec := { name := "moveAll", fn := fun _ => fun
  | [d1, d2, d3] => { results := [.lit (.bool true)], args := [d1, d2, d3] }
  | _ => none }
def moveAllRow : OpenClaim := { program := "ytfbmoockopakjaa", sum := "4d8d19ea4121c72a8f6dea52d911eb01e3c9f8b180a5c2c05e622f763dffdd6e", func := "crossroads/crosslaw.MoveAll", spec := "moveAll", inPlace := ["slices.overlaps[crossroads/api.Keyed]"], unfollowed := true, recurses := true, apart := false }
def MoveAllSaid : Prop := moveAllRow.holds Try.pinned (OpenSpec.ofChange moveAllSpec)

/-- ITS FALSE NEIGHBOUR: 'it returns false'. Refute it at one input. -/
def moveAllWrong : ChangeSpec := { name := "moveAll", fn := fun _ => fun
  | [d1, d2, d3] => { results := [.lit (.bool false)], args := [d1, d2, d3] }
  | _ => none }
def MoveAllWrongFalsely : Prop := moveAllRow.holds Try.pinned (OpenSpec.ofChange moveAllWrong)

/- THE SECOND FORM. 'bulk': how many values and letters a reading holds, each counted each time it is reached (what is shared counts as often as it is met; a slice's spare places count too). A statement '..UptoSaid' is the law's where the arguments, and the package variables that the reading takes, are together of bulk at most 1048576: NARROWER than '..Said'. Prove '..Said' where nothing that the law and all that it calls make is longer than what came in: it says more and counts as full. Else prove '..UptoSaid'. A law counts once. -/
mutual
def uptoBulk {H : Type} : DataW H → Nat
  | .lit (.string bytes) => bytes.length + 1
  | .lit _ => 1
  | .nil => 1
  | .ptr d => uptoBulk d + 1
  | .slice elems spare => uptoBulkAll elems + uptoBulkAll spare + 1
  | .agg parts => uptoBulkAll parts + 1
  | .iface _ d => uptoBulk d + 1
  | .map entries => uptoBulkEntries entries + 1
  | .held _ => 1
def uptoBulkAll {H : Type} : List (DataW H) → Nat
  | [] => 0
  | d :: r => uptoBulk d + uptoBulkAll r
def uptoBulkEntries {H : Type} : List (Lit × DataW H) → Nat
  | [] => 0
  | x :: r => uptoBulkEntry x + uptoBulkEntries r
def uptoBulkEntry {H : Type} : Lit × DataW H → Nat
  | (.string bytes, d) => bytes.length + uptoBulk d + 1
  | (_, d) => uptoBulk d + 1
 end
def uptoSmall : (H : Type) → List (DataW H) → Bool := fun _ ds => decide (uptoBulkAll ds ≤ 1048576)
def OpenSpec.upto (s : _root_.Go.ChangeSpec) : _root_.Go.OpenSpec := { _root_.Go.OpenSpec.ofChange s with cond := some uptoSmall }

/-- 'crosslaw.MoveDrains', WHERE WHAT IT READS IS OF BULK AT MOST 1048576: true; the input reads as it did. -/
def moveDrainsUptoRow : OpenClaim := { program := "ytfbmoockopakjaa", sum := "4d8d19ea4121c72a8f6dea52d911eb01e3c9f8b180a5c2c05e622f763dffdd6e", func := "crossroads/crosslaw.MoveDrains", spec := "moveDrains", inPlace := ["slices.overlaps[crossroads/api.Keyed]"], unfollowed := true, recurses := true, apart := false, narrowed := true }
def MoveDrainsUptoSaid : Prop := moveDrainsUptoRow.holds Try.pinned (OpenSpec.upto moveDrainsSpec)

/-- 'crosslaw.MoveHangs', WHERE WHAT IT READS IS OF BULK AT MOST 1048576: true; the input reads as it did. -/
def moveHangsUptoRow : OpenClaim := { program := "ytfbmoockopakjaa", sum := "4d8d19ea4121c72a8f6dea52d911eb01e3c9f8b180a5c2c05e622f763dffdd6e", func := "crossroads/crosslaw.MoveHangs", spec := "moveHangs", inPlace := ["slices.overlaps[crossroads/api.Keyed]"], unfollowed := true, recurses := true, apart := false, narrowed := true }
def MoveHangsUptoSaid : Prop := moveHangsUptoRow.holds Try.pinned (OpenSpec.upto moveHangsSpec)

/-- 'crosslaw.MoveOne', WHERE WHAT IT READS IS OF BULK AT MOST 1048576: true; the input reads as it did. -/
def moveOneUptoRow : OpenClaim := { program := "ytfbmoockopakjaa", sum := "4d8d19ea4121c72a8f6dea52d911eb01e3c9f8b180a5c2c05e622f763dffdd6e", func := "crossroads/crosslaw.MoveOne", spec := "moveOne", inPlace := ["slices.overlaps[crossroads/api.Keyed]"], unfollowed := true, recurses := true, apart := false, narrowed := true }
def MoveOneUptoSaid : Prop := moveOneUptoRow.holds Try.pinned (OpenSpec.upto moveOneSpec)

/-- 'crosslaw.MoveEither', WHERE WHAT IT READS IS OF BULK AT MOST 1048576: true; the input reads as it did. -/
def moveEitherUptoRow : OpenClaim := { program := "ytfbmoockopakjaa", sum := "4d8d19ea4121c72a8f6dea52d911eb01e3c9f8b180a5c2c05e622f763dffdd6e", func := "crossroads/crosslaw.MoveEither", spec := "moveEither", inPlace := ["slices.overlaps[crossroads/api.Keyed]"], unfollowed := true, recurses := true, apart := false, narrowed := true }
def MoveEitherUptoSaid : Prop := moveEitherUptoRow.holds Try.pinned (OpenSpec.upto moveEitherSpec)

/-- 'crosslaw.TrailBegins', WHERE WHAT IT READS IS OF BULK AT MOST 1048576: true; the input reads as it did. -/
def trailBeginsUptoRow : OpenClaim := { program := "ytfbmoockopakjaa", sum := "4d8d19ea4121c72a8f6dea52d911eb01e3c9f8b180a5c2c05e622f763dffdd6e", func := "crossroads/crosslaw.TrailBegins", spec := "trailBegins", inPlace := ["slices.overlaps[crossroads/api.Keyed]"], unfollowed := true, recurses := true, apart := false, narrowed := true }
def TrailBeginsUptoSaid : Prop := trailBeginsUptoRow.holds Try.pinned (OpenSpec.upto trailBeginsSpec)

/-- 'crosslaw.TrailFirst', WHERE WHAT IT READS IS OF BULK AT MOST 1048576: true; the input reads as it did. -/
def trailFirstUptoRow : OpenClaim := { program := "ytfbmoockopakjaa", sum := "4d8d19ea4121c72a8f6dea52d911eb01e3c9f8b180a5c2c05e622f763dffdd6e", func := "crossroads/crosslaw.TrailFirst", spec := "trailFirst", inPlace := ["slices.overlaps[crossroads/api.Keyed]"], unfollowed := true, recurses := true, apart := false, narrowed := true }
def TrailFirstUptoSaid : Prop := trailFirstUptoRow.holds Try.pinned (OpenSpec.upto trailFirstSpec)

/-- 'crosslaw.TrailLanes', WHERE WHAT IT READS IS OF BULK AT MOST 1048576: true; the input reads as it did. -/
def trailLanesUptoRow : OpenClaim := { program := "ytfbmoockopakjaa", sum := "4d8d19ea4121c72a8f6dea52d911eb01e3c9f8b180a5c2c05e622f763dffdd6e", func := "crossroads/crosslaw.TrailLanes", spec := "trailLanes", inPlace := ["slices.overlaps[crossroads/api.Keyed]"], unfollowed := true, recurses := true, apart := false, narrowed := true }
def TrailLanesUptoSaid : Prop := trailLanesUptoRow.holds Try.pinned (OpenSpec.upto trailLanesSpec)

/-- 'crosslaw.TrailSame', WHERE WHAT IT READS IS OF BULK AT MOST 1048576: true; the input reads as it did. -/
def trailSameUptoRow : OpenClaim := { program := "ytfbmoockopakjaa", sum := "4d8d19ea4121c72a8f6dea52d911eb01e3c9f8b180a5c2c05e622f763dffdd6e", func := "crossroads/crosslaw.TrailSame", spec := "trailSame", inPlace := ["slices.overlaps[crossroads/api.Keyed]"], unfollowed := true, recurses := true, apart := false, narrowed := true }
def TrailSameUptoSaid : Prop := trailSameUptoRow.holds Try.pinned (OpenSpec.upto trailSameSpec)

/-- 'crosslaw.MoveAll', WHERE WHAT IT READS IS OF BULK AT MOST 1048576: true; the input reads as it did. -/
def moveAllUptoRow : OpenClaim := { program := "ytfbmoockopakjaa", sum := "4d8d19ea4121c72a8f6dea52d911eb01e3c9f8b180a5c2c05e622f763dffdd6e", func := "crossroads/crosslaw.MoveAll", spec := "moveAll", inPlace := ["slices.overlaps[crossroads/api.Keyed]"], unfollowed := true, recurses := true, apart := false, narrowed := true }
def MoveAllUptoSaid : Prop := moveAllUptoRow.holds Try.pinned (OpenSpec.upto moveAllSpec)

end Rows
end Go.Proofs.Ytfbmoockopakjaa
