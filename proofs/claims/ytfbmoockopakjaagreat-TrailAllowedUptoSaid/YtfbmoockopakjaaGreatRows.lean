/-
  No cell of these rows narrows 'for every input' (looked for: loops, veiled, ifaces, maps, wideKeys, modest, calm, conditions, laid).
  DERIVED. THE GIVEN ROWS OF THIS SEAT. 5 by the template 'for every input the law returns true; each argument reads behind the call as it read before'; 0 by the template 'total and deterministic' (their statements: YtfbmoockopakjaaGreatTotals.lean).
  GIVEN WITH THE SEED: the statements are not yours to turn. If you find one false, say at which input.
  Laid BY PROGRAM, IN A SANDBOX (cutbox-rows.mjs): the forced cells as the released guide's own fill.sh prints them over the translation 3129a183de0f611a… (all of the seat's roots in one cut). By AI agents, Wed Nov 11 2026. No macro, syntax, notation, axiom, sorry.
-/
import Derived.Test.YtfbmoockopakjaaGreatChecked
import GoSem.Claim
import GoSem.ClaimJoined
import GoSem.ClaimMapViews
import Derived.JoinedTies
import Derived.KernelRfl
namespace Go.Proofs.YtfbmoockopakjaaGreat
/- THE CELL 'sum', in the pinned program and in every row, IS THE sha256 OF THE DUMP (.gsa) THAT YtfbmoockopakjaaGreatProg.lean LOADS. Nothing in Lean hashes anything: it is a label: what it is worth is what the hold of that sum in a sandbox is worth. -/
noncomputable def Tryz.pinned : Pinned := { name := "ytfbmoockopakjaagreat", sum := "3129a183de0f611af94fff0ff674217ccccca990db85d5408efd413682a72fc5", checked := Tryz.checked }
namespace Rows
def none {H : Type} : Left H := { results := [], args := [] }

/-- 'crosslaw.MovePlay': WHATEVER THE INPUT: true; the input reads as it did. -/
def movePlaySpec : ChangeSpec := { name := "movePlay", fn := fun _ => fun
  | [d1, d2, d3, d4] => { results := [.lit (.bool true)], args := [d1, d2, d3, d4] }
  | _ => none }
def movePlayRow : OpenClaim := { program := "ytfbmoockopakjaagreat", sum := "3129a183de0f611af94fff0ff674217ccccca990db85d5408efd413682a72fc5", func := "crossroads/crosslaw.MovePlay", spec := "movePlay", inPlace := ["slices.overlaps[crossroads/api.Keyed]", "internal/reflectlite.ValueOf", "internal/reflectlite.Swapper", "(internal/reflectlite.Value).Len"], unfollowed := true, recurses := true, apart := false }
def MovePlaySaid : Prop := movePlayRow.holds Tryz.pinned (OpenSpec.ofChange movePlaySpec)

/-- ITS FALSE NEIGHBOUR: 'it returns false'. Refute it at one input. -/
def movePlayWrong : ChangeSpec := { name := "movePlay", fn := fun _ => fun
  | [d1, d2, d3, d4] => { results := [.lit (.bool false)], args := [d1, d2, d3, d4] }
  | _ => none }
def MovePlayWrongFalsely : Prop := movePlayRow.holds Tryz.pinned (OpenSpec.ofChange movePlayWrong)

/-- 'crosslaw.MoveReady': WHATEVER THE INPUT: true; the input reads as it did. -/
def moveReadySpec : ChangeSpec := { name := "moveReady", fn := fun _ => fun
  | [d1, d2, d3] => { results := [.lit (.bool true)], args := [d1, d2, d3] }
  | _ => none }
def moveReadyRow : OpenClaim := { program := "ytfbmoockopakjaagreat", sum := "3129a183de0f611af94fff0ff674217ccccca990db85d5408efd413682a72fc5", func := "crossroads/crosslaw.MoveReady", spec := "moveReady", inPlace := ["slices.overlaps[crossroads/api.Keyed]", "internal/reflectlite.ValueOf", "internal/reflectlite.Swapper", "(internal/reflectlite.Value).Len"], unfollowed := true, recurses := true, apart := false }
def MoveReadySaid : Prop := moveReadyRow.holds Tryz.pinned (OpenSpec.ofChange moveReadySpec)

/-- ITS FALSE NEIGHBOUR: 'it returns false'. Refute it at one input. -/
def moveReadyWrong : ChangeSpec := { name := "moveReady", fn := fun _ => fun
  | [d1, d2, d3] => { results := [.lit (.bool false)], args := [d1, d2, d3] }
  | _ => none }
def MoveReadyWrongFalsely : Prop := moveReadyRow.holds Tryz.pinned (OpenSpec.ofChange moveReadyWrong)

/-- 'crosslaw.MoveDo': WHATEVER THE INPUT: true; the input reads as it did. -/
def moveDoSpec : ChangeSpec := { name := "moveDo", fn := fun _ => fun
  | [d1, d2, d3, d4] => { results := [.lit (.bool true)], args := [d1, d2, d3, d4] }
  | _ => none }
def moveDoRow : OpenClaim := { program := "ytfbmoockopakjaagreat", sum := "3129a183de0f611af94fff0ff674217ccccca990db85d5408efd413682a72fc5", func := "crossroads/crosslaw.MoveDo", spec := "moveDo", inPlace := ["slices.overlaps[crossroads/api.Keyed]", "internal/reflectlite.ValueOf", "internal/reflectlite.Swapper", "(internal/reflectlite.Value).Len"], unfollowed := true, recurses := true, apart := false }
def MoveDoSaid : Prop := moveDoRow.holds Tryz.pinned (OpenSpec.ofChange moveDoSpec)

/-- ITS FALSE NEIGHBOUR: 'it returns false'. Refute it at one input. -/
def moveDoWrong : ChangeSpec := { name := "moveDo", fn := fun _ => fun
  | [d1, d2, d3, d4] => { results := [.lit (.bool false)], args := [d1, d2, d3, d4] }
  | _ => none }
def MoveDoWrongFalsely : Prop := moveDoRow.holds Tryz.pinned (OpenSpec.ofChange moveDoWrong)

/-- 'crosslaw.TrailAllowed': WHATEVER THE INPUT: true; the input reads as it did. -/
def trailAllowedSpec : ChangeSpec := { name := "trailAllowed", fn := fun _ => fun
  | [d1, d2, d3, d4] => { results := [.lit (.bool true)], args := [d1, d2, d3, d4] }
  | _ => none }
def trailAllowedRow : OpenClaim := { program := "ytfbmoockopakjaagreat", sum := "3129a183de0f611af94fff0ff674217ccccca990db85d5408efd413682a72fc5", func := "crossroads/crosslaw.TrailAllowed", spec := "trailAllowed", inPlace := ["slices.overlaps[crossroads/api.Keyed]", "internal/reflectlite.ValueOf", "internal/reflectlite.Swapper", "(internal/reflectlite.Value).Len"], unfollowed := true, recurses := true, apart := false }
def TrailAllowedSaid : Prop := trailAllowedRow.holds Tryz.pinned (OpenSpec.ofChange trailAllowedSpec)

/-- ITS FALSE NEIGHBOUR: 'it returns false'. Refute it at one input. -/
def trailAllowedWrong : ChangeSpec := { name := "trailAllowed", fn := fun _ => fun
  | [d1, d2, d3, d4] => { results := [.lit (.bool false)], args := [d1, d2, d3, d4] }
  | _ => none }
def TrailAllowedWrongFalsely : Prop := trailAllowedRow.holds Tryz.pinned (OpenSpec.ofChange trailAllowedWrong)

/-- 'crosslaw.TrailPlay': WHATEVER THE INPUT: true; the input reads as it did. -/
def trailPlaySpec : ChangeSpec := { name := "trailPlay", fn := fun _ => fun
  | [d1, d2, d3, d4, d5] => { results := [.lit (.bool true)], args := [d1, d2, d3, d4, d5] }
  | _ => none }
def trailPlayRow : OpenClaim := { program := "ytfbmoockopakjaagreat", sum := "3129a183de0f611af94fff0ff674217ccccca990db85d5408efd413682a72fc5", func := "crossroads/crosslaw.TrailPlay", spec := "trailPlay", inPlace := ["slices.overlaps[crossroads/api.Keyed]", "internal/reflectlite.ValueOf", "internal/reflectlite.Swapper", "(internal/reflectlite.Value).Len"], unfollowed := true, recurses := true, apart := false }
def TrailPlaySaid : Prop := trailPlayRow.holds Tryz.pinned (OpenSpec.ofChange trailPlaySpec)

/-- ITS FALSE NEIGHBOUR: 'it returns false'. Refute it at one input. -/
def trailPlayWrong : ChangeSpec := { name := "trailPlay", fn := fun _ => fun
  | [d1, d2, d3, d4, d5] => { results := [.lit (.bool false)], args := [d1, d2, d3, d4, d5] }
  | _ => none }
def TrailPlayWrongFalsely : Prop := trailPlayRow.holds Tryz.pinned (OpenSpec.ofChange trailPlayWrong)

/- THE SECOND FORM. 'bulk': how many values and letters a reading holds, each counted each time it is reached (what is shared counts as often as it is met; a slice's spare places count too). A statement '..UptoSaid' is the law's where the arguments, and the package variables that the reading takes, are together of bulk at most 1048576: NARROWER than '..Said'. Prove '..Said' where nothing that the law and all that it calls make is longer than what came in: it says more and counts as full. Else prove '..UptoSaid'. A law counts once. -/
mutual
def uptoBulk {H : Type} : DataW H → Nat
  | .lit (.string bytes) => bytes.length + 1
  | .lit _ => 1
  | .nil => 1
  | .ptr d => uptoBulk d + 1
  | .slice elems spare => uptoBulkAll elems + uptoBulkAll spare + 1
  | .agg parts => uptoBulkAll parts + 1
  | .iface _ d => uptoBulk d + 1
  | .map entries => uptoBulkEntries entries + 1
  | .held _ => 1
def uptoBulkAll {H : Type} : List (DataW H) → Nat
  | [] => 0
  | d :: r => uptoBulk d + uptoBulkAll r
def uptoBulkEntries {H : Type} : List (Lit × DataW H) → Nat
  | [] => 0
  | x :: r => uptoBulkEntry x + uptoBulkEntries r
def uptoBulkEntry {H : Type} : Lit × DataW H → Nat
  | (.string bytes, d) => bytes.length + uptoBulk d + 1
  | (_, d) => uptoBulk d + 1
 end
def uptoSmall : (H : Type) → List (DataW H) → Bool := fun _ ds => decide (uptoBulkAll ds ≤ 1048576)
def OpenSpec.upto (s : _root_.Go.ChangeSpec) : _root_.Go.OpenSpec := { _root_.Go.OpenSpec.ofChange s with cond := some uptoSmall }

/-- 'crosslaw.MovePlay', WHERE WHAT IT READS IS OF BULK AT MOST 1048576: true; the input reads as it did. -/
def movePlayUptoRow : OpenClaim := { program := "ytfbmoockopakjaagreat", sum := "3129a183de0f611af94fff0ff674217ccccca990db85d5408efd413682a72fc5", func := "crossroads/crosslaw.MovePlay", spec := "movePlay", inPlace := ["slices.overlaps[crossroads/api.Keyed]", "internal/reflectlite.ValueOf", "internal/reflectlite.Swapper", "(internal/reflectlite.Value).Len"], unfollowed := true, recurses := true, apart := false, narrowed := true }
def MovePlayUptoSaid : Prop := movePlayUptoRow.holds Tryz.pinned (OpenSpec.upto movePlaySpec)

/-- 'crosslaw.MoveReady', WHERE WHAT IT READS IS OF BULK AT MOST 1048576: true; the input reads as it did. -/
def moveReadyUptoRow : OpenClaim := { program := "ytfbmoockopakjaagreat", sum := "3129a183de0f611af94fff0ff674217ccccca990db85d5408efd413682a72fc5", func := "crossroads/crosslaw.MoveReady", spec := "moveReady", inPlace := ["slices.overlaps[crossroads/api.Keyed]", "internal/reflectlite.ValueOf", "internal/reflectlite.Swapper", "(internal/reflectlite.Value).Len"], unfollowed := true, recurses := true, apart := false, narrowed := true }
def MoveReadyUptoSaid : Prop := moveReadyUptoRow.holds Tryz.pinned (OpenSpec.upto moveReadySpec)

/-- 'crosslaw.MoveDo', WHERE WHAT IT READS IS OF BULK AT MOST 1048576: true; the input reads as it did. -/
def moveDoUptoRow : OpenClaim := { program := "ytfbmoockopakjaagreat", sum := "3129a183de0f611af94fff0ff674217ccccca990db85d5408efd413682a72fc5", func := "crossroads/crosslaw.MoveDo", spec := "moveDo", inPlace := ["slices.overlaps[crossroads/api.Keyed]", "internal/reflectlite.ValueOf", "internal/reflectlite.Swapper", "(internal/reflectlite.Value).Len"], unfollowed := true, recurses := true, apart := false, narrowed := true }
def MoveDoUptoSaid : Prop := moveDoUptoRow.holds Tryz.pinned (OpenSpec.upto moveDoSpec)

/-- 'crosslaw.TrailAllowed', WHERE WHAT IT READS IS OF BULK AT MOST 1048576: true; the input reads as it did. -/
def trailAllowedUptoRow : OpenClaim := { program := "ytfbmoockopakjaagreat", sum := "3129a183de0f611af94fff0ff674217ccccca990db85d5408efd413682a72fc5", func := "crossroads/crosslaw.TrailAllowed", spec := "trailAllowed", inPlace := ["slices.overlaps[crossroads/api.Keyed]", "internal/reflectlite.ValueOf", "internal/reflectlite.Swapper", "(internal/reflectlite.Value).Len"], unfollowed := true, recurses := true, apart := false, narrowed := true }
def TrailAllowedUptoSaid : Prop := trailAllowedUptoRow.holds Tryz.pinned (OpenSpec.upto trailAllowedSpec)

/-- 'crosslaw.TrailPlay', WHERE WHAT IT READS IS OF BULK AT MOST 1048576: true; the input reads as it did. -/
def trailPlayUptoRow : OpenClaim := { program := "ytfbmoockopakjaagreat", sum := "3129a183de0f611af94fff0ff674217ccccca990db85d5408efd413682a72fc5", func := "crossroads/crosslaw.TrailPlay", spec := "trailPlay", inPlace := ["slices.overlaps[crossroads/api.Keyed]", "internal/reflectlite.ValueOf", "internal/reflectlite.Swapper", "(internal/reflectlite.Value).Len"], unfollowed := true, recurses := true, apart := false, narrowed := true }
def TrailPlayUptoSaid : Prop := trailPlayUptoRow.holds Tryz.pinned (OpenSpec.upto trailPlaySpec)

end Rows
end Go.Proofs.YtfbmoockopakjaaGreat
