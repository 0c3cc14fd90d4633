/-
  No cell of these rows narrows 'for every input' (looked for: loops, veiled, ifaces, maps, wideKeys, modest, calm, conditions, laid).
  DERIVED. THE GIVEN ROWS OF THIS SEAT. 12 by the template 'for every input the law returns true; each argument reads behind the call as it read before'; 0 by the template 'total and deterministic' (their statements: YtegkmfokfakeiaaTotals.lean).
  GIVEN WITH THE SEED: the statements are not yours to turn. If you find one false, say at which input.
  Laid BY PROGRAM, IN A SANDBOX (cutbox-rows.mjs): the forced cells as the released guide's own fill.sh prints them over the translation 1df8708b329b3780… (all of the seat's roots in one cut). By AI agents, Wed Nov 11 2026. No macro, syntax, notation, axiom, sorry.
-/
import Derived.Test.YtegkmfokfakeiaaChecked
import GoSem.Claim
import GoSem.ClaimJoined
import GoSem.ClaimMapViews
import Derived.JoinedTies
import Derived.KernelRfl
namespace Go.Proofs.Ytegkmfokfakeiaa
/- THE CELL 'sum', in the pinned program and in every row, IS THE sha256 OF THE DUMP (.gsa) THAT YtegkmfokfakeiaaProg.lean LOADS. Nothing in Lean hashes anything: it is a label: what it is worth is what the hold of that sum in a sandbox is worth. -/
noncomputable def Try.pinned : Pinned := { name := "ytegkmfokfakeiaa", sum := "1df8708b329b378067cdea5c38c33ddc8bfa0e273e5ab53f02624279e4f4d1dc", checked := Try.checked }
namespace Rows
def none {H : Type} : Left H := { results := [], args := [] }

/-- 'crosslaw.LogScan': WHATEVER THE INPUT: true; the input reads as it did. -/
def logScanSpec : ChangeSpec := { name := "logScan", fn := fun _ => fun
  | [d1, d2] => { results := [.lit (.bool true)], args := [d1, d2] }
  | _ => none }
def logScanRow : OpenClaim := { program := "ytegkmfokfakeiaa", sum := "1df8708b329b378067cdea5c38c33ddc8bfa0e273e5ab53f02624279e4f4d1dc", func := "crossroads/crosslaw.LogScan", spec := "logScan", unfollowed := true, recurses := true, apart := false }
def LogScanSaid : Prop := logScanRow.holds Try.pinned (OpenSpec.ofChange logScanSpec)

/-- ITS FALSE NEIGHBOUR: 'it returns false'. Refute it at one input. -/
def logScanWrong : ChangeSpec := { name := "logScan", fn := fun _ => fun
  | [d1, d2] => { results := [.lit (.bool false)], args := [d1, d2] }
  | _ => none }
def LogScanWrongFalsely : Prop := logScanRow.holds Try.pinned (OpenSpec.ofChange logScanWrong)

/-- 'crosslaw.LogAppend': WHATEVER THE INPUT: true; the input reads as it did. -/
def logAppendSpec : ChangeSpec := { name := "logAppend", fn := fun _ => fun
  | [d1, d2, d3, d4] => { results := [.lit (.bool true)], args := [d1, d2, d3, d4] }
  | _ => none }
def logAppendRow : OpenClaim := { program := "ytegkmfokfakeiaa", sum := "1df8708b329b378067cdea5c38c33ddc8bfa0e273e5ab53f02624279e4f4d1dc", func := "crossroads/crosslaw.LogAppend", spec := "logAppend", unfollowed := true, recurses := true, apart := false }
def LogAppendSaid : Prop := logAppendRow.holds Try.pinned (OpenSpec.ofChange logAppendSpec)

/-- ITS FALSE NEIGHBOUR: 'it returns false'. Refute it at one input. -/
def logAppendWrong : ChangeSpec := { name := "logAppend", fn := fun _ => fun
  | [d1, d2, d3, d4] => { results := [.lit (.bool false)], args := [d1, d2, d3, d4] }
  | _ => none }
def LogAppendWrongFalsely : Prop := logAppendRow.holds Try.pinned (OpenSpec.ofChange logAppendWrong)

/-- 'crosslaw.LogGoes': WHATEVER THE INPUT: true; the input reads as it did. -/
def logGoesSpec : ChangeSpec := { name := "logGoes", fn := fun _ => fun
  | [d1, d2, d3] => { results := [.lit (.bool true)], args := [d1, d2, d3] }
  | _ => none }
def logGoesRow : OpenClaim := { program := "ytegkmfokfakeiaa", sum := "1df8708b329b378067cdea5c38c33ddc8bfa0e273e5ab53f02624279e4f4d1dc", func := "crossroads/crosslaw.LogGoes", spec := "logGoes", unfollowed := true, recurses := true, apart := false }
def LogGoesSaid : Prop := logGoesRow.holds Try.pinned (OpenSpec.ofChange logGoesSpec)

/-- ITS FALSE NEIGHBOUR: 'it returns false'. Refute it at one input. -/
def logGoesWrong : ChangeSpec := { name := "logGoes", fn := fun _ => fun
  | [d1, d2, d3] => { results := [.lit (.bool false)], args := [d1, d2, d3] }
  | _ => none }
def LogGoesWrongFalsely : Prop := logGoesRow.holds Try.pinned (OpenSpec.ofChange logGoesWrong)

/-- 'crosslaw.NetStands': WHATEVER THE INPUT: true; the input reads as it did. -/
def netStandsSpec : ChangeSpec := { name := "netStands", fn := fun _ => fun
  | [d] => { results := [.lit (.bool true)], args := [d] }
  | _ => none }
def netStandsRow : OpenClaim := { program := "ytegkmfokfakeiaa", sum := "1df8708b329b378067cdea5c38c33ddc8bfa0e273e5ab53f02624279e4f4d1dc", func := "crossroads/crosslaw.NetStands", spec := "netStands", unfollowed := true, recurses := true, apart := false }
def NetStandsSaid : Prop := netStandsRow.holds Try.pinned (OpenSpec.ofChange netStandsSpec)

/-- ITS FALSE NEIGHBOUR: 'it returns false'. Refute it at one input. -/
def netStandsWrong : ChangeSpec := { name := "netStands", fn := fun _ => fun
  | [d] => { results := [.lit (.bool false)], args := [d] }
  | _ => none }
def NetStandsWrongFalsely : Prop := netStandsRow.holds Try.pinned (OpenSpec.ofChange netStandsWrong)

/-- 'crosslaw.NetOrder': WHATEVER THE INPUT: true; the input reads as it did. -/
def netOrderSpec : ChangeSpec := { name := "netOrder", fn := fun _ => fun
  | [d] => { results := [.lit (.bool true)], args := [d] }
  | _ => none }
def netOrderRow : OpenClaim := { program := "ytegkmfokfakeiaa", sum := "1df8708b329b378067cdea5c38c33ddc8bfa0e273e5ab53f02624279e4f4d1dc", func := "crossroads/crosslaw.NetOrder", spec := "netOrder", unfollowed := true, recurses := true, apart := false }
def NetOrderSaid : Prop := netOrderRow.holds Try.pinned (OpenSpec.ofChange netOrderSpec)

/-- ITS FALSE NEIGHBOUR: 'it returns false'. Refute it at one input. -/
def netOrderWrong : ChangeSpec := { name := "netOrder", fn := fun _ => fun
  | [d] => { results := [.lit (.bool false)], args := [d] }
  | _ => none }
def NetOrderWrongFalsely : Prop := netOrderRow.holds Try.pinned (OpenSpec.ofChange netOrderWrong)

/-- 'crosslaw.NetSources': WHATEVER THE INPUT: true; the input reads as it did. -/
def netSourcesSpec : ChangeSpec := { name := "netSources", fn := fun _ => fun
  | [d1, d2] => { results := [.lit (.bool true)], args := [d1, d2] }
  | _ => none }
def netSourcesRow : OpenClaim := { program := "ytegkmfokfakeiaa", sum := "1df8708b329b378067cdea5c38c33ddc8bfa0e273e5ab53f02624279e4f4d1dc", func := "crossroads/crosslaw.NetSources", spec := "netSources", unfollowed := true, recurses := true, apart := false }
def NetSourcesSaid : Prop := netSourcesRow.holds Try.pinned (OpenSpec.ofChange netSourcesSpec)

/-- ITS FALSE NEIGHBOUR: 'it returns false'. Refute it at one input. -/
def netSourcesWrong : ChangeSpec := { name := "netSources", fn := fun _ => fun
  | [d1, d2] => { results := [.lit (.bool false)], args := [d1, d2] }
  | _ => none }
def NetSourcesWrongFalsely : Prop := netSourcesRow.holds Try.pinned (OpenSpec.ofChange netSourcesWrong)

/-- 'crosslaw.LogOn': WHATEVER THE INPUT: true; the input reads as it did. -/
def logOnSpec : ChangeSpec := { name := "logOn", fn := fun _ => fun
  | [d1, d2, d3, d4] => { results := [.lit (.bool true)], args := [d1, d2, d3, d4] }
  | _ => none }
def logOnRow : OpenClaim := { program := "ytegkmfokfakeiaa", sum := "1df8708b329b378067cdea5c38c33ddc8bfa0e273e5ab53f02624279e4f4d1dc", func := "crossroads/crosslaw.LogOn", spec := "logOn", unfollowed := true, recurses := true, apart := false }
def LogOnSaid : Prop := logOnRow.holds Try.pinned (OpenSpec.ofChange logOnSpec)

/-- ITS FALSE NEIGHBOUR: 'it returns false'. Refute it at one input. -/
def logOnWrong : ChangeSpec := { name := "logOn", fn := fun _ => fun
  | [d1, d2, d3, d4] => { results := [.lit (.bool false)], args := [d1, d2, d3, d4] }
  | _ => none }
def LogOnWrongFalsely : Prop := logOnRow.holds Try.pinned (OpenSpec.ofChange logOnWrong)

/-- 'crosslaw.StageBegins': WHATEVER THE INPUT: true; the input reads as it did. -/
def stageBeginsSpec : ChangeSpec := { name := "stageBegins", fn := fun _ => fun
  | [d1, d2, d3, d4] => { results := [.lit (.bool true)], args := [d1, d2, d3, d4] }
  | _ => none }
def stageBeginsRow : OpenClaim := { program := "ytegkmfokfakeiaa", sum := "1df8708b329b378067cdea5c38c33ddc8bfa0e273e5ab53f02624279e4f4d1dc", func := "crossroads/crosslaw.StageBegins", spec := "stageBegins", inPlace := ["slices.overlaps[crossroads/api.Keyed]"], unfollowed := true, recurses := true, apart := false }
def StageBeginsSaid : Prop := stageBeginsRow.holds Try.pinned (OpenSpec.ofChange stageBeginsSpec)

/-- ITS FALSE NEIGHBOUR: 'it returns false'. Refute it at one input. -/
def stageBeginsWrong : ChangeSpec := { name := "stageBegins", fn := fun _ => fun
  | [d1, d2, d3, d4] => { results := [.lit (.bool false)], args := [d1, d2, d3, d4] }
  | _ => none }
def StageBeginsWrongFalsely : Prop := stageBeginsRow.holds Try.pinned (OpenSpec.ofChange stageBeginsWrong)

/-- 'crosslaw.NetEnds': WHATEVER THE INPUT: true; the input reads as it did. -/
def netEndsSpec : ChangeSpec := { name := "netEnds", fn := fun _ => fun
  | [d1, d2] => { results := [.lit (.bool true)], args := [d1, d2] }
  | _ => none }
def netEndsRow : OpenClaim := { program := "ytegkmfokfakeiaa", sum := "1df8708b329b378067cdea5c38c33ddc8bfa0e273e5ab53f02624279e4f4d1dc", func := "crossroads/crosslaw.NetEnds", spec := "netEnds", unfollowed := true, recurses := true, apart := false }
def NetEndsSaid : Prop := netEndsRow.holds Try.pinned (OpenSpec.ofChange netEndsSpec)

/-- ITS FALSE NEIGHBOUR: 'it returns false'. Refute it at one input. -/
def netEndsWrong : ChangeSpec := { name := "netEnds", fn := fun _ => fun
  | [d1, d2] => { results := [.lit (.bool false)], args := [d1, d2] }
  | _ => none }
def NetEndsWrongFalsely : Prop := netEndsRow.holds Try.pinned (OpenSpec.ofChange netEndsWrong)

/-- 'crosslaw.StageLanes': WHATEVER THE INPUT: true; the input reads as it did. -/
def stageLanesSpec : ChangeSpec := { name := "stageLanes", fn := fun _ => fun
  | [d1, d2, d3] => { results := [.lit (.bool true)], args := [d1, d2, d3] }
  | _ => none }
def stageLanesRow : OpenClaim := { program := "ytegkmfokfakeiaa", sum := "1df8708b329b378067cdea5c38c33ddc8bfa0e273e5ab53f02624279e4f4d1dc", func := "crossroads/crosslaw.StageLanes", spec := "stageLanes", inPlace := ["slices.overlaps[crossroads/api.Keyed]"], unfollowed := true, recurses := true, apart := false }
def StageLanesSaid : Prop := stageLanesRow.holds Try.pinned (OpenSpec.ofChange stageLanesSpec)

/-- ITS FALSE NEIGHBOUR: 'it returns false'. Refute it at one input. -/
def stageLanesWrong : ChangeSpec := { name := "stageLanes", fn := fun _ => fun
  | [d1, d2, d3] => { results := [.lit (.bool false)], args := [d1, d2, d3] }
  | _ => none }
def StageLanesWrongFalsely : Prop := stageLanesRow.holds Try.pinned (OpenSpec.ofChange stageLanesWrong)

/-- 'crosslaw.StageStep': WHATEVER THE INPUT: true; the input reads as it did. -/
def stageStepSpec : ChangeSpec := { name := "stageStep", fn := fun _ => fun
  | [d1, d2, d3, d4] => { results := [.lit (.bool true)], args := [d1, d2, d3, d4] }
  | _ => none }
def stageStepRow : OpenClaim := { program := "ytegkmfokfakeiaa", sum := "1df8708b329b378067cdea5c38c33ddc8bfa0e273e5ab53f02624279e4f4d1dc", func := "crossroads/crosslaw.StageStep", spec := "stageStep", inPlace := ["slices.overlaps[crossroads/api.Keyed]", "internal/reflectlite.ValueOf", "internal/reflectlite.Swapper", "(internal/reflectlite.Value).Len"], unfollowed := true, recurses := true, apart := false }
def StageStepSaid : Prop := stageStepRow.holds Try.pinned (OpenSpec.ofChange stageStepSpec)

/-- ITS FALSE NEIGHBOUR: 'it returns false'. Refute it at one input. -/
def stageStepWrong : ChangeSpec := { name := "stageStep", fn := fun _ => fun
  | [d1, d2, d3, d4] => { results := [.lit (.bool false)], args := [d1, d2, d3, d4] }
  | _ => none }
def StageStepWrongFalsely : Prop := stageStepRow.holds Try.pinned (OpenSpec.ofChange stageStepWrong)

/-- 'crosslaw.StageAll': WHATEVER THE INPUT: true; the input reads as it did. -/
def stageAllSpec : ChangeSpec := { name := "stageAll", fn := fun _ => fun
  | [d1, d2, d3, d4] => { results := [.lit (.bool true)], args := [d1, d2, d3, d4] }
  | _ => none }
def stageAllRow : OpenClaim := { program := "ytegkmfokfakeiaa", sum := "1df8708b329b378067cdea5c38c33ddc8bfa0e273e5ab53f02624279e4f4d1dc", func := "crossroads/crosslaw.StageAll", spec := "stageAll", inPlace := ["slices.overlaps[crossroads/api.Keyed]", "internal/reflectlite.ValueOf", "internal/reflectlite.Swapper", "(internal/reflectlite.Value).Len"], unfollowed := true, recurses := true, apart := false }
def StageAllSaid : Prop := stageAllRow.holds Try.pinned (OpenSpec.ofChange stageAllSpec)

/-- ITS FALSE NEIGHBOUR: 'it returns false'. Refute it at one input. -/
def stageAllWrong : ChangeSpec := { name := "stageAll", fn := fun _ => fun
  | [d1, d2, d3, d4] => { results := [.lit (.bool false)], args := [d1, d2, d3, d4] }
  | _ => none }
def StageAllWrongFalsely : Prop := stageAllRow.holds Try.pinned (OpenSpec.ofChange stageAllWrong)

/- THE SECOND FORM. 'bulk': how many values and letters a reading holds, each counted each time it is reached (what is shared counts as often as it is met; a slice's spare places count too). A statement '..UptoSaid' is the law's where the arguments, and the package variables that the reading takes, are together of bulk at most 1048576: NARROWER than '..Said'. Prove '..Said' where nothing that the law and all that it calls make is longer than what came in: it says more and counts as full. Else prove '..UptoSaid'. A law counts once. -/
mutual
def uptoBulk {H : Type} : DataW H → Nat
  | .lit (.string bytes) => bytes.length + 1
  | .lit _ => 1
  | .nil => 1
  | .ptr d => uptoBulk d + 1
  | .slice elems spare => uptoBulkAll elems + uptoBulkAll spare + 1
  | .agg parts => uptoBulkAll parts + 1
  | .iface _ d => uptoBulk d + 1
  | .map entries => uptoBulkEntries entries + 1
  | .held _ => 1
def uptoBulkAll {H : Type} : List (DataW H) → Nat
  | [] => 0
  | d :: r => uptoBulk d + uptoBulkAll r
def uptoBulkEntries {H : Type} : List (Lit × DataW H) → Nat
  | [] => 0
  | x :: r => uptoBulkEntry x + uptoBulkEntries r
def uptoBulkEntry {H : Type} : Lit × DataW H → Nat
  | (.string bytes, d) => bytes.length + uptoBulk d + 1
  | (_, d) => uptoBulk d + 1
 end
def uptoSmall : (H : Type) → List (DataW H) → Bool := fun _ ds => decide (uptoBulkAll ds ≤ 1048576)
def OpenSpec.upto (s : _root_.Go.ChangeSpec) : _root_.Go.OpenSpec := { _root_.Go.OpenSpec.ofChange s with cond := some uptoSmall }

/-- 'crosslaw.LogScan', WHERE WHAT IT READS IS OF BULK AT MOST 1048576: true; the input reads as it did. -/
def logScanUptoRow : OpenClaim := { program := "ytegkmfokfakeiaa", sum := "1df8708b329b378067cdea5c38c33ddc8bfa0e273e5ab53f02624279e4f4d1dc", func := "crossroads/crosslaw.LogScan", spec := "logScan", unfollowed := true, recurses := true, apart := false, narrowed := true }
def LogScanUptoSaid : Prop := logScanUptoRow.holds Try.pinned (OpenSpec.upto logScanSpec)

/-- 'crosslaw.LogAppend', WHERE WHAT IT READS IS OF BULK AT MOST 1048576: true; the input reads as it did. -/
def logAppendUptoRow : OpenClaim := { program := "ytegkmfokfakeiaa", sum := "1df8708b329b378067cdea5c38c33ddc8bfa0e273e5ab53f02624279e4f4d1dc", func := "crossroads/crosslaw.LogAppend", spec := "logAppend", unfollowed := true, recurses := true, apart := false, narrowed := true }
def LogAppendUptoSaid : Prop := logAppendUptoRow.holds Try.pinned (OpenSpec.upto logAppendSpec)

/-- 'crosslaw.LogGoes', WHERE WHAT IT READS IS OF BULK AT MOST 1048576: true; the input reads as it did. -/
def logGoesUptoRow : OpenClaim := { program := "ytegkmfokfakeiaa", sum := "1df8708b329b378067cdea5c38c33ddc8bfa0e273e5ab53f02624279e4f4d1dc", func := "crossroads/crosslaw.LogGoes", spec := "logGoes", unfollowed := true, recurses := true, apart := false, narrowed := true }
def LogGoesUptoSaid : Prop := logGoesUptoRow.holds Try.pinned (OpenSpec.upto logGoesSpec)

/-- 'crosslaw.NetStands', WHERE WHAT IT READS IS OF BULK AT MOST 1048576: true; the input reads as it did. -/
def netStandsUptoRow : OpenClaim := { program := "ytegkmfokfakeiaa", sum := "1df8708b329b378067cdea5c38c33ddc8bfa0e273e5ab53f02624279e4f4d1dc", func := "crossroads/crosslaw.NetStands", spec := "netStands", unfollowed := true, recurses := true, apart := false, narrowed := true }
def NetStandsUptoSaid : Prop := netStandsUptoRow.holds Try.pinned (OpenSpec.upto netStandsSpec)

/-- 'crosslaw.NetOrder', WHERE WHAT IT READS IS OF BULK AT MOST 1048576: true; the input reads as it did. -/
def netOrderUptoRow : OpenClaim := { program := "ytegkmfokfakeiaa", sum := "1df8708b329b378067cdea5c38c33ddc8bfa0e273e5ab53f02624279e4f4d1dc", func := "crossroads/crosslaw.NetOrder", spec := "netOrder", unfollowed := true, recurses := true, apart := false, narrowed := true }
def NetOrderUptoSaid : Prop := netOrderUptoRow.holds Try.pinned (OpenSpec.upto netOrderSpec)

/-- 'crosslaw.NetSources', WHERE WHAT IT READS IS OF BULK AT MOST 1048576: true; the input reads as it did. -/
def netSourcesUptoRow : OpenClaim := { program := "ytegkmfokfakeiaa", sum := "1df8708b329b378067cdea5c38c33ddc8bfa0e273e5ab53f02624279e4f4d1dc", func := "crossroads/crosslaw.NetSources", spec := "netSources", unfollowed := true, recurses := true, apart := false, narrowed := true }
def NetSourcesUptoSaid : Prop := netSourcesUptoRow.holds Try.pinned (OpenSpec.upto netSourcesSpec)

/-- 'crosslaw.LogOn', WHERE WHAT IT READS IS OF BULK AT MOST 1048576: true; the input reads as it did. -/
def logOnUptoRow : OpenClaim := { program := "ytegkmfokfakeiaa", sum := "1df8708b329b378067cdea5c38c33ddc8bfa0e273e5ab53f02624279e4f4d1dc", func := "crossroads/crosslaw.LogOn", spec := "logOn", unfollowed := true, recurses := true, apart := false, narrowed := true }
def LogOnUptoSaid : Prop := logOnUptoRow.holds Try.pinned (OpenSpec.upto logOnSpec)

/-- 'crosslaw.StageBegins', WHERE WHAT IT READS IS OF BULK AT MOST 1048576: true; the input reads as it did. -/
def stageBeginsUptoRow : OpenClaim := { program := "ytegkmfokfakeiaa", sum := "1df8708b329b378067cdea5c38c33ddc8bfa0e273e5ab53f02624279e4f4d1dc", func := "crossroads/crosslaw.StageBegins", spec := "stageBegins", inPlace := ["slices.overlaps[crossroads/api.Keyed]"], unfollowed := true, recurses := true, apart := false, narrowed := true }
def StageBeginsUptoSaid : Prop := stageBeginsUptoRow.holds Try.pinned (OpenSpec.upto stageBeginsSpec)

/-- 'crosslaw.NetEnds', WHERE WHAT IT READS IS OF BULK AT MOST 1048576: true; the input reads as it did. -/
def netEndsUptoRow : OpenClaim := { program := "ytegkmfokfakeiaa", sum := "1df8708b329b378067cdea5c38c33ddc8bfa0e273e5ab53f02624279e4f4d1dc", func := "crossroads/crosslaw.NetEnds", spec := "netEnds", unfollowed := true, recurses := true, apart := false, narrowed := true }
def NetEndsUptoSaid : Prop := netEndsUptoRow.holds Try.pinned (OpenSpec.upto netEndsSpec)

/-- 'crosslaw.StageLanes', WHERE WHAT IT READS IS OF BULK AT MOST 1048576: true; the input reads as it did. -/
def stageLanesUptoRow : OpenClaim := { program := "ytegkmfokfakeiaa", sum := "1df8708b329b378067cdea5c38c33ddc8bfa0e273e5ab53f02624279e4f4d1dc", func := "crossroads/crosslaw.StageLanes", spec := "stageLanes", inPlace := ["slices.overlaps[crossroads/api.Keyed]"], unfollowed := true, recurses := true, apart := false, narrowed := true }
def StageLanesUptoSaid : Prop := stageLanesUptoRow.holds Try.pinned (OpenSpec.upto stageLanesSpec)

/-- 'crosslaw.StageStep', WHERE WHAT IT READS IS OF BULK AT MOST 1048576: true; the input reads as it did. -/
def stageStepUptoRow : OpenClaim := { program := "ytegkmfokfakeiaa", sum := "1df8708b329b378067cdea5c38c33ddc8bfa0e273e5ab53f02624279e4f4d1dc", func := "crossroads/crosslaw.StageStep", spec := "stageStep", inPlace := ["slices.overlaps[crossroads/api.Keyed]", "internal/reflectlite.ValueOf", "internal/reflectlite.Swapper", "(internal/reflectlite.Value).Len"], unfollowed := true, recurses := true, apart := false, narrowed := true }
def StageStepUptoSaid : Prop := stageStepUptoRow.holds Try.pinned (OpenSpec.upto stageStepSpec)

/-- 'crosslaw.StageAll', WHERE WHAT IT READS IS OF BULK AT MOST 1048576: true; the input reads as it did. -/
def stageAllUptoRow : OpenClaim := { program := "ytegkmfokfakeiaa", sum := "1df8708b329b378067cdea5c38c33ddc8bfa0e273e5ab53f02624279e4f4d1dc", func := "crossroads/crosslaw.StageAll", spec := "stageAll", inPlace := ["slices.overlaps[crossroads/api.Keyed]", "internal/reflectlite.ValueOf", "internal/reflectlite.Swapper", "(internal/reflectlite.Value).Len"], unfollowed := true, recurses := true, apart := false, narrowed := true }
def StageAllUptoSaid : Prop := stageAllUptoRow.holds Try.pinned (OpenSpec.upto stageAllSpec)

end Rows
end Go.Proofs.Ytegkmfokfakeiaa
