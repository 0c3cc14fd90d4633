/-
  No cell of these rows narrows 'for every input' (looked for: loops, veiled, ifaces, maps, wideKeys, modest, calm, conditions, laid).
  DERIVED. THE GIVEN ROWS OF THIS SEAT. 15 by the template 'for every input the law returns true; each argument reads behind the call as it read before'; 0 by the template 'total and deterministic' (their statements: YtpndpdbabblphaaTotals.lean).
  GIVEN WITH THE SEED: the statements are not yours to turn. If you find one false, say at which input.
  Laid BY PROGRAM, IN A SANDBOX (cutbox-rows.mjs): the forced cells as the released guide's own fill.sh prints them over the translation f5f250ee4ac20083… (all of the seat's roots in one cut). By AI agents, Wed Nov 11 2026. No macro, syntax, notation, axiom, sorry.
-/
import Derived.Test.YtpndpdbabblphaaChecked
import GoSem.Claim
import GoSem.ClaimJoined
import GoSem.ClaimMapViews
import Derived.JoinedTies
import Derived.KernelRfl
namespace Go.Proofs.Ytpndpdbabblphaa
/- THE CELL 'sum', in the pinned program and in every row, IS THE sha256 OF THE DUMP (.gsa) THAT YtpndpdbabblphaaProg.lean LOADS. Nothing in Lean hashes anything: it is a label: what it is worth is what the hold of that sum in a sandbox is worth. -/
noncomputable def Try.pinned : Pinned := { name := "ytpndpdbabblphaa", sum := "f5f250ee4ac20083deaa75f3c0127ad96302e7f420c355019eba83f41616fb0f", checked := Try.checked }
namespace Rows
def none {H : Type} : Left H := { results := [], args := [] }

/-- 'crosslaw.Names': WHATEVER THE INPUT: true; the input reads as it did. -/
def namesSpec : ChangeSpec := { name := "names", fn := fun _ => fun
  | [] => { results := [.lit (.bool true)], args := [] }
  | _ => none }
def namesRow : OpenClaim := { program := "ytpndpdbabblphaa", sum := "f5f250ee4ac20083deaa75f3c0127ad96302e7f420c355019eba83f41616fb0f", func := "crossroads/crosslaw.Names", spec := "names", apart := false }
def NamesSaid : Prop := namesRow.holds Try.pinned (OpenSpec.ofChange namesSpec)

/-- ITS FALSE NEIGHBOUR: 'it returns false'. Refute it at one input. -/
def namesWrong : ChangeSpec := { name := "names", fn := fun _ => fun
  | [] => { results := [.lit (.bool false)], args := [] }
  | _ => none }
def NamesWrongFalsely : Prop := namesRow.holds Try.pinned (OpenSpec.ofChange namesWrong)

/-- 'crosslaw.FramePut': WHATEVER THE INPUT: true; the input reads as it did. -/
def framePutSpec : ChangeSpec := { name := "framePut", fn := fun _ => fun
  | [d1, d2] => { results := [.lit (.bool true)], args := [d1, d2] }
  | _ => none }
def framePutRow : OpenClaim := { program := "ytpndpdbabblphaa", sum := "f5f250ee4ac20083deaa75f3c0127ad96302e7f420c355019eba83f41616fb0f", func := "crossroads/crosslaw.FramePut", spec := "framePut", apart := false }
def FramePutSaid : Prop := framePutRow.holds Try.pinned (OpenSpec.ofChange framePutSpec)

/-- ITS FALSE NEIGHBOUR: 'it returns false'. Refute it at one input. -/
def framePutWrong : ChangeSpec := { name := "framePut", fn := fun _ => fun
  | [d1, d2] => { results := [.lit (.bool false)], args := [d1, d2] }
  | _ => none }
def FramePutWrongFalsely : Prop := framePutRow.holds Try.pinned (OpenSpec.ofChange framePutWrong)

/-- 'crosslaw.FrameTorn': WHATEVER THE INPUT: true; the input reads as it did. -/
def frameTornSpec : ChangeSpec := { name := "frameTorn", fn := fun _ => fun
  | [d1, d2] => { results := [.lit (.bool true)], args := [d1, d2] }
  | _ => none }
def frameTornRow : OpenClaim := { program := "ytpndpdbabblphaa", sum := "f5f250ee4ac20083deaa75f3c0127ad96302e7f420c355019eba83f41616fb0f", func := "crossroads/crosslaw.FrameTorn", spec := "frameTorn", apart := false }
def FrameTornSaid : Prop := frameTornRow.holds Try.pinned (OpenSpec.ofChange frameTornSpec)

/-- ITS FALSE NEIGHBOUR: 'it returns false'. Refute it at one input. -/
def frameTornWrong : ChangeSpec := { name := "frameTorn", fn := fun _ => fun
  | [d1, d2] => { results := [.lit (.bool false)], args := [d1, d2] }
  | _ => none }
def FrameTornWrongFalsely : Prop := frameTornRow.holds Try.pinned (OpenSpec.ofChange frameTornWrong)

/-- 'crosslaw.RingPut': WHATEVER THE INPUT: true; the input reads as it did. -/
def ringPutSpec : ChangeSpec := { name := "ringPut", fn := fun _ => fun
  | [d1, d2, d3] => { results := [.lit (.bool true)], args := [d1, d2, d3] }
  | _ => none }
def ringPutRow : OpenClaim := { program := "ytpndpdbabblphaa", sum := "f5f250ee4ac20083deaa75f3c0127ad96302e7f420c355019eba83f41616fb0f", func := "crossroads/crosslaw.RingPut", spec := "ringPut", unfollowed := true, recurses := true, apart := false }
def RingPutSaid : Prop := ringPutRow.holds Try.pinned (OpenSpec.ofChange ringPutSpec)

/-- ITS FALSE NEIGHBOUR: 'it returns false'. Refute it at one input. -/
def ringPutWrong : ChangeSpec := { name := "ringPut", fn := fun _ => fun
  | [d1, d2, d3] => { results := [.lit (.bool false)], args := [d1, d2, d3] }
  | _ => none }
def RingPutWrongFalsely : Prop := ringPutRow.holds Try.pinned (OpenSpec.ofChange ringPutWrong)

/-- 'crosslaw.RingPass': WHATEVER THE INPUT: true; the input reads as it did. -/
def ringPassSpec : ChangeSpec := { name := "ringPass", fn := fun _ => fun
  | [d1, d2, d3] => { results := [.lit (.bool true)], args := [d1, d2, d3] }
  | _ => none }
def ringPassRow : OpenClaim := { program := "ytpndpdbabblphaa", sum := "f5f250ee4ac20083deaa75f3c0127ad96302e7f420c355019eba83f41616fb0f", func := "crossroads/crosslaw.RingPass", spec := "ringPass", unfollowed := true, recurses := true, apart := false }
def RingPassSaid : Prop := ringPassRow.holds Try.pinned (OpenSpec.ofChange ringPassSpec)

/-- ITS FALSE NEIGHBOUR: 'it returns false'. Refute it at one input. -/
def ringPassWrong : ChangeSpec := { name := "ringPass", fn := fun _ => fun
  | [d1, d2, d3] => { results := [.lit (.bool false)], args := [d1, d2, d3] }
  | _ => none }
def RingPassWrongFalsely : Prop := ringPassRow.holds Try.pinned (OpenSpec.ofChange ringPassWrong)

/-- 'crosslaw.RingKeeps': WHATEVER THE INPUT: true; the input reads as it did. -/
def ringKeepsSpec : ChangeSpec := { name := "ringKeeps", fn := fun _ => fun
  | [d1, d2, d3] => { results := [.lit (.bool true)], args := [d1, d2, d3] }
  | _ => none }
def ringKeepsRow : OpenClaim := { program := "ytpndpdbabblphaa", sum := "f5f250ee4ac20083deaa75f3c0127ad96302e7f420c355019eba83f41616fb0f", func := "crossroads/crosslaw.RingKeeps", spec := "ringKeeps", unfollowed := true, recurses := true, apart := false }
def RingKeepsSaid : Prop := ringKeepsRow.holds Try.pinned (OpenSpec.ofChange ringKeepsSpec)

/-- ITS FALSE NEIGHBOUR: 'it returns false'. Refute it at one input. -/
def ringKeepsWrong : ChangeSpec := { name := "ringKeeps", fn := fun _ => fun
  | [d1, d2, d3] => { results := [.lit (.bool false)], args := [d1, d2, d3] }
  | _ => none }
def RingKeepsWrongFalsely : Prop := ringKeepsRow.holds Try.pinned (OpenSpec.ofChange ringKeepsWrong)

/-- 'crosslaw.GateFree': WHATEVER THE INPUT: true; the input reads as it did. -/
def gateFreeSpec : ChangeSpec := { name := "gateFree", fn := fun _ => fun
  | [d1, d2, d3] => { results := [.lit (.bool true)], args := [d1, d2, d3] }
  | _ => none }
def gateFreeRow : OpenClaim := { program := "ytpndpdbabblphaa", sum := "f5f250ee4ac20083deaa75f3c0127ad96302e7f420c355019eba83f41616fb0f", func := "crossroads/crosslaw.GateFree", spec := "gateFree", unfollowed := true, recurses := true, apart := false }
def GateFreeSaid : Prop := gateFreeRow.holds Try.pinned (OpenSpec.ofChange gateFreeSpec)

/-- ITS FALSE NEIGHBOUR: 'it returns false'. Refute it at one input. -/
def gateFreeWrong : ChangeSpec := { name := "gateFree", fn := fun _ => fun
  | [d1, d2, d3] => { results := [.lit (.bool false)], args := [d1, d2, d3] }
  | _ => none }
def GateFreeWrongFalsely : Prop := gateFreeRow.holds Try.pinned (OpenSpec.ofChange gateFreeWrong)

/-- 'crosslaw.GateBehind': WHATEVER THE INPUT: true; the input reads as it did. -/
def gateBehindSpec : ChangeSpec := { name := "gateBehind", fn := fun _ => fun
  | [d1, d2, d3] => { results := [.lit (.bool true)], args := [d1, d2, d3] }
  | _ => none }
def gateBehindRow : OpenClaim := { program := "ytpndpdbabblphaa", sum := "f5f250ee4ac20083deaa75f3c0127ad96302e7f420c355019eba83f41616fb0f", func := "crossroads/crosslaw.GateBehind", spec := "gateBehind", unfollowed := true, recurses := true, apart := false }
def GateBehindSaid : Prop := gateBehindRow.holds Try.pinned (OpenSpec.ofChange gateBehindSpec)

/-- ITS FALSE NEIGHBOUR: 'it returns false'. Refute it at one input. -/
def gateBehindWrong : ChangeSpec := { name := "gateBehind", fn := fun _ => fun
  | [d1, d2, d3] => { results := [.lit (.bool false)], args := [d1, d2, d3] }
  | _ => none }
def GateBehindWrongFalsely : Prop := gateBehindRow.holds Try.pinned (OpenSpec.ofChange gateBehindWrong)

/-- 'crosslaw.GateMore': WHATEVER THE INPUT: true; the input reads as it did. -/
def gateMoreSpec : ChangeSpec := { name := "gateMore", fn := fun _ => fun
  | [d1, d2, d3] => { results := [.lit (.bool true)], args := [d1, d2, d3] }
  | _ => none }
def gateMoreRow : OpenClaim := { program := "ytpndpdbabblphaa", sum := "f5f250ee4ac20083deaa75f3c0127ad96302e7f420c355019eba83f41616fb0f", func := "crossroads/crosslaw.GateMore", spec := "gateMore", unfollowed := true, recurses := true, apart := false }
def GateMoreSaid : Prop := gateMoreRow.holds Try.pinned (OpenSpec.ofChange gateMoreSpec)

/-- ITS FALSE NEIGHBOUR: 'it returns false'. Refute it at one input. -/
def gateMoreWrong : ChangeSpec := { name := "gateMore", fn := fun _ => fun
  | [d1, d2, d3] => { results := [.lit (.bool false)], args := [d1, d2, d3] }
  | _ => none }
def GateMoreWrongFalsely : Prop := gateMoreRow.holds Try.pinned (OpenSpec.ofChange gateMoreWrong)

/-- 'crosslaw.FrameChoices': WHATEVER THE INPUT: true; the input reads as it did. -/
def frameChoicesSpec : ChangeSpec := { name := "frameChoices", fn := fun _ => fun
  | [d1, d2] => { results := [.lit (.bool true)], args := [d1, d2] }
  | _ => none }
def frameChoicesRow : OpenClaim := { program := "ytpndpdbabblphaa", sum := "f5f250ee4ac20083deaa75f3c0127ad96302e7f420c355019eba83f41616fb0f", func := "crossroads/crosslaw.FrameChoices", spec := "frameChoices", apart := false }
def FrameChoicesSaid : Prop := frameChoicesRow.holds Try.pinned (OpenSpec.ofChange frameChoicesSpec)

/-- ITS FALSE NEIGHBOUR: 'it returns false'. Refute it at one input. -/
def frameChoicesWrong : ChangeSpec := { name := "frameChoices", fn := fun _ => fun
  | [d1, d2] => { results := [.lit (.bool false)], args := [d1, d2] }
  | _ => none }
def FrameChoicesWrongFalsely : Prop := frameChoicesRow.holds Try.pinned (OpenSpec.ofChange frameChoicesWrong)

/-- 'crosslaw.FrameBack': WHATEVER THE INPUT: true; the input reads as it did. -/
def frameBackSpec : ChangeSpec := { name := "frameBack", fn := fun _ => fun
  | [d] => { results := [.lit (.bool true)], args := [d] }
  | _ => none }
def frameBackRow : OpenClaim := { program := "ytpndpdbabblphaa", sum := "f5f250ee4ac20083deaa75f3c0127ad96302e7f420c355019eba83f41616fb0f", func := "crossroads/crosslaw.FrameBack", spec := "frameBack", apart := false }
def FrameBackSaid : Prop := frameBackRow.holds Try.pinned (OpenSpec.ofChange frameBackSpec)

/-- ITS FALSE NEIGHBOUR: 'it returns false'. Refute it at one input. -/
def frameBackWrong : ChangeSpec := { name := "frameBack", fn := fun _ => fun
  | [d] => { results := [.lit (.bool false)], args := [d] }
  | _ => none }
def FrameBackWrongFalsely : Prop := frameBackRow.holds Try.pinned (OpenSpec.ofChange frameBackWrong)

/-- 'crosslaw.DiskWrite': WHATEVER THE INPUT: true; the input reads as it did. -/
def diskWriteSpec : ChangeSpec := { name := "diskWrite", fn := fun _ => fun
  | [d1, d2, d3] => { results := [.lit (.bool true)], args := [d1, d2, d3] }
  | _ => none }
def diskWriteRow : OpenClaim := { program := "ytpndpdbabblphaa", sum := "f5f250ee4ac20083deaa75f3c0127ad96302e7f420c355019eba83f41616fb0f", func := "crossroads/crosslaw.DiskWrite", spec := "diskWrite", apart := false }
def DiskWriteSaid : Prop := diskWriteRow.holds Try.pinned (OpenSpec.ofChange diskWriteSpec)

/-- ITS FALSE NEIGHBOUR: 'it returns false'. Refute it at one input. -/
def diskWriteWrong : ChangeSpec := { name := "diskWrite", fn := fun _ => fun
  | [d1, d2, d3] => { results := [.lit (.bool false)], args := [d1, d2, d3] }
  | _ => none }
def DiskWriteWrongFalsely : Prop := diskWriteRow.holds Try.pinned (OpenSpec.ofChange diskWriteWrong)

/-- 'crosslaw.DiskSeen': WHATEVER THE INPUT: true; the input reads as it did. -/
def diskSeenSpec : ChangeSpec := { name := "diskSeen", fn := fun _ => fun
  | [d1, d2, d3] => { results := [.lit (.bool true)], args := [d1, d2, d3] }
  | _ => none }
def diskSeenRow : OpenClaim := { program := "ytpndpdbabblphaa", sum := "f5f250ee4ac20083deaa75f3c0127ad96302e7f420c355019eba83f41616fb0f", func := "crossroads/crosslaw.DiskSeen", spec := "diskSeen", apart := false }
def DiskSeenSaid : Prop := diskSeenRow.holds Try.pinned (OpenSpec.ofChange diskSeenSpec)

/-- ITS FALSE NEIGHBOUR: 'it returns false'. Refute it at one input. -/
def diskSeenWrong : ChangeSpec := { name := "diskSeen", fn := fun _ => fun
  | [d1, d2, d3] => { results := [.lit (.bool false)], args := [d1, d2, d3] }
  | _ => none }
def DiskSeenWrongFalsely : Prop := diskSeenRow.holds Try.pinned (OpenSpec.ofChange diskSeenWrong)

/-- 'crosslaw.DiskSome': WHATEVER THE INPUT: true; the input reads as it did. -/
def diskSomeSpec : ChangeSpec := { name := "diskSome", fn := fun _ => fun
  | [d1, d2] => { results := [.lit (.bool true)], args := [d1, d2] }
  | _ => none }
def diskSomeRow : OpenClaim := { program := "ytpndpdbabblphaa", sum := "f5f250ee4ac20083deaa75f3c0127ad96302e7f420c355019eba83f41616fb0f", func := "crossroads/crosslaw.DiskSome", spec := "diskSome", apart := false }
def DiskSomeSaid : Prop := diskSomeRow.holds Try.pinned (OpenSpec.ofChange diskSomeSpec)

/-- ITS FALSE NEIGHBOUR: 'it returns false'. Refute it at one input. -/
def diskSomeWrong : ChangeSpec := { name := "diskSome", fn := fun _ => fun
  | [d1, d2] => { results := [.lit (.bool false)], args := [d1, d2] }
  | _ => none }
def DiskSomeWrongFalsely : Prop := diskSomeRow.holds Try.pinned (OpenSpec.ofChange diskSomeWrong)

/-- 'crosslaw.DiskCut': WHATEVER THE INPUT: true; the input reads as it did. -/
def diskCutSpec : ChangeSpec := { name := "diskCut", fn := fun _ => fun
  | [d1, d2, d3] => { results := [.lit (.bool true)], args := [d1, d2, d3] }
  | _ => none }
def diskCutRow : OpenClaim := { program := "ytpndpdbabblphaa", sum := "f5f250ee4ac20083deaa75f3c0127ad96302e7f420c355019eba83f41616fb0f", func := "crossroads/crosslaw.DiskCut", spec := "diskCut", inPlace := ["internal/abi.NoEscape", "internal/bytealg.MakeNoZero"], apart := false }
def DiskCutSaid : Prop := diskCutRow.holds Try.pinned (OpenSpec.ofChange diskCutSpec)

/-- ITS FALSE NEIGHBOUR: 'it returns false'. Refute it at one input. -/
def diskCutWrong : ChangeSpec := { name := "diskCut", fn := fun _ => fun
  | [d1, d2, d3] => { results := [.lit (.bool false)], args := [d1, d2, d3] }
  | _ => none }
def DiskCutWrongFalsely : Prop := diskCutRow.holds Try.pinned (OpenSpec.ofChange diskCutWrong)

/- THE SECOND FORM. 'bulk': how many values and letters a reading holds, each counted each time it is reached (what is shared counts as often as it is met; a slice's spare places count too). A statement '..UptoSaid' is the law's where the arguments, and the package variables that the reading takes, are together of bulk at most 1048576: NARROWER than '..Said'. Prove '..Said' where nothing that the law and all that it calls make is longer than what came in: it says more and counts as full. Else prove '..UptoSaid'. A law counts once. -/
mutual
def uptoBulk {H : Type} : DataW H → Nat
  | .lit (.string bytes) => bytes.length + 1
  | .lit _ => 1
  | .nil => 1
  | .ptr d => uptoBulk d + 1
  | .slice elems spare => uptoBulkAll elems + uptoBulkAll spare + 1
  | .agg parts => uptoBulkAll parts + 1
  | .iface _ d => uptoBulk d + 1
  | .map entries => uptoBulkEntries entries + 1
  | .held _ => 1
def uptoBulkAll {H : Type} : List (DataW H) → Nat
  | [] => 0
  | d :: r => uptoBulk d + uptoBulkAll r
def uptoBulkEntries {H : Type} : List (Lit × DataW H) → Nat
  | [] => 0
  | x :: r => uptoBulkEntry x + uptoBulkEntries r
def uptoBulkEntry {H : Type} : Lit × DataW H → Nat
  | (.string bytes, d) => bytes.length + uptoBulk d + 1
  | (_, d) => uptoBulk d + 1
 end
def uptoSmall : (H : Type) → List (DataW H) → Bool := fun _ ds => decide (uptoBulkAll ds ≤ 1048576)
def OpenSpec.upto (s : _root_.Go.ChangeSpec) : _root_.Go.OpenSpec := { _root_.Go.OpenSpec.ofChange s with cond := some uptoSmall }

/-- 'crosslaw.Names', WHERE WHAT IT READS IS OF BULK AT MOST 1048576: true; the input reads as it did. -/
def namesUptoRow : OpenClaim := { program := "ytpndpdbabblphaa", sum := "f5f250ee4ac20083deaa75f3c0127ad96302e7f420c355019eba83f41616fb0f", func := "crossroads/crosslaw.Names", spec := "names", apart := false, narrowed := true }
def NamesUptoSaid : Prop := namesUptoRow.holds Try.pinned (OpenSpec.upto namesSpec)

/-- 'crosslaw.FramePut', WHERE WHAT IT READS IS OF BULK AT MOST 1048576: true; the input reads as it did. -/
def framePutUptoRow : OpenClaim := { program := "ytpndpdbabblphaa", sum := "f5f250ee4ac20083deaa75f3c0127ad96302e7f420c355019eba83f41616fb0f", func := "crossroads/crosslaw.FramePut", spec := "framePut", apart := false, narrowed := true }
def FramePutUptoSaid : Prop := framePutUptoRow.holds Try.pinned (OpenSpec.upto framePutSpec)

/-- 'crosslaw.FrameTorn', WHERE WHAT IT READS IS OF BULK AT MOST 1048576: true; the input reads as it did. -/
def frameTornUptoRow : OpenClaim := { program := "ytpndpdbabblphaa", sum := "f5f250ee4ac20083deaa75f3c0127ad96302e7f420c355019eba83f41616fb0f", func := "crossroads/crosslaw.FrameTorn", spec := "frameTorn", apart := false, narrowed := true }
def FrameTornUptoSaid : Prop := frameTornUptoRow.holds Try.pinned (OpenSpec.upto frameTornSpec)

/-- 'crosslaw.RingPut', WHERE WHAT IT READS IS OF BULK AT MOST 1048576: true; the input reads as it did. -/
def ringPutUptoRow : OpenClaim := { program := "ytpndpdbabblphaa", sum := "f5f250ee4ac20083deaa75f3c0127ad96302e7f420c355019eba83f41616fb0f", func := "crossroads/crosslaw.RingPut", spec := "ringPut", unfollowed := true, recurses := true, apart := false, narrowed := true }
def RingPutUptoSaid : Prop := ringPutUptoRow.holds Try.pinned (OpenSpec.upto ringPutSpec)

/-- 'crosslaw.RingPass', WHERE WHAT IT READS IS OF BULK AT MOST 1048576: true; the input reads as it did. -/
def ringPassUptoRow : OpenClaim := { program := "ytpndpdbabblphaa", sum := "f5f250ee4ac20083deaa75f3c0127ad96302e7f420c355019eba83f41616fb0f", func := "crossroads/crosslaw.RingPass", spec := "ringPass", unfollowed := true, recurses := true, apart := false, narrowed := true }
def RingPassUptoSaid : Prop := ringPassUptoRow.holds Try.pinned (OpenSpec.upto ringPassSpec)

/-- 'crosslaw.RingKeeps', WHERE WHAT IT READS IS OF BULK AT MOST 1048576: true; the input reads as it did. -/
def ringKeepsUptoRow : OpenClaim := { program := "ytpndpdbabblphaa", sum := "f5f250ee4ac20083deaa75f3c0127ad96302e7f420c355019eba83f41616fb0f", func := "crossroads/crosslaw.RingKeeps", spec := "ringKeeps", unfollowed := true, recurses := true, apart := false, narrowed := true }
def RingKeepsUptoSaid : Prop := ringKeepsUptoRow.holds Try.pinned (OpenSpec.upto ringKeepsSpec)

/-- 'crosslaw.GateFree', WHERE WHAT IT READS IS OF BULK AT MOST 1048576: true; the input reads as it did. -/
def gateFreeUptoRow : OpenClaim := { program := "ytpndpdbabblphaa", sum := "f5f250ee4ac20083deaa75f3c0127ad96302e7f420c355019eba83f41616fb0f", func := "crossroads/crosslaw.GateFree", spec := "gateFree", unfollowed := true, recurses := true, apart := false, narrowed := true }
def GateFreeUptoSaid : Prop := gateFreeUptoRow.holds Try.pinned (OpenSpec.upto gateFreeSpec)

/-- 'crosslaw.GateBehind', WHERE WHAT IT READS IS OF BULK AT MOST 1048576: true; the input reads as it did. -/
def gateBehindUptoRow : OpenClaim := { program := "ytpndpdbabblphaa", sum := "f5f250ee4ac20083deaa75f3c0127ad96302e7f420c355019eba83f41616fb0f", func := "crossroads/crosslaw.GateBehind", spec := "gateBehind", unfollowed := true, recurses := true, apart := false, narrowed := true }
def GateBehindUptoSaid : Prop := gateBehindUptoRow.holds Try.pinned (OpenSpec.upto gateBehindSpec)

/-- 'crosslaw.GateMore', WHERE WHAT IT READS IS OF BULK AT MOST 1048576: true; the input reads as it did. -/
def gateMoreUptoRow : OpenClaim := { program := "ytpndpdbabblphaa", sum := "f5f250ee4ac20083deaa75f3c0127ad96302e7f420c355019eba83f41616fb0f", func := "crossroads/crosslaw.GateMore", spec := "gateMore", unfollowed := true, recurses := true, apart := false, narrowed := true }
def GateMoreUptoSaid : Prop := gateMoreUptoRow.holds Try.pinned (OpenSpec.upto gateMoreSpec)

/-- 'crosslaw.FrameChoices', WHERE WHAT IT READS IS OF BULK AT MOST 1048576: true; the input reads as it did. -/
def frameChoicesUptoRow : OpenClaim := { program := "ytpndpdbabblphaa", sum := "f5f250ee4ac20083deaa75f3c0127ad96302e7f420c355019eba83f41616fb0f", func := "crossroads/crosslaw.FrameChoices", spec := "frameChoices", apart := false, narrowed := true }
def FrameChoicesUptoSaid : Prop := frameChoicesUptoRow.holds Try.pinned (OpenSpec.upto frameChoicesSpec)

/-- 'crosslaw.FrameBack', WHERE WHAT IT READS IS OF BULK AT MOST 1048576: true; the input reads as it did. -/
def frameBackUptoRow : OpenClaim := { program := "ytpndpdbabblphaa", sum := "f5f250ee4ac20083deaa75f3c0127ad96302e7f420c355019eba83f41616fb0f", func := "crossroads/crosslaw.FrameBack", spec := "frameBack", apart := false, narrowed := true }
def FrameBackUptoSaid : Prop := frameBackUptoRow.holds Try.pinned (OpenSpec.upto frameBackSpec)

/-- 'crosslaw.DiskWrite', WHERE WHAT IT READS IS OF BULK AT MOST 1048576: true; the input reads as it did. -/
def diskWriteUptoRow : OpenClaim := { program := "ytpndpdbabblphaa", sum := "f5f250ee4ac20083deaa75f3c0127ad96302e7f420c355019eba83f41616fb0f", func := "crossroads/crosslaw.DiskWrite", spec := "diskWrite", apart := false, narrowed := true }
def DiskWriteUptoSaid : Prop := diskWriteUptoRow.holds Try.pinned (OpenSpec.upto diskWriteSpec)

/-- 'crosslaw.DiskSeen', WHERE WHAT IT READS IS OF BULK AT MOST 1048576: true; the input reads as it did. -/
def diskSeenUptoRow : OpenClaim := { program := "ytpndpdbabblphaa", sum := "f5f250ee4ac20083deaa75f3c0127ad96302e7f420c355019eba83f41616fb0f", func := "crossroads/crosslaw.DiskSeen", spec := "diskSeen", apart := false, narrowed := true }
def DiskSeenUptoSaid : Prop := diskSeenUptoRow.holds Try.pinned (OpenSpec.upto diskSeenSpec)

/-- 'crosslaw.DiskSome', WHERE WHAT IT READS IS OF BULK AT MOST 1048576: true; the input reads as it did. -/
def diskSomeUptoRow : OpenClaim := { program := "ytpndpdbabblphaa", sum := "f5f250ee4ac20083deaa75f3c0127ad96302e7f420c355019eba83f41616fb0f", func := "crossroads/crosslaw.DiskSome", spec := "diskSome", apart := false, narrowed := true }
def DiskSomeUptoSaid : Prop := diskSomeUptoRow.holds Try.pinned (OpenSpec.upto diskSomeSpec)

/-- 'crosslaw.DiskCut', WHERE WHAT IT READS IS OF BULK AT MOST 1048576: true; the input reads as it did. -/
def diskCutUptoRow : OpenClaim := { program := "ytpndpdbabblphaa", sum := "f5f250ee4ac20083deaa75f3c0127ad96302e7f420c355019eba83f41616fb0f", func := "crossroads/crosslaw.DiskCut", spec := "diskCut", inPlace := ["internal/abi.NoEscape", "internal/bytealg.MakeNoZero"], apart := false, narrowed := true }
def DiskCutUptoSaid : Prop := diskCutUptoRow.holds Try.pinned (OpenSpec.upto diskCutSpec)

end Rows
end Go.Proofs.Ytpndpdbabblphaa
