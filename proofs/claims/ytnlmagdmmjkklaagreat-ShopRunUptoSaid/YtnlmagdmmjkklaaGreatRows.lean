/-
  No cell of these rows narrows 'for every input' (looked for: loops, veiled, ifaces, maps, wideKeys, modest, calm, conditions, laid).
  DERIVED. THE GIVEN ROWS OF THIS SEAT. 4 by the template 'for every input the law returns true; each argument reads behind the call as it read before'; 0 by the template 'total and deterministic' (their statements: YtnlmagdmmjkklaaGreatTotals.lean).
  GIVEN WITH THE SEED: the statements are not yours to turn. If you find one false, say at which input.
  Laid BY PROGRAM, IN A SANDBOX (cutbox-rows.mjs): the forced cells as the released guide's own fill.sh prints them over the translation 348f9e31962c8ff4… (all of the seat's roots in one cut). By AI agents, Wed Nov 11 2026. No macro, syntax, notation, axiom, sorry.
-/
import Derived.Test.YtnlmagdmmjkklaaGreatChecked
import GoSem.Claim
import GoSem.ClaimJoined
import GoSem.ClaimMapViews
import Derived.JoinedTies
import Derived.KernelRfl
namespace Go.Proofs.YtnlmagdmmjkklaaGreat
/- THE CELL 'sum', in the pinned program and in every row, IS THE sha256 OF THE DUMP (.gsa) THAT YtnlmagdmmjkklaaGreatProg.lean LOADS. Nothing in Lean hashes anything: it is a label: what it is worth is what the hold of that sum in a sandbox is worth. -/
noncomputable def Tryz.pinned : Pinned := { name := "ytnlmagdmmjkklaagreat", sum := "348f9e31962c8ff4ab10bfc5fae4eb3c3ca86d39be1d92d58f21ee079c02dac7", checked := Tryz.checked }
namespace Rows
def none {H : Type} : Left H := { results := [], args := [] }

/-- 'crosslaw.ShopKeeps': WHATEVER THE INPUT: true; the input reads as it did. -/
def shopKeepsSpec : ChangeSpec := { name := "shopKeeps", fn := fun _ => fun
  | [d1, d2, d3] => { results := [.lit (.bool true)], args := [d1, d2, d3] }
  | _ => none }
def shopKeepsRow : OpenClaim := { program := "ytnlmagdmmjkklaagreat", sum := "348f9e31962c8ff4ab10bfc5fae4eb3c3ca86d39be1d92d58f21ee079c02dac7", func := "crossroads/crosslaw.ShopKeeps", spec := "shopKeeps", inPlace := ["slices.overlaps[crossroads/api.Keyed]", "internal/abi.NoEscape"], unfollowed := true, recurses := true, apart := false }
def ShopKeepsSaid : Prop := shopKeepsRow.holds Tryz.pinned (OpenSpec.ofChange shopKeepsSpec)

/-- ITS FALSE NEIGHBOUR: 'it returns false'. Refute it at one input. -/
def shopKeepsWrong : ChangeSpec := { name := "shopKeeps", fn := fun _ => fun
  | [d1, d2, d3] => { results := [.lit (.bool false)], args := [d1, d2, d3] }
  | _ => none }
def ShopKeepsWrongFalsely : Prop := shopKeepsRow.holds Tryz.pinned (OpenSpec.ofChange shopKeepsWrong)

/-- 'crosslaw.ShopAgain': WHATEVER THE INPUT: true; the input reads as it did. -/
def shopAgainSpec : ChangeSpec := { name := "shopAgain", fn := fun _ => fun
  | [d1, d2, d3] => { results := [.lit (.bool true)], args := [d1, d2, d3] }
  | _ => none }
def shopAgainRow : OpenClaim := { program := "ytnlmagdmmjkklaagreat", sum := "348f9e31962c8ff4ab10bfc5fae4eb3c3ca86d39be1d92d58f21ee079c02dac7", func := "crossroads/crosslaw.ShopAgain", spec := "shopAgain", inPlace := ["slices.overlaps[crossroads/api.Keyed]", "internal/abi.NoEscape"], unfollowed := true, recurses := true, apart := false }
def ShopAgainSaid : Prop := shopAgainRow.holds Tryz.pinned (OpenSpec.ofChange shopAgainSpec)

/-- ITS FALSE NEIGHBOUR: 'it returns false'. Refute it at one input. -/
def shopAgainWrong : ChangeSpec := { name := "shopAgain", fn := fun _ => fun
  | [d1, d2, d3] => { results := [.lit (.bool false)], args := [d1, d2, d3] }
  | _ => none }
def ShopAgainWrongFalsely : Prop := shopAgainRow.holds Tryz.pinned (OpenSpec.ofChange shopAgainWrong)

/-- 'crosslaw.ShopLays': WHATEVER THE INPUT: true; the input reads as it did. -/
def shopLaysSpec : ChangeSpec := { name := "shopLays", fn := fun _ => fun
  | [d1, d2, d3] => { results := [.lit (.bool true)], args := [d1, d2, d3] }
  | _ => none }
def shopLaysRow : OpenClaim := { program := "ytnlmagdmmjkklaagreat", sum := "348f9e31962c8ff4ab10bfc5fae4eb3c3ca86d39be1d92d58f21ee079c02dac7", func := "crossroads/crosslaw.ShopLays", spec := "shopLays", inPlace := ["slices.overlaps[crossroads/api.Keyed]", "internal/abi.NoEscape"], unfollowed := true, recurses := true, apart := false }
def ShopLaysSaid : Prop := shopLaysRow.holds Tryz.pinned (OpenSpec.ofChange shopLaysSpec)

/-- ITS FALSE NEIGHBOUR: 'it returns false'. Refute it at one input. -/
def shopLaysWrong : ChangeSpec := { name := "shopLays", fn := fun _ => fun
  | [d1, d2, d3] => { results := [.lit (.bool false)], args := [d1, d2, d3] }
  | _ => none }
def ShopLaysWrongFalsely : Prop := shopLaysRow.holds Tryz.pinned (OpenSpec.ofChange shopLaysWrong)

/-- 'crosslaw.ShopRun': WHATEVER THE INPUT: true; the input reads as it did. -/
def shopRunSpec : ChangeSpec := { name := "shopRun", fn := fun _ => fun
  | [d1, d2, d3] => { results := [.lit (.bool true)], args := [d1, d2, d3] }
  | _ => none }
def shopRunRow : OpenClaim := { program := "ytnlmagdmmjkklaagreat", sum := "348f9e31962c8ff4ab10bfc5fae4eb3c3ca86d39be1d92d58f21ee079c02dac7", func := "crossroads/crosslaw.ShopRun", spec := "shopRun", inPlace := ["slices.overlaps[crossroads/api.Keyed]", "internal/abi.NoEscape", "internal/reflectlite.ValueOf", "internal/reflectlite.Swapper", "(internal/reflectlite.Value).Len"], unfollowed := true, recurses := true, apart := false }
def ShopRunSaid : Prop := shopRunRow.holds Tryz.pinned (OpenSpec.ofChange shopRunSpec)

/-- ITS FALSE NEIGHBOUR: 'it returns false'. Refute it at one input. -/
def shopRunWrong : ChangeSpec := { name := "shopRun", fn := fun _ => fun
  | [d1, d2, d3] => { results := [.lit (.bool false)], args := [d1, d2, d3] }
  | _ => none }
def ShopRunWrongFalsely : Prop := shopRunRow.holds Tryz.pinned (OpenSpec.ofChange shopRunWrong)

/- THE SECOND FORM. 'bulk': how many values and letters a reading holds, each counted each time it is reached (what is shared counts as often as it is met; a slice's spare places count too). A statement '..UptoSaid' is the law's where the arguments, and the package variables that the reading takes, are together of bulk at most 1048576: NARROWER than '..Said'. Prove '..Said' where nothing that the law and all that it calls make is longer than what came in: it says more and counts as full. Else prove '..UptoSaid'. A law counts once. -/
mutual
def uptoBulk {H : Type} : DataW H → Nat
  | .lit (.string bytes) => bytes.length + 1
  | .lit _ => 1
  | .nil => 1
  | .ptr d => uptoBulk d + 1
  | .slice elems spare => uptoBulkAll elems + uptoBulkAll spare + 1
  | .agg parts => uptoBulkAll parts + 1
  | .iface _ d => uptoBulk d + 1
  | .map entries => uptoBulkEntries entries + 1
  | .held _ => 1
def uptoBulkAll {H : Type} : List (DataW H) → Nat
  | [] => 0
  | d :: r => uptoBulk d + uptoBulkAll r
def uptoBulkEntries {H : Type} : List (Lit × DataW H) → Nat
  | [] => 0
  | x :: r => uptoBulkEntry x + uptoBulkEntries r
def uptoBulkEntry {H : Type} : Lit × DataW H → Nat
  | (.string bytes, d) => bytes.length + uptoBulk d + 1
  | (_, d) => uptoBulk d + 1
 end
def uptoSmall : (H : Type) → List (DataW H) → Bool := fun _ ds => decide (uptoBulkAll ds ≤ 1048576)
def OpenSpec.upto (s : _root_.Go.ChangeSpec) : _root_.Go.OpenSpec := { _root_.Go.OpenSpec.ofChange s with cond := some uptoSmall }

/-- 'crosslaw.ShopKeeps', WHERE WHAT IT READS IS OF BULK AT MOST 1048576: true; the input reads as it did. -/
def shopKeepsUptoRow : OpenClaim := { program := "ytnlmagdmmjkklaagreat", sum := "348f9e31962c8ff4ab10bfc5fae4eb3c3ca86d39be1d92d58f21ee079c02dac7", func := "crossroads/crosslaw.ShopKeeps", spec := "shopKeeps", inPlace := ["slices.overlaps[crossroads/api.Keyed]", "internal/abi.NoEscape"], unfollowed := true, recurses := true, apart := false, narrowed := true }
def ShopKeepsUptoSaid : Prop := shopKeepsUptoRow.holds Tryz.pinned (OpenSpec.upto shopKeepsSpec)

/-- 'crosslaw.ShopAgain', WHERE WHAT IT READS IS OF BULK AT MOST 1048576: true; the input reads as it did. -/
def shopAgainUptoRow : OpenClaim := { program := "ytnlmagdmmjkklaagreat", sum := "348f9e31962c8ff4ab10bfc5fae4eb3c3ca86d39be1d92d58f21ee079c02dac7", func := "crossroads/crosslaw.ShopAgain", spec := "shopAgain", inPlace := ["slices.overlaps[crossroads/api.Keyed]", "internal/abi.NoEscape"], unfollowed := true, recurses := true, apart := false, narrowed := true }
def ShopAgainUptoSaid : Prop := shopAgainUptoRow.holds Tryz.pinned (OpenSpec.upto shopAgainSpec)

/-- 'crosslaw.ShopLays', WHERE WHAT IT READS IS OF BULK AT MOST 1048576: true; the input reads as it did. -/
def shopLaysUptoRow : OpenClaim := { program := "ytnlmagdmmjkklaagreat", sum := "348f9e31962c8ff4ab10bfc5fae4eb3c3ca86d39be1d92d58f21ee079c02dac7", func := "crossroads/crosslaw.ShopLays", spec := "shopLays", inPlace := ["slices.overlaps[crossroads/api.Keyed]", "internal/abi.NoEscape"], unfollowed := true, recurses := true, apart := false, narrowed := true }
def ShopLaysUptoSaid : Prop := shopLaysUptoRow.holds Tryz.pinned (OpenSpec.upto shopLaysSpec)

/-- 'crosslaw.ShopRun', WHERE WHAT IT READS IS OF BULK AT MOST 1048576: true; the input reads as it did. -/
def shopRunUptoRow : OpenClaim := { program := "ytnlmagdmmjkklaagreat", sum := "348f9e31962c8ff4ab10bfc5fae4eb3c3ca86d39be1d92d58f21ee079c02dac7", func := "crossroads/crosslaw.ShopRun", spec := "shopRun", inPlace := ["slices.overlaps[crossroads/api.Keyed]", "internal/abi.NoEscape", "internal/reflectlite.ValueOf", "internal/reflectlite.Swapper", "(internal/reflectlite.Value).Len"], unfollowed := true, recurses := true, apart := false, narrowed := true }
def ShopRunUptoSaid : Prop := shopRunUptoRow.holds Tryz.pinned (OpenSpec.upto shopRunSpec)

end Rows
end Go.Proofs.YtnlmagdmmjkklaaGreat
