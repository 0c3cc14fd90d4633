/-
  DERIVED. GIVEN WITH THE SEED: THE CARDS: each row of YtbfncjgaklimlaaGreatDoorRows.lean that lists a variable, with what it lists TIED to the program's text (the seventh form; the later family's looks); each row that meets fmt, with fmt's text TOLD by the authors' own Lean function (tested against real Go, not proved from fmt's source: count such statements apart). THE CARD IS WHAT COUNTS. Prove the row's statement (the work); the ties are given (YtbfncjgaklimlaaGreatDoorTie.lean); close each card by the builder's one call (the guide's Derived/Test/ToyasCard.lean, 'card_holds'). Laid BY PROGRAM, IN A SANDBOX (cutbox-door.mjs). By AI agents, Wed Nov 11 2026. No macro, syntax, notation, axiom, sorry.
-/
import Derived.Test.YtbfncjgaklimlaaGreatDoorRows
import GoSem.ClaimSeven
namespace Go.Proofs.YtbfncjgaklimlaaGreatDoor
namespace Rows

/-- THE TIED CARD OF 'crosslaw.TaleParse'. -/
def taleParseCard : Claim7 := { stood := { row := taleParseRow, standIns := [], harness := (true, "0514b8c6f9c031acee3991db6fda6819fb7c815cb2761a3f960f021660aba2a1"), looks := true }, kinds := [], alts := [], laidByText := true, laidKinds := [.data, .data, .data, .data, .sentinel, .sentinel, .pinned], laidTests := true, laidLooks := .later }
def TaleParseCardSaid : Prop := Claim7.holds Tryz.pinned (.plain (OpenSpec.ofChange taleParseSpec)) taleParseCard

/-- THE TIED CARD OF 'crosslaw.TaleScript'. -/
def taleScriptCard : Claim7 := { stood := { row := taleScriptRow, standIns := [], harness := (true, "0514b8c6f9c031acee3991db6fda6819fb7c815cb2761a3f960f021660aba2a1"), looks := true }, kinds := [], alts := [], laidByText := true, laidKinds := [.data, .data, .data, .data, .sentinel, .sentinel, .pinned], laidTests := true, laidLooks := .later }
def TaleScriptCardSaid : Prop := Claim7.holds Tryz.pinned (.plain (OpenSpec.ofChange taleScriptSpec)) taleScriptCard

/-- THE SECOND FORM's CARD OF 'crosslaw.TaleParse'. -/
def taleParseUptoCard : Claim7 := { stood := { row := taleParseUptoRow, standIns := [], harness := (true, "0514b8c6f9c031acee3991db6fda6819fb7c815cb2761a3f960f021660aba2a1"), looks := true }, kinds := [], alts := [], laidByText := true, laidKinds := [.data, .data, .data, .data, .sentinel, .sentinel, .pinned], laidTests := true, laidLooks := .later }
def TaleParseUptoCardSaid : Prop := Claim7.holds Tryz.pinned (.plain (OpenSpec.upto taleParseSpec)) taleParseUptoCard

/-- THE SECOND FORM's CARD OF 'crosslaw.TaleScript'. -/
def taleScriptUptoCard : Claim7 := { stood := { row := taleScriptUptoRow, standIns := [], harness := (true, "0514b8c6f9c031acee3991db6fda6819fb7c815cb2761a3f960f021660aba2a1"), looks := true }, kinds := [], alts := [], laidByText := true, laidKinds := [.data, .data, .data, .data, .sentinel, .sentinel, .pinned], laidTests := true, laidLooks := .later }
def TaleScriptUptoCardSaid : Prop := Claim7.holds Tryz.pinned (.plain (OpenSpec.upto taleScriptSpec)) taleScriptUptoCard
end Rows
end Go.Proofs.YtbfncjgaklimlaaGreatDoor
