/-
  DERIVED. GIVEN WITH THE SEED: THE CARDS: each row of YtbfncjgaklimlaaDoorRows.lean that lists a variable, with what it lists TIED to the program's text (the seventh form; the later family's looks); each row that meets fmt, with fmt's text TOLD by the authors' own Lean function (tested against real Go, not proved from fmt's source: count such statements apart). THE CARD IS WHAT COUNTS. Prove the row's statement (the work); the ties are given (YtbfncjgaklimlaaDoorTie.lean); close each card by the builder's one call (the guide's Derived/Test/ToyasCard.lean, 'card_holds'). Laid BY PROGRAM, IN A SANDBOX (cutbox-door.mjs). By AI agents, Wed Nov 11 2026. No macro, syntax, notation, axiom, sorry.
-/
import Derived.Test.YtbfncjgaklimlaaDoorRows
import GoSem.ClaimSeven
namespace Go.Proofs.YtbfncjgaklimlaaDoor
namespace Rows

/-- THE TIED CARD OF 'crosslaw.TaleBack'. -/
def taleBackCard : Claim7 := { stood := { row := taleBackRow, standIns := [], harness := (true, "85306ddfcc2c9aee522d241a1aa2126b5269b167e025b6a2e34a78608f9d8835"), looks := true }, kinds := [], alts := [], laidByText := true, laidKinds := [.data, .data, .data, .data, .sentinel, .sentinel, .pinned], laidTests := true, laidLooks := .later }
def TaleBackCardSaid : Prop := Claim7.holds Tryd.pinned (.plain (OpenSpec.ofChange taleBackSpec)) taleBackCard

/-- THE SECOND FORM's CARD OF 'crosslaw.TaleBack'. -/
def taleBackUptoCard : Claim7 := { stood := { row := taleBackUptoRow, standIns := [], harness := (true, "85306ddfcc2c9aee522d241a1aa2126b5269b167e025b6a2e34a78608f9d8835"), looks := true }, kinds := [], alts := [], laidByText := true, laidKinds := [.data, .data, .data, .data, .sentinel, .sentinel, .pinned], laidTests := true, laidLooks := .later }
def TaleBackUptoCardSaid : Prop := Claim7.holds Tryd.pinned (.plain (OpenSpec.upto taleBackSpec)) taleBackUptoCard
end Rows
end Go.Proofs.YtbfncjgaklimlaaDoor
