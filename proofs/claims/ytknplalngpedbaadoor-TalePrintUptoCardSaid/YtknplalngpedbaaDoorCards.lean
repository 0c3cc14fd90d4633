/-
  DERIVED. GIVEN WITH THE SEED: THE CARDS: each row of YtknplalngpedbaaDoorRows.lean that lists a variable, with what it lists TIED to the program's text (the seventh form; the later family's looks); each row that meets fmt, with fmt's text TOLD by the authors' own Lean function (tested against real Go, not proved from fmt's source: count such statements apart). THE CARD IS WHAT COUNTS. Prove the row's statement (the work); the ties are given (YtknplalngpedbaaDoorTie.lean); close each card by the builder's one call (the guide's Derived/Test/ToyasCard.lean, 'card_holds'). Laid BY PROGRAM, IN A SANDBOX (cutbox-door.mjs). By AI agents, Wed Nov 11 2026. No macro, syntax, notation, axiom, sorry.
-/
import Derived.Test.YtknplalngpedbaaDoorRows
import GoSem.ClaimSeven
namespace Go.Proofs.YtknplalngpedbaaDoor
namespace Rows

/-- THE TIED CARD OF 'crosslaw.TalePrint'. -/
def talePrintCard : Claim7 := { stood := { row := talePrintRow, standIns := [], harness := (true, "f6b9e04359c1a3a69eb4ea2a147e708fdf17781db1ce24a68aa267ed0abc712b"), looks := true }, kinds := [], alts := [], laidByText := true, laidKinds := [.data, .data, .data, .data, .sentinel, .sentinel, .pinned], laidTests := true, laidLooks := .later }
def TalePrintCardSaid : Prop := Claim7.holds Tryd.pinned (.plain (OpenSpec.ofChange talePrintSpec)) talePrintCard

/-- THE SECOND FORM's CARD OF 'crosslaw.TalePrint'. -/
def talePrintUptoCard : Claim7 := { stood := { row := talePrintUptoRow, standIns := [], harness := (true, "f6b9e04359c1a3a69eb4ea2a147e708fdf17781db1ce24a68aa267ed0abc712b"), looks := true }, kinds := [], alts := [], laidByText := true, laidKinds := [.data, .data, .data, .data, .sentinel, .sentinel, .pinned], laidTests := true, laidLooks := .later }
def TalePrintUptoCardSaid : Prop := Claim7.holds Tryd.pinned (.plain (OpenSpec.upto talePrintSpec)) talePrintUptoCard
end Rows
end Go.Proofs.YtknplalngpedbaaDoor
