/-
  DERIVED. GIVEN WITH THE SEED: THE CARDS: each row of YtfglbbhdfgjheaaGreatDoorRows.lean that lists a variable, with what it lists TIED to the program's text (the seventh form; the later family's looks); each row that meets fmt, with fmt's text TOLD by the authors' own Lean function (tested against real Go, not proved from fmt's source: count such statements apart). THE CARD IS WHAT COUNTS. Prove the row's statement (the work); the ties are given (YtfglbbhdfgjheaaGreatDoorTie.lean); close each card by the builder's one call (the guide's Derived/Test/ToyasCard.lean, 'card_holds'). Laid BY PROGRAM, IN A SANDBOX (cutbox-door.mjs). By AI agents, Wed Nov 11 2026. No macro, syntax, notation, axiom, sorry.
-/
import Derived.Test.YtfglbbhdfgjheaaGreatDoorRows
import GoSem.ClaimSeven
namespace Go.Proofs.YtfglbbhdfgjheaaGreatDoor
namespace Rows

/-- THE TIED CARD OF 'crosslaw.ShopEnds'. -/
def shopEndsCard : Claim7 := { stood := { row := shopEndsRow, standIns := [], harness := (true, "c34359ded46a3b53644267fbf3251b81bfcb326466ae8f4a429e14b7fe8957d2"), looks := true }, kinds := [], alts := [], laidByText := true, laidKinds := [.data, .data, .data], laidTests := true, laidLooks := .later }
def ShopEndsCardSaid : Prop := Claim7.holds Tryz.pinned (.plain (OpenSpec.ofChange shopEndsSpec)) shopEndsCard

/-- THE SECOND FORM's CARD OF 'crosslaw.ShopEnds'. -/
def shopEndsUptoCard : Claim7 := { stood := { row := shopEndsUptoRow, standIns := [], harness := (true, "c34359ded46a3b53644267fbf3251b81bfcb326466ae8f4a429e14b7fe8957d2"), looks := true }, kinds := [], alts := [], laidByText := true, laidKinds := [.data, .data, .data], laidTests := true, laidLooks := .later }
def ShopEndsUptoCardSaid : Prop := Claim7.holds Tryz.pinned (.plain (OpenSpec.upto shopEndsSpec)) shopEndsUptoCard
end Rows
end Go.Proofs.YtfglbbhdfgjheaaGreatDoor
