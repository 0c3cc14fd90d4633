/-
  DERIVED. GIVEN WITH THE SEED: THE CARDS: each row of YtoelnjpolhamfaaGreatDoorRows.lean that lists a variable, with what it lists TIED to the program's text (the seventh form; the later family's looks); each row that meets fmt, with fmt's text TOLD by the authors' own Lean function (tested against real Go, not proved from fmt's source: count such statements apart). THE CARD IS WHAT COUNTS. Prove the row's statement (the work); the ties are given (YtoelnjpolhamfaaGreatDoorTie.lean); close each card by the builder's one call (the guide's Derived/Test/ToyasCard.lean, 'card_holds'). Laid BY PROGRAM, IN A SANDBOX (cutbox-door.mjs). By AI agents, Wed Nov 11 2026. No macro, syntax, notation, axiom, sorry.
-/
import Derived.Test.YtoelnjpolhamfaaGreatDoorRows
import GoSem.ClaimSeven
namespace Go.Proofs.YtoelnjpolhamfaaGreatDoor
namespace Rows

/-- THE TIED CARD OF 'crosslaw.WaysAll'. -/
def waysAllCard : Claim7 := { stood := { row := waysAllRow, standIns := [], harness := (true, "31b03154f2590595cc202c16c8f6a8acea6353d6e7e79e5698a63af60c8e6f85"), looks := false }, kinds := [], alts := [], laidByText := true, laidKinds := [.data, .data, .data], laidTests := true, laidLooks := .later }
def WaysAllCardSaid : Prop := Claim7.holds Tryz.pinned (.plain (OpenSpec.ofChange waysAllSpec)) waysAllCard

/-- THE TIED CARD OF 'crosslaw.WaysTwo'. -/
def waysTwoCard : Claim7 := { stood := { row := waysTwoRow, standIns := [], harness := (true, "31b03154f2590595cc202c16c8f6a8acea6353d6e7e79e5698a63af60c8e6f85"), looks := false }, kinds := [], alts := [], laidByText := true, laidKinds := [.data, .data, .data], laidTests := true, laidLooks := .later }
def WaysTwoCardSaid : Prop := Claim7.holds Tryz.pinned (.plain (OpenSpec.ofChange waysTwoSpec)) waysTwoCard

/-- THE TIED CARD OF 'crosslaw.WaysMore'. -/
def waysMoreCard : Claim7 := { stood := { row := waysMoreRow, standIns := [], harness := (true, "31b03154f2590595cc202c16c8f6a8acea6353d6e7e79e5698a63af60c8e6f85"), looks := false }, kinds := [], alts := [], laidByText := true, laidKinds := [.data, .data, .data], laidTests := true, laidLooks := .later }
def WaysMoreCardSaid : Prop := Claim7.holds Tryz.pinned (.plain (OpenSpec.ofChange waysMoreSpec)) waysMoreCard

/-- THE TIED CARD OF 'crosslaw.WaysPlayed'. -/
def waysPlayedCard : Claim7 := { stood := { row := waysPlayedRow, standIns := [], harness := (true, "31b03154f2590595cc202c16c8f6a8acea6353d6e7e79e5698a63af60c8e6f85"), looks := false }, kinds := [], alts := [], laidByText := true, laidKinds := [.data, .data, .data], laidTests := true, laidLooks := .later }
def WaysPlayedCardSaid : Prop := Claim7.holds Tryz.pinned (.plain (OpenSpec.ofChange waysPlayedSpec)) waysPlayedCard

/-- THE SECOND FORM's CARD OF 'crosslaw.WaysAll'. -/
def waysAllUptoCard : Claim7 := { stood := { row := waysAllUptoRow, standIns := [], harness := (true, "31b03154f2590595cc202c16c8f6a8acea6353d6e7e79e5698a63af60c8e6f85"), looks := false }, kinds := [], alts := [], laidByText := true, laidKinds := [.data, .data, .data], laidTests := true, laidLooks := .later }
def WaysAllUptoCardSaid : Prop := Claim7.holds Tryz.pinned (.plain (OpenSpec.upto waysAllSpec)) waysAllUptoCard

/-- THE SECOND FORM's CARD OF 'crosslaw.WaysTwo'. -/
def waysTwoUptoCard : Claim7 := { stood := { row := waysTwoUptoRow, standIns := [], harness := (true, "31b03154f2590595cc202c16c8f6a8acea6353d6e7e79e5698a63af60c8e6f85"), looks := false }, kinds := [], alts := [], laidByText := true, laidKinds := [.data, .data, .data], laidTests := true, laidLooks := .later }
def WaysTwoUptoCardSaid : Prop := Claim7.holds Tryz.pinned (.plain (OpenSpec.upto waysTwoSpec)) waysTwoUptoCard

/-- THE SECOND FORM's CARD OF 'crosslaw.WaysMore'. -/
def waysMoreUptoCard : Claim7 := { stood := { row := waysMoreUptoRow, standIns := [], harness := (true, "31b03154f2590595cc202c16c8f6a8acea6353d6e7e79e5698a63af60c8e6f85"), looks := false }, kinds := [], alts := [], laidByText := true, laidKinds := [.data, .data, .data], laidTests := true, laidLooks := .later }
def WaysMoreUptoCardSaid : Prop := Claim7.holds Tryz.pinned (.plain (OpenSpec.upto waysMoreSpec)) waysMoreUptoCard

/-- THE SECOND FORM's CARD OF 'crosslaw.WaysPlayed'. -/
def waysPlayedUptoCard : Claim7 := { stood := { row := waysPlayedUptoRow, standIns := [], harness := (true, "31b03154f2590595cc202c16c8f6a8acea6353d6e7e79e5698a63af60c8e6f85"), looks := false }, kinds := [], alts := [], laidByText := true, laidKinds := [.data, .data, .data], laidTests := true, laidLooks := .later }
def WaysPlayedUptoCardSaid : Prop := Claim7.holds Tryz.pinned (.plain (OpenSpec.upto waysPlayedSpec)) waysPlayedUptoCard
end Rows
end Go.Proofs.YtoelnjpolhamfaaGreatDoor
