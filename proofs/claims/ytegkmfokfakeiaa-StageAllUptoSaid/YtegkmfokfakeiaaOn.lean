/-
  The types of the arguments opened. Printed by a program of ours (wip/gen_open.py).
-/
import Derived.Test.YtegkmfokfakeiaaOpen
import Derived.Test.YtegkmfokfakeiaaEnc
import Derived.Test.YtegkmfokfakeiaaPlib
namespace Go.Proofs.Ytegkmfokfakeiaa
open Go.RowKit
set_option linter.unusedVariables false
set_option linter.unusedSimpArgs false
theorem on9 : Opn Try.prog 9 (fun s : List UInt8 => [.str s]) gS mS :=
  (Opn.str Try.underlying9).map id (fun _ => rfl) (fun _ _ => trivial) (fun _ => Nat.le_refl _)
theorem on22 : Opn Try.prog 22 (fun l => [.sl (l.map encS)]) (gL gS) (mL mS) :=
  (Opn.slice (size := 0) Try.underlying22 Ty.c9 on9).map id (fun _ => rfl) (fun a h => h) (fun _ => Nat.le_refl _)
theorem on3 : Opn Try.prog 3 (fun n : Int => [.int .i64 n]) gI mI :=
  (Opn.int Try.underlying3).map id (fun _ => rfl) (fun a h => ⟨h.1, h.2⟩) (fun _ => Nat.le_refl _)
theorem on42 : Opn Try.prog 42 encWrite gWrite mWrite :=
  (Opn.struct Try.underlying42 Ty.c42 (OpnF.cons rfl 1 Ty.c3 on3 (OpnF.cons rfl 1 Ty.c9 on9 OpnF.nil))).map (fun p => (⟨p.1, p.2.1⟩ : Write)) (fun p => rfl) (fun p h => ⟨h.1, h.2.1⟩) (fun p => by simp only [mWrite, mI, mB]; omega)
theorem on23 : Opn Try.prog 23 (fun l => [.sl (l.map encWrite)]) (gL gWrite) (mL mWrite) :=
  (Opn.slice (size := 1) Try.underlying23 Ty.c42 on42).map id (fun _ => rfl) (fun a h => h) (fun _ => Nat.le_refl _)
theorem on25 : Opn Try.prog 25 encDisk gDisk mDisk :=
  (Opn.struct Try.underlying25 Ty.c25 (OpnF.cons rfl 1 Ty.c22 on22 (OpnF.cons rfl 1 Ty.c23 on23 OpnF.nil))).map (fun p => (⟨p.1, p.2.1⟩ : Disk)) (fun p => rfl) (fun p h => ⟨h.1, h.2.1⟩) (fun p => by simp only [mDisk, mI, mB]; omega)
theorem on36 : Opn Try.prog 36 encChoice gChoice mChoice :=
  (Opn.struct Try.underlying36 Ty.c36 (OpnF.cons rfl 1 Ty.c3 on3 (OpnF.cons rfl 1 Ty.c3 on3 OpnF.nil))).map (fun p => (⟨p.1, p.2.1⟩ : Choice)) (fun p => rfl) (fun p h => ⟨h.1, h.2.1⟩) (fun p => by simp only [mChoice, mI, mB]; omega)
theorem on26 : Opn Try.prog 26 (fun l => [.sl (l.map encChoice)]) (gL gChoice) (mL mChoice) :=
  (Opn.slice (size := 1) Try.underlying26 Ty.c36 on36).map id (fun _ => rfl) (fun a h => h) (fun _ => Nat.le_refl _)
theorem on49 : Opn Try.prog 49 (fun l => [.sl (l.map (encL encChoice))]) (gL (gL gChoice)) (mL (mL mChoice)) :=
  (Opn.slice (size := 0) Try.underlying49 Ty.c26 on26).map id (fun _ => rfl) (fun a h => h) (fun _ => Nat.le_refl _)
theorem on57 : Opn Try.prog 57 (fun l => [.sl (l.map encI)]) (gL gI) (mL mI) :=
  (Opn.slice (size := 0) Try.underlying57 Ty.c3 on3).map id (fun _ => rfl) (fun a h => h) (fun _ => Nat.le_refl _)
theorem on67 : Opn Try.prog 67 encNode gNode mNode :=
  (Opn.struct Try.underlying67 Ty.c67 (OpnF.cons rfl 1 Ty.c3 on3 (OpnF.cons rfl 1 Ty.c3 on3 (OpnF.cons rfl 1 Ty.c57 on57 (OpnF.cons rfl 1 Ty.c57 on57 OpnF.nil))))).map (fun p => (⟨p.1, p.2.1, p.2.2.1, p.2.2.2.1⟩ : Node)) (fun p => rfl) (fun p h => ⟨h.1, h.2.1, h.2.2.1, h.2.2.2.1⟩) (fun p => by simp only [mNode, mI, mB]; omega)
theorem on54 : Opn Try.prog 54 (fun l => [.sl (l.map encNode)]) (gL gNode) (mL mNode) :=
  (Opn.slice (size := 3) Try.underlying54 Ty.c67 on67).map id (fun _ => rfl) (fun a h => h) (fun _ => Nat.le_refl _)
theorem on56 : Opn Try.prog 56 encNet gNet mNet :=
  (Opn.struct Try.underlying56 Ty.c56 (OpnF.cons rfl 1 Ty.c54 on54 (OpnF.cons rfl 1 Ty.c3 on3 (OpnF.cons rfl 1 Ty.c3 on3 OpnF.nil)))).map (fun p => (⟨p.1, p.2.1, p.2.2.1⟩ : Net)) (fun p => rfl) (fun p h => ⟨h.1, h.2.1, h.2.2.1⟩) (fun p => by simp only [mNet, mI, mB]; omega)
theorem on79 : Opn Try.prog 79 encItem gItem mItem :=
  (Opn.struct Try.underlying79 Ty.c79 (OpnF.cons rfl 1 Ty.c3 on3 (OpnF.cons rfl 1 Ty.c3 on3 (OpnF.cons rfl 1 Ty.c3 on3 OpnF.nil)))).map (fun p => (⟨p.1, p.2.1, p.2.2.1⟩ : Item)) (fun p => rfl) (fun p h => ⟨h.1, h.2.1, h.2.2.1⟩) (fun p => by simp only [mItem, mI, mB]; omega)
theorem on74 : Opn Try.prog 74 (fun l => [.sl (l.map encItem)]) (gL gItem) (mL mItem) :=
  (Opn.slice (size := 2) Try.underlying74 Ty.c79 on79).map id (fun _ => rfl) (fun a h => h) (fun _ => Nat.le_refl _)
theorem on68 : Opn Try.prog 68 (fun l => [.sl (l.map (encL encItem))]) (gL (gL gItem)) (mL (mL mItem)) :=
  (Opn.slice (size := 0) Try.underlying68 Ty.c74 on74).map id (fun _ => rfl) (fun a h => h) (fun _ => Nat.le_refl _)
theorem on135 : Opn Try.prog 135 encKeyed gKeyed mKeyed :=
  (Opn.struct Try.underlying135 Ty.c135 (OpnF.cons rfl 1 Ty.c3 on3 (OpnF.cons rfl 1 Ty.c3 on3 OpnF.nil))).map (fun p => (⟨p.1, p.2.1⟩ : Keyed)) (fun p => rfl) (fun p h => ⟨h.1, h.2.1⟩) (fun p => by simp only [mKeyed, mI, mB]; omega)
theorem on88 : Opn Try.prog 88 (fun l => [.sl (l.map encKeyed)]) (gL gKeyed) (mL mKeyed) :=
  (Opn.slice (size := 1) Try.underlying88 Ty.c135 on135).map id (fun _ => rfl) (fun a h => h) (fun _ => Nat.le_refl _)
theorem on90 : Opn Try.prog 90 encMemory gMemory mMemory :=
  (Opn.struct Try.underlying90 Ty.c90 (OpnF.cons rfl 1 Ty.c3 on3 (OpnF.cons rfl 1 Ty.c88 on88 (OpnF.cons rfl 1 Ty.c3 on3 OpnF.nil)))).map (fun p => (⟨p.1, p.2.1, p.2.2.1⟩ : Memory)) (fun p => rfl) (fun p h => ⟨h.1, h.2.1, h.2.2.1⟩) (fun p => by simp only [mMemory, mI, mB]; omega)
end Go.Proofs.Ytegkmfokfakeiaa
