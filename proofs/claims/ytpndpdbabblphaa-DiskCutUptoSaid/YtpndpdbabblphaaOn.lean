/-
  The types of the arguments opened. Printed by a program of ours (wip/gen_open.py).
-/
import Derived.Test.YtpndpdbabblphaaOpen
import Derived.Test.YtpndpdbabblphaaEnc
import Derived.Test.YtpndpdbabblphaaPlib
namespace Go.Proofs.Ytpndpdbabblphaa
open Go.RowKit
set_option linter.unusedVariables false
set_option linter.unusedSimpArgs false
theorem on9 : Opn Try.prog 9 (fun s : List UInt8 => [.str s]) gS mS :=
  (Opn.str Try.underlying9).map id (fun _ => rfl) (fun _ _ => trivial) (fun _ => Nat.le_refl _)
theorem on29 : Opn Try.prog 29 (fun l => [.sl (l.map encS)]) (gL gS) (mL mS) :=
  (Opn.slice (size := 0) Try.underlying29 Ty.c9 on9).map id (fun _ => rfl) (fun a h => h) (fun _ => Nat.le_refl _)
theorem on3 : Opn Try.prog 3 (fun n : Int => [.int .i64 n]) gI mI :=
  (Opn.int Try.underlying3).map id (fun _ => rfl) (fun a h => ⟨h.1, h.2⟩) (fun _ => Nat.le_refl _)
theorem on41 : Opn Try.prog 41 encItem gItem mItem :=
  (Opn.struct Try.underlying41 Ty.c41 (OpnF.cons rfl 1 Ty.c3 on3 (OpnF.cons rfl 1 Ty.c3 on3 (OpnF.cons rfl 1 Ty.c3 on3 OpnF.nil)))).map (fun p => (⟨p.1, p.2.1, p.2.2.1⟩ : Item)) (fun p => rfl) (fun p h => ⟨h.1, h.2.1, h.2.2.1⟩) (fun p => by simp only [mItem, mI, mB]; omega)
theorem on39 : Opn Try.prog 39 (fun l => [.sl (l.map encItem)]) (gL gItem) (mL mItem) :=
  (Opn.slice (size := 2) Try.underlying39 Ty.c41 on41).map id (fun _ => rfl) (fun a h => h) (fun _ => Nat.le_refl _)
theorem on24 : Opn Try.prog 24 (fun l => [.sl (l.map encI)]) (gL gI) (mL mI) :=
  (Opn.slice (size := 0) Try.underlying24 Ty.c3 on3).map id (fun _ => rfl) (fun a h => h) (fun _ => Nat.le_refl _)
theorem on66 : Opn Try.prog 66 encChoice gChoice mChoice :=
  (Opn.struct Try.underlying66 Ty.c66 (OpnF.cons rfl 1 Ty.c3 on3 (OpnF.cons rfl 1 Ty.c3 on3 OpnF.nil))).map (fun p => (⟨p.1, p.2.1⟩ : Choice)) (fun p => rfl) (fun p h => ⟨h.1, h.2.1⟩) (fun p => by simp only [mChoice, mI, mB]; omega)
theorem on58 : Opn Try.prog 58 (fun l => [.sl (l.map encChoice)]) (gL gChoice) (mL mChoice) :=
  (Opn.slice (size := 1) Try.underlying58 Ty.c66 on66).map id (fun _ => rfl) (fun a h => h) (fun _ => Nat.le_refl _)
theorem on76 : Opn Try.prog 76 encWrite gWrite mWrite :=
  (Opn.struct Try.underlying76 Ty.c76 (OpnF.cons rfl 1 Ty.c3 on3 (OpnF.cons rfl 1 Ty.c9 on9 OpnF.nil))).map (fun p => (⟨p.1, p.2.1⟩ : Write)) (fun p => rfl) (fun p h => ⟨h.1, h.2.1⟩) (fun p => by simp only [mWrite, mI, mB]; omega)
theorem on70 : Opn Try.prog 70 (fun l => [.sl (l.map encWrite)]) (gL gWrite) (mL mWrite) :=
  (Opn.slice (size := 1) Try.underlying70 Ty.c76 on76).map id (fun _ => rfl) (fun a h => h) (fun _ => Nat.le_refl _)
theorem on72 : Opn Try.prog 72 encDisk gDisk mDisk :=
  (Opn.struct Try.underlying72 Ty.c72 (OpnF.cons rfl 1 Ty.c29 on29 (OpnF.cons rfl 1 Ty.c70 on70 OpnF.nil))).map (fun p => (⟨p.1, p.2.1⟩ : Disk)) (fun p => rfl) (fun p h => ⟨h.1, h.2.1⟩) (fun p => by simp only [mDisk, mI, mB]; omega)
end Go.Proofs.Ytpndpdbabblphaa
