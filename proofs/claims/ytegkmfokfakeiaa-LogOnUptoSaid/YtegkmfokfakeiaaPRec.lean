/-
  A record at the head of bytes. Plain.
-/
import Derived.Test.YtegkmfokfakeiaaPFrame
namespace Go.Proofs.Ytegkmfokfakeiaa
set_option linter.unusedVariables false
set_option linter.unusedSimpArgs false

def okP (p : List UInt8) : Prop := p ≠ [] ∧ p.length ≤ 60
theorem frm_len (p : List UInt8) : (frm p).length = p.length + 3 := by simp [frm]
theorem recAt_frm (p r : List UInt8) (h : okP p) : recAt (frm p ++ r) = some p := by
  obtain ⟨h1, h2⟩ := h
  have hl : 1 ≤ p.length := by cases p; exact absurd rfl h1; simp
  have hn : (UInt8.ofNat p.length).toNat = p.length := by simp; omega
  have hc := crc_lt (UInt8.ofNat p.length :: p)
  generalize hC : crc (UInt8.ofNat p.length :: p) = C at hc
  have e : frm p ++ r = UInt8.ofNat p.length :: (p ++ (UInt8.ofNat (C / 256) :: UInt8.ofNat C :: r)) := by simp [frm, hC]
  rw [e]
  simp only [recAt, hn]
  rw [if_neg (by rw [List.length_append]; simp only [List.length_cons]; omega)]
  have g1 : (p ++ (UInt8.ofNat (C / 256) :: UInt8.ofNat C :: r)).getD p.length 0 = UInt8.ofNat (C / 256) := by simp [List.getD_eq_getElem?_getD]
  have g2 : (p ++ (UInt8.ofNat (C / 256) :: UInt8.ofNat C :: r)).getD (p.length + 1) 0 = UInt8.ofNat C := by
    rw [List.getD_eq_getElem?_getD, List.getElem?_append_right (by omega)]; simp
  have g3 : (p ++ (UInt8.ofNat (C / 256) :: UInt8.ofNat C :: r)).take p.length = p := by simp
  rw [g1, g2, g3, hC]
  rw [if_neg (by simp; omega)]
end Go.Proofs.Ytegkmfokfakeiaa
