/-
  The law FrameTorn: plain.
-/
import Derived.Test.YtpndpdbabblphaaPFrame
namespace Go.Proofs.Ytpndpdbabblphaa
set_option linter.unusedVariables false
set_option linter.unusedSimpArgs false

def okP (p : List UInt8) : Prop := p ≠ [] ∧ p.length ≤ 60
theorem frm_len (p : List UInt8) : (frm p).length = p.length + 3 := by simp [frm]
theorem recAt_frm (p r : List UInt8) (h : okP p) : recAt (frm p ++ r) = some p := by
  obtain ⟨h1, h2⟩ := h
  have hl : 1 ≤ p.length := by cases p; exact absurd rfl h1; simp
  have hn : (UInt8.ofNat p.length).toNat = p.length := by simp; omega
  have hc := crc_lt (UInt8.ofNat p.length :: p)
  generalize hC : crc (UInt8.ofNat p.length :: p) = C at hc
  have e : frm p ++ r = UInt8.ofNat p.length :: (p ++ (UInt8.ofNat (C / 256) :: UInt8.ofNat C :: r)) := by simp [frm, hC]
  rw [e]
  simp only [recAt, hn]
  rw [if_neg (by rw [List.length_append]; simp only [List.length_cons]; omega)]
  have g1 : (p ++ (UInt8.ofNat (C / 256) :: UInt8.ofNat C :: r)).getD p.length 0 = UInt8.ofNat (C / 256) := by simp [List.getD_eq_getElem?_getD]
  have g2 : (p ++ (UInt8.ofNat (C / 256) :: UInt8.ofNat C :: r)).getD (p.length + 1) 0 = UInt8.ofNat C := by
    rw [List.getD_eq_getElem?_getD, List.getElem?_append_right (by omega)]; simp
  have g3 : (p ++ (UInt8.ofNat (C / 256) :: UInt8.ofNat C :: r)).take p.length = p := by simp
  rw [g1, g2, g3, hC]
  rw [if_neg (by simp; omega)]
theorem recAt_cut (p : List UInt8) (n : Nat) (h : okP p) (hn : n < p.length + 3) : recAt ((frm p).take n) = none := by
  obtain ⟨h1, h2⟩ := h
  cases n with
  | zero => simp [recAt]
  | succ n =>
    have e : (frm p).take (n + 1) = UInt8.ofNat p.length :: ((p ++ [UInt8.ofNat (crc (UInt8.ofNat p.length :: p) / 256), UInt8.ofNat (crc (UInt8.ofNat p.length :: p))]).take n) := by simp [frm]
    have hp : (UInt8.ofNat p.length).toNat = p.length := by simp; omega
    rw [e]
    simp only [recAt, hp]
    rw [if_pos (by simp; omega)]
def flatT (ps : List (List UInt8)) : List UInt8 := ps.flatMap frm
def offT (ps : List (List UInt8)) (k : Nat) : Nat := (flatT (ps.take k)).length
def cntR : List (List UInt8) → Nat → Nat
  | [], _ => 0
  | p :: ps, a => if p.length + 3 ≤ a then 1 + cntR ps (a - (p.length + 3)) else 0
theorem off_0 (ps : List (List UInt8)) : offT ps 0 = 0 := by simp [offT, flatT]
theorem off_s (p : List UInt8) (ps : List (List UInt8)) (k : Nat) : offT (p :: ps) (k + 1) = p.length + 3 + offT ps k := by simp [offT, flatT, frm_len]
theorem off_all (ps : List (List UInt8)) : offT ps ps.length = (flatT ps).length := by simp [offT]
theorem cnt_le : ∀ (ps : List (List UInt8)) (a : Nat), cntR ps a ≤ ps.length
  | [], a => by simp [cntR]
  | p :: ps, a => by
    unfold cntR
    have := cnt_le ps (a - (p.length + 3))
    split <;> simp <;> omega
theorem off_le : ∀ (ps : List (List UInt8)) (a k : Nat), k ≤ cntR ps a → offT ps k ≤ a
  | ps, a, 0, h => by rw [off_0]; omega
  | [], a, k + 1, h => by simp [cntR] at h
  | p :: ps, a, k + 1, h => by
    unfold cntR at h
    split at h
    · have := off_le ps (a - (p.length + 3)) k (by omega)
      rw [off_s]; omega
    · omega
theorem off_gt : ∀ (ps : List (List UInt8)) (a : Nat), cntR ps a < ps.length → a < offT ps (cntR ps a + 1)
  | [], a, h => by simp at h
  | p :: ps, a, h => by
    unfold cntR at h ⊢
    split
    · rename_i hc
      rw [if_pos hc] at h
      have := off_gt ps (a - (p.length + 3)) (by simp at h; omega)
      rw [off_s, Nat.add_comm 1]; omega
    · rw [off_s]; omega
theorem off_lt : ∀ (ps : List (List UInt8)) (k : Nat), k < ps.length → offT ps k + 3 ≤ offT ps (k + 1)
  | [], k, h => by simp at h
  | p :: ps, 0, h => by rw [off_s, off_0, off_0]; omega
  | p :: ps, k + 1, h => by
    have := off_lt ps k (by simpa using h)
    rw [off_s, off_s]; omega
theorem flat_len (ps : List (List UInt8)) : ps.length ≤ (flatT ps).length := by
  induction ps with
  | nil => simp
  | cons p ps ih =>
    have : flatT (p :: ps) = frm p ++ flatT ps := rfl
    rw [this, List.length_append, frm_len, List.length_cons]; omega
theorem records_cut : ∀ (ps : List (List UInt8)) (a n : Nat), (∀ p, p ∈ ps → okP p) → a ≤ n → records n ((flatT ps).take a) = (ps.take (cntR ps a), offT ps (cntR ps a))
  | [], a, n, _, _ => by cases n <;> simp [flatT, records, recAt, cntR, offT]
  | p :: ps, a, n, h, hn => by
    have hf : flatT (p :: ps) = frm p ++ flatT ps := rfl
    have hp := h p (by simp)
    unfold cntR
    split
    · rename_i hc
      obtain ⟨m, rfl⟩ : ∃ m, n = m + 1 := ⟨n - 1, by omega⟩
      have ih := records_cut ps (a - (p.length + 3)) m (fun q hq => h q (by simp [hq])) (by omega)
      have e : (flatT (p :: ps)).take a = frm p ++ (flatT ps).take (a - (p.length + 3)) := by
        rw [hf, List.take_append, List.take_of_length_le (by rw [frm_len]; omega), frm_len]
      have ed : (frm p ++ (flatT ps).take (a - (p.length + 3))).drop (p.length + 3) = (flatT ps).take (a - (p.length + 3)) := by
        rw [← frm_len]; simp
      rw [e]
      simp only [records, recAt_frm _ _ hp, ed, ih]
      rw [Nat.add_comm 1, off_s]; simp
    · rename_i hc
      have e : (flatT (p :: ps)).take a = (frm p).take a := by
        rw [hf, List.take_append_of_le_length (by rw [frm_len]; omega)]
      rw [e, off_0]
      cases n with
      | zero => simp [records]
      | succ n => simp [records, recAt_cut p a hp (by omega)]

structure TInv (all : List UInt8) (ends : List Int) (put : List (List UInt8)) : Prop where
  eqn : all = flatT put
  ok : ∀ p, p ∈ put → okP p
  small : all.length ≤ 2000
  len : ends.length = put.length + 1
  at_ : ∀ k, k ≤ put.length → ends[k]? = some ((offT put k : Nat) : Int)

theorem torn_in (all : List UInt8) (ends : List Int) (put : List (List UInt8)) (a : Nat) (I : TInv all ends put) (ha : a ≤ all.length) :
    iter (fun ss : Int => crosslaw_FrameTorn_l1 all ends put (a : Int) ss) 0 = some true := by
  have hc := cnt_le put a
  have hpl : put.length ≤ 2000 := by have := flat_len put; have := I.small; rw [I.eqn] at this; omega
  have key : ∀ (n k : Nat), k + n = cntR put a → iter (fun ss : Int => crosslaw_FrameTorn_l1 all ends put (a : Int) ss) (k : Int) = some true := by
    intro n
    induction n with
    | zero =>
      intro k hk
      have hk : k = cntR put a := by omega
      have e : crosslaw_FrameTorn_l1 all ends put (a : Int) (k : Int) = some (.inr true) := by
        unfold crosslaw_FrameTorn_l1
        have i0 : ixN ends (k : Int) = some k := ixN_at (by rw [I.len]; omega)
        have g0 := I.at_ k (by omega)
        have w := wrap_1 (k := k) (by omega)
        rw [i0]; simp only [Option.bind_some]; rw [g0]; simp only [Option.bind_some, w]
        have hr : readR (all.take a) = (put.take k, ((offT put k : Nat) : Int), 0) := by
          have hs := I.small
          unfold readR
          rw [if_neg (by simp; omega)]
          have hlen : (all.take a).length = a := by simp; omega
          rw [hlen, I.eqn, records_cut put a a I.ok (by omega), hk]
        have hq : slices_Equal_string (put.take k) (put.take k) = some true := by
          rw [slices_Equal_string_eq _ _ (by simp; omega)]; simp
        have hsp : sub put 0 (k : Int) = some (put.take k) := sub_0 (by omega)
        rw [sub_0 ha]
        simp only [Option.bind_some, frame_Read_eq, framed_true, if_true, hr, beq_self_eq_true, hsp, hq, Option.map_some]
        by_cases hlast : k < put.length
        · have hgt := off_gt put a (by omega)
          rw [← hk] at hgt
          have i1 : ixN ends ((k + 1 : Nat) : Int) = some (k + 1) := ixN_at (by rw [I.len]; omega)
          have g1 := I.at_ (k + 1) (by omega)
          simp only [i1, Option.bind_some, g1]
          have d1 : decide (((offT put (k + 1) : Nat) : Int) ≤ (a : Int)) = false := decide_eq_false (by omega)
          rw [d1]
          simp
        · have d1 : decide (((k + 1 : Nat) : Int) < (ends.length : Int)) = false := decide_eq_false (by rw [I.len]; omega)
          rw [d1]
          simp
      rw [iter_eq]; simp only [e]
    | succ n ih =>
      intro k hk
      have e : crosslaw_FrameTorn_l1 all ends put (a : Int) (k : Int) = some (.inl ((k + 1 : Nat) : Int)) := by
        unfold crosslaw_FrameTorn_l1
        have i0 : ixN ends (k : Int) = some k := ixN_at (by rw [I.len]; omega)
        have i1 : ixN ends ((k + 1 : Nat) : Int) = some (k + 1) := ixN_at (by rw [I.len]; omega)
        have g0 := I.at_ k (by omega)
        have g1 := I.at_ (k + 1) (by omega)
        have w := wrap_1 (k := k) (by omega)
        have hle := off_le put a (k + 1) (by omega)
        have hlt := off_lt put k (by omega)
        rw [i0]; simp only [Option.bind_some]; rw [g0]; simp only [Option.bind_some, w]
        rw [if_pos (by simp; omega), if_pos (by rw [I.len]; simp; omega), i1]
        simp only [Option.bind_some]; rw [g1]; simp only [Option.bind_some]
        rw [if_pos (by simp; omega)]
      rw [iter_eq]; simp only [e]
      exact ih (k + 1) (by omega)
  exact key (cntR put a) 0 (by omega)

theorem FrameTorn_true (l : List (List UInt8)) (at_ : Int) (gl : gL gS l) (ga : gI at_) (hb : mL mS l + (mI at_ + 0) ≤ 1048576) : crosslaw_FrameTorn l at_ = some true := by
  have hl : l.length ≤ 1048576 := by have := len_le (m := mS) (fun a => by simp [mS]) l; omega
  unfold crosslaw_FrameTorn
  obtain ⟨r, h1, h2⟩ := iter_inv (body := fun ss_7 : (List UInt8) × Int × (List Int) × (List (List UInt8)) => crosslaw_FrameTorn_l2 l at_ ss_7.1 ss_7.2.1 ss_7.2.2.1 ss_7.2.2.2)
    (fun s => ∃ k : Nat, k ≤ l.length ∧ s.2.1 = (k : Int) ∧ TInv s.1 s.2.2.1 s.2.2.2) (fun s => l.length - s.2.1.toNat) (fun r => r = true)
    (fun s hs => by
      obtain ⟨all, i, ends, put⟩ := s
      obtain ⟨k, hk, hi, I⟩ := hs
      replace hi : i = (k : Int) := hi
      replace I : TInv all ends put := I
      subst hi
      have hsm := I.small
      have hpl : put.length ≤ 2000 := by have := flat_len put; rw [I.eqn] at hsm; omega
      have w := wrap_1 (k := k) (by omega)
      show (∃ s', crosslaw_FrameTorn_l2 l at_ all (k : Int) ends put = _ ∧ _) ∨ ∃ r, crosslaw_FrameTorn_l2 l at_ all (k : Int) ends put = _ ∧ _
      by_cases hlt : k < l.length
      · refine .inl ?_
        obtain ⟨x, hx⟩ : ∃ x, l[k]? = some x := ⟨_, List.getElem?_eq_getElem hlt⟩
        unfold crosslaw_FrameTorn_l2
        rw [if_pos (by simp; omega), idx_at hx]
        simp only [Option.bind_some, frame_Put_eq, w]
        by_cases hbad : ((putR x).2 != 0 || decide ((IntKind.i64.wrap (((all).length : Int) + (((putR x).1).length : Int))) > 2000)) = true
        · rw [if_pos hbad]
          exact ⟨_, rfl, ⟨k + 1, by omega, rfl, I⟩, by simp; omega⟩
        · rw [if_neg hbad]
          simp only [Bool.or_eq_true, not_or] at hbad
          obtain ⟨b1, b2⟩ := hbad
          have hp : okP x ∧ putR x = (frm x, 0) := by
            unfold putR at b1 ⊢
            by_cases h1 : x = []
            · simp [h1] at b1
            by_cases h2 : 60 < x.length
            · simp [h1, h2] at b1
            exact ⟨⟨h1, by omega⟩, by simp [h1, h2]⟩
          obtain ⟨hok, hput⟩ := hp
          rw [hput] at b2 ⊢
          simp only at b2 ⊢
          have hfl := frm_len x
          have h60 := hok.2
          rw [wrap_ok (by omega) (by omega)] at b2
          have b3 : all.length + (frm x).length ≤ 2000 := by simp at b2; omega
          rw [cat_ok (by omega)]; simp only [Option.bind_some]
          rw [app_ok (by simp; omega)]; simp only [Option.bind_some]
          rw [app_ok (by rw [I.len]; simp; omega)]; simp only [Option.bind_some]
          refine ⟨_, rfl, ⟨k + 1, by omega, rfl, ?_⟩, by simp; omega⟩
          have hfa : flatT (put ++ [x]) = flatT put ++ frm x := by simp [flatT]
          refine ⟨?_, ?_, ?_, ?_, ?_⟩
          · show all ++ frm x = flatT (put ++ [x])
            rw [hfa, I.eqn]
          · intro p hp
            rcases List.mem_append.1 hp with hp | hp
            · exact I.ok p hp
            · simp at hp; rw [hp]; exact hok
          · show (all ++ frm x).length ≤ 2000
            rw [List.length_append]; exact b3
          · show (ends ++ [_]).length = (put ++ [x]).length + 1
            rw [List.length_append, List.length_append, I.len]; simp
          · intro j hj
            replace hj : j ≤ put.length + 1 := by simpa using hj
            show (ends ++ [(((all ++ frm x).length : Nat) : Int)])[j]? = _
            by_cases hjl : j ≤ put.length
            · rw [List.getElem?_append_left (by rw [I.len]; omega), I.at_ j hjl]
              have : offT (put ++ [x]) j = offT put j := by unfold offT; rw [List.take_append_of_le_length hjl]
              show _ = some ((offT (put ++ [x]) j : Nat) : Int)
              rw [this]
            · have hje : j = put.length + 1 := by omega
              subst hje
              have : offT (put ++ [x]) (put.length + 1) = (all ++ frm x).length := by
                have := off_all (put ++ [x])
                simp only [List.length_append, List.length_cons, List.length_nil, Nat.zero_add] at this
                rw [this, hfa, I.eqn, List.length_append]
              show _ = some ((offT (put ++ [x]) (put.length + 1) : Nat) : Int)
              rw [this, ← I.len]; simp
      · refine .inr ?_
        unfold crosslaw_FrameTorn_l2
        rw [if_neg (by simp; omega), wrap_1 (by omega), At_eq _ _ (by omega) (by omega)]
        simp only [Option.bind_some]
        have e1 := Int.emod_nonneg at_ (by omega : ((all.length + 1 : Nat) : Int) ≠ 0)
        have e2 := Int.emod_lt_of_pos at_ (by omega : (0 : Int) < ((all.length + 1 : Nat) : Int))
        obtain ⟨a, ha⟩ : ∃ a : Nat, at_ % ((all.length + 1 : Nat) : Int) = (a : Int) := ⟨_, (Int.toNat_of_nonneg e1).symm⟩
        rw [ha, torn_in all ends put a I (by omega)]
        exact ⟨true, rfl, rfl⟩)
    l.length ([], 0, [0], []) (by simp) ⟨0, by omega, rfl, by
      refine ⟨rfl, by simp, by simp, rfl, ?_⟩
      intro k hk
      have : k = 0 := by simpa using hk
      subst this
      rw [off_0]; rfl⟩
  rw [h1, h2]
end Go.Proofs.Ytpndpdbabblphaa
