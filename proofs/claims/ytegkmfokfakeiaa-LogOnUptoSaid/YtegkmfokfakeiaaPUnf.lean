/-
  crossref.Framed, Unframe. Plain.
-/
import Derived.Test.YtegkmfokfakeiaaPSum2
namespace Go.Proofs.Ytegkmfokfakeiaa
set_option linter.unusedVariables false
set_option linter.unusedSimpArgs false

theorem quo256 (n : Nat) (h : n < 65536) : quo .i64 (n : Int) 256 = some ((n / 256 : Nat) : Int) := by
  unfold quo
  rw [if_neg (by decide)]
  have : (n : Int).tdiv 256 = ((n / 256 : Nat) : Int) := rfl
  rw [this, wrap_ok (by omega) (by omega)]
theorem rem256 (n : Nat) : rem (n : Int) 256 = some ((n % 256 : Nat) : Int) := by
  unfold rem
  rw [if_neg (by decide)]; rfl
theorem u8_ofNat_mod (n : Nat) : UInt8.ofNat (n % 256) = UInt8.ofNat n := by
  apply UInt8.toNat_inj.1
  simp
theorem Framed_eq (b : List UInt8) (h : b.length ≤ 1048576) : crossref_Framed b = some (frm b) := by
  unfold crossref_Framed
  rw [str_1, cat_ok (by simp; omega)]
  simp only [Option.bind_some, List.singleton_append]
  rw [SumOf_eq _ (by simp; omega)]
  simp only [Option.bind_some]
  have hc := crc_lt (UInt8.ofNat b.length :: b)
  rw [quo256 _ hc, rem256]
  simp only [Option.bind_some]
  rw [str_2, cat_ok (by simp; omega), u8_ofNat_mod]
  simp [frm]

theorem sum_iff (C : Nat) (hC : C < 65536) (x y : UInt8) : x.toNat * 256 + y.toNat = C ↔ (x = UInt8.ofNat (C / 256) ∧ y = UInt8.ofNat C) := by
  have hx := x.toNat_lt
  have hy := y.toNat_lt
  constructor
  · intro h
    constructor
    · apply UInt8.toNat_inj.1; simp; omega
    · apply UInt8.toNat_inj.1; simp; omega
  · rintro ⟨rfl, rfl⟩; simp; omega
theorem frm_take (h x y : UInt8) (t : List UInt8) (hh : 1 ≤ h.toNat) (hl : h.toNat + 3 ≤ t.length + 1) (hx : t[h.toNat]? = some x) (hy : t[h.toNat + 1]? = some y) :
    (frm (t.take h.toNat) = (h :: t).take (h.toNat + 3)) ↔ x.toNat * 256 + y.toNat = crc (h :: t.take h.toNat) := by
  have hC := crc_lt (h :: t.take h.toNat)
  rw [sum_iff _ hC]
  have hlen : (t.take h.toNat).length = h.toNat := by simp; omega
  have e1 : (h :: t).take (h.toNat + 3) = h :: (t.take h.toNat ++ [x, y]) := by
    rw [List.take_succ_cons]
    congr 1
    rw [show h.toNat + 2 = (h.toNat + 1) + 1 by omega, List.take_add_one, hy, List.take_add_one, hx]
    simp
  have e2 : frm (t.take h.toNat) = h :: (t.take h.toNat ++ [UInt8.ofNat (crc (h :: t.take h.toNat) / 256), UInt8.ofNat (crc (h :: t.take h.toNat))]) := by
    unfold frm
    rw [hlen]
    have : UInt8.ofNat h.toNat = h := by apply UInt8.toNat_inj.1; simp
    rw [this]; rfl
  rw [e1, e2]
  simp only [List.cons.injEq, true_and, List.append_cancel_left_eq, and_true]
  constructor
  · rintro ⟨a, b⟩; exact ⟨a.symm, b.symm⟩
  · rintro ⟨a, b⟩; exact ⟨a.symm, b.symm⟩

theorem Unframe_eq (b : List UInt8) (hb : b.length ≤ 1073741824) : crossref_Unframe b = some ((records b.length b).1, ((records b.length b).2 : Int)) := by
  unfold crossref_Unframe
  have key : ∀ (n u : Nat) (acc : List (List UInt8)), u ≤ b.length → acc.length ≤ u → b.length ≤ u + n →
      iter (fun ss_17 : Int × (List (List UInt8)) => crossref_Unframe_l1 b ss_17.1 ss_17.2) ((u : Int), acc) = some (acc ++ (records n (b.drop u)).1, ((u + (records n (b.drop u)).2 : Nat) : Int)) := by
    intro n
    induction n with
    | zero =>
      intro u acc hu ha hn
      have e : crossref_Unframe_l1 b (u : Int) acc = some (.inr (acc, (u : Int))) := by
        unfold crossref_Unframe_l1
        rw [sub_end hu]
        simp only [Option.bind_some]
        rw [if_pos (by simp; omega)]; rfl
      rw [iter_eq]; simp only [e]; simp [records]
    | succ n ih =>
      intro u acc hu ha hn
      have stop : recAt (b.drop u) = none → crossref_Unframe_l1 b (u : Int) acc = some (.inr (acc, (u : Int))) → iter (fun ss_17 : Int × (List (List UInt8)) => crossref_Unframe_l1 b ss_17.1 ss_17.2) ((u : Int), acc) = some (acc ++ (records (n + 1) (b.drop u)).1, ((u + (records (n + 1) (b.drop u)).2 : Nat) : Int)) := by
        intro h1 h2
        rw [iter_eq]; simp only [h2]; simp [records, h1]
      have hs := sub_end (xs := b) hu
      have hdl : (b.drop u).length = b.length - u := by simp
      generalize hr : b.drop u = r at hs stop hdl ⊢
      by_cases h4 : r.length < 4
      · refine stop ?_ ?_
        · cases r with
          | nil => rfl
          | cons c t =>
            simp only [recAt]
            rw [if_pos (by simp at h4; omega)]
        · unfold crossref_Unframe_l1
          rw [hs]
          simp only [Option.bind_some]
          rw [if_pos (by simp; omega)]; rfl
      cases r with
      | nil => simp at h4
      | cons c t =>
        have hlen : t.length + 1 + u = b.length := by simp at hdl; omega
        have hcl := c.toNat_lt
        have w1 : IntKind.i64.wrap ((c.toNat : Int) + 1) = ((c.toNat + 1 : Nat) : Int) := by rw [wrap_ok (by omega) (by omega)]; rfl
        have w3 : IntKind.i64.wrap ((c.toNat : Int) + 3) = ((c.toNat + 3 : Nat) : Int) := by rw [wrap_ok (by omega) (by omega)]; rfl
        have e2 : idx (c :: t) 0 = some c := by simp [idx]
        by_cases hbad : c.toNat < 1 ∨ 60 < c.toNat ∨ t.length + 1 < c.toNat + 3
        · refine stop (by simp only [recAt]; rw [if_pos hbad]) ?_
          unfold crossref_Unframe_l1
          rw [hs]
          simp only [Option.bind_some]
          rw [if_neg (by simp at h4 ⊢; omega), e2]
          simp only [Option.bind_some, wrap_b, w1, w3]
          by_cases b1 : c.toNat < 1
          · rw [if_pos (by simp; omega)]; rfl
          rw [if_neg (by simp; omega)]
          by_cases b2 : 60 < c.toNat
          · rw [if_pos (by simp; omega)]; rfl
          rw [if_neg (by simp; omega), if_pos (by simp; omega)]; rfl
        have e3 : sub (c :: t) 0 ((c.toNat + 3 : Nat) : Int) = some ((c :: t).take (c.toNat + 3)) := sub_0 (by simp; omega)
        have e4 : sub (c :: t) 1 ((c.toNat + 1 : Nat) : Int) = some (t.take c.toNat) := by
          have := sub_ok (xs := c :: t) (i := 1) (j := c.toNat + 1) (by omega) (by simp; omega)
          simpa using this
        have hp : (t.take c.toNat).length = c.toNat := by simp; omega
        have hF := Framed_eq (t.take c.toNat) (by omega)
        obtain ⟨x, hx⟩ : ∃ x, t[c.toNat]? = some x := ⟨_, List.getElem?_eq_getElem (by omega)⟩
        obtain ⟨y, hy⟩ : ∃ y, t[c.toNat + 1]? = some y := ⟨_, List.getElem?_eq_getElem (by omega)⟩
        have hft := frm_take c x y t (by omega) (by omega) hx hy
        have hx' : t.getD c.toNat 0 = x := by rw [List.getD_eq_getElem?_getD, hx]; rfl
        have hy' : t.getD (c.toNat + 1) 0 = y := by rw [List.getD_eq_getElem?_getD, hy]; rfl
        by_cases hsum : x.toNat * 256 + y.toNat = crc (c :: t.take c.toNat)
        · have hsome : recAt (c :: t) = some (t.take c.toNat) := by simp only [recAt, hx', hy']; rw [if_neg hbad, if_neg (by omega)]
          have e : crossref_Unframe_l1 b (u : Int) acc = some (.inl (((u + (c.toNat + 3) : Nat) : Int), acc ++ [t.take c.toNat])) := by
            unfold crossref_Unframe_l1
            rw [hs]
            simp only [Option.bind_some]
            rw [if_neg (by simp at h4 ⊢; omega), e2]
            simp only [Option.bind_some, wrap_b, w1, w3]
            rw [if_neg (by simp; omega), if_neg (by simp; omega), if_neg (by simp; omega), e4]
            simp only [Option.bind_some]
            rw [hF]
            simp only [Option.bind_some]
            rw [e3]
            simp only [Option.bind_some]
            rw [if_neg (by simp [hft.2 hsum]), app_ok (by simp; omega)]
            simp only [Option.bind_some]
            rw [show (u : Int) + ((c.toNat + 3 : Nat) : Int) = ((u + (c.toNat + 3) : Nat) : Int) by omega, wrap_n (by omega)]
          rw [iter_eq]; simp only [e]
          have hdrop : (c :: t).drop (c.toNat + 3) = b.drop (u + (c.toNat + 3)) := by rw [← hr, List.drop_drop]
          rw [ih (u + (c.toNat + 3)) (acc ++ [t.take c.toNat]) (by omega) (by simp; omega) (by omega)]
          have hstep : records (n + 1) (c :: t) = (t.take c.toNat :: (records n (b.drop (u + (c.toNat + 3)))).1, c.toNat + 3 + (records n (b.drop (u + (c.toNat + 3)))).2) := by
            simp only [records, hsome, hp, hdrop]
          rw [hstep]
          simp; omega
        · refine stop (by simp only [recAt, hx', hy']; rw [if_neg hbad, if_pos hsum]) ?_
          unfold crossref_Unframe_l1
          rw [hs]
          simp only [Option.bind_some]
          rw [if_neg (by simp at h4 ⊢; omega), e2]
          simp only [Option.bind_some, wrap_b, w1, w3]
          rw [if_neg (by simp; omega), if_neg (by simp; omega), if_neg (by simp; omega), e4]
          simp only [Option.bind_some]
          rw [hF]
          simp only [Option.bind_some]
          rw [e3]
          simp only [Option.bind_some]
          have hne : (frm (t.take c.toNat) == (c :: t).take (c.toNat + 3)) = false := by
            rw [beq_eq_false_iff_ne]; exact fun h => hsum (hft.1 h)
          rw [hne]; rfl
  have := key b.length 0 [] (by omega) (by simp) (by omega)
  simpa using this

theorem records_len : ∀ (n : Nat) (b : List UInt8), (records n b).1.length ≤ n
  | 0, b => by simp [records]
  | n + 1, b => by
    unfold records
    split
    · simp
    · simp [records_len n]
end Go.Proofs.Ytegkmfokfakeiaa
