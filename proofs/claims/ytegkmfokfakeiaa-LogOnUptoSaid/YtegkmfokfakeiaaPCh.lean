/-
  Choices and bytes: plain.
-/
import Derived.Test.YtegkmfokfakeiaaPFrame
namespace Go.Proofs.Ytegkmfokfakeiaa
set_option linter.unusedVariables false
set_option linter.unusedSimpArgs false

/-- A choice that has bytes. -/
def okC (c : Choice) : Prop := 0 ≤ c.Node ∧ c.Node < 12 ∧ 0 ≤ c.Lane ∧ c.Lane < 16
instance (c : Choice) : Decidable (okC c) := by unfold okC; infer_instance
def bytesC (c : Choice) : List UInt8 := [UInt8.ofNat c.Node.toNat, UInt8.ofNat c.Lane.toNat]
def numsC (c : Choice) : List Int := [c.Node, c.Lane]
def choicesR (l : List Choice) : List UInt8 × Int := if 30 < l.length then ([], 2) else if ∀ c, c ∈ l → okC c then (l.flatMap bytesC, 0) else ([], 3)
theorem okC_t {c : Choice} (h : okC c) : (decide (c.Node < 0) = false) ∧ (decide (c.Node ≥ 12) = false) ∧ (decide (c.Lane < 0) = false) ∧ (decide (c.Lane ≥ 16) = false) ∧ (decide (c.Node > 11) = false) ∧ (decide (c.Lane > 15) = false) := by
  unfold okC at h
  refine ⟨?_, ?_, ?_, ?_, ?_, ?_⟩ <;> exact decide_eq_false (by omega)
theorem bad_eq (c : Choice) : ((decide (c.Node < 0)) || ((decide (c.Node ≥ 12)) || ((decide (c.Lane < 0)) || decide (c.Lane ≥ 16)))) = !decide (okC c) := by
  by_cases h : okC c
  · obtain ⟨a, b, d, e, _, _⟩ := okC_t h
    rw [a, b, d, e, decide_eq_true h]; rfl
  · rw [decide_eq_false h]
    unfold okC at h
    by_cases h1 : c.Node < 0
    · rw [decide_eq_true h1]; rfl
    by_cases h2 : c.Node ≥ 12
    · rw [decide_eq_true h2]; simp
    by_cases h3 : c.Lane < 0
    · rw [decide_eq_true h3]; simp
    rw [decide_eq_true (show c.Lane ≥ 16 by omega)]; simp
theorem bad_eq2 (c : Choice) : ((decide (c.Node < 0)) || ((decide (c.Node > 11)) || ((decide (c.Lane < 0)) || decide (c.Lane > 15)))) = !decide (okC c) := by
  rw [← bad_eq]
  rw [show decide (c.Node > 11) = decide (c.Node ≥ 12) from decide_eq_decide.2 (by omega), show decide (c.Lane > 15) = decide (c.Lane ≥ 16) from decide_eq_decide.2 (by omega)]
theorem u8_small {n : Int} (h0 : 0 ≤ n) (h1 : n < 256) : IntKind.u8.wrap n = n := by
  have : n = ((n.toNat : Nat) : Int) := by omega
  rw [this, u8_mod]; congr 1; omega
theorem str_ok (l : List Choice) (h : ∀ c, c ∈ l → okC c) : toStr (l.flatMap numsC) = l.flatMap bytesC := by
  induction l with
  | nil => rfl
  | cons c l ih =>
    have := ih (fun x hx => h x (by simp [hx]))
    simp only [List.flatMap_cons]
    rw [← this]
    simp [toStr, numsC, bytesC]
theorem frame_Choices_eq (l : List Choice) : frame_Choices l = some (choicesR l) := by
  unfold frame_Choices choicesR
  by_cases h1 : 30 < l.length
  · rw [if_pos (by simp; omega), if_pos h1]
  rw [if_neg (by simp; omega), if_neg h1]
  have := iter_list0 (σ := List Int) l (by omega) (fun k st => ((k : Int), st)) (body := fun ss : Int × List Int => frame_Choices_l1 l ss.1 ss.2)
    (fun k c st => if okC c then (app st (numsC c)).map .inl else some (.inr ([], 3))) (fun st => some (toStr st, 0)) []
    (fun k c st _ _ h1 h2 h3 => by
      show frame_Choices_l1 l (k : Int) st = _
      unfold frame_Choices_l1
      rw [h2, h1, h3]
      simp only [if_true, Option.bind_some, bad_eq]
      by_cases hc : okC c
      · have hn := hc; unfold okC at hn
        rw [if_neg (by simp [hc]), if_pos hc, u8_small (by omega) (by omega), u8_small (by omega) (by omega)]
        show (app st (numsC c)).bind _ = _
        cases app st (numsC c) <;> rfl
      · rw [if_pos (by simp [hc]), if_neg hc]; rfl)
    (fun st h => by
      show frame_Choices_l1 l (l.length : Int) st = _
      unfold frame_Choices_l1
      rw [h]; rfl)
  refine Eq.trans this ?_
  have fold : ∀ (ys : List Choice) (k : Nat) (st : List Int), st.length + 2 * ys.length ≤ 1099511627776 →
      foldE (σ := List Int) (fun k c st => if okC c then (app st (numsC c)).map .inl else some (.inr ([], 3))) (fun st => some (toStr st, 0)) k ys st = some (if ∀ c, c ∈ ys → okC c then (toStr (st ++ ys.flatMap numsC), (0 : Int)) else ([], 3)) := by
    intro ys
    induction ys with
    | nil => intro k st _; simp [foldE]
    | cons y ys ih =>
      intro k st hl
      simp only [List.length_cons] at hl
      unfold foldE
      by_cases hy : okC y
      · rw [if_pos hy, app_ok (by simp [numsC]; omega)]
        simp only [Option.map_some]
        rw [ih (k + 1) _ (by simp [numsC]; omega)]
        by_cases hall : ∀ c, c ∈ ys → okC c
        · rw [if_pos hall, if_pos (by intro c hc; rcases List.mem_cons.1 hc with rfl | hc; exact hy; exact hall c hc)]
          simp
        · rw [if_neg hall, if_neg (fun h => hall (fun c hc => h c (by simp [hc])))]
      · rw [if_neg hy, if_neg (fun h => hy (h y (by simp)))]
  rw [fold l 0 [] (by simp; omega)]
  by_cases hall : ∀ c, c ∈ l → okC c
  · rw [if_pos hall, if_pos hall, List.nil_append, str_ok l hall]
  · rw [if_neg hall, if_neg hall]

/-- Choices of bytes, two a choice. -/
def pairsOf : List UInt8 → Option (List Choice)
  | [] => some []
  | [_] => none
  | a :: b :: r => if a.toNat < 12 ∧ b.toNat < 16 then (pairsOf r).map fun l => ⟨a.toNat, b.toNat⟩ :: l else none
theorem pairs_len : ∀ (b : List UInt8) (l : List Choice), pairsOf b = some l → 2 * l.length = b.length
  | [], l, h => by unfold pairsOf at h; cases h; rfl
  | [_], l, h => by unfold pairsOf at h; cases h
  | a :: b :: r, l, h => by
    unfold pairsOf at h
    split at h
    · cases hr : pairsOf r with
      | none => rw [hr] at h; cases h
      | some q =>
        rw [hr] at h; cases h
        have := pairs_len r q hr
        simp; omega
    · cases h
theorem pairs_even : ∀ (b : List UInt8), b.length % 2 = 1 → pairsOf b = none
  | [], h => by simp at h
  | [_], _ => rfl
  | a :: b :: r, h => by
    unfold pairsOf
    rw [pairs_even r (by simp at h; omega)]
    split <;> rfl
def ofChoicesR (b : List UInt8) : List Choice × Int := if 60 < b.length then ([], 2) else match pairsOf b with | none => ([], 12) | some l => (l, 0)
theorem frame_OfChoices_eq (b : List UInt8) : frame_OfChoices b = some (ofChoicesR b) := by
  unfold frame_OfChoices ofChoicesR
  by_cases h1 : 60 < b.length
  · rw [if_pos (by simp; omega), if_pos h1]
  rw [if_neg (by simp; omega), if_neg h1]
  have hrem : rem (b.length : Int) 2 = some ((b.length % 2 : Nat) : Int) := by
    unfold rem; rw [if_neg (by decide)]; rfl
  rw [hrem]
  simp only [Option.bind_some]
  by_cases h2 : b.length % 2 = 1
  · rw [if_pos (by simp [h2]), pairs_even b h2]
  rw [if_neg (by simp; omega)]
  have key : ∀ (n k : Nat) (acc : List Choice), k + 2 * n = b.length → acc.length ≤ k →
      iter (fun ss : Int × List Choice => frame_OfChoices_l1 b ss.1 ss.2) ((k : Int), acc) = some (match pairsOf (b.drop k) with | none => ([], 12) | some l => (acc ++ l, 0)) := by
    intro n
    induction n with
    | zero =>
      intro k acc hk ha
      have e : frame_OfChoices_l1 b (k : Int) acc = some (.inr (acc, 0)) := by
        unfold frame_OfChoices_l1
        rw [if_neg (by simp; omega)]; rfl
      rw [iter_eq]; simp only [e]
      rw [List.drop_of_length_le (by omega)]; simp [pairsOf]
    | succ n ih =>
      intro k acc hk ha
      have hlt : k < b.length := by omega
      have hlt2 : k + 1 < b.length := by omega
      have hd : b.drop k = b[k] :: b[k + 1] :: b.drop (k + 2) := by rw [List.drop_eq_getElem_cons hlt, List.drop_eq_getElem_cons hlt2]
      have hx := idx_at (List.getElem?_eq_getElem hlt)
      have hy := idx_at (List.getElem?_eq_getElem hlt2)
      generalize b[k] = x at hd hx
      generalize b[k + 1] = y at hd hy
      have w1 := wrap_1 (k := k) (by omega)
      have w2 : IntKind.i64.wrap ((k : Int) + 2) = ((k + 2 : Nat) : Int) := by rw [wrap_ok (by omega) (by omega)]; rfl
      rw [hd]
      unfold pairsOf
      by_cases hc : x.toNat < 12 ∧ y.toNat < 16
      · have e : frame_OfChoices_l1 b (k : Int) acc = some (.inl (((k + 2 : Nat) : Int), acc ++ [⟨x.toNat, y.toNat⟩])) := by
          unfold frame_OfChoices_l1
          rw [if_pos (by simp; omega), hx, w1]
          simp only [Option.bind_some]
          rw [hy]
          simp only [Option.bind_some, wrap_b]
          rw [if_neg (by simp; omega), app_ok (by simp; omega)]
          simp only [Option.bind_some, w2]
        rw [iter_eq]; simp only [e]
        rw [ih (k + 2) _ (by omega) (by simp; omega), if_pos hc]
        cases pairsOf (b.drop (k + 2)) <;> simp
      · have e : frame_OfChoices_l1 b (k : Int) acc = some (.inr ([], 12)) := by
          unfold frame_OfChoices_l1
          rw [if_pos (by simp; omega), hx, w1]
          simp only [Option.bind_some]
          rw [hy]
          simp only [Option.bind_some, wrap_b]
          rw [if_pos (by simp; omega)]; rfl
        rw [iter_eq]; simp only [e]
        rw [if_neg hc]
  have := key (b.length / 2) 0 [] (by omega) (by simp)
  simp only [List.drop_zero, List.nil_append] at this
  exact this

/-- crossref.Pairs. -/
def pairsR : List UInt8 → List Choice → List Choice × Bool
  | [], acc => (acc, true)
  | [_], acc => (acc, false)
  | a :: b :: r, acc => if a.toNat < 12 ∧ b.toNat < 16 then pairsR r (acc ++ [({ Node := (a.toNat : Int), Lane := (b.toNat : Int) } : Choice)]) else ([], false)
theorem Pairs_eq : ∀ (n : Nat) (b : List UInt8) (acc : List Choice), b.length ≤ 2 * n + 1 → acc.length + b.length ≤ 1099511627776 → iter (fun ss : List UInt8 × List Choice => crossref_Pairs_l1 ss.1 ss.2) (b, acc) = some (pairsR b acc)
  | n, [], acc, _, _ => by
    have e : crossref_Pairs_l1 [] acc = some (.inr (acc, true)) := by
      unfold crossref_Pairs_l1
      rw [if_neg (by simp)]; rfl
    rw [iter_eq]; simp only [e]; rfl
  | n, [x], acc, _, _ => by
    have e : crossref_Pairs_l1 [x] acc = some (.inr (acc, false)) := by
      unfold crossref_Pairs_l1
      rw [if_neg (by simp)]; rfl
    rw [iter_eq]; simp only [e]; rfl
  | 0, a :: b :: r, acc, h, _ => by simp at h
  | n + 1, x :: y :: r, acc, h, h2 => by
    simp only [List.length_cons] at h h2
    have i0 : idx (x :: y :: r) 0 = some x := by simp [idx]
    have i1 : idx (x :: y :: r) 1 = some y := by simp [idx]
    have s2 : sub (x :: y :: r) 2 ((x :: y :: r).length : Int) = some r := by
      have := sub_end (xs := x :: y :: r) (i := 2) (by simp)
      simpa using this
    unfold pairsR
    by_cases hc : x.toNat < 12 ∧ y.toNat < 16
    · have e : crossref_Pairs_l1 (x :: y :: r) acc = some (.inl (r, acc ++ [⟨x.toNat, y.toNat⟩])) := by
        unfold crossref_Pairs_l1
        rw [if_pos (by simp; omega), i0, i1]
        simp only [Option.bind_some]
        rw [if_neg (by simp; omega)]
        simp only [Option.bind_some, wrap_b]
        rw [if_neg (by simp; omega), app_ok (by simp; omega), s2]
        simp
      rw [iter_eq]; simp only [e]
      rw [Pairs_eq n r _ (by omega) (by simp; omega), if_pos hc]
    · have e : crossref_Pairs_l1 (x :: y :: r) acc = some (.inr ([], false)) := by
        unfold crossref_Pairs_l1
        rw [if_pos (by simp; omega), i0, i1]
        simp only [Option.bind_some]
        by_cases h12 : x.toNat < 12
        · rw [if_neg (by simp; omega)]
          simp only [Option.bind_some]
          rw [if_pos (by simp; omega)]; rfl
        · rw [if_pos (by simp; omega)]
          simp
      rw [iter_eq]; simp only [e]
      rw [if_neg hc]
theorem pairsR_eq : ∀ (b : List UInt8) (acc : List Choice), pairsR b acc = match pairsOf b with | some l => (acc ++ l, true) | none => ((pairsR b acc).1, false)
  | [], acc => by simp [pairsR, pairsOf]
  | [x], acc => by simp [pairsR, pairsOf]
  | x :: y :: r, acc => by
    unfold pairsR pairsOf
    by_cases hc : x.toNat < 12 ∧ y.toNat < 16
    · rw [if_pos hc, if_pos hc, pairsR_eq r (acc ++ [({ Node := (x.toNat : Int), Lane := (y.toNat : Int) } : Choice)])]
      cases pairsOf r <;> simp
    · rw [if_neg hc, if_neg hc]

theorem ofBytes_back : ∀ (l : List Choice), (∀ c, c ∈ l → okC c) → pairsOf (l.flatMap bytesC) = some l
  | [], _ => rfl
  | c :: l, h => by
    have hc := h c (by simp)
    unfold okC at hc
    have ih := ofBytes_back l (fun x hx => h x (by simp [hx]))
    simp only [List.flatMap_cons, bytesC, List.cons_append, List.nil_append]
    unfold pairsOf
    have e1 : (UInt8.ofNat c.Node.toNat).toNat = c.Node.toNat := by simp; omega
    have e2 : (UInt8.ofNat c.Lane.toNat).toNat = c.Lane.toNat := by simp; omega
    rw [e1, e2, if_pos (by omega)]
    have : l.flatMap (fun c => [UInt8.ofNat c.Node.toNat, UInt8.ofNat c.Lane.toNat]) = l.flatMap bytesC := rfl
    rw [show (List.flatMap bytesC l) = l.flatMap bytesC from rfl, ih]
    simp only [Option.map_some, Option.some.injEq, List.cons.injEq, and_true]
    cases c; simp at hc ⊢; omega
theorem bytes_len (l : List Choice) : (l.flatMap bytesC).length = 2 * l.length := by
  induction l with
  | nil => rfl
  | cons c l ih => simp [List.flatMap_cons, bytesC, ih]; omega

end Go.Proofs.Ytegkmfokfakeiaa
