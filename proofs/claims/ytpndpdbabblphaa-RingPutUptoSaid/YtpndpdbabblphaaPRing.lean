/-
  What the functions of ring compute, and their laws: plain.
-/
import Derived.Test.YtpndpdbabblphaaPGate
namespace Go.Proofs.Ytpndpdbabblphaa
set_option linter.unusedVariables false
set_option linter.unusedSimpArgs false

theorem clone_Item_eq (l : List Item) (h : l.length ≤ 1099511627776) : slices_Clone_Item l = some l := by
  unfold slices_Clone_Item
  rw [app_ok (by simpa using h)]; rfl
def putL (l : List Item) (room : Int) (x : Item) : List Item × Int :=
  if room < 1 ∨ 6 < room then ([], 3) else if room < l.length then ([], 2) else if (l.length : Int) = room then ([], 8) else (l ++ [x], 0)
theorem ring_Put_eq (l : List Item) (room : Int) (x : Item) : ring_Put l room x = some (putL l room x) := by
  unfold ring_Put putL
  by_cases h1 : room < 1 ∨ 6 < room
  · rw [if_pos (by simp; omega), if_pos h1]
  rw [if_neg (by simp; omega), if_neg h1]
  by_cases h2 : room < l.length
  · rw [if_pos (by simp; omega), if_pos h2]
  rw [if_neg (by simp; omega), if_neg h2]
  by_cases h3 : (l.length : Int) = room
  · rw [if_pos (by simp [h3]), if_pos h3]
  rw [if_neg (by simpa using h3), if_neg h3, clone_Item_eq l (by omega)]
  simp only [Option.bind_some]
  rw [app_ok (by simp; omega)]; rfl
def takeL (l : List Item) : Item × List Item × Int :=
  if 6 < l.length then (⟨0, 0, 0⟩, [], 2) else match l with
    | [] => (⟨0, 0, 0⟩, [], 9)
    | x :: r => (x, r, 0)
theorem ring_Take_eq (l : List Item) : ring_Take l = some (takeL l) := by
  unfold ring_Take takeL
  by_cases h1 : 6 < l.length
  · rw [if_pos (by simp; omega), if_pos h1]
  rw [if_neg (by simp; omega), if_neg h1]
  cases l with
  | nil => simp
  | cons x r =>
    rw [if_neg (by simp; omega)]
    have e1 : idx (x :: r) 0 = some x := by simp [idx]
    have e2 : sub (x :: r) 1 ((x :: r).length : Int) = some r := by
      have := sub_end (xs := x :: r) (i := 1) (by simp)
      simpa using this
    rw [e1, e2]
    simp only [Option.bind_some]
    rw [clone_Item_eq r (by simp at h1; omega)]; rfl

/-- A script: how many went in and came out, or what went wrong. -/
def passS (n : Nat) (room : Int) : List Int → Nat → Nat → Int ⊕ (Nat × Nat)
  | [], p, t => .inr (p, t)
  | d :: ds, p, t =>
    if d = 1 then (if p = n then .inl 9 else if (p : Int) - t = room then .inl 8 else passS n room ds (p + 1) t)
    else if d = 0 then (if p = t then .inl 9 else passS n room ds p (t + 1))
    else .inl 3
theorem passS_le (n : Nat) (room : Int) (hr : 0 ≤ room) : ∀ (ds : List Int) (p t : Nat) (q : Nat × Nat), t ≤ p → p ≤ n → (p : Int) - t ≤ room → passS n room ds p t = .inr q → q.2 ≤ q.1 ∧ q.1 ≤ n ∧ (q.1 : Int) - q.2 ≤ room
  | [], p, t, q, h1, h2, h3, h => by unfold passS at h; cases h; exact ⟨h1, h2, h3⟩
  | d :: ds, p, t, q, h1, h2, h3, h => by
    unfold passS at h
    split at h
    · split at h
      · cases h
      · split at h
        · cases h
        · exact passS_le n room hr ds (p + 1) t q (by omega) (by omega) (by omega) h
    · split at h
      · split at h
        · cases h
        · exact passS_le n room hr ds p (t + 1) q (by omega) h2 (by omega) h
      · cases h
theorem passS_ne (n : Nat) (room : Int) : ∀ (ds : List Int) (p t : Nat) (e : Int), passS n room ds p t = .inl e → e = 3 ∨ e = 8 ∨ e = 9
  | [], p, t, e, h => by unfold passS at h; cases h
  | d :: ds, p, t, e, h => by
    unfold passS at h
    split at h
    · split at h
      · cases h; simp
      · split at h
        · cases h; simp
        · exact passS_ne n room ds (p + 1) t e h
    · split at h
      · split at h
        · cases h; simp
        · exact passS_ne n room ds p (t + 1) e h
      · cases h; simp

/-- What is in the ring. -/
def midL (l : List Item) (p t : Nat) : List Item := (l.take p).drop t
theorem mid_len (l : List Item) (p t : Nat) (h : p ≤ l.length) : (midL l p t).length = p - t := by simp [midL]; omega
theorem mid_put (l : List Item) (p t : Nat) (x : Item) (h1 : t ≤ p) (h : l[p]? = some x) : midL l p t ++ [x] = midL l (p + 1) t := by
  unfold midL
  have hlt := (List.getElem?_eq_some_iff.1 h).1
  rw [List.take_add_one, h, List.drop_append_of_le_length (by simp; omega)]; rfl
theorem mid_take (l : List Item) (p t : Nat) (h1 : t < p) (h2 : p ≤ l.length) : ∃ x, l[t]? = some x ∧ midL l p t = x :: midL l p (t + 1) := by
  have hlt : t < l.length := by omega
  refine ⟨l[t], List.getElem?_eq_getElem hlt, ?_⟩
  unfold midL
  rw [List.drop_eq_getElem_cons (by simp; omega)]
  simp
def passR (l : List Item) (room : Int) (sc : List Int) : List Item × List Item × Int :=
  if room < 1 ∨ 6 < room then ([], [], 3) else if 20 < l.length ∨ 2000 < sc.length then ([], [], 2)
  else match passS l.length room sc 0 0 with
    | .inl e => ([], [], e)
    | .inr q => (l.take q.2, midL l q.1 q.2, 0)
theorem ring_Pass_eq (l : List Item) (room : Int) (sc : List Int) : ring_Pass l room sc = some (passR l room sc) := by
  unfold ring_Pass passR
  by_cases h1 : room < 1 ∨ 6 < room
  · rw [if_pos (by simp; omega), if_pos h1]
  rw [if_neg (by simp; omega), if_neg h1]
  by_cases h2 : 20 < l.length ∨ 2000 < sc.length
  · rw [if_pos (by simp; omega), if_pos h2]
  rw [if_neg (by simp; omega), if_neg h2]
  have key : ∀ (n k p t : Nat), k + n = sc.length → t ≤ p → p ≤ l.length → (p : Int) - t ≤ room →
      iter (fun ss : Int × List Item × List Item × Int => ring_Pass_l1 l room sc ss.1 ss.2.1 ss.2.2.1 ss.2.2.2) ((k : Int), l.take t, midL l p t, (p : Int)) =
        some (match passS l.length room (sc.drop k) p t with | .inl e => ([], [], e) | .inr q => (l.take q.2, midL l q.1 q.2, 0)) := by
    intro n
    induction n with
    | zero =>
      intro k p t hk h3 h4 h5
      have e : ring_Pass_l1 l room sc (k : Int) (l.take t) (midL l p t) (p : Int) = some (.inr (l.take t, midL l p t, 0)) := by
        unfold ring_Pass_l1
        rw [if_neg (by simp; omega)]; rfl
      rw [iter_eq]; simp only [e]
      rw [List.drop_of_length_le (by omega)]; rfl
    | succ n ih =>
      intro k p t hk h3 h4 h5
      have hlt : k < sc.length := by omega
      have hd : sc.drop k = sc[k] :: sc.drop (k + 1) := List.drop_eq_getElem_cons hlt
      have hx := idx_at (List.getElem?_eq_getElem hlt)
      generalize sc[k] = d at hd hx
      rw [hd]
      have hm := mid_len l p t h4
      unfold passS
      by_cases hd1 : d = 1
      · rw [if_pos hd1]
        subst hd1
        by_cases hp : p = l.length
        · rw [if_pos hp]
          have e : ring_Pass_l1 l room sc (k : Int) (l.take t) (midL l p t) (p : Int) = some (.inr ([], [], 9)) := by
            unfold ring_Pass_l1
            rw [if_pos (by simp; omega), hx]
            simp only [Option.bind_some]
            rw [if_neg (by decide), if_neg (by decide)]
            unfold ring_Pass_2_x50ef
            simp [isAt, hp]
          rw [iter_eq]; simp only [e]
        rw [if_neg hp]
        have hpl : p < l.length := by omega
        have hix := idx_at (List.getElem?_eq_getElem hpl)
        by_cases hr : (p : Int) - t = room
        · rw [if_pos hr]
          have hput : putL (midL l p t) room l[p] = ([], 8) := by
            unfold putL
            rw [if_neg h1, if_neg (by omega), if_pos (by omega)]
          have e : ring_Pass_l1 l room sc (k : Int) (l.take t) (midL l p t) (p : Int) = some (.inr ([], [], 8)) := by
            unfold ring_Pass_l1
            rw [if_pos (by simp; omega), hx]
            simp only [Option.bind_some]
            rw [if_neg (by decide), if_neg (by decide)]
            unfold ring_Pass_2_x50ef
            rw [hix, if_neg (by simp; omega)]
            simp only [Option.bind_some, ring_Put_eq, hput]
            simp [isAt]
          rw [iter_eq]; simp only [e]
        rw [if_neg hr]
        have hput : putL (midL l p t) room l[p] = (midL l p t ++ [l[p]], 0) := by
          unfold putL
          rw [if_neg h1, if_neg (by omega), if_neg (by omega)]
        have e : ring_Pass_l1 l room sc (k : Int) (l.take t) (midL l p t) (p : Int) = some (.inl (((k + 1 : Nat) : Int), l.take t, midL l (p + 1) t, ((p + 1 : Nat) : Int))) := by
          unfold ring_Pass_l1
          rw [if_pos (by simp; omega), hx]
          simp only [Option.bind_some]
          rw [if_neg (by decide), if_neg (by decide)]
          unfold ring_Pass_2_x50ef
          rw [hix, if_neg (by simp; omega)]
          simp only [Option.bind_some, ring_Put_eq, hput, mid_put l p t _ h3 (List.getElem?_eq_getElem hpl), wrap_1 (k := k) (by omega), wrap_1 (k := p) (by omega)]
          simp [isAt]
        rw [iter_eq]; simp only [e]
        exact ih (k + 1) (p + 1) t (by omega) (by omega) (by omega) (by omega)
      rw [if_neg hd1]
      by_cases hd0 : d = 0
      · rw [if_pos hd0]
        subst hd0
        by_cases hp : p = t
        · rw [if_pos hp]
          have hnil : midL l p t = [] := List.eq_nil_of_length_eq_zero (by omega)
          have e : ring_Pass_l1 l room sc (k : Int) (l.take t) (midL l p t) (p : Int) = some (.inr ([], [], 9)) := by
            unfold ring_Pass_l1
            rw [if_pos (by simp; omega), hx]
            simp only [Option.bind_some]
            rw [if_neg (by decide), if_pos (by decide)]
            unfold ring_Pass_1_xbb06
            simp only [ring_Take_eq, Option.bind_some, hnil, takeL]
            simp
          rw [iter_eq]; simp only [e]
        rw [if_neg hp]
        obtain ⟨x, hx2, hmt⟩ := mid_take l p t (by omega) h4
        have htk : takeL (midL l p t) = (x, midL l p (t + 1), 0) := by
          unfold takeL
          rw [if_neg (by omega), hmt]
        have e : ring_Pass_l1 l room sc (k : Int) (l.take t) (midL l p t) (p : Int) = some (.inl (((k + 1 : Nat) : Int), l.take (t + 1), midL l p (t + 1), (p : Int))) := by
          unfold ring_Pass_l1
          rw [if_pos (by simp; omega), hx]
          simp only [Option.bind_some]
          rw [if_neg (by decide), if_pos (by decide)]
          unfold ring_Pass_1_xbb06
          simp only [ring_Take_eq, Option.bind_some, htk]
          rw [app_ok (by simp; omega)]
          simp [wrap_1 (k := k) (by omega), List.take_add_one, hx2]
        rw [iter_eq]; simp only [e]
        exact ih (k + 1) p (t + 1) (by omega) (by omega) h4 (by omega)
      · rw [if_neg hd0]
        have e : ring_Pass_l1 l room sc (k : Int) (l.take t) (midL l p t) (p : Int) = some (.inr ([], [], 3)) := by
          unfold ring_Pass_l1
          rw [if_pos (by simp; omega), hx]
          simp only [Option.bind_some]
          rw [if_pos (by simp; omega)]; rfl
        rw [iter_eq]; simp only [e]
  have := key sc.length 0 0 0 (by omega) (by omega) (by omega) (by omega)
  simpa [midL] using this
theorem ringed_true : crosslaw_ringed = some true := by
  unfold crosslaw_ringed crosslaw_item
  simp only [Option.bind_some, ring_Pass_eq]
  have : passR [⟨1, 2, 0⟩, ⟨3, 4, 0⟩] 2 [1, 1, 0] = ([⟨1, 2, 0⟩], [⟨3, 4, 0⟩], 0) := by decide
  rw [this]
  simp only
  rw [slices_Equal_Item_eq _ _ (by simp)]
  simp only [Option.bind_some, decide_true, if_true, beq_self_eq_true]
  rw [slices_Equal_Item_eq _ _ (by simp)]
  simp

theorem RingPut_true (l : List Item) (room : Int) (x : Item) (gl : gL gItem l) (gr : gI room) (gx : gItem x) (hb : mL mItem l + (mI room + (mItem x + 0)) ≤ 1048576) : crosslaw_RingPut l room x = some true := by
  have hl : l.length ≤ 1048576 := by have := len_le (m := mItem) (fun a => by simp [mItem]) l; omega
  unfold crosslaw_RingPut
  rw [clone_Item_eq l (by omega)]
  simp only [Option.bind_some, ring_Put_eq, ring_Take_eq, ringed_true, Bool.not_true, Bool.false_eq_true, if_false]
  rw [slices_Equal_Item_eq _ _ (by omega)]
  simp only [Option.bind_some, decide_true, Bool.not_true, Bool.false_eq_true, if_false]
  -- the second half: what is taken
  have tk : ∀ z : Int, (putL l room x).2 = z → (z ≠ 0 → (putL l room x).1 = []) → (z = 0 → (putL l room x).1 = l ++ [x]) → crosslaw_RingPut_k1 l x l (putL l room x) (takeL l) z = some true := by
    intro z hz h1 h2
    unfold crosslaw_RingPut_k1
    have first : (if ((putL l room x).2 != z) = true then (some true) else (if (z != 0) = true then (if ((((putL l room x).1).length : Int) != 0) = true then (some true) else (if (z == 0) = true then (Option.bind (app l [x]) fun x11 => (Option.bind (slices_Equal_Item (putL l room x).1 x11) fun x12 => (some (!x12)))) else (some false))) else (if (z == 0) = true then (Option.bind (app l [x]) fun x13 => (Option.bind (slices_Equal_Item (putL l room x).1 x13) fun x14 => (some (!x14)))) else (some false)))) = some false := by
      rw [hz, if_neg (by simp)]
      by_cases h0 : z = 0
      · rw [if_neg (by simp [h0]), if_pos (by simp [h0]), app_ok (by simp; omega), h2 h0]
        simp only [Option.bind_some]
        rw [slices_Equal_Item_eq _ _ (by simp; omega)]
        simp
      · rw [if_pos (by simpa using h0), h1 h0]
        simp [h0]
    rw [first]
    simp only [Option.bind_some, Bool.false_eq_true, if_false]
    by_cases h6 : 6 < l.length
    · rw [if_pos (by simp; omega)]
      simp [takeL, h6]
    rw [if_neg (by simp; omega)]
    cases l with
    | nil => simp [takeL]
    | cons y r =>
      rw [if_neg (by simp; omega)]
      have e0 : takeL (y :: r) = (y, r, 0) := by unfold takeL; rw [if_neg h6]
      have e1 : idx (y :: r) 0 = some y := by simp [idx]
      have e2 : sub (y :: r) 1 ((y :: r).length : Int) = some r := by
        have := sub_end (xs := y :: r) (i := 1) (by simp)
        simpa using this
      rw [e0, e1, e2]
      simp only [Option.bind_some, beq_self_eq_true, if_true]
      rw [slices_Equal_Item_eq _ _ (by simp at hl; omega)]
      simp
  by_cases h1 : room < 1 ∨ 6 < room
  · rw [if_pos (by simp; omega)]
    exact tk 3 (by simp [putL, h1]) (fun _ => by simp [putL, h1]) (fun h => by cases h)
  rw [if_neg (by simp; omega)]
  by_cases h2 : room < l.length
  · rw [if_pos (by simp; omega)]
    exact tk 2 (by simp [putL, h1, h2]) (fun _ => by simp [putL, h1, h2]) (fun h => by cases h)
  rw [if_neg (by simp; omega)]
  by_cases h3 : (l.length : Int) = room
  · rw [if_pos (by simp [h3])]
    exact tk 8 (by simp [putL, h1, h2, h3]) (fun _ => by simp [putL, h1, h2, h3]) (fun h => by cases h)
  rw [if_neg (by simpa using h3)]
  exact tk 0 (by simp [putL, h1, h2, h3]) (fun h => absurd rfl h) (fun _ => by simp [putL, h1, h2, h3])

theorem RingKeeps_true (l : List Item) (room : Int) (sc : List Int) : crosslaw_RingKeeps l room sc = some true := by
  unfold crosslaw_RingKeeps
  simp only [ring_Pass_eq, Option.bind_some, ringed_true, Bool.not_true, Bool.false_or]
  by_cases h0 : (passR l room sc).2.2 ≠ 0
  · rw [if_pos (by simpa using h0)]
  rw [if_neg (by simpa using h0)]
  unfold passR at h0 ⊢
  by_cases h1 : room < 1 ∨ 6 < room
  · simp [h1] at h0
  rw [if_neg h1] at h0 ⊢
  by_cases h2 : 20 < l.length ∨ 2000 < sc.length
  · simp [h2] at h0
  rw [if_neg h2] at h0 ⊢
  cases hp : passS l.length room sc 0 0 with
  | inl e =>
    rw [hp] at h0
    have := passS_ne _ _ _ _ _ _ hp
    simp at h0; omega
  | inr q =>
    obtain ⟨h3, h4, h5⟩ := passS_le l.length room (by omega) sc 0 0 q (by omega) (by omega) (by omega) hp
    have hm := mid_len l q.1 q.2 h4
    have hlt : (l.take q.2).length = q.2 := by simp; omega
    simp only [hm, hlt]
    have hw : IntKind.i64.wrap ((q.2 : Int) + ((q.1 - q.2 : Nat) : Int)) = (q.1 : Int) := by rw [wrap_ok (by omega) (by omega)]; omega
    rw [hw, if_pos (by simp; omega), if_pos (by simp; omega), clone_Item_eq _ (by simp; omega)]
    simp only [Option.bind_some]
    rw [app_ok (by simp; omega)]
    simp only [Option.bind_some]
    rw [sub_0 h4]
    simp only [Option.bind_some]
    have hcat : l.take q.2 ++ midL l q.1 q.2 = l.take q.1 := by
      unfold midL
      have : l.take q.2 = (l.take q.1).take q.2 := by rw [List.take_take, Nat.min_eq_left h3]
      rw [this, List.take_append_drop]
    rw [hcat, slices_Equal_Item_eq _ _ (by simp; omega)]
    simp

theorem RingPass_true (l : List Item) (room : Int) (sc : List Int) (gl : gL gItem l) (gr : gI room) (gs : gL gI sc) (hb : mL mItem l + (mI room + (mL mI sc + 0)) ≤ 1048576) : crosslaw_RingPass l room sc = some true := by
  have hl : l.length ≤ 1048576 := by have := len_le (m := mItem) (fun a => by simp [mItem]) l; omega
  have hsc : sc.length ≤ 1048576 := by have := len_le (m := mI) (fun a => by simp [mI]) sc; omega
  have hgr : -9223372036854775808 ≤ room ∧ room ≤ 9223372036854775807 := gr
  unfold crosslaw_RingPass
  simp only [ring_Pass_eq, Option.bind_some]
  -- something is wrong
  have bad : ∀ (z p t k : Int), z ≠ 0 → passR l room sc = ([], [], z) → crosslaw_RingPass_l1 l room sc (passR l room sc) z p t k = some (.inr true) := by
    intro z p t k hz hR
    unfold crosslaw_RingPass_l1
    rw [if_neg (by simp [hz]), ringed_true, hR]
    simp [hz]
  by_cases h1 : room < 1 ∨ 6 < room
  · rw [if_pos (by simp; omega)]
    unfold crosslaw_RingPass_k2
    rw [iter_eq]
    simp only [bad 3 0 0 0 (by decide) (by simp [passR, h1])]
  rw [if_neg (by simp; omega)]
  by_cases h2 : 20 < l.length ∨ 2000 < sc.length
  · rw [if_pos (by simp; omega)]
    unfold crosslaw_RingPass_k2
    rw [iter_eq]
    simp only [bad 2 0 0 0 (by decide) (by simp [passR, h1, h2])]
  rw [if_neg (by simp; omega)]
  unfold crosslaw_RingPass_k2
  have hR : passR l room sc = (match passS l.length room sc 0 0 with | .inl e => ([], [], e) | .inr q => (l.take q.2, midL l q.1 q.2, 0)) := by unfold passR; rw [if_neg h1, if_neg h2]
  have key : ∀ (n k p t : Nat), k + n = sc.length → t ≤ p → p ≤ l.length → (p : Int) - t ≤ room → passS l.length room sc 0 0 = passS l.length room (sc.drop k) p t →
      iter (fun ss : Int × Int × Int × Int => crosslaw_RingPass_l1 l room sc (passR l room sc) ss.1 ss.2.1 ss.2.2.1 ss.2.2.2) (0, (p : Int), (t : Int), (k : Int)) = some true := by
    intro n
    induction n with
    | zero =>
      intro k p t hk h3 h4 h5 heq
      rw [List.drop_of_length_le (by omega)] at heq
      have hR2 : passR l room sc = (l.take t, midL l p t, 0) := by rw [hR, heq]; rfl
      have e : crosslaw_RingPass_l1 l room sc (passR l room sc) 0 (p : Int) (t : Int) (k : Int) = some (.inr true) := by
        unfold crosslaw_RingPass_l1
        rw [if_neg (by simp; omega), ringed_true, hR2]
        simp only [Option.bind_some, Bool.not_true, bne_self_eq_false, Bool.or_self, Bool.false_eq_true, if_false, beq_self_eq_true, if_true]
        rw [sub_0 (by omega)]
        simp only [Option.bind_some]
        rw [slices_Equal_Item_eq _ _ (by simp; omega)]
        simp only [Option.bind_some, decide_true, if_true]
        rw [sub_ok h3 h4]
        simp only [Option.bind_some]
        rw [slices_Equal_Item_eq _ _ (by rw [mid_len l p t h4]; omega)]
        simp [midL]
      rw [iter_eq]; simp only [e]
    | succ n ih =>
      intro k p t hk h3 h4 h5 heq
      have hlt : k < sc.length := by omega
      have hd : sc.drop k = sc[k] :: sc.drop (k + 1) := List.drop_eq_getElem_cons hlt
      have hx := idx_at (List.getElem?_eq_getElem hlt)
      generalize sc[k] = d at hd hx
      rw [hd, passS] at heq
      have hw1 := wrap_1 (k := k) (by omega)
      have hsub : IntKind.i64.wrap ((p : Int) - (t : Int)) = (p : Int) - t := wrap_ok (by omega) (by omega)
      have stop : ∀ z : Int, z ≠ 0 → passS l.length room sc 0 0 = .inl z → crosslaw_RingPass_l1 l room sc (passR l room sc) 0 (p : Int) (t : Int) (k : Int) = some (.inl (z, (p : Int), (t : Int), ((k + 1 : Nat) : Int))) →
          iter (fun ss : Int × Int × Int × Int => crosslaw_RingPass_l1 l room sc (passR l room sc) ss.1 ss.2.1 ss.2.2.1 ss.2.2.2) (0, (p : Int), (t : Int), (k : Int)) = some true := by
        intro z hz hpz e
        rw [iter_eq]; simp only [e]
        rw [iter_eq]; simp only [bad z _ _ _ hz (by rw [hR, hpz])]
      by_cases hd1 : d = 1
      · rw [if_pos hd1] at heq
        subst hd1
        by_cases hp : p = l.length
        · rw [if_pos hp] at heq
          refine stop 9 (by decide) heq ?_
          unfold crosslaw_RingPass_l1
          rw [if_pos (by simp; omega), hx]
          simp [hp, hw1]
        rw [if_neg hp] at heq
        by_cases hr : (p : Int) - t = room
        · rw [if_pos hr] at heq
          refine stop 8 (by decide) heq ?_
          unfold crosslaw_RingPass_l1
          rw [if_pos (by simp; omega), hx]
          simp only [Option.bind_some]
          rw [if_neg (by simp; omega), hsub, if_pos (by simp [hr]), hw1]
        rw [if_neg hr] at heq
        have e : crosslaw_RingPass_l1 l room sc (passR l room sc) 0 (p : Int) (t : Int) (k : Int) = some (.inl (0, ((p + 1 : Nat) : Int), (t : Int), ((k + 1 : Nat) : Int))) := by
          unfold crosslaw_RingPass_l1
          rw [if_pos (by simp; omega), hx]
          simp only [Option.bind_some]
          rw [if_neg (by simp; omega), hsub, if_neg (by simp [hr]), if_pos (by decide), hw1, wrap_1 (k := p) (by omega)]
        rw [iter_eq]; simp only [e]
        exact ih (k + 1) (p + 1) t (by omega) (by omega) (by omega) (by omega) heq
      rw [if_neg hd1] at heq
      have hnd1 : (d == 1) = false := by simpa using hd1
      by_cases hd0 : d = 0
      · rw [if_pos hd0] at heq
        subst hd0
        by_cases hp : p = t
        · rw [if_pos hp] at heq
          refine stop 9 (by decide) heq ?_
          unfold crosslaw_RingPass_l1
          rw [if_pos (by simp; omega), hx]
          simp [hp, hw1]
        rw [if_neg hp] at heq
        have e : crosslaw_RingPass_l1 l room sc (passR l room sc) 0 (p : Int) (t : Int) (k : Int) = some (.inl (0, (p : Int), ((t + 1 : Nat) : Int), ((k + 1 : Nat) : Int))) := by
          unfold crosslaw_RingPass_l1
          rw [if_pos (by simp; omega), hx]
          simp only [Option.bind_some]
          rw [if_neg (by simp), if_neg (by simp), if_neg (by decide), if_neg (by simp; omega), if_pos (by decide), hw1, wrap_1 (k := t) (by omega)]
        rw [iter_eq]; simp only [e]
        exact ih (k + 1) p (t + 1) (by omega) (by omega) h4 (by omega) heq
      · rw [if_neg hd0] at heq
        refine stop 3 (by decide) heq ?_
        unfold crosslaw_RingPass_l1
        rw [if_pos (by simp; omega), hx]
        have hnd0 : (d == 0) = false := by simpa using hd0
        simp [hnd1, hnd0, hd1, hd0, hw1]
  exact key sc.length 0 0 0 (by omega) (by omega) (by omega) (by omega) (by simp)
end Go.Proofs.Ytpndpdbabblphaa
