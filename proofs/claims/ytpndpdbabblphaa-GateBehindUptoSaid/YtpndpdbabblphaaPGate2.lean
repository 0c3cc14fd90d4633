/-
  The laws GateFree, GateBehind: plain.
-/
import Derived.Test.YtpndpdbabblphaaPGate
namespace Go.Proofs.Ytpndpdbabblphaa
set_option linter.unusedVariables false
set_option linter.unusedSimpArgs false

theorem begins_spec (l m : List Item) : beginsB l m = (decide (l.length ≤ m.length) && decide (l.map kv = (m.take l.length).map kv)) := by
  unfold beginsB
  by_cases h : l.length ≤ m.length <;> simp [h]

theorem GateFree_rest (l m : List Item) (s : Int) (hl : l.length ≤ 1099511627776) (p : Bool) (hp : p = beginsB l m) :
    (crosslaw_gated.bind fun x12 => (if (!x12) = true then (some true) else ((gate_Begins l m).bind fun x13 => (some (!(x13 == p))))).bind fun c14 => (if c14 = true then (some false) else (if (decide (((l).length : Int) > 2000)) = true then (some (((freeR l s).2 == 2) && (((plainR l).2 == 2) && (((freeR l s).1 == 0) && (((plainR l).1).length : Int) == 0)))) else (iter (fun ss_33 : Int × (List Item) => crosslaw_GateFree_l2 l s (freeR l s) (plainR l) ss_33.1 ss_33.2) (0, []))))) = some true := by
  rw [gated_true]
  simp only [Option.bind_some, Bool.not_true, Bool.false_eq_true, if_false]
  rw [gate_Begins_eq l m hl]
  simp only [Option.bind_some, hp, beq_self_eq_true, Bool.not_true, Bool.false_eq_true, if_false]
  by_cases h1 : 2000 < l.length
  · rw [if_pos (by simp; omega)]
    simp [freeR, plainR, h1]
  rw [if_neg (by simp; omega)]
  have hpl : plainR l = (l.map plainI, 0) := by unfold plainR; rw [if_neg h1]
  -- what the law wants of the items
  have want : iter (fun ss : Int × List Item => crosslaw_GateFree_l2 l s (freeR l s) (plainR l) ss.1 ss.2) (0, []) = some true := by
    have := iter_list0 (σ := List Item) l hl (fun k st => ((k : Int), st)) (body := fun ss : Int × List Item => crosslaw_GateFree_l2 l s (freeR l s) (plainR l) ss.1 ss.2)
      (fun k x st => (app st [plainI x]).map .inl)
      (fun st => (if ((plainR l).2 != 0) = true then (some true) else ((slices_Equal_Item (plainR l).1 st).bind fun x21 => (some (!x21)))).bind fun c22 => (if c22 = true then (some false) else (if ((decide (s < 0)) || decide (s > 500)) = true then (some (((freeR l s).2 == 3) && (freeR l s).1 == 0)) else (iter (fun ss_51 : Int => crosslaw_GateFree_l1 l s (freeR l s) ss_51) 0))))
      []
      (fun k x st _ _ h1 h2 h3 => by
        show crosslaw_GateFree_l2 l s (freeR l s) (plainR l) (k : Int) st = _
        unfold crosslaw_GateFree_l2
        rw [h2, h1, h3]
        show ((app st [plainI x]).bind _) = _
        cases app st [plainI x] <;> rfl)
      (fun st h => by
        show crosslaw_GateFree_l2 l s (freeR l s) (plainR l) (l.length : Int) st = _
        unfold crosslaw_GateFree_l2
        rw [h]; rfl)
    refine Eq.trans this ?_
    have fold : ∀ (ys : List Item) (k : Nat) (st : List Item) (fin : List Item → Option Bool), st.length + ys.length ≤ 1099511627776 →
        foldE (σ := List Item) (fun k x st => (app st [plainI x]).map .inl) fin k ys st = fin (st ++ ys.map plainI) := by
      intro ys
      induction ys with
      | nil => intro k st fin h; simp [foldE]
      | cons y ys ih =>
        intro k st fin h
        simp only [List.length_cons] at h
        unfold foldE
        rw [app_ok (by simp; omega)]
        simp only [Option.map_some]
        rw [ih (k + 1) _ fin (by simp; omega)]
        simp
    rw [fold l 0 [] _ (by simpa using hl), hpl]
    simp only [List.nil_append]
    rw [slices_Equal_Item_eq _ _ (by simpa using hl)]
    simp only [bne_self_eq_false, Bool.false_eq_true, if_false, decide_true, Option.bind_some, Bool.not_true]
    by_cases h2 : s < 0 ∨ 500 < s
    · rw [if_pos (by simp; omega)]
      simp [freeR, h1, h2]
    rw [if_neg (by simp; omega)]
    have hf : freeR l s = ((freeN l s : Int), 0) := by unfold freeR; rw [if_neg h1, if_neg h2]
    rw [hf]
    -- the count
    have cnt : ∀ (n k : Nat), k + n = l.length → k ≤ freeN l s → iter (fun ss : Int => crosslaw_GateFree_l1 l s ((freeN l s : Int), 0) ss) (k : Int) = some true := by
      intro n
      induction n with
      | zero =>
        intro k hk hle
        have := freeN_le l s
        have e : crosslaw_GateFree_l1 l s ((freeN l s : Int), 0) (k : Int) = some (.inr true) := by
          unfold crosslaw_GateFree_l1
          rw [if_neg (by simp; omega)]
          simp
          have : freeN l s = k := by omega
          simp [this]
        rw [iter_eq, e]
      | succ n ih =>
        intro k hk hle
        have hlt : k < l.length := by omega
        have hx := List.getElem?_eq_getElem hlt
        have e0 : (if decide ((k : Int) < (l.length : Int)) = true then ((idx l (k : Int)).bind fun x26 => some (decide (x26.Dep ≤ s))) else some false) = some (decide (l[k].Dep ≤ s)) := by
          rw [if_pos (by simp; omega), idx_at hx]; rfl
        have hfree : k < freeN l s ↔ (k ≤ freeN l s ∧ l[k].Dep ≤ s) := by
          clear hf ih hle hk hpl h1 h2 this hp e0 hx fold
          induction l generalizing k with
          | nil => simp at hlt
          | cons y ys ih =>
            cases k with
            | zero =>
              by_cases h : y.Dep ≤ s <;> simp [freeN, h]
            | succ k =>
              by_cases h : y.Dep ≤ s
              · have := ih (by simp at hl; omega) k (by simpa using hlt)
                simp [freeN, h] at this ⊢
                exact this
              · simp [freeN, h]
        by_cases hd : l[k].Dep ≤ s
        · have e : crosslaw_GateFree_l1 l s ((freeN l s : Int), 0) (k : Int) = some (.inl ((k + 1 : Nat) : Int)) := by
            unfold crosslaw_GateFree_l1
            rw [e0]
            simp [hd, wrap_1 (k := k) (by omega)]
          rw [iter_eq, e]
          exact ih (k + 1) (by omega) (hfree.2 ⟨hle, hd⟩)
        · have hk2 : freeN l s = k := by
            have : ¬ k < freeN l s := fun h => hd (hfree.1 h).2
            omega
          have e : crosslaw_GateFree_l1 l s ((freeN l s : Int), 0) (k : Int) = some (.inr true) := by
            unfold crosslaw_GateFree_l1
            rw [e0]
            simp [hd, hk2]
          rw [iter_eq, e]
    exact cnt l.length 0 (by omega) (by omega)
  exact want

theorem GateFree_true (l m : List Item) (s : Int) (gl : gL gItem l) (gm : gL gItem m) (gs : gI s) (hb : mL mItem l + (mL mItem m + (mI s + 0)) ≤ 1048576) : crosslaw_GateFree l m s = some true := by
  have hl : l.length ≤ 1048576 := by have := len_le (m := mItem) (fun a => by simp [mItem]) l; omega
  unfold crosslaw_GateFree
  rw [gate_Free_eq, gate_Plain_eq]
  simp only [Option.bind_some]
  -- the law's own comparison
  have key : ∀ (n k : Nat) (p : Bool), k + n = l.length → (p = true → l.length ≤ m.length ∧ (l.take k).map kv = (m.take k).map kv) → (p = false → beginsB l m = false) →
      iter (fun ss : Bool × Int => crosslaw_GateFree_l3 l m s (freeR l s) (plainR l) ss.1 ss.2) (p, (k : Int)) = some true := by
    intro n
    induction n with
    | zero =>
      intro k p hk h1 h2
      have hkl : k = l.length := by omega
      have hpb : p = beginsB l m := by
        cases p with
        | true =>
          obtain ⟨h3, h4⟩ := h1 rfl
          rw [begins_spec]; subst hkl
          rw [List.take_length] at h4
          simp [h3, h4]
        | false => exact (h2 rfl).symm
      have e : crosslaw_GateFree_l3 l m s (freeR l s) (plainR l) p (k : Int) = some (.inr true) := by
        unfold crosslaw_GateFree_l3
        rw [if_neg (by simp; omega), GateFree_rest l m s (by omega) p hpb]
        rfl
      rw [iter_eq]; simp only [e]
    | succ n ih =>
      intro k p hk h1 h2
      cases p with
      | false =>
        have e : crosslaw_GateFree_l3 l m s (freeR l s) (plainR l) false (k : Int) = some (.inr true) := by
          unfold crosslaw_GateFree_l3
          rw [if_neg (by simp), GateFree_rest l m s (by omega) false (h2 rfl).symm]
          rfl
        rw [iter_eq]; simp only [e]
      | true =>
        obtain ⟨h3, h4⟩ := h1 rfl
        have hlt : k < l.length := by omega
        have hlt2 : k < m.length := by omega
        have hx := idx_at (List.getElem?_eq_getElem hlt)
        have hy := idx_at (List.getElem?_eq_getElem hlt2)
        have e : crosslaw_GateFree_l3 l m s (freeR l s) (plainR l) true (k : Int) = some (.inl (decide (kv l[k] = kv m[k]), ((k + 1 : Nat) : Int))) := by
          unfold crosslaw_GateFree_l3
          rw [if_pos (by simp; omega), hx, hy]
          simp only [Option.bind_some, wrap_1 (k := k) (by omega)]
          by_cases hk1 : l[k].Key = m[k].Key
          · rw [if_pos (by simpa using hk1)]
            congr 3
            rw [Bool.eq_iff_iff]; simp [kv, hk1]
          · rw [if_neg (by simpa using hk1)]
            congr 3
            simp [kv, hk1]
        rw [iter_eq]
        simp only [e]
        refine ih (k + 1) _ (by omega) (fun h => ⟨h3, ?_⟩) (fun h => ?_)
        · have h5 : kv l[k] = kv m[k] := by simpa using h
          rw [List.take_add_one, List.take_add_one, List.map_append, List.map_append, h4]
          simp [List.getElem?_eq_getElem hlt, List.getElem?_eq_getElem hlt2, h5]
        · have h5 : kv l[k] ≠ kv m[k] := by simpa using h
          rw [begins_spec]
          simp only [Bool.and_eq_false_imp, decide_eq_true_eq, decide_eq_false_iff_not]
          intro _ h6
          apply h5
          have := congrArg (fun z => z[k]?) h6
          simpa [List.getElem?_take, hlt, List.getElem?_eq_getElem hlt, List.getElem?_eq_getElem hlt2] using this
  have := key l.length 0 (decide ((l.length : Int) ≤ (m.length : Int))) (by omega) (fun h => ⟨by simpa using h, by simp⟩) (fun h => by
    rw [begins_spec]
    have : ¬ l.length ≤ m.length := by simpa using h
    simp [this])
  exact this

/-- What the law wants to come out behind what was told: of items from number k on. -/
def wantB (n : Nat) (s : Int) : Nat → List Item → List Item
  | _, [] => []
  | k, x :: xs => if x.Dep > s then [] else if n ≤ k then plainI x :: wantB n s (k + 1) xs else wantB n s (k + 1) xs
theorem wantB_eq (n : Nat) (s : Int) : ∀ (xs : List Item) (k : Nat), wantB n s k xs = ((xs.take (freeN xs s)).drop (n - k)).map plainI
  | [], k => by simp [wantB]
  | x :: xs, k => by
    unfold wantB
    by_cases h : x.Dep > s
    · have h' : ¬ x.Dep ≤ s := by omega
      rw [if_pos h]; simp [freeN, h']
    · have h' : x.Dep ≤ s := by omega
      have e : freeN (x :: xs) s = freeN xs s + 1 := by simp [freeN, h']
      rw [if_neg h, e, List.take_succ_cons, wantB_eq n s xs (k + 1)]
      by_cases h2 : n ≤ k
      · rw [if_pos h2, show n - k = 0 by omega, show n - (k + 1) = 0 by omega]; simp
      · rw [if_neg h2, show n - k = (n - (k + 1)) + 1 by omega, List.drop_succ_cons]
theorem wantB_len (n : Nat) (s : Int) : ∀ (xs : List Item) (k : Nat), (wantB n s k xs).length ≤ xs.length
  | [], k => by simp [wantB]
  | x :: xs, k => by
    have := wantB_len n s xs (k + 1)
    unfold wantB
    split
    · simp
    · split <;> simp <;> omega

theorem GateBehind_true (t l : List Item) (s : Int) (gt : gL gItem t) (gl : gL gItem l) (gs : gI s) (hb : mL mItem t + (mL mItem l + (mI s + 0)) ≤ 1048576) : crosslaw_GateBehind t l s = some true := by
  have ht : t.length ≤ 1048576 := by have := len_le (m := mItem) (fun a => by simp [mItem]) t; omega
  have hl : l.length ≤ 1048576 := by have := len_le (m := mItem) (fun a => by simp [mItem]) l; omega
  unfold crosslaw_GateBehind
  rw [gate_Behind_eq]
  simp only [Option.bind_some]
  have bad : ∀ z : Int, z ≠ 0 → behindR t l s = ([], z) → crosslaw_GateBehind_k3 t l s (behindR t l s) z = some true := by
    intro z hz hR
    unfold crosslaw_GateBehind_k3
    rw [gated_true, hR]
    simp [hz]
  by_cases h1 : 2000 < t.length ∨ 2000 < l.length
  · rw [if_pos (by simp; omega)]
    refine bad 2 (by decide) ?_
    unfold behindR freeR
    by_cases h2 : 2000 < t.length
    · rw [if_pos h2]
    · rw [if_neg h2]
      have h3 : 2000 < l.length := by omega
      simp [h3]
  rw [if_neg (by simp; omega)]
  have h2 : ¬ 2000 < t.length := by omega
  have h3 : ¬ 2000 < l.length := by omega
  by_cases h4 : s < 0 ∨ 500 < s
  · rw [if_pos (by simp; omega)]
    refine bad 3 (by decide) ?_
    unfold behindR freeR
    simp [h2, h3, h4]
  rw [if_neg (by simp; omega)]
  have hfr : freeR l s = ((freeN l s : Int), 0) := by unfold freeR; rw [if_neg h3, if_neg h4]
  have hmin : (if ((l).length : Int) < ((t).length : Int) then ((l).length : Int) else ((t).length : Int)) = ((min t.length l.length : Nat) : Int) := by
    split <;> omega
  rw [hmin, sub_0 (by omega), sub_0 (by omega)]
  simp only [Option.bind_some]
  rw [alike_eq _ _ (by simp; omega)]
  simp only [Option.bind_some]
  have hal : alikeB (t.take (min t.length l.length)) (l.take (min t.length l.length)) = (beginsB t l || beginsB l t) := by
    rw [begins_spec, begins_spec]
    unfold alikeB
    by_cases h5 : t.length ≤ l.length
    · rw [Nat.min_eq_left h5, List.take_length]
      by_cases h6 : l.length ≤ t.length
      · have h7 : t.length = l.length := by omega
        have e1 : l.take t.length = l := List.take_of_length_le (by omega)
        have e2 : t.take l.length = t := List.take_of_length_le (by omega)
        rw [e1, e2]
        simp only [h5, h6, decide_true, Bool.true_and]
        by_cases h8 : t.map kv = l.map kv
        · simp [h8]
        · have h9 : ¬ l.map kv = t.map kv := fun e => h8 e.symm
          simp [h8, h9]
      · simp [h5, h6]
    · have h6 : l.length ≤ t.length := by omega
      rw [Nat.min_eq_right h6, List.take_length]
      simp only [h5, h6, decide_false, decide_true, Bool.false_and, Bool.true_and, Bool.false_or]
      rw [Bool.eq_iff_iff]; simp only [decide_eq_true_eq]
      exact eq_comm
  rw [hal]
  by_cases h5 : beginsB t l = false ∧ beginsB l t = false
  · rw [if_pos (by simp [h5])]
    refine bad 4 (by decide) ?_
    unfold behindR
    rw [if_neg h2, hfr]
    simp [h5]
  rw [if_neg (by
    cases h6 : beginsB t l <;> cases h7 : beginsB l t <;> simp_all)]
  have hR : behindR t l s = (((l.take (freeN l s)).drop t.length).map plainI, 0) := by
    unfold behindR
    rw [if_neg h2, hfr, if_neg (by simp), if_neg h5]
    by_cases h6 : freeN l s ≤ t.length
    · rw [if_pos h6, List.drop_of_length_le (by simp; omega)]; rfl
    · rw [if_neg h6]
  rw [hR]
  unfold crosslaw_GateBehind_k3
  rw [gated_true]
  simp only [Option.bind_some, Bool.not_true, bne_self_eq_false, Bool.or_self, Bool.false_eq_true, if_false]
  have hlast : ∀ st, st = ((l.take (freeN l s)).drop t.length).map plainI → crosslaw_GateBehind_k1 (((l.take (freeN l s)).drop t.length).map plainI, 0) st = some true := by
    rintro st rfl
    unfold crosslaw_GateBehind_k1
    simp only [beq_self_eq_true, if_true]
    rw [slices_Equal_Item_eq _ _ (by simp; omega)]
    simp
  have := iter_list0 (σ := List Item) l (by omega) (fun k st => ((k : Int), st)) (body := fun ss : Int × List Item => crosslaw_GateBehind_l2 t l s (((l.take (freeN l s)).drop t.length).map plainI, 0) ss.1 ss.2)
    (fun k x st => if x.Dep > s then (crosslaw_GateBehind_k1 (((l.take (freeN l s)).drop t.length).map plainI, 0) st).map .inr else if t.length ≤ k then (app st [plainI x]).map .inl else some (.inl st))
    (fun st => crosslaw_GateBehind_k1 (((l.take (freeN l s)).drop t.length).map plainI, 0) st) []
    (fun k x st _ _ h1 h2 h3 => by
      show crosslaw_GateBehind_l2 t l s _ (k : Int) st = _
      unfold crosslaw_GateBehind_l2
      rw [h2, h1, h3]
      simp only [if_true, Option.bind_some, decide_eq_true_eq]
      by_cases h : x.Dep > s
      · rw [if_pos h, if_pos h]
        cases crosslaw_GateBehind_k1 (((l.take (freeN l s)).drop t.length).map plainI, 0) st <;> rfl
      · rw [if_neg h, if_neg h]
        by_cases h' : t.length ≤ k
        · rw [if_pos (by omega), if_pos h']
          show ((app st [plainI x]).bind _) = _
          cases app st [plainI x] <;> rfl
        · rw [if_neg (by omega), if_neg h'])
    (fun st h => by
      show crosslaw_GateBehind_l2 t l s _ (l.length : Int) st = _
      unfold crosslaw_GateBehind_l2
      rw [h]; rfl)
  refine Eq.trans this ?_
  have fold : ∀ (ys : List Item) (k : Nat) (st : List Item), st.length + ys.length ≤ 1099511627776 → (∀ z, z = st ++ wantB t.length s k ys → crosslaw_GateBehind_k1 (((l.take (freeN l s)).drop t.length).map plainI, 0) z = some true) →
      foldE (σ := List Item) (fun k x st => if x.Dep > s then (crosslaw_GateBehind_k1 (((l.take (freeN l s)).drop t.length).map plainI, 0) st).map .inr else if t.length ≤ k then (app st [plainI x]).map .inl else some (.inl st)) (fun st => crosslaw_GateBehind_k1 (((l.take (freeN l s)).drop t.length).map plainI, 0) st) k ys st = some true := by
    intro ys
    induction ys with
    | nil => intro k st _ h; exact h st (by simp [wantB])
    | cons y ys ih =>
      intro k st hlen h
      simp only [List.length_cons] at hlen
      unfold foldE
      unfold wantB at h
      by_cases h1 : y.Dep > s
      · rw [if_pos h1, h st (by simp [h1])]; rfl
      · rw [if_neg h1]
        rw [if_neg h1] at h
        by_cases h2 : t.length ≤ k
        · rw [if_pos h2, app_ok (by simp; omega)]
          simp only [Option.map_some]
          refine ih (k + 1) _ (by simp; omega) (fun z hz => h z ?_)
          rw [if_pos h2, hz]; simp
        · rw [if_neg h2]
          simp only
          refine ih (k + 1) _ (by omega) (fun z hz => h z ?_)
          rw [if_neg h2, hz]
  refine fold l 0 [] (by simp; omega) (fun z hz => hlast z ?_)
  rw [hz, wantB_eq]; simp
end Go.Proofs.Ytpndpdbabblphaa
