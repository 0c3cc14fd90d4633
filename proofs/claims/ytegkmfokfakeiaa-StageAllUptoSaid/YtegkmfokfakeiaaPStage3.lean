/-
  The law StageStep.
-/
import Derived.Test.YtegkmfokfakeiaaPStage2
namespace Go.Proofs.Ytegkmfokfakeiaa
set_option linter.unusedVariables false
set_option linter.unusedSimpArgs false

theorem make_loop (m : Memory) (x : Item) (hl : m.Keys.length ≤ 6) (i : Nat) (fd : Bool) (h1 : ∀ t y, t < i → m.Keys[t]? = some y → y.Key < x.Key) (h2 : ∀ t y, i ≤ t → m.Keys[t]? = some y → x.Key ≤ y.Key)
    (h3 : fd = true ↔ ∃ y, m.Keys[i]? = some y ∧ y.Key = x.Key) (hs : ∀ (i j : Nat) x y, i < j → m.Keys[i]? = some x → m.Keys[j]? = some y → x.Key < y.Key) : ∀ (n k : Nat), k + n = m.Keys.length →
    iter (fun ss : Int × Int => crossref_Make_l1 m m.Keys x ss.1 ss.2) ((if fd = true ∧ i < k then (i : Int) else -1), (k : Int)) = iter (fun ss : Int × Int => crossref_Make_l1 m m.Keys x ss.1 ss.2) ((if fd = true then (i : Int) else -1), (m.Keys.length : Int))
  | 0, k, h => by
    have hk : k = m.Keys.length := by omega
    subst hk
    by_cases hf : fd = true
    · obtain ⟨y, hy, _⟩ := h3.1 hf
      have := (List.getElem?_eq_some_iff.1 hy).1
      rw [if_pos ⟨hf, this⟩, if_pos hf]
    · rw [if_neg (fun e => hf e.1), if_neg hf]
  | n + 1, k, h => by
    have hk : k < m.Keys.length := by omega
    have hy : m.Keys[k]? = some m.Keys[k] := List.getElem?_eq_getElem hk
    generalize hyv : m.Keys[k] = y at hy
    have e : crossref_Make_l1 m m.Keys x (if fd = true ∧ i < k then (i : Int) else -1) (k : Int) = some (.inl ((if fd = true ∧ i < k + 1 then (i : Int) else -1), ((k + 1 : Nat) : Int))) := by
      unfold crossref_Make_l1
      rw [if_pos (by simp; omega), ixN_at hk, Option.bind_some, hy, Option.bind_some, wrap_1 (by omega)]
      by_cases hkey : y.Key = x.Key
      · have hik : i = k := by
          rcases Nat.lt_trichotomy k i with h4 | h4 | h4
          · have := h1 k y h4 hy; omega
          · omega
          · have hz : m.Keys[i]? = some m.Keys[i] := List.getElem?_eq_getElem (by omega)
            have h5 := h2 i _ (Nat.le_refl _) hz
            have h6 := hs i k _ y h4 hz hy
            omega
        subst hik
        have hf : fd = true := h3.2 ⟨y, hy, hkey⟩
        rw [if_pos (by simpa using hkey), if_pos ⟨hf, by omega⟩]
      · rw [if_neg (by simpa using hkey)]
        have : (fd = true ∧ i < k + 1) ↔ (fd = true ∧ i < k) := by
          constructor
          · rintro ⟨hf, h4⟩
            refine ⟨hf, ?_⟩
            rcases Nat.lt_or_ge i k with h5 | h5
            · exact h5
            · have : i = k := by omega
              subst this
              obtain ⟨z, hz, hz2⟩ := h3.1 hf
              rw [hy] at hz; cases hz
              exact absurd hz2 hkey
          · rintro ⟨hf, h4⟩; exact ⟨hf, by omega⟩
        simp only [this]
    rw [iter_eq]
    simp only [e]
    exact make_loop m x hl i fd h1 h2 h3 hs n (k + 1) (by omega)

/-- What a step on a right memory makes. -/
inductive StepR (k f : Int) (m : Memory) (x : Item) : Memory × Item × Int → Prop
  | err (e : Int) (h : e ≠ 0) : StepR k f m x (⟨0, [], 0⟩, ⟨0, 0, 0⟩, e)
  | same (s d : Int) (y : Item) (hd : 0 ≤ d) : StepR k f m x (⟨s, m.Keys, d⟩, y, 0)
  | inc (i : Nat) (v : Keyed) (d : Int) (y : Item) (hi : m.Keys[i]? = some v) (hd : 0 ≤ d) : StepR k f m x (⟨m.Sum, m.Keys.set i ⟨v.Key, IntKind.i64.wrap (v.N + 1)⟩, d⟩, y, 0)
  | ins (i : Nat) (d : Int) (y : Item) (hd : 0 ≤ d) (hl : m.Keys.length < 6) (hi : i ≤ m.Keys.length) (h1 : ∀ t z, t < i → m.Keys[t]? = some z → z.Key < x.Key) (h2 : ∀ t z, i ≤ t → m.Keys[t]? = some z → x.Key < z.Key) : StepR k f m x (⟨m.Sum, m.Keys.take i ++ ⟨x.Key, 1⟩ :: m.Keys.drop i, d⟩, y, 0)
theorem step_make (k f : Int) (m : Memory) (x : Item) (ok : okM m) (hx : 0 ≤ x.Dep) : ∃ R, stage_Step k f m x = some R ∧ crossref_Make k f m x = some R ∧ StepR k f m x R := by
  obtain ⟨c, hc, hc2⟩ := Check_iff m
  have hc0 := hc2.2 ok
  subst hc0
  have hap : app [] m.Keys = some m.Keys := by rw [app_ok (by have := ok.len; simp; omega)]; rfl
  have hcl : slices_Clone_Keyed m.Keys = some m.Keys := hap
  have hco : stage_Copy m = some m := by unfold stage_Copy; rw [hcl]; rfl
  have hdp : 0 ≤ (if x.Dep > m.Dep then x.Dep else m.Dep) := by have := ok.dep; split <;> omega
  have hnd : ¬ decide (x.Dep < 0) = true := by simpa using hx
  unfold stage_Step crossref_Make
  rw [hc, Option.bind_some, if_neg (by simp), if_neg hnd, hco, Option.bind_some, hap, Option.bind_some]
  by_cases k2 : k = 2
  · subst k2
    rw [if_pos (show ((2 : Int) == 2) = true from rfl), if_pos (show ((2 : Int) == 2) = true from rfl)]
    by_cases hf : 0 ≤ f ∧ f ≤ 3
    · rw [if_neg (by simp; omega)]
      have : f = 0 ∨ f = 1 ∨ f = 2 ∨ f = 3 := by omega
      rcases this with rfl | rfl | rfl | rfl
      · exact ⟨_, rfl, rfl, .same _ _ _ ok.dep⟩
      · refine ⟨_, rfl, ?_, .same _ _ _ ok.dep⟩
        rw [Int.two_mul]; rfl
      · exact ⟨_, rfl, rfl, .same _ _ _ ok.dep⟩
      · exact ⟨_, rfl, rfl, .same _ _ _ ok.dep⟩
    · rw [if_pos (by simp; omega), if_neg (by simp; omega), if_neg (by simp; omega), if_neg (by simp; omega), if_neg (by simp; omega)]
      exact ⟨_, rfl, rfl, .err 3 (by decide)⟩
  · have n2 : ¬ (k == 2) = true := by simpa using k2
    rw [if_neg n2, if_neg n2]
    by_cases k3 : k = 3
    · subst k3
      rw [if_pos (show ((3 : Int) == 3) = true from rfl), if_pos (show ((3 : Int) == 3) = true from rfl)]
      exact ⟨_, rfl, rfl, .same _ _ _ hdp⟩
    · have n3 : ¬ (k == 3) = true := by simpa using k3
      rw [if_neg n3, if_neg n3]
      by_cases k4 : k = 4
      · subst k4
        rw [if_pos (show ((4 : Int) == 4) = true from rfl), if_pos (show ((4 : Int) == 4) = true from rfl)]
        obtain ⟨i, b, hs, hi, h1, h2, h3⟩ := search_at m.Keys x.Key ok.len ok.lt
        have hlp := make_loop m x ok.len i b h1 h2 h3 ok.lt m.Keys.length 0 (by omega)
        rw [if_neg (by omega)] at hlp
        rw [hs, Option.bind_some]
        rw [show ((0 : Nat) : Int) = 0 from rfl] at hlp
        rw [hlp, iter_eq]
        cases b with
        | true =>
          obtain ⟨v, hv, hvk⟩ := h3.1 rfl
          have hil := (List.getElem?_eq_some_iff.1 hv).1
          rw [if_neg (by simp), if_neg (by simp)]
          have hset : i < (m.Keys.set i (⟨v.Key, IntKind.i64.wrap (v.N + 1)⟩ : Keyed)).length := by simpa using hil
          have hsg : (m.Keys.set i (⟨v.Key, IntKind.i64.wrap (v.N + 1)⟩ : Keyed))[i]? = some ⟨v.Key, IntKind.i64.wrap (v.N + 1)⟩ := by simp [hil]
          refine ⟨(⟨m.Sum, m.Keys.set i ⟨v.Key, IntKind.i64.wrap (v.N + 1)⟩, if x.Dep > m.Dep then x.Dep else m.Dep⟩, ⟨x.Key, IntKind.i64.wrap (v.N + 1), if x.Dep > m.Dep then x.Dep else m.Dep⟩, 0), ?_, ?_, .inc i v _ _ hv hdp⟩
          · unfold stage_Step_k1
            simp only [ixN_at hil, Option.bind_some, hv, ixN_at hset, hsg]
          · have e : crossref_Make_l1 m m.Keys x (if True then (i : Int) else -1) (m.Keys.length : Int) = some (.inr (⟨m.Sum, m.Keys.set i ⟨v.Key, IntKind.i64.wrap (v.N + 1)⟩, if x.Dep > m.Dep then x.Dep else m.Dep⟩, ⟨x.Key, IntKind.i64.wrap (v.N + 1), if x.Dep > m.Dep then x.Dep else m.Dep⟩, 0)) := by
              unfold crossref_Make_l1
              rw [if_pos trivial, if_neg (by simp), if_pos (by simp)]
              simp only [ixN_at hil, Option.bind_some, hv, ixN_at hset, hsg]
              rfl
            simp only [e]
        | false =>
          have hnf : ∀ t z, i ≤ t → m.Keys[t]? = some z → x.Key < z.Key := fun t z ht hz => by
            have h4 := h2 t z ht hz
            rcases Int.lt_or_eq_of_le h4 with h5 | h5
            · exact h5
            · exfalso
              by_cases e : t = i
              · subst e; exact absurd (h3.2 ⟨z, hz, h5.symm⟩) (by decide)
              · have hil : i < m.Keys.length := by have := (List.getElem?_eq_some_iff.1 hz).1; omega
                have hy : m.Keys[i]? = some m.Keys[i] := List.getElem?_eq_getElem hil
                have h6 := h2 i _ (Nat.le_refl _) hy
                have h7 := ok.lt i t _ z (by omega) hy hz
                omega
          by_cases h6 : m.Keys.length = 6
          · rw [if_pos (by simp; omega)]
            refine ⟨_, rfl, ?_, .same _ _ _ hdp⟩
            have e : crossref_Make_l1 m m.Keys x (if False then (i : Int) else -1) (m.Keys.length : Int) = some (.inr (⟨m.Sum, m.Keys, if x.Dep > m.Dep then x.Dep else m.Dep⟩, ⟨x.Key, 0, if x.Dep > m.Dep then x.Dep else m.Dep⟩, 0)) := by
              unfold crossref_Make_l1
              rw [if_neg (fun h : False => h), if_neg (by simp), if_neg (by simp), if_neg (by simp; omega)]; rfl
            simp only [Bool.false_eq_true, e]
          · have hl6 : m.Keys.length < 6 := by have := ok.len; omega
            rw [if_neg (by simp; omega), if_pos (by simp)]
            have hin := ins_eq (m.Keys.take i) (m.Keys.drop i) (⟨x.Key, 0⟩ : Keyed) (by simp; omega)
            have hti : (m.Keys.take i).length = i := by simp; omega
            rw [List.take_append_drop, hti] at hin
            have hset : ∀ a b : Keyed, (m.Keys.take i ++ a :: m.Keys.drop i).set i b = m.Keys.take i ++ b :: m.Keys.drop i := fun a b => by
              rw [List.set_append_right _ _ (by omega), hti, Nat.sub_self]; rfl
            have hget : ∀ a : Keyed, (m.Keys.take i ++ a :: m.Keys.drop i)[i]? = some a := fun a => by
              rw [List.getElem?_append_right (by omega), hti, Nat.sub_self]; rfl
            have hlen : ∀ a : Keyed, i < (m.Keys.take i ++ a :: m.Keys.drop i).length := fun a => by simp; omega
            have hw : IntKind.i64.wrap ((0 : Int) + 1) = 1 := rfl
            refine ⟨(⟨m.Sum, m.Keys.take i ++ ⟨x.Key, 1⟩ :: m.Keys.drop i, if x.Dep > m.Dep then x.Dep else m.Dep⟩, ⟨x.Key, 1, if x.Dep > m.Dep then x.Dep else m.Dep⟩, 0), ?_, ?_, .ins i _ _ hdp hl6 hi h1 hnf⟩
            · simp only
              rw [hin, Option.bind_some]
              unfold stage_Step_k1
              simp only [ixN_at (hlen _), Option.bind_some, hget, hset, hw]
            · have hsort : sortK (m.Keys ++ [(⟨x.Key, 1⟩ : Keyed)]) = some (m.Keys.take i ++ ⟨x.Key, 1⟩ :: m.Keys.drop i) := by
                refine sortK_eq _ _ (by simp; omega) ?_ ?_
                · refine List.perm_middle.trans ?_
                  rw [List.take_append_drop]
                  exact (List.perm_append_singleton _ _).symm
                · rw [List.pairwise_append, List.pairwise_cons]
                  have hpw : m.Keys.Pairwise (fun a b => a.Key < b.Key) := by
                    rw [List.pairwise_iff_getElem]
                    exact fun a b ha hb hab => ok.lt a b _ _ hab (List.getElem?_eq_getElem ha) (List.getElem?_eq_getElem hb)
                  refine ⟨hpw.sublist (List.take_sublist _ _), ⟨fun z hz => ?_, hpw.sublist (List.drop_sublist _ _)⟩, fun a ha b hb => ?_⟩
                  · obtain ⟨t, ht⟩ := List.getElem?_of_mem hz
                    rw [List.getElem?_drop] at ht
                    exact hnf (i + t) z (by omega) ht
                  · obtain ⟨t, ht⟩ := List.getElem?_of_mem ha
                    rw [List.getElem?_take] at ht
                    split at ht
                    · rename_i hti2
                      have h7 := h1 t a hti2 ht
                      rcases List.mem_cons.1 hb with rfl | hb
                      · exact h7
                      · obtain ⟨t2, ht2⟩ := List.getElem?_of_mem hb
                        rw [List.getElem?_drop] at ht2
                        have h8 := hnf (i + t2) b (by omega) ht2
                        omega
                    · cases ht
              have e : crossref_Make_l1 m m.Keys x (if False then (i : Int) else -1) (m.Keys.length : Int) = some (.inr (⟨m.Sum, m.Keys.take i ++ ⟨x.Key, 1⟩ :: m.Keys.drop i, if x.Dep > m.Dep then x.Dep else m.Dep⟩, ⟨x.Key, 1, if x.Dep > m.Dep then x.Dep else m.Dep⟩, 0)) := by
                unfold crossref_Make_l1
                rw [if_neg (fun h : False => h), if_neg (by simp), if_neg (by simp), if_pos (by simp; omega), app_ok (by simp; omega), Option.bind_some]
                unfold sort_Slice_x7057
                rw [hsort]; rfl
              simp only [Bool.false_eq_true, e]
      · have n4 : ¬ (k == 4) = true := by simpa using k4
        rw [if_neg n4, if_neg n4]
        have sm : StepR k f m x (m, x, 0) := .same m.Sum m.Dep x ok.dep
        by_cases hk : k = 1 ∨ k = 5 ∨ k = 6 ∨ k = 7 ∨ k = 8
        · rcases hk with rfl | rfl | rfl | rfl | rfl <;> exact ⟨_, rfl, rfl, sm⟩
        · have n1 : ¬ (k == 1) = true := by simp; omega
          have n5 : ¬ (k == 5) = true := by simp; omega
          have n6 : ¬ (k == 6) = true := by simp; omega
          have n7 : ¬ (k == 7) = true := by simp; omega
          have n8 : ¬ (k == 8) = true := by simp; omega
          rw [if_neg n1, if_neg n5, if_neg n6, if_neg n7, if_neg n8]
          exact ⟨_, rfl, rfl, .err 5 (by decide)⟩

theorem slices_Equal_Keyed_eq (a b : List Keyed) (ha : a.length ≤ 1099511627776) : slices_Equal_Keyed a b = some (decide (a = b)) := by
  unfold slices_Equal_Keyed
  by_cases hl : a.length = b.length
  · rw [if_neg (by simp; omega)]
    exact equal_loop a b ha hl (fun k x y h1 h2 h3 h4 => by
      unfold slices_Equal_Keyed_l1
      rw [h1, h2, h3, h4]
      by_cases h : x = y <;> simp [h]) (fun h => by
      unfold slices_Equal_Keyed_l1
      rw [h]; simp)
  · rw [if_pos (by simp; omega)]
    have : a ≠ b := fun e => hl (by rw [e])
    simp [this]
theorem SameMemory_self (m : Memory) (h : m.Keys.length ≤ 1099511627776) : crossref_SameMemory m m = some true := by
  unfold crossref_SameMemory
  rw [if_pos (by simp), if_pos (by simp), slices_Equal_Keyed_eq _ _ h]; simp
theorem stepR_len {k f : Int} {m : Memory} {x : Item} {R : Memory × Item × Int} (h : StepR k f m x R) (hl : m.Keys.length ≤ 6) : R.1.Keys.length ≤ 6 := by
  cases h with
  | err => simp
  | same => exact hl
  | inc i v d y hi hd => simpa using hl
  | ins i d y hd hl6 hi h1 h2 => simp; omega
theorem k1_true (R : Memory × Item × Int) (h : R.1.Keys.length ≤ 6) : crosslaw_StageStep_k1 R R.2.2 R.1.Sum R.1.Keys R.1.Dep R.2.1.Key R.2.1.Val R.2.1.Dep = some true := by
  obtain ⟨⟨s, l, d⟩, ⟨a, b, c⟩, e⟩ := R
  unfold crosslaw_StageStep_k1
  simp only at h ⊢
  rw [if_pos (by simp), SameMemory_self _ (by show l.length ≤ _; omega), Option.bind_some]
  simp
theorem StageStep_true (k f : Int) (m : Memory) (x : Item) (gk : gI k) (gf : gI f) (gm : gMemory m) (gx : gItem x) (hb : mI k + (mI f + (mMemory m + (mItem x + 0))) ≤ 1048576) : crosslaw_StageStep k f m x = some true := by
  have hm : m.Keys.length ≤ mL mKeyed m.Keys := len_le (fun _ => by unfold mKeyed; omega) _
  have hm2 : mMemory m = mL mKeyed m.Keys + 2 := rfl
  have hap : slices_Clone_Keyed m.Keys = some m.Keys := by unfold slices_Clone_Keyed; rw [app_ok (by simp; omega)]; rfl
  have how : crosslaw_ownMemory m = some m := by unfold crosslaw_ownMemory; rw [hap]; rfl
  obtain ⟨c, hc, hc2⟩ := Check_iff m
  unfold crosslaw_StageStep
  rw [how, Option.bind_some, step_eq, Option.bind_some, CheckMemory_eq, hc, Option.bind_some, staged_true, Option.bind_some]
  rw [if_neg (by simp), Option.bind_some, if_neg (by simp), SameMemory_self m (by omega), Option.bind_some, Option.bind_some, if_neg (by simp)]
  have hst := step_eq k f m x
  by_cases h0 : c = 0
  · subst h0
    have ok := hc2.1 rfl
    by_cases hd : x.Dep < 0
    · rw [if_pos (by simpa using hd)]
      have : stage_Step k f m x = some (⟨0, [], 0⟩, ⟨0, 0, 0⟩, 3) := by
        unfold stage_Step
        rw [hc, Option.bind_some, if_neg (by simp), if_pos (by simpa using hd)]
      rw [this] at hst
      rw [← Option.some.inj hst]
      unfold crosslaw_StageStep_k2
      rw [if_neg (by simp)]
      exact k1_true (⟨0, [], 0⟩, ⟨0, 0, 0⟩, 3) (by simp)
    · rw [if_neg (by simpa using hd)]
      obtain ⟨R, h1, h2, h3⟩ := step_make k f m x ok (by omega)
      rw [h1] at hst
      rw [← Option.some.inj hst]
      unfold crosslaw_StageStep_k2
      rw [if_pos (show ((0 : Int) == 0) = true from rfl), h2, Option.bind_some]
      exact k1_true R (stepR_len h3 ok.len)
  · rw [if_neg (by simp [h0])]
    have : stage_Step k f m x = some (⟨0, [], 0⟩, ⟨0, 0, 0⟩, c) := by
      unfold stage_Step
      rw [hc, Option.bind_some, if_pos (by simpa using h0)]
    rw [this] at hst
    rw [← Option.some.inj hst]
    unfold crosslaw_StageStep_k2
    rw [if_neg (by simpa using h0)]
    exact k1_true (⟨0, [], 0⟩, ⟨0, 0, 0⟩, c) (by simp)
end Go.Proofs.Ytegkmfokfakeiaa
