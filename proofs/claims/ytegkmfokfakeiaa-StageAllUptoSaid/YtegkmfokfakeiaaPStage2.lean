/-
  A node's step is the document's: the law StageStep.
-/
import Derived.Test.YtegkmfokfakeiaaPStage
import Derived.Sort.LotA
namespace Go.Proofs.Ytegkmfokfakeiaa
set_option linter.unusedVariables false
set_option linter.unusedSimpArgs false

theorem CheckMemory_eq (m : Memory) : crossref_CheckMemory m = stage_Check m := by
  have e : crossref_CheckMemory_l1 = stage_Check_l1 := by
    funext m s
    unfold crossref_CheckMemory_l1 stage_Check_l1
    split
    · cases idx m.Keys s with
      | none => rfl
      | some x =>
        simp only [Option.bind_some]
        by_cases h : x.N < 1
        · rw [if_pos (show decide (x.N ≤ 0) = true by simp; omega), if_pos (show decide (x.N < 1) = true by simpa using h)]
          rfl
        · rw [if_neg (show ¬ decide (x.N ≤ 0) = true by simp; omega), if_neg (show ¬ decide (x.N < 1) = true by simpa using h)]
    · rfl
  unfold crossref_CheckMemory stage_Check
  rw [e]
def good (l : List Keyed) (i : Nat) : Prop := ∀ x, l[i]? = some x → 1 ≤ x.N ∧ ∀ j y, i = j + 1 → l[j]? = some y → y.Key < x.Key
theorem check_loop (m : Memory) (hl : m.Keys.length ≤ 6) : ∀ (n k : Nat), k + n = m.Keys.length → ∃ c, iter (fun ss : Int => stage_Check_l1 m ss) (k : Int) = some c ∧ (c = 0 ↔ (∀ i, k ≤ i → i < m.Keys.length → good m.Keys i) ∧ 0 ≤ m.Dep)
  | 0, k, h => by
    have hk : k = m.Keys.length := by omega
    subst hk
    by_cases hd : m.Dep < 0
    · refine ⟨3, ?_, by constructor <;> intro h <;> omega⟩
      rw [iter_eq]
      unfold stage_Check_l1
      simp [hd]
    · refine ⟨0, ?_, ?_⟩
      · rw [iter_eq]
        unfold stage_Check_l1
        simp [hd]
      · exact ⟨fun _ => ⟨fun i h1 h2 => by omega, by omega⟩, fun _ => rfl⟩
  | n + 1, k, h => by
    have hk : k < m.Keys.length := by omega
    have hx : m.Keys[k]? = some m.Keys[k] := List.getElem?_eq_getElem hk
    generalize hxv : m.Keys[k] = x at hx
    have hkw : decide ((k : Int) < (m.Keys.length : Int)) = true := by simp; omega
    have hw : IntKind.i64.wrap ((k : Int) + 1) = ((k + 1 : Nat) : Int) := wrap_1 (by omega)
    by_cases hg : good m.Keys k
    · obtain ⟨hg1, hg2⟩ := hg x hx
      obtain ⟨c, h1, h2⟩ := check_loop m hl n (k + 1) (by omega)
      refine ⟨c, ?_, ?_⟩
      · rw [iter_eq]
        have e : stage_Check_l1 m (k : Int) = some (.inl ((k + 1 : Nat) : Int)) := by
          unfold stage_Check_l1
          rw [if_pos hkw, idx_at hx, Option.bind_some, if_neg (show ¬ decide (x.N < 1) = true by simp; omega)]
          cases k with
          | zero => simp [show IntKind.i64.wrap 1 = 1 from rfl]
          | succ j =>
            have hy : m.Keys[j]? = some m.Keys[j] := List.getElem?_eq_getElem (by omega)
            have := hg2 j _ rfl hy
            rw [if_pos (by simp), wrap_ok (by omega) (by omega), show ((j + 1 : Nat) : Int) - 1 = (j : Int) by omega, idx_at hy, Option.bind_some, Option.bind_some, if_neg (by simp; omega), hw]
        simp only [e]
        exact h1
      · rw [h2]
        constructor
        · rintro ⟨h3, h4⟩
          exact ⟨fun i hi hi2 => by
            by_cases e : i = k
            · subst e; exact hg
            · exact h3 i (by omega) hi2, h4⟩
        · rintro ⟨h3, h4⟩
          exact ⟨fun i hi hi2 => h3 i (by omega) hi2, h4⟩
    · refine ⟨4, ?_, by constructor
                        · intro h; omega
                        · rintro ⟨h3, _⟩; exact absurd (h3 k (Nat.le_refl _) hk) hg⟩
      rw [iter_eq]
      have e : stage_Check_l1 m (k : Int) = some (.inr 4) := by
        unfold stage_Check_l1
        rw [if_pos hkw, idx_at hx, Option.bind_some]
        by_cases hn : x.N < 1
        · rw [if_pos (show decide (x.N < 1) = true by simpa using hn)]; rfl
        · rw [if_neg (show ¬ decide (x.N < 1) = true by simpa using hn)]
          cases k with
          | zero => exact absurd (fun y hy => by rw [hx] at hy; cases hy; exact ⟨by omega, fun j z hj => by omega⟩) hg
          | succ j =>
            have hy : m.Keys[j]? = some m.Keys[j] := List.getElem?_eq_getElem (by omega)
            rw [if_pos (by simp), wrap_ok (by omega) (by omega), show ((j + 1 : Nat) : Int) - 1 = (j : Int) by omega, idx_at hy, Option.bind_some, Option.bind_some]
            have : x.Key ≤ (m.Keys[j]).Key := by
              apply Int.not_lt.1
              intro hlt
              exact hg (fun z hz => by
                rw [hx] at hz; cases hz
                exact ⟨by omega, fun i y hi hy2 => by
                  have : i = j := by omega
                  subst this
                  rw [hy] at hy2; cases hy2; exact hlt⟩)
            rw [if_pos (by simpa using this)]; rfl
      simp only [e]
structure okM (m : Memory) : Prop where
  len : m.Keys.length ≤ 6
  n : ∀ x, x ∈ m.Keys → 1 ≤ x.N
  lt : ∀ (i j : Nat) x y, i < j → m.Keys[i]? = some x → m.Keys[j]? = some y → x.Key < y.Key
  dep : 0 ≤ m.Dep
theorem good_lt {l : List Keyed} (h : ∀ i, i < l.length → good l i) : ∀ (n i j : Nat) x y, j = i + 1 + n → l[i]? = some x → l[j]? = some y → x.Key < y.Key
  | 0, i, j, x, y, e, hx, hy => (h j (List.getElem?_eq_some_iff.1 hy).1 y hy).2 i x (by omega) hx
  | n + 1, i, j, x, y, e, hx, hy => by
    have hj := (List.getElem?_eq_some_iff.1 hy).1
    have hz : l[i + 1 + n]? = some l[i + 1 + n] := List.getElem?_eq_getElem (by omega)
    have h1 := good_lt h n i (i + 1 + n) x _ rfl hx hz
    have h2 := (h j hj y hy).2 (i + 1 + n) _ (by omega) hz
    omega
theorem Check_iff (m : Memory) : ∃ c, stage_Check m = some c ∧ (c = 0 ↔ okM m) := by
  unfold stage_Check
  by_cases hl : m.Keys.length ≤ 6
  · rw [if_neg (by simp; omega)]
    obtain ⟨c, h1, h2⟩ := check_loop m hl m.Keys.length 0 (by omega)
    refine ⟨c, h1, h2.trans ⟨fun ⟨h3, h4⟩ => ⟨hl, fun x hx => ?_, fun i j x y hij hx hy => ?_, h4⟩, fun h => ⟨fun i _ hi x hx => ⟨h.n x (List.mem_of_getElem? hx), fun j y e hy => h.lt j i y x (by omega) hy hx⟩, h.dep⟩⟩⟩
    · obtain ⟨i, hi⟩ := List.getElem?_of_mem hx
      exact (h3 i (Nat.zero_le _) (List.getElem?_eq_some_iff.1 hi).1 x hi).1
    · exact good_lt (fun i hi => h3 i (Nat.zero_le _) hi) (j - i - 1) i j x y (by omega) hx hy
  · rw [if_pos (by simp; omega)]
    exact ⟨2, rfl, fun h => by omega, fun h => absurd h.len hl⟩

/-- Where a key stands, or would. -/
theorem search_at (l : List Keyed) (key : Int) (hl : l.length ≤ 6) (hs : ∀ (i j : Nat) x y, i < j → l[i]? = some x → l[j]? = some y → x.Key < y.Key) :
    ∃ (i : Nat) (b : Bool), slices_BinarySearchFunc_Keyed_x37fe l key = some ((i : Int), b) ∧ i ≤ l.length ∧ (∀ t x, t < i → l[t]? = some x → x.Key < key) ∧ (∀ t x, i ≤ t → l[t]? = some x → key ≤ x.Key) ∧ (b = true ↔ ∃ x, l[i]? = some x ∧ x.Key = key) := by
  unfold slices_BinarySearchFunc_Keyed_x37fe
  obtain ⟨r, h1, i, h2, h3, h4, h5, h6⟩ := iter_inv (body := fun ss : Int × Int => slices_BinarySearchFunc_Keyed_x37fe_l1 l key ss.1 ss.2)
    (fun s => (0 ≤ s.1 ∧ s.1 ≤ s.2 ∧ s.2 ≤ (l.length : Int)) ∧ (∀ (t : Nat) (x : Keyed), (t : Int) < s.1 → l[t]? = some x → x.Key < key) ∧ (∀ (t : Nat) (x : Keyed), s.2 ≤ (t : Int) → l[t]? = some x → key ≤ x.Key)) (fun s => (s.2 - s.1).toNat)
    (fun r => ∃ i : Nat, r.1 = (i : Int) ∧ i ≤ l.length ∧ (∀ t x, t < i → l[t]? = some x → x.Key < key) ∧ (∀ t x, i ≤ t → l[t]? = some x → key ≤ x.Key) ∧ (r.2 = true ↔ ∃ x, l[i]? = some x ∧ x.Key = key)) (fun s hs0 => by
      obtain ⟨s1, s2⟩ := s
      simp only at hs0 ⊢
      obtain ⟨hb, ha, hc⟩ := hs0
      unfold slices_BinarySearchFunc_Keyed_x37fe_l1
      by_cases hlt : s1 < s2
      · rw [if_pos (by simpa using hlt)]
        have e1 : shr .u64 (IntKind.u64.wrap (IntKind.i64.wrap (s1 + s2))) 1 = some ((s1 + s2) / 2) := by
          rw [wrap_ok (by omega) (by omega), IntWalk.u64_in _ ⟨by omega, by omega⟩]
          unfold shr
          rw [if_pos (by decide)]
          congr 1
          show (s1 + s2).fdiv 2 = _
          rw [Int.fdiv_eq_ediv_of_nonneg _ (by decide)]
        rw [e1, Option.bind_some]
        obtain ⟨h, hh⟩ : ∃ h : Nat, (s1 + s2) / 2 = (h : Int) := Int.eq_ofNat_of_zero_le (by omega)
        have hhl : h < l.length := by omega
        have hx : l[h]? = some l[h] := List.getElem?_eq_getElem hhl
        generalize hxv : l[h] = x at hx
        have e2 : IntKind.i64.wrap (h : Int) = (h : Int) := wrap_ok (by omega) (by omega)
        have e4 : IntKind.i64.wrap ((h : Int) + 1) = (h : Int) + 1 := wrap_ok (by omega) (by omega)
        rw [hh, e2, idx_at hx, Option.bind_some, cmp_eq, Option.bind_some, e4]
        refine .inl ?_
        by_cases hk : x.Key < key
        · rw [if_pos hk]
          refine ⟨((h : Int) + 1, s2), rfl, ⟨⟨by show 0 ≤ (h : Int) + 1; omega, by show (h : Int) + 1 ≤ s2; omega, hb.2.2⟩, fun t y ht hy => ?_, hc⟩, by show (s2 - ((h : Int) + 1)).toNat < (s2 - s1).toNat; omega⟩
          have ht : (t : Int) < (h : Int) + 1 := ht
          by_cases e : t = h
          · subst e; rw [hx] at hy; cases hy; exact hk
          · have := hs t h y x (by omega) hy hx; omega
        · have e5 : (if decide ((if x.Key < key then (-1 : Int) else if x.Key > key then 1 else 0) < 0) = true then (some (.inl ((h : Int) + 1, s2)) : Option ((Int × Int) ⊕ (Int × Bool))) else some (.inl (s1, (h : Int)))) = some (.inl (s1, (h : Int))) := by
            rw [if_neg hk]
            split <;> rfl
          refine ⟨(s1, (h : Int)), e5, ⟨⟨hb.1, by show s1 ≤ (h : Int); omega, by show (h : Int) ≤ _; omega⟩, ha, fun t y ht hy => ?_⟩, by show ((h : Int) - s1).toNat < (s2 - s1).toNat; omega⟩
          have ht : (h : Int) ≤ (t : Int) := ht
          by_cases e : t = h
          · subst e; rw [hx] at hy; cases hy; omega
          · have := hs h t x y (by omega) hx hy; omega
      · rw [if_neg (by simpa using hlt)]
        refine .inr ?_
        obtain ⟨k, rfl⟩ := Int.eq_ofNat_of_zero_le hb.1
        have hk2 : s2 = (k : Int) := by omega
        subst hk2
        by_cases hk : k < l.length
        · have hx : l[k]? = some l[k] := List.getElem?_eq_getElem hk
          generalize hxv : l[k] = x at hx
          rw [if_pos (by simp; omega), idx_at hx, Option.bind_some, cmp_eq]
          refine ⟨_, rfl, k, rfl, by omega, fun t y ht hy => ha t y (by omega) hy, fun t y ht hy => hc t y (by omega) hy, ?_⟩
          have := hc k x (by omega) hx
          simp only [hx, Option.some.injEq, exists_eq_left']
          by_cases e : x.Key = key
          · simp [e]
          · have h1 : ¬ x.Key < key := by omega
            have h2 : x.Key > key := by omega
            simp [h1, h2, e]
        · rw [if_neg (by simp; omega)]
          refine ⟨_, rfl, k, rfl, by omega, fun t y ht hy => ha t y (by omega) hy, fun t y ht hy => hc t y (by omega) hy, ?_⟩
          rw [List.getElem?_eq_none (by omega)]
          simp) _ (0, (l.length : Int)) (Nat.le_refl _) ⟨by simp, fun t x ht => by
            have ht : (t : Int) < 0 := ht
            omega, fun t x ht hx => by
            have ht : (l.length : Int) ≤ (t : Int) := ht
            have := (List.getElem?_eq_some_iff.1 hx).1
            omega⟩
  obtain ⟨r1, r2⟩ := r
  simp only at h2
  subst h2
  exact ⟨i, r2, h1, h3, h4, h5, h6⟩

/-- A sorted list is what sorting makes. -/
theorem sortK_eq (l t : List Keyed) (hl : l.length ≤ 12) (hp : t.Perm l) (hs : t.Pairwise (fun a b => a.Key < b.Key)) : sortK l = some t := by
  unfold sortK
  split
  · rename_i h1
    match l, hp, h1 with
    | [], hp, _ => rw [List.perm_nil.1 hp]
    | [a], hp, _ => rw [List.perm_singleton.1 hp]
  · congr 1
    have swo : Sort.SWO ltK := ⟨fun x => by simp [ltK], fun x y z h1 h2 => by simp [ltK] at *; omega, fun x y z h1 h2 => by simp [ltK] at *; omega⟩
    obtain ⟨⟨hsz, _, hperm⟩, hsort⟩ := Sort.insertionSort_holds swo l.toArray 0 l.toArray.size (Nat.zero_le _) (Nat.le_refl _)
    generalize hD : Sort.insertionSort ltK l.toArray 0 l.toArray.size = D at hsz hperm hsort
    have hpl : D.toList.Perm l := by
      rw [← hsz, Array.extract_size] at hperm
      rw [hsz, Array.extract_size] at hperm
      exact hperm
    have hpt : D.toList.Perm t := hpl.trans hp.symm
    have hnd : (D.toList.map (·.Key)).Nodup := by
      have h1 : (t.map (·.Key)).Nodup := by
        unfold List.Nodup
        rw [List.pairwise_map]
        exact hs.imp (fun h => by omega)
      exact ((hpt.map _).nodup_iff).2 h1
    refine List.Perm.eq_of_pairwise (le := fun a b => a.Key < b.Key) (fun a b _ _ h1 h2 => by omega) ?_ hs hpt
    rw [List.pairwise_iff_getElem]
    intro i j hi hj hij
    have h1 := hsort i j (Nat.zero_le _) hij (by simpa [hsz] using hj)
    have hi' : i < D.size := by simpa using hi
    have hj' : j < D.size := by simpa using hj
    rw [getElem!_pos D i hi', getElem!_pos D j hj'] at h1
    simp only [ltK, decide_eq_false_iff_not] at h1
    have h2 : D.toList[i].Key ≠ D.toList[j].Key := by
      unfold List.Nodup at hnd
      rw [List.pairwise_map, List.pairwise_iff_getElem] at hnd
      exact hnd i j hi hj hij
    simp only [Array.getElem_toList] at h2 ⊢
    omega
end Go.Proofs.Ytegkmfokfakeiaa
