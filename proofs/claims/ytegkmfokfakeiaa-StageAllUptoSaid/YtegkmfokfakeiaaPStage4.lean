/-
  The law StageAll.
-/
import Derived.Test.YtegkmfokfakeiaaPStage3
namespace Go.Proofs.Ytegkmfokfakeiaa
set_option linter.unusedVariables false
set_option linter.unusedSimpArgs false

theorem lt_of_pw {l : List Keyed} (h : l.Pairwise (fun a b => a.Key < b.Key)) : ∀ (i j : Nat) x y, i < j → l[i]? = some x → l[j]? = some y → x.Key < y.Key := fun i j x y hij hx hy => by
  obtain ⟨hi, rfl⟩ := List.getElem?_eq_some_iff.1 hx
  obtain ⟨hj, rfl⟩ := List.getElem?_eq_some_iff.1 hy
  exact List.pairwise_iff_getElem.1 h i j hi hj hij
theorem ins_pw {l : List Keyed} {i : Nat} {key : Int} (hlt : ∀ (i j : Nat) x y, i < j → l[i]? = some x → l[j]? = some y → x.Key < y.Key) (h1 : ∀ t z, t < i → l[t]? = some z → z.Key < key) (h2 : ∀ t z, i ≤ t → l[t]? = some z → key < z.Key) :
    (l.take i ++ (⟨key, 1⟩ : Keyed) :: l.drop i).Pairwise (fun a b => a.Key < b.Key) := by
  rw [List.pairwise_append, List.pairwise_cons]
  have hpw : l.Pairwise (fun a b => a.Key < b.Key) := by
    rw [List.pairwise_iff_getElem]
    exact fun a b ha hb hab => hlt a b _ _ hab (List.getElem?_eq_getElem ha) (List.getElem?_eq_getElem hb)
  refine ⟨hpw.sublist (List.take_sublist _ _), ⟨fun z hz => ?_, hpw.sublist (List.drop_sublist _ _)⟩, fun a ha b hb => ?_⟩
  · obtain ⟨t, ht⟩ := List.getElem?_of_mem hz
    rw [List.getElem?_drop] at ht
    exact h2 (i + t) z (by omega) ht
  · obtain ⟨t, ht⟩ := List.getElem?_of_mem ha
    rw [List.getElem?_take] at ht
    split at ht
    · rename_i hti
      have h7 := h1 t a hti ht
      rcases List.mem_cons.1 hb with rfl | hb
      · exact h7
      · obtain ⟨t2, ht2⟩ := List.getElem?_of_mem hb
        rw [List.getElem?_drop] at ht2
        have h8 := h2 (i + t2) b (by omega) ht2
        omega
    · cases ht
theorem stepR_ok {k f : Int} {m : Memory} {x : Item} {R : Memory × Item × Int} (h : StepR k f m x R) (ok : okM m) (B : Int) (h0 : 0 ≤ B) (hB : ∀ y, y ∈ m.Keys → y.N ≤ B) (hB2 : B < 4611686018427387904) (hR : R.2.2 = 0) : okM R.1 ∧ ∀ y, y ∈ R.1.Keys → y.N ≤ B + 1 := by
  cases h with
  | err e he => exact absurd hR he
  | same s d y hd => exact ⟨⟨ok.len, ok.n, ok.lt, hd⟩, fun y hy => by have := hB y hy; omega⟩
  | inc i v d y hi hd =>
    have hv := List.mem_of_getElem? hi
    have hv1 := ok.n v hv
    have hv2 := hB v hv
    have hw : IntKind.i64.wrap (v.N + 1) = v.N + 1 := wrap_ok (by omega) (by omega)
    have hget : ∀ (a : Nat) (z : Keyed), (m.Keys.set i ⟨v.Key, IntKind.i64.wrap (v.N + 1)⟩)[a]? = some z → ∃ z', m.Keys[a]? = some z' ∧ z'.Key = z.Key := fun a z hz => by
      rw [List.getElem?_set] at hz
      split at hz
      · rename_i e
        subst e
        split at hz
        · cases hz; exact ⟨v, hi, rfl⟩
        · cases hz
      · exact ⟨z, hz, rfl⟩
    refine ⟨⟨by simpa using ok.len, fun z hz => ?_, fun a b z1 z2 hab hz1 hz2 => ?_, hd⟩, fun z hz => ?_⟩
    · rcases List.mem_or_eq_of_mem_set hz with h1 | h1
      · exact ok.n z h1
      · subst h1; rw [hw]; show 1 ≤ v.N + 1; omega
    · obtain ⟨w1, e1, e2⟩ := hget a z1 hz1
      obtain ⟨w2, e3, e4⟩ := hget b z2 hz2
      have := ok.lt a b w1 w2 hab e1 e3
      omega
    · rcases List.mem_or_eq_of_mem_set hz with h1 | h1
      · have := hB z h1; omega
      · subst h1; rw [hw]; show v.N + 1 ≤ B + 1; omega
  | ins i d y hd hl hi h1 h2 =>
    have hm : ∀ z, z ∈ m.Keys.take i ++ (⟨x.Key, 1⟩ : Keyed) :: m.Keys.drop i → z ∈ m.Keys ∨ z.N = 1 := fun z hz => by
      rcases List.mem_append.1 hz with h3 | h3
      · exact .inl (List.mem_of_mem_take h3)
      · rcases List.mem_cons.1 h3 with h3 | h3
        · exact .inr (by rw [h3])
        · exact .inl (List.mem_of_mem_drop h3)
    refine ⟨⟨by simp; omega, fun z hz => ?_, lt_of_pw (ins_pw ok.lt h1 h2), hd⟩, fun z hz => ?_⟩
    · rcases hm z hz with h3 | h3
      · exact ok.n z h3
      · omega
    · rcases hm z hz with h3 | h3
      · have := hB z h3; omega
      · omega
theorem all_loop (k f : Int) (xs : List Item) (hx : xs.length ≤ 20) : ∀ (n j : Nat) (m : Memory) (out : List Item), j + n = xs.length → okM m → (∀ y, y ∈ m.Keys → y.N ≤ (j : Int)) → out.length ≤ j →
    iter (fun ss : Int × Int × (List Keyed) × Int × (List Item) => crosslaw_StageAll_l1 k f xs (allF k f m (xs.drop j) out) ss.1 ss.2.1 ss.2.2.1 ss.2.2.2.1 ss.2.2.2.2) ((j : Int), m.Sum, m.Keys, m.Dep, out) = some true
  | 0, j, m, out, h, ok, hB, ho => by
    have hj : j = xs.length := by omega
    subst hj
    rw [iter_eq]
    have e : crosslaw_StageAll_l1 k f xs (allF k f m (xs.drop xs.length) out) (xs.length : Int) m.Sum m.Keys m.Dep out = some (.inr true) := by
      unfold crosslaw_StageAll_l1
      rw [if_neg (by simp), List.drop_length]
      unfold allF
      simp only
      rw [if_pos (by simp), slices_Equal_Item_eq _ _ (by omega)]
      simp
    simp only [e]
  | n + 1, j, m, out, h, ok, hB, ho => by
    have hj : j < xs.length := by omega
    have hg : xs[j]? = some xs[j] := List.getElem?_eq_getElem hj
    have hd : xs.drop j = xs[j] :: xs.drop (j + 1) := List.drop_eq_getElem_cons hj
    generalize hxv : xs[j] = x at hg hd
    rw [hd]
    have hst := step_eq k f m x
    by_cases hdep : x.Dep < 0
    · have h3 : stage_Step k f m x = some (⟨0, [], 0⟩, ⟨0, 0, 0⟩, 3) := by
        obtain ⟨c, hc, hc2⟩ := Check_iff m
        have := hc2.2 ok
        subst this
        unfold stage_Step
        rw [hc, Option.bind_some, if_neg (by simp), if_pos (by simpa using hdep)]
      rw [h3] at hst
      have hF : allF k f m (x :: xs.drop (j + 1)) out = ([], 3) := by
        unfold allF
        rw [← Option.some.inj hst, if_neg (by decide)]
      rw [hF, iter_eq]
      have e : crosslaw_StageAll_l1 k f xs ([], 3) (j : Int) m.Sum m.Keys m.Dep out = some (.inr true) := by
        unfold crosslaw_StageAll_l1
        rw [if_pos (by simp; omega), idx_at hg, Option.bind_some, if_pos (by simpa using hdep)]; rfl
      simp only [e]
    · obtain ⟨R, h1, h2, h3⟩ := step_make k f m x ok (by omega)
      rw [h1] at hst
      have hR := (Option.some.inj hst).symm
      by_cases he : R.2.2 = 0
      · obtain ⟨ok', hB'⟩ := stepR_ok h3 ok (j : Int) (by omega) hB (by omega) he
        have hF : allF k f m (x :: xs.drop (j + 1)) out = allF k f R.1 (xs.drop (j + 1)) (out ++ [R.2.1]) := by
          conv => lhs; unfold allF
          rw [hR, if_pos he]
        rw [hF, iter_eq]
        have e : crosslaw_StageAll_l1 k f xs (allF k f R.1 (xs.drop (j + 1)) (out ++ [R.2.1])) (j : Int) m.Sum m.Keys m.Dep out = some (.inl (((j + 1 : Nat) : Int), R.1.Sum, R.1.Keys, R.1.Dep, out ++ [R.2.1])) := by
          unfold crosslaw_StageAll_l1
          rw [if_pos (by simp; omega), idx_at hg, Option.bind_some, if_neg (by simpa using hdep)]
          have : (⟨m.Sum, m.Keys, m.Dep⟩ : Memory) = m := rfl
          rw [this, h2, Option.bind_some, if_neg (by simp [he]), app_ok (by simp; omega), Option.bind_some, wrap_1 (by omega)]
        simp only [e]
        exact all_loop k f xs hx n (j + 1) R.1 (out ++ [R.2.1]) (by omega) ok' (fun y hy => by have := hB' y hy; omega) (by simp; omega)
      · have hF : allF k f m (x :: xs.drop (j + 1)) out = ([], R.2.2) := by
          unfold allF
          rw [hR, if_neg he]
        rw [hF, iter_eq]
        have e : crosslaw_StageAll_l1 k f xs ([], R.2.2) (j : Int) m.Sum m.Keys m.Dep out = some (.inr true) := by
          unfold crosslaw_StageAll_l1
          rw [if_pos (by simp; omega), idx_at hg, Option.bind_some, if_neg (by simpa using hdep)]
          have : (⟨m.Sum, m.Keys, m.Dep⟩ : Memory) = m := rfl
          rw [this, h2, Option.bind_some, if_pos (by simpa using he)]
          simp
        simp only [e]

theorem lane_in (x : Item) (r : Int) (gx : gI x.Key) (hr : 1 ≤ r ∧ r ≤ 16) : stage_Lane x r = some (x.Key % r, 0) ∧ crossref_Lane x r = some (x.Key % r) := by
  have h1 := Int.tmod_lt_of_pos x.Key (show 0 < r by omega)
  have h2 := Int.lt_tmod_of_pos x.Key (show 0 < r by omega)
  have hn : ((r.natAbs : Nat) : Int) = r := by omega
  constructor
  · unfold stage_Lane
    rw [if_neg (by simp; omega)]
    unfold rem
    rw [if_neg (by omega), Option.bind_some, if_neg (by omega), Option.bind_some]
    rw [wrap_ok (by omega) (by omega)]
    have h3 : (x.Key.tmod r + r).tmod r = x.Key % r := by
      rw [Int.tmod_eq_emod_of_nonneg (by omega), Int.add_emod_right, Int.tmod_eq_emod]
      split <;> simp [hn, Int.sub_emod_right]
    rw [h3]
  · unfold crossref_Lane rem
    rw [if_neg (by omega), Option.bind_some]
    have h4 := Int.emod_nonneg x.Key (show r ≠ 0 by omega)
    have h5 := Int.emod_lt_of_pos x.Key (show 0 < r by omega)
    have h3 : x.Key.tmod r = if 0 ≤ x.Key ∨ r ∣ x.Key then x.Key % r else x.Key % r - r := by
      rw [Int.tmod_eq_emod]
      split <;> simp [hn]
    by_cases hc : 0 ≤ x.Key ∨ r ∣ x.Key
    · rw [h3, if_pos hc, if_neg (by simp; omega)]
    · rw [h3, if_neg hc, if_pos (by simp; omega), wrap_ok (by omega) (by omega)]
      congr 1; omega
theorem lanes_loop (k f : Int) (xs : List Item) (x2 : List Item × Int) (r : Int) (hx : xs.length ≤ 1099511627776) (gx : gL gItem xs) (hfin : crosslaw_StageAll_l2 k f xs x2 r (xs.length : Int) = some (.inr true)) : ∀ (n j : Nat), j + n = xs.length → iter (fun ss : Int => crosslaw_StageAll_l2 k f xs x2 r ss) (j : Int) = some true
  | 0, j, h => by
    have hj : j = xs.length := by omega
    subst hj
    rw [iter_eq]
    simp only [hfin]
  | n + 1, j, h => by
    have hj : j < xs.length := by omega
    have hg : xs[j]? = some xs[j] := List.getElem?_eq_getElem hj
    have gi := gx xs[j] (List.getElem_mem _)
    generalize hxv : xs[j] = x at hg gi
    have e : crosslaw_StageAll_l2 k f xs x2 r (j : Int) = some (.inl ((j + 1 : Nat) : Int)) := by
      unfold crosslaw_StageAll_l2
      rw [if_pos (by simp; omega), idx_at hg, Option.bind_some]
      by_cases hr : 1 ≤ r ∧ r ≤ 16
      · obtain ⟨h1, h2⟩ := lane_in x r gi.1 hr
        rw [h1, Option.bind_some, if_neg (by simp; omega)]
        simp only
        rw [if_neg (by simp), h2, Option.bind_some, Option.bind_some, if_neg (by simp), wrap_1 (by omega)]
      · have : stage_Lane x r = some (0, 3) := by
          unfold stage_Lane
          rw [if_pos (by simp; omega)]
        rw [this, Option.bind_some, if_pos (by simp; omega), if_neg (by simp), wrap_1 (by omega)]
    rw [iter_eq]
    simp only [e]
    exact lanes_loop k f xs x2 r hx gx hfin n (j + 1) (by omega)
theorem StageAll_true (k f : Int) (xs : List Item) (r : Int) (gk : gI k) (gf : gI f) (gx : gL gItem xs) (gr : gI r) (hb : mI k + (mI f + (mL mItem xs + (mI r + 0))) ≤ 1048576) : crosslaw_StageAll k f xs r = some true := by
  have hl : xs.length ≤ mL mItem xs := len_le (fun _ => by unfold mItem; omega) _
  have main : ∀ x2, stage_All k f xs = some x2 → crosslaw_StageAll_l2 k f xs x2 r (xs.length : Int) = some (.inr true) → crosslaw_StageAll k f xs r = some true := fun x2 h1 h2 => by
    unfold crosslaw_StageAll
    rw [h1, Option.bind_some, staged_true, Option.bind_some, if_neg (by simp)]
    exact lanes_loop k f xs x2 r (by omega) gx h2 xs.length 0 (by omega)
  by_cases hx : xs.length ≤ 20
  · refine main _ (all_eq k f xs hx) ?_
    unfold crosslaw_StageAll_l2
    rw [if_neg (by simp), if_neg (by simp; omega)]
    have := all_loop k f xs hx xs.length 0 ⟨0, [], 0⟩ [] (by omega) ⟨by simp, fun x hx => by simp at hx, fun i j x y _ hx => by simp at hx, by simp⟩ (fun y hy => by simp at hy) (by simp)
    rw [List.drop_zero] at this
    rw [show ((0 : Nat) : Int) = 0 from rfl] at this
    simp only at this
    rw [this]; rfl
  · refine main ([], 2) ?_ ?_
    · unfold stage_All
      rw [if_pos (by simp; omega)]
    · unfold crosslaw_StageAll_l2
      rw [if_neg (by simp), if_pos (by simp; omega)]; rfl
end Go.Proofs.Ytegkmfokfakeiaa
