/-
  A node's step, as plain data: the laws StageBegins, StageLanes.
-/
import Derived.Test.YtegkmfokfakeiaaPlib
import Derived.Test.YtegkmfokfakeiaaSh
namespace Go.Proofs.Ytegkmfokfakeiaa
set_option linter.unusedVariables false
set_option linter.unusedSimpArgs false

theorem bnd {α β : Type} {o : Option α} {k : α → Option β} {x : α} {r : Option β} (h : o = some x) (h2 : k x = r) : Option.bind o k = r := by rw [h]; exact h2
theorem vwok_ok {n : Nat} {i j : Int} (h : 0 ≤ i ∧ i ≤ j ∧ j ≤ n) : vwok n i j = some () := by unfold vwok; rw [if_pos h]
theorem cpy_app {α : Type} (a c d ys : List α) (n : Nat) (h : c.length = ys.length) (hn : ys.length ≤ n) : cpy (a ++ (c ++ d)) a.length n ys = a ++ (ys ++ d) := by
  unfold cpy
  rw [List.take_left, List.take_of_length_le hn, Nat.min_eq_right hn, ← h, ← List.drop_drop, List.drop_left, List.drop_left, List.append_assoc]
theorem ins_eq (a b : List Keyed) (y : Keyed) (h : a.length + b.length ≤ 1000000) : slices_Insert_Keyed_xe708 (a.length : Int) (a ++ b) [y] = some (a ++ y :: b) := by
  unfold slices_Insert_Keyed_xe708
  refine allC_of (fun C hC => ?_)
  unfold slices_Insert_Keyed_xe708_C
  have hl : (a ++ b).length = a.length + b.length := List.length_append
  have h1 : ([y] : List Keyed).length = 1 := rfl
  have w1 : IntKind.i64.wrap ((((a ++ b).length : Nat) : Int) + (([y] : List Keyed).length : Int)) = ((a.length + b.length + 1 : Nat) : Int) := by rw [wrap_ok (by omega) (by omega)]; omega
  have w2 : IntKind.i64.wrap ((a.length : Int) + (([y] : List Keyed).length : Int)) = ((a.length + 1 : Nat) : Int) := by rw [wrap_ok (by omega) (by omega)]; omega
  have w3 : IntKind.i64.wrap (((a.length + b.length + 1 : Nat) : Int) - (a.length : Int)) = ((b.length + 1 : Nat) : Int) := by rw [wrap_ok (by omega) (by omega)]; omega
  simp only [w1, w2, w3, Int.toNat_natCast]
  refine bnd (vwok_ok (by omega)) ?_
  rw [if_neg (by simp)]
  by_cases hb : b = []
  · subst hb
    rw [if_pos (by simp)]
    refine bnd (app_ok (by simp; omega)) ?_
    simp
  · have hbl : 0 < b.length := List.length_pos_iff.2 hb
    rw [if_neg (by simp; omega)]
    by_cases hg : a.length + b.length + 1 > C
    · rw [if_pos (by simp; omega)]
      refine bnd (vwok_ok (by omega)) ?_
      have hz : growz (a ++ b) a.length C ((b.length + 1 : Nat) : Int) (⟨0, 0⟩ : Keyed) = some (a ++ ([(⟨0, 0⟩ : Keyed)] ++ List.replicate b.length (⟨0, 0⟩ : Keyed))) := by
        unfold growz
        rw [if_pos (by rw [hl]; omega), List.take_left, Int.toNat_natCast, List.replicate_succ]; rfl
      refine bnd hz ?_
      have hzl : (a ++ ([(⟨0, 0⟩ : Keyed)] ++ List.replicate b.length (⟨0, 0⟩ : Keyed))).length = a.length + (b.length + 1) := by simp <;> omega
      have e1 : a.length + (b.length + 1) - a.length = b.length + 1 := by omega
      have c1 := cpy_app a [(⟨0, 0⟩ : Keyed)] (List.replicate b.length (⟨0, 0⟩ : Keyed)) [y] (b.length + 1) rfl (by simp)
      have hal : (a ++ ([y] ++ List.replicate b.length (⟨0, 0⟩ : Keyed))).length = a.length + (b.length + 1) := by simp <;> omega
      have e2 : a.length + (b.length + 1) - (a.length + 1) = b.length := by omega
      simp only [hzl, e1, c1, hal, e2, hl, Nat.zero_add, Nat.add_sub_cancel_left, Int.toNat_natCast]
      refine bnd (vwok_ok (by omega)) (bnd (vwok_ok (by omega)) (bnd (vwok_ok (by omega)) (bnd (vwok_ok (by omega)) (bnd (vwok_ok (by omega)) (bnd (vwok_ok (by omega)) ?_)))))
      rw [List.drop_left, List.take_length]
      have c2 := cpy_app (a ++ [y]) (List.replicate b.length (⟨0, 0⟩ : Keyed)) [] b b.length (by simp) (Nat.le_refl _)
      simp only [List.append_nil, List.length_append, List.length_singleton, List.append_assoc] at c2
      rw [c2]
      simp
    · rw [if_neg (by simp; omega)]
      have hx : roomx (a ++ b).length C ((a.length + b.length + 1 : Nat) : Int) = some 1 := by
        unfold roomx
        rw [if_pos (by rw [hl]; omega), hl, Int.toNat_natCast]
        congr 1; omega
      refine bnd hx ?_
      have e2 : a.length + b.length + 1 - (a.length + 1) = b.length := by omega
      have e3 : a.length + b.length + 1 - a.length = b.length + 1 := by omega
      simp only [hl, Int.toNat_natCast, e2, e3]
      refine bnd (vwok_ok (by omega)) ?_
      refine bnd (show ovok [y] b.length = some () by unfold ovok; rw [if_pos (by simp; omega)]) ?_
      refine bnd (vwok_ok (by omega)) (bnd (vwok_ok (by omega)) ?_)
      have hu : cpyU (a ++ b) 1 (a.length + 1) b.length a.length (b.length + 1) = some (a ++ (b.take 1 ++ b)) := by
        unfold cpyU
        rw [if_pos (by rw [hl]; omega), List.drop_left, List.take_append]
        simp [List.take_of_length_le]
      refine bnd hu ?_
      have htl : (b.take 1).length = 1 := by simp; omega
      have hul : (a ++ (b.take 1 ++ b)).length = a.length + (b.length + 1) := by rw [List.length_append, List.length_append, htl]; omega
      have e1 : a.length + (b.length + 1) - a.length = b.length + 1 := by omega
      have c1 := cpy_app a (b.take 1) b [y] (b.length + 1) (by rw [htl]; rfl) (by simp)
      simp only [hul, e1, c1, Int.toNat_natCast]
      refine bnd (vwok_ok (by omega)) (bnd (vwok_ok (by omega)) ?_)
      rfl

theorem check_ok (m : Memory) : ∃ c, stage_Check m = some c ∧ (c = 0 → m.Keys.length ≤ 6) := by
  unfold stage_Check
  by_cases hl : m.Keys.length ≤ 6
  · rw [if_neg (by simp; omega)]
    obtain ⟨r, h1, _⟩ := iter_inv (body := fun ss => stage_Check_l1 m ss) (fun s => 0 ≤ s ∧ s ≤ (m.Keys.length : Int)) (fun s => (m.Keys.length - s).toNat) (fun _ => True) (fun s hs => by
      unfold stage_Check_l1
      by_cases hlt : s < (m.Keys.length : Int)
      · rw [if_pos (by simpa using hlt)]
        obtain ⟨k, rfl⟩ := Int.eq_ofNat_of_zero_le hs.1
        have hk : k < m.Keys.length := by omega
        have h1 : idx m.Keys (k : Int) = some m.Keys[k] := idx_at (List.getElem?_eq_getElem hk)
        simp only [h1, Option.bind_some]
        have hw : IntKind.i64.wrap ((k : Int) + 1) = ((k + 1 : Nat) : Int) := wrap_1 (by omega)
        have h2 : ∃ c : Bool, (if decide ((m.Keys[k]).N < 1) = true then some true else if decide ((k : Int) > 0) = true then (idx m.Keys (IntKind.i64.wrap ((k : Int) - 1))).bind fun x4 => some (decide (x4.Key ≥ (m.Keys[k]).Key)) else some false) = some c := by
          split
          · exact ⟨_, rfl⟩
          · split
            · rename_i h3
              have h3 : (k : Int) > 0 := by simpa using h3
              have h4 : idx m.Keys (IntKind.i64.wrap ((k : Int) - 1)) = some (m.Keys[k - 1]'(by omega)) := by
                rw [wrap_ok (by omega) (by omega), show (k : Int) - 1 = ((k - 1 : Nat) : Int) by omega]
                exact idx_at (List.getElem?_eq_getElem (by omega))
              rw [h4]; exact ⟨_, rfl⟩
            · exact ⟨_, rfl⟩
        obtain ⟨c, h2⟩ := h2
        rw [h2, Option.bind_some]
        cases c with
        | true => exact .inr ⟨4, rfl, trivial⟩
        | false => exact .inl ⟨_, rfl, by rw [hw]; omega, by rw [hw]; omega⟩
      · rw [if_neg (by simpa using hlt)]
        refine .inr ?_
        split <;> exact ⟨_, rfl, trivial⟩) _ 0 (Nat.le_refl _) (by omega)
    exact ⟨r, h1, fun _ => hl⟩
  · rw [if_pos (by simp; omega)]
    exact ⟨2, rfl, fun h => by omega⟩

theorem cmp_eq (x : Keyed) (k : Int) : stage_Step_1 x k = some (if x.Key < k then -1 else if x.Key > k then 1 else 0) := by
  unfold stage_Step_1
  by_cases h1 : x.Key < k
  · simp [h1]
  · by_cases h2 : x.Key > k <;> simp [h1, h2]
theorem search_ok (l : List Keyed) (key : Int) (hl : l.length ≤ 6) : ∃ (i : Nat) (b : Bool), slices_BinarySearchFunc_Keyed_x37fe l key = some ((i : Int), b) ∧ i ≤ l.length ∧ (b = true → i < l.length) := by
  unfold slices_BinarySearchFunc_Keyed_x37fe
  obtain ⟨r, h1, i, h2, h3, h4⟩ := iter_inv (body := fun ss : Int × Int => slices_BinarySearchFunc_Keyed_x37fe_l1 l key ss.1 ss.2) (fun s => 0 ≤ s.1 ∧ s.1 ≤ s.2 ∧ s.2 ≤ (l.length : Int)) (fun s => (s.2 - s.1).toNat)
    (fun r => ∃ i : Nat, r.1 = (i : Int) ∧ i ≤ l.length ∧ (r.2 = true → i < l.length)) (fun s hs => by
      obtain ⟨s1, s2⟩ := s
      simp only at hs ⊢
      unfold slices_BinarySearchFunc_Keyed_x37fe_l1
      by_cases hlt : s1 < s2
      · rw [if_pos (by simpa using hlt)]
        have e1 : shr .u64 (IntKind.u64.wrap (IntKind.i64.wrap (s1 + s2))) 1 = some ((s1 + s2) / 2) := by
          rw [wrap_ok (by omega) (by omega), IntWalk.u64_in _ ⟨by omega, by omega⟩]
          unfold shr
          rw [if_pos (by decide)]
          congr 1
          show (s1 + s2).fdiv 2 = _
          rw [Int.fdiv_eq_ediv_of_nonneg _ (by decide)]
        rw [e1, Option.bind_some]
        have e2 : IntKind.i64.wrap ((s1 + s2) / 2) = (s1 + s2) / 2 := wrap_ok (by omega) (by omega)
        have e3 : idx l ((s1 + s2) / 2) = some (l[((s1 + s2) / 2).toNat]'(by omega)) := by
          unfold idx; rw [if_pos (by omega)]; exact List.getElem?_eq_getElem (by omega)
        have e4 : IntKind.i64.wrap ((s1 + s2) / 2 + 1) = (s1 + s2) / 2 + 1 := wrap_ok (by omega) (by omega)
        rw [e2, e3, Option.bind_some, cmp_eq, Option.bind_some, e4]
        refine .inl ?_
        by_cases hk : (l[((s1 + s2) / 2).toNat]'(by omega)).Key < key
        · rw [if_pos hk]
          exact ⟨((s1 + s2) / 2 + 1, s2), rfl, by show 0 ≤ (s1 + s2) / 2 + 1 ∧ (s1 + s2) / 2 + 1 ≤ s2 ∧ s2 ≤ _; omega, by show (s2 - ((s1 + s2) / 2 + 1)).toNat < (s2 - s1).toNat; omega⟩
        · have : (if decide ((if (l[((s1 + s2) / 2).toNat]'(by omega)).Key < key then (-1 : Int) else if (l[((s1 + s2) / 2).toNat]'(by omega)).Key > key then 1 else 0) < 0) = true then (some (.inl ((s1 + s2) / 2 + 1, s2)) : Option ((Int × Int) ⊕ (Int × Bool))) else some (.inl (s1, (s1 + s2) / 2))) = some (.inl (s1, (s1 + s2) / 2)) := by
            rw [if_neg hk]
            split <;> rfl
          exact ⟨(s1, (s1 + s2) / 2), this, by show 0 ≤ s1 ∧ s1 ≤ (s1 + s2) / 2 ∧ (s1 + s2) / 2 ≤ _; omega, by show ((s1 + s2) / 2 - s1).toNat < (s2 - s1).toNat; omega⟩
      · rw [if_neg (by simpa using hlt)]
        refine .inr ?_
        obtain ⟨k, rfl⟩ := Int.eq_ofNat_of_zero_le hs.1
        by_cases hk : k < l.length
        · rw [if_pos (by simp; omega), idx_at (List.getElem?_eq_getElem hk), Option.bind_some, cmp_eq]
          exact ⟨_, rfl, k, rfl, by omega, fun _ => hk⟩
        · rw [if_neg (by simp; omega)]
          exact ⟨_, rfl, k, rfl, by omega, fun h => by simp at h⟩) _ (0, (l.length : Int)) (Nat.le_refl _) (by simp)
  obtain ⟨r1, r2⟩ := r
  simp only at h2
  subst h2
  exact ⟨i, r2, h1, h3, h4⟩

theorem max_le (a b : Int) : a ≤ (if a > b then a else b) := by split <;> omega
theorem k1_ok (x : Item) (m : Memory) (q : Int × Bool) (z : List Keyed) (i : Nat) (hq : q.1 = (i : Int)) (hi : i < z.length) : ∃ m' y, stage_Step_k1 x m q z = some (m', y, 0) ∧ y.Key = x.Key ∧ x.Dep ≤ y.Dep := by
  unfold stage_Step_k1
  have h1 : i < (List.set z i (⟨(z[i]).Key, IntKind.i64.wrap ((z[i]).N + 1)⟩ : Keyed)).length := by simpa using hi
  simp only [hq, ixN_at hi, Option.bind_some, List.getElem?_eq_getElem hi]
  rw [ixN_at h1, Option.bind_some, List.getElem?_eq_getElem h1, Option.bind_some]
  exact ⟨_, _, rfl, rfl, max_le _ _⟩
theorem mapped_ok (f : Int) (x : Item) (h0 : 0 ≤ f) (h3 : f ≤ 3) : ∃ y, stage_mapped f x = some y ∧ y.Key = x.Key ∧ y.Dep = x.Dep := by
  have : f = 0 ∨ f = 1 ∨ f = 2 ∨ f = 3 := by omega
  rcases this with rfl | rfl | rfl | rfl <;> exact ⟨_, rfl, rfl, rfl⟩
theorem step_ok (k f : Int) (m : Memory) (x : Item) : ∃ m' y e, stage_Step k f m x = some (m', y, e) ∧ (e = 0 → y.Key = x.Key ∧ x.Dep ≤ y.Dep) := by
  unfold stage_Step
  obtain ⟨c, h1, h2⟩ := check_ok m
  rw [h1, Option.bind_some]
  by_cases hc : c = 0
  · subst hc
    rw [if_neg (by simp)]
    by_cases hd : x.Dep < 0
    · rw [if_pos (by simpa using hd)]; exact ⟨_, _, _, rfl, fun h => absurd h (by decide)⟩
    · rw [if_neg (by simpa using hd)]
      have hcl : slices_Clone_Keyed m.Keys = some m.Keys := by
        unfold slices_Clone_Keyed
        rw [app_ok (by have := h2 rfl; simp; omega)]; rfl
      have hco : stage_Copy m = some m := by unfold stage_Copy; rw [hcl]; rfl
      rw [hco, Option.bind_some]
      have same : ∃ m' y e, (some (m, x, (0 : Int)) : Option (Memory × Item × Int)) = some (m', y, e) ∧ (e = 0 → y.Key = x.Key ∧ x.Dep ≤ y.Dep) := ⟨_, _, _, rfl, fun _ => ⟨rfl, Int.le_refl _⟩⟩
      split
      · split
        · exact ⟨_, _, _, rfl, fun h => absurd h (by decide)⟩
        · rename_i hf
          simp at hf
          obtain ⟨y, h3, h4, h5⟩ := mapped_ok f x hf.1 hf.2
          rw [h3]
          exact ⟨_, _, _, rfl, fun _ => ⟨h4, by rw [h5]; exact Int.le_refl _⟩⟩
      · split
        · exact ⟨_, _, _, rfl, fun _ => ⟨rfl, max_le _ _⟩⟩
        · split
          · obtain ⟨i, b, h3, h4, h5⟩ := search_ok m.Keys x.Key (h2 rfl)
            rw [h3, Option.bind_some]
            split
            · exact ⟨_, _, _, rfl, fun _ => ⟨rfl, max_le _ _⟩⟩
            · cases b with
              | false =>
                rw [if_pos (by simp)]
                have h6 := ins_eq (m.Keys.take i) (m.Keys.drop i) (⟨x.Key, 0⟩ : Keyed) (by simp; have := h2 rfl; omega)
                rw [List.take_append_drop, List.length_take, Nat.min_eq_left h4] at h6
                simp only
                rw [h6, Option.bind_some]
                obtain ⟨m', y, h7, h8⟩ := k1_ok x m ((i : Int), false) (m.Keys.take i ++ (⟨x.Key, 0⟩ : Keyed) :: m.Keys.drop i) i rfl (by simp; omega)
                exact ⟨_, _, _, h7, fun _ => h8⟩
              | true =>
                rw [if_neg (by simp)]
                obtain ⟨m', y, h7, h8⟩ := k1_ok x m ((i : Int), true) m.Keys i rfl (h5 rfl)
                exact ⟨_, _, _, h7, fun _ => h8⟩
          · repeat' split
            all_goals first
              | exact same
              | exact ⟨_, _, _, rfl, fun h => absurd h (by decide)⟩
  · rw [if_pos (by simpa using hc)]
    exact ⟨_, _, _, rfl, fun h => absurd h hc⟩
noncomputable def stepF (k f : Int) (m : Memory) (x : Item) : Memory × Item × Int := (stage_Step k f m x).getD (⟨0, [], 0⟩, ⟨0, 0, 0⟩, 0)
theorem step_eq (k f : Int) (m : Memory) (x : Item) : stage_Step k f m x = some (stepF k f m x) := by
  obtain ⟨m', y, e, h, _⟩ := step_ok k f m x
  unfold stepF; rw [h]; rfl
theorem stepF_ok (k f : Int) (m : Memory) (x : Item) (h : (stepF k f m x).2.2 = 0) : (stepF k f m x).2.1.Key = x.Key ∧ x.Dep ≤ (stepF k f m x).2.1.Dep := by
  obtain ⟨m', y, e, h1, h2⟩ := step_ok k f m x
  rw [step_eq] at h1
  have := Option.some.inj h1
  rw [this] at h ⊢
  exact h2 h

noncomputable def allF (k f : Int) : Memory → List Item → List Item → List Item × Int
  | _, [], out => (out, 0)
  | m, x :: xs, out => if (stepF k f m x).2.2 = 0 then allF k f (stepF k f m x).1 xs (out ++ [(stepF k f m x).2.1]) else ([], (stepF k f m x).2.2)
theorem all_fold (k f : Int) (xs : List Item) : ∀ (j : Nat) (m : Memory) (out : List Item), out.length + xs.length ≤ 1000 →
    foldE (fun (_ : Nat) (x : Item) (st : Memory × List Item) => if (stepF k f st.1 x).2.2 = 0 then (app st.2 [(stepF k f st.1 x).2.1]).map (fun o => .inl ((stepF k f st.1 x).1, o)) else some (.inr (([] : List Item), (stepF k f st.1 x).2.2))) (fun st => some (st.2, (0 : Int))) j xs (m, out) = some (allF k f m xs out) := by
  induction xs with
  | nil => intro j m out _; rfl
  | cons x xs ih =>
    intro j m out h
    unfold foldE allF
    simp only [List.length_cons] at h
    by_cases he : (stepF k f m x).2.2 = 0
    · rw [if_pos he, if_pos he, app_ok (by simp; omega)]
      exact ih _ _ _ (by simp; omega)
    · rw [if_neg he, if_neg he]
theorem all_eq (k f : Int) (xs : List Item) (h : xs.length ≤ 20) : stage_All k f xs = some (allF k f ⟨0, [], 0⟩ xs []) := by
  unfold stage_All
  rw [if_neg (by simp; omega)]
  have := iter_list0 (σ := Memory × List Item) xs (by omega) (fun j st => ((j : Int), st.1.Sum, st.1.Keys, st.1.Dep, st.2)) (body := fun ss : Int × Int × List Keyed × Int × List Item => stage_All_l1 k f xs ss.1 ss.2.1 ss.2.2.1 ss.2.2.2.1 ss.2.2.2.2)
    (fun (_ : Nat) (x : Item) (st : Memory × List Item) => if (stepF k f st.1 x).2.2 = 0 then (app st.2 [(stepF k f st.1 x).2.1]).map (fun o => .inl ((stepF k f st.1 x).1, o)) else some (.inr (([] : List Item), (stepF k f st.1 x).2.2))) (fun st => some (st.2, (0 : Int))) (⟨0, [], 0⟩, [])
    (fun j x st hk hlt h1 h2 h3 => by
      unfold stage_All_l1
      simp only
      rw [if_pos h2, h1, Option.bind_some, step_eq, Option.bind_some]
      by_cases he : (stepF k f st.1 x).2.2 = 0
      · rw [if_neg (by simp [he]), if_pos he]
        cases app st.2 [(stepF k f st.1 x).2.1] with
        | none => rfl
        | some o => simp [h3]
      · rw [if_pos (by simpa using he), if_neg he]; rfl) (fun st h1 => by
      unfold stage_All_l1
      simp only
      rw [h1]; simp)
  rw [all_fold k f xs 0 ⟨0, [], 0⟩ [] (by simp; omega)] at this
  exact this
theorem all_pre (k f : Int) : ∀ (xs : List Item) (m : Memory) (out : List Item), (allF k f m xs out).2 = 0 → ∃ ys : List Item, (allF k f m xs out).1 = out ++ ys ∧ ys.length = xs.length ∧ (∀ j, allF k f m (xs.take j) out = (out ++ ys.take j, 0)) ∧ ∀ (i : Nat) x y, xs[i]? = some x → ys[i]? = some y → y.Key = x.Key ∧ x.Dep ≤ y.Dep
  | [], m, out, h => ⟨[], by simp [allF], rfl, fun j => by simp [allF], fun i x y hx => by simp at hx⟩
  | x :: xs, m, out, h => by
    unfold allF at h
    by_cases he : (stepF k f m x).2.2 = 0
    · rw [if_pos he] at h
      obtain ⟨ys, h1, h2, h3, h4⟩ := all_pre k f xs _ _ h
      refine ⟨(stepF k f m x).2.1 :: ys, ?_, by simp [h2], fun j => ?_, fun i a b ha hb => ?_⟩
      · conv => lhs; unfold allF
        rw [if_pos he, h1]; simp
      · cases j with
        | zero => simp [allF]
        | succ j =>
          rw [List.take_succ_cons, List.take_succ_cons]
          conv => lhs; unfold allF
          rw [if_pos he, h3 j]; simp
      · cases i with
        | zero => simp at ha hb; subst ha hb; exact stepF_ok k f m x he
        | succ i => exact h4 i a b (by simpa using ha) (by simpa using hb)
    · rw [if_neg he] at h
      exact absurd h he

theorem slices_Equal_Item_eq (a b : List Item) (ha : a.length ≤ 1099511627776) : slices_Equal_Item a b = some (decide (a = b)) := by
  unfold slices_Equal_Item
  by_cases hl : a.length = b.length
  · rw [if_neg (by simp; omega)]
    exact equal_loop a b ha hl (fun k x y h1 h2 h3 h4 => by
      unfold slices_Equal_Item_l1
      rw [h1, h2, h3, h4]
      by_cases h : x = y <;> simp [h]) (fun h => by
      unfold slices_Equal_Item_l1
      rw [h]; simp)
  · rw [if_pos (by simp; omega)]
    have : a ≠ b := fun e => hl (by rw [e])
    simp [this]

/- the closed fact -/
theorem step3 (s d : Int) (x : Item) (hd : 0 ≤ d) (hx : 0 ≤ x.Dep) : stepF 3 0 ⟨s, [], d⟩ x = (⟨IntKind.i64.wrap (s + x.Val), [], if x.Dep > d then x.Dep else d⟩, ⟨x.Key, IntKind.i64.wrap (s + x.Val), if x.Dep > d then x.Dep else d⟩, 0) := by
  have h1 : stage_Check ⟨s, [], d⟩ = some 0 := by
    unfold stage_Check
    rw [if_neg (by simp), iter_eq]
    unfold stage_Check_l1
    have : ¬ d < 0 := by omega
    simp [this]
  have h2 : stage_Copy ⟨s, [], d⟩ = some ⟨s, [], d⟩ := rfl
  have h3 : ¬ x.Dep < 0 := by omega
  have : stage_Step 3 0 ⟨s, [], d⟩ x = some (⟨IntKind.i64.wrap (s + x.Val), [], if x.Dep > d then x.Dep else d⟩, ⟨x.Key, IntKind.i64.wrap (s + x.Val), if x.Dep > d then x.Dep else d⟩, 0) := by
    unfold stage_Step
    rw [h1, Option.bind_some, if_neg (by simp), if_neg (by simpa using h3), h2]
    rfl
  unfold stepF; rw [this]; rfl
theorem step4a : stepF 4 0 ⟨0, [], 0⟩ ⟨1, 2, 0⟩ = (⟨0, [⟨1, 1⟩], 0⟩, ⟨1, 1, 0⟩, 0) := by
  have h1 : stage_Check ⟨0, [], 0⟩ = some 0 := by
    unfold stage_Check
    rw [if_neg (by simp), iter_eq]
    unfold stage_Check_l1
    simp
  have h2 : stage_Copy ⟨0, [], 0⟩ = some ⟨0, [], 0⟩ := rfl
  have h3 : slices_BinarySearchFunc_Keyed_x37fe [] 1 = some (0, false) := by
    unfold slices_BinarySearchFunc_Keyed_x37fe
    rw [iter_eq]
    unfold slices_BinarySearchFunc_Keyed_x37fe_l1
    simp
  have h4 : slices_Insert_Keyed_xe708 0 [] [(⟨1, 0⟩ : Keyed)] = some [⟨1, 0⟩] := ins_eq [] [] ⟨1, 0⟩ (by simp)
  have : stage_Step 4 0 ⟨0, [], 0⟩ ⟨1, 2, 0⟩ = some (⟨0, [⟨1, 1⟩], 0⟩, ⟨1, 1, 0⟩, 0) := by
    unfold stage_Step
    rw [h1, Option.bind_some, if_neg (by simp), if_neg (by simp), h2, Option.bind_some, if_neg (by simp), if_neg (by simp), if_pos (by simp)]
    simp only [h3, Option.bind_some]
    rw [if_neg (by simp), if_pos (by simp)]
    simp only [h4, Option.bind_some]
    rfl
  unfold stepF; rw [this]; rfl
theorem step4b : stepF 4 0 ⟨0, [⟨1, 1⟩], 0⟩ ⟨1, 9, 0⟩ = (⟨0, [⟨1, 2⟩], 0⟩, ⟨1, 2, 0⟩, 0) := by
  have h1 : stage_Check ⟨0, [⟨1, 1⟩], 0⟩ = some 0 := by
    unfold stage_Check
    rw [if_neg (by simp), iter_eq]
    have e1 : stage_Check_l1 ⟨0, [⟨1, 1⟩], 0⟩ 0 = some (.inl 1) := rfl
    have e2 : stage_Check_l1 ⟨0, [⟨1, 1⟩], 0⟩ 1 = some (.inr 0) := rfl
    rw [e1]; simp only
    rw [iter_eq, e2]
  have h2 : stage_Copy ⟨0, [⟨1, 1⟩], 0⟩ = some ⟨0, [⟨1, 1⟩], 0⟩ := rfl
  have h3 : slices_BinarySearchFunc_Keyed_x37fe [⟨1, 1⟩] 1 = some (0, true) := by
    unfold slices_BinarySearchFunc_Keyed_x37fe
    rw [iter_eq]
    have e1 : slices_BinarySearchFunc_Keyed_x37fe_l1 [⟨1, 1⟩] 1 0 (([⟨1, 1⟩] : List Keyed).length : Int) = some (.inl (0, 0)) := rfl
    have e2 : slices_BinarySearchFunc_Keyed_x37fe_l1 [⟨1, 1⟩] 1 0 0 = some (.inr (0, true)) := rfl
    simp only [e1]
    rw [iter_eq]
    simp only [e2]
  have : stage_Step 4 0 ⟨0, [⟨1, 1⟩], 0⟩ ⟨1, 9, 0⟩ = some (⟨0, [⟨1, 2⟩], 0⟩, ⟨1, 2, 0⟩, 0) := by
    unfold stage_Step
    rw [h1, Option.bind_some, if_neg (by simp), if_neg (by simp), h2, Option.bind_some, if_neg (by simp), if_neg (by simp), if_pos (by simp)]
    simp only [h3, Option.bind_some]
    rw [if_neg (by simp), if_neg (by simp)]
    rfl
  unfold stepF; rw [this]; rfl
theorem staged_true : crosslaw_staged = some true := by
  unfold crosslaw_staged
  have i1 : ∀ a b : Int, crosslaw_item a b = some ⟨a, b, 0⟩ := fun _ _ => rfl
  have a1 : allF 3 0 ⟨0, [], 0⟩ [⟨1, 2, 0⟩, ⟨5, 3, 0⟩] [] = ([⟨1, 2, 0⟩, ⟨5, 5, 0⟩], 0) := by
    unfold allF
    rw [step3 0 0 ⟨1, 2, 0⟩ (by decide) (by decide)]
    have w1 : IntKind.i64.wrap (0 + 2) = 2 := rfl
    simp only [w1]
    rw [if_pos trivial]
    unfold allF
    have e : (if (0 : Int) > 0 then (0 : Int) else 0) = 0 := rfl
    rw [e, step3 2 0 ⟨5, 3, 0⟩ (by decide) (by decide)]
    have w2 : IntKind.i64.wrap (2 + 3) = 5 := rfl
    simp only [w2]
    rw [if_pos trivial]
    rfl
  have a2 : allF 4 0 ⟨0, [], 0⟩ [⟨1, 2, 0⟩, ⟨1, 9, 0⟩] [] = ([⟨1, 1, 0⟩, ⟨1, 2, 0⟩], 0) := by
    unfold allF
    rw [step4a]
    simp only
    rw [if_pos trivial]
    unfold allF
    rw [step4b]
    simp only
    rw [if_pos trivial]
    rfl
  simp only [i1, Option.bind_some]
  rw [all_eq 3 0 _ (by decide), all_eq 4 0 _ (by decide), a1, a2]
  simp only [Option.bind_some]
  rw [slices_Equal_Item_eq _ _ (by decide), slices_Equal_Item_eq _ _ (by decide)]
  rfl

end Go.Proofs.Ytegkmfokfakeiaa
