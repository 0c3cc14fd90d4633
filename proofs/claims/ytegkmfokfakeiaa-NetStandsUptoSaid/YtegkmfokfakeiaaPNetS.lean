/-
  Merges and sources of a net, plain; the closed fact; the laws NetOrder, NetSources.
-/
import Derived.Test.YtegkmfokfakeiaaPNetR
namespace Go.Proofs.Ytegkmfokfakeiaa
set_option linter.unusedVariables false
set_option linter.unusedSimpArgs false

theorem netR_ok {n : Net} (h : (netR n).2 = 0) : ∃ l out, lookN n = .inr l ∧ NetL n l ∧ ordN l n.Nodes n.Nodes.length [] = some out ∧ netR n = (out.map (fun i : Nat => (i : Int)), 0) := by
  unfold netR at h ⊢
  cases hl : lookN n with
  | inl e => rw [hl] at h; simp only at h; subst h; exact absurd hl (lookN_ne n)
  | inr l =>
    rw [hl] at h
    simp only at h ⊢
    cases ho : ordN l n.Nodes n.Nodes.length [] with
    | none => rw [ho] at h; simp at h
    | some out => exact ⟨l, out, rfl, lookN_ok hl, ho, rfl⟩
theorem netR_bad {n : Net} (h : (netR n).2 ≠ 0) : (netR n).1 = [] := by
  unfold netR at h ⊢
  cases hl : lookN n with
  | inl e => rfl
  | inr l =>
    rw [hl] at h
    simp only at h ⊢
    cases ho : ordN l n.Nodes n.Nodes.length [] with
    | none => rfl
    | some out => rw [ho] at h; simp at h
theorem net_io {n : Net} (h : mNet n ≤ 1048576) : ∀ x ∈ n.Nodes, x.In.length ≤ 1099511627776 ∧ x.Out.length ≤ 1099511627776 := fun x hx => by
  have h1 : mNode x ≤ mL mNode n.Nodes := sum_le hx
  have h0 : mNode x = mL mI x.In + mL mI x.Out + 2 := rfl
  have h2 : x.In.length ≤ mL mI x.In := len_le (fun _ => Nat.le_refl 1) _
  have h3 : x.Out.length ≤ mL mI x.Out := len_le (fun _ => Nat.le_refl 1) _
  unfold mNet at h
  omega

/- merges -/
def mergesN : Nat → List Node → List Int
  | _, [] => []
  | k, x :: xs => if x.Kind = 6 then (k : Int) :: mergesN (k + 1) xs else mergesN (k + 1) xs
theorem merges_l1 (n : Net) (hn : n.Nodes.length ≤ 12) : ∀ (m k : Nat) (acc : List Int), k + m = n.Nodes.length → acc.length ≤ k →
    iter (fun ss : Int × List Int => net_Merges_l1 n ss.1 ss.2) ((k : Int), acc) = some (acc ++ mergesN k (n.Nodes.drop k), 0)
  | 0, k, acc, h, ha => by
    have hk : k = n.Nodes.length := by omega
    subst hk
    have : net_Merges_l1 n (n.Nodes.length : Int) acc = some (.inr (acc, 0)) := by unfold net_Merges_l1; rw [if_neg (by simp)]; rfl
    rw [iter_eq]
    simp only [this, List.drop_length, mergesN, List.append_nil]
  | m + 1, k, acc, h, ha => by
    have hlt : k < n.Nodes.length := by omega
    have hx : n.Nodes[k]? = some n.Nodes[k] := List.getElem?_eq_getElem hlt
    have hstep : net_Merges_l1 n (k : Int) acc = some (.inl (((k + 1 : Nat) : Int), if n.Nodes[k].Kind = 6 then acc ++ [(k : Int)] else acc)) := by
      unfold net_Merges_l1
      rw [if_pos (by simp; omega), idx_at hx, Option.bind_some, wrap_1 (by omega), app_ok (by simp; omega)]
      by_cases h6 : n.Nodes[k].Kind = 6 <;> simp [h6]
    rw [iter_eq]
    simp only [hstep]
    rw [merges_l1 n hn m (k + 1) _ (by omega) (by split <;> (try simp) <;> omega), List.drop_eq_getElem_cons hlt, mergesN]
    by_cases h6 : n.Nodes[k].Kind = 6 <;> simp [h6]
theorem net_Merges_eq (n : Net) (hio : ∀ x ∈ n.Nodes, x.In.length ≤ 1099511627776 ∧ x.Out.length ≤ 1099511627776) : net_Merges n = some (if (netR n).2 ≠ 0 then ([], (netR n).2) else (mergesN 0 n.Nodes, 0)) := by
  unfold net_Merges
  rw [net_Check_eq n hio, Option.bind_some]
  by_cases h : (netR n).2 = 0
  · obtain ⟨l, out, _, hl, _, _⟩ := netR_ok h
    rw [if_neg (by simp [h]), if_neg (by simp [h])]
    have := merges_l1 n hl.n2 n.Nodes.length 0 [] (by omega) (by simp)
    simp only [Int.natCast_zero, List.drop_zero, List.nil_append] at this
    exact this
  · rw [if_pos (by simpa using h), if_pos h]
theorem slices_Equal_int_eq (a b : List Int) (ha : a.length ≤ 1099511627776) : slices_Equal_int a b = some (decide (a = b)) := by
  unfold slices_Equal_int
  by_cases hl : a.length = b.length
  · rw [if_neg (by simp; omega)]
    exact equal_loop a b ha hl (fun k x y h1 h2 h3 h4 => by
      unfold slices_Equal_int_l1
      rw [h1, h2, h3, h4]
      by_cases h : x = y <;> simp [h]) (fun h => by
      unfold slices_Equal_int_l1
      rw [h]; simp)
  · rw [if_pos (by simp; omega)]
    have : a ≠ b := fun e => hl (by rw [e])
    simp [this]

/- sources -/
def itemsErr : List (List Item) → Int
  | [] => 0
  | s :: r => if 20 < s.length then 2 else if s.any (fun x => decide (x.Dep ≠ 0)) then 4 else itemsErr r
def seenErr (len : Nat) : List Node → List Int → Int
  | [], _ => 0
  | x :: xs, seen => if x.Kind ≠ 1 then seenErr len xs seen else if (len : Int) ≤ x.A then 5 else if x.A ∈ seen then 6 else seenErr len xs (x.A :: seen)
/-- What is wrong with a net's sources. -/
def srcR (n : Net) (l : List (List Item)) : Int := if (netR n).2 ≠ 0 then (netR n).2 else if 4 < l.length then 2 else if itemsErr l ≠ 0 then itemsErr l else seenErr l.length n.Nodes []

/-- The first two parts: the items. -/
theorem items_loop (l : List (List Item)) (hl : l.length ≤ 4) {body : Int → Option (Int ⊕ Int)} {inner : Nat → List Item → Int → Option (Int ⊕ (Int ⊕ Int))} (fin : Option Int)
    (h1 : ∀ (k : Nat) s, l[k]? = some s → k < l.length → body (k : Int) = if 20 < s.length then some (.inr 2) else iter (inner k s) 0)
    (h2 : body (l.length : Int) = fin.map Sum.inr)
    (h3 : ∀ (k : Nat) s (j : Nat) x, l[k]? = some s → k < l.length → s[j]? = some x → j < 20 → inner k s (j : Int) = if x.Dep ≠ 0 then some (.inr (.inr 4)) else some (.inl ((j + 1 : Nat) : Int)))
    (h4 : ∀ (k : Nat) s, l[k]? = some s → k < l.length → inner k s (s.length : Int) = some (.inr (.inl ((k + 1 : Nat) : Int)))) :
    ∀ (m k : Nat), k + m = l.length → iter body (k : Int) = if itemsErr (l.drop k) ≠ 0 then some (itemsErr (l.drop k)) else fin
  | 0, k, h => by
    have hk : k = l.length := by omega
    subst hk
    rw [iter_eq, h2, List.drop_length]
    simp only [itemsErr, ne_eq, not_true_eq_false, if_false]
    cases fin <;> rfl
  | m + 1, k, h => by
    have hlt : k < l.length := by omega
    have hs : l[k]? = some l[k] := List.getElem?_eq_getElem hlt
    rw [iter_eq, h1 k _ hs hlt, List.drop_eq_getElem_cons hlt]
    generalize hsq : l[k] = s at *
    simp only [itemsErr]
    by_cases h20 : 20 < s.length
    · simp [h20]
    · simp only [if_neg h20]
      have key : ∀ (q j : Nat), j + q = s.length → iter (inner k s) (j : Int) = if (s.drop j).any (fun x => decide (x.Dep ≠ 0)) then some (.inr 4) else some (.inl ((k + 1 : Nat) : Int)) := by
        intro q
        induction q with
        | zero =>
          intro j hj
          have hj : j = s.length := by omega
          subst hj
          rw [iter_eq, h4 k s hs hlt, List.drop_length]
          simp
        | succ q ih =>
          intro j hj
          have hjl : j < s.length := by omega
          rw [iter_eq, h3 k s j s[j] hs hlt (List.getElem?_eq_getElem hjl) (by omega), List.drop_eq_getElem_cons hjl, List.any_cons]
          by_cases hd : s[j].Dep ≠ 0
          · simp [hd]
          · rw [if_neg hd]
            simp only
            rw [ih (j + 1) (by omega)]
            simp [hd]
      have := key s.length 0 (by omega)
      simp only [Int.natCast_zero, List.drop_zero] at this
      rw [this]
      by_cases hany : s.any (fun x => decide (x.Dep ≠ 0)) = true
      · simp only [if_pos hany]; simp
      · simp only [if_neg hany]
        exact items_loop l hl fin h1 h2 h3 h4 m (k + 1) (by omega)
theorem seenL_get {N : Nat} (hN : N ≤ 4) (seen : List Int) {a : Int} (h0 : 0 ≤ a) (h1 : a < N) : ((List.range N).map fun i : Nat => decide ((i : Int) ∈ seen))[a.toNat]? = some (decide (a ∈ seen)) := by
  rw [List.getElem?_map, List.getElem?_range (by omega)]
  simp only [Option.map_some, Option.some.injEq]
  rw [Int.toNat_of_nonneg h0]
theorem seen_prog (n : Net) (l : List (List Item)) (hl : l.length ≤ 4) (hn : n.Nodes.length ≤ 12) (hA : ∀ x ∈ n.Nodes, 0 ≤ x.A) : ∀ (m k : Nat) (seen : List Int), k + m = n.Nodes.length →
    iter (fun ss : Int × List Bool => net_Sources_l2 n l ss.1 ss.2) ((k : Int), (List.range l.length).map fun i : Nat => decide ((i : Int) ∈ seen)) = some (seenErr l.length (n.Nodes.drop k) seen)
  | 0, k, seen, h => by
    have hk : k = n.Nodes.length := by omega
    subst hk
    have : ∀ b, net_Sources_l2 n l (n.Nodes.length : Int) b = some (.inr 0) := fun b => by unfold net_Sources_l2; rw [if_neg (by simp)]; rfl
    rw [iter_eq]
    simp only [this, List.drop_length, seenErr]
  | m + 1, k, seen, h => by
    have hlt : k < n.Nodes.length := by omega
    have hx : n.Nodes[k]? = some n.Nodes[k] := List.getElem?_eq_getElem hlt
    have hA' := hA _ (List.getElem_mem hlt)
    rw [List.drop_eq_getElem_cons hlt, iter_eq]
    generalize hxq : n.Nodes[k] = x at *
    simp only [seenErr]
    have hstep : net_Sources_l2 n l (k : Int) ((List.range l.length).map fun i : Nat => decide ((i : Int) ∈ seen)) = if x.Kind ≠ 1 then some (.inl (((k + 1 : Nat) : Int), (List.range l.length).map fun i : Nat => decide ((i : Int) ∈ seen))) else if (l.length : Int) ≤ x.A then some (.inr 5) else if x.A ∈ seen then some (.inr 6) else some (.inl (((k + 1 : Nat) : Int), (List.range l.length).map fun i : Nat => decide ((i : Int) ∈ x.A :: seen))) := by
      unfold net_Sources_l2
      rw [if_pos (by simp; omega), idx_at hx, Option.bind_some, wrap_1 (by omega)]
      by_cases h1 : x.Kind ≠ 1
      · rw [if_pos (by simpa using h1), if_pos h1]
      · rw [if_neg (by simpa using h1), if_neg h1]
        by_cases h2 : (l.length : Int) ≤ x.A
        · rw [if_pos (by simpa using h2), if_pos h2]; rfl
        · rw [if_neg (by simpa using h2), if_neg h2]
          have hix : ixN ((List.range l.length).map fun i : Nat => decide ((i : Int) ∈ seen)) x.A = some x.A.toNat := by unfold ixN; rw [if_pos (by simp; omega)]
          have hg := seenL_get hl seen hA' (show x.A < l.length by omega)
          simp only [hix, hg, Option.bind_some]
          by_cases h3 : x.A ∈ seen
          · simp [h3]
          · simp only [h3, decide_false, Bool.false_eq_true, if_false]
            congr 3
            apply List.ext_getElem?
            intro j
            rw [List.getElem?_set, List.getElem?_map, List.getElem?_map]
            by_cases hj : j < l.length
            · rw [List.getElem?_range hj]
              simp only [List.length_map, List.length_range, Option.map_some]
              by_cases hjx : x.A.toNat = j
              · rw [if_pos hjx, if_pos (by omega)]
                have : (j : Int) = x.A := by omega
                simp [this]
              · rw [if_neg hjx]
                have : ¬ (j : Int) = x.A := by omega
                simp [this]
            · rw [if_neg (by omega), List.getElem?_eq_none (by simp; omega)]; rfl
    rw [hstep]
    by_cases h1 : x.Kind ≠ 1
    · simp only [if_pos h1]
      exact seen_prog n l hl hn hA m (k + 1) seen (by omega)
    · simp only [if_neg h1]
      by_cases h2 : (l.length : Int) ≤ x.A
      · simp only [if_pos h2]
      · simp only [if_neg h2]
        by_cases h3 : x.A ∈ seen
        · simp only [if_pos h3]
        · simp only [if_neg h3]
          exact seen_prog n l hl hn hA m (k + 1) (x.A :: seen) (by omega)
theorem seen_ref (n : Net) (l : List (List Item)) (hl : l.length ≤ 4) (hn : n.Nodes.length ≤ 12) : ∀ (m k : Nat) (seen : List Int) (rd : List (Int × Int)), k + m = n.Nodes.length → (∀ a, mget a rd = if a ∈ seen then some 1 else none) →
    iter (fun ss : Int × List (Int × Int) => crossref_CheckSources_l2 n l ss.1 ss.2) ((k : Int), rd) = some (seenErr l.length (n.Nodes.drop k) seen)
  | 0, k, seen, rd, h, hr => by
    have hk : k = n.Nodes.length := by omega
    subst hk
    have : ∀ b, crossref_CheckSources_l2 n l (n.Nodes.length : Int) b = some (.inr 0) := fun b => by unfold crossref_CheckSources_l2; rw [if_neg (by simp)]; rfl
    rw [iter_eq]
    simp only [this, List.drop_length, seenErr]
  | m + 1, k, seen, rd, h, hr => by
    have hlt : k < n.Nodes.length := by omega
    have hx : n.Nodes[k]? = some n.Nodes[k] := List.getElem?_eq_getElem hlt
    rw [List.drop_eq_getElem_cons hlt, iter_eq]
    generalize hxq : n.Nodes[k] = x at *
    simp only [seenErr]
    have hstep : crossref_CheckSources_l2 n l (k : Int) rd = if x.Kind ≠ 1 then some (.inl (((k + 1 : Nat) : Int), rd)) else if (l.length : Int) ≤ x.A then some (.inr 5) else if x.A ∈ seen then some (.inr 6) else some (.inl (((k + 1 : Nat) : Int), mset x.A 1 rd)) := by
      unfold crossref_CheckSources_l2
      rw [if_pos (by simp; omega), idx_at hx, Option.bind_some, wrap_1 (by omega), mget_mset_same, hr]
      by_cases h1 : x.Kind ≠ 1
      · rw [if_neg (by simpa using h1), if_pos h1]
      · rw [if_pos (by simpa using h1), if_neg h1]
        by_cases h2 : (l.length : Int) ≤ x.A
        · rw [if_pos (by simpa using h2), if_pos h2]; rfl
        · rw [if_neg (by simpa using h2), if_neg h2]
          by_cases h3 : x.A ∈ seen
          · rw [if_pos h3, if_pos h3, if_pos (by decide)]; rfl
          · rw [if_neg h3, if_neg h3, if_neg (by decide)]
            rfl
    rw [hstep]
    by_cases h1 : x.Kind ≠ 1
    · simp only [if_pos h1]
      exact seen_ref n l hl hn m (k + 1) seen rd (by omega) hr
    · simp only [if_neg h1]
      by_cases h2 : (l.length : Int) ≤ x.A
      · simp only [if_pos h2]
      · simp only [if_neg h2]
        by_cases h3 : x.A ∈ seen
        · simp only [if_pos h3]
        · simp only [if_neg h3]
          refine seen_ref n l hl hn m (k + 1) (x.A :: seen) _ (by omega) (fun a => ?_)
          by_cases ha : a = x.A
          · subst ha; rw [mget_mset_same]; simp
          · rw [mget_mset_ne 1 ha, hr a]; simp [ha]
theorem nodeA {n : Net} {l : List Ends} (h : NetL n l) : ∀ x ∈ n.Nodes, 0 ≤ x.A := fun x hx => by
  obtain ⟨i, hi, rfl⟩ := List.mem_iff_getElem.1 hx
  have := h.err i _ (List.getElem?_eq_getElem hi)
  unfold nodeErr at this
  split at this
  · exact absurd this (by decide)
  · split at this
    · exact absurd this (by decide)
    · split at this
      · exact absurd this (by decide)
      · rename_i hb
        unfold badA at hb
        simp at hb
        omega
theorem net_Sources_eq (n : Net) (l : List (List Item)) (hio : ∀ x ∈ n.Nodes, x.In.length ≤ 1099511627776 ∧ x.Out.length ≤ 1099511627776) : net_Sources n l = some (srcR n l) := by
  unfold net_Sources srcR
  rw [net_Check_eq n hio, Option.bind_some]
  by_cases h : (netR n).2 = 0
  · obtain ⟨le, out, _, hl, _, _⟩ := netR_ok h
    rw [if_neg (show ¬ ((netR n).2 != 0) = true by simp [h]), if_neg (show ¬ (netR n).2 ≠ 0 by simp [h])]
    by_cases h4 : 4 < l.length
    · rw [if_pos (by simp; omega), if_pos h4]
    · rw [if_neg (by simp; omega), if_neg h4]
      have hmk : mk (l.length : Int) false = some ((List.range l.length).map fun i : Nat => decide ((i : Int) ∈ ([] : List Int))) := by
        unfold mk; rw [if_pos (by omega)]
        congr 1
        simp [List.map_const']
      have hseen := seen_prog n l (by omega) hl.n2 (nodeA hl) n.Nodes.length 0 [] (by omega)
      simp only [Int.natCast_zero, List.drop_zero] at hseen
      have := items_loop l (by omega) (body := fun ss => net_Sources_l3 n l ss) (inner := fun k s ss => net_Sources_l1 k s ss) (some (seenErr l.length n.Nodes []))
        (fun k s hs hlt => by
          unfold net_Sources_l3
          rw [if_pos (by simp; omega), idx_at hs, Option.bind_some]
          by_cases h20 : 20 < s.length
          · rw [if_pos (by simp; omega), if_pos h20]; rfl
          · rw [if_neg (by simp; omega), if_neg h20])
        (by
          unfold net_Sources_l3
          rw [if_neg (by simp), hmk, Option.bind_some, hseen])
        (fun k s j x hs hlt hx hj => by
          have hjl := (List.getElem?_eq_some_iff.1 hx).1
          unfold net_Sources_l1
          rw [if_pos (by simp; omega), idx_at hx, Option.bind_some, wrap_1 (by omega)]
          by_cases hd : x.Dep ≠ 0
          · rw [if_pos (by simpa using hd), if_pos hd]; rfl
          · rw [if_neg (by simpa using hd), if_neg hd])
        (fun k s hs hlt => by
          unfold net_Sources_l1
          rw [if_neg (by simp), wrap_1 (by omega)]; rfl) l.length 0 (by omega)
      simp only [Int.natCast_zero, List.drop_zero] at this
      rw [this]
      by_cases hi : itemsErr l ≠ 0
      · rw [if_pos hi, if_pos hi]
      · rw [if_neg hi, if_neg hi]
  · rw [if_pos (by simpa using h), if_pos h]
theorem crossref_CheckSources_eq (n : Net) (l : List (List Item)) (hio : ∀ x ∈ n.Nodes, x.In.length ≤ 1099511627776 ∧ x.Out.length ≤ 1099511627776) : crossref_CheckSources n l = some (srcR n l) := by
  unfold crossref_CheckSources srcR
  rw [crossref_CheckNet_eq n hio, Option.bind_some]
  by_cases h : (netR n).2 = 0
  · obtain ⟨le, out, _, hl, _, _⟩ := netR_ok h
    rw [if_neg (show ¬ ((netR n).2 != 0) = true by simp [h]), if_neg (show ¬ (netR n).2 ≠ 0 by simp [h])]
    by_cases h4 : 4 < l.length
    · rw [if_pos (by simp; omega), if_pos h4]
    · rw [if_neg (by simp; omega), if_neg h4]
      have hseen := seen_ref n l (by omega) hl.n2 n.Nodes.length 0 [] [] (by omega) (fun a => by simp [mget])
      simp only [Int.natCast_zero, List.drop_zero] at hseen
      have := items_loop l (by omega) (body := fun ss => crossref_CheckSources_l3 n l ss) (inner := fun k s ss => crossref_CheckSources_l1 k s ss) (some (seenErr l.length n.Nodes []))
        (fun k s hs hlt => by
          unfold crossref_CheckSources_l3
          rw [if_pos (by simp; omega), idx_at hs, Option.bind_some]
          by_cases h20 : 20 < s.length
          · rw [if_pos (by simp; omega), if_pos h20]; rfl
          · rw [if_neg (by simp; omega), if_neg h20])
        (by
          unfold crossref_CheckSources_l3
          rw [if_neg (by simp), hseen])
        (fun k s j x hs hlt hx hj => by
          have hjl := (List.getElem?_eq_some_iff.1 hx).1
          unfold crossref_CheckSources_l1
          rw [if_pos (by simp; omega), idx_at hx, Option.bind_some, wrap_1 (by omega)]
          by_cases hd : x.Dep ≠ 0
          · rw [if_pos (by simpa using hd), if_pos hd]; rfl
          · rw [if_neg (by simpa using hd), if_neg hd])
        (fun k s hs hlt => by
          unfold crossref_CheckSources_l1
          rw [if_neg (by simp), wrap_1 (by omega)]; rfl) l.length 0 (by omega)
      simp only [Int.natCast_zero, List.drop_zero] at this
      rw [this]
      by_cases hi : itemsErr l ≠ 0
      · rw [if_pos hi, if_pos hi]
      · rw [if_neg hi, if_neg hi]
  · rw [if_pos (by simpa using h), if_pos h]

/- the closed fact -/
def meetN : Net := ⟨[⟨1, 0, [], [0]⟩, ⟨1, 1, [], [1]⟩, ⟨6, 0, [0, 1], [2]⟩, ⟨8, 0, [2], []⟩], 3, 1⟩
def twoN : List (List Item) := [[⟨1, 1, 0⟩], [⟨2, 2, 0⟩]]
theorem meet_io : ∀ x ∈ meetN.Nodes, x.In.length ≤ 1099511627776 ∧ x.Out.length ≤ 1099511627776 := by decide
theorem meet_R : netR meetN = ([0, 1, 2, 3], 0) := by decide
theorem meet_src : srcR meetN twoN = 0 := by decide
theorem netted_true : crosslaw_netted = some true := by
  unfold crosslaw_netted
  have h1 : crosslaw_meeting = some meetN := rfl
  have h2 : crosslaw_two = some twoN := rfl
  have h3 : mergesN 0 meetN.Nodes = [2] := by decide
  simp only [h1, h2, Option.bind_some, net_Order_eq _ meet_io, net_Merges_eq _ meet_io, net_Sources_eq _ _ meet_io, meet_R, meet_src, h3]
  rw [slices_Equal_int_eq _ _ (by decide)]
  simp only [ne_eq, not_true_eq_false, if_false, Option.bind_some]
  rw [slices_Equal_int_eq _ _ (by decide)]
  rfl
theorem NetSources_true (n : Net) (l : List (List Item)) (gn : gNet n) (gl : gL (gL gItem) l) (hb : mNet n + (mL (mL mItem) l + 0) ≤ 1048576) : crosslaw_NetSources n l = some true := by
  unfold crosslaw_NetSources
  have hio := net_io (n := n) (by omega)
  rw [netted_true, net_Sources_eq n l hio, crossref_CheckSources_eq n l hio]
  simp
theorem order_l1' (n : Net) (q : List Int) (hn : n.Nodes.length ≤ 12) (hq : q.length ≤ 12) (R : List Int × Int) (hR : R.2 = 0) (e : Int) : ∀ (m k : Nat) (acc : List Int), k + m = n.Nodes.length → acc.length ≤ k →
    iter (fun ss : Int × List Int => crosslaw_NetOrder_l1 n (q, e) R ss.1 ss.2) ((k : Int), acc) = some (decide (q = acc ++ mergesN k (n.Nodes.drop k)))
  | 0, k, acc, h, ha => by
    have hk : k = n.Nodes.length := by omega
    subst hk
    have : crosslaw_NetOrder_l1 n (q, e) R (n.Nodes.length : Int) acc = some (.inr (decide (q = acc))) := by
      unfold crosslaw_NetOrder_l1
      rw [if_neg (by simp)]
      simp only
      rw [slices_Equal_int_eq _ _ (by omega)]; rfl
    rw [iter_eq]
    simp only [this, List.drop_length, mergesN, List.append_nil]
  | m + 1, k, acc, h, ha => by
    have hlt : k < n.Nodes.length := by omega
    have hx : n.Nodes[k]? = some n.Nodes[k] := List.getElem?_eq_getElem hlt
    have hstep : crosslaw_NetOrder_l1 n (q, e) R (k : Int) acc = some (.inl (((k + 1 : Nat) : Int), if n.Nodes[k].Kind = 6 then acc ++ [(k : Int)] else acc)) := by
      unfold crosslaw_NetOrder_l1
      rw [if_pos (by simp; omega), idx_at hx, Option.bind_some, wrap_1 (by omega), app_ok (by simp; omega), hR]
      by_cases h6 : n.Nodes[k].Kind = 6 <;> simp [h6]
    rw [iter_eq]
    simp only [hstep]
    rw [order_l1' n q hn hq R hR e m (k + 1) _ (by omega) (by split <;> (try simp) <;> omega), List.drop_eq_getElem_cons hlt, mergesN]
    by_cases h6 : n.Nodes[k].Kind = 6 <;> simp [h6]
theorem mergesN_len : ∀ (xs : List Node) (k : Nat), (mergesN k xs).length ≤ xs.length
  | [], k => Nat.le_refl 0
  | x :: xs, k => by
    have := mergesN_len xs (k + 1)
    unfold mergesN
    split <;> simp <;> omega
theorem ordN_len (l : List Ends) (ns : List Node) : ∀ (m : Nat) (out o : List Nat), ordN l ns m out = some o → o.length = out.length + m
  | 0, out, o, h => by cases h; rfl
  | m + 1, out, o, h => by
    unfold ordN at h
    split at h
    · cases h
    · have := ordN_len l ns m _ o h
      simp at this; omega
theorem order_bad (n : Net) (R : List Int × Int) (hR : R.2 ≠ 0) (e : Int) (hn : n.Nodes.length ≤ 1048576) : iter (fun ss : Int × List Int => crosslaw_NetOrder_l1 n ([], e) R ss.1 ss.2) (0, []) = some true := by
  have := iter_list0 (σ := Unit) n.Nodes (by omega) (fun k _ => ((k : Int), ([] : List Int))) (body := fun ss : Int × List Int => crosslaw_NetOrder_l1 n ([], e) R ss.1 ss.2)
    (fun k x _ => some (.inl ())) (fun _ => some true) ()
    (fun k x _ _ _ h1 h2 h3 => by
      unfold crosslaw_NetOrder_l1
      rw [h2, h1, h3]
      simp [hR])
    (fun _ h => by
      unfold crosslaw_NetOrder_l1
      simp only
      rw [h, slices_Equal_int_eq _ _ (by simp)]; rfl)
  simp only [Int.natCast_zero] at this
  rw [this]
  obtain ⟨st, hst⟩ := foldE_all (σ := Unit) (fin := fun _ => some true) (f := fun k (x : Node) _ => some (.inl ())) (g := fun _ _ _ => ()) (fun _ _ _ => rfl) n.Nodes 0 ()
  rw [hst]
theorem NetOrder_true (n : Net) (gn : gNet n) (hb : mNet n + 0 ≤ 1048576) : crosslaw_NetOrder n = some true := by
  unfold crosslaw_NetOrder
  have hio := net_io (n := n) (by omega)
  have hN : n.Nodes.length ≤ 1048576 := by
    have : n.Nodes.length ≤ mL mNode n.Nodes := len_le (fun a => by unfold mNode; omega) _
    unfold mNet at hb; omega
  rw [net_Order_eq n hio, net_Merges_eq n hio, crossref_CheckNet_eq n hio, netted_true, net_Check_eq n hio]
  simp only [Option.bind_some]
  by_cases h : (netR n).2 = 0
  · obtain ⟨l, out, _, hl, ho, hr⟩ := netR_ok h
    have hol := ordN_len _ _ _ _ _ ho
    have hn2 := hl.n2
    rw [hr]
    simp only [ne_eq, not_true_eq_false, if_false]
    rw [slices_Equal_int_eq _ _ (by simp at hol ⊢; omega)]
    simp only [Bool.not_true, Bool.false_eq_true, if_false, bne_self_eq_false, Option.bind_some, decide_true, Bool.not_true]
    have := order_l1' n (mergesN 0 n.Nodes) hn2 (by have := mergesN_len n.Nodes 0; omega) (out.map (fun i : Nat => (i : Int)), 0) rfl 0 n.Nodes.length 0 [] (by omega) (by simp)
    simp only [Int.natCast_zero, List.drop_zero, List.nil_append] at this
    rw [this]; simp
  · rw [if_pos h]
    have h1 := netR_bad h
    rw [h1, slices_Equal_int_eq _ _ (by simp)]
    simp only [Bool.not_true, Bool.false_eq_true, if_false, bne_self_eq_false, Option.bind_some, decide_true, Bool.not_true]
    exact order_bad n (netR n) h _ hN
end Go.Proofs.Ytegkmfokfakeiaa
