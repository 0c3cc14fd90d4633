/-
  The document's own answer on nets is the same: 'crossref.CheckNet'.
-/
import Derived.Test.YtegkmfokfakeiaaPNetO
namespace Go.Proofs.Ytegkmfokfakeiaa
set_option linter.unusedVariables false
set_option linter.unusedSimpArgs false

theorem mget_mset_same {κ ν : Type} [DecidableEq κ] (k : κ) (v : ν) : ∀ m : List (κ × ν), mget k (mset k v m) = some v
  | [] => by simp [mset, mget]
  | p :: r => by
    unfold mset
    split
    · simp [mget]
    · rename_i h
      simp only [mget, if_neg h]
      exact mget_mset_same k v r
theorem mget_mset_ne {κ ν : Type} [DecidableEq κ] {k k' : κ} (v : ν) (hk : k ≠ k') : ∀ m : List (κ × ν), mget k (mset k' v m) = mget k m
  | [] => by simp [mset, mget, hk]
  | p :: r => by
    unfold mset
    split
    · rename_i h
      simp only [mget, if_neg hk]
      rw [if_neg (fun e => hk (e.trans h.symm))]
    · simp only [mget]
      rw [mget_mset_ne v hk r]
theorem mset_len_new {κ ν : Type} [DecidableEq κ] {k : κ} (v : ν) : ∀ {m : List (κ × ν)}, mget k m = none → (mset k v m).length = m.length + 1
  | [], _ => rfl
  | p :: r, h => by
    simp only [mget] at h
    split at h
    · cases h
    · rename_i hk
      simp only [mset, if_neg hk, List.length_cons]
      rw [mset_len_new v h]

/-- A map says what a list of numbers says: those below 0 are not in it. -/
structure MRi (v : List Int) (m : List (Int × Int)) : Prop where
  len : m.length = v.countP (fun x => decide (0 ≤ x))
  get : ∀ (j : Nat) x, v[j]? = some x → mget (j : Int) m = if x < 0 then none else some x
theorem MRi.set {v : List Int} {m : List (Int × Int)} (h : MRi v m) {j : Nat} {x y : Int} (hx : v[j]? = some x) (h0 : x < 0) (h1 : 0 ≤ y) : MRi (v.set j y) (mset (j : Int) y m) := by
  have hlt := (List.getElem?_eq_some_iff.1 hx).1
  have hv : v[j] = x := (List.getElem?_eq_some_iff.1 hx).2
  have hn : mget (j : Int) m = none := by rw [h.get j x hx, if_pos h0]
  refine ⟨?_, fun k z hz => ?_⟩
  · rw [mset_len_new y hn, h.len, List.countP_set hlt, hv]
    have a : ¬ 0 ≤ x := by omega
    simp [a, h1]
  · rw [List.getElem?_set] at hz
    by_cases hjk : j = k
    · subst hjk
      rw [if_pos rfl, if_pos hlt] at hz
      cases hz
      rw [mget_mset_same, if_neg (by omega)]
    · rw [if_neg hjk] at hz
      rw [mget_mset_ne y (by omega)]
      exact h.get k z hz
theorem MRi.start (R : Nat) : MRi (List.replicate R (-1)) [] := by
  refine ⟨?_, fun j x hx => ?_⟩
  · simp [List.countP_replicate]
  · rw [List.getElem?_replicate] at hx
    split at hx <;> cases hx
    rfl
theorem map_set_src {l : List Ends} {j : Nat} {e : Ends} (i : Int) (h : l[j]? = some e) : (l.set j ⟨i, e.dst⟩).map Ends.src = (l.map Ends.src).set j i ∧ (l.set j ⟨i, e.dst⟩).map Ends.dst = l.map Ends.dst := by
  refine ⟨by rw [List.map_set], ?_⟩
  rw [List.map_set]
  have hlt := (List.getElem?_eq_some_iff.1 h).1
  have : (l.map Ends.dst)[j]'(by simpa using hlt) = e.dst := by simp [(List.getElem?_eq_some_iff.1 h).2]
  show (l.map Ends.dst).set j e.dst = _
  rw [← this]; exact List.set_getElem_self _
theorem map_set_dst {l : List Ends} {j : Nat} {e : Ends} (i : Int) (h : l[j]? = some e) : (l.set j ⟨e.src, i⟩).map Ends.dst = (l.map Ends.dst).set j i ∧ (l.set j ⟨e.src, i⟩).map Ends.src = l.map Ends.src := by
  refine ⟨by rw [List.map_set], ?_⟩
  rw [List.map_set]
  have hlt := (List.getElem?_eq_some_iff.1 h).1
  have : (l.map Ends.src)[j]'(by simpa using hlt) = e.src := by simp [(List.getElem?_eq_some_iff.1 h).2]
  show (l.map Ends.src).set j e.src = _
  rw [← this]; exact List.set_getElem_self _

theorem chk_l1 (n : Net) (s i : Nat) (x : Node) (to : List (Int × Int)) (hx : x.Out.length ≤ 1099511627776) (hi : i ≤ 12) (hs : s ≤ 12) (hR : n.Rings ≤ 16) :
    ∀ (m k : Nat) (l : List Ends) (fr : List (Int × Int)), k + m = x.Out.length → (l.length : Int) = n.Rings → MRi (l.map Ends.src) fr →
    match giveN n.Rings i (x.Out.drop k) l with
      | .inl e => iter (fun ss : Int × List (Int × Int) => crossref_CheckNet_l1 n s i x to ss.1 ss.2) ((k : Int), fr) = some (.inr ([], e))
      | .inr l1 => ∃ fr1, MRi (l1.map Ends.src) fr1 ∧ l1.map Ends.dst = l.map Ends.dst ∧ iter (fun ss : Int × List (Int × Int) => crossref_CheckNet_l1 n s i x to ss.1 ss.2) ((k : Int), fr) = some (.inl (((if x.Kind = 8 then s + 1 else s : Nat) : Int), ((i + 1 : Nat) : Int), fr1, to))
  | 0, k, l, fr, h, hl, hm => by
    have hk : k = x.Out.length := by omega
    subst hk
    rw [List.drop_length]
    simp only [giveN]
    refine ⟨fr, hm, trivial, ?_⟩
    have hstep : crossref_CheckNet_l1 n s i x to (x.Out.length : Int) fr = some (.inr (.inl (((if x.Kind = 8 then s + 1 else s : Nat) : Int), ((i + 1 : Nat) : Int), fr, to))) := by
      unfold crossref_CheckNet_l1
      rw [if_neg (by simp), wrap_1 (by omega), wrap_1 (by omega)]
      by_cases h8 : x.Kind = 8 <;> simp [h8]
    rw [iter_eq]
    simp only [hstep]
  | m + 1, k, l, fr, h, hl, hm => by
    have hlt : k < x.Out.length := by omega
    rw [List.drop_eq_getElem_cons hlt, iter_eq]
    have hstep : crossref_CheckNet_l1 n s i x to (k : Int) fr = if x.Out[k] < 0 ∨ n.Rings ≤ x.Out[k] then some (.inr (.inr ([], 3))) else if (mget x.Out[k] fr).isSome then some (.inr (.inr ([], 6))) else some (.inl (((k + 1 : Nat) : Int), mset x.Out[k] i fr)) := by
      unfold crossref_CheckNet_l1
      rw [if_pos (by simp; omega), idx_at (List.getElem?_eq_getElem hlt), Option.bind_some, wrap_1 (by omega)]
      by_cases hr : x.Out[k] < 0 ∨ n.Rings ≤ x.Out[k]
      · rw [if_pos (by simp; omega), if_pos hr]; rfl
      · rw [if_neg (by simp; omega), if_neg hr]
        rfl
    simp only [giveN, hstep]
    by_cases hr : x.Out[k] < 0 ∨ n.Rings ≤ x.Out[k]
    · simp only [if_pos hr]
    · simp only [if_neg hr]
      have hrl : x.Out[k].toNat < l.length := by omega
      have hge := List.getElem?_eq_getElem hrl
      have hge2 : (l.map Ends.src)[x.Out[k].toNat]? = some l[x.Out[k].toNat].src := by rw [List.getElem?_map, hge]; rfl
      have hget := hm.get _ _ hge2
      have hc : ((x.Out[k].toNat : Nat) : Int) = x.Out[k] := by omega
      rw [hc] at hget
      simp only [hge]
      by_cases he : 0 ≤ l[x.Out[k].toNat].src
      · rw [if_neg (by omega)] at hget
        simp only [if_pos he, hget, Option.isSome_some, if_true]
      · rw [if_pos (by omega)] at hget
        simp only [if_neg he, hget, Option.isSome_none, Bool.false_eq_true, if_false]
        obtain ⟨q1, q2⟩ := map_set_src (i : Int) hge
        have hm2 := hm.set (y := (i : Int)) hge2 (by omega) (by omega)
        rw [hc, ← q1] at hm2
        have := chk_l1 n s i x to hx hi hs hR m (k + 1) (l.set x.Out[k].toNat ⟨i, l[x.Out[k].toNat].dst⟩) (mset x.Out[k] i fr) (by omega) (by simpa using hl) hm2
        cases hgv : giveN n.Rings i (x.Out.drop (k + 1)) (l.set x.Out[k].toNat ⟨i, l[x.Out[k].toNat].dst⟩) with
        | inl e => rw [hgv] at this; exact this
        | inr l1 =>
          rw [hgv] at this
          obtain ⟨fr1, a, b, c⟩ := this
          exact ⟨fr1, a, b.trans q2, c⟩
theorem chk_l2 (n : Net) (s i : Nat) (x : Node) (fr : List (Int × Int)) (hx : x.Out.length ≤ 1099511627776) (hx2 : x.In.length ≤ 1099511627776) (hi : i ≤ 12) (hs : s ≤ 12) (hR : n.Rings ≤ 16) :
    ∀ (m k : Nat) (l : List Ends) (to : List (Int × Int)), k + m = x.In.length → (l.length : Int) = n.Rings → MRi (l.map Ends.src) fr → MRi (l.map Ends.dst) to →
    match (match takeN n.Rings i (x.In.drop k) l with | .inl e => Sum.inl e | .inr l1 => giveN n.Rings i x.Out l1) with
      | .inl e => iter (fun ss : Int × List (Int × Int) => crossref_CheckNet_l2 n s i fr x ss.1 ss.2) ((k : Int), to) = some (.inr ([], e))
      | .inr l1 => ∃ fr1 to1, MRi (l1.map Ends.src) fr1 ∧ MRi (l1.map Ends.dst) to1 ∧ iter (fun ss : Int × List (Int × Int) => crossref_CheckNet_l2 n s i fr x ss.1 ss.2) ((k : Int), to) = some (.inl (((if x.Kind = 8 then s + 1 else s : Nat) : Int), ((i + 1 : Nat) : Int), fr1, to1))
  | 0, k, l, to, h, hl, hm, hm2 => by
    have hk : k = x.In.length := by omega
    subst hk
    rw [List.drop_length]
    simp only [takeN]
    have h1 := chk_l1 n s i x to hx hi hs hR x.Out.length 0 l fr (by omega) hl hm
    simp only [List.drop_zero, Int.natCast_zero] at h1
    have hstep : crossref_CheckNet_l2 n s i fr x (x.In.length : Int) to = Option.map Sum.inr (iter (fun ss : Int × List (Int × Int) => crossref_CheckNet_l1 n s i x to ss.1 ss.2) (0, fr)) := by
      unfold crossref_CheckNet_l2
      rw [if_neg (by simp)]
    rw [iter_eq]
    simp only [hstep]
    cases hg : giveN n.Rings i x.Out l with
    | inl e => rw [hg] at h1; simp only at h1 ⊢; rw [h1]; rfl
    | inr l1 =>
      rw [hg] at h1
      obtain ⟨fr1, a, b, c⟩ := h1
      refine ⟨fr1, to, a, by rw [b]; exact hm2, ?_⟩
      rw [c]; rfl
  | m + 1, k, l, to, h, hl, hm, hm2 => by
    have hlt : k < x.In.length := by omega
    rw [List.drop_eq_getElem_cons hlt, iter_eq]
    have hstep : crossref_CheckNet_l2 n s i fr x (k : Int) to = if x.In[k] < 0 ∨ n.Rings ≤ x.In[k] then some (.inr (.inr ([], 3))) else if (mget x.In[k] to).isSome then some (.inr (.inr ([], 6))) else some (.inl (((k + 1 : Nat) : Int), mset x.In[k] i to)) := by
      unfold crossref_CheckNet_l2
      rw [if_pos (by simp; omega), idx_at (List.getElem?_eq_getElem hlt), Option.bind_some, wrap_1 (by omega)]
      by_cases hr : x.In[k] < 0 ∨ n.Rings ≤ x.In[k]
      · rw [if_pos (by simp; omega), if_pos hr]; rfl
      · rw [if_neg (by simp; omega), if_neg hr]
        rfl
    simp only [takeN, hstep]
    by_cases hr : x.In[k] < 0 ∨ n.Rings ≤ x.In[k]
    · simp only [if_pos hr]
    · simp only [if_neg hr]
      have hrl : x.In[k].toNat < l.length := by omega
      have hge := List.getElem?_eq_getElem hrl
      have hge2 : (l.map Ends.dst)[x.In[k].toNat]? = some l[x.In[k].toNat].dst := by rw [List.getElem?_map, hge]; rfl
      have hget := hm2.get _ _ hge2
      have hc : ((x.In[k].toNat : Nat) : Int) = x.In[k] := by omega
      rw [hc] at hget
      simp only [hge]
      by_cases he : 0 ≤ l[x.In[k].toNat].dst
      · rw [if_neg (by omega)] at hget
        simp only [if_pos he, hget, Option.isSome_some, if_true]
      · rw [if_pos (by omega)] at hget
        simp only [if_neg he, hget, Option.isSome_none, Bool.false_eq_true, if_false]
        obtain ⟨q1, q2⟩ := map_set_dst (i : Int) hge
        have hm3 := hm2.set (y := (i : Int)) hge2 (by omega) (by omega)
        rw [hc, ← q1] at hm3
        exact chk_l2 n s i x fr hx hx2 hi hs hR m (k + 1) (l.set x.In[k].toNat ⟨l[x.In[k].toNat].src, i⟩) (mset x.In[k] i to) (by omega) (by simpa using hl) (by rw [q2]; exact hm) hm3

theorem chk_A (x : Node) (h : arityN x.Kind ≠ none) : ((decide (x.A < 0)) || decide (x.A > ((mget x.Kind (mset 2 3 (mset 1 3 ([] : List (Int × Int))))).getD 0))) = badA x := by
  have e : mset 2 3 (mset 1 3 ([] : List (Int × Int))) = [(1, 3), (2, 3)] := by decide
  rw [e]
  unfold badA
  by_cases h1 : x.Kind = 1
  · rw [Bool.eq_iff_iff]; simp [h1, mget]; omega
  · by_cases h2 : x.Kind = 2
    · rw [Bool.eq_iff_iff]; simp [h1, h2, mget]
    · rw [Bool.eq_iff_iff]; simp [h1, h2, mget]; omega
/-- One node. -/
theorem chk_node (n : Net) (s i : Nat) (x : Node) (hx : n.Nodes[i]? = some x) (hx1 : x.Out.length ≤ 1099511627776) (hx2 : x.In.length ≤ 1099511627776) (hi : i < n.Nodes.length) (hn : n.Nodes.length ≤ 12) (hs : s ≤ 12) (hR : n.Rings ≤ 16) (l : List Ends) (fr to : List (Int × Int))
    (hl : (l.length : Int) = n.Rings) (hm : MRi (l.map Ends.src) fr) (hm2 : MRi (l.map Ends.dst) to) :
    match oneN n.Rings i x l with
      | .inl e => crossref_CheckNet_l7 n s i fr to = some (.inr ([], e))
      | .inr l1 => ∃ fr1 to1, MRi (l1.map Ends.src) fr1 ∧ MRi (l1.map Ends.dst) to1 ∧ crossref_CheckNet_l7 n s i fr to = some (.inl (((if x.Kind = 8 then s + 1 else s : Nat) : Int), ((i + 1 : Nat) : Int), fr1, to1)) := by
  have h2 := chk_l2 n s i x fr hx1 hx2 (by omega) hs hR x.In.length 0 l to (by omega) hl hm hm2
  simp only [List.drop_zero, Int.natCast_zero] at h2
  have k3 : arityN x.Kind ≠ none → crossref_CheckNet_k3 n s i fr to x = if badA x = true then some (.inr ([], 3)) else iter (fun ss : Int × List (Int × Int) => crossref_CheckNet_l2 n s i fr x ss.1 ss.2) (0, to) := fun ha => by
    unfold crossref_CheckNet_k3
    rw [chk_A x ha]; rfl
  have fit : ∀ (a b : Int), arityN x.Kind = some (a, b) → ∀ (p q : Option Bool), p = some (fitsN x.In.length a) → q = some (fitsN x.Out.length b) →
      (Option.bind p fun x9 => Option.bind (if (!x9) = true then some true else Option.bind q fun x10 => some (!x10)) fun c11 => if c11 = true then (Option.map Sum.inr (some ([], 4))) else crossref_CheckNet_k3 n s i fr to x)
        = (if nodeErr x ≠ 0 then (some (.inr ([], nodeErr x)) : Option ((Int × Int × (List (Int × Int)) × (List (Int × Int))) ⊕ ((List Int) × Int))) else iter (fun ss : Int × List (Int × Int) => crossref_CheckNet_l2 n s i fr x ss.1 ss.2) (0, to)) := fun a b hab p q hp hq => by
    rw [hp, hq, k3 (by rw [hab]; simp)]
    unfold nodeErr
    rw [hab]
    simp only [Option.bind_some]
    cases fitsN x.In.length a
    · simp
    · cases fitsN x.Out.length b
      · simp
      · cases hb : badA x <;> simp
  have c1 : ∀ m : Nat, crossref_CheckNet_1 (m : Int) = some (fitsN m 1) := fun m => by
    unfold crossref_CheckNet_1 fitsN; congr 1; rw [Bool.eq_iff_iff]; simp
  have c2 : ∀ m : Nat, crossref_CheckNet_2 (m : Int) = some (fitsN m (-1)) := fun m => by
    unfold crossref_CheckNet_2 fitsN; congr 1; rw [Bool.eq_iff_iff]; simp; omega
  have c3 : ∀ m : Nat, crossref_CheckNet_3 (m : Int) = some (fitsN m 0) := fun m => by
    unfold crossref_CheckNet_3 fitsN; congr 1; rw [Bool.eq_iff_iff]; simp
  have hl7 : crossref_CheckNet_l7 n s i fr to = if nodeErr x ≠ 0 then some (.inr ([], nodeErr x)) else iter (fun ss : Int × List (Int × Int) => crossref_CheckNet_l2 n s i fr x ss.1 ss.2) (0, to) := by
    unfold crossref_CheckNet_l7
    rw [if_pos (by simp; omega), idx_at hx, Option.bind_some]
    by_cases h1 : x.Kind = 1
    · rw [if_pos (by simp [h1])]; exact fit 0 1 (by simp [arityN, h1]) _ _ (c3 _) (c1 _)
    rw [if_neg (by simp [h1])]
    by_cases h2 : x.Kind = 2
    · rw [if_pos (by simp [h2])]; exact fit 1 1 (by simp [arityN, h2]) _ _ (c1 _) (c1 _)
    rw [if_neg (by simp [h2])]
    by_cases h3 : x.Kind = 3
    · rw [if_pos (by simp [h3])]; exact fit 1 1 (by simp [arityN, h3]) _ _ (c1 _) (c1 _)
    rw [if_neg (by simp [h3])]
    by_cases h4 : x.Kind = 4
    · rw [if_pos (by simp [h4])]; exact fit 1 1 (by simp [arityN, h4]) _ _ (c1 _) (c1 _)
    rw [if_neg (by simp [h4])]
    by_cases h5 : x.Kind = 5
    · rw [if_pos (by simp [h5])]; exact fit 1 (-1) (by simp [arityN, h5]) _ _ (c1 _) (c2 _)
    rw [if_neg (by simp [h5])]
    by_cases h7 : x.Kind = 7
    · rw [if_pos (by simp [h7])]; exact fit 1 (-1) (by simp [arityN, h7]) _ _ (c1 _) (c2 _)
    rw [if_neg (by simp [h7])]
    by_cases h6 : x.Kind = 6
    · rw [if_pos (by simp [h6])]; exact fit (-1) 1 (by simp [arityN, h6]) _ _ (c2 _) (c1 _)
    rw [if_neg (by simp [h6])]
    by_cases h8 : x.Kind = 8
    · rw [if_pos (by simp [h8])]; exact fit 1 0 (by simp [arityN, h8]) _ _ (c1 _) (c3 _)
    rw [if_neg (by simp [h8])]
    have : nodeErr x = 5 := by unfold nodeErr; simp [arityN, h1, h2, h3, h4, h5, h6, h7, h8]
    rw [this]; rfl
  unfold oneN
  rw [hl7]
  by_cases he : nodeErr x ≠ 0
  · simp only [if_pos he]
  · simp only [if_neg he]
    exact h2

/- the order -/
theorem contains_int_eq (out : List Nat) (ho : out.length ≤ 12) (z : Int) (hz : 0 ≤ z) : slices_Contains_int (out.map (fun i : Nat => (i : Int))) z = some (out.contains z.toNat) := by
  unfold slices_Contains_int slices_Index_int
  have := iter_list0 (σ := Unit) (out.map (fun i : Nat => (i : Int))) (by simp; omega) (fun k _ => (k : Int)) (body := fun ss => slices_Index_int_l1 (out.map (fun i : Nat => (i : Int))) z ss)
    (fun k r _ => if z = r then some (.inr (k : Int)) else some (.inl ())) (fun _ => some (-1)) ()
    (fun k r _ hk hlt h1 h2 h3 => by
      unfold slices_Index_int_l1
      rw [h2, h1, h3]
      by_cases h : z = r <;> simp [h])
    (fun _ h => by unfold slices_Index_int_l1; rw [h]; rfl)
  simp only [Int.natCast_zero] at this
  rw [this]
  have key : ∀ (ys : List Nat) (k : Nat), ∃ v : Int, foldE (σ := Unit) (fun k r _ => if z = r then some (.inr (k : Int)) else some (.inl ())) (fun _ => some (-1 : Int)) k (ys.map (fun i : Nat => (i : Int))) () = some v ∧ decide (v ≥ 0) = ys.contains z.toNat := by
    intro ys
    induction ys with
    | nil => intro k; exact ⟨-1, rfl, by simp⟩
    | cons y ys ih =>
      intro k
      simp only [List.map_cons, foldE]
      by_cases h : z = (y : Int)
      · rw [if_pos h]
        refine ⟨k, rfl, ?_⟩
        have : z.toNat = y := by omega
        simp [this]
      · rw [if_neg h]
        simp only
        obtain ⟨v, h1, h2⟩ := ih (k + 1)
        refine ⟨v, h1, ?_⟩
        rw [h2]
        have : ¬ z.toNat = y := by omega
        simp [this]
  obtain ⟨v, h1, h2⟩ := key out 0
  rw [h1, Option.bind_some, h2]
section
variable {n : Net} {l : List Ends} (hn : NetL n l) {fr : List (Int × Int)} (hm : MRi (l.map Ends.src) fr)
include hn hm
theorem chk_l4 (out : List Nat) (ho : out.length ≤ 12) (best k : Int) {x : Node} {i : Nat} (hx : n.Nodes[i]? = some x) (hxl : x.In.length ≤ 1099511627776) : ∀ (m j : Nat) (b : Bool), j + m = x.In.length →
    iter (fun ss : Bool × Int => crossref_CheckNet_l4 fr (out.map (fun i : Nat => (i : Int))) best k x ss.1 ss.2) (b, (j : Int)) = some (.inl (if (b && (x.In.drop j).all fun r => match l[r.toNat]? with | some e => out.contains e.src.toNat | none => false) = true then k else best, IntKind.i64.wrap (k - 1)))
  | 0, j, b, h => by
    have hk : j = x.In.length := by omega
    subst hk
    have hstep : crossref_CheckNet_l4 fr (out.map (fun i : Nat => (i : Int))) best k x b (x.In.length : Int) = some (.inr (.inl (if b = true then k else best, IntKind.i64.wrap (k - 1)))) := by
      unfold crossref_CheckNet_l4
      rw [if_neg (by simp)]
      cases b <;> rfl
    rw [iter_eq]
    simp only [hstep, List.drop_length, List.all_nil, Bool.and_true]
  | m + 1, j, b, h => by
    have hlt : j < x.In.length := by omega
    have hmem : x.In[j] ∈ x.In := List.getElem_mem hlt
    obtain ⟨r0, r1, e, he, _⟩ := hn.inn i x hx _ hmem
    obtain ⟨s0, _⟩ := src_lt hn he
    have hge2 : (l.map Ends.src)[x.In[j].toNat]? = some e.src := by rw [List.getElem?_map, he]; rfl
    have hget := hm.get _ _ hge2
    rw [Int.toNat_of_nonneg r0, if_neg (by omega)] at hget
    have hstep : crossref_CheckNet_l4 fr (out.map (fun i : Nat => (i : Int))) best k x b (j : Int) = some (.inl (b && out.contains e.src.toNat, ((j + 1 : Nat) : Int))) := by
      unfold crossref_CheckNet_l4
      rw [if_pos (by simp; omega), idx_at (List.getElem?_eq_getElem hlt), Option.bind_some, wrap_1 (by omega), hget]
      cases b
      · rfl
      · simp only [if_true, Option.getD_some, contains_int_eq out ho _ s0, Option.bind_some, Bool.true_and]
    rw [iter_eq]
    simp only [hstep]
    rw [chk_l4 out ho best k hx hxl m (j + 1) _ (by omega), List.drop_eq_getElem_cons hlt, List.all_cons, he]
    simp only [Bool.and_assoc]
theorem chk_l5 (hio : ∀ x ∈ n.Nodes, x.In.length ≤ 1099511627776) (cnt : Nat) (hcnt : cnt ≤ 12) (out : List Nat) (ho : out.length ≤ 12) : ∀ (k : Nat) (best : Int), k ≤ n.Nodes.length →
    iter (fun ss : Int × Int => crossref_CheckNet_l5 n fr (cnt : Int) (out.map (fun i : Nat => (i : Int))) ss.1 ss.2) (best, (k : Int) - 1) = (if lastD (okN l out n.Nodes) k best < 0 then some (.inr ([], 7)) else some (.inl (((cnt + 1 : Nat) : Int), out.map (fun i : Nat => (i : Int)) ++ [lastD (okN l out n.Nodes) k best])))
  | 0, best, _ => by
    have hstep : crossref_CheckNet_l5 n fr (cnt : Int) (out.map (fun i : Nat => (i : Int))) best (((0 : Nat) : Int) - 1) = some (.inr (if best < 0 then .inr ([], 7) else .inl (((cnt + 1 : Nat) : Int), out.map (fun i : Nat => (i : Int)) ++ [best]))) := by
      unfold crossref_CheckNet_l5
      rw [if_neg (by simp), wrap_1 (by omega), app_ok (by simp; omega)]
      by_cases hb : best < 0 <;> simp [hb]
    rw [iter_eq]
    simp only [hstep, lastD]
    by_cases hb : best < 0 <;> simp [hb]
  | k + 1, best, hk => by
    have hlt : k < n.Nodes.length := by omega
    have hx : n.Nodes[k]? = some n.Nodes[k] := List.getElem?_eq_getElem hlt
    have hn2 := hn.n2
    have hw : IntKind.i64.wrap ((k : Int) - 1) = (k : Int) - 1 := wrap_ok (by omega) (by omega)
    have hok : okN l out n.Nodes k = (!(out.contains k) && fedN l out n.Nodes[k]) := by unfold okN; rw [hx]
    have hstep : crossref_CheckNet_l5 n fr (cnt : Int) (out.map (fun i : Nat => (i : Int))) best (((k + 1 : Nat) : Int) - 1) = some (.inl (if okN l out n.Nodes k = true then (k : Int) else best, (k : Int) - 1)) := by
      have e1 : (((k + 1 : Nat) : Int) - 1) = (k : Int) := by omega
      rw [e1]
      unfold crossref_CheckNet_l5
      rw [if_pos (by simp), contains_int_eq out ho _ (by omega), Option.bind_some, Int.toNat_natCast]
      by_cases hc : out.contains k = true
      · rw [if_pos hc, hw, hok, hc]; simp
      · rw [if_neg hc, idx_at hx, Option.bind_some]
        have := chk_l4 hn hm out ho best k hx (hio _ (List.getElem_mem hlt)) n.Nodes[k].In.length 0 true (by omega)
        simp only [Int.natCast_zero, List.drop_zero, Bool.true_and] at this
        rw [this, hw, hok]
        have hc' : out.contains k = false := by simpa using hc
        rw [hc']
        simp only [Bool.not_false, Bool.true_and]
        rfl
    rw [iter_eq]
    simp only [hstep, lastD]
    exact chk_l5 hio cnt hcnt out ho k _ (by omega)
theorem chk_l6 (hio : ∀ x ∈ n.Nodes, x.In.length ≤ 1099511627776) : ∀ (m : Nat) (out : List Nat), out.length + m = n.Nodes.length →
    iter (fun ss : Int × List Int => crossref_CheckNet_l6 n fr ss.1 ss.2) ((out.length : Int), out.map (fun i : Nat => (i : Int))) = some (match ordN l n.Nodes m out with
      | none => ([], 7)
      | some out => (out.map (fun i : Nat => (i : Int)), 0))
  | 0, out, h => by
    have : crossref_CheckNet_l6 n fr (out.length : Int) (out.map (fun i : Nat => (i : Int))) = some (.inr (out.map (fun i : Nat => (i : Int)), 0)) := by
      unfold crossref_CheckNet_l6
      rw [if_neg (by simp; omega)]; rfl
    rw [iter_eq]
    simp only [this, ordN]
  | m + 1, out, h => by
    have hn2 := hn.n2
    have hstep : crossref_CheckNet_l6 n fr (out.length : Int) (out.map (fun i : Nat => (i : Int))) = match firstN (okN l out n.Nodes) n.Nodes.length 0 with
      | some i => some (.inl (((out ++ [i]).length : Int), (out ++ [i]).map (fun i : Nat => (i : Int))))
      | none => some (.inr ([], 7)) := by
      unfold crossref_CheckNet_l6
      rw [if_pos (by simp; omega), wrap_ok (by omega) (by omega), chk_l5 hn hm hio out.length (by omega) out (by omega) n.Nodes.length (-1) (by omega), lastD_eq]
      cases firstN (okN l out n.Nodes) n.Nodes.length 0 with
      | none => rfl
      | some i => simp
    rw [iter_eq]
    simp only [hstep, ordN]
    cases firstN (okN l out n.Nodes) n.Nodes.length 0 with
    | none => rfl
    | some i =>
      simp only
      exact chk_l6 hio m (out ++ [i]) (by simp; omega)
end
theorem chk_l7 (n : Net) (hn : n.Nodes.length ≤ 12) (hn1 : 1 ≤ n.Nodes.length) (hR0 : 0 ≤ n.Rings) (hR : n.Rings ≤ 16) (hm1 : 1 ≤ n.Room) (hm2' : n.Room ≤ 6) (hio : ∀ x ∈ n.Nodes, x.In.length ≤ 1099511627776 ∧ x.Out.length ≤ 1099511627776) :
    ∀ (m k s : Nat) (l : List Ends) (fr to : List (Int × Int)), k + m = n.Nodes.length → s ≤ k → (l.length : Int) = n.Rings → MRi (l.map Ends.src) fr → MRi (l.map Ends.dst) to →
    (∀ s1 l1, nodesN n.Rings k (n.Nodes.drop k) s l = .inr (s1, l1) → ¬ (l1.any (fun e => decide (e.src < 0 ∨ e.dst < 0)) = true) → s1 = 1 → NetL n l1) →
    iter (fun ss : Int × Int × List (Int × Int) × List (Int × Int) => crossref_CheckNet_l7 n ss.1 ss.2.1 ss.2.2.1 ss.2.2.2) ((s : Int), (k : Int), fr, to) = some (match nodesN n.Rings k (n.Nodes.drop k) s l with
      | .inl e => ([], e)
      | .inr (s, l) => if l.any (fun e => decide (e.src < 0 ∨ e.dst < 0)) then ([], 9) else if s ≠ 1 then ([], 4) else match ordN l n.Nodes n.Nodes.length [] with
        | none => ([], 7)
        | some out => (out.map (fun i : Nat => (i : Int)), 0))
  | 0, k, s, l, fr, to, h, hs, hl, hm, hm2, hL => by
    have hk : k = n.Nodes.length := by omega
    subst hk
    rw [List.drop_length] at hL ⊢
    have hlen : ∀ (f : Ends → Int) (mm : List (Int × Int)), MRi (l.map f) mm → ((mm.length : Int) = n.Rings ↔ ∀ e ∈ l, 0 ≤ f e) := fun f mm hmm => by
      have e1 := hmm.len
      have e2 : (l.map f).countP (fun x => decide (0 ≤ x)) = (l.map f).length ↔ ∀ x ∈ l.map f, decide (0 ≤ x) = true := List.countP_eq_length
      rw [← e1, List.length_map] at e2
      constructor
      · intro h1 e he
        have := e2.1 (by omega) (f e) (List.mem_map_of_mem he)
        simpa using this
      · intro h1
        have := e2.2 (fun x hx => by obtain ⟨e, he, rfl⟩ := List.mem_map.1 hx; simpa using h1 e he)
        omega
    have a1 := hlen _ _ hm
    have a2 := hlen _ _ hm2
    simp only [nodesN] at hL ⊢
    have hany : (l.any (fun e => decide (e.src < 0 ∨ e.dst < 0)) = true) ↔ ¬ ((fr.length : Int) = n.Rings ∧ (to.length : Int) = n.Rings) := by
      rw [a1, a2]
      simp only [List.any_eq_true, decide_eq_true_eq]
      constructor
      · rintro ⟨e, he, h1⟩ ⟨h2, h3⟩
        have := h2 e he; have := h3 e he; omega
      · intro h1
        refine Classical.byContradiction fun h2 => h1 ⟨fun e he => ?_, fun e he => ?_⟩
        · refine Classical.byContradiction fun h3 => h2 ⟨e, he, .inl (by omega)⟩
        · refine Classical.byContradiction fun h3 => h2 ⟨e, he, .inr (by omega)⟩
    have hstep : crossref_CheckNet_l7 n (s : Int) (n.Nodes.length : Int) fr to = Option.map Sum.inr (if (l.any (fun e => decide (e.src < 0 ∨ e.dst < 0))) = true then some ([], 9) else if s ≠ 1 then some ([], 4) else iter (fun ss : Int × List Int => crossref_CheckNet_l6 n fr ss.1 ss.2) (0, [])) := by
      unfold crossref_CheckNet_l7
      rw [if_neg (by simp)]
      congr 1
      by_cases h1 : l.any (fun e => decide (e.src < 0 ∨ e.dst < 0)) = true
      · have := hany.1 h1
        rw [if_pos (by simp; omega), if_pos h1]
      · have : (fr.length : Int) = n.Rings ∧ (to.length : Int) = n.Rings := by
          refine Classical.byContradiction fun h2 => h1 (hany.2 h2)
        rw [if_neg (by simp; omega), if_neg h1]
        by_cases h2 : s = 1
        · subst h2; rfl
        · rw [if_pos (by simp; omega), if_pos h2]
    rw [iter_eq]
    simp only [hstep]
    by_cases h1 : l.any (fun e => decide (e.src < 0 ∨ e.dst < 0)) = true
    · simp only [if_pos h1]; rfl
    · simp only [if_neg h1]
      by_cases h2 : s = 1
      · subst h2
        have hnl := hL 1 l rfl h1 rfl
        have := chk_l6 hnl hm (fun x hx => (hio x hx).1) n.Nodes.length [] (by simp)
        simp only [List.length_nil, Int.natCast_zero, List.map_nil] at this
        simp only [ne_eq, not_true_eq_false, if_false, this]
        rfl
      · simp only [ne_eq, h2, not_false_eq_true, if_true]; rfl
  | m + 1, k, s, l, fr, to, h, hs, hl, hm, hm2, hL => by
    have hlt : k < n.Nodes.length := by omega
    have hx : n.Nodes[k]? = some n.Nodes[k] := List.getElem?_eq_getElem hlt
    obtain ⟨q1, q2⟩ := hio _ (List.getElem_mem hlt)
    have hone := chk_node n s k n.Nodes[k] hx q2 q1 hlt hn (by omega) hR l fr to hl hm hm2
    rw [List.drop_eq_getElem_cons hlt] at hL ⊢
    simp only [nodesN] at hL ⊢
    rw [iter_eq]
    cases ho : oneN n.Rings k n.Nodes[k] l with
    | inl e =>
      rw [ho] at hone
      simp only at hone
      simp only [hone]
    | inr l1 =>
      rw [ho] at hone hL
      obtain ⟨fr1, to1, r1, r2, r3⟩ := hone
      simp only [r3]
      exact chk_l7 n hn hn1 hR0 hR hm1 hm2' hio m (k + 1) _ l1 fr1 to1 (by omega) (by split <;> omega) (by rw [oneN_len ho]; exact hl) r1 r2 (by simpa using hL)
theorem crossref_CheckNet_eq (n : Net) (hio : ∀ x ∈ n.Nodes, x.In.length ≤ 1099511627776 ∧ x.Out.length ≤ 1099511627776) : crossref_CheckNet n = some (netR n) := by
  unfold crossref_CheckNet netR
  have hL : ∀ l, lookN n = .inr l → NetL n l := fun l h => lookN_ok h
  unfold lookN at hL ⊢
  by_cases h1 : n.Nodes.length < 1 ∨ 12 < n.Nodes.length ∨ n.Rings < 0 ∨ 16 < n.Rings
  · rw [if_pos (by simp only [Bool.or_eq_true, beq_iff_eq, decide_eq_true_eq]; omega), if_pos h1]
  rw [if_neg (by simp only [Bool.or_eq_true, beq_iff_eq, decide_eq_true_eq]; omega), if_neg h1]
  rw [if_neg h1] at hL
  by_cases h2 : n.Room < 1 ∨ 6 < n.Room
  · rw [if_pos (by simp; omega), if_pos h2]
  rw [if_neg (by simp; omega), if_neg h2]
  rw [if_neg h2] at hL
  have := chk_l7 n (by omega) (by omega) (by omega) (by omega) (by omega) (by omega) hio n.Nodes.length 0 0 (List.replicate n.Rings.toNat noEnds) [] [] (by omega) (by omega) (by simp; omega) (by simpa [noEnds] using MRi.start n.Rings.toNat) (by simpa [noEnds] using MRi.start n.Rings.toNat) (fun s1 l1 a b c => by
    simp only [List.drop_zero] at a
    have := hL l1
    rw [a] at this
    simp only at this
    rw [if_neg b, c] at this
    exact this rfl)
  simp only [Int.natCast_zero, List.drop_zero] at this
  rw [this]
  cases nodesN n.Rings 0 n.Nodes 0 (List.replicate n.Rings.toNat noEnds) with
  | inl e => rfl
  | inr q =>
    obtain ⟨s, l⟩ := q
    simp only
    by_cases h3 : l.any (fun e => decide (e.src < 0 ∨ e.dst < 0)) = true
    · rw [if_pos h3, if_pos h3]
    · rw [if_neg h3, if_neg h3]
      by_cases h4 : s ≠ 1
      · rw [if_pos h4, if_pos h4]
      · rw [if_neg h4, if_neg h4]
        cases ho : ordN l n.Nodes n.Nodes.length [] <;> simp only [ho]
end Go.Proofs.Ytegkmfokfakeiaa
