/-
  Nets: what a net's rings' ends are, plain; 'net.look' tells them.
-/
import Derived.Test.YtegkmfokfakeiaaPlib
import Derived.Test.YtegkmfokfakeiaaSh
namespace Go.Proofs.Ytegkmfokfakeiaa
set_option linter.unusedVariables false
set_option linter.unusedSimpArgs false

def noEnds : Ends := ⟨-1, -1⟩

/- slices.Repeat -/
theorem rep_loop (R : Nat) (hR : R ≤ 16) : ∀ (n k : Nat) (xs : List Ends), R - k ≤ n → 1 ≤ k → k ≤ R → xs.length = R → xs.take k = List.replicate k noEnds →
    iter (fun ss : Int × List Ends => slices_Repeat_ends_l1 ss.1 ss.2) ((k : Int), xs) = some (List.replicate R noEnds)
  | n, k, xs, hn, h1, h2, hl, ht => by
    rw [iter_eq]
    by_cases hk : k = R
    · subst hk
      unfold slices_Repeat_ends_l1
      rw [if_neg (by simp [hl])]
      have : xs = List.replicate k noEnds := by rw [← ht, List.take_of_length_le (by omega)]
      simp [this]
    · have hkR : k < R := by omega
      have v1 : vwok xs.length (k : Int) (xs.length : Int) = some () := by unfold vwok; rw [if_pos (by omega)]
      have v2 : vwok xs.length 0 (k : Int) = some () := by unfold vwok; rw [if_pos (by omega)]
      have v3 : vwok xs.length ((((k : Int)).toNat : Nat) : Int) ((((k : Int).toNat : Nat) : Int) + ((((xs.length : Int)).toNat - (k : Int).toNat : Nat) : Int)) = some () := by unfold vwok; rw [if_pos (by omega)]
      have v4 : vwok xs.length ((((0 : Int)).toNat : Nat) : Int) ((((0 : Int).toNat : Nat) : Int) + (((k : Int).toNat - (0 : Int).toNat : Nat) : Int)) = some () := by unfold vwok; rw [if_pos (by simp; omega)]
      have hstep : slices_Repeat_ends_l1 (k : Int) xs = some (.inl (((k + min (R - k) k : Nat) : Int), xs.take k ++ (xs.take k).take (R - k) ++ xs.drop (k + min (R - k) k))) := by
        unfold slices_Repeat_ends_l1
        rw [if_pos (by simp; omega), v1, Option.bind_some, v2, Option.bind_some, v3, Option.bind_some, v4, Option.bind_some]
        have e1 : IntKind.i64.wrap ((k : Int) + ((min (((xs.length : Int)).toNat - (k : Int).toNat) ((k : Int).toNat - (0 : Int).toNat) : Nat) : Int)) = ((k + min (R - k) k : Nat) : Int) := by
          rw [wrap_ok (by omega) (by simp only [Int.toNat_natCast, Int.toNat_zero, hl]; omega)]
          simp only [Int.toNat_natCast, Int.toNat_zero, hl]; omega
        rw [e1]
        simp only [cpy, Int.toNat_natCast, Int.toNat_zero, hl, List.drop_zero, Nat.sub_zero, List.length_take]
        congr 5
        omega
      rw [hstep]
      simp only
      have hm : 1 ≤ min (R - k) k := by omega
      match n, hn with
      | 0, hn => omega
      | n + 1, hn =>
        refine rep_loop R hR n (k + min (R - k) k) _ (by omega) (by omega) (by omega) (by simp; omega) ?_
        rw [ht, List.take_replicate]
        have e : (List.replicate k noEnds ++ List.replicate (min (R - k) k) noEnds).length = k + min (R - k) k := by simp
        rw [← e, List.take_left, e]
        simp
theorem mul_lit (R : Nat) (hR : R ≤ 16) : math_bits_Mul (IntKind.u64.wrap (([(⟨(-1), (-1)⟩ : Ends)] : List Ends).length : Int)) (IntKind.u64.wrap (R : Int)) = some (0, (R : Int)) := by
  have : R = 0 ∨ R = 1 ∨ R = 2 ∨ R = 3 ∨ R = 4 ∨ R = 5 ∨ R = 6 ∨ R = 7 ∨ R = 8 ∨ R = 9 ∨ R = 10 ∨ R = 11 ∨ R = 12 ∨ R = 13 ∨ R = 14 ∨ R = 15 ∨ R = 16 := by omega
  rcases this with rfl | rfl | rfl | rfl | rfl | rfl | rfl | rfl | rfl | rfl | rfl | rfl | rfl | rfl | rfl | rfl | rfl <;> rfl
theorem repeat_eq (R : Nat) (hR : R ≤ 16) : slices_Repeat_ends ([(⟨(-1), (-1)⟩ : Ends)] : List Ends) (R : Int) = some (List.replicate R noEnds) := by
  unfold slices_Repeat_ends
  rw [if_neg (by simp), mul_lit R hR, Option.bind_some, if_neg (by simp; omega), wrap_ok (show -9223372036854775808 ≤ (R : Int) by omega) (show (R : Int) ≤ 9223372036854775807 by omega)]
  have hmk : mk (R : Int) (⟨0, 0⟩ : Ends) = some (List.replicate R ⟨0, 0⟩) := by unfold mk; rw [if_pos (by omega)]; rfl
  rw [hmk, Option.bind_some]
  simp only [List.length_replicate, List.length_singleton]
  by_cases h0 : R = 0
  · subst h0
    rw [iter_eq]
    unfold slices_Repeat_ends_l1
    simp [cpy]
  · have e : min R 1 = 1 := by omega
    rw [e]
    have hc : cpy (List.replicate R (⟨0, 0⟩ : Ends)) 0 R [(⟨(-1), (-1)⟩ : Ends)] = noEnds :: (List.replicate R (⟨0, 0⟩ : Ends)).drop 1 := by
      unfold cpy
      have : ([(⟨(-1), (-1)⟩ : Ends)] : List Ends).take R = [⟨-1, -1⟩] := List.take_of_length_le (by simp; omega)
      rw [this]
      simp [e, noEnds]
    rw [hc]
    exact rep_loop R hR R 1 _ (by omega) (by omega) (by omega) (by simp; omega) (by simp)

/- what a net is -/
/-- How many rings a kind takes from, gives to (-1: one or more). -/
def arityN (k : Int) : Option (Int × Int) := if k = 1 then some (0, 1) else if k = 2 ∨ k = 3 ∨ k = 4 then some (1, 1) else if k = 5 ∨ k = 7 then some (1, -1) else if k = 6 then some (-1, 1) else if k = 8 then some (1, 0) else none
def fitsN (n : Nat) (want : Int) : Bool := decide ((n : Int) = want ∨ want < 0 ∧ 0 < n)
def badA (x : Node) : Bool := decide (x.A < 0 ∨ x.Kind = 1 ∧ 4 ≤ x.A ∨ x.Kind = 2 ∧ 3 < x.A ∨ x.Kind ≠ 1 ∧ x.Kind ≠ 2 ∧ x.A ≠ 0)
/-- What is wrong with a node by itself. -/
def nodeErr (x : Node) : Int := match arityN x.Kind with
  | none => 5
  | some (i, o) => if (fitsN x.In.length i && fitsN x.Out.length o) = false then 4 else if badA x then 3 else 0
/-- Rings are taken by a node. -/
def takeN (R i : Int) : List Int → List Ends → Int ⊕ List Ends
  | [], l => .inr l
  | r :: rs, l => if r < 0 ∨ R ≤ r then .inl 3 else match l[r.toNat]? with
    | none => .inl 99
    | some e => if 0 ≤ e.dst then .inl 6 else takeN R i rs (l.set r.toNat ⟨e.src, i⟩)
/-- Rings are given to by a node. -/
def giveN (R i : Int) : List Int → List Ends → Int ⊕ List Ends
  | [], l => .inr l
  | r :: rs, l => if r < 0 ∨ R ≤ r then .inl 3 else match l[r.toNat]? with
    | none => .inl 99
    | some e => if 0 ≤ e.src then .inl 6 else giveN R i rs (l.set r.toNat ⟨i, e.dst⟩)
def oneN (R : Int) (i : Nat) (x : Node) (l : List Ends) : Int ⊕ List Ends :=
  if nodeErr x ≠ 0 then .inl (nodeErr x) else match takeN R i x.In l with
    | .inl e => .inl e
    | .inr l1 => giveN R i x.Out l1
def nodesN (R : Int) : Nat → List Node → Nat → List Ends → Int ⊕ (Nat × List Ends)
  | _, [], s, l => .inr (s, l)
  | i, x :: xs, s, l => match oneN R i x l with
    | .inl e => .inl e
    | .inr l1 => nodesN R (i + 1) xs (if x.Kind = 8 then s + 1 else s) l1
def lookN (n : Net) : Int ⊕ List Ends :=
  if n.Nodes.length < 1 ∨ 12 < n.Nodes.length ∨ n.Rings < 0 ∨ 16 < n.Rings then .inl 2
  else if n.Room < 1 ∨ 6 < n.Room then .inl 3
  else match nodesN n.Rings 0 n.Nodes 0 (List.replicate n.Rings.toNat noEnds) with
    | .inl e => .inl e
    | .inr (s, l) => if l.any (fun e => decide (e.src < 0 ∨ e.dst < 0)) then .inl 9 else if s ≠ 1 then .inl 4 else .inr l

theorem takeN_len (R i : Int) : ∀ (rs : List Int) (l l1 : List Ends), takeN R i rs l = .inr l1 → l1.length = l.length
  | [], l, l1, h => by cases h; rfl
  | r :: rs, l, l1, h => by
    unfold takeN at h
    split at h
    · cases h
    · split at h
      · cases h
      · split at h
        · cases h
        · have := takeN_len R i rs _ l1 h; simpa using this
theorem giveN_len (R i : Int) : ∀ (rs : List Int) (l l1 : List Ends), giveN R i rs l = .inr l1 → l1.length = l.length
  | [], l, l1, h => by cases h; rfl
  | r :: rs, l, l1, h => by
    unfold giveN at h
    split at h
    · cases h
    · split at h
      · cases h
      · split at h
        · cases h
        · have := giveN_len R i rs _ l1 h; simpa using this
theorem oneN_len {R : Int} {i : Nat} {x : Node} {l l1 : List Ends} (h : oneN R i x l = .inr l1) : l1.length = l.length := by
  unfold oneN at h
  split at h
  · cases h
  · split at h
    · cases h
    · rename_i l2 h2
      exact (giveN_len R i _ _ _ h).trans (takeN_len R i _ _ _ h2)

theorem arity_eq (k : Int) : net_arity k = some (match arityN k with | some (i, o) => (i, o, true) | none => (0, 0, false)) := by
  unfold net_arity net_arity_k2 net_arity_k1 arityN
  by_cases h1 : k = 1
  · subst h1; rfl
  by_cases h2 : k = 2
  · subst h2; rfl
  by_cases h3 : k = 3
  · subst h3; rfl
  by_cases h4 : k = 4
  · subst h4; rfl
  by_cases h5 : k = 5
  · subst h5; rfl
  by_cases h6 : k = 6
  · subst h6; rfl
  by_cases h7 : k = 7
  · subst h7; rfl
  by_cases h8 : k = 8
  · subst h8; rfl
  simp [h1, h2, h3, h4, h5, h6, h7, h8]
theorem fits_eq (n : Nat) (w : Int) : net_fits (n : Int) w = some (fitsN n w) := by
  unfold net_fits fitsN
  congr 1
  rw [Bool.eq_iff_iff]
  simp

theorem look_s1 (n : Net) (s : Int) (i : Nat) (x : Node) (hR : n.Rings ≤ 16) (k : Nat) (l : List Ends) (hlt : k < x.Out.length) (hx : x.Out.length ≤ 1099511627776) (hl : (l.length : Int) = n.Rings) :
    net_look_l1 n i x s k l = if x.Out[k] < 0 ∨ n.Rings ≤ x.Out[k] then some (.inr (.inr ([], 3))) else match l[x.Out[k].toNat]? with
      | none => none
      | some e => if 0 ≤ e.src then some (.inr (.inr ([], 6))) else some (.inl (((k + 1 : Nat) : Int), l.set x.Out[k].toNat ⟨i, e.dst⟩)) := by
  unfold net_look_l1
  rw [if_pos (by simp; omega), idx_at (List.getElem?_eq_getElem hlt), Option.bind_some]
  by_cases hr : x.Out[k] < 0 ∨ n.Rings ≤ x.Out[k]
  · rw [if_pos (by simp; omega), if_pos hr]; rfl
  · rw [if_neg (by simp; omega), if_neg hr]
    have hrl : x.Out[k].toNat < l.length := by omega
    have hix : ixN l x.Out[k] = some x.Out[k].toNat := by unfold ixN; rw [if_pos (by omega)]
    have hg := List.getElem?_eq_getElem hrl
    simp only [hix, hg, Option.bind_some, wrap_1 (show k < 4611686018427387904 by omega)]
    by_cases he : 0 ≤ l[x.Out[k].toNat].src
    · rw [if_pos (by simp; omega), if_pos he]; rfl
    · rw [if_neg (by simp; omega), if_neg he]
theorem look_s2 (n : Net) (s : Int) (i : Nat) (x : Node) (hR : n.Rings ≤ 16) (k : Nat) (l : List Ends) (hlt : k < x.In.length) (hx : x.In.length ≤ 1099511627776) (hl : (l.length : Int) = n.Rings) :
    net_look_l2 n i x s k l = if x.In[k] < 0 ∨ n.Rings ≤ x.In[k] then some (.inr (.inr ([], 3))) else match l[x.In[k].toNat]? with
      | none => none
      | some e => if 0 ≤ e.dst then some (.inr (.inr ([], 6))) else some (.inl (((k + 1 : Nat) : Int), l.set x.In[k].toNat ⟨e.src, i⟩)) := by
  unfold net_look_l2
  rw [if_pos (by simp; omega), idx_at (List.getElem?_eq_getElem hlt), Option.bind_some]
  by_cases hr : x.In[k] < 0 ∨ n.Rings ≤ x.In[k]
  · rw [if_pos (by simp; omega), if_pos hr]; rfl
  · rw [if_neg (by simp; omega), if_neg hr]
    have hrl : x.In[k].toNat < l.length := by omega
    have hix : ixN l x.In[k] = some x.In[k].toNat := by unfold ixN; rw [if_pos (by omega)]
    have hg := List.getElem?_eq_getElem hrl
    simp only [hix, hg, Option.bind_some, wrap_1 (show k < 4611686018427387904 by omega)]
    by_cases he : 0 ≤ l[x.In[k].toNat].dst
    · rw [if_pos (by simp; omega), if_pos he]; rfl
    · rw [if_neg (by simp; omega), if_neg he]
/-- A node's rings: those that it gives to. -/
theorem look_l1 (n : Net) (s : Int) (i : Nat) (x : Node) (hx : x.Out.length ≤ 1099511627776) (hi : i ≤ 12) (hR : n.Rings ≤ 16) :
    ∀ (m k : Nat) (l : List Ends), k + m = x.Out.length → (l.length : Int) = n.Rings →
    iter (fun ss : Int × List Ends => net_look_l1 n i x s ss.1 ss.2) ((k : Int), l) = match giveN n.Rings i (x.Out.drop k) l with
      | .inl e => some (.inr ([], e))
      | .inr l1 => some (.inl (s, ((i + 1 : Nat) : Int), l1))
  | 0, k, l, h, hl => by
    have hk : k = x.Out.length := by omega
    subst hk
    have : net_look_l1 n i x s (x.Out.length : Int) l = some (.inr (.inl (s, ((i + 1 : Nat) : Int), l))) := by
      unfold net_look_l1
      rw [if_neg (by simp), wrap_1 (by omega)]; rfl
    rw [iter_eq, List.drop_length]
    simp only [this, giveN]
  | m + 1, k, l, h, hl => by
    have hlt : k < x.Out.length := by omega
    rw [iter_eq, List.drop_eq_getElem_cons hlt]
    simp only [giveN, look_s1 n s i x hR k l hlt hx hl]
    by_cases hr : x.Out[k] < 0 ∨ n.Rings ≤ x.Out[k]
    · simp only [if_pos hr]
    · simp only [if_neg hr]
      have hrl : x.Out[k].toNat < l.length := by omega
      simp only [List.getElem?_eq_getElem hrl]
      by_cases he : 0 ≤ l[x.Out[k].toNat].src
      · simp only [if_pos he]
      · simp only [if_neg he]
        exact look_l1 n s i x hx hi hR m (k + 1) _ (by omega) (by simpa using hl)
/-- A node's rings: those that it takes from. -/
theorem look_l2 (n : Net) (s : Int) (i : Nat) (x : Node) (hx : x.Out.length ≤ 1099511627776) (hx2 : x.In.length ≤ 1099511627776) (hi : i ≤ 12) (hR : n.Rings ≤ 16) :
    ∀ (m k : Nat) (l : List Ends), k + m = x.In.length → (l.length : Int) = n.Rings →
    iter (fun ss : Int × List Ends => net_look_l2 n i x s ss.1 ss.2) ((k : Int), l) = match (match takeN n.Rings i (x.In.drop k) l with | .inl e => Sum.inl e | .inr l1 => giveN n.Rings i x.Out l1) with
      | .inl e => some (.inr ([], e))
      | .inr l1 => some (.inl (s, ((i + 1 : Nat) : Int), l1))
  | 0, k, l, h, hl => by
    have hk : k = x.In.length := by omega
    subst hk
    have := look_l1 n s i x hx hi hR x.Out.length 0 l (by omega) hl
    simp only [List.drop_zero, Int.natCast_zero] at this
    have h2 : net_look_l2 n i x s (x.In.length : Int) l = Option.map Sum.inr (match giveN n.Rings i x.Out l with | .inl e => some (.inr ([], e)) | .inr l1 => some (.inl (s, ((i + 1 : Nat) : Int), l1))) := by
      unfold net_look_l2
      rw [if_neg (by simp)]
      rw [← this]
    rw [iter_eq, List.drop_length]
    simp only [h2, takeN]
    cases giveN n.Rings i x.Out l <;> rfl
  | m + 1, k, l, h, hl => by
    have hlt : k < x.In.length := by omega
    rw [iter_eq, List.drop_eq_getElem_cons hlt]
    simp only [takeN, look_s2 n s i x hR k l hlt hx2 hl]
    by_cases hr : x.In[k] < 0 ∨ n.Rings ≤ x.In[k]
    · simp only [if_pos hr]
    · simp only [if_neg hr]
      have hrl : x.In[k].toNat < l.length := by omega
      simp only [List.getElem?_eq_getElem hrl]
      by_cases he : 0 ≤ l[x.In[k].toNat].dst
      · simp only [if_pos he]
      · simp only [if_neg he]
        exact look_l2 n s i x hx hx2 hi hR m (k + 1) _ (by omega) (by simpa using hl)
theorem badA_eq (x : Node) : ((decide (x.A < 0)) || (if (x.Kind == 1) = true then ((decide (x.A ≥ 4)) || (if (x.Kind == 2) = true then ((decide (x.A > 3)) || ((x.Kind != 1) && ((x.Kind != 2) && x.A != 0))) else ((x.Kind != 1) && ((x.Kind != 2) && x.A != 0)))) else (if (x.Kind == 2) = true then ((decide (x.A > 3)) || ((x.Kind != 1) && ((x.Kind != 2) && x.A != 0))) else ((x.Kind != 1) && ((x.Kind != 2) && x.A != 0))))) = badA x := by
  unfold badA
  by_cases h1 : x.Kind = 1
  · rw [Bool.eq_iff_iff]; simp [h1]
  · by_cases h2 : x.Kind = 2
    · rw [Bool.eq_iff_iff]; simp [h1, h2]
    · rw [Bool.eq_iff_iff]; simp [h1, h2]
/-- All nodes, one after the other. -/
theorem look_l4 (s : Int) (l : List Ends) (hl : l.length ≤ 16) : iter (fun ss : Int => net_look_l4 s l ss) 0 = some (if l.any (fun e => decide (e.src < 0 ∨ e.dst < 0)) then ([], 9) else if s ≠ 1 then ([], 4) else (l, 0)) := by
  have := iter_list0 (σ := Unit) l (by omega) (fun k _ => (k : Int)) (body := fun ss => net_look_l4 s l ss)
    (fun k e _ => if e.src < 0 ∨ e.dst < 0 then some (.inr ([], 9)) else some (.inl ())) (fun _ => if s ≠ 1 then some ([], 4) else some (l, 0)) ()
    (fun k e _ hk hlt _ h2 h3 => by
      unfold net_look_l4
      rw [h2, ixN_at hlt, h3]
      simp only [if_true, Option.bind_some, hk]
      by_cases h : e.src < 0 ∨ e.dst < 0
      · rw [if_pos (by simp; omega), if_pos h]; rfl
      · rw [if_neg (by simp; omega), if_neg h])
    (fun _ h => by
      unfold net_look_l4; rw [h]
      by_cases hs : s = 1 <;> simp [hs])
  refine Eq.trans this ?_
  have key : ∀ (ys : List Ends) (k : Nat), foldE (σ := Unit) (ρ := List Ends × Int) (fun k e _ => if e.src < 0 ∨ e.dst < 0 then some (.inr ([], 9)) else some (.inl ())) (fun _ => if s ≠ 1 then some ([], 4) else some (l, 0)) k ys () = some (if ys.any (fun e => decide (e.src < 0 ∨ e.dst < 0)) then ([], 9) else if s ≠ 1 then ([], 4) else (l, 0)) := by
    intro ys
    induction ys with
    | nil => intro k; simp only [foldE, List.any_nil]; by_cases hs : s = 1 <;> simp [hs]
    | cons y ys ih =>
      intro k
      unfold foldE
      by_cases h : y.src < 0 ∨ y.dst < 0
      · rw [if_pos h]; simp [h]
      · rw [if_neg h]; simp only; rw [ih]; simp [h]
  exact key l 0
theorem look_l5 (n : Net) (hn : n.Nodes.length ≤ 12) (hR0 : 0 ≤ n.Rings) (hR : n.Rings ≤ 16) (hio : ∀ x ∈ n.Nodes, x.In.length ≤ 1099511627776 ∧ x.Out.length ≤ 1099511627776) :
    ∀ (m k s : Nat) (l : List Ends), k + m = n.Nodes.length → s ≤ k → (l.length : Int) = n.Rings →
    iter (fun ss : Int × Int × List Ends => net_look_l5 n ss.1 ss.2.1 ss.2.2) ((s : Int), (k : Int), l) = some (match nodesN n.Rings k (n.Nodes.drop k) s l with
      | .inl e => ([], e)
      | .inr (s, l) => if l.any (fun e => decide (e.src < 0 ∨ e.dst < 0)) then ([], 9) else if s ≠ 1 then ([], 4) else (l, 0))
  | 0, k, s, l, h, hs, hl => by
    have hk : k = n.Nodes.length := by omega
    subst hk
    have h5 : net_look_l5 n s (n.Nodes.length : Int) l = some (.inr (if l.any (fun e => decide (e.src < 0 ∨ e.dst < 0)) then ([], 9) else if (s : Int) ≠ 1 then ([], 4) else (l, 0))) := by
      unfold net_look_l5
      rw [if_neg (by simp), look_l4 _ _ (by omega)]; rfl
    have : ((s : Int) ≠ 1) ↔ (s ≠ 1) := by omega
    rw [iter_eq, List.drop_length]
    simp only [h5, nodesN, this]
  | m + 1, k, s, l, h, hs, hl => by
    have hlt : k < n.Nodes.length := by omega
    have hmem : n.Nodes[k] ∈ n.Nodes := List.getElem_mem hlt
    rw [iter_eq, List.drop_eq_getElem_cons hlt]
    simp only [nodesN]
    have step : net_look_l5 n s k l = match oneN n.Rings k n.Nodes[k] l with
        | .inl e => some (.inr ([], e))
        | .inr l1 => some (.inl (((if n.Nodes[k].Kind = 8 then s + 1 else s : Nat) : Int), ((k + 1 : Nat) : Int), l1)) := by
      unfold net_look_l5
      rw [if_pos (by simp; omega), idx_at (List.getElem?_eq_getElem hlt), Option.bind_some, arity_eq, Option.bind_some]
      generalize n.Nodes[k] = x at hmem
      unfold oneN nodeErr
      cases ha : arityN x.Kind with
      | none => simp
      | some io =>
        obtain ⟨i0, o0⟩ := io
        simp only [Bool.not_true, Bool.false_eq_true, if_false, fits_eq, Option.bind_some]
        have hfit : (if (!fitsN x.In.length i0) = true then some true else some (!fitsN x.Out.length o0)) = some (!(fitsN x.In.length i0 && fitsN x.Out.length o0)) := by
          cases fitsN x.In.length i0 <;> simp
        rw [hfit, Option.bind_some]
        by_cases hf : (fitsN x.In.length i0 && fitsN x.Out.length o0) = false
        · rw [if_pos (by simp [hf])]
          simp [hf]
        · have hf' : (fitsN x.In.length i0 && fitsN x.Out.length o0) = true := by simpa using hf
          rw [if_neg (by simp [hf']), badA_eq]
          simp only [hf', Bool.true_eq_false, if_false]
          by_cases hb : badA x = true
          · simp [hb]
          · simp only [hb, if_false, Bool.false_eq_true, ne_eq, not_true_eq_false]
            obtain ⟨h1, h2⟩ := hio x hmem
            have k3 : ∀ s' : Int, net_look_k3 n k l x s' = match (match takeN n.Rings k x.In l with | .inl e => Sum.inl e | .inr l1 => giveN n.Rings k x.Out l1) with
                | .inl e => some (.inr ([], e))
                | .inr l1 => some (.inl (s', ((k + 1 : Nat) : Int), l1)) := fun s' => by
              unfold net_look_k3
              have := look_l2 n s' k x h2 h1 (by omega) hR x.In.length 0 l (by omega) hl
              simpa using this
            by_cases h8 : x.Kind = 8
            · rw [if_pos (by simp [h8]), k3, wrap_1 (by omega)]
              simp only [h8, if_true]
            · rw [if_neg (by simp [h8]), k3]
              simp only [h8, if_false]
    simp only [step]
    cases ho : oneN n.Rings k n.Nodes[k] l with
    | inl e => rfl
    | inr l1 =>
      simp only
      exact look_l5 n hn hR0 hR hio m (k + 1) _ l1 (by omega) (by split <;> omega) (by rw [oneN_len ho]; exact hl)
theorem net_look_eq (n : Net) (hio : ∀ x ∈ n.Nodes, x.In.length ≤ 1099511627776 ∧ x.Out.length ≤ 1099511627776) : net_look n = some (match lookN n with | .inl e => ([], e) | .inr l => (l, 0)) := by
  unfold net_look lookN
  by_cases h1 : n.Nodes.length < 1 ∨ 12 < n.Nodes.length ∨ n.Rings < 0 ∨ 16 < n.Rings
  · rw [if_pos (by simp; omega), if_pos h1]
  rw [if_neg (by simp; omega), if_neg h1]
  by_cases h2 : n.Room < 1 ∨ 6 < n.Room
  · rw [if_pos (by simp; omega), if_pos h2]
  rw [if_neg (by simp; omega), if_neg h2]
  have hRn : n.Rings = ((n.Rings.toNat : Nat) : Int) := by omega
  rw [hRn, repeat_eq _ (by omega), Option.bind_some, ← hRn]
  have := look_l5 n (by omega) (by omega) (by omega) hio n.Nodes.length 0 0 (List.replicate n.Rings.toNat noEnds) (by omega) (by omega) (by simp; omega)
  simp only [Int.natCast_zero, List.drop_zero] at this
  rw [this]
  cases nodesN n.Rings 0 n.Nodes 0 (List.replicate n.Rings.toNat noEnds) with
  | inl e => rfl
  | inr q =>
    obtain ⟨s, l⟩ := q
    simp only
    split
    · rfl
    · split <;> rfl
end Go.Proofs.Ytegkmfokfakeiaa
