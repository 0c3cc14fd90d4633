/-
  A net's order, plain; 'net.Order' tells it.
-/
import Derived.Test.YtegkmfokfakeiaaPNetL
namespace Go.Proofs.Ytegkmfokfakeiaa
set_option linter.unusedVariables false
set_option linter.unusedSimpArgs false

/-- The first number from k on, of m, for which it is so. -/
def firstN (ok : Nat → Bool) : Nat → Nat → Option Nat
  | 0, _ => none
  | m + 1, k => if ok k then some k else firstN ok m (k + 1)
theorem firstN_some {ok : Nat → Bool} : ∀ {m k i : Nat}, firstN ok m k = some i → k ≤ i ∧ i < k + m ∧ ok i = true
  | 0, k, i, h => by cases h
  | m + 1, k, i, h => by
    unfold firstN at h
    split at h
    · rename_i hk; cases h; exact ⟨by omega, by omega, hk⟩
    · obtain ⟨a, b, c⟩ := firstN_some h; exact ⟨by omega, by omega, c⟩
theorem firstN_none {ok : Nat → Bool} : ∀ {m k : Nat}, firstN ok m k = none → ∀ i, k ≤ i → i < k + m → ok i = false
  | 0, k, h, i, h1, h2 => by omega
  | m + 1, k, h, i, h1, h2 => by
    unfold firstN at h
    split at h
    · cases h
    · rename_i hk
      by_cases hi : i = k
      · subst hi; simpa using hk
      · exact firstN_none h i (by omega) (by omega)
theorem firstN_succ {ok : Nat → Bool} : ∀ (m k : Nat), firstN ok (m + 1) k = match firstN ok m k with | some i => some i | none => if ok (k + m) then some (k + m) else none
  | 0, k => by simp [firstN]
  | m + 1, k => by
    rw [firstN, firstN_succ m (k + 1)]
    by_cases h : ok k = true
    · simp [firstN, h]
    · rw [if_neg h, firstN, if_neg h]
      rw [show k + 1 + m = k + (m + 1) by omega]
/-- The greatest first: what is kept is the least. -/
def lastD (ok : Nat → Bool) : Nat → Int → Int
  | 0, b => b
  | k + 1, b => lastD ok k (if ok k then (k : Int) else b)
theorem lastD_eq {ok : Nat → Bool} : ∀ (k : Nat) (b : Int), lastD ok k b = match firstN ok k 0 with | some i => (i : Int) | none => b
  | 0, b => rfl
  | k + 1, b => by
    rw [lastD, lastD_eq k, firstN_succ]
    cases firstN ok k 0 with
    | some i => rfl
    | none => simp only [Nat.zero_add]; split <;> rfl

def fedN (l : List Ends) (out : List Nat) (x : Node) : Bool := x.In.all fun r => match l[r.toNat]? with | some e => out.contains e.src.toNat | none => false
def okN (l : List Ends) (out : List Nat) (ns : List Node) (i : Nat) : Bool := !(out.contains i) && (match ns[i]? with | some x => fedN l out x | none => false)
def ordN (l : List Ends) (ns : List Node) : Nat → List Nat → Option (List Nat)
  | 0, out => some out
  | m + 1, out => match firstN (okN l out ns) ns.length 0 with
    | none => none
    | some i => ordN l ns m (out ++ [i])
/-- What a net is told to be: its order, or what is wrong. -/
def netR (n : Net) : List Int × Int := match lookN n with
  | .inl e => ([], e)
  | .inr l => match ordN l n.Nodes n.Nodes.length [] with
    | none => ([], 7)
    | some out => (out.map (fun i : Nat => (i : Int)), 0)

/-- Which nodes stand already. -/
def doneL (N : Nat) (out : List Nat) : List Bool := (List.range N).map fun i => out.contains i
theorem doneL_get {N : Nat} {out : List Nat} {i : Nat} (h : i < N) : (doneL N out)[i]? = some (out.contains i) := by
  unfold doneL; rw [List.getElem?_map, List.getElem?_range h]; rfl
theorem doneL_len {N : Nat} {out : List Nat} : (doneL N out).length = N := by simp [doneL]
theorem doneL_set {N : Nat} {out : List Nat} {i : Nat} (h : i < N) : (doneL N out).set i true = doneL N (out ++ [i]) := by
  apply List.ext_getElem?
  intro j
  rw [List.getElem?_set, doneL_len]
  by_cases hj : j < N
  · rw [doneL_get hj]
    by_cases hij : i = j
    · subst hij; rw [if_pos rfl, if_pos h, doneL_get h]; simp
    · rw [if_neg hij, doneL_get hj]
      have : ¬ j = i := fun e => hij e.symm
      simp [this]
  · rw [List.getElem?_eq_none (by rw [doneL_len]; omega), List.getElem?_eq_none (by rw [doneL_len]; omega), if_neg (by omega)]
theorem doneL_nil (N : Nat) : List.replicate N false = doneL N [] := by
  apply List.ext_getElem?
  intro j
  rw [List.getElem?_replicate]
  by_cases hj : j < N
  · rw [if_pos hj, doneL_get hj]; rfl
  · rw [if_neg hj, List.getElem?_eq_none (by rw [doneL_len]; omega)]

theorem order_k1 {n : Net} (out : List Nat) (ho : out.length ≤ 12) (z : Option Nat) (hz : ∀ i, z = some i → i < n.Nodes.length) : net_Order_k1 (out.map (fun i : Nat => (i : Int))) (doneL n.Nodes.length out) (match z with | some i => (i : Int) | none => -1) = match z with
    | some i => some (.inl ((out ++ [i]).map (fun i : Nat => (i : Int)), doneL n.Nodes.length (out ++ [i])))
    | none => some (.inr ([], 7)) := by
  unfold net_Order_k1
  cases z with
  | none => rfl
  | some i =>
    have hi := hz i rfl
    simp only
    rw [if_neg (by rw [decide_eq_true_iff]; omega)]
    have e1 : ixN (doneL n.Nodes.length out) (i : Int) = some i := by unfold ixN; rw [if_pos (by rw [doneL_len]; omega)]; rfl
    simp only [e1, Option.bind_some, doneL_get hi]
    rw [app_ok (by simp; omega), Option.bind_some, doneL_set hi]
    simp
section
variable {n : Net} {l : List Ends} (hn : NetL n l)
include hn
theorem src_lt {j : Nat} {e : Ends} (h : l[j]? = some e) : 0 ≤ e.src ∧ e.src.toNat < n.Nodes.length := by
  obtain ⟨i, x, h1, h2, _⟩ := hn.src j e h
  have := (List.getElem?_eq_some_iff.1 h1).1
  omega
theorem notfed_eq {i : Nat} {x : Node} (hx : n.Nodes[i]? = some x) (out : List Nat) {r : Int} (hr : r ∈ x.In) :
    net_Order_1_x523f r (doneL n.Nodes.length out) l = some (!(match l[r.toNat]? with | some e => out.contains e.src.toNat | none => false)) := by
  obtain ⟨h1, h2, e, h3, _⟩ := hn.inn i x hx r hr
  have hlt := (List.getElem?_eq_some_iff.1 h3).1
  obtain ⟨h4, h5⟩ := src_lt hn h3
  have e1 : ixN l r = some r.toNat := by unfold ixN; rw [if_pos (by omega)]
  have e2 : ixN (doneL n.Nodes.length out) e.src = some e.src.toNat := by unfold ixN; rw [if_pos (by rw [doneL_len]; omega)]
  unfold net_Order_1_x523f
  simp only [e1, Option.bind_some, h3, e2, doneL_get h5]
theorem notfed_any {i : Nat} {x : Node} (hx : n.Nodes[i]? = some x) (out : List Nat) (hl : x.In.length ≤ 1099511627776) : slices_ContainsFunc_int_x5d6b x.In (doneL n.Nodes.length out) l = some (!fedN l out x) := by
  unfold slices_ContainsFunc_int_x5d6b slices_IndexFunc_int_x5d6b
  have := iter_list0 (σ := Unit) x.In hl (fun k _ => (k : Int)) (body := fun ss => slices_IndexFunc_int_x5d6b_l1 x.In (doneL n.Nodes.length out) l ss)
    (fun k r _ => if (match l[r.toNat]? with | some e => out.contains e.src.toNat | none => false) = false then some (.inr (k : Int)) else some (.inl ())) (fun _ => some (-1)) ()
    (fun k r _ hk hlt h1 h2 h3 => by
      unfold slices_IndexFunc_int_x5d6b_l1
      rw [h2, h1, h3]
      simp only [if_true, Option.bind_some]
      rw [notfed_eq hn hx out (List.mem_of_getElem? hk), Option.bind_some]
      generalize (match l[r.toNat]? with | some e => out.contains e.src.toNat | none => false) = b
      cases b <;> rfl)
    (fun _ h => by unfold slices_IndexFunc_int_x5d6b_l1; rw [h]; rfl)
  simp only [Int.natCast_zero] at this
  rw [this]
  have key : ∀ (ys : List Int) (k : Nat), ∃ v : Int, foldE (σ := Unit) (fun k r _ => if (match l[r.toNat]? with | some e => out.contains e.src.toNat | none => false) = false then some (.inr (k : Int)) else some (.inl ())) (fun _ => some (-1 : Int)) k ys () = some v ∧
      decide (v ≥ 0) = !(ys.all fun r => match l[r.toNat]? with | some e => out.contains e.src.toNat | none => false) := by
    intro ys
    induction ys with
    | nil => intro k; exact ⟨-1, rfl, by simp⟩
    | cons y ys ih =>
      intro k
      unfold foldE
      by_cases h : (match l[y.toNat]? with | some e => out.contains e.src.toNat | none => false) = false
      · rw [if_pos h]
        exact ⟨k, rfl, by rw [List.all_cons, h]; simp⟩
      · rw [if_neg h]
        simp only
        obtain ⟨v, h1, h2⟩ := ih (k + 1)
        refine ⟨v, h1, ?_⟩
        rw [h2, List.all_cons]
        have h' : (match l[y.toNat]? with | some e => out.contains e.src.toNat | none => false) = true := by simpa using h
        rw [h']; simp
  obtain ⟨v, h1, h2⟩ := key x.In 0
  rw [h1, Option.bind_some, h2]
  rfl
theorem order_l2 (hio : ∀ x ∈ n.Nodes, x.In.length ≤ 1099511627776) (q : Int) (out : List Nat) (ho : out.length ≤ 12) : ∀ (m k : Nat), k + m = n.Nodes.length →
    iter (fun ss : Int => net_Order_l2 n (l, q) (out.map (fun i : Nat => (i : Int))) (doneL n.Nodes.length out) ss) (k : Int) = match firstN (okN l out n.Nodes) m k with
      | some i => some (.inl ((out ++ [i]).map (fun i : Nat => (i : Int)), doneL n.Nodes.length (out ++ [i])))
      | none => some (.inr ([], 7))
  | 0, k, h => by
    have hk : k = n.Nodes.length := by omega
    subst hk
    have : net_Order_l2 n (l, q) (out.map (fun i : Nat => (i : Int))) (doneL n.Nodes.length out) (n.Nodes.length : Int) = some (.inr (.inr ([], 7))) := by
      unfold net_Order_l2
      rw [if_neg (by simp)]
      rfl
    rw [iter_eq, this]
    rfl
  | m + 1, k, h => by
    have hlt : k < n.Nodes.length := by omega
    have hn2 := hn.n2
    have hx : n.Nodes[k]? = some n.Nodes[k] := List.getElem?_eq_getElem hlt
    have e1 : ixN (doneL n.Nodes.length out) (k : Int) = some k := by unfold ixN; rw [if_pos (by rw [doneL_len]; omega)]; rfl
    have hstep : net_Order_l2 n (l, q) (out.map (fun i : Nat => (i : Int))) (doneL n.Nodes.length out) (k : Int) = if okN l out n.Nodes k then some (.inr (.inl ((out ++ [k]).map (fun i : Nat => (i : Int)), doneL n.Nodes.length (out ++ [k])))) else some (.inl ((k + 1 : Nat) : Int)) := by
      unfold net_Order_l2
      rw [if_pos (by simp; omega), idx_at hx, Option.bind_some]
      simp only [e1, Option.bind_some, doneL_get hlt]
      have hok : okN l out n.Nodes k = (!(out.contains k) && fedN l out n.Nodes[k]) := by unfold okN; rw [hx]
      have hin : (if (!(out.contains k)) = true then (slices_ContainsFunc_int_x5d6b n.Nodes[k].In (doneL n.Nodes.length out) l).bind fun x12 => some (!x12) else some false) = some (okN l out n.Nodes k) := by
        rw [notfed_any hn hx out (hio _ (List.getElem_mem hlt)), hok]
        cases out.contains k <;> simp
      rw [hin, Option.bind_some, wrap_1 (by omega)]
      by_cases hb : okN l out n.Nodes k = true
      · rw [if_pos hb, if_pos hb]
        have := order_k1 (n := n) out ho (some k) (fun i e => by cases e; exact hlt)
        simp only at this
        rw [this]; rfl
      · rw [if_neg hb, if_neg hb]
    rw [iter_eq, hstep, firstN]
    by_cases hb : okN l out n.Nodes k = true
    · simp only [if_pos hb]
    · simp only [if_neg hb]
      exact order_l2 hio q out ho m (k + 1) (by omega)
theorem order_l3 (hio : ∀ x ∈ n.Nodes, x.In.length ≤ 1099511627776) (q : Int) : ∀ (m : Nat) (out : List Nat), out.length + m = n.Nodes.length →
    iter (fun ss : List Int × List Bool => net_Order_l3 n (l, q) ss.1 ss.2) (out.map (fun i : Nat => (i : Int)), doneL n.Nodes.length out) = some (match ordN l n.Nodes m out with
      | none => ([], 7)
      | some out => (out.map (fun i : Nat => (i : Int)), 0))
  | 0, out, h => by
    have : net_Order_l3 n (l, q) (out.map (fun i : Nat => (i : Int))) (doneL n.Nodes.length out) = some (.inr (out.map (fun i : Nat => (i : Int)), 0)) := by
      unfold net_Order_l3
      rw [if_neg (by simp; omega)]; rfl
    rw [iter_eq]
    simp only [this, ordN]
  | m + 1, out, h => by
    have hstep : net_Order_l3 n (l, q) (out.map (fun i : Nat => (i : Int))) (doneL n.Nodes.length out) = match firstN (okN l out n.Nodes) n.Nodes.length 0 with
      | some i => some (.inl ((out ++ [i]).map (fun i : Nat => (i : Int)), doneL n.Nodes.length (out ++ [i])))
      | none => some (.inr ([], 7)) := by
      unfold net_Order_l3
      rw [if_pos (by simp; omega)]
      have := order_l2 hn hio q out (by have := hn.n2; omega) n.Nodes.length 0 (by omega)
      simpa using this
    rw [iter_eq]
    simp only [hstep, ordN]
    cases firstN (okN l out n.Nodes) n.Nodes.length 0 with
    | none => rfl
    | some i =>
      simp only
      exact order_l3 hio q m (out ++ [i]) (by simp; omega)
end
theorem takeN_ne (R i : Int) : ∀ (rs : List Int) (l : List Ends), takeN R i rs l ≠ .inl 0
  | [], l, h => by cases h
  | r :: rs, l, h => by
    unfold takeN at h
    split at h
    · exact absurd (Sum.inl.inj h) (by decide)
    · split at h
      · exact absurd (Sum.inl.inj h) (by decide)
      · split at h
        · exact absurd (Sum.inl.inj h) (by decide)
        · exact takeN_ne R i rs _ h
theorem giveN_ne (R i : Int) : ∀ (rs : List Int) (l : List Ends), giveN R i rs l ≠ .inl 0
  | [], l, h => by cases h
  | r :: rs, l, h => by
    unfold giveN at h
    split at h
    · exact absurd (Sum.inl.inj h) (by decide)
    · split at h
      · exact absurd (Sum.inl.inj h) (by decide)
      · split at h
        · exact absurd (Sum.inl.inj h) (by decide)
        · exact giveN_ne R i rs _ h
theorem oneN_ne (R : Int) (i : Nat) (x : Node) (l : List Ends) : oneN R i x l ≠ .inl 0 := fun h => by
  unfold oneN at h
  split at h
  · rename_i hne; exact hne (Sum.inl.inj h)
  · split at h
    · rename_i h2; cases h; exact takeN_ne _ _ _ _ h2
    · exact giveN_ne _ _ _ _ h
theorem nodesN_ne (R : Int) : ∀ (xs : List Node) (k s : Nat) (l : List Ends), nodesN R k xs s l ≠ .inl 0
  | [], k, s, l, h => by cases h
  | x :: xs, k, s, l, h => by
    unfold nodesN at h
    split at h
    · rename_i h2; cases h; exact oneN_ne _ _ _ _ h2
    · exact nodesN_ne R xs _ _ _ h
theorem lookN_ne (n : Net) : lookN n ≠ .inl 0 := fun h => by
  unfold lookN at h
  split at h
  · exact absurd (Sum.inl.inj h) (by decide)
  · split at h
    · exact absurd (Sum.inl.inj h) (by decide)
    · split at h
      · rename_i h2; cases h; exact nodesN_ne _ _ _ _ _ h2
      · split at h
        · exact absurd (Sum.inl.inj h) (by decide)
        · split at h
          · exact absurd (Sum.inl.inj h) (by decide)
          · cases h
theorem net_Order_eq (n : Net) (hio : ∀ x ∈ n.Nodes, x.In.length ≤ 1099511627776 ∧ x.Out.length ≤ 1099511627776) : net_Order n = some (netR n) := by
  unfold net_Order netR
  rw [net_look_eq n hio, Option.bind_some]
  cases h : lookN n with
  | inl e =>
    simp only
    have he : e ≠ 0 := fun e0 => lookN_ne n (e0 ▸ h)
    rw [if_pos (by simpa using he)]
  | inr l =>
    simp only
    have hn := lookN_ok h
    rw [if_neg (by simp)]
    have hmk : mk (n.Nodes.length : Int) false = some (doneL n.Nodes.length []) := by
      unfold mk; rw [if_pos (by have := hn.n2; omega), ← doneL_nil]; rfl
    rw [hmk, Option.bind_some]
    have := order_l3 hn (fun x hx => (hio x hx).1) 0 n.Nodes.length [] (by simp)
    simp only [List.map_nil] at this
    rw [this]
theorem net_Check_eq (n : Net) (hio : ∀ x ∈ n.Nodes, x.In.length ≤ 1099511627776 ∧ x.Out.length ≤ 1099511627776) : net_Check n = some (netR n).2 := by
  unfold net_Check; rw [net_Order_eq n hio]; rfl
end Go.Proofs.Ytegkmfokfakeiaa
