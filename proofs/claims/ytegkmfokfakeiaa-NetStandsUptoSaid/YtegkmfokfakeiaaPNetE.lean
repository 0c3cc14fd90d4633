/-
  A net's ends and its order: the laws NetEnds, NetStands.
-/
import Derived.Test.YtegkmfokfakeiaaPNetS
namespace Go.Proofs.Ytegkmfokfakeiaa
set_option linter.unusedVariables false
set_option linter.unusedSimpArgs false

theorem contains_any (l : List Int) (hl : l.length ≤ 1099511627776) (z : Int) : slices_Contains_int l z = some (decide (z ∈ l)) := by
  unfold slices_Contains_int slices_Index_int
  have := iter_list0 (σ := Unit) l hl (fun k _ => (k : Int)) (body := fun ss => slices_Index_int_l1 l z ss)
    (fun k r _ => if z = r then some (.inr (k : Int)) else some (.inl ())) (fun _ => some (-1)) ()
    (fun k r _ hk hlt h1 h2 h3 => by
      unfold slices_Index_int_l1
      rw [h2, h1, h3]
      by_cases h : z = r <;> simp [h])
    (fun _ h => by unfold slices_Index_int_l1; rw [h]; rfl)
  simp only [Int.natCast_zero] at this
  rw [this]
  have key : ∀ (ys : List Int) (k : Nat), ∃ v : Int, foldE (σ := Unit) (fun k r _ => if z = r then some (.inr (k : Int)) else some (.inl ())) (fun _ => some (-1 : Int)) k ys () = some v ∧ decide (v ≥ 0) = decide (z ∈ ys) := by
    intro ys
    induction ys with
    | nil => intro k; exact ⟨-1, rfl, by simp⟩
    | cons y ys ih =>
      intro k
      simp only [foldE]
      by_cases h : z = y
      · rw [if_pos h]
        exact ⟨k, rfl, by simp [h]⟩
      · rw [if_neg h]
        simp only
        obtain ⟨v, h1, h2⟩ := ih (k + 1)
        exact ⟨v, h1, by rw [h2]; simp [h]⟩
  obtain ⟨v, h1, h2⟩ := key l 0
  rw [h1, Option.bind_some, h2]
def hasOut (ns : List Node) (r : Int) (i : Nat) : Bool := match ns[i]? with | some x => decide (r ∈ x.Out) | none => false
def hasIn (ns : List Node) (r : Int) (i : Nat) : Bool := match ns[i]? with | some x => decide (r ∈ x.In) | none => false
theorem index_out (ns : List Node) (r : Int) (hl : ns.length ≤ 12) (hio : ∀ x ∈ ns, x.In.length ≤ 1099511627776 ∧ x.Out.length ≤ 1099511627776) : ∀ (m k : Nat), k + m = ns.length →
    iter (fun ss => slices_IndexFunc_Node_xfd40_l1 ns r ss) (k : Int) = some (match firstN (hasOut ns r) m k with | some i => (i : Int) | none => -1)
  | 0, k, h => by
    have hk : k = ns.length := by omega
    subst hk
    have : slices_IndexFunc_Node_xfd40_l1 ns r (ns.length : Int) = some (.inr (-1)) := by unfold slices_IndexFunc_Node_xfd40_l1; rw [if_neg (by simp)]; rfl
    rw [iter_eq]
    simp only [this, firstN]
  | m + 1, k, h => by
    have hlt : k < ns.length := by omega
    have hx : ns[k]? = some ns[k] := List.getElem?_eq_getElem hlt
    have hb : hasOut ns r k = decide (r ∈ ns[k].Out) := by unfold hasOut; rw [hx]
    have hstep : slices_IndexFunc_Node_xfd40_l1 ns r (k : Int) = if hasOut ns r k then some (.inr (k : Int)) else some (.inl ((k + 1 : Nat) : Int)) := by
      unfold slices_IndexFunc_Node_xfd40_l1 crosslaw_NetEnds_1_x38ec
      rw [if_pos (by simp; omega), idx_at hx, Option.bind_some, contains_any _ (hio _ (List.getElem_mem hlt)).2, wrap_1 (by omega), hb]
      simp only [Option.bind_some, Option.map_some]
    rw [iter_eq, firstN]
    simp only [hstep]
    by_cases hq : hasOut ns r k = true
    · simp only [if_pos hq]
    · simp only [if_neg hq]
      exact index_out ns r hl hio m (k + 1) (by omega)
theorem index_in (ns : List Node) (r : Int) (hl : ns.length ≤ 12) (hio : ∀ x ∈ ns, x.In.length ≤ 1099511627776 ∧ x.Out.length ≤ 1099511627776) : ∀ (m k : Nat), k + m = ns.length →
    iter (fun ss => slices_IndexFunc_Node_x9a71_l1 ns r ss) (k : Int) = some (match firstN (hasIn ns r) m k with | some i => (i : Int) | none => -1)
  | 0, k, h => by
    have hk : k = ns.length := by omega
    subst hk
    have : slices_IndexFunc_Node_x9a71_l1 ns r (ns.length : Int) = some (.inr (-1)) := by unfold slices_IndexFunc_Node_x9a71_l1; rw [if_neg (by simp)]; rfl
    rw [iter_eq]
    simp only [this, firstN]
  | m + 1, k, h => by
    have hlt : k < ns.length := by omega
    have hx : ns[k]? = some ns[k] := List.getElem?_eq_getElem hlt
    have hb : hasIn ns r k = decide (r ∈ ns[k].In) := by unfold hasIn; rw [hx]
    have hstep : slices_IndexFunc_Node_x9a71_l1 ns r (k : Int) = if hasIn ns r k then some (.inr (k : Int)) else some (.inl ((k + 1 : Nat) : Int)) := by
      unfold slices_IndexFunc_Node_x9a71_l1 crosslaw_NetEnds_2_x38ec
      rw [if_pos (by simp; omega), idx_at hx, Option.bind_some, contains_any _ (hio _ (List.getElem_mem hlt)).1, wrap_1 (by omega), hb]
      simp only [Option.bind_some, Option.map_some]
    rw [iter_eq, firstN]
    simp only [hstep]
    by_cases hq : hasIn ns r k = true
    · simp only [if_pos hq]
    · simp only [if_neg hq]
      exact index_in ns r hl hio m (k + 1) (by omega)
theorem first_is {ok : Nat → Bool} {m i : Nat} (h : ok i = true) (hi : i < m) (hu : ∀ j, ok j = true → j = i) : firstN ok m 0 = some i := by
  cases hf : firstN ok m 0 with
  | none => have := firstN_none hf i (by omega) (by omega); rw [h] at this; cases this
  | some j => rw [hu j (firstN_some hf).2.2]
/-- A ring's ends. -/
theorem net_Ends_eq (n : Net) (r : Int) (hio : ∀ x ∈ n.Nodes, x.In.length ≤ 1099511627776 ∧ x.Out.length ≤ 1099511627776) : net_Ends n r = some (if (netR n).2 ≠ 0 then (0, 0, (netR n).2) else if r < 0 ∨ n.Rings ≤ r then (0, 0, 5) else match lookN n with
    | .inl _ => (0, 0, 0)
    | .inr l => match l[r.toNat]? with
      | some e => (e.src, e.dst, 0)
      | none => (0, 0, 0)) := by
  unfold net_Ends
  rw [net_Check_eq n hio, Option.bind_some]
  by_cases h : (netR n).2 = 0
  · obtain ⟨l, out, hlk, hl, _, _⟩ := netR_ok h
    rw [if_neg (show ¬ ((netR n).2 != 0) = true by simp [h]), if_neg (show ¬ (netR n).2 ≠ 0 by simp [h])]
    by_cases hr : r < 0 ∨ n.Rings ≤ r
    · rw [if_pos (by simp; omega), if_pos hr]
    · rw [if_neg (by simp; omega), if_neg hr]
      have hlen := hl.len
      have hrl : r.toNat < l.length := by omega
      rw [net_look_eq n hio, hlk]
      have hix : ixN l r = some r.toNat := by unfold ixN; rw [if_pos (by omega)]
      have hg := List.getElem?_eq_getElem hrl
      simp only [Option.bind_some, hix, hg]
  · rw [if_pos (by simpa using h), if_pos h]
theorem NetEnds_true (n : Net) (r : Int) (gn : gNet n) (gr : gI r) (hb : mNet n + (mI r + 0) ≤ 1048576) : crosslaw_NetEnds n r = some true := by
  have hio := net_io (n := n) (by omega)
  unfold crosslaw_NetEnds crosslaw_NetEnds_k1
  rw [net_Ends_eq n r hio, crossref_CheckNet_eq n hio]
  simp only [Option.bind_some, netted_true]
  by_cases h : (netR n).2 = 0
  · obtain ⟨l, out, hlk, hl, _, _⟩ := netR_ok h
    rw [if_neg (show ¬ (netR n).2 ≠ 0 by simp [h])]
    by_cases hr : r < 0 ∨ n.Rings ≤ r
    · rw [if_pos (by simp [h]; omega), if_pos hr]
      rfl
    · rw [if_neg (by simp [h]; omega), if_neg hr, hlk]
      have hlen := hl.len
      have hrl : r.toNat < l.length := by omega
      have hg := List.getElem?_eq_getElem hrl
      have hrr : ((r.toNat : Nat) : Int) = r := by omega
      simp only [hg]
      rw [if_neg (by simp [h])]
      obtain ⟨i, x, hx, hsrc, hm⟩ := hl.src _ _ hg
      obtain ⟨j, y, hy, hdst, hm2⟩ := hl.dst _ _ hg
      rw [hrr] at hm hm2
      have hi := (List.getElem?_eq_some_iff.1 hx).1
      have hj := (List.getElem?_eq_some_iff.1 hy).1
      unfold slices_IndexFunc_Node_xfd40 slices_IndexFunc_Node_x9a71
      have e1 := index_out n.Nodes r hl.n2 hio n.Nodes.length 0 (by omega)
      have e2 := index_in n.Nodes r hl.n2 hio n.Nodes.length 0 (by omega)
      simp only [Int.natCast_zero] at e1 e2
      rw [e1, e2]
      have f1 : firstN (hasOut n.Nodes r) n.Nodes.length 0 = some i := first_is (by unfold hasOut; rw [hx]; simpa using hm) hi (fun k hk => by
        unfold hasOut at hk
        cases hz : n.Nodes[k]? with
        | none => rw [hz] at hk; cases hk
        | some z =>
          rw [hz] at hk
          obtain ⟨_, _, e, he, hes⟩ := hl.out k z hz r (by simpa using hk)
          rw [hg] at he; cases he
          omega)
      have f2 : firstN (hasIn n.Nodes r) n.Nodes.length 0 = some j := first_is (by unfold hasIn; rw [hy]; simpa using hm2) hj (fun k hk => by
        unfold hasIn at hk
        cases hz : n.Nodes[k]? with
        | none => rw [hz] at hk; cases hk
        | some z =>
          rw [hz] at hk
          obtain ⟨_, _, e, he, hes⟩ := hl.inn k z hz r (by simpa using hk)
          rw [hg] at he; cases he
          omega)
      rw [f1, f2]
      simp [hsrc, hdst]
  · rw [if_pos h, if_neg (by simp [h])]
    rw [if_pos (by simpa using h)]
    simp

/- the order -/
theorem ordN_spec {l : List Ends} {ns : List Node} : ∀ {m : Nat} {out o : List Nat}, ordN l ns m out = some o → out.Nodup → (∀ x ∈ out, x < ns.length) →
    o.Nodup ∧ (∀ x ∈ o, x < ns.length) ∧ out <+: o ∧ ∀ (p i : Nat), out.length ≤ p → o[p]? = some i → okN l (o.take p) ns i = true
  | 0, out, o, h, h1, h2 => by
    cases h
    exact ⟨h1, h2, List.prefix_refl _, fun p i hp hi => by rw [List.getElem?_eq_none hp] at hi; cases hi⟩
  | m + 1, out, o, h, h1, h2 => by
    unfold ordN at h
    split at h
    · cases h
    · rename_i i hi
      obtain ⟨_, hlt, hok⟩ := firstN_some hi
      have hni : i ∉ out := by
        unfold okN at hok
        rw [Bool.and_eq_true] at hok
        simpa using hok.1
      obtain ⟨a, b, c, d⟩ := ordN_spec h (List.nodup_append.2 ⟨h1, by simp, by intro x hx y hy; simp at hy; subst hy; rintro rfl; exact hni hx⟩) (fun x hx => by
        rcases List.mem_append.1 hx with hx | hx
        · exact h2 x hx
        · simp at hx; omega)
      refine ⟨a, b, (List.prefix_append out [i]).trans c, fun p j hp hj => ?_⟩
      by_cases hpe : p = out.length
      · subst hpe
        obtain ⟨t, ht⟩ := c
        rw [← ht] at hj ⊢
        simp only [List.append_assoc, List.singleton_append, List.getElem?_append_right (Nat.le_refl _), Nat.sub_self] at hj
        simp at hj
        subst hj
        rw [List.append_assoc, List.take_left]
        exact hok
      · exact d p j (by simp; omega) hj
theorem nodup_lt_len : ∀ (N : Nat) (l : List Nat), l.Nodup → (∀ x ∈ l, x < N) → l.length ≤ N
  | 0, l, _, h => by
    cases l with
    | nil => exact Nat.le_refl _
    | cons x l => exact absurd (h x List.mem_cons_self) (by omega)
  | N + 1, l, hd, h => by
    have := nodup_lt_len N (l.erase N) (hd.erase N) (fun x hx => by
      have h1 := (List.Nodup.mem_erase_iff hd).1 hx
      have := h x h1.2
      omega)
    by_cases hm : N ∈ l
    · rw [List.length_erase_of_mem hm] at this; omega
    · rw [List.erase_of_not_mem hm] at this; omega
theorem full_mem {N : Nat} {l : List Nat} (hd : l.Nodup) (h : ∀ x ∈ l, x < N) (hl : l.length = N) {i : Nat} (hi : i < N) : i ∈ l := by
  refine Classical.byContradiction fun hn => ?_
  have := nodup_lt_len N (i :: l) (List.nodup_cons.2 ⟨hn, hd⟩) (fun x hx => by
    rcases List.mem_cons.1 hx with rfl | hx
    · exact hi
    · exact h x hx)
  simp at this; omega
/-- A net's order: all nodes once, each behind those that give to it. -/
structure OrdL (n : Net) (l : List Ends) (o : List Nat) : Prop where
  nd : o.Nodup
  lt : ∀ x ∈ o, x < n.Nodes.length
  len : o.length = n.Nodes.length
  fed : ∀ (p i : Nat) (x : Node) (r : Int) (e : Ends), o[p]? = some i → n.Nodes[i]? = some x → r ∈ x.In → l[r.toNat]? = some e → e.src.toNat ∈ o.take p
theorem ordL_of {n : Net} {l : List Ends} {o : List Nat} (h : ordN l n.Nodes n.Nodes.length [] = some o) : OrdL n l o := by
  obtain ⟨a, b, _, d⟩ := ordN_spec h List.nodup_nil (fun x hx => by simp at hx)
  have hl := ordN_len _ _ _ _ _ h
  refine ⟨a, b, by simpa using hl, fun p i x r e hp hx hr he => ?_⟩
  have := d p i (Nat.zero_le _) hp
  unfold okN at this
  rw [Bool.and_eq_true, hx] at this
  have h2 := this.2
  simp only [fedN, List.all_eq_true] at h2
  have h3 := h2 r hr
  rw [he] at h3
  simpa using h3
theorem stands_l1 (n : Net) (hio : ∀ x ∈ n.Nodes, x.In.length ≤ 1099511627776 ∧ x.Out.length ≤ 1099511627776) {l : List Ends} {o : List Nat} (hlk : lookN n = .inr l) (hR : (netR n).2 = 0) (hl : NetL n l) (ho : OrdL n l o) (at_ : List (Int × Int)) (hat : ∀ (j i : Nat), o[j]? = some i → mget (i : Int) at_ = some (j : Int)) :
    ∀ (m k : Nat), ((k + m : Nat) : Int) = n.Rings → iter (fun ss : Int => crosslaw_NetStands_l1 n at_ ss) (k : Int) = some true
  | 0, k, h => by
    have : crosslaw_NetStands_l1 n at_ (k : Int) = some (.inr true) := by
      unfold crosslaw_NetStands_l1
      rw [if_neg (by simp; omega)]; rfl
    rw [iter_eq, this]
  | m + 1, k, h => by
    have hr2 := hl.r2
    have hlen := hl.len
    have hkl : k < l.length := by omega
    have hg := List.getElem?_eq_getElem hkl
    have hstep : crosslaw_NetStands_l1 n at_ (k : Int) = some (.inl ((k + 1 : Nat) : Int)) := by
      unfold crosslaw_NetStands_l1
      rw [if_pos (by simp; omega), net_Ends_eq n _ hio, if_neg (by simp [hR]), if_neg (by omega), hlk]
      simp only [Int.toNat_natCast, hg, Option.bind_some, wrap_1 (show k < 4611686018427387904 by omega)]
      obtain ⟨i, x, hx, hsrc, _⟩ := hl.src _ _ hg
      obtain ⟨j, y, hy, hdst, hm⟩ := hl.dst _ _ hg
      have hi := (List.getElem?_eq_some_iff.1 hx).1
      have hj := (List.getElem?_eq_some_iff.1 hy).1
      obtain ⟨p, hp⟩ := List.getElem?_of_mem (full_mem ho.nd ho.lt ho.len hj)
      have hsm := ho.fed p j y (k : Int) l[k] hp hy hm (by rw [Int.toNat_natCast]; exact hg)
      obtain ⟨q, hq⟩ := List.getElem?_of_mem hsm
      rw [List.getElem?_take] at hq
      split at hq
      · rename_i hqp
        have e1 := hat p j hp
        have e2 := hat q _ hq
        rw [hsrc, hdst, e1]
        rw [hsrc, Int.toNat_natCast] at e2
        rw [e2]
        rw [if_neg (by simp; omega)]
      · cases hq
    rw [iter_eq, hstep]
    simp only
    exact stands_l1 n hio hlk hR hl ho at_ hat m (k + 1) (by omega)
theorem stands_l2 (n : Net) (hio : ∀ x ∈ n.Nodes, x.In.length ≤ 1099511627776 ∧ x.Out.length ≤ 1099511627776) {l : List Ends} {o : List Nat} (hlk : lookN n = .inr l) (hR : (netR n).2 = 0) (hl : NetL n l) (ho : OrdL n l o) :
    ∀ (m k : Nat) (at_ : List (Int × Int)), k + m = o.length → at_.length = k → (∀ (j i : Nat), j < k → o[j]? = some i → mget (i : Int) at_ = some (j : Int)) → (∀ z : Int, (∀ (j i : Nat), j < k → o[j]? = some i → z ≠ i) → mget z at_ = none) →
    iter (fun ss : Int × List (Int × Int) => crosslaw_NetStands_l2 n (o.map (fun i : Nat => (i : Int)), 0) ss.1 ss.2) ((k : Int), at_) = some true
  | 0, k, at_, h, hal, h1, h2 => by
    have hk : k = o.length := by omega
    have hn2 := hl.n2
    have hol := ho.len
    have hstep : crosslaw_NetStands_l2 n (o.map (fun i : Nat => (i : Int)), 0) (k : Int) at_ = some (.inr true) := by
      unfold crosslaw_NetStands_l2
      rw [if_neg (by simp; omega)]
      rw [if_neg (by simp; omega)]
      have hr1 := hl.r1
      have := stands_l1 n hio hlk hR hl ho at_ (fun j i hj => h1 j i (by rw [hk]; exact (List.getElem?_eq_some_iff.1 hj).1) hj) n.Rings.toNat 0 (by omega)
      simp only [Int.natCast_zero] at this
      rw [this]; rfl
    rw [iter_eq]
    simp only [hstep]
  | m + 1, k, at_, h, hal, h1, h2 => by
    have hlt : k < o.length := by omega
    have hn2 := hl.n2
    have hol := ho.len
    have hg := List.getElem?_eq_getElem hlt
    have hnew : mget ((o[k] : Nat) : Int) at_ = none := h2 _ (fun j i hj hi e => by
      have e' : o[k] = i := by omega
      have : o[j]? = o[k]? := by rw [hi, hg, e']
      have := (List.getElem?_inj (by omega) ho.nd).1 this
      omega)
    have hstep : crosslaw_NetStands_l2 n (o.map (fun i : Nat => (i : Int)), 0) (k : Int) at_ = some (.inl (((k + 1 : Nat) : Int), mset ((o[k] : Nat) : Int) (k : Int) at_)) := by
      unfold crosslaw_NetStands_l2
      have hix : ixN (o.map (fun i : Nat => (i : Int))) (k : Int) = some k := by unfold ixN; rw [if_pos (by simp; omega)]; rfl
      have hg2 : (o.map (fun i : Nat => (i : Int)))[k]? = some ((o[k] : Nat) : Int) := by rw [List.getElem?_map, hg]; rfl
      rw [if_pos (by simp; omega)]
      simp only [hix, hg2, Option.bind_some, wrap_1 (show k < 4611686018427387904 by omega)]
    rw [iter_eq]
    simp only [hstep]
    refine stands_l2 n hio hlk hR hl ho m (k + 1) _ (by omega) (by rw [mset_len_new _ hnew]; omega) (fun j i hj hi => ?_) (fun z hz => ?_)
    · by_cases hjk : j = k
      · subst hjk
        rw [hg] at hi; cases hi
        exact mget_mset_same _ _ _
      · rw [mget_mset_ne]
        · exact h1 j i (by omega) hi
        · intro e
          have e' : i = o[k] := by omega
          have : o[j]? = o[k]? := by rw [hi, hg, e']
          exact hjk ((List.getElem?_inj (by omega) ho.nd).1 this)
    · have hne : z ≠ ((o[k] : Nat) : Int) := hz k _ (by omega) hg
      rw [mget_mset_ne _ hne]
      exact h2 z (fun j i hj hi => hz j i (by omega) hi)
theorem NetStands_true (n : Net) (gn : gNet n) (hb : mNet n + 0 ≤ 1048576) : crosslaw_NetStands n = some true := by
  have hio := net_io (n := n) (by omega)
  unfold crosslaw_NetStands
  rw [net_Order_eq n hio, netted_true]
  simp only [Option.bind_some]
  by_cases h : (netR n).2 = 0
  · obtain ⟨l, out, hlk, hl, ho, hr⟩ := netR_ok h
    rw [if_neg (by simp [h]), hr]
    have := stands_l2 n hio hlk h hl (ordL_of ho) out.length 0 [] (by omega) rfl (fun j i hj => by omega) (fun z _ => rfl)
    simpa using this
  · rw [if_pos (by simpa using h)]
end Go.Proofs.Ytegkmfokfakeiaa
