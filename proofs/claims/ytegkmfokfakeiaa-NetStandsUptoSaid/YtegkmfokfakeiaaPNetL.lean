/-
  What is known of a net whose rings' ends are told: plain.
-/
import Derived.Test.YtegkmfokfakeiaaPNet
namespace Go.Proofs.Ytegkmfokfakeiaa
set_option linter.unusedVariables false
set_option linter.unusedSimpArgs false

theorem takeN_spec (R i : Int) (hi : 0 ≤ i) : ∀ (rs : List Int) (l l1 : List Ends), (l.length : Int) = R → takeN R i rs l = .inr l1 →
    (∀ r ∈ rs, 0 ≤ r ∧ r < R ∧ ∀ e, l[r.toNat]? = some e → e.dst < 0) ∧ rs.Nodup ∧ ∀ j : Nat, l1[j]? = if (j : Int) ∈ rs then (l[j]?).map (fun e => ⟨e.src, i⟩) else l[j]?
  | [], l, l1, hl, h => by cases h; exact ⟨fun r hr => by simp at hr, List.nodup_nil, fun j => by simp⟩
  | r :: rs, l, l1, hl, h => by
    unfold takeN at h
    split at h
    · cases h
    · rename_i hr
      split at h
      · cases h
      · rename_i e he
        split at h
        · cases h
        · rename_i hd
          have hlt : r.toNat < l.length := (List.getElem?_eq_some_iff.1 he).1
          obtain ⟨h1, h2, h3⟩ := takeN_spec R i hi rs _ l1 (by simpa using hl) h
          have hnot : r ∉ rs := fun hm => by
            have := (h1 r hm).2.2 ⟨e.src, i⟩ (by rw [List.getElem?_set, if_pos rfl, if_pos hlt])
            simp at this; omega
          refine ⟨fun q hq => ?_, List.nodup_cons.2 ⟨hnot, h2⟩, fun j => ?_⟩
          · rcases List.mem_cons.1 hq with rfl | hq
            · exact ⟨by omega, by omega, fun e' he' => by rw [he] at he'; cases he'; omega⟩
            · obtain ⟨a, b, c⟩ := h1 q hq
              refine ⟨a, b, fun e' he' => ?_⟩
              have hne : q ≠ r := fun e => hnot (e ▸ hq)
              exact c e' (by rw [List.getElem?_set, if_neg (by omega)]; exact he')
          · rw [h3 j, List.getElem?_set]
            by_cases hj : (j : Int) = r
            · have hjr : r.toNat = j := by omega
              rw [if_neg (by rw [hj]; exact hnot), if_pos hjr, if_pos hlt, if_pos (by rw [hj]; exact List.mem_cons_self), ← hjr, he]
              rfl
            · have hjr : ¬ r.toNat = j := by omega
              rw [if_neg hjr]
              by_cases hm : (j : Int) ∈ rs
              · rw [if_pos hm, if_pos (List.mem_cons_of_mem _ hm)]
              · rw [if_neg hm, if_neg (by simp [hj, hm])]
theorem giveN_spec (R i : Int) (hi : 0 ≤ i) : ∀ (rs : List Int) (l l1 : List Ends), (l.length : Int) = R → giveN R i rs l = .inr l1 →
    (∀ r ∈ rs, 0 ≤ r ∧ r < R ∧ ∀ e, l[r.toNat]? = some e → e.src < 0) ∧ rs.Nodup ∧ ∀ j : Nat, l1[j]? = if (j : Int) ∈ rs then (l[j]?).map (fun e => ⟨i, e.dst⟩) else l[j]?
  | [], l, l1, hl, h => by cases h; exact ⟨fun r hr => by simp at hr, List.nodup_nil, fun j => by simp⟩
  | r :: rs, l, l1, hl, h => by
    unfold giveN at h
    split at h
    · cases h
    · rename_i hr
      split at h
      · cases h
      · rename_i e he
        split at h
        · cases h
        · rename_i hd
          have hlt : r.toNat < l.length := (List.getElem?_eq_some_iff.1 he).1
          obtain ⟨h1, h2, h3⟩ := giveN_spec R i hi rs _ l1 (by simpa using hl) h
          have hnot : r ∉ rs := fun hm => by
            have := (h1 r hm).2.2 ⟨i, e.dst⟩ (by rw [List.getElem?_set, if_pos rfl, if_pos hlt])
            simp at this; omega
          refine ⟨fun q hq => ?_, List.nodup_cons.2 ⟨hnot, h2⟩, fun j => ?_⟩
          · rcases List.mem_cons.1 hq with rfl | hq
            · exact ⟨by omega, by omega, fun e' he' => by rw [he] at he'; cases he'; omega⟩
            · obtain ⟨a, b, c⟩ := h1 q hq
              refine ⟨a, b, fun e' he' => ?_⟩
              have hne : q ≠ r := fun e => hnot (e ▸ hq)
              exact c e' (by rw [List.getElem?_set, if_neg (by omega)]; exact he')
          · rw [h3 j, List.getElem?_set]
            by_cases hj : (j : Int) = r
            · have hjr : r.toNat = j := by omega
              rw [if_neg (by rw [hj]; exact hnot), if_pos hjr, if_pos hlt, if_pos (by rw [hj]; exact List.mem_cons_self), ← hjr, he]
              rfl
            · have hjr : ¬ r.toNat = j := by omega
              rw [if_neg hjr]
              by_cases hm : (j : Int) ∈ rs
              · rw [if_pos hm, if_pos (List.mem_cons_of_mem _ hm)]
              · rw [if_neg hm, if_neg (by simp [hj, hm])]

/-- What is known when the first k nodes were looked at. -/
structure Looked (ns : List Node) (R : Int) (k : Nat) (l : List Ends) : Prop where
  len : (l.length : Int) = R
  src : ∀ (j : Nat) e, l[j]? = some e → (e.src < 0 ∨ ∃ (i : Nat) (x : Node), i < k ∧ ns[i]? = some x ∧ e.src = i ∧ (j : Int) ∈ x.Out)
  dst : ∀ (j : Nat) e, l[j]? = some e → (e.dst < 0 ∨ ∃ (i : Nat) (x : Node), i < k ∧ ns[i]? = some x ∧ e.dst = i ∧ (j : Int) ∈ x.In)
  node : ∀ (i : Nat) x, i < k → ns[i]? = some x → nodeErr x = 0 ∧ x.In.Nodup ∧ x.Out.Nodup ∧
    (∀ r ∈ x.In, 0 ≤ r ∧ r < R ∧ ∃ e, l[r.toNat]? = some e ∧ e.dst = i) ∧ (∀ r ∈ x.Out, 0 ≤ r ∧ r < R ∧ ∃ e, l[r.toNat]? = some e ∧ e.src = i)

theorem Looked.one {ns : List Node} {R : Int} {k : Nat} {l l1 : List Ends} {x : Node} (h : Looked ns R k l) (hx : ns[k]? = some x) (ho : oneN R k x l = .inr l1) : Looked ns R (k + 1) l1 := by
  unfold oneN at ho
  split at ho
  · cases ho
  · rename_i hne
    split at ho
    · cases ho
    · rename_i l2 h2
      have hl2 : (l2.length : Int) = R := by rw [takeN_len R k _ _ _ h2]; exact h.len
      obtain ⟨a1, a2, a3⟩ := takeN_spec R k (by omega) _ _ _ h.len h2
      obtain ⟨b1, b2, b3⟩ := giveN_spec R k (by omega) _ _ _ hl2 ho
      have hent : ∀ (j : Nat) e1, l1[j]? = some e1 → ∃ e, l[j]? = some e ∧ e1.src = (if (j : Int) ∈ x.Out then (k : Int) else e.src) ∧ e1.dst = (if (j : Int) ∈ x.In then (k : Int) else e.dst) := fun j e1 he1 => by
        rw [b3 j, a3 j] at he1
        cases hj : l[j]? with
        | none => rw [hj] at he1; split at he1 <;> split at he1 <;> cases he1
        | some e =>
          rw [hj] at he1
          refine ⟨e, rfl, ?_⟩
          split at he1 <;> split at he1 <;> cases he1 <;> simp_all
      have hent2 : ∀ (j : Nat) e, l[j]? = some e → ∃ e1, l1[j]? = some e1 ∧ e1.src = (if (j : Int) ∈ x.Out then (k : Int) else e.src) ∧ e1.dst = (if (j : Int) ∈ x.In then (k : Int) else e.dst) := fun j e he => by
        have hlt : j < l1.length := by
          have := giveN_len R k _ _ _ ho
          have := takeN_len R k _ _ _ h2
          have := (List.getElem?_eq_some_iff.1 he).1
          omega
        obtain ⟨e', h1, h3⟩ := hent j _ (List.getElem?_eq_getElem hlt)
        rw [he] at h1; cases h1
        exact ⟨_, List.getElem?_eq_getElem hlt, h3⟩
      refine ⟨by rw [giveN_len R k _ _ _ ho]; exact hl2, fun j e1 he1 => ?_, fun j e1 he1 => ?_, fun i y hi hy => ?_⟩
      · obtain ⟨e, he, hs, _⟩ := hent j e1 he1
        by_cases hm : (j : Int) ∈ x.Out
        · rw [if_pos hm] at hs
          exact .inr ⟨k, x, by omega, hx, hs, hm⟩
        · rw [if_neg hm] at hs
          rw [hs]
          rcases h.src j e he with h1 | ⟨i, y, h1, h2, h3, h4⟩
          · exact .inl h1
          · exact .inr ⟨i, y, by omega, h2, h3, h4⟩
      · obtain ⟨e, he, _, hs⟩ := hent j e1 he1
        by_cases hm : (j : Int) ∈ x.In
        · rw [if_pos hm] at hs
          exact .inr ⟨k, x, by omega, hx, hs, hm⟩
        · rw [if_neg hm] at hs
          rw [hs]
          rcases h.dst j e he with h1 | ⟨i, y, h1, h2, h3, h4⟩
          · exact .inl h1
          · exact .inr ⟨i, y, by omega, h2, h3, h4⟩
      · rcases Nat.lt_or_ge i k with hik | hik
        · obtain ⟨c1, c2, c3, c4, c5⟩ := h.node i y hik hy
          refine ⟨c1, c2, c3, fun r hr => ?_, fun r hr => ?_⟩
          · obtain ⟨d1, d2, e, d3, d4⟩ := c4 r hr
            refine ⟨d1, d2, ?_⟩
            obtain ⟨e1, f1, _, f2⟩ := hent2 _ e d3
            have hnm : (r.toNat : Int) ∉ x.In := fun hm => by
              have := (a1 _ hm).2.2 e (by rw [Int.toNat_natCast]; exact d3)
              omega
            rw [if_neg hnm] at f2
            exact ⟨e1, f1, f2.trans d4⟩
          · obtain ⟨d1, d2, e, d3, d4⟩ := c5 r hr
            refine ⟨d1, d2, ?_⟩
            obtain ⟨e1, f1, f2, _⟩ := hent2 _ e d3
            have hnm : (r.toNat : Int) ∉ x.Out := fun hm => by
              have hl2e : ∃ e2, l2[r.toNat]? = some e2 ∧ e2.src = e.src := by
                rw [a3]
                split <;> simp [d3]
              obtain ⟨e2, g1, g2⟩ := hl2e
              have := (b1 _ hm).2.2 e2 (by rw [Int.toNat_natCast]; exact g1)
              omega
            rw [if_neg hnm] at f2
            exact ⟨e1, f1, f2.trans d4⟩
        · have hik : i = k := by omega
          subst hik
          rw [hx] at hy; cases hy
          refine ⟨by simpa using hne, a2, b2, fun r hr => ?_, fun r hr => ?_⟩
          · obtain ⟨d1, d2, _⟩ := a1 r hr
            refine ⟨d1, d2, ?_⟩
            have hlt : r.toNat < l.length := by have := h.len; omega
            obtain ⟨e1, f1, _, f2⟩ := hent2 _ _ (List.getElem?_eq_getElem hlt)
            rw [if_pos (by rw [Int.toNat_of_nonneg d1]; exact hr)] at f2
            exact ⟨e1, f1, f2⟩
          · obtain ⟨d1, d2, _⟩ := b1 r hr
            refine ⟨d1, d2, ?_⟩
            have hlt : r.toNat < l.length := by have := h.len; omega
            obtain ⟨e1, f1, f2, _⟩ := hent2 _ _ (List.getElem?_eq_getElem hlt)
            rw [if_pos (by rw [Int.toNat_of_nonneg d1]; exact hr)] at f2
            exact ⟨e1, f1, f2⟩
theorem Looked.start (ns : List Node) (R : Nat) : Looked ns R 0 (List.replicate R noEnds) :=
  ⟨by simp, fun j e he => by rw [List.getElem?_replicate] at he; split at he <;> cases he; exact .inl (by decide), fun j e he => by rw [List.getElem?_replicate] at he; split at he <;> cases he; exact .inl (by decide), fun i x hi => by omega⟩
theorem nodesN_ok (ns : List Node) (R : Int) : ∀ (xs : List Node) (k s : Nat) (l : List Ends) (s1 : Nat) (l1 : List Ends), ns.drop k = xs → Looked ns R k l → nodesN R k xs s l = .inr (s1, l1) →
    Looked ns R ns.length l1 ∧ s1 = s + (xs.filter (fun x => decide (x.Kind = 8))).length
  | [], k, s, l, s1, l1, hd, h, hn => by
    cases hn
    have hk : ns.length ≤ k := List.drop_eq_nil_iff.1 hd
    refine ⟨⟨h.len, fun j e he => ?_, fun j e he => ?_, fun i x hi hx => h.node i x (by omega) hx⟩, by simp⟩
    · rcases h.src j e he with h1 | ⟨i, y, h1, h2, h3⟩
      · exact .inl h1
      · exact .inr ⟨i, y, (List.getElem?_eq_some_iff.1 h2).1, h2, h3⟩
    · rcases h.dst j e he with h1 | ⟨i, y, h1, h2, h3⟩
      · exact .inl h1
      · exact .inr ⟨i, y, (List.getElem?_eq_some_iff.1 h2).1, h2, h3⟩
  | x :: xs, k, s, l, s1, l1, hd, h, hn => by
    have hx : ns[k]? = some x := by
      have := congrArg (fun l => l[0]?) hd
      simpa [List.getElem?_drop] using this
    have hd2 : ns.drop (k + 1) = xs := by
      have := congrArg (List.drop 1) hd
      simpa [List.drop_drop, Nat.add_comm] using this
    unfold nodesN at hn
    split at hn
    · cases hn
    · rename_i l2 h2
      obtain ⟨a, b⟩ := nodesN_ok ns R xs (k + 1) _ l2 s1 l1 hd2 (h.one hx h2) hn
      refine ⟨a, ?_⟩
      rw [b]
      by_cases h8 : x.Kind = 8
      · simp [h8]; omega
      · simp [h8]

/-- A net's ends, told. -/
structure NetL (n : Net) (l : List Ends) : Prop where
  n1 : 1 ≤ n.Nodes.length
  n2 : n.Nodes.length ≤ 12
  r1 : 0 ≤ n.Rings
  r2 : n.Rings ≤ 16
  m1 : 1 ≤ n.Room
  m2 : n.Room ≤ 6
  len : (l.length : Int) = n.Rings
  src : ∀ (j : Nat) e, l[j]? = some e → ∃ (i : Nat) (x : Node), n.Nodes[i]? = some x ∧ e.src = i ∧ (j : Int) ∈ x.Out
  dst : ∀ (j : Nat) e, l[j]? = some e → ∃ (i : Nat) (x : Node), n.Nodes[i]? = some x ∧ e.dst = i ∧ (j : Int) ∈ x.In
  err : ∀ (i : Nat) x, n.Nodes[i]? = some x → nodeErr x = 0
  ndI : ∀ (i : Nat) x, n.Nodes[i]? = some x → x.In.Nodup
  ndO : ∀ (i : Nat) x, n.Nodes[i]? = some x → x.Out.Nodup
  inn : ∀ (i : Nat) x, n.Nodes[i]? = some x → ∀ r ∈ x.In, 0 ≤ r ∧ r < n.Rings ∧ ∃ e, l[r.toNat]? = some e ∧ e.dst = i
  out : ∀ (i : Nat) x, n.Nodes[i]? = some x → ∀ r ∈ x.Out, 0 ≤ r ∧ r < n.Rings ∧ ∃ e, l[r.toNat]? = some e ∧ e.src = i
  sink : (n.Nodes.filter (fun x => decide (x.Kind = 8))).length = 1
theorem lookN_ok {n : Net} {l : List Ends} (h : lookN n = .inr l) : NetL n l := by
  unfold lookN at h
  split at h
  · cases h
  · rename_i h1
    split at h
    · cases h
    · rename_i h2
      split at h
      · cases h
      · rename_i s l' hn
        split at h
        · cases h
        · rename_i hany
          split at h
          · cases h
          · rename_i hs
            cases h
            have hst := Looked.start n.Nodes n.Rings.toNat
            rw [Int.toNat_of_nonneg (by omega)] at hst
            obtain ⟨a, b⟩ := nodesN_ok n.Nodes n.Rings n.Nodes 0 0 _ s l (by simp) hst hn
            have hpos : ∀ (j : Nat) e, l[j]? = some e → ¬ e.src < 0 ∧ ¬ e.dst < 0 := fun j e he => by
              have hm := List.mem_of_getElem? he
              simp only [List.any_eq_true, not_exists, not_and] at hany
              have := hany e hm
              simp at this; omega
            refine ⟨by omega, by omega, by omega, by omega, by omega, by omega, a.len, fun j e he => ?_, fun j e he => ?_, fun i x hx => (a.node i x (List.getElem?_eq_some_iff.1 hx).1 hx).1, fun i x hx => (a.node i x (List.getElem?_eq_some_iff.1 hx).1 hx).2.1, fun i x hx => (a.node i x (List.getElem?_eq_some_iff.1 hx).1 hx).2.2.1, fun i x hx => (a.node i x (List.getElem?_eq_some_iff.1 hx).1 hx).2.2.2.1, fun i x hx => (a.node i x (List.getElem?_eq_some_iff.1 hx).1 hx).2.2.2.2, by omega⟩
            · rcases a.src j e he with h3 | ⟨i, y, _, h4⟩
              · exact absurd h3 (hpos j e he).1
              · exact ⟨i, y, h4⟩
            · rcases a.dst j e he with h3 | ⟨i, y, _, h4⟩
              · exact absurd h3 (hpos j e he).2
              · exact ⟨i, y, h4⟩
end Go.Proofs.Ytegkmfokfakeiaa
