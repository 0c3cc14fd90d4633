/-
  A call that is handed some of its caller's objects: the others stay as they are. For every program.
-/
import Derived.Test.YtegkmfokfakeiaaW
namespace Go.Proofs.Ytegkmfokfakeiaa
open Go.RowKit
set_option linter.unusedVariables false
set_option linter.unusedSimpArgs false

/-- Objects named anew: 'm': pairs of a new name and an old one. -/
def RenM (m : List (Nat × Nat)) (a' a : AV) : Prop := ∀ σ w F v, Rel σ w F a v → ∀ σ' : List Value, (∀ p, p ∈ m → σ'[p.1]? = σ[p.2]?) → Rel σ' w F a' v
def RenLM (m : List (Nat × Nat)) : List AV → List AV → Prop
  | [], [] => True
  | a' :: as', a :: as => RenM m a' a ∧ RenLM m as' as
  | _, _ => False
def RenOM (m : List (Nat × Nat)) : Ob → Ob → Prop
  | .dead, _ => True
  | .box cs', .box cs => RenLM m cs' cs
  | .arr e' s' rows', .arr e s rows => e' = e ∧ s' = s ∧ rows' = rows ∧ ∀ row, row ∈ rows → ∀ x, x ∈ row → Pure x
  | .mp ks' vs', .mp ks vs => RenLM m ks' ks ∧ RenLM m vs' vs
  | .arr2 e' e2' s' cells', .arr2 e e2 s cells => e' = e ∧ e2' = e2 ∧ s' = s ∧ cells' = cells ∧ ∀ rows, (Cell.own rows ∈ cells ∨ Cell.fz rows ∈ cells) → ∀ row, row ∈ rows → ∀ x, x ∈ row → Pure x
  | _, _ => False
section
variable {P : Program} {σ σ' : List Value} {w w' : World} {F F' : Nat → Prop} {aw : List Ob} {m : List (Nat × Nat)}
theorem renLM_rel : ∀ {as' as : List AV}, RenLM m as' as → ∀ {vs : List Value}, RelL σ w F as vs → (∀ p, p ∈ m → σ'[p.1]? = σ[p.2]?) → RelL σ' w F as' vs
  | [], [], _, vs, hr, _ => by
    have : vs = [] := List.eq_nil_of_length_eq_zero hr.1
    subst this; exact .nil
  | a' :: as', a :: as, h, vs, hr, hσ => by
    match vs, hr with
    | [], hr => exact absurd hr.1 (by simp)
    | v :: vs, hr =>
      have h1 : Rel σ w F a v := hr.2 0 a v rfl rfl
      have h2 : RelL σ w F as vs := ⟨by simpa using hr.1, fun j a v ha hv => hr.2 (j + 1) a v (by simpa using ha) (by simpa using hv)⟩
      exact .cons (h.1 σ w F v h1 σ' hσ) (renLM_rel h.2 h2 hσ)
  | [], _ :: _, h, _, _, _ => h.elim
  | _ :: _, [], h, _, _, _ => h.elim
theorem renOM_rel {o' o : Ob} {v : Value} (h : RenOM m o' o) (hr : ORel σ w F o v) (hσ : ∀ p, p ∈ m → σ'[p.1]? = σ[p.2]?) : ORel σ' w F o' v := by
  cases o' with
  | dead => trivial
  | box cs' =>
    cases o with
    | box cs =>
      obtain ⟨g, vs, ty, rfl, hg, hc, h1, hf⟩ := hr
      exact ⟨g, vs, ty, rfl, hg, renLM_rel h hc hσ, h1, hf⟩
    | _ => exact h.elim
  | arr e' s' rows' =>
    cases o with
    | arr e s rows =>
      obtain ⟨rfl, rfl, rfl, hp⟩ := h
      obtain ⟨flat, ho, hfl, hf, A, n, c, rfl⟩ := hr
      exact ⟨flat, ho, ⟨hfl.1, hfl.2.1, flatten_rel (fun row hrow x hx v hv => hp row hrow x hx σ w F v hv σ') hfl.2.2⟩, hf, A, n, c, rfl⟩
    | _ => exact h.elim
  | mp ks' vs' =>
    cases o with
    | mp ks vs =>
      obtain ⟨g, es, clock, rfl, hg, hk, hv, hf⟩ := hr
      exact ⟨g, es, clock, rfl, hg, renLM_rel h.1 hk hσ, renLM_rel h.2 hv hσ, hf⟩
    | _ => exact h.elim
  | arr2 e' e2' s' cells' =>
    cases o with
    | arr2 e e2 s cells =>
      obtain ⟨rfl, rfl, rfl, rfl, hp⟩ := h
      obtain ⟨u, us, e1, hl1, hown, hfm, hf, hc, hd1, hd2⟩ := hr
      exact ⟨u, us, e1, hl1, hown, hfm, hf, fun i c x h1 h2 => ⟨(hc i c x h1 h2).1, cell_rel (hc i c x h1 h2).2 (fun rows hrr => hp rows (hrr.imp (fun (e : Cell.own rows = c) => by rw [e]; exact List.mem_of_getElem? h1) (fun (e : Cell.fz rows = c) => by rw [e]; exact List.mem_of_getElem? h1)))⟩, hd1, hd2⟩
    | _ => exact h.elim
  | arrU e' s' rows' x' => cases o <;> exact h.elim
theorem renOM_bk {o' o : Ob} {v : Value} {b : Nat} (h : RenOM m o' o) (hb : Bk o' v b) : Bk o v b := by
  cases o' with
  | dead => exact hb.elim
  | arr2 e e2 s cells =>
    cases o with
    | arr2 e' e2' s' cells' => obtain ⟨rfl, rfl, rfl, rfl, _⟩ := h; exact hb
    | _ => exact h.elim
  | _ => cases o <;> first | exact hb | exact h.elim

theorem renOM_live {o' o : Ob} (hr : RenOM m o' o) (hl : o'.live = true) : o.live = true := by
  cases o' <;> cases o <;> first | rfl | exact hr.elim | cases hl
theorem renO_live {ρ : List Nat} {o' o : Ob} (hr : RenO ρ o' o) (hl : o'.live = true) : o.live = true := by
  cases o' <;> cases o <;> first | rfl | exact hr.elim | cases hl
/-- The names of a callee's objects at its caller: those that were handed over, the new ones behind. -/
def backM (ρ : List Nat) (n0 n1 : Nat) : List (Nat × Nat) := (List.range n1).map fun k => (if k < ρ.length then ρ.getD k 0 else n0 + (k - ρ.length), k)
/-- The caller's objects behind the call. -/
def BackW (m : List (Nat × Nat)) (ρ : List Nat) (aw aw1 : List Ob) : Nat → List Ob → Prop
  | _, [] => True
  | j, o2 :: r => ((∃ k o1, (j, k) ∈ m ∧ aw1[k]? = some o1 ∧ RenOM m o2 o1) ∨ (ρ.contains j = false ∧ aw[j]? = some o2)) ∧ BackW m ρ aw aw1 (j + 1) r
theorem backW_get {ρ : List Nat} {aw1 : List Ob} : ∀ {l : List Ob} {j i : Nat} {o2 : Ob}, BackW m ρ aw aw1 j l → l[i]? = some o2 →
    (∃ k o1, (j + i, k) ∈ m ∧ aw1[k]? = some o1 ∧ RenOM m o2 o1) ∨ (ρ.contains (j + i) = false ∧ aw[j + i]? = some o2)
  | [], j, i, o2, _, h => by simp at h
  | o :: r, j, 0, o2, hb, h => by simp at h; subst h; exact hb.1
  | o :: r, j, i + 1, o2, hb, h => by
    have := backW_get (j := j + 1) (i := i) hb.2 (by simpa using h)
    rw [show j + 1 + i = j + (i + 1) by omega] at this
    exact this

theorem frame_call {ρ : List Nat} {aw0 aw1 aw2 : List Ob} {σ0 σ1 : List Value} (hs : Sim aw σ w F) (hnd : ρ.Nodup) (hW : RenW ρ aw ρ aw0) (hσ0 : ∀ (k id : Nat), ρ[k]? = some id → σ0[k]? = σ[id]?) (hl0 : σ0.length = ρ.length)
    (hs0 : Sim aw0 σ0 w F) (hd0 : ∀ b, Dof aw0 σ0 b → Dof aw σ b) (hs1 : Sim aw1 σ1 w' F') (hm : Mv aw0 σ0 w F aw1 σ1 w' F')
    (hl : aw2.length + ρ.length = aw.length + aw1.length) (hB : BackW (backM ρ aw.length aw1.length) ρ aw aw1 0 aw2) :
    ∃ σ2, Sim aw2 σ2 w' F' ∧ Mv aw σ w F aw2 σ2 w' F' ∧ ∀ p, p ∈ backM ρ aw.length aw1.length → σ2[p.1]? = σ1[p.2]? := by
  have hρ1 : ρ.length ≤ aw1.length := by
    rw [← hs1.len]
    have hpre := hm.pre
    by_cases h0 : ρ.length = 0
    · omega
    · have hlt : ρ.length - 1 < σ0.length := by omega
      have := (List.getElem?_eq_some_iff.1 (hpre _ _ (List.getElem?_eq_getElem hlt))).1
      omega
  have hin : ∀ (k id : Nat), ρ[k]? = some id → id < aw.length := fun k id h => by
    obtain ⟨_, hg⟩ := renW_get hW
    have hk : k < aw0.length := by rw [← hs0.len, hl0]; exact (List.getElem?_eq_some_iff.1 h).1
    obtain ⟨id', o, e1, e2, _⟩ := hg k _ (List.getElem?_eq_getElem hk)
    rw [h] at e1; cases e1
    exact (List.getElem?_eq_some_iff.1 e2).1
  refine ⟨σ ++ σ1.drop ρ.length, ?_⟩
  have hmem : ∀ j k, (j, k) ∈ backM ρ aw.length aw1.length ↔ (k < aw1.length ∧ j = if k < ρ.length then ρ.getD k 0 else aw.length + (k - ρ.length)) := fun j k => by
    unfold backM
    simp only [List.mem_map, List.mem_range, Prod.mk.injEq]
    constructor
    · rintro ⟨k', h1, h2, rfl⟩; exact ⟨h1, h2.symm⟩
    · rintro ⟨h1, h2⟩; exact ⟨k, h1, h2.symm, rfl⟩
  have hσ2 : ∀ p, p ∈ backM ρ aw.length aw1.length → (σ ++ σ1.drop ρ.length)[p.1]? = σ1[p.2]? := by
    rintro ⟨j, k⟩ hp
    obtain ⟨hk, rfl⟩ := (hmem j k).1 hp
    simp only
    split
    · rename_i hlt
      have hg : ρ[k]? = some (ρ.getD k 0) := by rw [List.getD_eq_getElem?_getD, List.getElem?_eq_getElem hlt]; rfl
      have hid := hin k _ hg
      rw [List.getElem?_append_left (by rw [hs.len]; exact hid)]
      have h0 := hσ0 k _ hg
      have hlt0 : k < σ0.length := by omega
      rw [← h0, hm.pre k _ (List.getElem?_eq_getElem hlt0), List.getElem?_eq_getElem hlt0]
    · rw [List.getElem?_append_right (by rw [hs.len]; omega), hs.len, List.getElem?_drop]
      congr 1; omega
  -- what was not handed over
  have apart : ∀ (j : Nat) o v b, ρ.contains j = false → aw[j]? = some o → o.live = true → σ[j]? = some v → Bk o v b → ¬ Dof aw0 σ0 b := by
    rintro j o v b hj ho hlv hv hb ⟨k, o0, v0, hk, hl0', hv0, hb0⟩
    obtain ⟨_, hg⟩ := renW_get hW
    obtain ⟨id, o1, e1, e2, e3⟩ := hg k o0 hk
    have hv1 : σ[id]? = some v0 := by rw [← hσ0 k id e1]; exact hv0
    have hlv1 : o1.live = true := renO_live e3 hl0'
    refine hs.sep j id o o1 v v0 b ?_ ho e2 hlv hlv1 hv hv1 hb (renO_bk e3 hb0)
    rintro rfl
    have : ρ.contains j = true := by simpa using List.mem_of_getElem? e1
    rw [hj] at this; cases this
  have own1 : ∀ (j k : Nat) o1 v b, (j, k) ∈ backM ρ aw.length aw1.length → aw1[k]? = some o1 → o1.live = true → (σ ++ σ1.drop ρ.length)[j]? = some v → Bk o1 v b → Dof aw1 σ1 b := fun j k o1 v b hp ho hlv hv hb => by
    have := hσ2 _ hp
    simp only at this
    exact ⟨k, o1, v, ho, hlv, by rw [← this]; exact hv, hb⟩
  have live : ∀ {o' o : Ob}, RenOM (backM ρ aw.length aw1.length) o' o → o'.live = true → o.live = true := fun hr hlv => renOM_live hr hlv
  have inold : ∀ (j : Nat) o v, aw[j]? = some o → (σ ++ σ1.drop ρ.length)[j]? = some v → σ[j]? = some v := fun j o v ho hv => by
    rwa [List.getElem?_append_left (by rw [hs.len]; exact (List.getElem?_eq_some_iff.1 ho).1)] at hv
  have hFw : ∀ b, F b → w'.heap[b]? = w.heap[b]? := hm.same hs0
  refine ⟨⟨?_, fun j o2 v ho hv => ?_, fun j j' o o' v v' b hne ho ho' hlv hlv' hv hv' hb hb' => ?_, hs1.lt⟩, ⟨hm.os, hm.tape, hm.output, hm.size, fun b hb hd => hm.keep b hb (fun h => hd (hd0 b h)), fun i v hv => by rw [List.getElem?_append_left (List.getElem?_eq_some_iff.1 hv).1]; exact hv, hm.sub, fun b hb => (hm.sup b hb).imp (fun h => h) (fun h => h.imp (hd0 b) (fun h => h)), fun b hb => ?_⟩, hσ2⟩
  · rw [List.length_append, List.length_drop, hs.len, hs1.len]; omega
  · have := backW_get hB ho
    rw [Nat.zero_add] at this
    rcases this with ⟨k, o1, hp, ho1, hr⟩ | ⟨hj, ho2⟩
    · have h1 := hσ2 _ hp
      simp only at h1
      exact renOM_rel hr (hs1.obj k o1 v ho1 (by rw [← h1]; exact hv)) hσ2
    · have hv' := inold j o2 v ho2 hv
      refine (hs.obj j o2 v ho2 hv').mono (fun i v hv => by rw [List.getElem?_append_left (List.getElem?_eq_some_iff.1 hv).1]; exact hv) hm.sub hFw (fun hlv b hb => ?_)
      have hlt := hs.lt_own ⟨j, o2, v, ho2, hlv, hv', hb⟩
      have hnd0 := apart j o2 v b hj ho2 hlv hv' hb
      refine ⟨hm.keep b hlt hnd0, fun hF' => ?_⟩
      rcases hm.sup b hF' with h | h | h
      · exact hs.free ⟨j, o2, v, ho2, hlv, hv', hb⟩ h
      · exact hnd0 h
      · omega
  · have c1 := backW_get hB ho
    have c2 := backW_get hB ho'
    rw [Nat.zero_add] at c1 c2
    rcases c1 with ⟨k, o1, hp, ho1, hr⟩ | ⟨hj, ho2⟩
    · rcases c2 with ⟨k', o1', hp', ho1', hr'⟩ | ⟨hj', ho2'⟩
      · have hkk : k ≠ k' := by
          rintro rfl
          have a1 := ((hmem j k).1 hp).2
          have a2 := ((hmem j' k).1 hp').2
          exact hne (a1.trans a2.symm)
        have e1 := hσ2 _ hp
        have e2 := hσ2 _ hp'
        simp only at e1 e2
        exact hs1.sep k k' o1 o1' v v' b hkk ho1 ho1' (live hr hlv) (live hr' hlv') (by rw [← e1]; exact hv) (by rw [← e2]; exact hv') (renOM_bk hr hb) (renOM_bk hr' hb')
      · have hv2 := inold j' o' v' ho2' hv'
        have hlt := hs.lt_own ⟨j', o', v', ho2', hlv', hv2, hb'⟩
        rcases hm.own b (own1 j k o1 v b hp ho1 (live hr hlv) hv (renOM_bk hr hb)) with h | h
        · exact apart j' o' v' b hj' ho2' hlv' hv2 hb' h
        · omega
    · have hv1 := inold j o v ho2 hv
      have hlt := hs.lt_own ⟨j, o, v, ho2, hlv, hv1, hb⟩
      rcases c2 with ⟨k', o1', hp', ho1', hr'⟩ | ⟨hj', ho2'⟩
      · rcases hm.own b (own1 j' k' o1' v' b hp' ho1' (live hr' hlv') hv' (renOM_bk hr' hb')) with h | h
        · exact apart j o v b hj ho2 hlv hv1 hb h
        · omega
      · exact hs.sep j j' o o' v v' b hne ho2 ho2' hlv hlv' hv1 (inold j' o' v' ho2' hv') hb hb'
  · obtain ⟨j, o2, v, ho2, hlv, hv, hb'⟩ := hb
    have c := backW_get hB ho2
    rw [Nat.zero_add] at c
    rcases c with ⟨k, o1, hp, ho1, hr⟩ | ⟨hj, ho⟩
    · exact (hm.own b (own1 j k o1 v b hp ho1 (live hr hlv) hv (renOM_bk hr hb'))).imp (hd0 b) (fun h => h)
    · exact .inl ⟨j, o2, v, ho, hlv, inold j o2 v ho hv, hb'⟩
end

section
variable {P : Program} {N n : Nat} {aw aw' : List Ob} {l : List (Nat × AV)}
/-- What a function does to objects that it is handed. -/
def FnX (P : Program) (f : FuncId) (args : List AV) (aw : List Ob) (v : AV) (aw' : List Ob) : Prop := ACalls P f args aw fun r aw'' => r = v ∧ aw'' = aw'
theorem FnX.of_fnO {f : FuncId} {args : List AV} {v : AV} {obs : List Ob} (h : FnO P f args v obs) : FnX P f args [] v obs := h
theorem o_callF {d : Option Tmp} {ty : TypeId} {ps : String} {af : Array Edge} {g : Option (Nat × Bool)} {K2 : AV → List Ob → Prop} {f : Operand} {args : Array Operand} {ts : Array TypeId} {h : FuncId} {caps ac as0 : List AV} {aw0 aw1 aw2 : List Ob} {v v' : AV} {n0 n1 : Nat} (ρ : List Nat) (hn0 : aw.length = n0) (hn1 : aw1.length = n1)
    (hf : evA n l f = .func h caps) (ha : args.toList.map (evA n l) ++ caps = ac) (hnd : ρ.Nodup) (hW : RenW ρ aw ρ aw0) (hA : RenL ρ as0 ac) (hC : FnX P h as0 aw0 v aw1) (hlen : aw2.length + ρ.length = n0 + n1)
    (hv : RenM (backM ρ n0 n1) v' v) (hB : BackW (backM ρ n0 n1) ρ aw aw1 0 aw2) (hK : K2 v' aw2) : OP P N ⟨d, .call ⟨.value f, args, ts⟩, ty, ps, af, g⟩ (mkA n l) aw K2 :=
  ⟨fun st h1 h2 σ w F a hc Kc Q hk => by
    subst hn0 hn1
    have hfv := hc.fr.ev f
    rw [ev_mkA, hf] at hfv
    generalize hvf : a.eval f = vf at hfv
    cases hfv with
    | func _ _ cvs hl hcs =>
      have hargs : RelL σ w F ac (args.toList.map a.eval ++ cvs) := by
        rw [← ha]
        have := relL_map hc.fr args.toList
        rw [show args.toList.map (ev (mkA n l)) = args.toList.map (evA n l) from List.map_congr_left fun x _ => ev_mkA n l x] at this
        exact this.append ⟨hl, hcs⟩
      obtain ⟨hlW, hgW⟩ := renW_get hW
      obtain ⟨σ0', hσ', hs0', hd0'⟩ := sim_ren hc.sim hnd hW
      have hl0 : σ0'.length = ρ.length := by rw [hs0'.len, hlW]
      have hr0 : RelL σ0' w F as0 (args.toList.map a.eval ++ cvs) := renL_rel hA hargs hσ'
      have hrun : (execOp a.eval ⟨d, .call ⟨.value f, args, ts⟩, ty, ps, af, g⟩).run P w = .ok (.enter h (args.toList.map a.eval ++ cvs).toArray) w := by
        have e : args.map a.eval ++ cvs.toArray = (args.toList.map a.eval ++ cvs).toArray := by
          obtain ⟨l⟩ := args
          simp
        simp only [execOp, resolve, Deferred.ofValue, hvf, Sem.run_bind, Sem.run_pure, Result.andThen_ok, invoke, Array.empty_append, e, hC.1]
      unfold Oper.wp
      rw [hrun]
      refine (hC.2 w F σ0' _ hs0' hr0).mono ?_
      rintro e w' ⟨u, r, aw'', σ1, F', rfl, ⟨rfl, rfl⟩, hs1, hrel, hm⟩
      obtain ⟨σ2, s2, m2, hσ2⟩ := frame_call hc.sim hnd hW hσ' hl0 hs0' hd0' hs1 hm hlen hB
      exact hk v' aw2 σ2 w' F' u hK (hc.step s2 m2) (hv σ1 w' F' u hrel σ2 hσ2)⟩

theorem rm_pure {m : List (Nat × Nat)} {a : AV} (h : Pure a) : RenM m a a := fun σ w F v hr σ' _ => h σ w F v hr σ'
theorem rm_any {m : List (Nat × Nat)} {a : AV} : RenM m .any a := fun σ w F v hr σ' _ => .any v
theorem rm_ref {m : List (Nat × Nat)} {k id : Nat} (h : (k, id) ∈ m) : RenM m (.ref k) (.ref id) := fun σ w F v hr σ' hσ => by
  cases hr with
  | ref _ A n c hg => exact .ref k A n c (by have := hσ _ h; simp only at this; rw [this]; exact hg)
theorem rm_ptr {m : List (Nat × Nat)} {k id off : Nat} (h : (k, id) ∈ m) : RenM m (.ptr k off) (.ptr id off) := fun σ w F v hr σ' hσ => by
  cases hr with
  | ptr _ _ g hg => exact .ptr k off g (by have := hσ _ h; simp only at this; rw [this]; exact hg)
theorem rm_agg {m : List (Nat × Nat)} {cs ds : List AV} (h : RenLM m cs ds) : RenM m (.agg cs) (.agg ds) := fun σ w F v hr σ' hσ => by
  cases hr with
  | agg _ vs hl h1 hc => have := renLM_rel h ⟨hl, hc⟩ hσ; exact .agg cs vs this.1 h1 this.2
theorem rm_tup {m : List (Nat × Nat)} {cs ds : List AV} (h : RenLM m cs ds) : RenM m (.tup cs) (.tup ds) := fun σ w F v hr σ' hσ => by
  cases hr with
  | tup _ vs hl hc => have := renLM_rel h ⟨hl, hc⟩ hσ; exact .tup cs vs this.1 this.2
theorem rm_func {m : List (Nat × Nat)} {f : FuncId} {cs ds : List AV} (h : RenLM m cs ds) : RenM m (.func f cs) (.func f ds) := fun σ w F v hr σ' hσ => by
  cases hr with
  | func _ _ vs hl hc => have := renLM_rel h ⟨hl, hc⟩ hσ; exact .func f cs vs this.1 this.2
theorem rom_box {m : List (Nat × Nat)} {cs ds : List AV} (h : RenLM m cs ds) : RenOM m (.box cs) (.box ds) := h
theorem rom_arr {m : List (Nat × Nat)} {α : Type} {en : α → List AV} {xs : List α} {e s : Nat} (hp : ∀ a x, x ∈ en a → Pure x) : RenOM m (.arr e s (xs.map en)) (.arr e s (xs.map en)) :=
  ⟨rfl, rfl, rfl, fun row hr x hx => by obtain ⟨a, _, rfl⟩ := List.mem_map.1 hr; exact hp a x hx⟩
/-- A nil slice in a box may be taken for a new array of the call's own. -/
theorem T.nilB {c : Code} {Q : Exit → List AV → List Ob → Prop} {fr : List AV} (id j e z : Nat) {cs cs' : List AV} (ho : aw[id]? = some (.box cs)) (hj : cs[j]? = some .nils) (hc : cs.set j (.ref aw.length) = cs') (ha : aw.set id (.box cs') ++ [.arr e z []] = aw') (h : T P N c Q fr aw') : T P N c Q fr aw :=
  ⟨fun st h1 h2 σ w F a hcur => by
    subst hc ha
    obtain ⟨s1, m1, r1⟩ := nil_push e z hcur.sim
    have hid : id < aw.length := (List.getElem?_eq_some_iff.1 ho).1
    refine h.out st h1 h2 (σ ++ [.slice none 0 0]) w F a ⟨⟨?_, fun k o v hk hv => ?_, fun k k' o o' v v' g hne hk hk' hl hl' hv hv' hb hb' => ?_, s1.lt⟩, m1.aRel hcur.sim hcur.fr, hcur.mv.trans ⟨m1.os, m1.tape, m1.output, m1.size, m1.keep, m1.pre, m1.sub, m1.sup, fun b hb => ?_⟩⟩
    · have := s1.len; simpa using this
    · rw [List.getElem?_append] at hk
      split at hk
      · rename_i hlt
        rw [List.length_set] at hlt
        rw [List.getElem?_set] at hk
        split at hk
        · rename_i e1
          subst e1
          cases hk
          have hob := s1.obj id _ v (by rw [List.getElem?_append_left hid]; exact ho) hv
          obtain ⟨g, vs, ty, rfl, hg, hr, h1c, hf⟩ := hob
          refine ⟨g, vs, ty, rfl, hg, ?_, h1c, hf⟩
          obtain ⟨u, hu, hru⟩ := hr.get hj
          cases hru
          have := hr.set j r1
          have e2 : vs.toList.set j (.slice none 0 0) = vs.toList := by
            obtain ⟨hlt2, hvs⟩ := List.getElem?_eq_some_iff.1 hu
            rw [← hvs]; exact List.set_getElem_self hlt2
          rw [e2] at this
          exact this
        · exact s1.obj k o v (by rw [List.getElem?_append_left hlt]; exact hk) hv
      · rename_i hge
        exact s1.obj k o v (by rw [List.getElem?_append_right (by simpa using hge)]; simpa using hk) hv
    · have back : ∀ (k : Nat) o, (aw.set id (.box (cs.set j (.ref aw.length))) ++ [.arr e z []])[k]? = some o → o.live = true → ∃ o1, (aw ++ [.arr e z []])[k]? = some o1 ∧ o1.live = true ∧ ∀ v b, Bk o v b → Bk o1 v b := fun k o hk hl => by
        rw [List.getElem?_append] at hk ⊢
        rw [List.length_set] at hk
        split at hk
        · rename_i hlt
          rw [if_pos hlt]
          rw [List.getElem?_set] at hk
          split at hk
          · rename_i e1; subst e1; cases hk; exact ⟨_, ho, rfl, fun _ _ h => h⟩
          · exact ⟨o, hk, hl, fun _ _ h => h⟩
        · rename_i hge
          rw [if_neg hge]; exact ⟨o, hk, hl, fun _ _ h => h⟩
      obtain ⟨o1, e1, l1, z1⟩ := back k o hk hl
      obtain ⟨o2, e2, l2, z2⟩ := back k' o' hk' hl'
      exact s1.sep k k' o1 o2 v v' g hne e1 e2 l1 l2 hv hv' (z1 _ _ hb) (z2 _ _ hb')
    · obtain ⟨k, o, v, hk, hl, hv, hb⟩ := hb
      refine m1.own b ⟨k, ?_⟩
      rw [List.getElem?_append] at hk
      rw [List.length_set] at hk
      split at hk
      · rename_i hlt
        rw [List.getElem?_set] at hk
        rw [List.getElem?_append_left hlt]
        split at hk
        · rename_i e1; subst e1; cases hk; exact ⟨_, v, ho, rfl, hv, hb⟩
        · exact ⟨o, v, hk, hl, hv, hb⟩
      · rename_i hge
        rw [List.getElem?_append_right (by omega)]
        exact ⟨o, v, hk, hl, hv, hb⟩⟩
theorem mv_push {σ : List Value} {w : World} {F : Nat → Prop} {k e s : Nat} {rows : List (List AV)} {v : Value} (hs : Sim aw σ w F) (ho : aw[k]? = some (.arr e s rows)) (hv : σ[k]? = some v) :
    Sim (aw.set k .dead ++ [.arr e s rows]) (σ ++ [v]) w F ∧ Mv aw σ w F (aw.set k .dead ++ [.arr e s rows]) (σ ++ [v]) w F := by
  have hmono : ∀ (j : Nat) o u, aw[j]? = some o → σ[j]? = some u → ORel (σ ++ [v]) w F o u := fun j o u h1 h2 =>
    (hs.obj j o u h1 h2).mono (fun i x hx => get_pre hx) (fun _ h => h) (fun _ _ => rfl) (fun hl b hb => ⟨rfl, hs.free ⟨j, o, u, h1, hl, h2, hb⟩⟩)
  have look : ∀ (j : Nat) o u, (aw.set k .dead ++ [.arr e s rows])[j]? = some o → o.live = true → (σ ++ [v])[j]? = some u → ∃ i, aw[i]? = some o ∧ σ[i]? = some u ∧ ((i = j ∧ j ≠ k ∧ j < aw.length) ∨ (i = k ∧ j = aw.length)) := by
    intro j o u h1 hl h2
    rw [List.getElem?_append, List.length_set] at h1
    split at h1
    · rename_i hlt
      rw [List.getElem?_append_left (by rw [hs.len]; exact hlt)] at h2
      rw [List.getElem?_set] at h1
      split at h1
      · split at h1
        · cases h1; cases hl
        · cases h1
      · rename_i hne
        exact ⟨j, h1, h2, .inl ⟨rfl, fun e => hne e.symm, hlt⟩⟩
    · rename_i hge
      have hj : j = aw.length := by
        have := (List.getElem?_eq_some_iff.1 h1).1
        simp at this; omega
      subst hj
      rw [Nat.sub_self] at h1
      cases h1
      rw [List.getElem?_append_right (by rw [hs.len]; exact Nat.le_refl _), hs.len, Nat.sub_self] at h2
      cases h2
      exact ⟨k, ho, hv, .inr ⟨rfl, rfl⟩⟩
  refine ⟨⟨by simp [hs.len], fun j o u h1 h2 => ?_, fun j j' o o' u u' b hne h1 h1' hl hl' h2 h2' hb hb' => ?_, hs.lt⟩, ⟨rfl, rfl, rfl, Nat.le_refl _, fun _ _ _ => rfl, fun i x hx => get_pre hx, fun _ h => h, fun _ h => .inl h, fun b hb => ?_⟩⟩
  · by_cases hl : o.live = true
    · obtain ⟨i, h3, h4, _⟩ := look j o u h1 hl h2
      exact hmono i o u h3 h4
    · cases o with
      | dead => trivial
      | _ => exact absurd rfl hl
  · obtain ⟨i, h3, h4, c⟩ := look j o u h1 hl h2
    obtain ⟨i', h3', h4', c'⟩ := look j' o' u' h1' hl' h2'
    refine hs.sep i i' o o' u u' b ?_ h3 h3' hl hl' h4 h4' hb hb'
    rcases c with ⟨rfl, c1, c2⟩ | ⟨rfl, rfl⟩ <;> rcases c' with ⟨rfl, c1', c2'⟩ | ⟨rfl, rfl⟩
    · exact hne
    · exact c1
    · exact fun e => c1' e.symm
    · exact absurd rfl hne
  · obtain ⟨j, o, u, h1, hl, h2, hb⟩ := hb
    obtain ⟨i, h3, h4, _⟩ := look j o u h1 hl h2
    exact .inl ⟨i, o, u, h3, hl, h4, hb⟩
/-- An array may be named anew: a slot's. -/
theorem T.mvS {c : Code} {Q : Exit → List AV → List Ob → Prop} (t id : Nat) {e s n0 : Nat} {rows : List (List AV)} (hx : evA n l (.tmp t) = .ref id) (ho : aw[id]? = some (.arr e s rows)) (hn : aw.length = n0) (ha : aw.set id .dead ++ [.arr e s rows] = aw') (h : T P N c Q (mkA n ((t, .ref n0) :: l)) aw') : T P N c Q (mkA n l) aw :=
  ⟨fun st h1 h2 σ w F a hcur => by
    subst ha hn
    have hr := hcur.fr.ev (.tmp t)
    rw [ev_mkA, hx] at hr
    generalize hv : a.eval (.tmp t) = v at hr
    cases hr with
    | ref _ A m c2 hg =>
      obtain ⟨s1, m1⟩ := mv_push hcur.sim ho hg
      refine h.out st h1 h2 _ w F a ⟨s1, ?_, hcur.mv.trans m1⟩
      have hfr := m1.aRel hcur.sim hcur.fr
      have hrn : Rel (σ ++ [.slice A m c2]) w F (.ref aw.length) (.slice A m c2) := .ref _ A m c2 (by rw [← hcur.sim.len]; simp)
      have e1 : a.tmps.getD t undef = .slice A m c2 := hv
      have hset : mkA n ((t, .ref aw.length) :: l) = (mkA n l).set t (.ref aw.length) := (putF_mkA n l (some t) _).symm
      rw [hset]
      refine ⟨?_, hfr.2⟩
      have hlen := hfr.1.1
      by_cases ht : t < a.tmps.size
      · have := hfr.1.set t hrn
        have e2 : a.tmps.toList.set t (.slice A m c2) = a.tmps.toList := by
          have e3 : a.tmps.toList[t]? = some (.slice A m c2) := by
            have : a.tmps[t]? = some (.slice A m c2) := by
              rw [Array.getElem?_eq_getElem ht]
              rw [← e1]; simp [ht]
            simpa using this
          obtain ⟨hlt2, hvs⟩ := List.getElem?_eq_some_iff.1 e3
          rw [← hvs]; exact List.set_getElem_self hlt2
        rwa [e2] at this
      · have : (mkA n l).set t (.ref aw.length) = mkA n l := List.set_eq_of_length_le (by rw [← hlen]; simpa using Nat.le_of_not_lt ht)
        rw [this]; exact hfr.1⟩
/-- An array may be named anew: a box's. -/
theorem T.mvB {c : Code} {Q : Exit → List AV → List Ob → Prop} {fr : List AV} (b j id : Nat) {e s n0 : Nat} {rows : List (List AV)} {cs cs' : List AV} (hb : aw[b]? = some (.box cs)) (hj : cs[j]? = some (.ref id)) (ho : aw[id]? = some (.arr e s rows)) (hn : aw.length = n0) (hc : cs.set j (.ref n0) = cs') (ha : (aw.set id .dead).set b (.box cs') ++ [.arr e s rows] = aw') (h : T P N c Q fr aw') : T P N c Q fr aw :=
  ⟨fun st h1 h2 σ w F a hcur => by
    subst hc ha hn
    have hbl : b < aw.length := (List.getElem?_eq_some_iff.1 hb).1
    have hbσ : ∃ vb, σ[b]? = some vb := ⟨_, List.getElem?_eq_getElem (by rw [hcur.sim.len]; exact hbl)⟩
    obtain ⟨vb, hvb⟩ := hbσ
    obtain ⟨g, vs, ty, rfl, hg, hcr, h1c, hf⟩ := hcur.sim.obj b _ vb hb hvb
    obtain ⟨u, hu, hru⟩ := hcr.get hj
    cases hru with
    | ref _ A m c2 hgσ =>
      obtain ⟨s1, m1⟩ := mv_push hcur.sim ho hgσ
      have hbid : b ≠ id := by rintro rfl; rw [hb] at ho; cases ho
      have hb1 : (aw.set id .dead ++ [.arr e s rows])[b]? = some (.box cs) := by
        rw [List.getElem?_append_left (by simpa using hbl), List.getElem?_set, if_neg (fun e => hbid e.symm)]; exact hb
      have hnew : ORel (σ ++ [.slice A m c2]) w F (.box (cs.set j (.ref aw.length))) (.pointer (some ⟨g, 0, none⟩)) := by
        refine ⟨g, vs, ty, rfl, hg, ?_, h1c, hf⟩
        have hcr1 := m1.relL hcur.sim hcr
        have := hcr1.set j (Rel.ref (σ := σ ++ [.slice A m c2]) (w := w) (F := F) aw.length A m c2 (by rw [← hcur.sim.len]; simp))
        have e2 : vs.toList.set j (.slice A m c2) = vs.toList := by
          obtain ⟨hlt2, hvs⟩ := List.getElem?_eq_some_iff.1 hu
          rw [← hvs]; exact List.set_getElem_self hlt2
        rwa [e2] at this
      have hvb1 : (σ ++ [.slice A m c2])[b]? = some (.pointer (some ⟨g, 0, none⟩)) := get_pre hvb
      have hset : (aw.set id .dead).set b (.box (cs.set j (.ref aw.length))) ++ [Ob.arr e s rows] = (aw.set id .dead ++ [Ob.arr e s rows]).set b (.box (cs.set j (.ref aw.length))) := by
        rw [List.set_append_left _ _ (by simpa using hbl)]
      rw [hset] at h
      have s2 := s1.write (b0 := g) b hb1 rfl hvb1 rfl (fun _ _ => rfl) rfl _ hnew (fun _ h => h)
      have m2 := Mv.write (w := w) (w' := w) (F := F) (b0 := g) b hb1 rfl hvb1 rfl rfl rfl rfl (fun _ _ => rfl) rfl (.box (cs.set j (.ref aw.length))) (fun _ h => h)
      exact h.out st h1 h2 _ w F a ⟨s2, m2.aRel s1 (m1.aRel hcur.sim hcur.fr), (hcur.mv.trans m1).trans m2⟩⟩
/- an array is data from now on -/
def fz1 (id : Nat) (rows : List (List AV)) : AV → AV
  | .ref k => (match Nat.beq k id with | true => .sl rows | false => .ref k)
  | a => a
def fz2 (id : Nat) (rows : List (List AV)) : AV → AV
  | .agg cs => .agg (cs.map (fz1 id rows))
  | a => fz1 id rows a
def fzV (id : Nat) (rows : List (List AV)) : AV → AV
  | .tup cs => .tup (cs.map (fz2 id rows))
  | .func f cs => .func f (cs.map (fz2 id rows))
  | a => fz2 id rows a
def fzA (id : Nat) (rows : List (List AV)) (l : List (Nat × AV)) : List (Nat × AV) := l.map fun p => (p.1, fzV id rows p.2)
def fzOb (id : Nat) (rows : List (List AV)) : Ob → Ob
  | .box cs => .box (cs.map (fz2 id rows))
  | o => o
section
variable {σ : List Value} {w : World} {F : Nat → Prop} {id : Nat} {rows : List (List AV)}
theorem fz1_rel (H : ∀ v, Rel σ w F (.ref id) v → Rel σ w F (.sl rows) v) {a : AV} {v : Value} (h : Rel σ w F a v) : Rel σ w F (fz1 id rows a) v := by
  unfold fz1
  split
  · rename_i k
    split
    · rename_i hb
      obtain rfl := Nat.eq_of_beq_eq_true hb
      exact H v h
    · exact h
  · exact h
theorem map_rel {f : AV → AV} (hf : ∀ a v, Rel σ w F a v → Rel σ w F (f a) v) {cs : List AV} {vs : List Value} (h : RelL σ w F cs vs) : RelL σ w F (cs.map f) vs := by
  refine ⟨by simp [h.1], fun j a v ha hv => ?_⟩
  rw [List.getElem?_map, Option.map_eq_some_iff] at ha
  obtain ⟨b, hb, rfl⟩ := ha
  exact hf b v (h.2 j b v hb hv)
theorem fz2_rel (H : ∀ v, Rel σ w F (.ref id) v → Rel σ w F (.sl rows) v) {a : AV} {v : Value} (h : Rel σ w F a v) : Rel σ w F (fz2 id rows a) v := by
  unfold fz2
  split
  · cases h with
    | agg _ vs hl h1 hc =>
      have := map_rel (fun a v => fz1_rel H) (⟨hl, hc⟩ : RelL σ w F _ _)
      exact .agg _ vs this.1 h1 this.2
  · exact fz1_rel H h
theorem fzV_rel (H : ∀ v, Rel σ w F (.ref id) v → Rel σ w F (.sl rows) v) {a : AV} {v : Value} (h : Rel σ w F a v) : Rel σ w F (fzV id rows a) v := by
  unfold fzV
  split
  · cases h with
    | tup _ vs hl hc =>
      have := map_rel (fun a v => fz2_rel H) (⟨hl, hc⟩ : RelL σ w F _ _)
      exact .tup _ vs this.1 this.2
  · cases h with
    | func _ _ vs hl hc =>
      have := map_rel (fun a v => fz2_rel H) (⟨hl, hc⟩ : RelL σ w F _ _)
      exact .func _ _ vs this.1 this.2
  · exact fz2_rel H h
theorem fz_sim (hs : Sim aw σ w F) (H : ∀ v, Rel σ w F (.ref id) v → Rel σ w F (.sl rows) v) : Sim (aw.map (fzOb id rows)) σ w F ∧ Mv aw σ w F (aw.map (fzOb id rows)) σ w F := by
  have look : ∀ (k : Nat) o, (aw.map (fzOb id rows))[k]? = some o → ∃ o1, aw[k]? = some o1 ∧ o = fzOb id rows o1 ∧ (o.live = true → o1.live = true) ∧ ∀ v b, Bk o v b → Bk o1 v b := fun k o h => by
    rw [List.getElem?_map, Option.map_eq_some_iff] at h
    obtain ⟨o1, h1, rfl⟩ := h
    exact ⟨o1, h1, rfl, fun hl => by cases o1 <;> first | rfl | exact hl, fun v b hb => by cases o1 <;> exact hb⟩
  refine ⟨⟨by simp [hs.len], fun k o v h1 h2 => ?_, fun k k' o o' v v' b hne h1 h1' hl hl' h2 h2' hb hb' => ?_, hs.lt⟩, ⟨rfl, rfl, rfl, Nat.le_refl _, fun _ _ _ => rfl, fun _ _ h => h, fun _ h => h, fun _ h => .inl h, fun b hb => ?_⟩⟩
  · obtain ⟨o1, h3, rfl, _, _⟩ := look k o h1
    have := hs.obj k o1 v h3 h2
    cases o1 with
    | box cs =>
      obtain ⟨g, vs, ty, rfl, hg, hr, h4, hf⟩ := this
      exact ⟨g, vs, ty, rfl, hg, map_rel (fun a v => fz2_rel H) hr, h4, hf⟩
    | _ => exact this
  · obtain ⟨o1, h3, _, l1, z1⟩ := look k o h1
    obtain ⟨o1', h3', _, l1', z1'⟩ := look k' o' h1'
    exact hs.sep k k' o1 o1' v v' b hne h3 h3' (l1 hl) (l1' hl') h2 h2' (z1 _ _ hb) (z1' _ _ hb')
  · obtain ⟨k, o, v, h1, hl, h2, hb⟩ := hb
    obtain ⟨o1, h3, _, l1, z1⟩ := look k o h1
    exact .inl ⟨k, o1, v, h3, l1 hl, h2, z1 _ _ hb⟩
theorem lkA_map (f : AV → AV) (hf : f .any = .any) : ∀ (l : List (Nat × AV)) (t : Nat), lkA (l.map fun p => (p.1, f p.2)) t = f (lkA l t)
  | [], t => hf.symm
  | (s, v) :: r, t => by
    rw [List.map_cons, lkA_cons, lkA_cons]
    split
    · rfl
    · exact lkA_map f hf r t
theorem fz_cur {st : St} {a : Act} {e s : Nat} (hc : Cur st (mkA n l) aw σ w F a) (ho : aw[id]? = some (.arr e s rows)) : ∃ F', Cur st (mkA n (fzA id rows l)) ((aw.set id .dead).map (fzOb id rows)) σ w F' a := by
  have hlt : id < σ.length := by rw [hc.sim.len]; exact (List.getElem?_eq_some_iff.1 ho).1
  have hv := List.getElem?_eq_getElem hlt
  have s1 := hc.sim.drop id ho rfl hv
  have m1 : Mv aw σ w F (aw.set id .dead) σ w _ := .drop id ho rfl hv
  obtain ⟨flat, hown, hfl, hf, A, m, c, hform⟩ := hc.sim.obj id _ _ ho hv
  have H : ∀ v, Rel σ w (fun b => F b ∨ Bk (.arr e s rows) σ[id] b) (.ref id) v → Rel σ w (fun b => F b ∨ Bk (.arr e s rows) σ[id] b) (.sl rows) v := fun v hr => by
    cases hr with
    | ref _ A' m' c' h' =>
      have e1 : σ[id] = .slice A' m' c' := by rw [hv] at h'; exact Option.some.inj h'
      have := arr_sl (F' := fun b => F b ∨ Bk (.arr e s rows) σ[id] b) (fun _ h => .inl h) hc.sim ho h' (fun b hb => .inr (by rw [e1]; exact hb))
      exact this
  have c1 := hc.step s1 m1
  obtain ⟨s2, m2⟩ := fz_sim (rows := rows) s1 H
  have c2 := c1.step s2 m2
  refine ⟨_, s2, ⟨⟨?_, fun j x v hx hv' => ?_⟩, c2.fr.2⟩, c2.mv⟩
  · rw [len_mkA]; have := c2.fr.1.1; rwa [len_mkA] at this
  · rw [get_mkA] at hx
    split at hx
    · rename_i hj
      cases hx
      unfold fzA
      rw [lkA_map _ rfl]
      exact fzV_rel H (c2.fr.1.2 j _ v (by rw [get_mkA, if_pos hj]) hv')
    · cases hx
end
theorem T.fz {c : Code} {Q : Exit → List AV → List Ob → Prop} {l' : List (Nat × AV)} (id : Nat) {e s : Nat} {rows : List (List AV)} (ho : aw[id]? = some (.arr e s rows)) (hl : fzA id rows l = l') (ha : (aw.set id .dead).map (fzOb id rows) = aw') (h : T P N c Q (mkA n l') aw') : T P N c Q (mkA n l) aw :=
  ⟨fun st h1 h2 σ w F a hc => by subst hl ha; obtain ⟨F', hc'⟩ := fz_cur hc ho; exact h.out st h1 h2 σ w F' a hc'⟩
theorem RS.fz {ops : Array Oper} {os : List Oper} {K : List AV → List Ob → Prop} {l' : List (Nat × AV)} (id : Nat) {e s : Nat} {rows : List (List AV)} (ho : aw[id]? = some (.arr e s rows)) (hl : fzA id rows l = l') (ha : (aw.set id .dead).map (fzOb id rows) = aw') (h : RS P N ops os K (mkA n l') aw') : RS P N ops os K (mkA n l) aw :=
  ⟨fun st h1 h2 σ w F a hc => by subst hl ha; obtain ⟨F', hc'⟩ := fz_cur hc ho; exact h.out st h1 h2 σ w F' a hc'⟩
theorem RA.fz {ops : Array Oper} {k : Nat} {li : Array Bool} {K : List AV → List Ob → Prop} {l' : List (Nat × AV)} (id : Nat) {e s : Nat} {rows : List (List AV)} (ho : aw[id]? = some (.arr e s rows)) (hl : fzA id rows l = l') (ha : (aw.set id .dead).map (fzOb id rows) = aw') (h : RA P N ops k li K (mkA n l') aw') : RA P N ops k li K (mkA n l) aw :=
  ⟨fun st h1 h2 σ w F a hc => by subst hl ha; obtain ⟨F', hc'⟩ := fz_cur hc ho; exact h.out st h1 h2 σ w F' a hc'⟩
theorem RO.fz {ops : Array Oper} {i : Nat} {K : List AV → List Ob → Prop} {l' : List (Nat × AV)} (id : Nat) {e s : Nat} {rows : List (List AV)} (ho : aw[id]? = some (.arr e s rows)) (hl : fzA id rows l = l') (ha : (aw.set id .dead).map (fzOb id rows) = aw') (h : RO P N ops i K (mkA n l') aw') : RO P N ops i K (mkA n l) aw :=
  ⟨fun st h1 h2 σ w F a hc => by subst hl ha; obtain ⟨F', hc'⟩ := fz_cur hc ho; exact h.out st h1 h2 σ w F' a hc'⟩
/-- The end of a body that was handed objects; what it hands back is read as data. -/
theorem ret_norm {M : Nat} {Q : AV → List Ob → Prop} {vs : List AV} {v : AV} {aw1 : List Ob} (r : AV) (ρ : List Nat) (hr : normR aw (retAV vs) = (v, aw1)) (h1 : ρ.Nodup) (h2 : ∀ k, k < M → ρ[k]? = some k) (hren : Ren ρ r v) (hw : RenW ρ aw1 ρ aw') (hQ : Q r aw') : Ret M Q aw vs :=
  ⟨[], true, r, aw', by
    simp only [nilify, if_true]
    rw [hr]; exact ⟨ρ, h1, h2, hren, hw⟩, hQ⟩
end
end Go.Proofs.Ytegkmfokfakeiaa
