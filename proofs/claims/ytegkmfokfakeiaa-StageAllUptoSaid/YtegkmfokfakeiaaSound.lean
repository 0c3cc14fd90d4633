/-
  The conditions suffice: 'vc_sound', 'ACalls.of_vc'. For every program.
-/
import Derived.Test.YtegkmfokfakeiaaVc
namespace Go.Proofs.Ytegkmfokfakeiaa
open Go.RowKit
set_option linter.unusedVariables false
set_option linter.unusedSimpArgs false

section
variable {P : Program} {σ : List Value} {w : World} {F : Nat → Prop} {aw : List Ob}

theorem renL_get {ρ : List Nat} : ∀ {as' as : List AV}, RenL ρ as' as → as'.length = as.length ∧ ∀ (j : Nat) a' a, as'[j]? = some a' → as[j]? = some a → Ren ρ a' a
  | [], [], _ => ⟨rfl, fun j a' a h => by simp at h⟩
  | a' :: as', a :: as, h => by
    obtain ⟨h1, h2⟩ := renL_get h.2
    refine ⟨by simp [h1], fun j x y hx hy => ?_⟩
    cases j with
    | zero => simp at hx hy; subst hx; subst hy; exact h.1
    | succ j => exact h2 j x y (by simpa using hx) (by simpa using hy)
  | [], _ :: _, h => h.elim
  | _ :: _, [], h => h.elim
theorem renL_rel {ρ : List Nat} {as' as : List AV} {vs : List Value} {σ' : List Value} (h : RenL ρ as' as) (hr : RelL σ w F as vs) (hσ : ∀ (k id : Nat), ρ[k]? = some id → σ'[k]? = σ[id]?) : RelL σ' w F as' vs := by
  obtain ⟨h1, h2⟩ := renL_get h
  refine ⟨hr.1.trans h1.symm, fun j a v ha hv => ?_⟩
  have hlt : j < as.length := by rw [← h1]; exact (List.getElem?_eq_some_iff.1 ha).1
  exact h2 j a _ ha (List.getElem?_eq_getElem hlt) σ w F v (hr.2 j _ v (List.getElem?_eq_getElem hlt) hv) σ' hσ
theorem renW_get {ρ : List Nat} : ∀ {ids : List Nat} {aw' : List Ob}, RenW ρ aw ids aw' → aw'.length = ids.length ∧ ∀ (k : Nat) o', aw'[k]? = some o' → ∃ id o, ids[k]? = some id ∧ aw[id]? = some o ∧ RenO ρ o' o
  | [], [], _ => ⟨rfl, fun k o' h => by simp at h⟩
  | id :: ids, o' :: aw', h => by
    obtain ⟨h1, h2⟩ := renW_get h.2
    refine ⟨by simp [h1], fun k x hx => ?_⟩
    cases k with
    | zero => simp at hx; subst hx; obtain ⟨o, h3, h4⟩ := h.1; exact ⟨id, o, rfl, h3, h4⟩
    | succ k => obtain ⟨i, o, h3, h4⟩ := h2 k x (by simpa using hx); exact ⟨i, o, by simpa using h3, h4⟩
  | [], _ :: _, h => h.elim
  | _ :: _, [], h => h.elim

theorem flatten_rel {σ' : List Value} : ∀ {rows : List (List AV)}, (∀ row, row ∈ rows → ∀ x, x ∈ row → ∀ v, Rel σ w F x v → Rel σ' w F x v) → ∀ {flat : List Value}, RelL σ w F rows.flatten flat → RelL σ' w F rows.flatten flat := by
  intro rows h flat hr
  refine ⟨hr.1, fun j x v hx hv => ?_⟩
  obtain ⟨row, hrow, hm⟩ := List.mem_flatten.1 (List.mem_of_getElem? hx)
  exact h row hrow x hm v (hr.2 j x v hx hv)

theorem cell_rel {σ' : List Value} {e2 size : Nat} {c : Cell} {x : Value} (h : CellRel σ w F e2 size c x) (hp : ∀ rows, (Cell.own rows = c ∨ Cell.fz rows = c) → ∀ row, row ∈ rows → ∀ y, y ∈ row → Pure y) : CellRel σ' w F e2 size c x := by
  cases c with
  | own rows =>
    obtain ⟨flat, h1, h2, h3, h4⟩ := h
    exact ⟨flat, h1, ⟨h2.1, h2.2.1, flatten_rel (fun row hr y hy v hv => hp rows (.inl rfl) row hr y hy σ w F v hv _) h2.2.2⟩, h3, h4⟩
  | fz rows =>
    have h : Rel σ w F (.sl rows) x := h
    cases h with
    | slNil => exact Rel.slNil
    | sl _ sz ad c u h1 h2 h3 h4 h5 h6 h7 => exact Rel.sl rows sz ad c u h1 h2 h3 h4 h5 h6 (fun i row j y hi hj => hp rows (.inr rfl) row (List.mem_of_getElem? hi) y (List.mem_of_getElem? hj) σ w F _ (h7 i row j y hi hj) _)
  | hole => trivial
theorem renO_bk {ρ : List Nat} {o' o : Ob} {v : Value} {b : Nat} (h : RenO ρ o' o) (hb : Bk o' v b) : Bk o v b := by
  cases o' with
  | dead => exact hb.elim
  | arr2 e e2 s cells =>
    cases o with
    | arr2 e' e2' s' cells' => obtain ⟨rfl, rfl, rfl, rfl, _⟩ := h; exact hb
    | _ => exact h.elim
  | _ => cases o <;> first | exact hb | exact h.elim
/-- Names may be changed, knowledge forgotten. -/
theorem sim_ren {ρ : List Nat} {aw' : List Ob} (h : Sim aw σ w F) (hnd : ρ.Nodup) (hw : RenW ρ aw ρ aw') :
    ∃ σ' : List Value, (∀ (k id : Nat), ρ[k]? = some id → σ'[k]? = σ[id]?) ∧ Sim aw' σ' w F ∧ (∀ b, Dof aw' σ' b → Dof aw σ b) := by
  obtain ⟨hl, hg⟩ := renW_get hw
  have hσ : ∀ (k id : Nat), ρ[k]? = some id → (ρ.map fun id => σ.getD id undef)[k]? = σ[id]? := fun k id hk => by
    have hk1 : k < aw'.length := by rw [hl]; exact (List.getElem?_eq_some_iff.1 hk).1
    obtain ⟨id', o, h1, h2, _⟩ := hg k _ (List.getElem?_eq_getElem hk1)
    rw [hk] at h1
    cases h1
    have hid : id < σ.length := by rw [h.len]; exact (List.getElem?_eq_some_iff.1 h2).1
    rw [List.getElem?_map, hk]
    simp [List.getD_eq_getElem?_getD, List.getElem?_eq_getElem hid]
  have live : ∀ {o' o : Ob}, RenO ρ o' o → o'.live = true → o.live = true := fun {o' o} hr hlv => by
    cases o' <;> cases o <;> simp_all [RenO, Ob.live]
  refine ⟨ρ.map fun id => σ.getD id undef, hσ, ⟨by simp [hl], fun k o' v ho' hv => ?_, fun k k' o1 o2 v1 v2 g hne ho1 ho2 hl1 hl2 hv1 hv2 hb1 hb2 => ?_, h.lt⟩, fun b hb => ?_⟩
  · obtain ⟨id, o, h1, h2, h3⟩ := hg k o' ho'
    rw [hσ k id h1] at hv
    have hr := h.obj id o v h2 hv
    cases o' with
    | dead => trivial
    | mp ks' vs' => cases o with
      | mp ks vs =>
        obtain ⟨g, es, clock, e1, hg1, hk, hv', hf⟩ := hr
        exact ⟨g, es, clock, e1, hg1, renL_rel h3.1 hk hσ, renL_rel h3.2 hv' hσ, hf⟩
      | _ => exact h3.elim
    | arr2 e' e2' s' cells' => cases o with
      | arr2 e e2 s cells =>
        obtain ⟨rfl, rfl, rfl, rfl, hp⟩ := h3
        obtain ⟨u, us, e1, hl1, hown, hfm, hf, hc, hd1, hd2⟩ := hr
        exact ⟨u, us, e1, hl1, hown, hfm, hf, fun i c x h1 h2 => ⟨(hc i c x h1 h2).1, cell_rel (hc i c x h1 h2).2 (fun rows hrr => hp rows (hrr.imp (fun (e : Cell.own rows = c) => by rw [e]; exact List.mem_of_getElem? h1) (fun (e : Cell.fz rows = c) => by rw [e]; exact List.mem_of_getElem? h1)))⟩, hd1, hd2⟩
      | _ => exact h3.elim
    | arrU e' s' rows' x' => cases o <;> exact h3.elim
    | box cs' => cases o with
      | mp ks vs => exact h3.elim
      | arr2 e e2 s cells => exact h3.elim
      | arrU e s rows x => exact h3.elim
      | dead => exact h3.elim
      | arr e s rows => exact h3.elim
      | box cs =>
        obtain ⟨g, vs, ty, e1, hg1, hr1, h11, hf⟩ := hr
        exact ⟨g, vs, ty, e1, hg1, renL_rel h3 hr1 hσ, h11, hf⟩
    | arr e' s' rows' => cases o with
      | mp ks vs => exact h3.elim
      | arr2 e e2 s cells => exact h3.elim
      | arrU e s rows x => exact h3.elim
      | dead => exact h3.elim
      | box cs => exact h3.elim
      | arr e s rows =>
        obtain ⟨rfl, rfl, rfl, h4⟩ := h3
        obtain ⟨flat, hown, hfl, hf, hform⟩ := hr
        exact ⟨flat, hown, ⟨hfl.1, hfl.2.1, flatten_rel (fun row hrow x hx v hxv => h4 row hrow x hx σ w F v hxv _ hσ) hfl.2.2⟩, hf, hform⟩
  · obtain ⟨id1, p1, a1, a2, a3⟩ := hg k o1 ho1
    obtain ⟨id2, p2, b1, b2, b3⟩ := hg k' o2 ho2
    rw [hσ k id1 a1] at hv1
    rw [hσ k' id2 b1] at hv2
    refine h.sep id1 id2 p1 p2 v1 v2 g (fun e => hne ?_) a2 b2 (live a3 hl1) (live b3 hl2) hv1 hv2 (renO_bk a3 hb1) (renO_bk b3 hb2)
    subst e
    exact (List.getElem?_inj (List.getElem?_eq_some_iff.1 a1).1 hnd).1 (a1.trans b1.symm)
  · obtain ⟨k, o', v, ho', hlv, hv, hbv⟩ := hb
    obtain ⟨id, o, h1, h2, h3⟩ := hg k o' ho'
    rw [hσ k id h1] at hv
    exact ⟨id, o, v, h2, live h3 hlv, hv, renO_bk h3 hbv⟩

theorem Mv.ren {st : St} {ρ : List Nat} {aw' : List Ob} {σ' : List Value} (hl : st.σ.length = st.aw.length) (hm : Mv st.aw st.σ st.w st.F aw σ w F) (hρ : ∀ k, k < st.aw.length → ρ[k]? = some k) (hσ : ∀ (k id : Nat), ρ[k]? = some id → σ'[k]? = σ[id]?)
    (hd : ∀ b, Dof aw' σ' b → Dof aw σ b) : Mv st.aw st.σ st.w st.F aw' σ' w F := by
  refine ⟨hm.os, hm.tape, hm.output, hm.size, hm.keep, fun i v hv => ?_, hm.sub, hm.sup, fun b hb => hm.own b (hd b hb)⟩
  have hi : i < st.aw.length := by rw [← hl]; exact (List.getElem?_eq_some_iff.1 hv).1
  rw [hσ i i (hρ i hi)]
  exact hm.pre i v hv

theorem nil_push (e : TypeId) (z : Nat) (h : Sim aw σ w F) : Sim (aw ++ [.arr e z []]) (σ ++ [.slice none 0 0]) w F ∧ Mv aw σ w F (aw ++ [.arr e z []]) (σ ++ [.slice none 0 0]) w F ∧ Rel (σ ++ [.slice none 0 0]) w F (.ref aw.length) (.slice none 0 0) := by
  refine ⟨h.push2 _ _ (fun _ _ => rfl) (Nat.le_refl _) ⟨[], ⟨by simp, .inl ⟨rfl, rfl⟩⟩, ⟨by simp, by simp, .nil⟩, fun g hg => (by cases hg), _, _, _, rfl⟩ (fun b hb => by cases hb),
    ⟨rfl, rfl, rfl, Nat.le_refl _, fun _ _ _ => rfl, fun i v hv => get_pre hv, fun _ h => h, fun _ h => .inl h, fun b hb => ?_⟩, .ref _ _ _ _ (by rw [← h.len]; simp)⟩
  obtain ⟨k, o1, v1, ho1, hl, hv1, hb1⟩ := hb
  rcases get_app ho1 with h2 | ⟨rfl, rfl⟩
  · have hlt := (List.getElem?_eq_some_iff.1 h2).1
    rw [List.getElem?_append_left (by rw [h.len]; exact hlt)] at hv1
    exact .inl ⟨k, o1, v1, h2, hl, hv1, hb1⟩
  · rw [← h.len] at hv1
    simp at hv1
    subst hv1
    cases hb1
theorem nilify_ok : ∀ (nl : List (Nat × TypeId × Nat)) {fr : List AV} {vs : List Value} {aw : List Ob} {σ : List Value}, Sim aw σ w F → RelL σ w F fr vs →
    ∃ σ', Sim (nilify nl fr aw).2 σ' w F ∧ RelL σ' w F (nilify nl fr aw).1 vs ∧ Mv aw σ w F (nilify nl fr aw).2 σ' w F
  | [], fr, vs, aw, σ, hs, hr => ⟨σ, hs, hr, .refl ..⟩
  | (s, e, z) :: r, fr, vs, aw, σ, hs, hr => by
    unfold nilify
    split
    · rename_i hn
      obtain ⟨v, hv, hrv⟩ := hr.get hn
      cases hrv
      obtain ⟨s1, m1, r1⟩ := nil_push e z hs
      have hr1 : RelL (σ ++ [.slice none 0 0]) w F (fr.set s (.ref aw.length)) vs := by
        have := (m1.relL hs hr).set s r1
        have e1 : vs.set s (.slice none 0 0) = vs := by
          obtain ⟨hlt, hvs⟩ := List.getElem?_eq_some_iff.1 hv
          rw [← hvs]; exact List.set_getElem_self hlt
        rwa [e1] at this
      obtain ⟨σ', s2, r2, m2⟩ := nilify_ok r s1 hr1
      exact ⟨σ', s2, r2, m1.trans m2⟩
    · exact nilify_ok r hs hr

theorem Cur.weak {st : St} {fr fr' : List AV} {aw' : List Ob} {a : Act} (hl : st.σ.length = st.aw.length) (h : Cur st fr aw σ w F a) (hw : Weak st.aw.length fr aw fr' aw') : ∃ σ', Cur st fr' aw' σ' w F a := by
  obtain ⟨nl, ρ, hnd, hρ, hf, hW⟩ := hw
  obtain ⟨σ1, s1, r1, m1⟩ := nilify_ok nl h.sim h.fr.1
  obtain ⟨σ', hσ, hs, hd⟩ := sim_ren s1 hnd hW
  exact ⟨σ', hs, ⟨renL_rel hf r1 hσ, h.fr.2⟩, Mv.ren hl (h.mv.trans m1) hρ hσ hd⟩

theorem flat0_rel {r : AV} {v : Value} {σ' : List Value} {w' : World} {F' : Nat → Prop} (hf : flat0 r = true) (h : Rel σ w F r v) : Rel σ' w' F' r v := by
  cases h <;> simp [flat0] at hf
  · exact .int _ _
  · exact .bool _
  · exact .str _
  · exact .nils
  · exact .nilf
  · exact .nilp
  · exact .nili
theorem flat1_rel {r : AV} {v : Value} {σ' : List Value} {w' : World} {F' : Nat → Prop} (hf : flat1 r = true) (h : Rel σ w F r v) : Rel σ' w' F' r v := by
  cases r with
  | agg cs =>
    cases h with
    | agg _ vs hl h1 hc =>
      simp only [flat1, List.all_eq_true] at hf
      exact .agg cs vs hl h1 (fun j c u hcj hu => flat0_rel (hf c (List.mem_of_getElem? hcj)) (hc j c u hcj hu))
  | _ => exact flat0_rel hf h
theorem flat_rel {r : AV} {v : Value} {σ' : List Value} {w' : World} {F' : Nat → Prop} (hf : flat r = true) (h : Rel σ w F r v) : Rel σ' w' F' r v := by
  cases r with
  | tup cs =>
    cases h with
    | tup _ vs hl hc =>
      simp only [flat, List.all_eq_true] at hf
      exact .tup cs vs hl (fun j c u hcj hu => flat1_rel (hf c (List.mem_of_getElem? hcj)) (hc j c u hcj hu))
  | _ => exact flat1_rel hf h

/-- New arrays of flat rows beside the objects that are there. -/
theorem Sim.beside {w' : World} {F' : Nat → Prop} {σ' : List Value} {aw' : List Ob} (h : Sim aw σ w' F) (h' : Sim aw' σ' w' F') (hF : ∀ b, F b → F' b) (hfl : aw'.all flatOb = true)
    (hnew : ∀ b, Dof aw σ b → ¬ Dof aw' σ' b) : Sim (aw ++ aw') (σ ++ σ') w' F := by
  have old : ∀ (k : Nat) o v, (aw ++ aw')[k]? = some o → (σ ++ σ')[k]? = some v → (aw[k]? = some o ∧ σ[k]? = some v) ∨ (aw.length ≤ k ∧ aw'[k - aw.length]? = some o ∧ σ'[k - aw.length]? = some v) := fun k o v ho hv => by
    rw [List.getElem?_append] at ho hv
    rw [h.len] at hv
    split at ho
    · rename_i hlt
      rw [if_pos hlt] at hv
      exact .inl ⟨ho, hv⟩
    · rename_i hlt
      rw [if_neg hlt] at hv
      exact .inr ⟨by omega, ho, hv⟩
  have hsep : ∀ (k k' : Nat) o o' v v' g, aw[k]? = some o → σ[k]? = some v → aw'[k']? = some o' → σ'[k']? = some v' → o.live = true → o'.live = true → Bk o v g → Bk o' v' g → False :=
    fun k k' o o' v v' g a1 a2 a3 a4 a5 a6 a7 a8 => hnew g ⟨k, o, v, a1, a5, a2, a7⟩ ⟨k', o', v', a3, a6, a4, a8⟩
  refine ⟨by simp [h.len, h'.len], fun k o v ho hv => ?_, fun k k' o o' v v' g hne ho ho' hl hl' hv hv' hb hb' => ?_, h.lt⟩
  · rcases old k o v ho hv with ⟨h1, h2⟩ | ⟨_, h1, h2⟩
    · refine (h.obj k o v h1 h2).mono (fun i u hu => ?_) (fun _ e => e) (fun _ _ => rfl) (fun hl b hb => ⟨rfl, h.free ⟨k, o, v, h1, hl, h2, hb⟩⟩)
      rw [List.getElem?_append_left (List.getElem?_eq_some_iff.1 hu).1]; exact hu
    · have hob := h'.obj _ o v h1 h2
      have hf := List.all_eq_true.1 hfl o (List.mem_of_getElem? h1)
      cases o with
      | dead => simp [flatOb] at hf
      | box cs => simp [flatOb] at hf
      | mp ks vs => simp [flatOb] at hf
      | arr2 e e2 s cs => simp [flatOb] at hf
      | arrU e s rows x => simp [flatOb] at hf
      | arr e s rows =>
        simp only [flatOb, List.all_eq_true] at hf
        obtain ⟨fl, hown, hfr, hnf, A, n, c, hform⟩ := hob
        exact ⟨fl, hown, ⟨hfr.1, hfr.2.1, ⟨hfr.2.2.1, fun j x v hx hv => by
          obtain ⟨row, hrow, hm⟩ := List.mem_flatten.1 (List.mem_of_getElem? hx)
          exact flat0_rel (hf row hrow x hm) (hfr.2.2.2 j x v hx hv)⟩⟩, fun g hg hFg => hnf g hg (hF g hFg), A, n, c, hform⟩
  · rcases old k o v ho hv with ⟨h1, h2⟩ | ⟨h0, h1, h2⟩ <;> rcases old k' o' v' ho' hv' with ⟨h3, h4⟩ | ⟨h5, h3, h4⟩
    · exact h.sep k k' o o' v v' g hne h1 h3 hl hl' h2 h4 hb hb'
    · exact hsep k _ o o' v v' g h1 h2 h3 h4 hl hl' hb hb'
    · exact hsep k' _ o' o v' v g h3 h4 h1 h2 hl' hl hb' hb
    · exact h'.sep _ _ o o' v v' g (by omega) h1 h3 hl hl' h2 h4 hb hb'

/-- A call. -/
theorem callK_ok {st : St} {fr : List AV} {a : Act} {f : FuncId} {xs : List AV} {vs : List Value} {K : AV → List Ob → Prop} (hc : Cur st fr aw σ w F a) {F1 : Nat → Prop} {aw1 : List Ob} (s1 : Sim aw1 σ w F1) (m1 : Mv aw σ w F aw1 σ w F1) (hr : RelL σ w F1 xs vs)
    (h : CallK P f xs aw aw1 K) : (∀ vs w, (callFunc f vs).run P w = .ok (.enter f vs) w) ∧ Calls P f vs.toArray w fun e w' => ∃ v r aw' σ' F', e = .returned v ∧ K r aw' ∧ Cur st fr aw' σ' w' F' a ∧ Rel σ' w' F' r v := by
  rcases h with ⟨Q, hA, hQ⟩ | ⟨Q, hA, hp, hQ⟩
  · refine ⟨hA.1, (hA.2 w F1 σ vs s1 hr).mono ?_⟩
    rintro e w' ⟨v, r, aw', σ', F', rfl, hq, hs, hrel, hm⟩
    exact ⟨v, r, aw', σ', F', rfl, hQ r aw' hq, hc.step hs (m1.trans hm), hrel⟩
  · have s0 : Sim [] [] w F1 := ⟨rfl, fun k o v ho => by simp at ho, fun k k' o o' v v' g _ ho => by simp at ho, s1.lt⟩
    have r0 : RelL [] w F1 xs vs := ⟨hr.1, fun j x v hx hv => hp x (List.mem_of_getElem? hx) σ w F1 v (hr.2 j x v hx hv) []⟩
    refine ⟨hA.1, (hA.2 w F1 [] vs s0 r0).mono ?_⟩
    rintro e w' ⟨v, r, aw', σ', F', rfl, hq, hs, hrel, hm⟩
    have hno : ∀ b, ¬ Dof [] [] b := fun b ⟨k, o, v, ho, _⟩ => by simp at ho
    have hk : ∀ b, b < w.heap.size → w'.heap[b]? = w.heap[b]? := fun b hb => hm.keep b hb (hno b)
    rcases hQ r aw' hq with ⟨hfl, hK⟩ | ⟨rfl, hpr, hK⟩ | ⟨e, sz, rows, rfl, hrows, hrr, hK⟩ | ⟨hfr, hfo, hK⟩
    · refine ⟨v, r, aw, σ, F, rfl, hK, hc.step (hc.sim.grow (fun _ h => h) (fun _ h => .inl h) (fun b hb => Nat.lt_of_lt_of_le (hc.sim.lt b hb) hm.size) hk) (.grow (fun _ h => h) (fun _ h => .inl h) hm.os hm.tape hm.output hm.size hk), flat_rel hfl hrel⟩
    · have hsup : ∀ b, F' b → F1 b ∨ w.heap.size ≤ b := fun b hb => (hm.sup b hb).imp (fun h => h) (fun h => h.elim (fun h => absurd h (hno b)) (fun h => h))
      refine ⟨v, r, aw1, σ, F', rfl, hK, hc.step (s1.grow hm.sub hsup hs.lt hk) (m1.trans (.grow hm.sub hsup hm.os hm.tape hm.output hm.size hk)), hpr _ _ _ _ hrel σ⟩
    · have hsup : ∀ b, F' b → F1 b ∨ w.heap.size ≤ b := fun b hb => (hm.sup b hb).imp (fun h => h) (fun h => h.elim (fun h => absurd h (hno b)) (fun h => h))
      have sg : Sim aw1 σ w' F' := s1.grow hm.sub hsup hs.lt hk
      have mg : Mv aw1 σ w F1 aw1 σ w' F' := .grow hm.sub hsup hm.os hm.tape hm.output hm.size hk
      match σ', hs.len with
      | [v0], _ =>
        obtain ⟨flat, hown, hfl, hf, A, n, c, hform⟩ := hs.obj 0 _ v0 rfl rfl
        have hnewb : ∀ b, Bk (.arr e sz rows) v0 b → w.heap.size ≤ b := fun b hb => (hm.own b ⟨0, _, v0, rfl, rfl, rfl, hb⟩).elim (fun h => absurd h (hno b)) (fun h => h)
        have hpre : ∀ x v, Pure x → Rel [v0] w' F' x v → Rel (σ ++ [v0]) w' F' x v := fun x v hx hxv => hx _ _ _ _ hxv _
        have hpush : Sim (aw1 ++ [.arr e sz rows]) (σ ++ [v0]) w' F' := by
          refine sg.push2 _ _ (fun _ _ => rfl) (Nat.le_refl _) ⟨flat, hown, ⟨hfl.1, hfl.2.1, flatten_rel (fun row hrow x hx v hxv => hpre x v (hrows row hrow x hx) hxv) hfl.2.2⟩, hf, A, n, c, hform⟩ (fun b hb hd => ?_)
          have := hnewb b hb
          have := s1.lt_own hd
          omega
        have hmv : Mv aw1 σ w F1 (aw1 ++ [.arr e sz rows]) (σ ++ [v0]) w' F' := by
          refine ⟨hm.os, hm.tape, hm.output, hm.size, fun b hb _ => hk b hb, fun i v hv => get_pre hv, hm.sub, fun b hb => (hsup b hb).imp (fun h => h) .inr, fun b hb => ?_⟩
          obtain ⟨k, o1, v1, ho1, hl1, hv1, hb1⟩ := hb
          rcases get_app ho1 with h2 | ⟨rfl, rfl⟩
          · have hlt := (List.getElem?_eq_some_iff.1 h2).1
            rw [List.getElem?_append_left (by rw [s1.len]; exact hlt)] at hv1
            exact .inl ⟨k, o1, v1, h2, hl1, hv1, hb1⟩
          · rw [← s1.len] at hv1
            simp at hv1
            subst hv1
            exact .inr (hnewb b hb1)
        have href : ∀ k v, Rel [v0] w' F' (.ref k) v → Rel (σ ++ [v0]) w' F' (.ref (aw1.length + k)) v := by
          intro k v hkv
          cases hkv with
          | ref _ A n c h =>
            cases k with
            | succ k => simp at h
            | zero =>
              refine .ref _ A n c ?_
              rw [← s1.len, Nat.add_zero]
              simpa using h
        refine ⟨v, r.shift aw1.length, _, _, F', rfl, hK, hc.step hpush (m1.trans hmv), ?_⟩
        rcases hrr with ⟨k, rfl⟩ | ⟨ys, rfl, hys⟩
        · exact href k v hrel
        · cases hrel with
          | tup _ us hl hcs =>
            refine .tup _ us (by simpa using hl) (fun j c u hcj hu => ?_)
            rw [List.getElem?_map, Option.map_eq_some_iff] at hcj
            obtain ⟨y, hy, rfl⟩ := hcj
            have h1 := hcs j y u hy hu
            have h2 := hys y (List.mem_of_getElem? hy)
            split
            · exact href _ u h1
            · rename_i hno'
              rcases h2 with h2 | ⟨k, rfl⟩
              · exact hpre _ _ h2 h1
              · exact absurd rfl (hno' k)
    · have sg : Sim aw σ w' F := hc.sim.grow (fun _ h => h) (fun _ h => .inl h) (fun b hb => Nat.lt_of_lt_of_le (hc.sim.lt b hb) hm.size) hk
      have mg : Mv aw σ w F aw σ w' F := .grow (fun _ h => h) (fun _ h => .inl h) hm.os hm.tape hm.output hm.size hk
      have hnewb : ∀ b, Dof aw' σ' b → w.heap.size ≤ b := fun b hb => (hm.own b hb).elim (fun h => absurd h (hno b)) (fun h => h)
      have hFF : ∀ b, F b → F' b := fun b hb => hm.sub b (m1.sub b hb)
      have sb := sg.beside hs hFF hfo (fun b hb hb' => by
        have := hnewb b hb'
        have := hc.sim.lt_own hb
        omega)
      have mb : Mv aw σ w F (aw ++ aw') (σ ++ σ') w' F := by
        refine ⟨hm.os, hm.tape, hm.output, hm.size, fun b hb _ => hk b hb, fun i u hu => ?_, fun _ h => h, fun b hb => .inl hb, fun b hb => ?_⟩
        · rw [List.getElem?_append_left (List.getElem?_eq_some_iff.1 hu).1]; exact hu
        · obtain ⟨k, o, u, ho, hl, hu, hbk⟩ := hb
          rw [List.getElem?_append] at ho hu
          rw [hc.sim.len] at hu
          split at ho
          · rename_i hlt
            rw [if_pos hlt] at hu
            exact .inl ⟨k, o, u, ho, hl, hu, hbk⟩
          · rename_i hlt
            rw [if_neg hlt] at hu
            exact .inr (hnewb b ⟨_, o, u, ho, hl, hu, hbk⟩)
      have href : ∀ k u, Rel σ' w' F' (.ref k) u → Rel (σ ++ σ') w' F (.ref (aw.length + k)) u := by
        intro k u hku
        cases hku with
        | ref _ A n c h =>
          refine .ref _ A n c ?_
          rw [List.getElem?_append_right (by rw [hc.sim.len]; omega), hc.sim.len, Nat.add_sub_cancel_left]
          exact h
      refine ⟨v, r.shift aw.length, _, _, F, rfl, hK, hc.step sb mb, ?_⟩
      cases r with
      | tup vs =>
        cases hrel with
        | tup _ us hl hcs =>
          refine .tup _ us (by simpa using hl) (fun j c u hcj hu => ?_)
          rw [List.getElem?_map, Option.map_eq_some_iff] at hcj
          obtain ⟨y, hy, rfl⟩ := hcj
          have h1 := hcs j y u hy hu
          simp only [flatR, List.all_eq_true] at hfr
          have h2 := hfr y (List.mem_of_getElem? hy)
          split
          · exact href _ u h1
          · rename_i hno'
            cases y with
            | ref k => exact absurd rfl (hno' k)
            | _ => exact flat1_rel h2 h1
      | ref k => exact href k v hrel
      | _ => exact flat1_rel hfr hrel

theorem oper_ok {st : St} {fr : List AV} {a : Act} {o : Oper} {K : AV → List Ob → Prop} {Kc : Act → World → Prop} {Q : Exit → Act → World → Prop} (hc : Cur st fr aw σ w F a) (h : vcOper P o fr aw K)
    (hk : ∀ r aw' σ' w' F' v, K r aw' → Cur st fr aw' σ' w' F' a → Rel σ' w' F' r v → Kc (a.put o.dst v) w') : o.wp P a w Kc Q := by
  have val : vcVal P fr aw o.op K → o.wp P a w Kc Q := by
    intro h
    obtain ⟨v, n, w', aw', σ', F', r, hrun, hn, hs, hm, hr, hK⟩ := vcVal_ok hc.fr hc.sim o h
    unfold Oper.wp
    rw [hrun]
    rcases hn with rfl | ⟨rfl, rfl⟩
    · exact hk r aw' σ' w' F' v hK (hc.step hs hm) hr
    · exact hk r aw' σ' w' F' undef hK (hc.step hs hm) hr
  unfold vcOper at h
  split at h
  · rename_i f args ats hop
    split at h
    · rename_i g caps ef
      have hf := hc.fr.ev f
      rw [ef] at hf
      generalize hvf : a.eval f = vf at hf
      cases hf with
      | func _ _ cvs hl hcs =>
        obtain ⟨F1, s1, m1, r1⟩ := normL_ok hc.sim (relL_map hc.fr args.toList)
        have r2 : RelL σ w F1 caps cvs := m1.relL hc.sim ⟨hl, hcs⟩
        obtain ⟨hcall, hC⟩ := callK_ok hc s1 m1 (r1.append r2) h
        unfold Oper.wp
        have hrun : (execOp a.eval o).run P w = .ok (.enter g (args.toList.map a.eval ++ cvs).toArray) w := by
          have e : args.map a.eval ++ cvs.toArray = (args.toList.map a.eval ++ cvs).toArray := by
            obtain ⟨l⟩ := args
            simp
          simp only [execOp, hop, resolve, Deferred.ofValue, hvf, Sem.run_bind, Sem.run_pure, Result.andThen_ok, invoke, Array.empty_append, e, hcall]
        rw [hrun]
        refine hC.mono ?_
        rintro e w' ⟨v, r, aw', σ', F', rfl, hK, hcur, hrel⟩
        exact hk r aw' σ' w' F' v hK hcur hrel
    · exact h.elim
  · rename_i op hno
    exact val h

theorem putF_cur {st : St} {fr : List AV} {a : Act} {r : AV} {v : Value} (hc : Cur st fr aw σ w F a) (hr : Rel σ w F r v) (d : Option Tmp) : Cur st (putF fr d r) aw σ w F (a.put d v) := hc.put hr d

theorem ops_ok {st : St} {ops : Array Oper} {Q : Exit → Act → World → Prop} {K : List AV → List Ob → Prop} (hQ : ∀ fr aw σ w F a, Cur st fr aw σ w F a → K fr aw → Q .normal a w) :
    ∀ (l : List Oper) (fr : List AV) (aw : List Ob) (σ : List Value) (w : World) (F : Nat → Prop) (a : Act), Cur st fr aw σ w F a → vcOps P ops l K fr aw → wpList P ops Q l a w
  | [], fr, aw, σ, w, F, a, hc, h => hQ fr aw σ w F a hc h
  | o :: rest, fr, aw, σ, w, F, a, hc, h => by
    unfold wpList
    simp only [vcOps] at h
    cases hg : o.guard with
    | none =>
      rw [hg] at h
      rw [if_pos (by simp [Region.wanted, hg])]
      exact .inl (oper_ok hc h fun r aw' σ' w' F' v hK hcur hrel => ops_ok hQ rest _ aw' σ' w' F' _ (putF_cur hcur hrel o.dst) hK)
    | some jw =>
      obtain ⟨j, want⟩ := jw
      rw [hg] at h
      simp only at h
      split at h
      · exact h.elim
      · rename_i t ht
        split at h
        · rename_i b hb
          obtain ⟨v, hv, hrel⟩ := hc.fr.1.get hb
          cases hrel
          have hy : yielded ops a.tmps j = some b := by
            have : a.tmps[t]? = some (.bool b) := by simpa using hv
            simp [yielded, ht, this]
          have hself : ∀ c, b = c → Cur st (fr.set t (.bool c)) aw σ w F a := fun c e => by
            subst e
            have : fr.set t (.bool b) = fr := by
              apply List.ext_getElem?
              intro i
              rw [List.getElem?_set]
              split
              · rename_i e; subst e
                split
                · exact hb.symm
                · rename_i hlt; exact absurd (List.getElem?_eq_some_iff.1 hb).1 hlt
              · rfl
            rw [this]; exact hc
          by_cases hbw : b = want
          · rw [if_pos hbw] at h
            rw [if_pos (by simp [Region.wanted, hg, hy, hbw])]
            exact .inl (oper_ok (hself want hbw) h fun r aw' σ' w' F' v hK hcur hrel => ops_ok hQ rest _ aw' σ' w' F' _ (putF_cur hcur hrel o.dst) hK)
          · rw [if_neg hbw] at h
            rw [if_neg (by simp [Region.wanted, hg, hy, hbw])]
            have hbn : b = !want := by cases b <;> cases want <;> simp_all
            exact ops_ok hQ rest _ aw σ w F _ (putF_cur (hself _ hbn) (.any undef) o.dst) h
        · exact h.elim

def CQ (st : St) (Q : Exit → List AV → List Ob → Prop) (e : Exit) (a : Act) (w : World) : Prop := ∃ fr aw σ F, Q e fr aw ∧ Cur st fr aw σ w F a

theorem vc_sound {st : St} (hl : st.σ.length = st.aw.length) : ∀ (c : Code) (Q : Exit → List AV → List Ob → Prop) (fr : List AV) (aw : List Ob) (σ : List Value) (w : World) (F : Nat → Prop) (a : Act),
    vc P st.aw.length c Q fr aw → Cur st fr aw σ w F a → c.wp P (CQ st Q) a w := by
  intro c
  induction c with
  | skip => exact fun Q fr aw σ w F a h hc => wp_skip ⟨fr, aw, σ, F, h, hc⟩
  | region id ops draw =>
    intro Q fr aw σ w F a h hc
    simp only [vc] at h
    cases draw with
    | true =>
      refine wp_mono (h st (fun a w => CQ st Q .normal a w) σ w F a (fun fr aw σ w F a hc hK => ⟨fr, aw, σ, F, hK, hc⟩) hc) (fun e a w hq => ?_)
      cases e <;> first | exact hq | exact hq.elim
    | false =>
      simp only [Bool.false_eq_true, if_false] at h
      exact wp_region_list (ops_ok (fun fr aw σ w F a hc hK => ⟨fr, aw, σ, F, hK, hc⟩) _ fr aw σ w F a hc h)
  | seq x y ihx ihy =>
    intro Q fr aw σ w F a h hc
    refine wp_seq (wp_mono (ihx _ fr aw σ w F a h hc) ?_)
    rintro e a' w' ⟨fr', aw', σ', F', hq, hcur⟩
    cases e with
    | normal => exact ihy Q fr' aw' σ' w' F' a' hq hcur
    | _ => exact ⟨fr', aw', σ', F', hq, hcur⟩
  | cond c x y ihx ihy =>
    intro Q fr aw σ w F a h hc
    simp only [vc] at h
    have hcv := hc.fr.ev c
    split at h
    · rename_i b e
      rw [e] at hcv
      generalize hv : a.eval c = v at hcv
      cases hcv
      cases b with
      | true => exact wp_cond_true hv (ihx Q fr aw σ w F a h hc)
      | false => exact wp_cond_false hv (ihy Q fr aw σ w F a h hc)
    · exact h.elim
  | block id c ih =>
    intro Q fr aw σ w F a h hc
    refine wp_block (wp_mono (ih _ fr aw σ w F a h hc) ?_)
    rintro e a' w' ⟨fr', aw', σ', F', hq, hcur⟩
    cases e with
    | exit id' =>
      simp only [Exit.inBlock, inBlockA] at hq ⊢
      split
      · rename_i he; rw [if_pos he] at hq; exact ⟨fr', aw', σ', F', hq, hcur⟩
      · rename_i he; rw [if_neg he] at hq; exact ⟨fr', aw', σ', F', hq, hcur⟩
    | _ => exact ⟨fr', aw', σ', F', hq, hcur⟩
  | loop c ih =>
    intro Q fr aw σ w F a h hc
    obtain ⟨I, ⟨m, fr', aw', hw, hI⟩, hround⟩ := h
    obtain ⟨σ', hc'⟩ := hc.weak hl hw
    refine wp_loop_ghost (fun m a w => ∃ fr aw σ F, I m fr aw ∧ Cur st fr aw σ w F a) m ⟨fr', aw', σ', F, hI, hc'⟩ ?_
    rintro m a w ⟨fr, aw, σ, F, hI, hc⟩
    refine wp_mono (ih _ fr aw σ w F a (hround m fr aw hI) hc) ?_
    rintro e a' w' ⟨fr1, aw1, σ1, F1, hq, hcur⟩
    cases e with
    | normal =>
      obtain ⟨m', fr', aw', hlt, hw, hI'⟩ := hq
      obtain ⟨σ', hc'⟩ := hcur.weak hl hw
      exact ⟨m', hlt, fr', aw', σ', F1, hI', hc'⟩
    | _ => exact ⟨fr1, aw1, σ1, F1, hq, hcur⟩
  | exit id => exact fun Q fr aw σ w F a h hc => wp_exit ⟨fr, aw, σ, F, h, hc⟩
  | ret => exact fun Q fr aw σ w F a h hc => wp_ret ⟨fr, aw, σ, F, h, hc⟩
  | _ => intros; exact (show False from by assumption).elim

end

end Go.Proofs.Ytegkmfokfakeiaa
