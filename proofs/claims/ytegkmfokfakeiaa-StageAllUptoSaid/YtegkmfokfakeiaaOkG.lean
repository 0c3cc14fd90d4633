/-
  append; and all operations that are no calls of Go functions: 'vcVal_ok'. For every program.
-/
import Derived.Test.YtegkmfokfakeiaaOkF
namespace Go.Proofs.Ytegkmfokfakeiaa
open Go.RowKit
set_option linter.unusedVariables false
set_option linter.unusedSimpArgs false

section
variable {P : Program} {σ : List Value} {w : World} {F : Nat → Prop} {aw : List Ob}

theorem own_form {base : Nat} {e : TypeId} {size n : Nat} {v : Value} {xs : List Value} (h : w.ownsRow base e size v n xs) : ∃ a n c, v = .slice a n c := by
  rcases h.2 with ⟨rfl, _⟩ | ⟨g, cap, cur, rfl, _⟩ <;> exact ⟨_, _, _, rfl⟩

/-- Behind an append: the array that it made, or grew, is the newest object. 'aw0': the objects ahead of it, 'aw': those that are left. -/
theorem app_push {aw0 : List Ob} {w' : World} (h : Sim aw σ w F) (hd : ∀ b, Dof aw σ b → Dof aw0 σ b) {vx v' : Value} {e : TypeId} {size : Nat} {old rows : List (List AV)} {flat news : List Value}
    (hfl : FlatRel σ w F size old flat) (hrow : ∀ row, row ∈ rows → row.length = size) (hr : RelL σ w F rows.flatten news) (h1 : ∀ u, u ∈ news → u.oneCell' = true)
    (hown : w'.ownsRow 0 e size v' (old ++ rows).length (flat ++ news)) (hg : w.grownBy w' vx.ownBlock) (hat : v'.ownBlock = vx.ownBlock ∨ v'.ownBlock = some w.heap.size)
    (hfree : ∀ b, vx.ownBlock = some b → ¬ F b ∧ ¬ Dof aw σ b ∧ Dof aw0 σ b) :
    Sim (aw ++ [.arr e size (old ++ rows)]) (σ ++ [v']) w' F ∧ Mv aw0 σ w F (aw ++ [.arr e size (old ++ rows)]) (σ ++ [v']) w' F ∧ Rel (σ ++ [v']) w' F (.ref aw.length) v' := by
  have hk : ∀ b, (F b ∨ Dof aw σ b) → w'.heap[b]? = w.heap[b]? := fun b hb => hg.block b (hb.elim (h.lt b) h.lt_own) (fun e => by
    obtain ⟨h1, h2, _⟩ := hfree b e.symm
    exact hb.elim h1 h2)
  obtain ⟨a', n', c', hform⟩ := own_form hown
  have hblk : ∀ (e s : Nat) (rows : List (List AV)) b, Bk (.arr e s rows) v' b → v'.ownBlock = some b := fun e s rows b hb => by rw [hform] at hb ⊢; exact hb.slice_inv
  have hnew : ∀ b, v'.ownBlock = some b → ¬ F b ∧ ¬ Dof aw σ b := fun b hb => by
    rcases hat with e | e
    · rw [e] at hb; exact ⟨(hfree b hb).1, (hfree b hb).2.1⟩
    · rw [e] at hb
      injection hb with hb
      subst hb
      exact ⟨fun hf => by have := h.lt _ hf; omega, fun hf => by have := h.lt_own hf; omega⟩
  refine ⟨h.push2 _ _ hk hg.size ⟨flat ++ news, hown, ⟨fun row hm => ?_, fun u hu => ?_, ?_⟩, fun g hgb => (hnew g hgb).1, a', n', c', hform⟩ (fun b hb => (hnew b (hblk _ _ _ b hb)).2), ⟨hg.os, hg.tape, hg.output, hg.size, fun b hb hdb => ?_, fun i v hv => get_pre hv, fun _ h => h, fun _ h => .inl h, fun b hb => ?_⟩, ?_⟩
  · rcases List.mem_append.1 hm with hm | hm
    · exact hfl.1 row hm
    · exact hrow row hm
  · rcases List.mem_append.1 hu with hu | hu
    · exact hfl.2.1 u hu
    · exact h1 u hu
  · rw [List.flatten_append]
    exact (hfl.2.2.append hr).mono (fun _ _ e => get_pre e) (fun _ e => e) (fun b hb => hk b (.inl hb))
  · exact hg.block b hb (fun e => hdb (hfree b e.symm).2.2)
  · obtain ⟨k, o1, v1, ho1, hl, hv1, hb1⟩ := hb
    rcases get_app ho1 with h2 | ⟨rfl, rfl⟩
    · have hlt := (List.getElem?_eq_some_iff.1 h2).1
      rw [List.getElem?_append_left (by rw [h.len]; exact hlt)] at hv1
      exact .inl (hd b ⟨k, o1, v1, h2, hl, hv1, hb1⟩)
    · rw [← h.len] at hv1
      simp at hv1
      subst hv1
      have hb2 := hblk _ _ _ b hb1
      rcases hat with e | e
      · rw [e] at hb2; exact .inl (hfree b hb2).2.2
      · rw [e] at hb2; injection hb2 with hb2; exact .inr (by omega)
  · rw [hform]
    exact .ref _ _ _ _ (by rw [← h.len]; simp)

theorem e_append {fr : List AV} {a : Act} (ha : ARel σ w F fr a) (hs : Sim aw σ w F) {args : Array Operand} {ats : Array TypeId} {K : AV → List Ob → Prop} (h : vcApp P fr aw args.toList ats.toList K) (o : Oper) (ho : o.op = .call { callee := .builtin .append, args, argTypes := ats }) :
    OpOk P aw σ w F (execOp a.eval o) K := by
  obtain ⟨args⟩ := args
  obtain ⟨ats⟩ := ats
  simp only at h
  unfold vcApp at h
  split at h
  · rename_i x y t t'
    obtain ⟨rfl, h⟩ := h
    have hx := ha.ev x
    obtain ⟨F', s1, m1, r1⟩ := norm_ok hs (ha.ev y)
    split at h
    · rename_i e hu
      split at h
      · rename_i z rows aw' hz ex en
        rw [en] at s1 m1 r1
        obtain ⟨hzl, h0, hrow, hlen, hby, h⟩ := h
        rw [ex] at hx
        generalize hvx : a.eval x = vx at hx
        cases hx
        obtain ⟨v', w', news, hrun, hown, hg, hat, hr, h1⟩ := app_core (ty := o.type) (old := []) (flat := []) hu hz hzl h0 hby (World.ownsRow_nil w 0 e (P.cellsOf e)) r1 hrow (by simpa using hlen)
        obtain ⟨s2, m2, r2⟩ := app_push (aw0 := aw') (vx := .slice none 0 0) (old := []) (flat := []) s1 (fun _ h => h) ⟨fun _ h => by simp at h, fun _ h => by simp at h, .nil⟩ hrow hr h1 hown hg hat (fun b hb => by simp [Value.ownBlock] at hb)
        refine ⟨v', _, w', _, _, F', _, ?_, .inl rfl, s2, m1.trans m2, r2, h⟩
        simp [execOp, ho, resolve, invoke, builtin, Sem.run_bind, hvx, hrun]
      · rename_i z id rows aw' hz ex en
        rw [en] at s1 m1 r1
        split at h
        · rename_i e' size old hob
          obtain ⟨rfl, rfl, hzl, h0, hrow, hlen, hby, h⟩ := h
          rw [ex] at hx
          generalize hvx : a.eval x = vx at hx
          cases hx with
          | ref _ A n c hσ =>
            obtain ⟨flat, hown0, hfl, hf, _⟩ := s1.obj id _ _ hob hσ
            obtain ⟨v', w', news, hrun, hown, hg, hat, hr, h1⟩ := app_core (ty := o.type) hu hz hzl h0 hby hown0 r1 hrow hlen
            have s3 := s1.lose id
            have hfree : ∀ b, (Value.slice A n c).ownBlock = some b → ¬ F' b ∧ ¬ Dof (aw'.set id .dead) σ b ∧ Dof aw' σ b := by
              intro b hb
              refine ⟨hf b hb, fun hd => ?_, ⟨id, _, _, hob, rfl, hσ, (Bk.slice hb)⟩⟩
              obtain ⟨k, o1, v1, ho1, hl, hv1, hb1⟩ := hd
              rcases get_set ho1 with ⟨rfl, rfl, _⟩ | ⟨hne, h2⟩
              · simp [Ob.live] at hl
              · exact s1.sep k id o1 _ v1 _ b hne h2 hob hl rfl hv1 hσ hb1 ((Bk.slice hb))
            obtain ⟨s2, m2, r2⟩ := app_push (aw0 := aw') (vx := .slice A n c) s3 (fun _ h => h.set_dead) hfl hrow hr h1 hown hg hat hfree
            refine ⟨v', _, w', _, _, F', _, ?_, .inl rfl, s2, m1.trans m2, by rw [List.length_set] at r2; exact r2, h⟩
            simp [execOp, ho, resolve, invoke, builtin, Sem.run_bind, hvx, hrun]
        · exact h.elim
      · exact h.elim
    · exact h.elim
  · exact h.elim

theorem vcE_ok {fr : List AV} {a : Act} (ha : ARel σ w F fr a) (hs : Sim aw σ w F) (o : Oper) {K : AV → List Ob → Prop} (h : vcE P fr aw o.op K) : OpOk P aw σ w F (execOp a.eval o) K := by
  cases ho : o.op with
  | alloc e => rw [ho] at h; exact e_alloc hs h o ho
  | box e x => rw [ho] at h; exact e_box ha hs h o ho
  | load t x => rw [ho] at h; exact e_load ha hs h o ho
  | store t x y => rw [ho] at h; exact e_store ha hs h o ho
  | slice t x lo hi mx => rw [ho] at h; exact e_slice ha hs h o ho
  | convert s d x => rw [ho] at h; exact e_convert ha hs h o ho
  | buildSlice t len parts => rw [ho] at h; exact e_buildSlice ha hs h o ho
  | makeSlice t l c => rw [ho] at h; exact e_makeSlice ha hs h o ho
  | call c =>
    rw [ho] at h
    obtain ⟨callee, args, ats⟩ := c
    simp only [vcE] at h
    split at h
    · exact e_append ha hs h o ho
    · exact h.elim
  | _ => rw [ho] at h; exact (show False from h).elim

theorem vcVal_ok {fr : List AV} {a : Act} (ha : ARel σ w F fr a) (hs : Sim aw σ w F) (o : Oper) {K : AV → List Ob → Prop} (h : vcVal P fr aw o.op K) : OpOk P aw σ w F (execOp a.eval o) K := by
  unfold vcVal at h
  split at h
  · obtain ⟨v, r, h1, h2, h3⟩ := vcQ_ok ha hs o h
    exact ⟨v, _, w, aw, σ, F, r, h1 w (fun _ _ => rfl), .inl rfl, hs, .refl .., h2, h3⟩
  · exact vcE_ok ha hs o h

end

end Go.Proofs.Ytegkmfokfakeiaa
