/-
  The operations that only read: 'vcQ' is what the model does. For every program.
-/
import Derived.Test.YtegkmfokfakeiaaOk
namespace Go.Proofs.Ytegkmfokfakeiaa
open Go.RowKit
set_option linter.unusedVariables false
set_option linter.unusedSimpArgs false

section
variable {P : Program} {σ : List Value} {w : World} {F : Nat → Prop} {aw : List Ob} {G : World → Prop}

def NOk (P : Program) (G : World → Prop) (σ : List Value) (w : World) (F : Nat → Prop) (c : Sem Next) (K : AV → Prop) : Prop :=
  ∃ v r, (∀ w', G w' → c.run P w' = .ok (.value v) w') ∧ Rel σ w F r v ∧ K r
theorem QOk.n {c : Sem Value} {K : AV → Prop} (h : QOk P G σ w F c K) : NOk P G σ w F (do let x ← c; pure (Next.value x)) K := by
  obtain ⟨v, r, h1, h2, h3⟩ := h
  exact ⟨v, r, fun w' hw => run_v (h1 w' hw), h2, h3⟩
theorem NOk.mk' {c : Sem Next} {K : AV → Prop} {v : Value} {r : AV} (hK : K r) (hr : Rel σ w F r v) (hrun : ∀ w', c.run P w' = .ok (.value v) w') : NOk P G σ w F c K := ⟨v, r, fun w' _ => hrun w', hr, hK⟩
/-- The same computation, in every world. -/
theorem QOk.of_run {c c' : Sem Value} {K : AV → Prop} (h : QOk P G σ w F c K) (he : ∀ w', c'.run P w' = c.run P w') : QOk P G σ w F c' K := by
  obtain ⟨v, r, h1, h2, h3⟩ := h
  exact ⟨v, r, fun w' hw => (he w').trans (h1 w' hw), h2, h3⟩

theorem run_fieldPlace {ad : Addr} {f : Field} {d : TypeDesc} (hu : P.underlying f.type = some d) (h0 : P.cellsOf f.type ≠ 0) (w : World) : (fieldPlace ad f).run P w = .ok (ad.add f.offset) w := by
  simp [fieldPlace, Sem.run_bind, run_sizeOf' hu, h0]

theorem q_load {fr : List AV} {a : Act} (ha : ARel σ w F fr a) (hs : Sim aw σ w F) {t : TypeId} {x : Operand} {K : AV → Prop} (h : vcQ P fr aw (.load t x) K) : QOk P (Agr aw σ w F) σ w F (Instr.loadAt t (a.eval x)) K := by
  simp only [vcQ] at h
  have hx := ha.ev x
  split at h
  · rename_i id off e
    rw [e] at hx
    split at h
    · rename_i cs ho
      cases hv : a.eval x <;> rw [hv] at hx <;> cases hx
      rename_i g hσ
      obtain ⟨g', vs, ty, e1, hg, hr, h1, hf⟩ := hs.obj id _ _ ho hσ
      injection e1 with e1
      injection e1 with e1
      injection e1 with e1
      subst e1
      have hq : QOk P (Agr aw σ w F) σ w F _ K := loadRow_q (P := P) (aw := aw) (σ := σ) (w := w) (F := F) (ad := ⟨g, 0, none⟩) (u := fun j => vs.toList.getD j undef) (row := cs) (fun j hj => h1 _ (by
          have : j < vs.toList.length := by rw [hr.1]; exact hj
          rw [List.getD_eq_getElem?_getD, List.getElem?_eq_getElem this]
          simp only [Option.getD_some]
          exact Array.mem_def.2 (List.getElem_mem _)))
        (fun w' hw' j hj => by
          have hlt : j < vs.toList.length := by rw [hr.1]; exact hj
          have hb : w'.heap[g]? = w.heap[g]? := hw' g (.inr ⟨id, cs, _, ho, hσ, rfl⟩)
          rw [add_box, cell_of_row w' g j vs ty (0, 0) (hb.trans hg)]
          have : vs[j]? = some (vs.toList[j]) := by simp at hlt ⊢
          rw [this, List.getD_eq_getElem?_getD, List.getElem?_eq_getElem hlt, Option.getD_some])
        (fun j c hc => by
          obtain ⟨v, hv, hrel⟩ := hr.get hc
          rw [List.getD_eq_getElem?_getD, hv]
          exact hrel) h
      rw [add_box] at hq
      exact hq.of_run (fun w' => by simp [Instr.loadAt, Instr.sureAddr, Sem.run_bind])
    · exact h.elim
  · rename_i row off e
    rw [e] at hx
    cases hv : a.eval x <;> rw [hv] at hx <;> cases hx
    rename_i ad u hF hone hcell hrel
    have hq : QOk P (Agr aw σ w F) σ w F _ K := loadRow_q (P := P) (aw := aw) (ad := ad) (u := u) hone (fun w' hw' j hj => by
      rw [hw'.cell (hF (by rintro rfl; simp at hj)) j]; exact hcell j hj) hrel h
    exact hq.of_run (fun w' => by simp [Instr.loadAt, Instr.sureAddr, Sem.run_bind])
  · exact h.elim

theorem q_fieldAddr {fr : List AV} {a : Act} (ha : ARel σ w F fr a) {t : TypeId} {x : Operand} {k : Nat} {K : AV → Prop} (h : vcQ P fr aw (.fieldAddr t x k) K) : QOk P G σ w F (Instr.fieldAt t (a.eval x) k) K := by
  simp only [vcQ] at h
  have hx := ha.ev x
  split at h
  · rename_i fs hu
    split at h
    · rename_i f hf
      obtain ⟨h0, hs, h⟩ := h
      obtain ⟨d, hd⟩ := Option.isSome_iff_exists.1 hs
      split at h
      · rename_i id off e
        rw [e] at hx
        cases hv : a.eval x <;> rw [hv] at hx <;> cases hx
        rename_i g hσ
        refine .mk' h (.ptr id (off + f.offset) g hσ) (fun w' => ?_)
        have e : (⟨g, off, none⟩ : Addr).add f.offset = ⟨g, off + f.offset, none⟩ := by rw [← add_box, add_of_add, add_box]
        simp [Instr.fieldAt, Instr.sureAddr, Sem.run_bind, run_underlying hu, hf, run_fieldPlace hd h0, e]
      · rename_i row off e
        rw [e] at hx
        cases hv : a.eval x <;> rw [hv] at hx <;> cases hx
        rename_i ad u hF hone hcell hrel
        refine .mk' h (.elt row (off + f.offset) ad u hF hone hcell hrel) (fun w' => ?_)
        simp [Instr.fieldAt, Instr.sureAddr, Sem.run_bind, run_underlying hu, hf, run_fieldPlace hd h0, add_of_add]
      · rename_i id size i off e
        rw [e] at hx
        cases hv : a.eval x <;> rw [hv] at hx <;> cases hx
        rename_i g n c hσ
        refine .mk' h (.aptr id size i (off + f.offset) g n c hσ) (fun w' => ?_)
        have e : (⟨g, i * size + off, none⟩ : Addr).add f.offset = ⟨g, i * size + (off + f.offset), none⟩ := by rw [← add_box, add_of_add, add_box, Nat.add_assoc]
        simp [Instr.fieldAt, Instr.sureAddr, Sem.run_bind, run_underlying hu, hf, run_fieldPlace hd h0, e]
      · exact h.elim
    · exact h.elim
  · exact h.elim

theorem q_indexAddr {fr : List AV} {a : Act} (ha : ARel σ w F fr a) (hs : Sim aw σ w F) {t : TypeId} {x i : Operand} {K : AV → Prop} (h : vcQ P fr aw (.indexAddr t x i) K) : QOk P G σ w F (Instr.indexAt t (a.eval x) (a.eval i)) K := by
  simp only [vcQ] at h
  have hx := ha.ev x
  have hi := ha.ev i
  split at h
  · rename_i e rows k n hu ex ei
    rw [ex] at hx
    rw [ei] at hi
    obtain ⟨h0, h1, h⟩ := h
    cases hvi : a.eval i <;> rw [hvi] at hi <;> cases hi
    have hlt : n.toNat < rows.length := by omega
    generalize a.eval x = vx at hx ⊢
    cases hx with
    | slNil => simp at hlt
    | sl _ size ad c u hF hn hm hrow hone hcell hrel =>
      obtain ⟨h2, h3, h⟩ := h rows[n.toNat] (List.getElem?_eq_getElem hlt)
      obtain ⟨d, hd⟩ := Option.isSome_iff_exists.1 h3
      have hsz : size = P.cellsOf e := by rw [← h2]; exact (hrow _ (List.getElem_mem _)).symm
      have hne : rows ≠ [] := by rintro rfl; simp at hlt
      refine .mk' h (v := .pointer (some ((ad.add (n.toNat * size)).add 0))) (.elt rows[n.toNat] 0 (ad.add (n.toNat * size)) (u n.toNat) (fun _ => by rw [block_of_add]; exact hF hne)
        (fun j hj => hone _ _ hlt (by rw [h2] at hj; omega)) (fun j hj => by rw [add_of_add]; exact hcell _ _ hlt (by rw [h2] at hj; omega)) (fun j y hy => hrel _ _ _ _ (List.getElem?_eq_getElem hlt) hy)) (fun w' => ?_)
      have e0 : (ad.add (n.toNat * size)).add 0 = ad.add (n.toNat * size) := by simp [Addr.add]
      rw [e0, hsz]
      simp [Instr.indexAt, asIntOf, Sem.run_bind, run_underlying hu, run_sizeOf' hd, h0, h1]
  · rename_i e id k n hu ex ei
    rw [ex] at hx
    rw [ei] at hi
    split at h
    · rename_i e' size rows ho
      obtain ⟨h2, h3, h0, h1, h⟩ := h
      obtain ⟨d, hd⟩ := Option.isSome_iff_exists.1 h3
      cases hvi : a.eval i <;> rw [hvi] at hi <;> cases hi
      cases hv : a.eval x <;> rw [hv] at hx <;> cases hx
      rename_i ad n' c hσ
      obtain ⟨fl, hown, _, _⟩ := hs.obj id _ _ ho hσ
      rcases hown.2 with ⟨e1, e2⟩ | ⟨g, cap, cur, e1, _⟩
      · omega
      · injection e1 with e1 e2 e3
        subst e1; subst e2; subst e3
        refine .mk' h (.aptr id size n.toNat 0 g _ _ hσ) (fun w' => ?_)
        rw [Nat.add_zero]
        have e4 : (⟨g, 0, none⟩ : Addr).add (n.toNat * size) = ⟨g, n.toNat * size, none⟩ := add_box _ _
        rw [h2] at e4 ⊢
        simp [Instr.indexAt, asIntOf, Sem.run_bind, run_underlying hu, run_sizeOf' hd, h0, h1, e4]
    · exact h.elim
  · rename_i len e id off k n hu ex ei
    rw [ex] at hx
    rw [ei] at hi
    obtain ⟨h3, h0, h1, h2, h⟩ := h
    obtain ⟨d, hd⟩ := Option.isSome_iff_exists.1 h3
    cases hvi : a.eval i <;> rw [hvi] at hi <;> cases hi
    cases hv : a.eval x <;> rw [hv] at hx <;> cases hx
    rename_i g hσ
    refine .mk' h (.ptr id (off + n.toNat * P.cellsOf e) g hσ) (fun w' => ?_)
    have e4 : (⟨g, off, none⟩ : Addr).add (n.toNat * P.cellsOf e) = ⟨g, off + n.toNat * P.cellsOf e, none⟩ := by rw [← add_box, add_of_add, add_box]
    simp [Instr.indexAt, asIntOf, Sem.run_bind, run_underlying hu, run_sizeOf' hd, h0, h1, e4, Instr.sureAddr]
  · exact h.elim

theorem q_index {fr : List AV} {a : Act} (ha : ARel σ w F fr a) {t : TypeId} {x i : Operand} {K : AV → Prop} (h : vcQ P fr aw (.index t x i) K) : QOk P G σ w F (Instr.index t (a.eval x) (a.eval i)) K := by
  simp only [vcQ] at h
  have hx := ha.ev x
  have hi := ha.ev i
  split at h
  · rename_i s k n hu ex ei
    rw [ex] at hx
    rw [ei] at hi
    obtain ⟨h0, h1, h⟩ := h
    have hlt : n.toNat < s.length := by omega
    cases hvi : a.eval i <;> rw [hvi] at hi <;> cases hi
    cases hv : a.eval x <;> rw [hv] at hx <;> cases hx
    refine .mk' (h _ (List.getElem?_eq_getElem hlt)) (.int _ _) (fun w' => ?_)
    have e : (ByteArray.mk s.toArray)[n.toNat]? = some s[n.toNat] := by
      rw [getElem?_pos (ByteArray.mk s.toArray) n.toNat (by rw [run_size0]; exact hlt)]
      rfl
    simp [Instr.index, asIntOf, Sem.run_bind, run_underlying hu, h0, e]
  · exact h.elim

theorem run_bounds {fr : List AV} {a : Act} (ha : ARel σ w F fr a) {lo hi : Option Operand} {b : Bool} {len cap : Nat} {kl kh : IntKind} {l h : Int} (el : (lo.map (ev fr)).getD (.int .i64 0) = .int kl l)
    (eh : (hi.map (ev fr)).getD (.int .i64 len) = .int kh h) (h0 : 0 ≤ l) (h1 : l ≤ h) (h2 : h ≤ len) (h3 : len ≤ cap) (w' : World) :
    (Instr.sliceBounds b len cap (lo.map a.eval) (hi.map a.eval) none).run P w' = .ok (l.toNat, h.toNat, cap) w' := by
  have get : ∀ (z : Operand) (k : IntKind) (n : Int), ev fr z = .int k n → a.eval z = .int k n := by
    intro z k n e
    have hz := ha.ev z
    rw [e] at hz
    generalize a.eval z = vz at hz ⊢
    cases hz
    rfl
  cases hi with
  | none =>
    simp at eh
    obtain ⟨_, rfl⟩ := eh
    cases lo with
    | none =>
      simp at el
      obtain ⟨_, rfl⟩ := el
      simp [Instr.sliceBounds, Sem.run_bind]
    | some z =>
      simp at el
      simp [Instr.sliceBounds, Sem.run_bind, get z _ _ el, run_sliceBound, h0, h1]
  | some y =>
    simp at eh
    have b1 : ∀ code w', (Instr.sliceBound (.int kh h) cap code).run P w' = .ok h.toNat w' := fun code w' => run_sliceBound (P := P) w' kh h cap code (by omega) (by omega)
    cases lo with
    | none =>
      simp at el
      obtain ⟨_, rfl⟩ := el
      simp [Instr.sliceBounds, Sem.run_bind, get y _ _ eh, b1]
    | some z =>
      simp at el
      have b2 : ∀ code w', (Instr.sliceBound (.int kl l) h.toNat code).run P w' = .ok l.toNat w' := fun code w' => run_sliceBound (P := P) w' kl l h.toNat code h0 (by omega)
      simp [Instr.sliceBounds, Sem.run_bind, get y _ _ eh, get z _ _ el, b1, b2]

/-- A piece of a slice. -/
theorem Rel.piece {rows : List (List AV)} {e l h : Nat} {A : Option Addr} {n c : Nat} (hr : Rel σ w F (.sl rows) (.slice A n c)) (hsz : ∀ row, row ∈ rows → row.length = e) (h1 : l ≤ h) (h2 : h ≤ rows.length) :
    n = rows.length ∧ n ≤ c ∧ Rel σ w F (.sl ((rows.take h).drop l)) (.slice (if c = l then A else A.map (·.add (l * e))) (h - l) (c - l)) := by
  cases hr with
  | slNil =>
    have : h = 0 := by simpa using h2
    subst this
    have : l = 0 := by omega
    subst this
    exact ⟨rfl, Nat.le_refl _, by simpa using Rel.slNil⟩
  | sl _ size ad _ u hF hn hm hrow hone hcell hrel =>
    refine ⟨rfl, hn, ?_⟩
    have hlen : ((rows.take h).drop l).length = h - l := by simp; omega
    by_cases hcl : c = l
    · have hz : h - l = 0 := by omega
      have hnil : (rows.take h).drop l = [] := List.eq_nil_of_length_eq_zero (by rw [hlen, hz])
      rw [if_pos hcl, hnil, hz]
      exact .sl [] 0 ad (c - l) u (fun h => absurd rfl h) (Nat.zero_le _) (by omega) (fun _ h => by simp at h) (fun i j hi => by simp at hi) (fun i j hi => by simp at hi) (fun i row j x hi => by simp at hi)
    · rw [if_neg hcl, Option.map_some]
      have hget : ∀ (i : Nat) row, ((rows.take h).drop l)[i]? = some row → rows[l + i]? = some row := fun i row hi => by
        rw [List.getElem?_drop, List.getElem?_take] at hi
        split at hi
        · exact hi
        · simp at hi
      have hh := Rel.sl (σ := σ) (w := w) (F := F) ((rows.take h).drop l) size (ad.add (l * e)) (c - l) (fun i j => u (l + i) j)
        (fun hne => by rw [block_of_add]; exact hF (by rintro rfl; simp at hne)) (by rw [hlen]; omega) (by omega)
        (fun row hr => hrow row (List.mem_of_mem_take (List.mem_of_mem_drop hr)))
        (fun i j hi hj => hone _ _ (by rw [hlen] at hi; omega) hj)
        (fun i j hi hj => by
          rw [hlen] at hi
          have hlt : l < rows.length := by omega
          have : size = e := (hrow _ (List.getElem_mem hlt)).symm.trans (hsz _ (List.getElem_mem hlt))
          subst this
          rw [add_of_add, ← Nat.add_assoc, ← Nat.add_mul]
          exact hcell _ _ (by omega) hj)
        (fun i row j x hi hx => hrel _ _ _ _ (hget i row hi) hx)
      rw [hlen] at hh
      exact hh

theorem q_slice {fr : List AV} {a : Act} (ha : ARel σ w F fr a) {t : TypeId} {x : Operand} {lo hi : Option Operand} {K : AV → Prop} (h : vcQ P fr aw (.slice t x lo hi none) K) :
    QOk P G σ w F (Instr.sliceAt t (a.eval x) (lo.map a.eval) (hi.map a.eval) none) K := by
  simp only [vcQ] at h
  have hx := ha.ev x
  split at h
  · rename_i s hu ex
    rw [ex] at hx
    split at h
    · rename_i kl l kh hh el eh
      obtain ⟨h0, h1, h2, h⟩ := h
      generalize a.eval x = vx at hx ⊢
      cases hx
      refine .mk' h (.str _) (fun w' => ?_)
      have b := fun w' => run_bounds (P := P) ha (b := false) (cap := s.length) el eh h0 h1 h2 (Nat.le_refl _) w'
      have e : (ByteArray.mk s.toArray).extract l.toNat hh.toNat = ByteArray.mk ((s.take hh.toNat).drop l.toNat).toArray := by
        apply ByteArray.ext
        simp [List.extract_eq_take_drop, List.drop_take]
      simp [Instr.sliceAt, Instr.slice, Sem.run_bind, run_underlying hu, run_size0, b, e]
    · exact h.elim
  · rename_i e rows hu ex
    rw [ex] at hx
    split at h
    · rename_i kl l kh hh el eh
      obtain ⟨hsome, hrow, h0, h1, h2, h⟩ := h
      obtain ⟨d, hd⟩ := Option.isSome_iff_exists.1 hsome
      generalize a.eval x = vx at hx ⊢
      have hform : ∃ A n c, vx = .slice A n c := by cases hx <;> exact ⟨_, _, _, rfl⟩
      obtain ⟨A, n, c, rfl⟩ := hform
      obtain ⟨hn, hnc, hr⟩ := hx.piece (l := l.toNat) (h := hh.toNat) hrow (by omega) (by omega)
      subst hn
      refine .mk' h hr (fun w' => ?_)
      have b := fun w' => run_bounds (P := P) ha (b := true) (cap := c) el eh h0 h1 h2 hnc w'
      simp [Instr.sliceAt, Instr.slice, Sem.run_bind, run_underlying hu, b, run_sizeOf' hd]
    · exact h.elim
  · exact h.elim

theorem q_field {fr : List AV} {a : Act} (ha : ARel σ w F fr a) {t : TypeId} {x : Operand} {k : Nat} {K : AV → Prop} (h : vcQ P fr aw (.field t x k) K) : QOk P G σ w F (Instr.field t (a.eval x) k) K := by
  simp only [vcQ] at h
  have hx := ha.ev x
  split at h
  · rename_i fs cs hu ex
    rw [ex] at hx
    split at h
    · rename_i f hf
      generalize a.eval x = vx at hx ⊢
      cases hx with
      | agg _ vs hl h1 hc =>
        exact (partRow_q (P := P) h1 ⟨hl, hc⟩ h).of_run (fun w' => by simp [Instr.field, asAgg, Sem.run_bind, run_underlying hu, hf])
    · exact h.elim
  · exact h.elim

theorem q_unOp {fr : List AV} {a : Act} (ha : ARel σ w F fr a) {op : UnOp} {t : TypeId} {x : Operand} {K : AV → Prop} (h : vcQ P fr aw (.unOp op t x) K) : QOk P G σ w F (Op.unary op (a.eval x)) K := by
  simp only [vcQ] at h
  have hx := ha.ev x
  split at h
  · rename_i b ex
    rw [ex] at hx
    generalize a.eval x = vx at hx ⊢
    cases hx
    exact .mk' h (.bool _) (fun w' => by simp [Op.unary])
  · rename_i k n ex
    rw [ex] at hx
    generalize a.eval x = vx at hx ⊢
    cases hx
    exact .mk' h (.int _ _) (fun w' => by simp [Op.unary, Op.intArith])
  · exact h.elim

theorem q_convert {fr : List AV} {a : Act} (ha : ARel σ w F fr a) {s d : TypeId} {x : Operand} {K : AV → Prop} (h : vcQ P fr aw (.convert s d x) K) : QOk P G σ w F (convert s d (a.eval x)) K := by
  simp only [vcQ] at h
  have hx := ha.ev x
  split at h
  · rename_i ds k k' n hs hd ex
    rw [ex] at hx
    generalize a.eval x = vx at hx ⊢
    cases hx
    exact .mk' h (.int _ _) (fun w' => by simp [convert, Sem.run_bind, run_underlying hs, run_underlying hd, Conv.intToInt])
  · exact h.elim

theorem q_extract {fr : List AV} {a : Act} (ha : ARel σ w F fr a) {x : Operand} {k : Nat} {K : AV → Prop} (h : vcQ P fr aw (.extract x k) K) : QOk P G σ w F (Instr.extract (a.eval x) k) K := by
  simp only [vcQ] at h
  have hx := ha.ev x
  split at h
  · rename_i vs ex
    rw [ex] at hx
    split at h
    · rename_i v hv
      generalize a.eval x = vx at hx ⊢
      cases hx with
      | tup _ us hl hc =>
        obtain ⟨u, hu, hr⟩ := RelL.get ⟨hl, hc⟩ hv
        exact .mk' h hr (fun w' => by simp [Instr.extract, hu])
    · exact h.elim
  · exact h.elim

theorem relL_map {fr : List AV} {a : Act} (ha : ARel σ w F fr a) (xs : List Operand) : RelL σ w F (xs.map (ev fr)) (xs.map a.eval) := by
  induction xs with
  | nil => exact .nil
  | cons x xs ih => exact .cons (ha.ev x) ih

theorem q_makeFunc {fr : List AV} {a : Act} (ha : ARel σ w F fr a) {fn : Fn} {first caps : Array Operand} {K : AV → Prop} (h : vcQ P fr aw (.makeFunc fn first caps) K) :
    QOk P G σ w F (Instr.makeFunc fn (first.map a.eval) (caps.map a.eval)) K := by
  cases fn <;> simp only [vcQ] at h <;> try exact h.elim
  obtain ⟨h0, h⟩ := h
  obtain ⟨first⟩ := first
  obtain ⟨caps⟩ := caps
  simp only at h0
  subst h0
  have hr := relL_map ha caps
  refine .mk' h (.func _ _ (caps.map a.eval) hr.1 hr.2) (fun w' => ?_)
  simp [Instr.makeFunc]

theorem RelL.take {as : List AV} {vs : List Value} (h : RelL σ w F as vs) (n : Nat) : RelL σ w F (as.take n) (vs.take n) := by simpa using h.sub 0 n
theorem RelL.drop {as : List AV} {vs : List Value} (h : RelL σ w F as vs) (n : Nat) : RelL σ w F (as.drop n) (vs.drop n) := by
  refine ⟨by simp [h.1], fun j a v ha hv => ?_⟩
  rw [List.getElem?_drop] at ha hv
  exact h.2 _ a v ha hv
def spliceV (cs : List Value) (off : Nat) (vs : List Value) : List Value := cs.take off ++ vs ++ cs.drop (off + vs.length)
theorem RelL.splice {as bs : List AV} {vs us : List Value} (h : RelL σ w F as vs) (off : Nat) (k : RelL σ w F bs us) : RelL σ w F (splice as off bs) (spliceV vs off us) := by
  unfold Go.Proofs.Ytegkmfokfakeiaa.splice spliceV
  rw [k.1]
  exact ((h.take off).append k).append (h.drop _)
theorem one_splice {vs us : List Value} {off : Nat} (h1 : ∀ u, u ∈ vs → u.oneCell' = true) (h2 : ∀ u, u ∈ us → u.oneCell' = true) : ∀ u, u ∈ spliceV vs off us → u.oneCell' = true := by
  intro u hu
  simp only [spliceV, List.mem_append] at hu
  rcases hu with (hu | hu) | hu
  · exact h1 u (List.mem_of_mem_take hu)
  · exact h2 u hu
  · exact h1 u (List.mem_of_mem_drop hu)

theorem foldl_set (off : Nat) : ∀ (vs : List Value) (k : Nat) (cells : Array Value), off + k + vs.length ≤ cells.size →
    ((vs.zipIdx k).foldl (fun cs p => cs.setIfInBounds (off + p.2) p.1) cells).toList = spliceV cells.toList (off + k) vs
  | [], k, cells, _ => by simp [spliceV]
  | v :: vs, k, cells, h => by
    simp only [List.zipIdx_cons, List.foldl_cons]
    rw [foldl_set off vs (k + 1) _ (by simp at h ⊢; omega)]
    simp only [spliceV, Array.toList_setIfInBounds, List.length_cons]
    apply List.ext_getElem?
    intro j
    simp only [List.length_cons] at h
    rw [List.getElem?_append, List.getElem?_append, List.getElem?_append, List.getElem?_append]
    simp only [List.length_append, List.length_take, List.length_set, List.length_cons, Array.length_toList]
    rcases Nat.lt_trichotomy j (off + k) with hj | hj | hj
    · rw [if_pos (by omega), if_pos (by omega), if_pos (by omega), if_pos (by omega), List.getElem?_take, List.getElem?_take, if_pos (by omega), if_pos (by omega), List.getElem?_set, if_neg (by omega)]
    · rw [if_pos (by omega), if_pos (by omega), if_pos (by omega), if_neg (by omega), List.getElem?_take, if_pos (by omega), List.getElem?_set]
      have hlt : off + k < cells.toList.length := by simp; omega
      simp [hj, hlt, Nat.min_eq_left (show off + k ≤ cells.size by omega)]
      omega
    · by_cases h2 : j < off + k + 1 + vs.length
      · rw [if_pos (by omega), if_neg (by omega), if_pos (by omega), if_neg (by omega)]
        rw [Nat.min_eq_left (show off + (k + 1) ≤ cells.size by omega), Nat.min_eq_left (show off + k ≤ cells.size by omega)]
        have : j - (off + k) = (j - (off + (k + 1))) + 1 := by omega
        rw [this, List.getElem?_cons_succ]
      · rw [if_neg (by omega), if_neg (by omega), List.getElem?_drop, List.getElem?_drop, List.getElem?_set, if_neg (by omega)]
        rw [Nat.min_eq_left (show off + (k + 1) ≤ cells.size by omega), Nat.min_eq_left (show off + k ≤ cells.size by omega)]
        congr 1
        omega

theorem fill_ok {pl place : Nat → Option (Nat × Nat)} (hp : ∀ i x, pl i = some x → place i = some x) : ∀ (ps : List (Nat × AV)) (vs : List (Nat × Value)) (cs cs' : List AV) (cells : Array Value),
    vs.map (·.1) = ps.map (·.1) → RelL σ w F (ps.map (·.2)) (vs.map (·.2)) → RelL σ w F cs cells.toList → (∀ u, u ∈ cells.toList → u.oneCell' = true) → fillAV pl cs ps = some cs' →
    ∃ cells', Instr.fill place cells vs = some cells' ∧ RelL σ w F cs' cells'.toList ∧ (∀ u, u ∈ cells'.toList → u.oneCell' = true)
  | [], vs, cs, cs', cells, he, _, hr, h1, hf => by
    have : vs = [] := by simpa using he
    subst this
    simp only [fillAV, Option.some.injEq] at hf
    subst hf
    exact ⟨cells, rfl, hr, h1⟩
  | (i, x) :: ps, [], _, _, _, he, _, _, _, _ => by simp at he
  | (i, x) :: ps, (i', v) :: vs, cs, cs', cells, he, ha, hr, h1, hf => by
    simp only [List.map_cons, List.cons.injEq] at he
    obtain ⟨rfl, he⟩ := he
    have hx : Rel σ w F x v := ha.2 0 x v rfl rfl
    have ha' : RelL σ w F (ps.map (·.2)) (vs.map (·.2)) := ⟨by simpa using ha.1, fun j a u hj hu => ha.2 (j + 1) a u (by simpa using hj) (by simpa using hu)⟩
    simp only [fillAV] at hf
    split at hf
    · rename_i off size xs hpl hxs
      split at hf
      · rename_i hc
        obtain ⟨hr2, h2⟩ := hx.cells hxs
        have hsz : v.cells.size = size := by have := hr2.1; simp at this; omega
        have hcl : cells.size = cs.length := by simpa using hr.1
        have hset := foldl_set off v.cells.toList 0 cells (by simp; omega)
        rw [Nat.add_zero] at hset
        have e1 : (v.cells.zipIdx.foldl (fun cs p => cs.setIfInBounds (off + p.2) p.1) cells) = (v.cells.toList.zipIdx.foldl (fun cs p => cs.setIfInBounds (off + p.2) p.1) cells) := by
          rw [← Array.foldl_toList, Array.toList_zipIdx]
        obtain ⟨cells', hfill, hrel, hone⟩ := fill_ok hp ps vs (splice cs off xs) cs' (v.cells.zipIdx.foldl (fun cs p => cs.setIfInBounds (off + p.2) p.1) cells) he ha'
          (by rw [e1, hset]; exact hr.splice off hr2) (by rw [e1, hset]; exact one_splice h1 h2) hf
        refine ⟨cells', ?_, hrel, hone⟩
        simp only [Instr.fill, hp _ _ hpl]
        rw [if_neg (by simp [hsz]; omega)]
        exact hfill
      · cases hf
    · cases hf

theorem q_build {fr : List AV} {a : Act} (ha : ARel σ w F fr a) {t : TypeId} {parts : Array (Nat × Operand)} {K : AV → Prop} (h : vcQ P fr aw (.build t parts) K) :
    QOk P G σ w F (Instr.build t (parts.map fun p => (p.1, a.eval p.2))) K := by
  simp only [vcQ] at h
  split at h
  · rename_i z pl hz hpl
    split at h
    · rename_i cs hcs
      obtain ⟨i, v, hi, hiz, hzl, hz1, hzr⟩ := zero_some hz
      have hargs : RelL σ w F ((parts.toList.map fun p => (p.1, ev fr p.2)).map (·.2)) ((parts.toList.map fun p => (p.1, a.eval p.2)).map (·.2)) := by
        have := relL_map ha (parts.toList.map (·.2))
        simpa [List.map_map, Function.comp_def] using this
      have done : ∀ (place : Nat → Option (Nat × Nat)), (∀ i x, pl[i]? = some x → place i = some x) → (∀ cells, Instr.fill place v.cells (parts.toList.map fun p => (p.1, a.eval p.2)) = some cells → P.built t (parts.map fun p => (p.1, a.eval p.2)).toList = some cells) →
          QOk P G σ w F (Instr.build t (parts.map fun p => (p.1, a.eval p.2))) K := by
        intro place hp hb
        obtain ⟨cells, hf, hr, h1⟩ := fill_ok (σ := σ) (w := w) (F := F) (place := place) hp _ (parts.toList.map fun p => (p.1, a.eval p.2)) z cs v.cells (by simp) hargs (hzr σ w F) hz1 hcs
        have hrel := Rel.agg (σ := σ) (w := w) (F := F) cs cells.toList hr.1 h1 hr.2
        rw [Array.toArray_toList] at hrel
        exact .mk' h hrel (fun w' => run_build w' t _ cells (hb cells hf))
      unfold placesOf at hpl
      cases hu : P.underlying t with
      | none => rw [hu] at hpl; simp at hpl
      | some d =>
        rw [hu] at hpl
        cases d <;> try (simp at hpl; done)
        · rename_i n e
          simp only [Option.map_eq_some_iff] at hpl
          obtain ⟨ie, hie, rfl⟩ := hpl
          refine done (fun k => some (k * ie.size, ie.size)) (fun k x hk => ?_) (fun cells hf => ?_)
          · rw [List.getElem?_map] at hk
            cases hr : (List.range n)[k]? with
            | none => rw [hr] at hk; simp at hk
            | some m =>
              obtain ⟨_, rfl⟩ := List.getElem?_eq_some_iff.1 hr
              rw [hr] at hk
              simpa using hk
          · simpa [Program.built, hi, hu, hiz, hie] using hf
        · rename_i fs
          simp only at hpl
          refine done (fun k => pl[k]?) (fun k x hk => hk) (fun cells hf => ?_)
          simpa [Program.built, hi, hu, hiz, hpl] using hf
    · exact h.elim
  · exact h.elim

/-- All of them. -/
theorem vcQ_gen {fr : List AV} {a : Act} (ha : ARel σ w F fr a) (hs : Sim aw σ w F) (o : Oper) {K : AV → Prop} (hG : (∃ t x, o.op = .load t x) → ∀ w', G w' → Agr aw σ w F w') (h : vcQ P fr aw o.op K) : NOk P G σ w F (execOp a.eval o) K := by
  obtain ⟨dst, op, type, pos, after, guard⟩ := o
  simp only at h
  cases op with
  | move x => exact .mk' (show K _ from h) (ha.ev x) (fun w' => by simp [execOp])
  | assign x => exact .mk' (show K _ from h) (ha.ev x) (fun w' => by simp [execOp])
  | pick c x y =>
    simp only [vcQ] at h
    have hc := ha.ev c
    split at h
    · rename_i b ec
      rw [ec] at hc
      have hrun : ∀ w', (execOp a.eval { dst, op := .pick c x y, type, pos, after, guard }).run P w' = .ok (.value (if b then a.eval x else a.eval y)) w' := by
        generalize hvc : a.eval c = vc at hc
        cases hc
        intro w'
        cases b <;> simp [execOp, hvc, asBool, Sem.run_bind]
      refine .mk' h ?_ hrun
      have hx := ha.ev x
      have hy := ha.ev y
      unfold pickV
      split
      · rename_i e1 e2
        rw [e1] at hx
        rw [e2] at hy
        generalize a.eval x = vx at hx ⊢
        generalize a.eval y = vy at hy ⊢
        cases hx; cases hy
        cases b <;> exact .bool _
      · rename_i e1 e2
        rw [e1] at hx
        rw [e2] at hy
        generalize a.eval x = vx at hx ⊢
        generalize a.eval y = vy at hy ⊢
        cases hx; cases hy
        split
        · rename_i hk; subst hk; cases b <;> exact .int _ _
        · cases b <;> exact .int _ _
      · cases b
        · exact hy
        · exact hx
    · exact h.elim
  | load t x => obtain ⟨v, r, h1, h2, h3⟩ := (q_load ha hs h).n; exact ⟨v, r, fun w' hw => h1 w' (hG ⟨t, x, rfl⟩ w' hw), h2, h3⟩
  | fieldAddr t x k => exact (q_fieldAddr ha h).n
  | field t x k => exact (q_field ha h).n
  | indexAddr t x i => exact (q_indexAddr ha hs h).n
  | index t x i => exact (q_index ha h).n
  | slice t x lo hi mx =>
    cases mx with
    | none => exact (q_slice ha h).n
    | some m => exact (show False from h).elim
  | binOp op t x y yt => exact (vcBin_ok (x := x) (y := y) (ha.ev x) (ha.ev y) h).n
  | unOp op t x => exact (q_unOp ha h).n
  | convert s d x => exact (q_convert ha h).n
  | makeFunc fn first caps => exact (q_makeFunc ha h).n
  | build t parts => exact (q_build ha h).n
  | extract x k => exact (q_extract ha h).n
  | nilCheck x =>
    simp only [vcQ] at h
    have hx := ha.ev x
    split at h
    all_goals
      first
      | exact h.elim
      | (rename_i e; rw [e] at hx
         refine .mk' h hx (fun w' => ?_)
         generalize hv : a.eval x = vx at hx
         cases hx
         simp [execOp, hv])
  | call c =>
    obtain ⟨callee, args, ats⟩ := c
    cases callee with
    | builtin b =>
      obtain ⟨v, r, h1, h2, h3⟩ := vcB_ok (ty := type) ha hs h
      exact .mk' h3 h2 (fun w' => by simpa [execOp, resolve, invoke, Sem.run_bind] using h1 _ w')
    | value f => exact (show False from h).elim
    | invoke r m => exact (show False from h).elim
  | _ => exact (show False from h).elim

theorem vcQ_ok {fr : List AV} {a : Act} (ha : ARel σ w F fr a) (hs : Sim aw σ w F) (o : Oper) {K : AV → Prop} (h : vcQ P fr aw o.op K) : NOk P (Agr aw σ w F) σ w F (execOp a.eval o) K := vcQ_gen ha hs o (fun _ _ h => h) h
/-- What reads no memory gives the same in every world. -/
theorem vcQ_all {fr : List AV} {a : Act} (ha : ARel σ w F fr a) (hs : Sim aw σ w F) (o : Oper) {K : AV → Prop} (hn : ∀ t x, o.op ≠ .load t x) (h : vcQ P fr aw o.op K) : NOk P (fun _ => True) σ w F (execOp a.eval o) K :=
  vcQ_gen ha hs o (fun ⟨t, x, e⟩ => absurd e (hn t x)) h

end

end Go.Proofs.Ytegkmfokfakeiaa
