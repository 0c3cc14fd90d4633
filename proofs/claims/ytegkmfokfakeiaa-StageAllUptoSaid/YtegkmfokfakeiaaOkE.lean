/-
  The operations that make or write memory: 'vcE' is what the model does. For every program.
-/
import Derived.Test.YtegkmfokfakeiaaOkQ
import Derived.Laws.BytesArg
namespace Go.Proofs.Ytegkmfokfakeiaa
open Go.RowKit
set_option linter.unusedVariables false
set_option linter.unusedSimpArgs false

section
variable {P : Program} {σ : List Value} {w : World} {F : Nat → Prop} {aw : List Ob}

/-- A new box. -/
theorem push_box (hs : Sim aw σ w F) (cs : List AV) (vs : Array Value) (ty : TypeId) (hr : RelL σ w F cs vs.toList) (h1 : ∀ u, u ∈ vs.toList → u.oneCell' = true) :
    Sim (aw ++ [.box cs]) (σ ++ [.pointer (some ⟨w.heap.size, 0, none⟩)]) (w.alloc (.cells vs ty)) F ∧
    Mv aw σ w F (aw ++ [.box cs]) (σ ++ [.pointer (some ⟨w.heap.size, 0, none⟩)]) (w.alloc (.cells vs ty)) F ∧
    Rel (σ ++ [.pointer (some ⟨w.heap.size, 0, none⟩)]) (w.alloc (.cells vs ty)) F (.ptr aw.length 0) (.pointer (some ⟨w.heap.size, 0, none⟩)) := by
  have hk : ∀ b, b < w.heap.size → (w.alloc (.cells vs ty)).heap[b]? = w.heap[b]? := fun b hb => Below.heap_alloc w _ b hb
  have hn : ∀ b, Bk (.box cs) (.pointer (some ⟨w.heap.size, 0, none⟩)) b → w.heap.size ≤ b := fun b hb => by simp [Bk, blk] at hb; omega
  refine ⟨hs.push _ _ hk (by simp) ?_ hn, .push hs _ _ rfl rfl rfl hk (by simp) hn, .ptr _ _ _ (by rw [← hs.len]; simp)⟩
  refine ⟨w.heap.size, vs, ty, rfl, heap_alloc_new w _, hr.mono (fun _ _ e => get_pre e) (fun _ h => h) (fun b hb => hk b (hs.lt b hb)), fun u hu => h1 u (Array.mem_def.1 hu), fun hF => ?_⟩
  have := hs.lt _ hF; omega

theorem e_alloc {fr : List AV} {a : Act} {e : TypeId} (hs : Sim aw σ w F) {K : AV → List Ob → Prop} (h : vcE P fr aw (.alloc e) K) (o : Oper) (ho : o.op = .alloc e) : OpOk P aw σ w F (execOp a.eval o) K := by
  simp only [vcE] at h
  split at h
  · rename_i z hz
    obtain ⟨i, v, hi, hiz, hzl, hz1, hzr⟩ := zero_some hz
    obtain ⟨s1, m1, r1⟩ := push_box hs z v.cells e (hzr σ w F) hz1
    refine ⟨_, _, _, _, _, _, _, ?_, .inl rfl, s1, m1, r1, h⟩
    simp [execOp, ho, Instr.alloc, Sem.run_bind, run_zeroValue' hi hiz, newVar, newRow]
  · exact h.elim

theorem e_box {fr : List AV} {a : Act} (ha : ARel σ w F fr a) {e : TypeId} {x : Operand} (hs : Sim aw σ w F) {K : AV → List Ob → Prop} (h : vcE P fr aw (.box e x) K) (o : Oper) (ho : o.op = .box e x) : OpOk P aw σ w F (execOp a.eval o) K := by
  simp only [vcE] at h
  split at h
  · rename_i cs hc
    obtain ⟨hr, h1⟩ := (ha.ev x).cells hc
    obtain ⟨s1, m1, r1⟩ := push_box hs cs (a.eval x).cells e hr h1
    refine ⟨_, _, _, _, _, _, _, ?_, .inl rfl, s1, m1, r1, h⟩
    simp [execOp, ho, Instr.box, Sem.run_bind, newVar, newRow]
  · exact h.elim

/-- The cells of an array of the call's own. -/
theorem arr_form {id : Nat} {e : TypeId} {size : Nat} {rows : List (List AV)} (hs : Sim aw σ w F) (ho : aw[id]? = some (.arr e size rows)) {A : Option Addr} {n c : Nat} (hσ : σ[id]? = some (.slice A n c)) :
    n = rows.length ∧ ∃ flat, w.ownsRow 0 e size (.slice A n c) n flat ∧ FlatRel σ w F size rows flat ∧ (rows = [] ∨ ∃ g cur, A = some ⟨g, 0, none⟩ ∧ ¬ F g ∧ w.heap[g]? = some (.cells cur e (0, 0)) ∧ n ≤ c ∧ c ≤ maxLen ∧ cur.size = c * size ∧ cur.toList.take (n * size) = flat) := by
  obtain ⟨fl, hown, hfl, hf, _⟩ := hs.obj id _ _ ho hσ
  have hn : n = rows.length := by
    rcases hown.2 with ⟨e1, e2⟩ | ⟨g, cap, cur, e1, _⟩
    · injection e1 with e3 e4; omega
    · injection e1 with e3 e4
  subst hn
  refine ⟨rfl, fl, hown, hfl, ?_⟩
  rcases hown.2 with ⟨e1, e2⟩ | ⟨g, cap, cur, e1, _, hg, h1, h2, h3, h4⟩
  · exact .inl (List.eq_nil_of_length_eq_zero e2)
  · injection e1 with e3 e4 e5
    subst e3; subst e5
    exact .inr ⟨g, cur, rfl, hf g rfl, hg, h1, h2, h3, h4⟩

theorem flatten_get {size : Nat} : ∀ {rows : List (List AV)}, (∀ row, row ∈ rows → row.length = size) → ∀ (i j : Nat) row, rows[i]? = some row → j < size → rows.flatten[i * size + j]? = row[j]?
  | [], _, i, j, row, h, _ => by simp at h
  | r :: rows, hl, 0, j, row, h, hj => by
    simp at h
    subst h
    have := hl r (by simp)
    simp only [List.flatten_cons, Nat.zero_mul, Nat.zero_add]
    rw [List.getElem?_append_left (by omega)]
  | r :: rows, hl, i + 1, j, row, h, hj => by
    have hr := hl r (by simp)
    simp only [List.flatten_cons]
    rw [List.getElem?_append_right (by rw [hr, Nat.add_mul]; omega), hr]
    have : (i + 1) * size + j - size = i * size + j := by rw [Nat.add_mul]; omega
    rw [this]
    exact flatten_get (fun row h => hl row (by simp [h])) i j row (by simpa using h) hj

/-- A row of an array, as the memory holds it. -/
theorem arr_row {size : Nat} {rows : List (List AV)} {flat : List Value} (hfl : FlatRel σ w F size rows flat) {i : Nat} {row : List AV} (hi : rows[i]? = some row) :
    row.length = size ∧ ∀ (j : Nat) x, row[j]? = some x → ∃ u, flat[i * size + j]? = some u ∧ Rel σ w F x u ∧ u.oneCell' = true := by
  have hl : row.length = size := hfl.1 row (List.mem_of_getElem? hi)
  refine ⟨hl, fun j x hx => ?_⟩
  have hj : j < size := by rw [← hl]; exact (List.getElem?_eq_some_iff.1 hx).1
  have hf := flatten_get hfl.1 i j row hi hj
  rw [hx] at hf
  obtain ⟨u, hu, hr⟩ := hfl.2.2.get hf
  exact ⟨u, hu, hr, hfl.2.1 u (List.mem_of_getElem? hu)⟩

theorem e_load' {fr : List AV} {a : Act} (ha : ARel σ w F fr a) {t : TypeId} {x : Operand} (hs : Sim aw σ w F) {K : AV → List Ob → Prop} (h : vcE P fr aw (.load t x) K) (o : Oper) (ho : o.op = .load t x) : ∃ v r, (execOp a.eval o).run P w = .ok (.value v) w ∧ Rel σ w F r v ∧ K r aw := by
  simp only [vcE] at h
  have hx := ha.ev x
  split at h
  · rename_i id size i off ex
    rw [ex] at hx
    split at h
    · rename_i e size' rows hob
      obtain ⟨rfl, hi, h⟩ := h
      have h := h _ (List.getElem?_eq_getElem hi)
      generalize hv : a.eval x = vx at hx
      cases hx with
      | aptr _ _ _ _ g n c hσ =>
        obtain ⟨hn, flat, hown, hfl, hc⟩ := arr_form hs hob hσ
        rcases hc with hc | ⟨g', cur, e1, hF, hg, h1, h2, h3, h4⟩
        · subst hc; simp at hi
        · injection e1 with e1
          injection e1 with e1
          subst e1
          obtain ⟨hl, hrow⟩ := arr_row hfl (List.getElem?_eq_getElem hi)
          have hu : ∀ j : Nat, j < (rows[i]).length → ∃ u, flat[i * size' + j]? = some u ∧ Rel σ w F (rows[i][j]?.getD .any) u ∧ u.oneCell' = true := fun j hj => by
            obtain ⟨u, a1, a2, a3⟩ := hrow j _ (List.getElem?_eq_getElem hj)
            exact ⟨u, a1, by rw [List.getElem?_eq_getElem hj]; exact a2, a3⟩
          have hq := loadRow_q (P := P) (aw := []) (σ := []) (w := w) (F := fun b => b = g) (σ' := σ) (F' := F) (w0 := w) (ad := (⟨g, 0, none⟩ : Addr).add (i * size')) (u := fun j => flat.getD (i * size' + j) undef) (row := rows[i])
            (fun j hj => by obtain ⟨u, a1, _, a3⟩ := hu j hj; rw [List.getD_eq_getElem?_getD, a1]; exact a3)
            (fun w' hw' j hj => by
              obtain ⟨u, a1, _, _⟩ := hu j hj
              rw [add_of_add, add_box, cell_of_row w' g _ cur e (0, 0) ((hw' g (.inl rfl)).trans hg), List.getD_eq_getElem?_getD, a1]
              rw [← h4, List.getElem?_take] at a1
              split at a1
              · simpa using a1
              · cases a1)
            (fun j x hx => by obtain ⟨u, a1, a2, _⟩ := hrow j x hx; rw [List.getD_eq_getElem?_getD, a1]; exact a2) h
          obtain ⟨v, r, hrun, hr, hK⟩ := hq
          refine ⟨v, r, ?_, hr, hK⟩
          have := hrun w (fun b _ => rfl)
          rw [add_of_add, add_box] at this
          simp [execOp, ho, hv, Instr.loadAt, Instr.sureAddr, Sem.run_bind, this]
    · exact h.elim
  · exact h.elim

theorem e_load {fr : List AV} {a : Act} (ha : ARel σ w F fr a) {t : TypeId} {x : Operand} (hs : Sim aw σ w F) {K : AV → List Ob → Prop} (h : vcE P fr aw (.load t x) K) (o : Oper) (ho : o.op = .load t x) : OpOk P aw σ w F (execOp a.eval o) K := by
  obtain ⟨v, r, h1, h2, h3⟩ := e_load' ha hs h o ho
  exact ⟨v, _, w, aw, σ, F, r, h1, .inl rfl, hs, .refl .., h2, h3⟩

theorem splice_left {α : Type} (a b vs : List α) (off : Nat) (h : off + vs.length ≤ a.length) : (a ++ b).take off ++ vs ++ (a ++ b).drop (off + vs.length) = (a.take off ++ vs ++ a.drop (off + vs.length)) ++ b := by
  rw [List.take_append_of_le_length (by omega), List.drop_append_of_le_length h]; simp
theorem splice_right {α : Type} (a b vs : List α) (off : Nat) : (a ++ b).take (a.length + off) ++ vs ++ (a ++ b).drop (a.length + off + vs.length) = a ++ (b.take off ++ vs ++ b.drop (off + vs.length)) := by
  rw [List.take_length_add_append, Nat.add_assoc, List.drop_length_add_append]; simp
theorem flatten_splice {size : Nat} {vs : List AV} {off : Nat} (h : off + vs.length ≤ size) : ∀ {rows : List (List AV)}, (∀ row, row ∈ rows → row.length = size) → ∀ (i : Nat) row, rows[i]? = some row →
    (rows.set i (splice row off vs)).flatten = splice rows.flatten (i * size + off) vs
  | [], _, i, row, hi => by simp at hi
  | r :: rows, hl, 0, row, hi => by
    simp at hi
    subst hi
    have := hl r (by simp)
    simp only [List.set_cons_zero, List.flatten_cons, splice, Nat.zero_mul, Nat.zero_add]
    exact (splice_left r rows.flatten vs off (by omega)).symm
  | r :: rows, hl, i + 1, row, hi => by
    have hr := hl r (by simp)
    have ih := flatten_splice h (fun row h => hl row (by simp [h])) i row (by simpa using hi) (rows := rows)
    simp only [List.set_cons_succ, List.flatten_cons, ih]
    have e : (i + 1) * size + off = r.length + (i * size + off) := by rw [hr, Nat.add_mul]; omega
    rw [e]
    exact (splice_right r rows.flatten vs (i * size + off)).symm
theorem take_spliceV (cur us : List Value) (k m : Nat) (h : k + us.length ≤ m) (hm : m ≤ cur.length) : (spliceV cur k us).take m = spliceV (cur.take m) k us := by
  unfold spliceV
  have h1 : cur = cur.take m ++ cur.drop m := (List.take_append_drop m cur).symm
  have h2 := splice_left (cur.take m) (cur.drop m) us k (by simp; omega)
  rw [← h1] at h2
  rw [h2, List.take_append_of_le_length (by simp; omega)]
  exact List.take_of_length_le (by simp; omega)
theorem length_spliceV (cur us : List Value) (k : Nat) (h : k + us.length ≤ cur.length) : (spliceV cur k us).length = cur.length := by
  unfold spliceV; simp; omega

theorem e_store {fr : List AV} {a : Act} (ha : ARel σ w F fr a) {t : TypeId} {x y : Operand} (hs : Sim aw σ w F) {K : AV → List Ob → Prop} (h : vcE P fr aw (.store t x y) K) (o : Oper) (ho : o.op = .store t x y) : OpOk P aw σ w F (execOp a.eval o) K := by
  simp only [vcE] at h
  have hx := ha.ev x
  split at h
  · rename_i id off vs ex hvs
    rw [ex] at hx
    split at h
    · rename_i cs hob
      obtain ⟨hsome, hlen, hfit, h⟩ := h
      obtain ⟨d, hd⟩ := Option.isSome_iff_exists.1 hsome
      obtain ⟨hr, h1⟩ := (ha.ev y).cells hvs
      generalize hv : a.eval x = vx at hx
      cases hx with
      | ptr _ _ g hσ =>
        obtain ⟨g', cur, ty, e1, hg, hcr, hc1, hF⟩ := hs.obj id _ _ hob hσ
        injection e1 with e1
        injection e1 with e1
        injection e1 with e1
        subst e1
        have hcl : cur.size = cs.length := by simpa using hcr.1
        have hul : (a.eval y).cells.toList.length = vs.length := hr.1
        have hst := run_storeCells_at P g off ty (a.eval y).cells.toList 0 cur w hg (by rw [hul]; omega) h1
        have hk : ∀ b, b ≠ g → (w.setRow g (spliceV cur.toList off (a.eval y).cells.toList).toArray).heap[b]? = w.heap[b]? := fun b hb => setRow_other w g b _ hb
        have hself : Sim (aw.set id (.box (splice cs off vs))) σ (w.setRow g (spliceV cur.toList off (a.eval y).cells.toList).toArray) F := by
          refine hs.write (b0 := g) id hob rfl hσ rfl hk (by simp) (.box (splice cs off vs)) ⟨g, _, ty, rfl, setRow_heap w g cur _ ty (0, 0) hg, ?_, ?_, hF⟩ (fun _ h => h)
          · have := (hcr.splice off hr).mono (σ' := σ) (w' := w.setRow g (spliceV cur.toList off (a.eval y).cells.toList).toArray) (F' := F) (fun _ _ e => e) (fun _ e => e) (fun b hb => hk b (fun e => hF (e ▸ hb)))
            simpa using this
          · intro u hu
            exact one_splice (fun u hu => hc1 u (Array.mem_def.2 hu)) h1 u (by simpa using hu)
        refine ⟨undef, _, _, _, σ, F, .any, ?_, .inr ⟨rfl, rfl⟩, hself, Mv.write (w := w) (F := F) (w' := w.setRow g _) (b0 := g) id hob rfl hσ rfl rfl rfl rfl hk (by simp) (.box (splice cs off vs)) (fun _ h => h), .any _, h⟩
        have hsz : (a.eval y).cells.size = P.cellsOf t := by simp at hul; omega
        simp only [Nat.add_zero] at hst
        simp [execOp, ho, hv, Instr.storeAt, Instr.sureAddr, storeVar, Sem.run_bind, run_sizeOf' hd, hsz, hst, spliceV]
    · exact h.elim
  · rename_i id size i off vs ex hvs
    rw [ex] at hx
    split at h
    · rename_i e size' rows hob
      obtain ⟨hsome, rfl, hlen, hi, hfit, h⟩ := h
      have h := h _ (List.getElem?_eq_getElem hi)
      obtain ⟨d, hd⟩ := Option.isSome_iff_exists.1 hsome
      obtain ⟨hr, h1⟩ := (ha.ev y).cells hvs
      generalize hv : a.eval x = vx at hx
      cases hx with
      | aptr _ _ _ _ g n c hσ =>
        obtain ⟨hn, flat, hown, hfl, hc⟩ := arr_form hs hob hσ
        rcases hc with hc | ⟨g', cur, e1, hF, hg, hnc, h2, h3, h4⟩
        · subst hc; simp at hi
        · injection e1 with e1
          injection e1 with e1
          subst e1
          have hul : (a.eval y).cells.toList.length = vs.length := hr.1
          have hin : i * size' + off + vs.length ≤ n * size' := by
            have : (i + 1) * size' ≤ n * size' := Nat.mul_le_mul_right _ (by omega)
            rw [Nat.add_mul] at this; omega
          have hcap : n * size' ≤ cur.size := by rw [h3]; exact Nat.mul_le_mul_right _ hnc
          have hst := run_storeCells_at P g (i * size' + off) e (a.eval y).cells.toList 0 cur w hg (by rw [hul]; omega) h1
          have hk : ∀ b, b ≠ g → (w.setRow g (spliceV cur.toList (i * size' + off) (a.eval y).cells.toList).toArray).heap[b]? = w.heap[b]? := fun b hb => setRow_other w g b _ hb
          have hflat : flat.length = n * size' := hown.1
          have hself : Sim (aw.set id (.arr e size' (rows.set i (splice rows[i] off vs)))) σ (w.setRow g (spliceV cur.toList (i * size' + off) (a.eval y).cells.toList).toArray) F := by
            refine hs.write (b0 := g) id hob rfl hσ rfl hk (by simp) (.arr e size' (rows.set i (splice rows[i] off vs))) ⟨spliceV flat (i * size' + off) (a.eval y).cells.toList, ⟨?_, .inr ⟨g, c, (spliceV cur.toList (i * size' + off) (a.eval y).cells.toList).toArray, ?_, Nat.zero_le _, setRow_heap w g cur _ e (0, 0) hg, ?_, h2, ?_, ?_⟩⟩, ⟨?_, ?_, ?_⟩, ?_, _, _, _, rfl⟩ (fun _ h => h)
            · rw [length_spliceV _ _ _ (by rw [hul]; omega), hflat, List.length_set, hn]
            · rw [List.length_set, hn]
            · rw [List.length_set]; omega
            · simp only [List.size_toArray]
              rw [length_spliceV _ _ _ (by rw [hul]; simp; omega)]; simpa using h3
            · simp only [List.toList_toArray, List.length_set]
              rw [← hn, take_spliceV _ _ _ _ (by rw [hul]; omega) (by simpa using hcap), h4]
            · intro row hrow
              rcases List.mem_or_eq_of_mem_set hrow with hm | rfl
              · exact hfl.1 row hm
              · have := hfl.1 rows[i] (List.getElem_mem hi)
                unfold splice; simp; omega
            · exact one_splice hfl.2.1 h1
            · rw [flatten_splice hfit hfl.1 i rows[i] (List.getElem?_eq_getElem hi)]
              exact (hfl.2.2.splice _ hr).mono (fun _ _ e => e) (fun _ e => e) (fun b hb => hk b (fun e => hF (e ▸ hb)))
            · intro g' hg'
              simp [Value.ownBlock] at hg'
              subst hg'
              exact hF
          refine ⟨undef, _, _, _, σ, F, .any, ?_, .inr ⟨rfl, rfl⟩, hself, Mv.write (w := w) (F := F) (w' := w.setRow g _) (b0 := g) id hob rfl hσ rfl rfl rfl rfl hk (by simp) (.arr e size' (rows.set i (splice rows[i] off vs))) (fun _ h => h), .any _, h⟩
          have hsz : (a.eval y).cells.size = P.cellsOf t := by simp at hul; omega
          simp only [Nat.add_zero] at hst
          simp [execOp, ho, hv, Instr.storeAt, Instr.sureAddr, storeVar, Sem.run_bind, run_sizeOf' hd, hsz, hst, spliceV]
    · exact h.elim
  · exact h.elim

/-- An array of the call's own, read as data. -/
theorem arr_sl {F' : Nat → Prop} (hFF : ∀ b, F b → F' b) {id : Nat} {e : TypeId} {size : Nat} {rows : List (List AV)} (hs : Sim aw σ w F) (ho : aw[id]? = some (.arr e size rows)) {A : Option Addr} {n c : Nat} (hσ : σ[id]? = some (.slice A n c))
    (hF : ∀ b, blk (.slice A n c) = some b → F' b) : Rel σ w F' (.sl rows) (.slice A n c) := by
  obtain ⟨hn, flat, hown, hfl, hc⟩ := arr_form hs ho hσ
  by_cases hne : rows = []
  · subst hne
    simp at hn
    subst hn
    rcases hown.2 with ⟨e1, _⟩ | ⟨g, cap, cur, e1, _, _, _, h2, _⟩
    · rw [e1]; exact .slNil
    · injection e1 with e3 e4 e5
      subst e3; subst e5
      exact .sl [] 0 ⟨g, 0, none⟩ c (fun _ _ => undef) (fun h => absurd rfl h) (Nat.zero_le _) h2 (fun _ h => by simp at h) (fun i j hi => by simp at hi) (fun i j hi => by simp at hi) (fun i row j x hi => by simp at hi)
  · rcases hc with hc | ⟨g, cur, rfl, _, hg, h1, h2, h3, h4⟩
    · exact absurd hc hne
    · subst hn
      have key : ∀ i j : Nat, i < rows.length → j < size → ∃ x u, (rows[i]?.bind (·[j]?)) = some x ∧ flat[i * size + j]? = some u ∧ Rel σ w F x u ∧ u.oneCell' = true := fun i j hi hj => by
        obtain ⟨hl, hrow⟩ := arr_row hfl (List.getElem?_eq_getElem hi)
        obtain ⟨u, a1, a2, a3⟩ := hrow j _ (List.getElem?_eq_getElem (by omega))
        exact ⟨_, u, by rw [List.getElem?_eq_getElem hi]; exact List.getElem?_eq_getElem (by omega), a1, a2, a3⟩
      refine .sl rows size ⟨g, 0, none⟩ c (fun i j => flat.getD (i * size + j) undef) (fun _ => hF g rfl) h1 h2 hfl.1 (fun i j hi hj => ?_) (fun i j hi hj => ?_) (fun i row j x hi hx => ?_)
      · obtain ⟨x, u, _, a1, _, a3⟩ := key i j hi hj
        rw [List.getD_eq_getElem?_getD, a1]; exact a3
      · obtain ⟨x, u, _, a1, _, _⟩ := key i j hi hj
        rw [add_box, cell_of_row w g _ cur e (0, 0) hg, List.getD_eq_getElem?_getD, a1]
        rw [← h4, List.getElem?_take] at a1
        split at a1
        · simpa using a1
        · cases a1
      · obtain ⟨hl, hrow⟩ := arr_row hfl hi
        obtain ⟨u, a1, a2, _⟩ := hrow j x hx
        rw [List.getD_eq_getElem?_getD, a1]
        exact a2.mono (fun _ _ e => e) hFF (fun _ _ => rfl)

theorem norm0_ok (hs : Sim aw σ w F) {x : AV} {v : Value} (hr : Rel σ w F x v) : ∃ F', Sim (norm0 aw x).2 σ w F' ∧ Mv aw σ w F (norm0 aw x).2 σ w F' ∧ Rel σ w F' (norm0 aw x).1 v := by
  have same : ∀ {r : AV}, Rel σ w F r v → norm0 aw x = (r, aw) → ∃ F', Sim (norm0 aw x).2 σ w F' ∧ Mv aw σ w F (norm0 aw x).2 σ w F' ∧ Rel σ w F' (norm0 aw x).1 v := by
    intro r h1 h2
    rw [h2]
    exact ⟨F, hs, .refl .., h1⟩
  cases hr with
  | nils => exact same .slNil rfl
  | ref id A n c h =>
    cases ho : aw[id]? with
    | none => exact same (.any _) (by simp [norm0, ho])
    | some o =>
      cases o with
      | dead => exact same (.any _) (by simp [norm0, ho])
      | box cs => exact same (.any _) (by simp [norm0, ho])
      | mp ks vs => exact same (.any _) (by simp [norm0, ho])
      | arr2 e e2 s cs => exact same (.any _) (by simp [norm0, ho])
      | arrU e s rows x => exact same (.any _) (by simp [norm0, ho])
      | arr e size rows =>
        have e1 : norm0 aw (.ref id) = (.sl rows, aw.set id .dead) := by simp [norm0, ho]
        rw [e1]
        exact ⟨_, hs.drop id ho rfl h, .drop id ho rfl h, arr_sl (fun _ h => .inl h) hs ho h (fun b hb => .inr hb)⟩
  | any v => exact same (.any _) rfl
  | int k n => exact same (.int k n) rfl
  | bool b => exact same (.bool b) rfl
  | str s => exact same (.str s) rfl
  | agg cs vs h h1 hc => exact same (.agg cs vs h h1 hc) rfl
  | tup cs vs h hc => exact same (.tup cs vs h hc) rfl
  | slNil => exact same .slNil rfl
  | sl rows size ad c u h1 h2 h3 h4 h5 h6 h7 => exact same (.sl rows size ad c u h1 h2 h3 h4 h5 h6 h7) rfl
  | ptr id off g h => exact same (.ptr id off g h) rfl
  | elt row off ad u h1 h2 h3 h4 => exact same (.elt row off ad u h1 h2 h3 h4) rfl
  | aptr id size i off g n c h => exact same (.aptr id size i off g n c h) rfl
  | func f cs vs h hc => exact same (.func f cs vs h hc) rfl
  | nilf => exact same .nilf rfl
  | nilp => exact same .nilp rfl
  | nili => exact same .nili rfl
  | mpr id r h => exact same (.mpr id r h) rfl
  | ifc t a v h => exact same (.ifc t a v h) rfl
  | cst v => exact same (.cst v) rfl
  | vw id size lo n N C cap A B h hn hA hk hz => exact same (.vw id size lo n N C cap A B h hn hA hk hz) rfl
  | ref2 id a n c vs h h0 => exact same (.ref2 id a n c vs h h0) rfl
  | aptr2 id i g n c vs h h0 => exact same (.aptr2 id i g n c vs h h0) rfl
  | iref id i a n c vs h h0 => exact same (.iref id i a n c vs h h0) rfl

theorem norm0L_ok : ∀ {xs : List AV} {vs : List Value} {aw : List Ob} {F : Nat → Prop}, Sim aw σ w F → RelL σ w F xs vs → ∃ F', Sim (norm0L aw xs).2 σ w F' ∧ Mv aw σ w F (norm0L aw xs).2 σ w F' ∧ RelL σ w F' (norm0L aw xs).1 vs
  | [], vs, aw, F, hs, hr => by
    have : vs = [] := List.eq_nil_of_length_eq_zero hr.1
    subst this
    exact ⟨F, hs, .refl .., .nil⟩
  | x :: xs, [], aw, F, hs, hr => absurd hr.1 (by simp)
  | x :: xs, v :: vs, aw, F, hs, hr => by
    have h1 : Rel σ w F x v := hr.2 0 x v rfl rfl
    have h2 : RelL σ w F xs vs := ⟨by simpa using hr.1, fun j a v ha hv => hr.2 (j + 1) a v (by simpa using ha) (by simpa using hv)⟩
    obtain ⟨F1, s1, m1, r1⟩ := norm0_ok hs h1
    obtain ⟨F2, s2, m2, r2⟩ := norm0L_ok s1 (m1.relL hs h2)
    exact ⟨F2, s2, m1.trans m2, .cons (m2.rel s1 r1) r2⟩
theorem norm_ok (hs : Sim aw σ w F) {x : AV} {v : Value} (hr : Rel σ w F x v) : ∃ F', Sim (norm aw x).2 σ w F' ∧ Mv aw σ w F (norm aw x).2 σ w F' ∧ Rel σ w F' (norm aw x).1 v := by
  cases x with
  | agg cs =>
    cases hr with
    | agg _ vs h h1 hc =>
      obtain ⟨F', s1, m1, r1⟩ := norm0L_ok hs ⟨h, hc⟩
      exact ⟨F', s1, m1, .agg _ vs r1.1 h1 r1.2⟩
  | _ => exact norm0_ok hs hr
theorem normL_ok : ∀ {xs : List AV} {vs : List Value} {aw : List Ob} {F : Nat → Prop}, Sim aw σ w F → RelL σ w F xs vs → ∃ F', Sim (normL aw xs).2 σ w F' ∧ Mv aw σ w F (normL aw xs).2 σ w F' ∧ RelL σ w F' (normL aw xs).1 vs
  | [], vs, aw, F, hs, hr => by
    have : vs = [] := List.eq_nil_of_length_eq_zero hr.1
    subst this
    exact ⟨F, hs, .refl .., .nil⟩
  | x :: xs, [], aw, F, hs, hr => absurd hr.1 (by simp)
  | x :: xs, v :: vs, aw, F, hs, hr => by
    have h1 : Rel σ w F x v := hr.2 0 x v rfl rfl
    have h2 : RelL σ w F xs vs := ⟨by simpa using hr.1, fun j a v ha hv => hr.2 (j + 1) a v (by simpa using ha) (by simpa using hv)⟩
    obtain ⟨F1, s1, m1, r1⟩ := norm_ok hs h1
    obtain ⟨F2, s2, m2, r2⟩ := normL_ok s1 (m1.relL hs h2)
    exact ⟨F2, s2, m1.trans m2, .cons (m2.rel s1 r1) r2⟩
theorem normL_len : ∀ {xs : List AV} {aw : List Ob}, (normL aw xs).1.length = xs.length
  | [], _ => rfl
  | x :: xs, aw => by simp [normL, normL_len]

end

end Go.Proofs.Ytegkmfokfakeiaa
