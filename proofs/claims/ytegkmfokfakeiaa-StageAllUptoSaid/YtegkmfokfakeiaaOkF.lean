/-
  The operations that make memory, on: slices of the call's own, texts of bytes, literals, make, append. For every program.
-/
import Derived.Test.YtegkmfokfakeiaaOkE
namespace Go.Proofs.Ytegkmfokfakeiaa
open Go.RowKit
set_option linter.unusedVariables false
set_option linter.unusedSimpArgs false

section
variable {P : Program} {σ : List Value} {w : World} {F : Nat → Prop} {aw : List Ob}

theorem e_slice {fr : List AV} {a : Act} (ha : ARel σ w F fr a) {t : TypeId} {x : Operand} {lo hi mx : Option Operand} (hs : Sim aw σ w F) {K : AV → List Ob → Prop} (h : vcE P fr aw (.slice t x lo hi mx) K) (o : Oper) (ho : o.op = .slice t x lo hi mx) : OpOk P aw σ w F (execOp a.eval o) K := by
  cases mx with
  | some m => exact (show False from h).elim
  | none =>
  simp only [vcE] at h
  obtain ⟨F', s1, m1, r1⟩ := norm_ok hs (ha.ev x)
  split at h
  · rename_i e rows aw' hu en
    rw [en] at s1 m1 r1
    split at h
    · rename_i kl l kh hh el eh
      obtain ⟨hsome, hrow, h0, h1, h2, h⟩ := h
      obtain ⟨d, hd⟩ := Option.isSome_iff_exists.1 hsome
      generalize hv : a.eval x = vx at r1
      have hform : ∃ A n c, vx = .slice A n c := by cases r1 <;> exact ⟨_, _, _, rfl⟩
      obtain ⟨A, n, c, rfl⟩ := hform
      obtain ⟨hn, hnc, hr⟩ := r1.piece (l := l.toNat) (h := hh.toNat) hrow (by omega) (by omega)
      subst hn
      refine ⟨_, _, w, aw', σ, F', _, ?_, .inl rfl, s1, m1, hr, h⟩
      have b := fun w' => run_bounds (P := P) ha (b := true) (cap := c) el eh h0 h1 h2 hnc w'
      simp [execOp, ho, hv, Instr.sliceAt, Instr.slice, Sem.run_bind, run_underlying hu, b, run_sizeOf' hd]
    · exact h.elim
  · exact h.elim

theorem e_convert {fr : List AV} {a : Act} (ha : ARel σ w F fr a) {s d : TypeId} {x : Operand} (hs : Sim aw σ w F) {K : AV → List Ob → Prop} (h : vcE P fr aw (.convert s d x) K) (o : Oper) (ho : o.op = .convert s d x) : OpOk P aw σ w F (execOp a.eval o) K := by
  simp only [vcE] at h
  obtain ⟨F', s1, m1, r1⟩ := norm_ok hs (ha.ev x)
  split at h
  · rename_i e rows aw' hus hud en
    rw [en] at s1 m1 r1
    obtain ⟨hue, hall, h⟩ := h
    generalize hv : a.eval x = vx at r1
    have hrun : (convert s d vx).run P w = .ok (.string ⟨(rows.map byteOf').toArray⟩) w := by
      cases r1 with
      | slNil =>
        rw [run_convert_bytes_nil w s e hus hue 0 0 d hud]
        rfl
      | sl _ size ad c u hF hn hm hrow hone hcell hrel =>
        rw [run_convert_bytes_string w s d e (some ad) rows.length c hus hue hud]
        have hb : ∀ (i : Nat) row, rows[i]? = some row → ∃ n, row = [.int .u8 n] ∧ w.cell? (ad.add i) = some (.int .u8 n) := fun i row hi => by
          have h1 := List.all_eq_true.1 hall row (List.mem_of_getElem? hi)
          match row, h1, hi with
          | [.int .u8 n], _, hi =>
            have hsz := hrow _ (List.mem_of_getElem? hi)
            simp at hsz
            subst hsz
            have hlt := (List.getElem?_eq_some_iff.1 hi).1
            have hc := hcell i 0 hlt (by omega)
            have hr := hrel i _ 0 _ hi rfl
            generalize u i 0 = v at hc hr
            cases hr
            exact ⟨n, rfl, by simpa using hc⟩
        have hl := run_loadCells_list (P := P) w ad ((rows.map fun row => match row with | [.int .u8 n] => n | _ => 0).map (Value.int .u8)) (fun j v hj => by
          simp only [List.map_map, List.getElem?_map, Option.map_eq_some_iff] at hj
          obtain ⟨row, hr, hv'⟩ := hj
          obtain ⟨n, rfl, hc⟩ := hb j row hr
          simp at hv'
          subst hv'
          exact hc)
        rw [List.length_map, List.length_map] at hl
        rw [run_bytesToString w ad _ _ _ hl, foldl_push_bytes]
        congr 2
        apply ByteArray.ext
        simp only [List.map_map]
        apply Array.ext'
        simp only [ByteArray.empty, ByteArray.emptyWithCapacity, Array.toList_append, List.toList_toArray, Array.emptyWithCapacity, List.nil_append]
        apply List.map_congr_left
        intro row hr
        obtain ⟨i, hi⟩ := List.getElem?_of_mem hr
        obtain ⟨n, rfl, _⟩ := hb i row hi
        rfl
    refine ⟨_, _, w, aw', σ, F', _, ?_, .inl rfl, s1, m1, .str _, h⟩
    simp [execOp, ho, hv, Sem.run_bind, hrun]
  · exact h.elim

/-- A row of zeros. -/
theorem init_rel {z : List AV} {vc : Array Value} (hz : RelL σ w F z vc.toList) (h0 : 0 < z.length) (len : Nat) : RelL σ w F (List.replicate len z).flatten (madeCells vc (len * z.length)).toList := by
  have hl : vc.size = z.length := by simpa using hz.1
  have hlen : (List.replicate len z).flatten.length = len * z.length := by simp
  refine ⟨by rw [hlen]; simp [madeCells], fun k x v hx hv => ?_⟩
  have hk : k < len * z.length := by rw [← hlen]; exact (List.getElem?_eq_some_iff.1 hx).1
  have hdiv : k / z.length < len := Nat.div_lt_of_lt_mul (by rw [Nat.mul_comm]; exact hk)
  have hmod : k % z.length < z.length := Nat.mod_lt _ h0
  have e : k = k / z.length * z.length + k % z.length := by rw [Nat.mul_comm]; exact (Nat.div_add_mod k z.length).symm
  have hf := flatten_get (size := z.length) (rows := List.replicate len z) (fun row hr => by rw [List.eq_of_mem_replicate hr]) (k / z.length) (k % z.length) z (by rw [List.getElem?_replicate, if_pos hdiv]) hmod
  rw [← e] at hf
  rw [hf] at hx
  obtain ⟨u, hu, hr⟩ := hz.get hx
  have : v = u := by
    simp [madeCells, hk] at hv
    have hlt : k % z.length < vc.size := by omega
    rw [hl, getElem!_pos vc _ hlt] at hv
    have hu' : vc[k % z.length]? = some u := by simpa using hu
    rw [Array.getElem?_eq_getElem hlt] at hu'
    rw [← hv]; exact Option.some.inj hu'
  rw [this]; exact hr
theorem one_made {vc : Array Value} (h1 : ∀ u, u ∈ vc.toList → u.oneCell' = true) (h0 : 0 < vc.size) (n : Nat) : ∀ u, u ∈ (madeCells vc n).toList → u.oneCell' = true := by
  intro u hu
  simp [madeCells] at hu
  obtain ⟨k, _, rfl⟩ := hu
  have hlt : k % vc.size < vc.size := Nat.mod_lt _ h0
  rw [getElem!_pos vc _ hlt]
  exact h1 _ (Array.mem_def.1 (Array.getElem_mem hlt))

theorem rowsOf_flat {size : Nat} : ∀ (ps : List (Nat × AV)) (rows rows' : List (List AV)), (∀ row, row ∈ rows → row.length = size) → rowsOf P size rows ps = some rows' →
    fillAV (fun i => if i < rows.length then some (i * size, size) else none) rows.flatten ps = some rows'.flatten ∧ (∀ row, row ∈ rows' → row.length = size) ∧ rows'.length = rows.length
  | [], rows, rows', hl, h => by
    simp only [rowsOf, Option.some.injEq] at h
    subst h
    exact ⟨rfl, hl, rfl⟩
  | (i, v) :: ps, rows, rows', hl, h => by
    simp only [rowsOf] at h
    split at h
    · rename_i vs hvs
      split at h
      · rename_i hc
        obtain ⟨hc1, hc2⟩ := hc
        have hl' : ∀ row, row ∈ rows.set i vs → row.length = size := fun row hr => by
          rcases List.mem_or_eq_of_mem_set hr with h | rfl
          · exact hl row h
          · exact hc1
        obtain ⟨h1, h2, h3⟩ := rowsOf_flat ps (rows.set i vs) rows' hl' h
        rw [List.length_set] at h1 h3
        refine ⟨?_, h2, h3⟩
        have hflen : rows.flatten.length = rows.length * size := by
          clear h h1 h2 h3 hl' hc2
          induction rows with
          | nil => simp
          | cons r rows ih => simp [hl r (by simp), ih (fun row h => hl row (by simp [h])), Nat.add_mul]; omega
        have hi1 : i * size + size ≤ rows.length * size := by
          have : (i + 1) * size ≤ rows.length * size := Nat.mul_le_mul_right _ hc2
          rw [Nat.add_mul] at this; omega
        have hsp := flatten_splice (size := size) (vs := vs) (off := 0) (by omega) hl i rows[i] (List.getElem?_eq_getElem hc2)
        have hrow : splice rows[i] 0 vs = vs := by
          have := hl rows[i] (List.getElem_mem hc2)
          unfold splice
          simp
          omega
        rw [hrow, Nat.add_zero] at hsp
        simp only [fillAV, if_pos hc2, hvs]
        rw [if_pos ⟨hc1, by omega⟩, ← hsp]
        exact h1
      · cases h
    · cases h

/-- New data. -/
theorem new_sl {size : Nat} {rows : List (List AV)} {flat : List Value} (hs : Sim aw σ w F) (hfl : FlatRel σ w F size rows flat) (e : TypeId) (hm : rows.length ≤ maxLen) :
    Rel σ (w.alloc (.cells flat.toArray e)) (plus F w.heap.size) (.sl rows) (.slice (some ⟨w.heap.size, 0, none⟩) rows.length rows.length) := by
  have key : ∀ i j : Nat, i < rows.length → j < size → ∃ u, flat[i * size + j]? = some u ∧ u.oneCell' = true := fun i j hi hj => by
    obtain ⟨hl, hrow⟩ := arr_row hfl (List.getElem?_eq_getElem hi)
    obtain ⟨u, a1, _, a3⟩ := hrow j _ (List.getElem?_eq_getElem (by omega))
    exact ⟨u, a1, a3⟩
  refine .sl rows size ⟨w.heap.size, 0, none⟩ rows.length (fun i j => flat.getD (i * size + j) undef) (fun _ => .inr rfl) (Nat.le_refl _) hm hfl.1 (fun i j hi hj => ?_) (fun i j hi hj => ?_) (fun i row j x hi hx => ?_)
  · obtain ⟨u, a1, a3⟩ := key i j hi hj
    rw [List.getD_eq_getElem?_getD, a1]; exact a3
  · obtain ⟨u, a1, _⟩ := key i j hi hj
    rw [add_box, cell_of_row _ _ _ _ e (0, 0) (heap_alloc_new w _), List.getD_eq_getElem?_getD, a1]
    simpa using a1
  · obtain ⟨hl, hrow⟩ := arr_row hfl hi
    obtain ⟨u, a1, a2, _⟩ := hrow j x hx
    rw [List.getD_eq_getElem?_getD, a1]
    exact a2.mono (fun _ _ e => e) (fun _ h => .inl h) (fun b hb => Below.heap_alloc w _ b (hs.lt b hb))

theorem e_buildSlice {fr : List AV} {a : Act} (ha : ARel σ w F fr a) {t : TypeId} {len : Nat} {parts : Array (Nat × Operand)} (hs : Sim aw σ w F) {K : AV → List Ob → Prop} (h : vcE P fr aw (.buildSlice t len parts) K) (o : Oper) (ho : o.op = .buildSlice t len parts) : OpOk P aw σ w F (execOp a.eval o) K := by
  simp only [vcE] at h
  split at h
  · rename_i e hu
    split at h
    · rename_i z hz
      obtain ⟨hzl, h0, hbig, h⟩ := h
      split at h
      · rename_i rows hrows
        obtain ⟨i, v, hi, hiz, hvl, hv1, hvr⟩ := zero_some hz
        have hvsz : v.cells.size = z.length := by simpa using hvl
        obtain ⟨hf, hl, hlen⟩ := rowsOf_flat (P := P) _ (List.replicate len z) rows (fun row hr => by rw [List.eq_of_mem_replicate hr]; exact hzl) hrows
        have hargs0 : RelL σ w F (parts.toList.map fun p => ev fr p.2) (parts.toList.map fun p => a.eval p.2) := by
          have := relL_map ha (parts.toList.map (·.2))
          simpa [List.map_map, Function.comp_def] using this
        obtain ⟨F1, s1, m1, r1⟩ := normL_ok hs hargs0
        have hlen1 : (normL aw (parts.toList.map fun p => ev fr p.2)).1.length = parts.toList.length := by rw [normL_len, List.length_map]
        have hargs : RelL σ w F1 (((parts.toList.map (·.1)).zip (normL aw (parts.toList.map fun p => ev fr p.2)).1).map (·.2)) ((parts.toList.map fun p => (p.1, a.eval p.2)).map (·.2)) := by
          rw [List.map_snd_zip (by rw [hlen1, List.length_map]; exact Nat.le_refl _)]
          simpa [List.map_map, Function.comp_def] using r1
        have hinit := init_rel (hvr σ w F1) (by omega) len
        have hone := one_made hv1 (by omega) (len * z.length)
        rw [hzl] at hinit hone
        obtain ⟨cells, hfill, hr, h1⟩ := fill_ok (place := fun i => some (i * P.cellsOf e, P.cellsOf e)) (fun i x hx => by split at hx; exact hx; cases hx) _ (parts.toList.map fun p => (p.1, a.eval p.2)) _ _ _ (by
          rw [List.map_fst_zip (by rw [hlen1, List.length_map]; exact Nat.le_refl _)]; simp [List.map_map, Function.comp_def]) hargs hinit hone hf
        have hfl : FlatRel σ w F1 (P.cellsOf e) rows cells.toList := ⟨hl, h1, hr⟩
        rw [List.length_replicate] at hlen
        have hmx : rows.length ≤ maxLen := by
          have : len * 1 ≤ len * P.cellsOf e := Nat.mul_le_mul_left _ h0
          rw [hlen]; simp only [maxLen]; omega
        have hsize : ∀ w : World, (sizeOf e).run P w = .ok (P.cellsOf e) w := fun w => by
          simp [sizeOf, typeInfo, hi, Sem.run_bind, Program.cellsOf]
        have hrun : (Instr.buildSlice t len (parts.map fun p => (p.1, a.eval p.2))).run P w = .ok (.slice (some ⟨w.heap.size, 0, none⟩) len len) (w.alloc (.cells cells e)) := by
          by_cases hz0 : len * P.cellsOf e = 0
          · have : madeCells v.cells (len * P.cellsOf e) = #[] := Array.eq_empty_of_size_eq_zero (by rw [size_madeCells, hz0])
            rw [this] at hfill
            have e0 : Array.range 0 = #[] := Array.eq_empty_of_size_eq_zero (by simp)
            simp [Instr.buildSlice, Sem.run_bind, run_underlying hu, hsize, hz0, e0, hfill, newRow]
          · unfold madeCells at hfill
            have hbig' : ¬ 2 ^ 24 < len * P.cellsOf e := by omega
            simp [Instr.buildSlice, Sem.run_bind, run_underlying hu, hsize, hz0, hbig', run_zeroValue' hi hiz, hfill, newRow]
        have hk : ∀ b, b < w.heap.size → (w.alloc (.cells cells e)).heap[b]? = w.heap[b]? := fun b hb => Below.heap_alloc w _ b hb
        have hn : ∀ (e s : Nat) (rows : List (List AV)) b, Bk (.arr e s rows) (.slice (some ⟨w.heap.size, 0, none⟩) len len) b → w.heap.size ≤ b := fun e s rows b hb => by simp [Bk, blk] at hb; omega
        have hcl : cells.toList.length = rows.length * P.cellsOf e := by
          rw [hr.1]
          have : ∀ l : List (List AV), (∀ row, row ∈ l → row.length = P.cellsOf e) → l.flatten.length = l.length * P.cellsOf e := by
            intro l
            induction l with
            | nil => simp
            | cons x l ih =>
              intro hx
              rw [List.flatten_cons, List.length_append, ih (fun row hr => hx row (List.mem_cons_of_mem _ hr)), hx x List.mem_cons_self, List.length_cons, Nat.add_mul]; omega
          exact this rows hl
        refine ⟨_, _, _, _, σ ++ [.slice (some ⟨w.heap.size, 0, none⟩) len len], F1, _, ?_, .inl rfl, s1.push (.arr e (P.cellsOf e) rows) _ hk (by simp) ?_ (hn _ _ _), m1.trans (.push s1 _ _ rfl rfl rfl hk (by simp) (hn _ _ _)), .ref _ (some ⟨w.heap.size, 0, none⟩) len len (by rw [← s1.len]; simp), h⟩
        · simp [execOp, ho, Sem.run_bind, hrun]
        · refine ⟨cells.toList, ⟨hcl, .inr ⟨w.heap.size, len, cells, by rw [hlen], Nat.zero_le _, heap_alloc_new w _, by omega, by omega, by rw [hlen] at hcl; simpa using hcl, by rw [← hcl]; exact List.take_length⟩⟩,
            ⟨hl, h1, hr.mono (fun _ _ e => get_pre e) (fun _ e => e) (fun b hb => hk b (s1.lt b hb))⟩, fun g hg hF => ?_, _, _, _, rfl⟩
          simp [Value.ownBlock] at hg
          have := s1.lt g hF; omega
      · exact h.elim
    · exact h.elim
  · exact h.elim

/-- An object more, at a place that no other one has. -/
theorem Sim.push2 {w' : World} (h : Sim aw σ w F) (o : Ob) (v : Value) (hk : ∀ b, (F b ∨ Dof aw σ b) → w'.heap[b]? = w.heap[b]?) (hs : w.heap.size ≤ w'.heap.size)
    (ho : ORel (σ ++ [v]) w' F o v) (hnew : ∀ b, Bk o v b → ¬ Dof aw σ b) : Sim (aw ++ [o]) (σ ++ [v]) w' F := by
  have old : ∀ (k : Nat) o1 v1, aw[k]? = some o1 → (σ ++ [v])[k]? = some v1 → σ[k]? = some v1 := fun k o1 v1 h1 hv1 => by
    have hlt := (List.getElem?_eq_some_iff.1 h1).1
    rw [List.getElem?_append_left (by rw [h.len]; exact hlt)] at hv1
    exact hv1
  have last : ∀ (k : Nat) v1, k = aw.length → (σ ++ [v])[k]? = some v1 → v1 = v := fun k v1 e hv1 => by
    rw [e, ← h.len] at hv1; simp at hv1; exact hv1.symm
  refine ⟨by simp [h.len], fun k o1 v1 ho1 hv1 => ?_, fun k k' o1 o2 v1 v2 g hne ho1 ho2 hl1 hl2 hv1 hv2 hb1 hb2 => ?_, fun b hb => Nat.lt_of_lt_of_le (h.lt b hb) hs⟩
  · rcases get_app ho1 with h1 | ⟨e, rfl⟩
    · have hv1' := old k o1 v1 h1 hv1
      refine (h.obj k o1 v1 h1 hv1').mono (fun _ _ e => get_pre e) (fun _ e => e) (fun b hb => hk b (.inl hb)) (fun hl b hb => ?_)
      have hd : Dof aw σ b := ⟨k, o1, v1, h1, hl, hv1', hb⟩
      exact ⟨hk b (.inr hd), h.free hd⟩
    · have := last _ _ e hv1; subst this; exact ho
  · rcases get_app ho1 with h1 | ⟨e1, rfl⟩
    · rcases get_app ho2 with h2 | ⟨e2, rfl⟩
      · exact h.sep k k' o1 o2 v1 v2 g hne h1 h2 hl1 hl2 (old _ _ _ h1 hv1) (old _ _ _ h2 hv2) hb1 hb2
      · have := last _ _ e2 hv2; subst this
        exact hnew g hb2 ⟨k, o1, v1, h1, hl1, old _ _ _ h1 hv1, hb1⟩
    · have := last _ _ e1 hv1; subst this
      rcases get_app ho2 with h2 | ⟨e2, rfl⟩
      · exact hnew g hb1 ⟨k', o2, v2, h2, hl2, old _ _ _ h2 hv2, hb2⟩
      · exact hne (e1.trans e2.symm)

theorem e_makeSlice {fr : List AV} {a : Act} (ha : ARel σ w F fr a) {t : TypeId} {l c : Operand} (hs : Sim aw σ w F) {K : AV → List Ob → Prop} (h : vcE P fr aw (.makeSlice t l c) K) (o : Oper) (ho : o.op = .makeSlice t l c) : OpOk P aw σ w F (execOp a.eval o) K := by
  simp only [vcE] at h
  have hl := ha.ev l
  have hc := ha.ev c
  split at h
  · rename_i e kl n kc m hu el ec
    rw [el] at hl
    rw [ec] at hc
    split at h
    · rename_i z hz
      obtain ⟨hzl, h0, hn0, hnm, _, hbytes, hmx, h⟩ := h
      obtain ⟨i, v, hi, hiz, hvl, hv1, hvr⟩ := zero_some hz
      generalize hvl' : a.eval l = vl at hl
      generalize hvc' : a.eval c = vc at hc
      cases hl; cases hc
      have hvsz : v.cells.size = z.length := by simpa using hvl
      have hsz : P.cellsOf e = i.size := by simp [Program.cellsOf, hi]
      have hby : P.bytesOf e = i.bytes := by simp [Program.bytesOf, hi]
      have hrun := run_make (P := P) w t e i v hu hi hiz kl kc n m hn0 hnm (by
        have : ((P.bytesOf e * m.toNat : Nat) : Int) ≤ 281474976710656 := by omega
        rw [Int.natCast_mul, hby] at this
        rwa [Int.toNat_of_nonneg (by omega)] at this) (by simp only [maxLen] at hmx; omega)
      rw [← hsz] at hrun
      have hk : ∀ b, b < w.heap.size → (w.alloc (.cells (madeCells v.cells (m.toNat * P.cellsOf e)) e)).heap[b]? = w.heap[b]? := fun b hb => Below.heap_alloc w _ b hb
      have hn : ∀ (e s : Nat) (rows : List (List AV)) b, Bk (.arr e s rows) (.slice (some ⟨w.heap.size, 0, none⟩) n.toNat m.toNat) b → w.heap.size ≤ b := fun e s rows b hb => by simp [Bk, blk] at hb; omega
      have hle : n.toNat * P.cellsOf e ≤ m.toNat * P.cellsOf e := Nat.mul_le_mul_right _ (by omega)
      have hinit := init_rel (hvr σ w F) (by omega) n.toNat
      rw [hzl] at hinit
      have htake : (madeCells v.cells (m.toNat * P.cellsOf e)).toList.take (n.toNat * P.cellsOf e) = (madeCells v.cells (n.toNat * P.cellsOf e)).toList := by
        simp only [madeCells, Array.toList_map, Array.toList_range]
        rw [← List.map_take, List.take_range, Nat.min_eq_left hle]
      refine ⟨_, _, _, aw ++ [.arr e (P.cellsOf e) (List.replicate n.toNat z)], σ ++ [.slice (some ⟨w.heap.size, 0, none⟩) n.toNat m.toNat], F, _, ?_, .inl rfl, hs.push (w' := w.alloc (.cells (madeCells v.cells (m.toNat * P.cellsOf e)) e)) (.arr e (P.cellsOf e) (List.replicate n.toNat z)) _ hk (by simp) ?_ (hn _ _ _), .push (w' := w.alloc (.cells (madeCells v.cells (m.toNat * P.cellsOf e)) e)) hs (.arr e (P.cellsOf e) (List.replicate n.toNat z)) _ rfl rfl rfl hk (by simp) (hn _ _ _), .ref _ (some ⟨w.heap.size, 0, none⟩) n.toNat m.toNat (by rw [← hs.len]; simp), h⟩
      · simp [execOp, ho, hvl', hvc', Sem.run_bind, hrun]
      · refine ⟨(madeCells v.cells (n.toNat * P.cellsOf e)).toList, ⟨by simp [madeCells], .inr ⟨w.heap.size, m.toNat, _, by simp, Nat.zero_le _, heap_alloc_new w _, by simp; omega, hmx, size_madeCells _ _, by rw [List.length_replicate]; exact htake⟩⟩,
          ⟨fun row hr => by rw [List.eq_of_mem_replicate hr]; exact hzl, one_made hv1 (by omega) _, hinit.mono (fun _ _ e => get_pre e) (fun _ e => e) (fun b hb => hk b (hs.lt b hb))⟩, fun g hg hF => ?_, _, _, _, rfl⟩
        simp [Value.ownBlock] at hg
        have := hs.lt g hF; omega
    · exact h.elim
  · exact h.elim

theorem run_app_nil {t ty e : TypeId} {size n : Nat} {v : Value} {xs : List Value} (ht : P.underlying t = some (.slice e)) (hi : (P.info? e).isSome = true) (hown : w.ownsRow 0 e size v n xs) :
    (Builtin.append_ #[t, t] ty #[v, .slice none 0 0]).run P w = .ok v w := by
  obtain ⟨i, hi⟩ := Option.isSome_iff_exists.1 hi
  rcases hown.2 with ⟨rfl, rfl⟩ | ⟨g, cap, cur, rfl, _, _, hnc, _⟩
  · simp [Builtin.append_, run_underlying ht, sizeOf, typeInfo, hi, Builtin.lenOf, Builtin.firstCells]
  · simp [Builtin.append_, run_underlying ht, sizeOf, typeInfo, hi, Builtin.lenOf, Builtin.firstCells, hnc, storeCells]

/-- append: what is appended is data. -/
theorem app_core {t ty e : TypeId} {z : List AV} (hu : P.underlying t = some (.slice e)) (hz : zeroOf P e = some z) (hzl : z.length = P.cellsOf e) (h0 : 0 < P.cellsOf e) (hby : P.bytesOf e ≤ 128)
    {old rows : List (List AV)} {v vy : Value} {flat : List Value} (hown : w.ownsRow 0 e (P.cellsOf e) v old.length flat) (hy : Rel σ w F (.sl rows) vy) (hrow : ∀ row, row ∈ rows → row.length = P.cellsOf e) (hlen : old.length + rows.length ≤ 1099511627776) :
    ∃ v' w' news, (Builtin.append_ #[t, t] ty #[v, vy]).run P w = .ok v' w' ∧ w'.ownsRow 0 e (P.cellsOf e) v' (old ++ rows).length (flat ++ news) ∧ w.grownBy w' v.ownBlock ∧
      (v'.ownBlock = v.ownBlock ∨ v'.ownBlock = some w.heap.size) ∧ RelL σ w F rows.flatten news ∧ (∀ u, u ∈ news → u.oneCell' = true) := by
  obtain ⟨i, zv, hi, hiz, hvl, _, _⟩ := zero_some hz
  have hsz : i.size = P.cellsOf e := by simp [Program.cellsOf, hi]
  have hbb : i.bytes = P.bytesOf e := by simp [Program.bytesOf, hi]
  cases hy with
  | slNil =>
    refine ⟨v, w, [], run_app_nil hu (by simp [hi]) hown, by simpa using hown, World.grownBy.refl w _, .inl rfl, .nil, fun u hu => by simp at hu⟩
  | sl _ size ad c u hF hn hm hr1 hone hcell hrel =>
    by_cases hne : rows = []
    · subst hne
      obtain ⟨v', w', hrun, h2, h3, _, h5⟩ := run_append_own_at (P := P) w 0 t ty e i zv (P.cellsOf e) (P.bytesOf e) hu hi hiz hsz hbb (by rw [← hzl]; simpa using hvl) h0 v old.length flat hown ad 0 c [] (by simp) (fun j x hx => by simp at hx) (fun x hx => by simp at hx)
        (by simp only [maxLen]; omega) (by
          have : (old.length + 0) * P.bytesOf e ≤ 1099511627776 * 128 := Nat.mul_le_mul (by simpa using hlen) hby
          omega) (Nat.zero_le _)
      exact ⟨v', w', [], hrun, by simpa using h2, h3, h5, .nil, fun u hu => by simp at hu⟩
    · have hsize : size = P.cellsOf e := by
        obtain ⟨r, rs, rfl⟩ := List.exists_cons_of_ne_nil hne
        exact (hr1 r (by simp)).symm.trans (hrow r (by simp))
      subst hsize
      have hflen : rows.flatten.length = rows.length * P.cellsOf e := by
        have : ∀ (l : List (List AV)), (∀ row, row ∈ l → row.length = P.cellsOf e) → l.flatten.length = l.length * P.cellsOf e := by
          intro l hl
          induction l with
          | nil => simp
          | cons r l ih => simp [hl r (by simp), ih (fun row h => hl row (by simp [h])), Nat.add_mul]; omega
        exact this rows hrow
      have idx : ∀ k, k < rows.length * P.cellsOf e → k / P.cellsOf e < rows.length ∧ k % P.cellsOf e < P.cellsOf e ∧ k / P.cellsOf e * P.cellsOf e + k % P.cellsOf e = k := fun k hk =>
        ⟨Nat.div_lt_of_lt_mul (by rw [Nat.mul_comm]; exact hk), Nat.mod_lt _ h0, by rw [Nat.mul_comm]; exact Nat.div_add_mod k _⟩
      have hget : ∀ (k : Nat) x, ((List.range (rows.length * P.cellsOf e)).map fun k => u (k / P.cellsOf e) (k % P.cellsOf e))[k]? = some x → k < rows.length * P.cellsOf e ∧ x = u (k / P.cellsOf e) (k % P.cellsOf e) := fun k x hx => by
        rw [List.getElem?_map] at hx
        cases hr : (List.range (rows.length * P.cellsOf e))[k]? with
        | none => rw [hr] at hx; simp at hx
        | some m =>
          obtain ⟨hlt, rfl⟩ := List.getElem?_eq_some_iff.1 hr
          rw [hr] at hx
          simp at hx hlt
          exact ⟨hlt, by simpa using hx.symm⟩
      have hnews1 : ∀ x, x ∈ ((List.range (rows.length * P.cellsOf e)).map fun k => u (k / P.cellsOf e) (k % P.cellsOf e)) → x.oneCell' = true := fun x hx => by
        obtain ⟨k, hk⟩ := List.getElem?_of_mem hx
        obtain ⟨hlt, rfl⟩ := hget k x hk
        obtain ⟨h1, h2, _⟩ := idx k hlt
        exact hone _ _ h1 h2
      obtain ⟨v', w', hrun, h2, h3, _, h5⟩ := run_append_own_at (P := P) w 0 t ty e i zv (P.cellsOf e) (P.bytesOf e) hu hi hiz hsz hbb (by rw [← hzl]; simpa using hvl) h0 v old.length flat hown ad rows.length c
        ((List.range (rows.length * P.cellsOf e)).map fun k => u (k / P.cellsOf e) (k % P.cellsOf e)) (by simp) (fun k x hx => by
          obtain ⟨hlt, rfl⟩ := hget k x hx
          obtain ⟨h1, h2, h3⟩ := idx k hlt
          have := hcell _ _ h1 h2
          rwa [h3] at this) hnews1
        (by simp only [maxLen]; omega) (by
          have : (old.length + rows.length) * P.bytesOf e ≤ 1099511627776 * 128 := Nat.mul_le_mul hlen hby
          omega) (Nat.zero_le _)
      refine ⟨v', w', _, hrun, by rw [List.length_append]; exact h2, h3, h5, ⟨by simp [hflen], fun k x y hx hy => ?_⟩, hnews1⟩
      obtain ⟨hlt, rfl⟩ := hget k y hy
      obtain ⟨h1, h2, h3⟩ := idx k hlt
      have hf := flatten_get hrow (k / P.cellsOf e) (k % P.cellsOf e) _ (List.getElem?_eq_getElem h1) h2
      rw [h3, hx] at hf
      exact hrel _ _ _ _ (List.getElem?_eq_getElem h1) hf.symm

end

end Go.Proofs.Ytegkmfokfakeiaa
