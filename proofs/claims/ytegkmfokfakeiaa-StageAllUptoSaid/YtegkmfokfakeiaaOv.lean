/-
  Views of arrays of the call's own: copy, clear. For every program.
-/
import Derived.Test.YtegkmfokfakeiaaOm
import Derived.Test.YtegkmfokfakeiaaOy
import Derived.Laws.IdiomCopy
namespace Go.Proofs.Ytegkmfokfakeiaa
open Go.RowKit
set_option linter.unusedVariables false
set_option linter.unusedSimpArgs false

section
variable {P : Program} {N n : Nat} {aw aw' : List Ob} {l : List (Nat × AV)} {σ : List Value} {w : World} {F : Nat → Prop}

/-- A value is so many rows of an object, from one on. -/
structure IsV (σ : List Value) (id c lo n : Nat) (v : Value) : Prop where
  out : ∃ (N C K : Nat) (A B : Option Addr), σ[id]? = some (.slice B N C) ∧ v = .slice A n K ∧ lo + n ≤ C ∧ (0 < n → ∃ g, B = some ⟨g, 0, none⟩ ∧ A = some ⟨g, lo * c, none⟩)
/-- A value's rows as they lie. -/
structure Src (w : World) (c m : Nat) (flat : List Value) (v : Value) : Prop where
  out : ∃ (A : Option Addr) (K : Nat), v = .slice A m K ∧ flat.length = m * c ∧ (A = none → flat = []) ∧ ∀ ad, A = some ad → ∀ j u, flat[j]? = some u → w.cell? (ad.add j) = some u

theorem arr_len {id e c : Nat} {rows : List (List AV)} (hs : Sim aw σ w F) (ho : aw[id]? = some (.arr e c rows)) {A : Option Addr} {q cp : Nat} (hσ : σ[id]? = some (.slice A q cp)) : q = rows.length ∧ q ≤ cp := by
  obtain ⟨flat, hown, _⟩ := hs.obj id _ _ ho hσ
  rcases hown.2 with ⟨h1, h2⟩ | ⟨g, cap, cur, h1, _, _, h2, _⟩
  · cases h1; exact ⟨by omega, by omega⟩
  · cases h1; exact ⟨rfl, h2⟩
theorem isV_vw {id c lo m : Nat} {cap : Option Nat} {v : Value} (h : Rel σ w F (.vw id c lo m cap) v) : IsV σ id c lo m v := by
  cases h with
  | vw _ _ _ _ N C _ A B h hn hA hc _ => exact ⟨N, C, _, A, B, h, rfl, hn, hA⟩
theorem isV_ref {id e c : Nat} {rows : List (List AV)} {v : Value} (hs : Sim aw σ w F) (ho : aw[id]? = some (.arr e c rows)) (h : Rel σ w F (.ref id) v) : IsV σ id c 0 rows.length v := by
  cases h with
  | ref _ A q cp hσ =>
    obtain ⟨h1, h2⟩ := arr_len hs ho hσ
    subst h1
    obtain ⟨_, flat, _, _, hc⟩ := arr_form hs ho hσ
    refine ⟨_, cp, cp, A, A, hσ, rfl, by omega, fun h0 => ?_⟩
    rcases hc with hc | ⟨g, cur, e1, _⟩
    · subst hc; simp at h0
    · exact ⟨g, e1, by simpa using e1⟩
/-- The rows of a view. -/
theorem src_isV {id e c lo m : Nat} {rows : List (List AV)} {v : Value} (hs : Sim aw σ w F) (ho : aw[id]? = some (.arr e c rows)) (hv : IsV σ id c lo m v) (hlo : lo + m ≤ rows.length) :
    ∃ flat, Src w c m flat v ∧ RelL σ w F ((rows.drop lo).take m).flatten flat ∧ (∀ u, u ∈ flat → u.oneCell' = true) ∧ ∀ row, row ∈ rows → row.length = c := by
  obtain ⟨N0, C, K, A, B, hσ, rfl, hn, hA⟩ := hv.out
  obtain ⟨h1, flat, hown, hfl, hc⟩ := arr_form hs ho hσ
  have hfr : (((rows.drop lo).take m).flatten) = ((rows.flatten.drop (lo * c)).take (m * c)) := by
    rw [flatten_take _ _ (fun row hr => hfl.1 row (List.mem_of_mem_drop hr))]
    congr 1
    have : ∀ (k : Nat) (l : List (List AV)), (∀ row, row ∈ l → row.length = c) → (l.drop k).flatten = l.flatten.drop (k * c) := by
      intro k
      induction k with
      | zero => intro l _; simp
      | succ k ih =>
        intro l hl
        cases l with
        | nil => simp
        | cons x l =>
          rw [List.drop_succ_cons, ih l (fun row hr => hl row (List.mem_cons_of_mem _ hr)), List.flatten_cons, Nat.add_mul, Nat.one_mul, ← hl x List.mem_cons_self, Nat.add_comm (k * x.length), ← List.drop_drop, List.drop_left]
    exact this lo rows hfl.1
  refine ⟨(flat.drop (lo * c)).take (m * c), ⟨A, K, rfl, ?_, fun hA0 => ?_, fun ad had j u hj => ?_⟩, ?_, fun u hu => hfl.2.1 u (List.mem_of_mem_drop (List.mem_of_mem_take hu)), hfl.1⟩
  · have h2 := hown.1
    have : lo * c + m * c ≤ N0 * c := by rw [← Nat.add_mul]; exact Nat.mul_le_mul_right _ (by omega)
    rw [List.length_take, List.length_drop]; omega
  · by_cases hm : m = 0
    · subst hm; simp
    · obtain ⟨g, _, e2⟩ := hA (by omega)
      rw [hA0] at e2; cases e2
  · have hj' : j < m * c := by
      have := (List.getElem?_eq_some_iff.1 hj).1
      rw [List.length_take] at this; omega
    by_cases hm : m = 0
    · subst hm; simp at hj'
    · obtain ⟨g, e1, e2⟩ := hA (by omega)
      rw [had] at e2; cases e2
      rcases hc with hc | ⟨g', cur, e3, _⟩
      · subst hc; simp at hlo; omega
      · rw [e1] at e3; cases e3
        rw [e1] at hown
        rw [List.getElem?_take, if_pos hj', List.getElem?_drop] at hj
        have := hown.cells (g := g) rfl (lo * c + j) u hj
        rw [add_box] at this
        rw [show (⟨g, lo * c, none⟩ : Addr).add j = ⟨g, lo * c + j, none⟩ from by unfold Addr.add; split <;> simp_all]
        exact this
  · rw [hfr]; exact hfl.2.2.sub _ _
theorem src_sl {c : Nat} {rows : List (List AV)} {v : Value} (h : Rel σ w F (.sl rows) v) (hrow : ∀ row, row ∈ rows → row.length = c) :
    ∃ flat, Src w c rows.length flat v ∧ RelL σ w F rows.flatten flat ∧ (∀ u, u ∈ flat → u.oneCell' = true) := by
  cases h with
  | slNil => exact ⟨[], ⟨none, 0, rfl, by simp, fun _ => rfl, fun ad h => by cases h⟩, .nil, fun u hu => by simp at hu⟩
  | sl _ size ad cp u hF hn hm hr1 hone hcell hrel =>
    by_cases hne : rows = []
    · subst hne
      exact ⟨[], ⟨some ad, cp, rfl, by simp, fun _ => rfl, fun _ _ j u hj => by simp at hj⟩, .nil, fun u hu => by simp at hu⟩
    · have hsize : size = c := by
        obtain ⟨r, rs, rfl⟩ := List.exists_cons_of_ne_nil hne
        exact (hr1 r (by simp)).symm.trans (hrow r (by simp))
      subst hsize
      have hlen : rows.flatten.length = rows.length * size := by
        have : ∀ l : List (List AV), (∀ row, row ∈ l → row.length = size) → l.flatten.length = l.length * size := by
          intro l
          induction l with
          | nil => simp
          | cons x l ih =>
            intro hx
            rw [List.flatten_cons, List.length_append, ih (fun row hr => hx row (List.mem_cons_of_mem _ hr)), hx x List.mem_cons_self, List.length_cons, Nat.add_mul]; omega
        exact this rows hr1
      by_cases h0 : size = 0
      · subst h0
        refine ⟨[], ⟨some ad, cp, rfl, by simp, (fun _ => rfl), (fun _ _ j u hj => by simp at hj)⟩, ?_, fun u hu => by simp at hu⟩
        have : rows.flatten = [] := List.eq_nil_of_length_eq_zero (by simpa using hlen)
        rw [this]; exact .nil
      · have idx : ∀ k, k < rows.length * size → k / size < rows.length ∧ k % size < size ∧ k / size * size + k % size = k := fun k hk =>
          ⟨Nat.div_lt_of_lt_mul (by rw [Nat.mul_comm]; exact hk), Nat.mod_lt _ (by omega), by rw [Nat.mul_comm]; exact Nat.div_add_mod k _⟩
        have hget : ∀ (k : Nat) x, ((List.range (rows.length * size)).map fun k => u (k / size) (k % size))[k]? = some x → k < rows.length * size ∧ x = u (k / size) (k % size) := fun k x hx => by
          rw [List.getElem?_map, Option.map_eq_some_iff] at hx
          obtain ⟨m, hm1, rfl⟩ := hx
          obtain ⟨hlt, e1⟩ := List.getElem?_eq_some_iff.1 hm1
          simp at hlt e1
          subst e1
          exact ⟨hlt, rfl⟩
        refine ⟨(List.range (rows.length * size)).map fun k => u (k / size) (k % size), ⟨some ad, cp, rfl, by simp, fun h => (by cases h), fun ad' e j x hj => ?_⟩, ⟨by simp [hlen], fun j x y hx hy => ?_⟩, fun x hx => ?_⟩
        · cases e
          obtain ⟨h1, rfl⟩ := hget j x hj
          obtain ⟨h2, h3, h4⟩ := idx j h1
          have := hcell _ _ h2 h3
          rwa [h4] at this
        · obtain ⟨h1, rfl⟩ := hget j y hy
          obtain ⟨h2, h3, h4⟩ := idx j h1
          have hf := flatten_get hr1 (j / size) (j % size) rows[j / size] (List.getElem?_eq_getElem h2) h3
          rw [h4, hx] at hf
          exact hrel _ _ _ _ (List.getElem?_eq_getElem h2) hf.symm
        · obtain ⟨k, hk⟩ := List.getElem?_of_mem hx
          obtain ⟨h1, rfl⟩ := hget k x hk
          obtain ⟨h2, h3, _⟩ := idx k h1
          exact hone _ _ h2 h3

theorem store_rows {id e c lo k : Nat} {rows news : List (List AV)} {B : Option Addr} {N0 C g : Nat} {vs : List Value} (hs : Sim aw σ w F) (ho : aw[id]? = some (.arr e c rows)) (hσ : σ[id]? = some (.slice (some ⟨g, 0, none⟩) N0 C))
    (hk : news.length = k) (hlo : lo + k ≤ rows.length) (hrow : ∀ row, row ∈ news → row.length = c) (hvl : vs.length = k * c) (hr : RelL σ w F news.flatten vs) (h1 : ∀ u, u ∈ vs → u.oneCell' = true) :
    ∃ w', (storeCells ⟨g, lo * c, none⟩ vs).run P w = .ok () w' ∧ Sim (aw.set id (.arr e c (rows.take lo ++ news ++ rows.drop (lo + k)))) σ w' F ∧ Mv aw σ w F (aw.set id (.arr e c (rows.take lo ++ news ++ rows.drop (lo + k)))) σ w' F := by
  obtain ⟨hn, flat, hown, hfl, hc⟩ := arr_form hs ho hσ
  have hdrop : ∀ (k : Nat) (l : List (List AV)), (∀ row, row ∈ l → row.length = c) → (l.drop k).flatten = l.flatten.drop (k * c) := by
    intro k
    induction k with
    | zero => intro l _; simp
    | succ k ih =>
      intro l hl
      cases l with
      | nil => simp
      | cons x l =>
        rw [List.drop_succ_cons, ih l (fun row hr => hl row (List.mem_cons_of_mem _ hr)), List.flatten_cons, Nat.add_mul, Nat.one_mul, ← hl x List.mem_cons_self, Nat.add_comm (k * x.length), ← List.drop_drop, List.drop_left]
  rcases hc with hc | ⟨g', cur, e1, hF, hg, hnc, h2, h3, h4⟩
  · subst hc
    have h0 : k = 0 := by simp at hlo; omega
    have hl0 : lo = 0 := by simp at hlo; omega
    subst h0 hl0
    have hv0 : vs = [] := List.eq_nil_of_length_eq_zero (by simpa using hvl)
    have hn0 : news = [] := List.eq_nil_of_length_eq_zero hk
    subst hv0 hn0
    have hset : aw.set id (.arr e c (([] : List (List AV)).take 0 ++ [] ++ ([] : List (List AV)).drop (0 + 0))) = aw := by
      obtain ⟨hlt, hvs⟩ := List.getElem?_eq_some_iff.1 ho
      have : aw.set id aw[id] = aw := List.set_getElem_self hlt
      rw [hvs] at this; simpa using this
    rw [hset]
    exact ⟨w, by simp [storeCells], hs, .refl ..⟩
  · cases e1
    have hin : lo * c + k * c ≤ N0 * c := by rw [← Nat.add_mul]; exact Nat.mul_le_mul_right _ (by omega)
    have hcap : N0 * c ≤ cur.size := by rw [h3]; exact Nat.mul_le_mul_right _ hnc
    have hst := run_storeCells_at P g (lo * c) e vs 0 cur w hg (by omega) h1
    simp only [Nat.add_zero] at hst
    have hkk : ∀ b, b ≠ g → (w.setRow g (cur.toList.take (lo * c) ++ vs ++ cur.toList.drop (lo * c + vs.length)).toArray).heap[b]? = w.heap[b]? := fun b hb => setRow_other w g b _ hb
    have hflat : flat.length = N0 * c := hown.1
    have hlen2 : (rows.take lo ++ news ++ rows.drop (lo + k)).length = N0 := by simp; omega
    have hORel : ORel σ (w.setRow g (cur.toList.take (lo * c) ++ vs ++ cur.toList.drop (lo * c + vs.length)).toArray) F (.arr e c (rows.take lo ++ news ++ rows.drop (lo + k))) (.slice (some ⟨g, 0, none⟩) N0 C) := by
      refine ⟨flat.take (lo * c) ++ vs ++ flat.drop (lo * c + vs.length), ⟨?_, .inr ⟨g, C, _, by rw [hlen2], Nat.zero_le _, setRow_heap w g cur _ e (0, 0) hg, by rw [hlen2]; exact hnc, h2, ?_, ?_⟩⟩, ⟨fun row hr => ?_, fun u hu => ?_, ?_⟩, fun g2 hg2 => ?_, _, _, _, rfl⟩
      · rw [hlen2]; simp only [List.length_append, List.length_take, List.length_drop]; omega
      · simp only [List.size_toArray, List.length_append, List.length_take, List.length_drop, Array.length_toList]
        omega
      · rw [hlen2]
        simp only [List.toList_toArray]
        have h5 := take_spliceV cur.toList vs (lo * c) (N0 * c) (by omega) (by simpa using hcap)
        simp only [spliceV] at h5
        rw [h5, h4]
      · rcases List.mem_append.1 hr with hr | hr
        · rcases List.mem_append.1 hr with hr | hr
          · exact hfl.1 row (List.mem_of_mem_take hr)
          · exact hrow row hr
        · exact hfl.1 row (List.mem_of_mem_drop hr)
      · rcases List.mem_append.1 hu with hu | hu
        · rcases List.mem_append.1 hu with hu | hu
          · exact hfl.2.1 u (List.mem_of_mem_take hu)
          · exact h1 u hu
        · exact hfl.2.1 u (List.mem_of_mem_drop hu)
      · rw [List.flatten_append, List.flatten_append, flatten_take _ _ hfl.1, hdrop _ _ hfl.1]
        rw [show lo * c + vs.length = (lo + k) * c from by rw [hvl, Nat.add_mul]] at hkk ⊢
        have hd2 : RelL σ w F (rows.flatten.drop ((lo + k) * c)) (flat.drop ((lo + k) * c)) := by
          refine ⟨by simp [hfl.2.2.1], fun j a v ha hv => ?_⟩
          rw [List.getElem?_drop] at ha hv
          exact hfl.2.2.2 _ a v ha hv
        exact (((hfl.2.2.take _).append hr).append hd2).mono (fun _ _ e => e) (fun _ e => e) (fun b hb => hkk b (fun e => hF (e ▸ hb)))
      · simp [Value.ownBlock] at hg2; subst hg2; exact hF
    exact ⟨_, hst, hs.write (b0 := g) id ho rfl hσ rfl hkk (by simp) _ hORel (fun _ h => h), Mv.write (w := w) (w' := w.setRow g _) (F := F) (b0 := g) id ho rfl hσ rfl rfl rfl rfl hkk (by simp) _ (fun _ h => h)⟩

/-- copy. -/
theorem copy_run {t ts ty e c id lo m k : Nat} {rows news : List (List AV)} {vd vs : Value} {flat : List Value} (hu : P.underlying t = some (.slice e)) (hc : P.cellsOf e = c) (hsm : (P.underlying e).isSome = true) (hs : Sim aw σ w F) (ho : aw[id]? = some (.arr e c rows))
    (hd : IsV σ id c lo m vd) (hsrc : Src w c news.length flat vs) (hr : RelL σ w F news.flatten flat) (h1 : ∀ u, u ∈ flat → u.oneCell' = true) (hrow : ∀ row, row ∈ news → row.length = c) (hk : min m news.length = k) (hlo : lo + k ≤ rows.length) :
    ∃ w', (Builtin.copy_ #[t, ts] ty #[vd, vs]).run P w = .ok (goInt k) w' ∧ Sim (aw.set id (.arr e c (rows.take lo ++ news.take k ++ rows.drop (lo + k)))) σ w' F ∧ Mv aw σ w F (aw.set id (.arr e c (rows.take lo ++ news.take k ++ rows.drop (lo + k)))) σ w' F := by
  obtain ⟨N0, C, K, A, B, hσ, rfl, hn, hA⟩ := hd.out
  obtain ⟨A2, K2, rfl, hfl, hnone, hcell⟩ := hsrc.out
  obtain ⟨ds, hds⟩ := Option.isSome_iff_exists.1 hsm
  have hmin : Nat.min news.length m = k := by rw [← hk]; exact Nat.min_comm _ _
  have htk : k * c ≤ flat.length := by rw [hfl]; exact Nat.mul_le_mul_right _ (by omega)
  have hfirst : (Builtin.firstCells c k (.slice A2 news.length K2)).run P w = .ok (flat.take (k * c)).toArray w := by
    cases A2 with
    | none => rw [hnone rfl]; simp [Builtin.firstCells]
    | some ad => exact run_firstCells_some w c k ad news.length K2 (flat.take (k * c)) (by rw [List.length_take]; omega) (fun j u hj => by
        rw [List.getElem?_take] at hj
        split at hj
        · exact hcell ad rfl j u hj
        · cases hj)
  have hsz := run_sizeOf' hds
  rw [hc] at hsz
  have hset : aw.set id (.arr e c (rows.take lo ++ ([] : List (List AV)) ++ rows.drop (lo + 0))) = aw := by
    obtain ⟨hlt, hvs⟩ := List.getElem?_eq_some_iff.1 ho
    have : aw.set id aw[id] = aw := List.set_getElem_self hlt
    rw [hvs] at this; simpa using this
  by_cases h0 : k = 0
  · subst h0
    simp only [List.take_zero]
    rw [hset]
    refine ⟨w, ?_, hs, .refl ..⟩
    have he : (flat.take (0 * c)).toArray = #[] := by simp
    rw [he] at hfirst
    cases A with
    | none => simp [Builtin.copy_, Sem.run_bind, run_underlying hu, Builtin.lenOf, hmin, hsz, hfirst]
    | some a => simp [Builtin.copy_, Sem.run_bind, run_underlying hu, Builtin.lenOf, hmin, hsz, hfirst, storeCells]
  · obtain ⟨g, rfl, rfl⟩ := hA (by omega)
    have hrt : RelL σ w F (news.take k).flatten (flat.take (k * c)) := by rw [flatten_take _ _ hrow]; exact hr.take _
    obtain ⟨w', hst, s2, m2⟩ := store_rows (P := P) (B := none) (news := news.take k) (vs := flat.take (k * c)) (lo := lo) (k := k) hs ho hσ (by simp; omega) hlo (fun row hr => hrow row (List.mem_of_mem_take hr)) (by rw [List.length_take]; omega) hrt (fun u hu => h1 u (List.mem_of_mem_take hu))
    refine ⟨w', ?_, s2, m2⟩
    simp [Builtin.copy_, Sem.run_bind, run_underlying hu, Builtin.lenOf, hmin, hsz, hfirst, hst]

variable {d : Option Tmp} {ty : TypeId} {ps : String} {af : Array Edge} {g : Option (Nat × Bool)} {K2 : AV → List Ob → Prop} {α : Type} {en : α → List AV} {xs ys : List α}
theorem map_evA (lo : Option Operand) : lo.map (ev (mkA n l)) = lo.map (evA n l) := by cases lo <;> simp [ev_mkA]
/-- A slice of an array of the call's own stays its own. -/
theorem o_slice_vw {t : TypeId} {x : Operand} {lo hi : Option Operand} {id e c : Nat} {i j : Int} {k k' : IntKind} {u : Unit} (hS : SliceOf P t e c) (hx : evA n l x = .ref id) (ho : aw[id]? = some (.arr e c (xs.map en)))
    (hl : (lo.map (evA n l)).getD (.int .i64 0) = .int k i) (hh : (hi.map (evA n l)).getD (.int .i64 xs.length) = .int k' j) (hv : vwok xs.length i j = some u) (h : K2 (.vw id c i.toNat (j.toNat - i.toNat) none) aw) :
    OP P N ⟨d, .slice t x lo hi none, ty, ps, af, g⟩ (mkA n l) aw K2 :=
  OP.of_ok (fun σ w F a har hs => by
    unfold vwok at hv; split at hv
    · rename_i hc
      have ex := har.ev x
      rw [ev_mkA, hx] at ex
      generalize hvx : a.eval x = vx at ex
      cases ex with
      | ref _ A q cp hσ =>
        obtain ⟨h1, h2⟩ := arr_len hs ho hσ
        rw [List.length_map] at h1
        subst h1
        obtain ⟨ds, hd⟩ := Option.isSome_iff_exists.1 hS.s
        have hsz := run_sizeOf' hd
        rw [hS.c] at hsz
        have b := fun w' => run_bounds (P := P) har (lo := lo) (hi := hi) (b := true) (len := xs.length) (cap := cp) (by rw [map_evA]; exact hl) (by rw [map_evA]; exact hh) hc.1 hc.2.1 hc.2.2 h2 w'
        have hfm : ∃ g, xs ≠ [] → A = some ⟨g, 0, none⟩ := by
          obtain ⟨_, _, _, _, hc2⟩ := arr_form hs ho hσ
          rcases hc2 with hc2 | ⟨g, cur, e1, _⟩
          · exact ⟨0, fun h => absurd (List.map_eq_nil_iff.1 hc2) h⟩
          · exact ⟨g, fun _ => e1⟩
        obtain ⟨g0, hg0⟩ := hfm
        refine ⟨.slice (if cp = i.toNat then A else A.map (·.add (i.toNat * c))) (j.toNat - i.toNat) (cp - i.toNat), _, w, aw, σ, F, _, ?_, .inl rfl, hs, .refl .., ?_, h⟩
        · simp [execOp, hvx, Instr.sliceAt, Instr.slice, Sem.run_bind, run_underlying hS.u, b, hsz]
        · refine .vw id c _ _ _ cp none _ A hσ (by omega) (fun hpos => ?_) (fun k hk => by cases hk) ?_
          · have hne : xs ≠ [] := by rintro rfl; simp at hc; omega
            refine ⟨g0, hg0 hne, ?_⟩
            have : ¬ cp = i.toNat := by omega
            rw [if_neg this, hg0 hne, Option.map_some, add_box]
          · intro h0
            rw [h0]
            split
            · rfl
            · cases A with
              | none => rfl
              | some A => cases A; simp [Addr.add]
    · cases hv)
theorem o_copy_gen {t ts e c id lo m k : Nat} {x y : Operand} {rows news : List (List AV)} {ax ay : AV} (hS : SliceOf P t e c) (hx : evA n l x = ax) (hy : evA n l y = ay) (ho : aw[id]? = some (.arr e c rows))
    (hd : ∀ σ w F v, Sim aw σ w F → Rel σ w F ax v → IsV σ id c lo m v)
    (hsrc : ∀ σ w F v, Sim aw σ w F → Rel σ w F ay v → ∃ flat, Src w c news.length flat v ∧ RelL σ w F news.flatten flat ∧ (∀ u, u ∈ flat → u.oneCell' = true)) (hrow : ∀ row, row ∈ news → row.length = c)
    (hk : min m news.length = k) (hlo : lo + k ≤ rows.length) (ha : aw.set id (.arr e c (rows.take lo ++ news.take k ++ rows.drop (lo + k))) = aw') (h : K2 (.int .i64 k) aw') :
    OP P N ⟨d, .call ⟨.builtin .copy, #[x, y], #[t, ts]⟩, ty, ps, af, g⟩ (mkA n l) aw K2 :=
  OP.of_ok (fun σ w F a har hs => by
    subst ha
    have ex := har.ev x
    have ey := har.ev y
    rw [ev_mkA, hx] at ex
    rw [ev_mkA, hy] at ey
    obtain ⟨flat, h1, h2, h3⟩ := hsrc σ w F _ hs ey
    obtain ⟨w', hrun, s2, m2⟩ := copy_run (P := P) (t := t) (ts := ts) (ty := ty) hS.u hS.c hS.s hs ho (hd σ w F _ hs ex) h1 h2 h3 hrow hk hlo
    refine ⟨goInt k, _, w', _, σ, F, _, ?_, .inl rfl, s2, m2, .int _ _, h⟩
    simp [execOp, resolve, invoke, builtin, Sem.run_bind, hrun])
theorem cpy_map (lo m : Nat) : (cpy xs lo m ys).map en = (xs.map en).take lo ++ (ys.map en).take (min m ys.length) ++ (xs.map en).drop (lo + min m ys.length) := by
  unfold cpy
  have : ys.take m = ys.take (min m ys.length) := by
    by_cases h : m ≤ ys.length
    · rw [Nat.min_eq_left h]
    · rw [Nat.min_eq_right (by omega), List.take_of_length_le (by omega), List.take_length]
  rw [List.map_append, List.map_append, List.map_take, List.map_drop, this, List.map_take]
/-- copy onto a view, of data. -/
theorem o_copy_vs {t ts e c id lo m : Nat} {x y : Operand} {cap : Option Nat} {u : Unit} (hS : SliceOf P t e c) (hen : ∀ a, (en a).length = c) (hx : evA n l x = .vw id c lo m cap) (hy : evA n l y = .sl (ys.map en)) (ho : aw[id]? = some (.arr e c (xs.map en)))
    (hv : vwok xs.length lo ((lo : Int) + m) = some u) (ha : aw.set id (.arr e c ((cpy xs lo m ys).map en)) = aw') (h : K2 (.int .i64 (min m ys.length : Nat)) aw') : OP P N ⟨d, .call ⟨.builtin .copy, #[x, y], #[t, ts]⟩, ty, ps, af, g⟩ (mkA n l) aw K2 := by
  unfold vwok at hv; split at hv
  · rename_i hc
    have hrow : ∀ row, row ∈ ys.map en → row.length = c := fun row hr => by obtain ⟨a, _, rfl⟩ := List.mem_map.1 hr; exact hen a
    rw [cpy_map] at ha
    exact o_copy_gen (news := ys.map en) (k := min m ys.length) hS hx hy ho (fun σ w F v _ hr => isV_vw hr) (fun σ w F v _ hr => src_sl hr hrow) hrow (by simp) (by simp; omega) ha h
  · cases hv
/-- copy onto an array, of data. -/
theorem o_copy_rs {t ts e c id : Nat} {x y : Operand} (hS : SliceOf P t e c) (hen : ∀ a, (en a).length = c) (hx : evA n l x = .ref id) (hy : evA n l y = .sl (ys.map en)) (ho : aw[id]? = some (.arr e c (xs.map en)))
    (ha : aw.set id (.arr e c ((cpy xs 0 xs.length ys).map en)) = aw') (h : K2 (.int .i64 (min xs.length ys.length : Nat)) aw') : OP P N ⟨d, .call ⟨.builtin .copy, #[x, y], #[t, ts]⟩, ty, ps, af, g⟩ (mkA n l) aw K2 := by
  have hrow : ∀ row, row ∈ ys.map en → row.length = c := fun row hr => by obtain ⟨a, _, rfl⟩ := List.mem_map.1 hr; exact hen a
  rw [cpy_map] at ha
  exact o_copy_gen (lo := 0) (m := xs.length) (news := ys.map en) (k := min xs.length ys.length) hS hx hy ho (fun σ w F v hs hr => by have := isV_ref hs ho hr; rwa [List.length_map] at this) (fun σ w F v _ hr => src_sl hr hrow) hrow (by simp) (by simp; omega) ha h
/-- copy within one array. -/
theorem o_copy_vv {t ts e c id lo m lo2 m2 : Nat} {x y : Operand} {cap cap2 : Option Nat} {u u2 : Unit} (hS : SliceOf P t e c) (hen : ∀ a, (en a).length = c) (hx : evA n l x = .vw id c lo m cap) (hy : evA n l y = .vw id c lo2 m2 cap2) (ho : aw[id]? = some (.arr e c (xs.map en)))
    (hv : vwok xs.length lo ((lo : Int) + m) = some u) (hv2 : vwok xs.length lo2 ((lo2 : Int) + m2) = some u2) (ha : aw.set id (.arr e c ((cpy xs lo m ((xs.drop lo2).take m2)).map en)) = aw') (h : K2 (.int .i64 (min m m2 : Nat)) aw') : OP P N ⟨d, .call ⟨.builtin .copy, #[x, y], #[t, ts]⟩, ty, ps, af, g⟩ (mkA n l) aw K2 := by
  unfold vwok at hv hv2
  split at hv <;> split at hv2
  · rename_i hc hc2
    have hl2 : ((xs.drop lo2).take m2).length = m2 := by rw [List.length_take, List.length_drop]; omega
    have hrow : ∀ row, row ∈ ((xs.drop lo2).take m2).map en → row.length = c := fun row hr => by obtain ⟨a, _, rfl⟩ := List.mem_map.1 hr; exact hen a
    rw [cpy_map, hl2] at ha
    refine o_copy_gen (news := ((xs.drop lo2).take m2).map en) (k := min m m2) hS hx hy ho (fun σ w F v _ hr => isV_vw hr) (fun σ w F v hs hr => ?_) hrow (by rw [List.length_map, hl2]) (by simp; omega) ha h
    obtain ⟨flat, h1, h2, h3, _⟩ := src_isV hs ho (isV_vw hr) (by simp; omega)
    rw [List.length_map, hl2]
    rw [← List.map_drop, ← List.map_take] at h2
    exact ⟨flat, h1, h2, h3⟩
  · cases hv2
  · cases hv
  · cases hv
/-- clear a view. -/
theorem o_clear_vw {t e c id lo m : Nat} {x : Operand} {z0 : α} {cap : Option Nat} {u : Unit} (hS : SliceOf P t e c) (hz : zeroOf P e = some (en z0)) (hen : ∀ a, (en a).length = c) (hx : evA n l x = .vw id c lo m cap) (ho : aw[id]? = some (.arr e c (xs.map en)))
    (hv : vwok xs.length lo ((lo : Int) + m) = some u) (ha : aw.set id (.arr e c ((clr xs lo m z0).map en)) = aw') (h : K2 (.tup []) aw') : OP P N ⟨d, .call ⟨.builtin .clear, #[x], #[t]⟩, ty, ps, af, g⟩ (mkA n l) aw K2 :=
  OP.of_ok (fun σ w F a har hs => by
    subst ha
    unfold vwok at hv; split at hv
    · rename_i hc
      have ex := har.ev x
      rw [ev_mkA, hx] at ex
      obtain ⟨N0, C, K, A, B, hσ, hval, hn, hA⟩ := (isV_vw ex).out
      obtain ⟨i, zv, hi, hiz, hzl, hz1, hzr⟩ := zero_some hz
      have hrel := init_rel (hzr σ w F) (by rw [hen]; exact hS.p) m
      have hcm : (clr xs lo m z0).map en = (xs.map en).take lo ++ List.replicate m (en z0) ++ (xs.map en).drop (lo + m) := by
        unfold clr; simp [List.map_take, List.map_drop]
      rw [hcm] at h
      by_cases h0 : m = 0
      · subst h0
        have hset : aw.set id (.arr e c ((xs.map en).take lo ++ List.replicate 0 (en z0) ++ (xs.map en).drop (lo + 0))) = aw := by
          obtain ⟨hlt, hvs⟩ := List.getElem?_eq_some_iff.1 ho
          have : aw.set id aw[id] = aw := List.set_getElem_self hlt
          rw [hvs] at this; simpa using this
        rw [hset] at h
        refine ⟨.tuple #[], _, w, aw, σ, F, _, ?_, .inl rfl, hs, .refl .., rel_undef, h⟩
        cases A <;> simp [execOp, resolve, invoke, builtin, Sem.run_bind, hval, Builtin.clear_, run_underlying hS.u]
      · obtain ⟨g0, rfl, rfl⟩ := hA (by omega)
        have hzs : zv.cells.size = c := by rw [← hen z0]; simpa using hzl
        have hcells : (Builtin.zeroCells zv.cells m).toList = (madeCells zv.cells (m * c)).toList := by
          simp [Builtin.zeroCells, madeCells, hzs]
        rw [hen] at hrel
        obtain ⟨w', hst, s2, m2⟩ := store_rows (P := P) (B := none) (news := List.replicate m (en z0)) (vs := (Builtin.zeroCells zv.cells m).toList) (lo := lo) (k := m) hs ho hσ (by simp) (by simp; omega) (fun row hr => by rw [List.eq_of_mem_replicate hr]; exact hen z0) (by simp [size_zeroCells, hzs]) (by rw [hcells]; exact hrel) (fun u hu => by rw [hcells] at hu; exact one_made hz1 (by rw [hzs]; exact hS.p) _ u hu)
        refine ⟨.tuple #[], _, w', _, σ, F, _, ?_, .inl rfl, s2, m2, rel_undef, h⟩
        have hzr' := run_zeroValue' (P := P) hi hiz w
        have hm0 : m ≠ 0 := h0
        cases m with
        | zero => exact absurd rfl h0
        | succ m => simp [execOp, resolve, invoke, builtin, Sem.run_bind, hval, Builtin.clear_, run_underlying hS.u, hzr', hst]
    · cases hv)
theorem v_len_vw {t e c id lo m : Nat} {x : Operand} {cap : Option Nat} (hS : SliceOf P t e c) (hx : evA n l x = .vw id c lo m cap) (h : K2 (.int .i64 m) aw) : OP P N ⟨d, .call ⟨.builtin .len, #[x], #[t]⟩, ty, ps, af, g⟩ (mkA n l) aw K2 :=
  OP.of_ok (fun σ w F a har hs => by
    have ex := har.ev x
    rw [ev_mkA, hx] at ex
    generalize hvx : a.eval x = vx at ex
    cases ex with
    | vw _ _ _ _ N0 C _ A B hσ hn hA hc _ =>
      refine ⟨.int .i64 m, _, w, aw, σ, F, _, ?_, .inl rfl, hs, .refl .., .int _ _, h⟩
      simp [execOp, resolve, invoke, builtin, Sem.run_bind, hvx, Builtin.len_, run_underlying hS.u, goInt])
theorem rn_vw {ρ : List Nat} {k id c lo m lo' m' : Nat} {cap : Option Nat} (h : ρ[k]? = some id) (h1 : lo = lo') (h2 : m = m') : Ren ρ (.vw k c lo m cap) (.vw id c lo' m' cap) := fun σ w F v hr σ' hσ => by
  subst h1 h2
  cases hr with
  | vw _ _ _ _ N0 C _ A B hg hn hA hc hz => exact .vw k c lo m N0 C cap A B (by rw [hσ k id h]; exact hg) hn hA hc hz
end
end Go.Proofs.Ytegkmfokfakeiaa
