/-
  Maps of the call's own. For every program.
-/
import Derived.Test.YtegkmfokfakeiaaSEq
import Derived.Test.YtegkmfokfakeiaaFr
import Derived.Test.YtegkmfokfakeiaaOz
namespace Go.Proofs.Ytegkmfokfakeiaa
open Go.RowKit
set_option linter.unusedVariables false
set_option linter.unusedSimpArgs false

theorem kix_get {κ : Type} [DecidableEq κ] {k : κ} : ∀ {ks : List κ} {i : Nat}, kix k ks = some i → ks[i]? = some k
  | [], i, h => by cases h
  | k' :: r, i, h => by
    unfold kix at h
    split at h
    · rename_i e; cases h; rw [e]; rfl
    · rw [Option.map_eq_some_iff] at h
      obtain ⟨j, hj, rfl⟩ := h
      simpa using kix_get hj
theorem mget_kix {κ ν : Type} [DecidableEq κ] {k : κ} : ∀ (xs : List (κ × ν)), mget k xs = (kix k (xs.map (·.1))).bind fun i => (xs.map (·.2))[i]?
  | [] => rfl
  | p :: r => by
    simp only [mget, List.map_cons, kix]
    split
    · rfl
    · rw [mget_kix r]
      cases kix k (r.map (·.1)) <;> simp
theorem mset_some {κ ν : Type} [DecidableEq κ] {k : κ} {v : ν} : ∀ {xs : List (κ × ν)} {i : Nat}, kix k (xs.map (·.1)) = some i → (mset k v xs).map (·.1) = xs.map (·.1) ∧ (mset k v xs).map (·.2) = (xs.map (·.2)).set i v
  | [], i, h => by cases h
  | p :: r, i, h => by
    simp only [List.map_cons, kix] at h
    simp only [mset]
    split at h
    · rename_i e; cases h; rw [if_pos e]; simp [e]
    · rename_i e
      rw [if_neg e]
      rw [Option.map_eq_some_iff] at h
      obtain ⟨j, hj, rfl⟩ := h
      obtain ⟨h1, h2⟩ := mset_some (v := v) hj
      simp [h1, h2]
theorem mset_none {κ ν : Type} [DecidableEq κ] {k : κ} {v : ν} : ∀ {xs : List (κ × ν)}, kix k (xs.map (·.1)) = none → mset k v xs = xs ++ [(k, v)]
  | [], h => rfl
  | p :: r, h => by
    simp only [List.map_cons, kix] at h
    simp only [mset]
    split at h
    · cases h
    · rename_i e
      rw [if_neg e]
      rw [Option.map_eq_none_iff] at h
      rw [mset_none h]; rfl

/-- A type whose values can be keys, said of data. -/
structure KeyT (P : Program) (kt : TypeId) {κ : Type} [DecidableEq κ] (ek : κ → AV) : Prop where
  out : ∃ d, P.underlying kt = some d ∧ (∀ (b : Bool) (k : κ) σ w F v, Rel σ w F (ek k) v → ∀ w', (Instr.checkKey b 10000 kt v).run P w' = .ok () w') ∧
    (∀ (k k' : κ) σ w F v v', Rel σ w F (ek k) v → Rel σ w F (ek k') v' → Instr.sameNow d v v' = some (decide (k = k')) ∧ (k = k' → Instr.sameBits 10000 v' v = true ∧ v' = v))

theorem chk_int {P : Program} {kt : TypeId} {q k : IntKind} (hu : P.underlying kt = some (.int q)) (b : Bool) (m : Nat) (x : Int) (w : World) : (Instr.checkKey b (m + 1) kt (.int k x)).run P w = .ok () w := by
  simp [Instr.checkKey, run_underlying hu, Sem.run_bind]
theorem chk_str {P : Program} {kt : TypeId} (hu : P.underlying kt = some .string) (b : Bool) (m : Nat) (x : ByteArray) (w : World) : (Instr.checkKey b (m + 1) kt (.string x)).run P w = .ok () w := by
  simp [Instr.checkKey, run_underlying hu, Sem.run_bind]
theorem bytes_beq (x y : List UInt8) : (ByteArray.mk x.toArray == ByteArray.mk y.toArray) = decide (x = y) := by
  show (x.toArray == y.toArray) = decide (x = y)
  by_cases e : x = y
  · subst e; simp
  · simp [e]
theorem bits_int (m : Nat) (k : IntKind) (a : Int) : Instr.sameBits m (.int k a) (.int k a) = true := by cases m <;> simp [Instr.sameBits]
theorem bits_str (m : Nat) (a : List UInt8) : Instr.sameBits m (.string ⟨a.toArray⟩) (.string ⟨a.toArray⟩) = true := by cases m <;> simp [Instr.sameBits, bytes_beq]
theorem KeyT.int {P : Program} {kt : TypeId} {q : IntKind} (hu : P.underlying kt = some (.int q)) : KeyT P kt (fun n : Int => .int .i64 n) := by
  refine ⟨_, hu, fun b k σ w F v h w' => ?_, fun k k' σ w F v v' h h' => ?_⟩
  · cases h
    exact chk_int hu b 9999 k w'
  · cases h; cases h'
    refine ⟨by simp [Instr.sameNow]; exact Bool.beq_eq_decide_eq k k', fun e => ?_⟩
    subst e
    exact ⟨bits_int _ _ _, rfl⟩
theorem KeyT.str {P : Program} {kt : TypeId} (hu : P.underlying kt = some .string) : KeyT P kt (fun s : List UInt8 => .str s) := by
  refine ⟨_, hu, fun b k σ w F v h w' => ?_, fun k k' σ w F v v' h h' => ?_⟩
  · cases h
    exact chk_str hu b 9999 _ w'
  · cases h; cases h'
    refine ⟨by simp only [Instr.sameNow, bytes_beq], fun e => ?_⟩
    subst e
    exact ⟨bits_str _ _, rfl⟩

section
variable {P : Program} {N n : Nat} {aw aw' : List Ob} {l : List (Nat × AV)} {σ : List Value} {w : World} {F : Nat → Prop}

def wput (w : World) (r : Nat) (o : Obj) : World := { w with heap := w.heap.setIfInBounds r o }
theorem wput_same {w : World} {r : Nat} {o : Obj} (h : r < w.heap.size) : (wput w r o).heap[r]? = some o := by simp [wput, h]
theorem wput_other {w : World} {r k : Nat} {o : Obj} (h : k ≠ r) : (wput w r o).heap[k]? = w.heap[k]? := by simp [wput, Array.getElem?_setIfInBounds_ne (Ne.symm h)]
theorem wput_size {w : World} {r : Nat} {o : Obj} : (wput w r o).heap.size = w.heap.size := by simp [wput]
theorem go_getMap {w : World} {r : Nat} {es : Array MapEntry} {clock : Nat} (hb : w.heap[r]? = some (.map es clock)) : (getObj r).run P w = .ok (.map es clock) w := by simp [getObj, Sem.run, hb]
theorem go_setMap {w : World} {r : Nat} {es : Array MapEntry} {clock : Nat} (o : Obj) (hb : w.heap[r]? = some (.map es clock)) : (setObj r o).run P w = .ok () (wput w r o) := by simp [setObj, Sem.run, hb, wput]
theorem findNow_ok {κ : Type} [DecidableEq κ] {d : TypeDesc} {k : κ} {v : Value} : ∀ (es : List MapEntry) (ks : List κ) (i0 : Nat), es.length = ks.length →
    (∀ (j : Nat) k' e, ks[j]? = some k' → es[j]? = some e → Instr.sameNow d v e.key = some (decide (k = k'))) →
    Instr.findNow d v es i0 = some ((kix k ks).bind fun i => (es[i]?).map fun e => (i0 + i, e.val))
  | [], [], i0, _, _ => rfl
  | e :: es, k' :: ks, i0, hl, h => by
    have h0 := h 0 k' e rfl rfl
    simp only [Instr.findNow, h0, kix]
    by_cases hk : k = k'
    · simp [hk]
    · simp only [hk, decide_false, if_false]
      rw [findNow_ok es ks (i0 + 1) (by simpa using hl) (fun j k2 e2 h1 h2 => h (j + 1) k2 e2 (by simpa using h1) (by simpa using h2))]
      cases kix k ks with
      | none => rfl
      | some i => simp [Nat.add_comm, Nat.add_left_comm, Nat.add_assoc]
  | [], _ :: _, _, hl, _ => by simp at hl
  | _ :: _, [], _, hl, _ => by simp at hl

theorem findKey_ok {κ : Type} [DecidableEq κ] {ek : κ → AV} {kt : TypeId} (hK : KeyT P kt ek) {k : κ} {ks : List κ} {es : Array MapEntry} {v : Value} (hr : RelL σ w F (ks.map ek) (es.toList.map (·.key))) (hv : Rel σ w F (ek k) v) (w' : World) :
    (Instr.findKey kt v es.toList).run P w' = .ok ((kix k ks).bind fun i => (es[i]?).map fun e => (i, e.val)) w' := by
  obtain ⟨d, hu, hc, hs⟩ := hK.out
  have hl : es.toList.length = ks.length := by simpa using hr.1
  have h := findNow_ok (d := d) (k := k) (v := v) es.toList ks 0 hl (fun j k' e h1 h2 => by
    refine (hs k k' σ w F v e.key hv (hr.2 j _ _ (by rw [List.getElem?_map, h1]; rfl) (by rw [List.getElem?_map, h2]; rfl))).1)
  simp only [Instr.findKey, Sem.run_bind, run_underlying hu, Result.andThen_ok, h, Sem.run_pure]
  congr 1
  cases kix k ks with
  | none => rfl
  | some i => simp

theorem val_at {vs : List AV} {es : Array MapEntry} (hv : RelL σ w F vs (es.toList.map (·.val))) {i : Nat} {a : AV} (h : vs[i]? = some a) : ∃ e, es[i]? = some e ∧ Rel σ w F a e.val := by
  obtain ⟨u, hu, hr⟩ := hv.get h
  rw [List.getElem?_map, Option.map_eq_some_iff] at hu
  obtain ⟨e, he, rfl⟩ := hu
  exact ⟨e, by simpa using he, hr⟩

theorem mp_form {id : Nat} {ks vs : List AV} (hs : Sim aw σ w F) (ho : aw[id]? = some (.mp ks vs)) {r : Option Nat} (hσ : σ[id]? = some (.map r)) :
    ∃ g es clock, r = some g ∧ w.heap[g]? = some (.map es clock) ∧ RelL σ w F ks (es.toList.map (·.key)) ∧ RelL σ w F vs (es.toList.map (·.val)) ∧ ¬ F g := by
  obtain ⟨g, es, clock, e1, h1, h2, h3, h4⟩ := hs.obj id _ _ ho hσ
  injection e1 with e1
  exact ⟨g, es, clock, e1, h1, h2, h3, h4⟩

/- making -/
variable {d : Option Tmp} {ty : TypeId} {ps : String} {af : Array Edge} {g : Option (Nat × Bool)} {K2 : AV → List Ob → Prop}
theorem o_makeMap {t : TypeId} {k : Nat} (hk : aw.length = k) (ha : aw ++ [.mp [] []] = aw') (h : K2 (.mpr k) aw') : OP P N ⟨d, .makeMap t none, ty, ps, af, g⟩ (mkA n l) aw K2 :=
  OP.of_ok (fun σ w F a har hs => by
    subst hk ha
    have hk : ∀ b, b < w.heap.size → (w.alloc (.map #[] 0)).heap[b]? = w.heap[b]? := fun b hb => Below.heap_alloc w _ b hb
    have hn : ∀ b, Bk (.mp [] []) (.map (some w.heap.size)) b → w.heap.size ≤ b := fun b hb => by simp [Bk, blk] at hb; omega
    refine ⟨.map (some w.heap.size), _, w.alloc (.map #[] 0), _, σ ++ [.map (some w.heap.size)], F, _, ?_, .inl rfl, hs.push (.mp [] []) _ hk (by simp) ⟨w.heap.size, #[], 0, rfl, heap_alloc_new w _, .nil, .nil, fun hF => ?_⟩ hn,
      .push hs (.mp [] []) _ rfl rfl rfl hk (by simp) hn, .mpr _ (some w.heap.size) (by rw [← hs.len]; simp), h⟩
    · simp [execOp, Instr.makeMap, Sem.run_bind]
    · have := hs.lt _ hF; omega)

def pickA (vs : List AV) (az : AV) : Option Nat → Option AV
  | some i => vs[i]?
  | none => some az
/-- A map is looked up: what stands there, or the zero value. -/
theorem o_lookup_av {κ : Type} [DecidableEq κ] {ek : κ → AV} {ks : List κ} {vs : List AV} {t kt et : TypeId} {x y : Operand} {id : Nat} {k : κ} {b : Bool} {z : Value} {az a : AV}
    (hm : P.underlying t = some (.map kt et)) (hK : KeyT P kt ek) (hz : (P.info? et).bind (·.zero) = some z) (hza : ∀ σ w F, Rel σ w F az z) (hx : evA n l x = .mpr id) (hy : evA n l y = ek k) (ho : aw[id]? = some (.mp (ks.map ek) vs))
    (hr : pickA vs az (kix k ks) = some a)
    (h : K2 (if b = true then .tup [a, .bool (kix k ks).isSome] else a) aw) : OP P N ⟨d, .lookup t x y b, ty, ps, af, g⟩ (mkA n l) aw K2 :=
  OP.of_ok (fun σ w F ac har hs => by
    have ex := har.ev x
    have ey := har.ev y
    rw [ev_mkA, hx] at ex
    rw [ev_mkA, hy] at ey
    generalize hvx : ac.eval x = vx at ex
    generalize hvy : ac.eval y = vy at ey
    cases ex with
    | mpr _ r hσ =>
      obtain ⟨g0, es, clock, rfl, hg, hks, hvs, hF⟩ := mp_form hs ho hσ
      obtain ⟨dd, hu, hc, _⟩ := hK.out
      have hf := findKey_ok hK hks ey w
      have hzr : (zeroValue et).run P w = .ok z w := by
        rw [Option.bind_eq_some_iff] at hz
        obtain ⟨i, hi, hzi⟩ := hz
        exact run_zeroValue' hi hzi w
      have hchk := hc es.isEmpty k σ w F vy ey w
      cases hkx : kix k ks with
      | none =>
        rw [hkx] at hf hr h
        change some az = some a at hr
        cases hr
        have hrun : (Instr.lookup t (.map (some g0)) vy b).run P w = .ok (if b = true then .tuple #[z, .bool false] else z) w := by
          simp only [Instr.lookup, Sem.run_bind, run_underlying hm, Result.andThen_ok, go_getMap hg, Sem.run_pure, hchk, hf, Option.bind_none, hzr]
        refine ⟨if b = true then .tuple #[z, .bool false] else z, _, w, aw, σ, F, _, ?_, .inl rfl, hs, .refl .., ?_, h⟩
        · simp only [execOp, hvx, hvy, Sem.run_bind, hrun, Result.andThen_ok, Sem.run_pure]
        · cases b with
          | true => exact .tup [az, .bool false] [z, .bool false] rfl (fun j c u hc hu => by
              match j with
              | 0 => simp at hc hu; subst hc hu; exact hza σ w F
              | 1 => simp at hc hu; subst hc hu; exact .bool _
              | j + 2 => simp at hc)
          | false => exact hza σ w F
      | some i =>
        rw [hkx] at hf hr h
        change vs[i]? = some a at hr
        obtain ⟨e, he, hrel⟩ := val_at hvs hr
        have hf' : (Instr.findKey kt vy es.toList).run P w = .ok (some (i, e.val)) w := by rw [hf]; simp [he]
        have hrun : (Instr.lookup t (.map (some g0)) vy b).run P w = .ok (if b = true then .tuple #[e.val, .bool true] else e.val) w := by
          simp only [Instr.lookup, Sem.run_bind, run_underlying hm, Result.andThen_ok, go_getMap hg, Sem.run_pure, hchk, hf']
        refine ⟨if b = true then .tuple #[e.val, .bool true] else e.val, _, w, aw, σ, F, _, ?_, .inl rfl, hs, .refl .., ?_, h⟩
        · simp only [execOp, hvx, hvy, Sem.run_bind, hrun, Result.andThen_ok, Sem.run_pure]
        · cases b with
          | true => exact .tup [a, .bool true] [e.val, .bool true] rfl (fun j c u hc hu => by
              match j with
              | 0 => simp at hc hu; subst hc hu; exact hrel
              | 1 => simp at hc hu; subst hc hu; exact .bool _
              | j + 2 => simp at hc)
          | false => exact hrel)

theorem push_key {es : Array MapEntry} {ks : List AV} {e : MapEntry} {a : AV} (h : RelL σ w F ks (es.toList.map (·.key))) (hr : Rel σ w F a e.key) : RelL σ w F (ks ++ [a]) ((es.push e).toList.map (·.key)) := by
  have : (es.push e).toList.map (·.key) = es.toList.map (·.key) ++ [e.key] := by simp
  rw [this]; exact h.append (.cons hr .nil)
theorem push_val {es : Array MapEntry} {ks : List AV} {e : MapEntry} {a : AV} (h : RelL σ w F ks (es.toList.map (·.val))) (hr : Rel σ w F a e.val) : RelL σ w F (ks ++ [a]) ((es.push e).toList.map (·.val)) := by
  have : (es.push e).toList.map (·.val) = es.toList.map (·.val) ++ [e.val] := by simp
  rw [this]; exact h.append (.cons hr .nil)

/-- A map's block is written. -/
theorem mp_write {id g0 clock c2 : Nat} {es es' : Array MapEntry} {ks vs ks' vs' : List AV} (hs : Sim aw σ w F) (ho : aw[id]? = some (.mp ks vs)) (hσ : σ[id]? = some (.map (some g0))) (hg : w.heap[g0]? = some (.map es clock)) (hF : ¬ F g0)
    (hk : RelL σ w F ks' (es'.toList.map (·.key))) (hv : RelL σ w F vs' (es'.toList.map (·.val))) :
    Sim (aw.set id (.mp ks' vs')) σ (wput w g0 (.map es' c2)) F ∧ Mv aw σ w F (aw.set id (.mp ks' vs')) σ (wput w g0 (.map es' c2)) F := by
  have hlt : g0 < w.heap.size := (Array.getElem?_eq_some_iff.1 hg).1
  have hoth : ∀ b, b ≠ g0 → (wput w g0 (.map es' c2)).heap[b]? = w.heap[b]? := fun b hb => wput_other hb
  have hFw : ∀ b, F b → (wput w g0 (.map es' c2)).heap[b]? = w.heap[b]? := fun b hb => hoth b (fun e => hF (e ▸ hb))
  refine ⟨hs.write (b0 := g0) id ho rfl hσ rfl hoth wput_size (.mp ks' vs') ⟨g0, es', c2, rfl, wput_same hlt, hk.mono (fun _ _ e => e) (fun _ e => e) hFw, hv.mono (fun _ _ e => e) (fun _ e => e) hFw, hF⟩ (fun _ h => h),
    Mv.write (w := w) (w' := wput w g0 (.map es' c2)) (F := F) (b0 := g0) id ho rfl hσ rfl rfl rfl rfl hoth wput_size (.mp ks' vs') (fun _ h => h)⟩

theorem modify_key {es : Array MapEntry} {i : Nat} {e : MapEntry} (he : es[i]? = some e) (k v : Value) (hk : e.key = k) : (es.modify i fun e => { e with key := k, val := v }).toList.map (·.key) = es.toList.map (·.key) := by
  apply List.ext_getElem?
  intro j
  rw [List.getElem?_map, List.getElem?_map, Array.getElem?_toList, Array.getElem?_toList, Array.getElem?_modify]
  by_cases h : i = j
  · subst h; simp [he, hk]
  · simp [h]
theorem modify_val {es : Array MapEntry} {i : Nat} {e : MapEntry} (he : es[i]? = some e) (k v : Value) : (es.modify i fun e => { e with key := k, val := v }).toList.map (·.val) = (es.toList.map (·.val)).set i v := by
  apply List.ext_getElem?
  intro j
  rw [List.getElem?_map, Array.getElem?_toList, Array.getElem?_modify, List.getElem?_set]
  by_cases h : i = j
  · subst h
    have hlt : i < es.size := (Array.getElem?_eq_some_iff.1 he).1
    simp [he, hlt]
  · simp [h]

/-- A map is written. -/
theorem mapUpdate_av {κ : Type} [DecidableEq κ] {ek : κ → AV} {ks : List κ} {vs : List AV} {t kt et : TypeId} {id : Nat} {k : κ} {a : AV} {r : Option Nat} {vy vz : Value}
    (hm : P.underlying t = some (.map kt et)) (hK : KeyT P kt ek) (hs : Sim aw σ w F) (ho : aw[id]? = some (.mp (ks.map ek) vs)) (hσ : σ[id]? = some (.map r)) (hy : Rel σ w F (ek k) vy) (hz : Rel σ w F a vz) :
    ∃ w', (Instr.mapUpdate t (.map r) vy vz).run P w = .ok () w' ∧
      (match kix k ks with
        | some i => Sim (aw.set id (.mp (ks.map ek) (vs.set i a))) σ w' F ∧ Mv aw σ w F (aw.set id (.mp (ks.map ek) (vs.set i a))) σ w' F
        | none => Sim (aw.set id (.mp ((ks ++ [k]).map ek) (vs ++ [a]))) σ w' F ∧ Mv aw σ w F (aw.set id (.mp ((ks ++ [k]).map ek) (vs ++ [a]))) σ w' F) := by
  obtain ⟨g0, es, clock, rfl, hg, hks, hvs, hF⟩ := mp_form hs ho hσ
  obtain ⟨dd, hu, hc, hsame⟩ := hK.out
  have hf := findKey_ok hK hks hy w
  have hchk := hc false k σ w F vy hy w
  have hput : ∀ o : Obj, (setObj g0 o).run P w = .ok () (wput w g0 o) := fun o => go_setMap o hg
  cases hkx : kix k ks with
  | none =>
    rw [hkx] at hf
    obtain ⟨h1, h2⟩ := mp_write (c2 := clock + 1) hs ho hσ hg hF (push_key (e := { key := vy, val := vz, born := clock }) hks hy) (push_val (e := { key := vy, val := vz, born := clock }) hvs hz)
    refine ⟨wput w g0 (.map (es.push { key := vy, val := vz, born := clock }) (clock + 1)), ?_, by simpa using h1, by simpa using h2⟩
    simp only [Instr.mapUpdate, Sem.run_bind, run_underlying hm, Result.andThen_ok, go_getMap hg, hchk, hf, Option.bind_none, hput]
  | some i =>
    rw [hkx] at hf
    have hik := kix_get hkx
    have hiv : i < vs.length := by
      have e1 := hks.1
      have e2 := hvs.1
      have := (List.getElem?_eq_some_iff.1 hik).1
      simp at e1 e2; omega
    obtain ⟨e, he, _⟩ := val_at hvs (List.getElem?_eq_getElem hiv)
    have hrk : Rel σ w F (ek k) e.key := hks.2 i _ _ (by rw [List.getElem?_map, hik]; rfl) (by rw [List.getElem?_map, Array.getElem?_toList, he]; rfl)
    obtain ⟨hb, hkeq⟩ := (hsame k k σ w F vy e.key hy hrk).2 rfl
    have hf' : (Instr.findKey kt vy es.toList).run P w = .ok (some (i, e.val)) w := by rw [hf]; simp [he]
    have hstay : (Instr.keyThatStays e.key vy).run P w = .ok vy w := by
      simp [Instr.keyThatStays, hb]
    obtain ⟨h1, h2⟩ := mp_write (es' := es.modify i fun e => { e with key := vy, val := vz }) (c2 := clock) (ks' := ks.map ek) (vs' := vs.set i a) hs ho hσ hg hF (by rw [modify_key he vy vz hkeq]; exact hks) (by rw [modify_val he vy vz]; exact hvs.set i hz)
    refine ⟨wput w g0 (.map (es.modify i fun e => { e with key := vy, val := vz }) clock), ?_, h1, h2⟩
    simp only [Instr.mapUpdate, Sem.run_bind, run_underlying hm, Result.andThen_ok, go_getMap hg, hchk, hf', he, Option.map_some, Option.getD_some, hstay, hput]

theorem o_mapPut_av {κ : Type} [DecidableEq κ] {ek : κ → AV} {ks : List κ} {vs : List AV} {t kt et : TypeId} {op : Op} {x y z : Operand} {id : Nat} {k : κ} {a : AV} {o2 : Ob}
    (hop : op = .mapUpdate t x y z ∨ op = .insert t x y z) (hm : P.underlying t = some (.map kt et)) (hK : KeyT P kt ek) (hx : evA n l x = .mpr id) (hy : evA n l y = ek k) (hz : evA n l z = a) (ho : aw[id]? = some (.mp (ks.map ek) vs))
    (hr : (match kix k ks with | some i => Ob.mp (ks.map ek) (vs.set i a) | none => .mp ((ks ++ [k]).map ek) (vs ++ [a])) = o2) (ha : aw.set id o2 = aw') (h : K2 .any aw') : OP P N ⟨d, op, ty, ps, af, g⟩ (mkA n l) aw K2 :=
  OP.of_ok (fun σ w F ac har hs => by
    subst ha
    have ex := har.ev x
    have ey := har.ev y
    have ez := har.ev z
    rw [ev_mkA, hx] at ex
    rw [ev_mkA, hy] at ey
    rw [ev_mkA, hz] at ez
    generalize hvx : ac.eval x = vx at ex
    cases ex with
    | mpr _ r hσ =>
      obtain ⟨w', hrun, hm'⟩ := mapUpdate_av hm hK hs ho hσ ey ez
      have hexec : (execOp ac.eval ⟨d, op, ty, ps, af, g⟩).run P w = .ok .skip w' := by
        rcases hop with rfl | rfl <;> simp only [execOp, hvx, Sem.run_bind, hrun, Result.andThen_ok, Sem.run_pure]
      cases hkx : kix k ks with
      | none =>
        rw [hkx] at hr hm'
        subst hr
        exact ⟨undef, _, w', _, σ, F, .any, hexec, .inr ⟨rfl, rfl⟩, hm'.1, hm'.2, .any _, h⟩
      | some i =>
        rw [hkx] at hr hm'
        subst hr
        exact ⟨undef, _, w', _, σ, F, .any, hexec, .inr ⟨rfl, rfl⟩, hm'.1, hm'.2, .any _, h⟩)

/- maps of typed data: 'xs': keys and values -/
variable {κ ν : Type} [DecidableEq κ] {ek : κ → AV} {ev : ν → AV} {xs : List (κ × ν)}
theorem o_lookup {t kt et : TypeId} {x y : Operand} {id : Nat} {k : κ} {z : Value} {z0 : ν} (hm : P.underlying t = some (.map kt et)) (hK : KeyT P kt ek) (hz : (P.info? et).bind (·.zero) = some z) (hza : ∀ σ w F, Rel σ w F (ev z0) z)
    (hx : evA n l x = .mpr id) (hy : evA n l y = ek k) (ho : aw[id]? = some (.mp ((xs.map (·.1)).map ek) ((xs.map (·.2)).map ev))) (h : K2 (ev ((mget k xs).getD z0)) aw) : OP P N ⟨d, .lookup t x y false, ty, ps, af, g⟩ (mkA n l) aw K2 := by
  refine o_lookup_av (az := ev z0) (a := ev ((mget k xs).getD z0)) hm hK hz hza hx hy ho ?_ h
  rw [mget_kix]
  cases hk : kix k (xs.map (·.1)) with
  | none => rfl
  | some i =>
    have hi := (List.getElem?_eq_some_iff.1 (kix_get hk)).1
    have hi2 : i < xs.length := by simpa using hi
    simp [pickA, hi2]
theorem o_lookup_ok {t kt et : TypeId} {x y : Operand} {id : Nat} {k : κ} {z : Value} {z0 : ν} (hm : P.underlying t = some (.map kt et)) (hK : KeyT P kt ek) (hz : (P.info? et).bind (·.zero) = some z) (hza : ∀ σ w F, Rel σ w F (ev z0) z)
    (hx : evA n l x = .mpr id) (hy : evA n l y = ek k) (ho : aw[id]? = some (.mp ((xs.map (·.1)).map ek) ((xs.map (·.2)).map ev))) (h : K2 (.tup [ev ((mget k xs).getD z0), .bool (mget k xs).isSome]) aw) : OP P N ⟨d, .lookup t x y true, ty, ps, af, g⟩ (mkA n l) aw K2 := by
  have key : pickA ((xs.map (·.2)).map ev) (ev z0) (kix k (xs.map (·.1))) = some (ev ((mget k xs).getD z0)) ∧ (kix k (xs.map (·.1))).isSome = (mget k xs).isSome := by
    rw [mget_kix]
    cases hk : kix k (xs.map (·.1)) with
    | none => exact ⟨rfl, rfl⟩
    | some i =>
      have hi := (List.getElem?_eq_some_iff.1 (kix_get hk)).1
      have hi2 : i < xs.length := by simpa using hi
      simp [pickA, hi2]
  exact o_lookup_av (az := ev z0) (a := ev ((mget k xs).getD z0)) hm hK hz hza hx hy ho key.1 (by rw [if_pos rfl, key.2]; exact h)
theorem o_mapPut {t kt et : TypeId} {op : Op} {x y z : Operand} {id : Nat} {k : κ} {a : ν} (hop : op = .mapUpdate t x y z ∨ op = .insert t x y z) (hm : P.underlying t = some (.map kt et)) (hK : KeyT P kt ek)
    (hx : evA n l x = .mpr id) (hy : evA n l y = ek k) (hz : evA n l z = ev a) (ho : aw[id]? = some (.mp ((xs.map (·.1)).map ek) ((xs.map (·.2)).map ev)))
    (ha : aw.set id (.mp (((mset k a xs).map (·.1)).map ek) (((mset k a xs).map (·.2)).map ev)) = aw') (h : K2 .any aw') : OP P N ⟨d, op, ty, ps, af, g⟩ (mkA n l) aw K2 := by
  refine o_mapPut_av hop hm hK hx hy hz ho ?_ ha h
  cases hk : kix k (xs.map (·.1)) with
  | none => rw [mset_none hk]; simp
  | some i =>
    obtain ⟨h1, h2⟩ := mset_some (v := a) hk
    rw [h1, h2]
    simp [List.map_set]
theorem o_len_map {x : Operand} {t kt et : TypeId} {id : Nat} {ks vs : List AV} {m : Nat} (hm : P.underlying t = some (.map kt et)) (hx : evA n l x = .mpr id) (ho : aw[id]? = some (.mp ks vs)) (hl : ks.length = m) (h : K2 (.int .i64 m) aw) :
    OP P N ⟨d, .call ⟨.builtin .len, #[x], #[t]⟩, ty, ps, af, g⟩ (mkA n l) aw K2 :=
  OP.of_ok (fun σ w F ac har hs => by
    have ex := har.ev x
    rw [ev_mkA, hx] at ex
    generalize hvx : ac.eval x = vx at ex
    cases ex with
    | mpr _ r hσ =>
      obtain ⟨g0, es, clock, rfl, hg, hks, hvs, hF⟩ := mp_form hs ho hσ
      have e1 : es.size = m := by have := hks.1; simp at this; omega
      refine ⟨.int .i64 m, _, w, aw, σ, F, _, ?_, .inl rfl, hs, .refl .., .int _ _, h⟩
      simp [execOp, resolve, invoke, builtin, Sem.run_bind, hvx, Builtin.len_, run_underlying hm, go_getMap hg, goInt, e1])
end
/- forgetting, handing on -/
section
variable {P : Program} {aw aw' : List Ob} {κ ν : Type} {ek : κ → AV} {ev : ν → AV} {xs : List (κ × ν)}
theorem renL_same {ρ : List Nat} : ∀ {as : List AV}, (∀ a, a ∈ as → Pure a) → RenL ρ as as
  | [], _ => trivial
  | a :: as, h => ⟨ren_pure (h a (.head _)), renL_same fun b hb => h b (.tail _ hb)⟩
theorem rw_mp {ρ ids : List Nat} {id : Nat} {ys : List (κ × ν)} (h : aw[id]? = some (.mp ((ys.map (·.1)).map ek) ((ys.map (·.2)).map ev))) (hk : ∀ k, Pure (ek k)) (hv : ∀ v, Pure (ev v)) (hx : xs = ys) (t : RenW ρ aw ids aw') :
    RenW ρ aw (id :: ids) (.mp ((xs.map (·.1)).map ek) ((xs.map (·.2)).map ev) :: aw') := by
  subst hx
  exact ⟨⟨_, h, renL_same fun a ha => (by obtain ⟨k, _, rfl⟩ := List.mem_map.1 ha; exact hk k), renL_same fun a ha => (by obtain ⟨k, _, rfl⟩ := List.mem_map.1 ha; exact hv k)⟩, t⟩
theorem rw_mps {ρ ids : List Nat} {id : Nat} {ks vs ks' vs' : List AV} (h : aw[id]? = some (.mp ks vs)) (hk : RenL ρ ks' ks) (hv : RenL ρ vs' vs) (t : RenW ρ aw ids aw') : RenW ρ aw (id :: ids) (.mp ks' vs' :: aw') := ⟨⟨_, h, hk, hv⟩, t⟩
theorem rn_mpr {ρ : List Nat} {k id : Nat} (h : ρ[k]? = some id) : Ren ρ (.mpr k) (.mpr id) := fun σ w F v hr σ' hσ => by
  cases hr with
  | mpr _ r hg => exact .mpr k r (by rw [hσ k id h]; exact hg)
theorem rm_mpr {m : List (Nat × Nat)} {k id : Nat} (h : (k, id) ∈ m) : RenM m (.mpr k) (.mpr id) := fun σ w F v hr σ' hσ => by
  cases hr with
  | mpr _ r hg => exact .mpr k r (by have := hσ _ h; simp only at this; rw [this]; exact hg)
theorem renLM_same {m : List (Nat × Nat)} : ∀ {as : List AV}, (∀ a, a ∈ as → Pure a) → RenLM m as as
  | [], _ => trivial
  | a :: as, h => ⟨rm_pure (h a (.head _)), renLM_same fun b hb => h b (.tail _ hb)⟩
theorem rom_mp {m : List (Nat × Nat)} (hk : ∀ k, Pure (ek k)) (hv : ∀ v, Pure (ev v)) : RenOM m (.mp ((xs.map (·.1)).map ek) ((xs.map (·.2)).map ev)) (.mp ((xs.map (·.1)).map ek) ((xs.map (·.2)).map ev)) :=
  ⟨renLM_same fun a ha => (by obtain ⟨k, _, rfl⟩ := List.mem_map.1 ha; exact hk k), renLM_same fun a ha => (by obtain ⟨k, _, rfl⟩ := List.mem_map.1 ha; exact hv k)⟩
end
abbrev kI (n : Int) : AV := .int .i64 n
abbrev kS (s : List UInt8) : AV := .str s
abbrev kB (b : Bool) : AV := .bool b
abbrev kU (_ : Unit) : AV := .agg []
theorem rel_agg {σ : List Value} {w : World} {F : Nat → Prop} {cs : List AV} {vs : List Value} (h : RelL σ w F cs vs) (h1 : vs.all (·.oneCell') = true) : Rel σ w F (.agg cs) (.agg vs.toArray) :=
  .agg cs vs h.1 (fun u hu => List.all_eq_true.1 h1 u hu) h.2
theorem rel_agg0 {σ : List Value} {w : World} {F : Nat → Prop} : Rel σ w F (.agg []) (.agg #[]) := rel_agg (vs := []) .nil rfl
theorem kix_nil {κ : Type} [DecidableEq κ] {k : κ} : kix k ([] : List κ) = none := rfl
theorem kix_eq {κ : Type} [DecidableEq κ] {k k' : κ} {r : List κ} (h : k = k') : kix k (k' :: r) = some 0 := if_pos h
theorem kix_ne {κ : Type} [DecidableEq κ] {k k' : κ} {r : List κ} {o : Option Nat} (h : k ≠ k') (h2 : kix k r = o) : kix k (k' :: r) = o.map (· + 1) := by rw [← h2]; exact if_neg h
section
variable {P : Program} {N n : Nat} {aw aw' : List Ob} {l : List (Nat × AV)} {d : Option Tmp} {ty : TypeId} {ps : String} {af : Array Edge} {g : Option (Nat × Bool)} {K2 : AV → List Ob → Prop}
theorem o_lookup_st {κ : Type} [DecidableEq κ] {ek : κ → AV} {ks : List κ} {vs : List AV} {t kt et : TypeId} {x y : Operand} {id : Nat} {k : κ} {z : Value} {az a : AV} {r : Option Nat}
    (hm : P.underlying t = some (.map kt et)) (hK : KeyT P kt ek) (hz : (P.info? et).bind (·.zero) = some z) (hza : ∀ σ w F, Rel σ w F az z) (hx : evA n l x = .mpr id) (hy : evA n l y = ek k) (ho : aw[id]? = some (.mp (ks.map ek) vs))
    (hk : kix k ks = r) (hr : pickA vs az r = some a) (h : K2 a aw) : OP P N ⟨d, .lookup t x y false, ty, ps, af, g⟩ (mkA n l) aw K2 := by
  subst hk; exact o_lookup_av hm hK hz hza hx hy ho hr h
theorem o_lookup_st_ok {κ : Type} [DecidableEq κ] {ek : κ → AV} {ks : List κ} {vs : List AV} {t kt et : TypeId} {x y : Operand} {id : Nat} {k : κ} {z : Value} {az a : AV} {r : Option Nat}
    (hm : P.underlying t = some (.map kt et)) (hK : KeyT P kt ek) (hz : (P.info? et).bind (·.zero) = some z) (hza : ∀ σ w F, Rel σ w F az z) (hx : evA n l x = .mpr id) (hy : evA n l y = ek k) (ho : aw[id]? = some (.mp (ks.map ek) vs))
    (hk : kix k ks = r) (hr : pickA vs az r = some a) (h : K2 (.tup [a, .bool r.isSome]) aw) : OP P N ⟨d, .lookup t x y true, ty, ps, af, g⟩ (mkA n l) aw K2 := by
  subst hk; exact o_lookup_av hm hK hz hza hx hy ho hr (by rw [if_pos rfl]; exact h)
theorem o_len_mp {κ ν : Type} {ek : κ → AV} {ev : ν → AV} {xs : List (κ × ν)} {x : Operand} {t kt et : TypeId} {id : Nat} (hm : P.underlying t = some (.map kt et)) (hx : evA n l x = .mpr id)
    (ho : aw[id]? = some (.mp ((xs.map (·.1)).map ek) ((xs.map (·.2)).map ev))) (h : K2 (.int .i64 xs.length) aw) : OP P N ⟨d, .call ⟨.builtin .len, #[x], #[t]⟩, ty, ps, af, g⟩ (mkA n l) aw K2 :=
  o_len_map hm hx ho (by simp) h
theorem T.join1 {x y1 y : Code} {Q : Exit → List AV → List Ob → Prop} {fr : List AV} {Z : Type} (F : Z → List AV) (A : Z → List Ob) (S : Z → Prop) (h : ∀ z, S z → T P N y Q (F z) (A z))
    (h2 : (∀ z, S z → T P N y Q (F z) (A z)) → T P N (.seq x (.seq y1 y)) Q fr aw) : T P N (.seq x (.seq y1 y)) Q fr aw := h2 h
theorem T.join2 {x y1 y2 y : Code} {Q : Exit → List AV → List Ob → Prop} {fr : List AV} {Z : Type} (F : Z → List AV) (A : Z → List Ob) (S : Z → Prop) (h : ∀ z, S z → T P N y Q (F z) (A z))
    (h2 : (∀ z, S z → T P N y Q (F z) (A z)) → T P N (.seq x (.seq y1 (.seq y2 y))) Q fr aw) : T P N (.seq x (.seq y1 (.seq y2 y))) Q fr aw := h2 h
theorem T.join3 {x y1 y2 y3 y : Code} {Q : Exit → List AV → List Ob → Prop} {fr : List AV} {Z : Type} (F : Z → List AV) (A : Z → List Ob) (S : Z → Prop) (h : ∀ z, S z → T P N y Q (F z) (A z))
    (h2 : (∀ z, S z → T P N y Q (F z) (A z)) → T P N (.seq x (.seq y1 (.seq y2 (.seq y3 y)))) Q fr aw) : T P N (.seq x (.seq y1 (.seq y2 (.seq y3 y)))) Q fr aw := h2 h
theorem T.join4 {x y1 y2 y3 y4 y : Code} {Q : Exit → List AV → List Ob → Prop} {fr : List AV} {Z : Type} (F : Z → List AV) (A : Z → List Ob) (S : Z → Prop) (h : ∀ z, S z → T P N y Q (F z) (A z))
    (h2 : (∀ z, S z → T P N y Q (F z) (A z)) → T P N (.seq x (.seq y1 (.seq y2 (.seq y3 (.seq y4 y))))) Q fr aw) : T P N (.seq x (.seq y1 (.seq y2 (.seq y3 (.seq y4 y))))) Q fr aw := h2 h
theorem rn_ifc {ρ : List Nat} {t : TypeId} {a b : AV} (h : Ren ρ a b) : Ren ρ (.ifc t a) (.ifc t b) := fun σ w F v hr σ' hσ => by
  cases hr with
  | ifc _ _ u hu => exact .ifc t a u (h σ w F u hu σ' hσ)
theorem o_mkIface {t : TypeId} {x : Operand} {dd : TypeDesc} {a : AV} (hu : P.underlying t = some dd) (hd : (match dd with | .interface _ => false | _ => true) = true) (hx : evA n l x = a) (h : K2 (.ifc t a) aw) : OP P N ⟨d, .makeInterface t x, ty, ps, af, g⟩ (mkA n l) aw K2 :=
  OP.of_ok (fun σ w F ac har hs => by
    have ex := har.ev x
    rw [ev_mkA, hx] at ex
    refine ⟨.iface t (ac.eval x), _, w, aw, σ, F, _, ?_, .inl rfl, hs, .refl .., .ifc _ _ _ ex, h⟩
    cases dd <;> simp_all [execOp, Instr.makeInterface, Sem.run_bind, run_underlying hu])
theorem o_buildSliceN {t : TypeId} {len : Nat} {parts : Array (Nat × Operand)} {e c k : Nat} {z : List AV} {rows : List (List AV)} {vs vs2 : List AV} (hS : SliceOf P t e c) (hz : zeroOf P e = some z) (hl : Nat.ble (len * c) 16777216 = true) (hv : parts.toList.map (fun p => evA n l p.2) = vs) (hn : normL aw vs = (vs2, aw)) (hr : rowsOf P c (List.replicate len z) ((parts.toList.map (·.1)).zip vs2) = some rows) (hk : aw.length = k) (ha : aw ++ [.arr e c rows] = aw') (h : K2 (.ref k) aw') : OP P N ⟨d, .buildSlice t len parts, ty, ps, af, g⟩ (mkA n l) aw K2 :=
  OP.of_vc (by
    subst hk ha
    obtain ⟨z', hz1, hz2⟩ := hS.z
    rw [hz] at hz1; cases hz1
    show vcE P (mkA n l) aw (.buildSlice t len parts) K2
    simp only [vcE, hS.u, hz, hS.c]
    rw [show (parts.toList.map fun p => ev (mkA n l) p.2) = vs from by rw [← hv]; exact List.map_congr_left fun p _ => ev_mkA n l p.2, hn, hr]
    exact ⟨hz2, hS.p, Nat.le_of_ble_eq_true hl, h⟩)
end
end Go.Proofs.Ytegkmfokfakeiaa
