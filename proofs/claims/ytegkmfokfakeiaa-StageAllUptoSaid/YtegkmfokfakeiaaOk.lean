/-
  That the model does on memory what 'vcVal' says of pure data, operation by operation. For every program.
-/
import Derived.Test.YtegkmfokfakeiaaOps
namespace Go.Proofs.Ytegkmfokfakeiaa
open Go.RowKit
set_option linter.unusedVariables false
set_option linter.unusedSimpArgs false

section
variable {P : Program} {σ : List Value} {w : World} {F : Nat → Prop} {aw : List Ob}

theorem info_of_underlying {t : TypeId} {d : TypeDesc} (h : P.underlying t = some d) : ∃ i, P.info? t = some i ∧ P.cellsOf t = i.size ∧ P.bytesOf t = i.bytes := by
  unfold Program.underlying at h
  cases hi : P.info? t with
  | none => rw [hi] at h; simp at h
  | some i => exact ⟨i, rfl, by simp [Program.cellsOf, hi], by simp [Program.bytesOf, hi]⟩
theorem run_sizeOf' {t : TypeId} {d : TypeDesc} (h : P.underlying t = some d) (w : World) : (sizeOf t).run P w = .ok (P.cellsOf t) w := by
  obtain ⟨i, hi, hs, _⟩ := info_of_underlying h
  simp [sizeOf, typeInfo, hi, hs, Sem.run_bind]
theorem kind_some {t : TypeId} {b : Bool} (h : kindT P t = some b) : ∃ d, P.underlying t = some d ∧ ∀ w, (isAgg t).run P w = .ok b w := by
  unfold kindT at h
  cases hu : P.underlying t with
  | none => rw [hu] at h; simp at h
  | some d =>
    refine ⟨d, rfl, fun w => ?_⟩
    rw [hu] at h
    unfold isAgg
    rw [Sem.run_bind, run_underlying hu w]
    cases d <;> simp_all
theorem zero_some {t : TypeId} {z : List AV} (h : zeroOf P t = some z) : ∃ i v, P.info? t = some i ∧ i.zero = some v ∧ v.cells.toList.length = z.length ∧ (∀ u, u ∈ v.cells.toList → u.oneCell' = true) ∧
    ∀ σ w F, RelL σ w F z v.cells.toList := by
  unfold zeroOf at h
  cases hi : P.info? t with
  | none => rw [hi] at h; simp at h
  | some i =>
    rw [hi] at h
    cases hz : i.zero with
    | none => simp [hz] at h
    | some v =>
      simp only [hz, Option.bind_some] at h
      split at h
      · rename_i h1
        simp at h
        subst h
        refine ⟨i, v, rfl, hz, by simp, fun u hu => List.all_eq_true.1 h1 u hu, fun σ w F => ⟨by simp, fun j a u ha hu => ?_⟩⟩
        rw [List.getElem?_map, hu] at ha
        simp at ha
        subst ha
        exact Rel.ofVal1 σ w F u
      · simp at h
theorem run_zeroValue' {t : TypeId} {i : TypeInfo} {v : Value} (hi : P.info? t = some i) (hz : i.zero = some v) (w : World) : (zeroValue t).run P w = .ok v w := by
  simp [zeroValue, typeInfo, hi, hz, Sem.run_bind]

theorem Rel.cells {a : AV} {v : Value} {cs : List AV} (h : Rel σ w F a v) (hc : a.cells = some cs) : RelL σ w F cs v.cells.toList ∧ ∀ u, u ∈ v.cells.toList → u.oneCell' = true := by
  have single : ∀ (u : Value), Rel σ w F a u → u.cells = #[u] → u.oneCell' = true → cs = [a] → RelL σ w F cs u.cells.toList ∧ ∀ x, x ∈ u.cells.toList → x.oneCell' = true := by
    intro u hu e1 e2 e3
    rw [e1, e3]
    exact ⟨.cons hu .nil, fun x hx => by simp at hx; subst hx; exact e2⟩
  cases h with
  | any v => simp [AV.cells] at hc
  | tup cs vs h hc' => simp [AV.cells] at hc
  | agg cs' vs h h1 hc' =>
    simp [AV.cells] at hc
    subst hc
    exact ⟨⟨by simpa [Value.cells] using h, fun j a u ha hu => hc' j a u ha (by simpa [Value.cells] using hu)⟩, by simpa [Value.cells] using h1⟩
  | int k n => simp [AV.cells] at hc; exact single _ (.int k n) rfl rfl hc.symm
  | bool b => simp [AV.cells] at hc; exact single _ (.bool b) rfl rfl hc.symm
  | str s => simp [AV.cells] at hc; exact single _ (.str s) rfl rfl hc.symm
  | nils => simp [AV.cells] at hc; exact single _ .nils rfl rfl hc.symm
  | slNil => simp [AV.cells] at hc; exact single _ .slNil rfl rfl hc.symm
  | sl rows size ad c u hF hn hm hrow hone hcell hrel => simp [AV.cells] at hc; exact single _ (.sl rows size ad c u hF hn hm hrow hone hcell hrel) rfl rfl hc.symm
  | ref id a n c h => simp [AV.cells] at hc; exact single _ (.ref id a n c h) rfl rfl hc.symm
  | ptr id off g h => simp [AV.cells] at hc; exact single _ (.ptr id off g h) rfl rfl hc.symm
  | elt row off ad u hF hone hcell hrel => simp [AV.cells] at hc; exact single _ (.elt row off ad u hF hone hcell hrel) rfl rfl hc.symm
  | aptr id size i off g n c h => simp [AV.cells] at hc; exact single _ (.aptr id size i off g n c h) rfl rfl hc.symm
  | func f cs' vs h hc' => simp [AV.cells] at hc; exact single _ (.func f cs' vs h hc') rfl rfl hc.symm
  | nilf => simp [AV.cells] at hc; exact single _ .nilf rfl rfl hc.symm
  | nilp => simp [AV.cells] at hc; exact single _ .nilp rfl rfl hc.symm
  | nili => simp [AV.cells] at hc; exact single _ .nili rfl rfl hc.symm
  | mpr id r h => simp [AV.cells] at hc; exact single _ (.mpr id r h) rfl rfl hc.symm
  | ifc t a v h => simp [AV.cells] at hc; exact single _ (.ifc t a v h) rfl rfl hc.symm
  | cst v =>
    simp only [AV.cells] at hc
    split at hc
    · rename_i h1
      cases hc
      have e1 : v.cells = #[v] := by cases v <;> first | rfl | simp [Value.oneCell'] at h1
      exact single v (.cst v) e1 h1 rfl
    · cases hc
  | vw id size lo n N C cap A B h hn hA hk hz => simp [AV.cells] at hc; exact single _ (.vw id size lo n N C cap A B h hn hA hk hz) rfl rfl hc.symm
  | ref2 id a n c vs h h0 => simp [AV.cells] at hc; exact single _ (.ref2 id a n c vs h h0) rfl rfl hc.symm
  | aptr2 id i g n c vs h h0 => simp [AV.cells] at hc; exact single _ (.aptr2 id i g n c vs h h0) rfl rfl hc.symm
  | iref id i a n c vs h h0 => simp [AV.cells] at hc; exact single _ (.iref id i a n c vs h h0) rfl rfl hc.symm

/-- The same, whatever has been made besides. -/
theorem Agr.cell {w' : World} (h : Agr aw σ w F w') {ad : Addr} (hb : F ad.block) (j : Nat) : w'.cell? (ad.add j) = w.cell? (ad.add j) :=
  World.cell?_of_block (w := w) (by rw [block_of_add]; exact h _ (.inl hb))
theorem add_box (g off : Nat) : (⟨g, 0, none⟩ : Addr).add off = ⟨g, off, none⟩ := by
  unfold Addr.add; split
  · rename_i h; subst h; rfl
  · simp

theorem loadRow_q {σ' : List Value} {w0 : World} {F' : Nat → Prop} {t : TypeId} {row : List AV} {off : Nat} {K : AV → Prop} {ad : Addr} {u : Nat → Value} (hone : ∀ j, j < row.length → (u j).oneCell' = true)
    (hcell : ∀ w', Agr aw σ w F w' → ∀ j, j < row.length → w'.cell? (ad.add j) = some (u j)) (hrel : ∀ (j : Nat) x, row[j]? = some x → Rel σ' w0 F' x (u j)) (h : loadRow P t row off K) :
    ∃ v r, (∀ w', Agr aw σ w F w' → (loadVar t (ad.add off)).run P w' = .ok v w') ∧ Rel σ' w0 F' r v ∧ K r := by
  unfold loadRow at h
  split at h
  · rename_i hk
    obtain ⟨hlen, hK⟩ := h
    obtain ⟨d, hu, hagg⟩ := kind_some hk
    refine ⟨.agg ((List.range (P.cellsOf t)).map fun j => u (off + j)).toArray, _, fun w' hw' => ?_, ?_, hK⟩
    · have hl := run_loadCells_list (P := P) w' (ad.add off) ((List.range (P.cellsOf t)).map fun j => u (off + j)) (fun j v hj => by
        rw [List.getElem?_map] at hj
        cases hr : (List.range (P.cellsOf t))[j]? with
        | none => rw [hr] at hj; simp at hj
        | some k =>
          rw [hr] at hj
          obtain ⟨hlt, rfl⟩ := List.getElem?_eq_some_iff.1 hr
          simp at hj hlt ⊢
          subst hj
          rw [add_of_add]
          exact hcell w' hw' _ (by omega))
      simp only [List.length_map, List.length_range] at hl
      simp [loadVar, Sem.run_bind, hagg, run_sizeOf' hu, hl]
    · refine .agg _ _ (by simp; omega) (fun x hx => ?_) (fun j c x hc hx => ?_)
      · simp at hx
        obtain ⟨j, hj, rfl⟩ := hx
        exact hone _ (by omega)
      · rw [List.getElem?_take] at hc
        split at hc
        · rename_i hlt
          rw [List.getElem?_drop] at hc
          simp [List.getElem?_map, List.getElem?_range hlt] at hx
          subst hx
          exact hrel _ _ hc
        · simp at hc
  · rename_i hk
    obtain ⟨d, hu, hagg⟩ := kind_some hk
    split at h
    · rename_i c hc
      have hlt := (List.getElem?_eq_some_iff.1 hc).1
      exact ⟨u off, c, fun w' hw' => by simp [loadVar, Sem.run_bind, hagg, hcell w' hw' off hlt], hrel _ _ hc, h⟩
    · exact h.elim
  · exact h.elim

variable {G : World → Prop}
/-- A part of a struct that is no variable. -/
theorem partRow_q {t : TypeId} {row : List AV} {off : Nat} {K : AV → Prop} {vs : List Value} (hone : ∀ u, u ∈ vs → u.oneCell' = true) (hrel : RelL σ w F row vs) (h : loadRow P t row off K) :
    QOk P G σ w F (part t vs.toArray off) K := by
  unfold loadRow at h
  split at h
  · rename_i hk
    obtain ⟨hlen, hK⟩ := h
    obtain ⟨d, hu, hagg⟩ := kind_some hk
    refine ⟨.agg ((vs.drop off).take (P.cellsOf t)).toArray, _, fun w' _ => ?_, ?_, hK⟩
    · simp [part, Sem.run_bind, hagg, run_sizeOf' hu, List.extract_eq_take_drop]
    · have h2 := hrel.sub off (P.cellsOf t)
      exact .agg _ _ h2.1 (fun u hu' => hone u (List.mem_of_mem_drop (List.mem_of_mem_take hu'))) h2.2
  · rename_i hk
    obtain ⟨d, hu, hagg⟩ := kind_some hk
    split at h
    · rename_i c hc
      obtain ⟨u, hu1, hr⟩ := hrel.get hc
      exact ⟨u, c, fun w' _ => by simp [part, Sem.run_bind, hagg, hu1], hr, h⟩
    · exact h.elim
  · exact h.elim

theorem QOk.const {c : Sem Value} {K : AV → Prop} {v : Value} {r : AV} (hrun : ∀ w', c.run P w' = .ok v w') (hr : Rel σ w F r v) (hK : K r) : QOk P G σ w F c K := ⟨v, r, fun w' _ => hrun w', hr, hK⟩

theorem QOk.mk' {c : Sem Value} {K : AV → Prop} {v : Value} {r : AV} (hK : K r) (hr : Rel σ w F r v) (hrun : ∀ w', c.run P w' = .ok v w') : QOk P G σ w F c K := ⟨v, r, fun w' _ => hrun w', hr, hK⟩

theorem run_size0 (s : List UInt8) : (ByteArray.mk s.toArray).size = s.length := by simp [ByteArray.size]
theorem toList_bytes (s : List UInt8) : (ByteArray.mk s.toArray).toList = s := by rw [ByteArray.toList_eq]

theorem cat_bytes (x y : List UInt8) : ByteArray.mk x.toArray ++ ByteArray.mk y.toArray = ByteArray.mk (x ++ y).toArray := by
  apply ByteArray.ext; simp
theorem cat_fits {x y : List UInt8} (h : x.length + y.length ≤ 4611686018427387904) : ¬ (((ByteArray.mk x.toArray).size + (ByteArray.mk y.toArray).size : Nat) : Int) > IntKind.i64.max := by
  rw [run_size0, run_size0]; simp [IntKind.max, IntKind.signed, IntKind.bits]; omega
theorem eqIn_nil (d : Nat) {t e : TypeId} (hu : P.underlying t = some (.slice e)) (a : Option Addr) (n c : Nat) (w : World) : (Op.equalIn (d + 1) t (.slice a n c) (.slice none 0 0)).run P w = .ok a.isNone w := by
  cases a <;> simp [Op.equalIn, Sem.run_bind, run_underlying hu]
theorem eqIn_fn (d : Nat) {t : TypeId} {p r : Array TypeId} {b : Bool} (hu : P.underlying t = some (.func p r b)) (f : Fn) (x y : Array Value) (w : World) : (Op.equalIn (d + 1) t (.func f x y) .nilFunc).run P w = .ok false w := by
  simp [Op.equalIn, Sem.run_bind, run_underlying hu]
theorem eqIn_nf (d : Nat) {t : TypeId} {p r : Array TypeId} {b : Bool} (hu : P.underlying t = some (.func p r b)) (w : World) : (Op.equalIn (d + 1) t .nilFunc .nilFunc).run P w = .ok true w := by
  simp [Op.equalIn, Sem.run_bind, run_underlying hu]
theorem eq_bool {t : TypeId} (hu : P.underlying t = some .bool) (a b : Bool) (w : World) : (Op.equal t (.bool a) (.bool b)).run P w = .ok (a == b) w := run_equalIn_bool' w 9999 t a b hu
theorem eq_nil {t e : TypeId} (hu : P.underlying t = some (.slice e)) (a : Option Addr) (n c : Nat) (w : World) : (Op.equal t (.slice a n c) (.slice none 0 0)).run P w = .ok a.isNone w := eqIn_nil 9999 hu a n c w
theorem eq_fn {t : TypeId} {p r : Array TypeId} {b : Bool} (hu : P.underlying t = some (.func p r b)) (f : Fn) (x y : Array Value) (w : World) : (Op.equal t (.func f x y) .nilFunc).run P w = .ok false w := eqIn_fn 9999 hu f x y w
theorem eq_nf {t : TypeId} {p r : Array TypeId} {b : Bool} (hu : P.underlying t = some (.func p r b)) (w : World) : (Op.equal t .nilFunc .nilFunc).run P w = .ok true w := eqIn_nf 9999 hu w
theorem vcBin_ok {op : BinOp} {t : TypeId} {x y : Operand} {a b : AV} {va vb : Value} {K : AV → Prop} (ha : Rel σ w F a va) (hb : Rel σ w F b vb) (h : vcBin P op t a b K) :
    QOk P G σ w F (do eqGuard op t x y va vb; binOp op t va vb) K := by
  unfold vcBin at h
  split at h
  · cases ha; cases hb
    split at h <;> (try exact h.elim)
    · obtain ⟨rfl, h⟩ := h; exact .mk' h (.int _ _) (fun w' => by simp [eqGuard, binOp, Op.intArith, Sem.run_bind])
    · obtain ⟨rfl, h⟩ := h; exact .mk' h (.int _ _) (fun w' => by simp [eqGuard, binOp, Op.intArith, Sem.run_bind])
    · obtain ⟨rfl, h⟩ := h; exact .mk' h (.int _ _) (fun w' => by simp [eqGuard, binOp, Op.intArith, Sem.run_bind])
    · obtain ⟨rfl, h0, h⟩ := h; exact .mk' h (.int _ _) (fun w' => by simp [eqGuard, binOp, Op.intDiv, Sem.run_bind, h0])
    · obtain ⟨rfl, h0, h⟩ := h; exact .mk' h (.int _ _) (fun w' => by simp [eqGuard, binOp, Op.intDiv, Sem.run_bind, h0])
    · obtain ⟨rfl, h⟩ := h; exact .mk' h (.int _ _) (fun w' => by simp [eqGuard, binOp, Op.intBits, intBits, Sem.run_bind])
    · obtain ⟨rfl, h⟩ := h; exact .mk' h (.int _ _) (fun w' => by simp [eqGuard, binOp, Op.intBits, intBits, Sem.run_bind])
    · obtain ⟨rfl, h⟩ := h; exact .mk' h (.int _ _) (fun w' => by simp [eqGuard, binOp, Op.intBits, intBits, Sem.run_bind])
    · obtain ⟨h0, h⟩ := h; exact .mk' h (.int _ _) (fun w' => by simp [eqGuard, binOp, Op.shift, Sem.run_bind, Int.not_lt.2 h0])
    · obtain ⟨h0, h⟩ := h; exact .mk' h (.int _ _) (fun w' => by simp [eqGuard, binOp, Op.shift, Sem.run_bind, Int.not_lt.2 h0])
    · obtain ⟨rfl, h⟩ := h; exact .mk' h (.bool _) (fun w' => by simp [eqGuard, binOp, Op.intCmp, Sem.run_bind])
    · obtain ⟨rfl, h⟩ := h; exact .mk' h (.bool _) (fun w' => by simp [eqGuard, binOp, Op.intCmp, Sem.run_bind])
    · obtain ⟨rfl, h⟩ := h; exact .mk' h (.bool _) (fun w' => by simp [eqGuard, binOp, Op.intCmp, Sem.run_bind])
    · obtain ⟨rfl, h⟩ := h; exact .mk' h (.bool _) (fun w' => by simp [eqGuard, binOp, Op.intCmp, Sem.run_bind])
    · obtain ⟨rfl, h⟩ := h; exact .mk' h (.bool _) (fun w' => by simp [eqGuard, binOp, Op.intCmp, Sem.run_bind])
    · obtain ⟨rfl, h⟩ := h; exact .mk' h (.bool _) (fun w' => by simp [eqGuard, binOp, Op.intCmp, Sem.run_bind])
  · cases ha; cases hb
    split at h <;> (try exact h.elim)
    · obtain ⟨h0, h⟩ := h
      exact .mk' h (.str _) (fun w' => by simp only [eqGuard, binOp, Op.stringOp, Sem.run_bind, Sem.run_pure, Result.andThen_ok, if_neg (cat_fits h0), cat_bytes]; rfl)
    · exact .mk' h (.bool _) (fun w' => by simp [eqGuard, binOp, Op.stringOp, Sem.run_bind, toList_bytes])
    · exact .mk' h (.bool _) (fun w' => by simp [eqGuard, binOp, Op.stringOp, Sem.run_bind, toList_bytes])
  · cases ha; cases hb
    split at h <;> (try exact h.elim)
    · rename_i hu
      exact .mk' h (.bool _) (fun w' => by simp [eqGuard, binOp, Sem.run_bind, eq_bool hu])
    · rename_i hu
      exact .mk' h (.bool _) (fun w' => by simp [eqGuard, binOp, Sem.run_bind, eq_bool hu])
  · cases ha; cases hb
    split at h <;> (try exact h.elim)
    · rename_i hu
      exact .mk' h (.bool _) (fun w' => by simp [eqGuard, binOp, Sem.run_bind, eq_nil hu])
    · rename_i hu
      exact .mk' h (.bool _) (fun w' => by simp [eqGuard, binOp, Sem.run_bind, eq_nil hu])
  · cases hb
    split at h <;> (try exact h.elim)
    · rename_i hu
      cases ha with
      | slNil => exact .mk' (h true (fun _ => rfl)) (.bool _) (fun w' => by simp [eqGuard, binOp, Sem.run_bind, eq_nil hu])
      | sl => exact .mk' (h false (fun e => by cases e)) (.bool _) (fun w' => by simp [eqGuard, binOp, Sem.run_bind, eq_nil hu])
    · rename_i hu
      cases ha with
      | slNil => exact .mk' (h false (fun _ => rfl)) (.bool _) (fun w' => by simp [eqGuard, binOp, Sem.run_bind, eq_nil hu])
      | sl => exact .mk' (h true (fun e => by cases e)) (.bool _) (fun w' => by simp [eqGuard, binOp, Sem.run_bind, eq_nil hu])
  · cases ha with
    | agg cs vs hl h1 hc => cases hb with
      | agg cs' vs' hl' h1' hc' =>
        split at h <;> (try exact h.elim)
        · rename_i hq
          obtain ⟨hk, ⟨hg, hS⟩, h⟩ := h
          exact .mk' h (.bool _) (fun w' => by
            have := hS σ w F _ _ vs vs' _ rfl hk.symm hq ⟨hl, hc⟩ ⟨hl', hc'⟩ w'
            simp [eqGuard, binOp, Sem.run_bind, hg, this])
        · rename_i hq
          obtain ⟨hk, ⟨hg, hS⟩, h⟩ := h
          exact .mk' h (.bool _) (fun w' => by
            have := hS σ w F _ _ vs vs' _ rfl hk.symm hq ⟨hl, hc⟩ ⟨hl', hc'⟩ w'
            simp [eqGuard, binOp, Sem.run_bind, hg, this])
  · cases ha; cases hb
    split at h <;> (try exact h.elim)
    · rename_i hu
      exact .mk' h (.bool _) (fun w' => by simp [eqGuard, binOp, Sem.run_bind, eq_fn hu])
    · rename_i hu
      exact .mk' h (.bool _) (fun w' => by simp [eqGuard, binOp, Sem.run_bind, eq_fn hu])
  · cases ha; cases hb
    split at h <;> (try exact h.elim)
    · rename_i hu
      exact .mk' h (.bool _) (fun w' => by simp [eqGuard, binOp, Sem.run_bind, eq_nf hu])
    · rename_i hu
      exact .mk' h (.bool _) (fun w' => by simp [eqGuard, binOp, Sem.run_bind, eq_nf hu])
  · exact h.elim

theorem vcB_ok {fr : List AV} {a : Act} (ha : ARel σ w F fr a) (hs : Sim aw σ w F) {b : Builtin} {args : Array Operand} {ats : Array TypeId} {ty : TypeId} {K : AV → Prop} (h : vcB P fr aw b args.toList ats.toList K) :
    ∃ v r, (∀ cs w', (builtin b ats ty cs (args.map a.eval)).run P w' = .ok (.value v) w') ∧ Rel σ w F r v ∧ K r := by
  obtain ⟨args⟩ := args
  obtain ⟨ats⟩ := ats
  simp only at h
  unfold vcB at h
  split at h
  · rename_i x t
    have hx := ha.ev x
    split at h
    · rename_i hu hx'
      rw [hx'] at hx
      cases hv : a.eval x <;> rw [hv] at hx <;> cases hx
      refine ⟨_, _, fun cs w' => ?_, .int _ _, h⟩
      simp [builtin, Builtin.len_, Sem.run_bind, run_underlying hu, hv, goInt, run_size0]
    · rename_i hu hx'
      rw [hx'] at hx
      cases hv : a.eval x <;> rw [hv] at hx <;> cases hx
      · refine ⟨_, _, fun cs w' => ?_, .int _ _, h⟩
        simp [builtin, Builtin.len_, Sem.run_bind, run_underlying hu, hv, goInt]
      · refine ⟨_, _, fun cs w' => ?_, .int _ _, h⟩
        simp [builtin, Builtin.len_, Sem.run_bind, run_underlying hu, hv, goInt]
    · rename_i hu hx'
      rw [hx'] at hx
      cases hv : a.eval x <;> rw [hv] at hx <;> cases hx
      refine ⟨_, _, fun cs w' => ?_, .int _ _, h⟩
      simp [builtin, Builtin.len_, Sem.run_bind, run_underlying hu, hv, goInt]
    · rename_i id hu hx'
      rw [hx'] at hx
      split at h
      · rename_i e size rows ho
        cases hv : a.eval x <;> rw [hv] at hx <;> cases hx
        rename_i ad n c hσ
        obtain ⟨fl, hown, _, _⟩ := hs.obj id _ _ ho hσ
        have hn : n = rows.length := by
          rcases hown.2 with ⟨e1, e2⟩ | ⟨g, cap, cur, e1, _⟩
          · injection e1 with e3 e4; omega
          · injection e1 with e3 e4
        subst hn
        refine ⟨_, _, fun cs w' => ?_, .int _ _, h⟩
        simp [builtin, Builtin.len_, Sem.run_bind, run_underlying hu, hv, goInt]
      · exact h.elim
    · exact h.elim
  · rename_i _ x y
    split at h
    · rename_i hx' hy'
      have hx := ha.ev x
      have hy := ha.ev y
      rw [hx'] at hx
      rw [hy'] at hy
      cases hv : a.eval x <;> rw [hv] at hx <;> cases hx
      cases hv' : a.eval y <;> rw [hv'] at hy <;> cases hy
      refine ⟨_, _, fun cs w' => ?_, .int _ _, h⟩
      simp [builtin, Builtin.min_, Builtin.min2, Sem.run_bind, hv, hv']
    · exact h.elim
  · rename_i _ x y
    split at h
    · rename_i hx' hy'
      have hx := ha.ev x
      have hy := ha.ev y
      rw [hx'] at hx
      rw [hy'] at hy
      cases hv : a.eval x <;> rw [hv] at hx <;> cases hx
      cases hv' : a.eval y <;> rw [hv'] at hy <;> cases hy
      refine ⟨_, _, fun cs w' => ?_, .int _ _, h⟩
      simp [builtin, Builtin.max_, Builtin.max2, Sem.run_bind, hv, hv']
    · exact h.elim
  · exact h.elim

end

end Go.Proofs.Ytegkmfokfakeiaa
