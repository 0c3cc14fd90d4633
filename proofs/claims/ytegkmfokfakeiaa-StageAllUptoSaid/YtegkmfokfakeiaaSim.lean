/-
  The objects of the call's own and the model's memory ('Sim'); one move of the world ('Mv'). No program in sight.
-/
import Derived.Test.YtegkmfokfakeiaaAv
namespace Go.Proofs.Ytegkmfokfakeiaa
open Go.RowKit
set_option linter.unusedVariables false
set_option linter.unusedSimpArgs false

/-- The block in which an object lies. -/
def blk : Value → Option Nat
  | .pointer (some a) => some a.block
  | .slice (some a) _ _ => some a.block
  | .map (some r) => some r
  | _ => none

theorem blk_slice (v : Value) (a : Option Addr) (n c : Nat) (h : v = .slice a n c) : blk v = v.ownBlock := by
  subst h; cases a <;> rfl

/-- The cells of a row of an array, as they lie. -/
def FlatRel (σ : List Value) (w : World) (F : Nat → Prop) (size : Nat) (rows : List (List AV)) (flat : List Value) : Prop :=
  (∀ row, row ∈ rows → row.length = size) ∧ (∀ u, u ∈ flat → u.oneCell' = true) ∧ RelL σ w F rows.flatten flat

/-- A cell of an array of slices. -/
def CellRel (σ : List Value) (w : World) (F : Nat → Prop) (e2 size : Nat) : Cell → Value → Prop
  | .own rows, u => ∃ flat, w.ownsRow 0 e2 size u rows.length flat ∧ FlatRel σ w F size rows flat ∧ (∀ g, u.ownBlock = some g → ¬ F g) ∧ ∃ a n c, u = .slice a n c
  | .fz rows, u => Rel σ w F (.sl rows) u
  | .hole, _ => True

/-- The blocks that are an object's own. -/
def Bk (o : Ob) (v : Value) (b : Nat) : Prop :=
  match o with
  | .dead => False
  | .box _ | .arr _ _ _ | .mp _ _ | .arrU _ _ _ _ => blk v = some b
  | .arr2 _ _ _ cells => ∃ u us, v = .tuple (u :: us).toArray ∧ (u.ownBlock = some b ∨ ∃ (i : Nat) (rows : List (List AV)) (x : Value), cells[i]? = some (.own rows) ∧ us[i]? = some x ∧ x.ownBlock = some b)

def ORel (σ : List Value) (w : World) (F : Nat → Prop) : Ob → Value → Prop
  | .dead, _ => True
  | .box cs, v => ∃ g vs ty, v = .pointer (some ⟨g, 0, none⟩) ∧ w.heap[g]? = some (.cells vs ty (0, 0)) ∧ RelL σ w F cs vs.toList ∧ (∀ u, u ∈ vs → u.oneCell' = true) ∧ ¬ F g
  | .arr e size rows, v => ∃ flat, w.ownsRow 0 e size v rows.length flat ∧ FlatRel σ w F size rows flat ∧ (∀ g, v.ownBlock = some g → ¬ F g) ∧ ∃ a n c, v = .slice a n c
  | .arrU e size rows x, v => ∃ g C flat, v = .slice (some ⟨g, 0, none⟩) (rows.length + x) C ∧ rows.length + x ≤ C ∧ w.ownsRow 0 e size (.slice (some ⟨g, 0, none⟩) rows.length C) rows.length flat ∧ FlatRel σ w F size rows flat ∧ ¬ F g
  | .mp ks vs, v => ∃ g es clock, v = .map (some g) ∧ w.heap[g]? = some (.map es clock) ∧ RelL σ w F ks (es.toList.map (·.key)) ∧ RelL σ w F vs (es.toList.map (·.val)) ∧ ¬ F g
  | .arr2 e e2 size cells, v => ∃ u us, v = .tuple (u :: us).toArray ∧ us.length = cells.length ∧ w.ownsRow 0 e 1 u cells.length us ∧ (∃ a n c, u = .slice a n c) ∧ (∀ g, u.ownBlock = some g → ¬ F g) ∧
      (∀ (i : Nat) c x, cells[i]? = some c → us[i]? = some x → x.oneCell' = true ∧ CellRel σ w F e2 size c x) ∧
      (∀ (i : Nat) rows x g, cells[i]? = some (.own rows) → us[i]? = some x → x.ownBlock = some g → u.ownBlock ≠ some g) ∧
      (∀ (i j : Nat) rows rows' x y g, i ≠ j → cells[i]? = some (.own rows) → cells[j]? = some (.own rows') → us[i]? = some x → us[j]? = some y → x.ownBlock = some g → y.ownBlock = some g → False)

structure Sim (aw : List Ob) (σ : List Value) (w : World) (F : Nat → Prop) : Prop where
  len : σ.length = aw.length
  obj : ∀ (k : Nat) o v, aw[k]? = some o → σ[k]? = some v → ORel σ w F o v
  sep : ∀ (k k' : Nat) o o' v v' g, k ≠ k' → aw[k]? = some o → aw[k']? = some o' → o.live = true → o'.live = true →
    σ[k]? = some v → σ[k']? = some v' → Bk o v g → Bk o' v' g → False
  lt : ∀ b, F b → b < w.heap.size

/-- The blocks of the call's own. -/
def Dof (aw : List Ob) (σ : List Value) (b : Nat) : Prop := ∃ (k : Nat) (o : Ob) (v : Value), aw[k]? = some o ∧ o.live = true ∧ σ[k]? = some v ∧ Bk o v b

theorem tup_inj {u u' : Value} {us us' : List Value} (h : Value.tuple (u :: us).toArray = .tuple (u' :: us').toArray) : u = u' ∧ us = us' := by
  injection h with h
  have := congrArg Array.toList h
  simpa using this
theorem Bk.of_blk {o : Ob} {v : Value} {b : Nat} (h : blk v = some b) (hl : o.live = true) (h2 : ∀ e e2 s c, o ≠ .arr2 e e2 s c) : Bk o v b := by
  cases o with
  | dead => simp [Ob.live] at hl
  | arr2 e e2 s c => exact absurd rfl (h2 e e2 s c)
  | _ => exact h
theorem Bk.slice {e s : Nat} {rows : List (List AV)} {a : Option Addr} {n c b : Nat} (h : (Value.slice a n c).ownBlock = some b) : Bk (.arr e s rows) (.slice a n c) b := (blk_slice _ a n c rfl).trans h
theorem Bk.slice_inv {e s : Nat} {rows : List (List AV)} {a : Option Addr} {n c b : Nat} (h : Bk (.arr e s rows) (.slice a n c) b) : (Value.slice a n c).ownBlock = some b := (blk_slice _ a n c rfl).symm.trans h
theorem Sim.free {aw : List Ob} {σ : List Value} {w : World} {F : Nat → Prop} (h : Sim aw σ w F) {b : Nat} (hb : Dof aw σ b) : ¬ F b := by
  obtain ⟨k, o, v, ho, hl, hv, hbk⟩ := hb
  have hr := h.obj k o v ho hv
  cases o with
  | dead => simp [Ob.live] at hl
  | box cs =>
    obtain ⟨g, vs, ty, rfl, _, _, _, hf⟩ := hr
    simp [Bk, blk] at hbk; subst hbk; exact hf
  | arr e size rows =>
    obtain ⟨flat, _, _, hf, a, n, c, rfl⟩ := hr
    exact hf _ hbk.slice_inv
  | mp ks vs =>
    obtain ⟨g, es, clock, rfl, _, _, _, hf⟩ := hr
    simp [Bk, blk] at hbk; subst hbk; exact hf
  | arrU e size rows x =>
    obtain ⟨g, C, flat, rfl, _, _, _, hf⟩ := hr
    simp [Bk, blk] at hbk; subst hbk; exact hf
  | arr2 e e2 size cells =>
    obtain ⟨u, us, rfl, _, _, _, hf, hc, _⟩ := hr
    obtain ⟨u', us', e1, h1⟩ := hbk
    obtain ⟨rfl, rfl⟩ := tup_inj e1
    rcases h1 with h1 | ⟨i, rows, x, h2, h3, h4⟩
    · exact hf b h1
    · obtain ⟨flat, _, _, h5, _⟩ := (hc i _ x h2 h3).2
      exact h5 b h4

theorem Sim.lt_own {aw : List Ob} {σ : List Value} {w : World} {F : Nat → Prop} (h : Sim aw σ w F) {b : Nat} (hb : Dof aw σ b) : b < w.heap.size := by
  obtain ⟨k, o, v, ho, hl, hv, hbk⟩ := hb
  have hr := h.obj k o v ho hv
  cases o with
  | dead => simp [Ob.live] at hl
  | box cs =>
    obtain ⟨g, vs, ty, rfl, hg, _⟩ := hr
    simp [Bk, blk] at hbk; subst hbk
    exact (Array.getElem?_eq_some_iff.1 hg).1
  | arr e size rows =>
    obtain ⟨flat, ho, _, _, a, n, c, rfl⟩ := hr
    exact (ho.lt _ hbk.slice_inv).2
  | mp ks vs =>
    obtain ⟨g, es, clock, rfl, hg, _⟩ := hr
    simp [Bk, blk] at hbk; subst hbk
    exact (Array.getElem?_eq_some_iff.1 hg).1
  | arrU e size rows x =>
    obtain ⟨g, C, flat, rfl, _, hown, _, _⟩ := hr
    simp [Bk, blk] at hbk; subst hbk
    exact (hown.lt _ rfl).2
  | arr2 e e2 size cells =>
    obtain ⟨u, us, rfl, _, hown, _, _, hc, _⟩ := hr
    obtain ⟨u', us', e1, h1⟩ := hbk
    obtain ⟨rfl, rfl⟩ := tup_inj e1
    rcases h1 with h1 | ⟨i, rows, x, h2, h3, h4⟩
    · exact (hown.lt _ h1).2
    · obtain ⟨flat, h5, _⟩ := (hc i _ x h2 h3).2
      exact (h5.lt _ h4).2

/-- From one world to a later one. -/
structure Mv (aw : List Ob) (σ : List Value) (w : World) (F : Nat → Prop) (aw' : List Ob) (σ' : List Value) (w' : World) (F' : Nat → Prop) : Prop where
  os : w'.os = w.os
  tape : w'.tape = w.tape
  output : w'.output = w.output
  size : w.heap.size ≤ w'.heap.size
  keep : ∀ b, b < w.heap.size → ¬ Dof aw σ b → w'.heap[b]? = w.heap[b]?
  pre : ∀ (i : Nat) v, σ[i]? = some v → σ'[i]? = some v
  sub : ∀ b, F b → F' b
  sup : ∀ b, F' b → F b ∨ Dof aw σ b ∨ w.heap.size ≤ b
  own : ∀ b, Dof aw' σ' b → Dof aw σ b ∨ w.heap.size ≤ b

theorem Mv.refl (aw : List Ob) (σ : List Value) (w : World) (F : Nat → Prop) : Mv aw σ w F aw σ w F :=
  ⟨rfl, rfl, rfl, Nat.le_refl _, fun _ _ _ => rfl, fun _ _ h => h, fun _ h => h, fun _ h => .inl h, fun _ h => .inl h⟩

theorem Mv.trans {aw aw1 aw2 : List Ob} {σ σ1 σ2 : List Value} {w w1 w2 : World} {F F1 F2 : Nat → Prop} (h : Mv aw σ w F aw1 σ1 w1 F1) (k : Mv aw1 σ1 w1 F1 aw2 σ2 w2 F2) :
    Mv aw σ w F aw2 σ2 w2 F2 := by
  refine ⟨k.os.trans h.os, k.tape.trans h.tape, k.output.trans h.output, Nat.le_trans h.size k.size, fun b hb hd => ?_, fun i v hv => k.pre i v (h.pre i v hv), fun b hb => k.sub b (h.sub b hb), fun b hb => ?_, fun b hb => ?_⟩
  · rw [k.keep b (Nat.lt_of_lt_of_le hb h.size) (fun hd1 => (h.own b hd1).elim hd (fun hge => by omega))]
    exact h.keep b hb hd
  · rcases k.sup b hb with h1 | h1 | h1
    · exact h.sup b h1
    · exact .inr (h.own b h1)
    · exact .inr (.inr (Nat.le_trans h.size h1))
  · rcases k.own b hb with h1 | h1
    · exact h.own b h1
    · exact .inr (Nat.le_trans h.size h1)

/-- What lies where nobody writes is as it was. -/
theorem Mv.same {aw aw' : List Ob} {σ σ' : List Value} {w w' : World} {F F' : Nat → Prop} (h : Mv aw σ w F aw' σ' w' F') (hs : Sim aw σ w F) : ∀ b, F b → w'.heap[b]? = w.heap[b]? :=
  fun b hb => h.keep b (hs.lt b hb) (fun hd => hs.free hd hb)
theorem Mv.rel {aw aw' : List Ob} {σ σ' : List Value} {w w' : World} {F F' : Nat → Prop} (h : Mv aw σ w F aw' σ' w' F') (hs : Sim aw σ w F) {a : AV} {v : Value} (hr : Rel σ w F a v) : Rel σ' w' F' a v :=
  hr.mono h.pre h.sub (h.same hs)
theorem Mv.relL {aw aw' : List Ob} {σ σ' : List Value} {w w' : World} {F F' : Nat → Prop} (h : Mv aw σ w F aw' σ' w' F') (hs : Sim aw σ w F) {as : List AV} {vs : List Value} (hr : RelL σ w F as vs) : RelL σ' w' F' as vs :=
  hr.mono h.pre h.sub (h.same hs)
theorem Mv.aRel {aw aw' : List Ob} {σ σ' : List Value} {w w' : World} {F F' : Nat → Prop} (h : Mv aw σ w F aw' σ' w' F') (hs : Sim aw σ w F) {fr : List AV} {a : Act} (hr : ARel σ w F fr a) : ARel σ' w' F' fr a :=
  ⟨h.relL hs hr.1, hr.2⟩
theorem FlatRel.mono {σ σ' : List Value} {w w' : World} {F F' : Nat → Prop} {size : Nat} {rows : List (List AV)} {flat : List Value} (h : FlatRel σ w F size rows flat)
    (hσ : ∀ (i : Nat) v, σ[i]? = some v → σ'[i]? = some v) (hF : ∀ b, F b → F' b) (hw : ∀ b, F b → w'.heap[b]? = w.heap[b]?) : FlatRel σ' w' F' size rows flat :=
  ⟨h.1, h.2.1, h.2.2.mono hσ hF hw⟩

theorem own_same {w w' : World} {e size n : Nat} {v : Value} {xs : List Value} (h : w.ownsRow 0 e size v n xs) (hb : ∀ b, v.ownBlock = some b → w'.heap[b]? = w.heap[b]?) : w'.ownsRow 0 e size v n xs := by
  refine ⟨h.1, ?_⟩
  rcases h.2 with h2 | ⟨g, cap, cur, hv, h0, hh, r⟩
  · exact .inl h2
  · exact .inr ⟨g, cap, cur, hv, h0, by rw [hb g (by rw [hv]; rfl)]; exact hh, r⟩
theorem CellRel.mono {σ σ' : List Value} {w w' : World} {F F' : Nat → Prop} {e2 size : Nat} {c : Cell} {x : Value} (h : CellRel σ w F e2 size c x)
    (hσ : ∀ (i : Nat) v, σ[i]? = some v → σ'[i]? = some v) (hF : ∀ b, F b → F' b) (hw : ∀ b, F b → w'.heap[b]? = w.heap[b]?)
    (hb : ∀ rows, c = .own rows → ∀ b, x.ownBlock = some b → w'.heap[b]? = w.heap[b]? ∧ ¬ F' b) : CellRel σ' w' F' e2 size c x := by
  cases c with
  | own rows =>
    obtain ⟨flat, h1, h2, h3, h4⟩ := h
    exact ⟨flat, own_same h1 (fun b hb' => (hb rows rfl b hb').1), h2.mono hσ hF hw, fun g hg => (hb rows rfl g hg).2, h4⟩
  | fz rows => exact Rel.mono hσ hF hw h
  | hole => trivial
/-- An object whose block was not touched. -/
theorem ORel.mono {σ σ' : List Value} {w w' : World} {F F' : Nat → Prop} {o : Ob} {v : Value} (h : ORel σ w F o v)
    (hσ : ∀ (i : Nat) v, σ[i]? = some v → σ'[i]? = some v) (hF : ∀ b, F b → F' b) (hw : ∀ b, F b → w'.heap[b]? = w.heap[b]?)
    (hb : o.live = true → ∀ b, Bk o v b → w'.heap[b]? = w.heap[b]? ∧ ¬ F' b) : ORel σ' w' F' o v := by
  cases o with
  | dead => trivial
  | box cs =>
    obtain ⟨g, vs, ty, rfl, hg, hr, h1, hf⟩ := h
    obtain ⟨e1, e2⟩ := hb rfl g rfl
    exact ⟨g, vs, ty, rfl, e1.trans hg, hr.mono hσ hF hw, h1, e2⟩
  | arr e size rows =>
    obtain ⟨flat, ho, hfl, hf, a, n, c, rfl⟩ := h
    exact ⟨flat, own_same ho (fun b h => (hb rfl b (.slice h)).1), hfl.mono hσ hF hw, fun g hg => (hb rfl g (.slice hg)).2, a, n, c, rfl⟩
  | mp ks vs =>
    obtain ⟨g, es, clock, rfl, hg, hk, hv, hf⟩ := h
    obtain ⟨e1, e2⟩ := hb rfl g rfl
    exact ⟨g, es, clock, rfl, e1.trans hg, hk.mono hσ hF hw, hv.mono hσ hF hw, e2⟩
  | arrU e size rows x =>
    obtain ⟨g, C, flat, rfl, h1, hown, hfl, hf⟩ := h
    exact ⟨g, C, flat, rfl, h1, own_same hown (fun b hb' => (hb rfl b (by simpa [Bk, blk, Value.ownBlock] using hb')).1), hfl.mono hσ hF hw, (hb rfl g rfl).2⟩
  | arr2 e e2 size cells =>
    obtain ⟨u, us, rfl, hl, hown, hfm, hf, hc, hd1, hd2⟩ := h
    exact ⟨u, us, rfl, hl, own_same hown (fun b h => (hb rfl b ⟨u, us, rfl, .inl h⟩).1), hfm, fun g hg => (hb rfl g ⟨u, us, rfl, .inl hg⟩).2,
      fun i c x h1 h2 => ⟨(hc i c x h1 h2).1, (hc i c x h1 h2).2.mono hσ hF hw (fun rows e b h3 => hb rfl b ⟨u, us, rfl, .inr ⟨i, rows, x, by rw [h1, e], h2, h3⟩⟩)⟩, hd1, hd2⟩

/-- The world has grown, or drawn, but no object was touched. -/
theorem Sim.grow {aw : List Ob} {σ : List Value} {w w' : World} {F F' : Nat → Prop} (h : Sim aw σ w F) (hF : ∀ b, F b → F' b) (hsup : ∀ b, F' b → F b ∨ w.heap.size ≤ b) (hlt : ∀ b, F' b → b < w'.heap.size)
    (hk : ∀ b, b < w.heap.size → w'.heap[b]? = w.heap[b]?) : Sim aw σ w' F' := by
  refine ⟨h.len, fun k o v ho hv => ?_, h.sep, hlt⟩
  refine (h.obj k o v ho hv).mono (fun _ _ e => e) hF (fun b hb => hk b (h.lt b hb)) (fun hl b hb => ?_)
  have hd : Dof aw σ b := ⟨k, o, v, ho, hl, hv, hb⟩
  refine ⟨hk b (h.lt_own hd), fun hf => ?_⟩
  rcases hsup b hf with h1 | h1
  · exact h.free hd h1
  · have := h.lt_own hd; omega

theorem Mv.grow {aw : List Ob} {σ : List Value} {w w' : World} {F F' : Nat → Prop} (hF : ∀ b, F b → F' b) (hsup : ∀ b, F' b → F b ∨ w.heap.size ≤ b)
    (hos : w'.os = w.os) (ht : w'.tape = w.tape) (ho : w'.output = w.output) (hs : w.heap.size ≤ w'.heap.size)
    (hk : ∀ b, b < w.heap.size → w'.heap[b]? = w.heap[b]?) : Mv aw σ w F aw σ w' F' :=
  ⟨hos, ht, ho, hs, fun b hb _ => hk b hb, fun _ _ h => h, hF, fun b hb => (hsup b hb).imp id .inr, fun _ h => .inl h⟩

/-- A draw. -/
theorem Sim.drew {aw : List Ob} {σ : List Value} {w : World} {F : Nat → Prop} (h : Sim aw σ w F) : Sim aw σ w.drew F := h.grow (fun _ h => h) (fun _ h => .inl h) h.lt (fun _ _ => rfl)
theorem Mv.drew {aw : List Ob} {σ : List Value} {w : World} {F : Nat → Prop} : Mv aw σ w F aw σ w.drew F := .grow (fun _ h => h) (fun _ h => .inl h) rfl rfl rfl (Nat.le_refl _) (fun _ _ => rfl)

/-- A new block that nobody will write: data. -/
def plus (F : Nat → Prop) (n b : Nat) : Prop := F b ∨ b = n
theorem Sim.fresh {aw : List Ob} {σ : List Value} {w : World} {F : Nat → Prop} (h : Sim aw σ w F) (o : Obj) : Sim aw σ (w.alloc o) (plus F w.heap.size) := by
  refine h.grow (fun _ h => .inl h) (fun b hb => hb.imp id (fun e => by omega)) (fun b hb => ?_) (fun b hb => Below.heap_alloc w o b hb)
  rcases hb with hb | rfl
  · have := h.lt b hb; simp; omega
  · simp
theorem Mv.fresh {aw : List Ob} {σ : List Value} {w : World} {F : Nat → Prop} (o : Obj) : Mv aw σ w F aw σ (w.alloc o) (plus F w.heap.size) :=
  .grow (fun _ h => .inl h) (fun b hb => hb.imp id (fun e => by omega)) rfl rfl rfl (by simp) (fun b hb => Below.heap_alloc w o b hb)

theorem get_app {α : Type} {l : List α} {x y : α} {k : Nat} (h : (l ++ [x])[k]? = some y) : l[k]? = some y ∨ (k = l.length ∧ y = x) := by
  rw [List.getElem?_append] at h
  split at h
  · exact .inl h
  · rename_i hk
    cases hd : k - l.length with
    | zero => rw [hd] at h; simp at h; exact .inr ⟨by omega, h.symm⟩
    | succ n => rw [hd] at h; simp at h
theorem get_pre {α : Type} {l : List α} {x y : α} {k : Nat} (h : l[k]? = some y) : (l ++ [x])[k]? = some y := by
  rw [List.getElem?_append_left (List.getElem?_eq_some_iff.1 h).1]; exact h

/-- One object more. 'w'': the world behind it. -/
theorem Sim.push {aw : List Ob} {σ : List Value} {w w' : World} {F : Nat → Prop} (h : Sim aw σ w F) (o : Ob) (v : Value)
    (hk : ∀ b, b < w.heap.size → w'.heap[b]? = w.heap[b]?) (hs : w.heap.size ≤ w'.heap.size) (ho : ORel (σ ++ [v]) w' F o v) (hnew : ∀ b, Bk o v b → w.heap.size ≤ b) :
    Sim (aw ++ [o]) (σ ++ [v]) w' F := by
  have h' : Sim aw σ w' F := h.grow (fun _ h => h) (fun _ h => .inl h) (fun b hb => Nat.lt_of_lt_of_le (h.lt b hb) hs) hk
  refine ⟨by simp [h.len], fun k o1 v1 ho1 hv1 => ?_, fun k k' o1 o2 v1 v2 g hne ho1 ho2 hl1 hl2 hv1 hv2 hb1 hb2 => ?_, h'.lt⟩
  · rcases get_app ho1 with h1 | ⟨rfl, rfl⟩
    · have hv1' : σ[k]? = some v1 := by
        have hlt := (List.getElem?_eq_some_iff.1 h1).1
        rw [List.getElem?_append_left (by rw [h.len]; exact hlt)] at hv1
        exact hv1
      exact (h'.obj k o1 v1 h1 hv1').mono (fun _ _ e => get_pre e) (fun _ e => e) (fun _ _ => rfl) (fun hl b hb => ⟨rfl, h'.free ⟨k, o1, v1, h1, hl, hv1', hb⟩⟩)
    · rw [← h.len] at hv1
      simp at hv1
      subst hv1
      exact ho
  · have old : ∀ (k : Nat) o1 v1, aw[k]? = some o1 → (σ ++ [v])[k]? = some v1 → σ[k]? = some v1 := fun k o1 v1 h1 hv1 => by
      have hlt := (List.getElem?_eq_some_iff.1 h1).1
      rw [List.getElem?_append_left (by rw [h.len]; exact hlt)] at hv1
      exact hv1
    have last : ∀ (k : Nat) v1, k = aw.length → (σ ++ [v])[k]? = some v1 → v1 = v := fun k v1 e hv1 => by
      rw [e, ← h.len] at hv1; simp at hv1; exact hv1.symm
    rcases get_app ho1 with h1 | ⟨e1, rfl⟩
    · rcases get_app ho2 with h2 | ⟨e2, rfl⟩
      · exact h.sep k k' o1 o2 v1 v2 g hne h1 h2 hl1 hl2 (old _ _ _ h1 hv1) (old _ _ _ h2 hv2) hb1 hb2
      · have := last _ _ e2 hv2; subst this
        have hlt := h.lt_own ⟨k, o1, v1, h1, hl1, old _ _ _ h1 hv1, hb1⟩
        have := hnew g hb2; omega
    · have := last _ _ e1 hv1; subst this
      rcases get_app ho2 with h2 | ⟨e2, rfl⟩
      · have hlt := h.lt_own ⟨k', o2, v2, h2, hl2, old _ _ _ h2 hv2, hb2⟩
        have := hnew g hb1; omega
      · exact hne (e1.trans e2.symm)

theorem Mv.push {aw : List Ob} {σ : List Value} {w w' : World} {F : Nat → Prop} (h : Sim aw σ w F) (o : Ob) (v : Value)
    (hos : w'.os = w.os) (ht : w'.tape = w.tape) (hou : w'.output = w.output)
    (hk : ∀ b, b < w.heap.size → w'.heap[b]? = w.heap[b]?) (hs : w.heap.size ≤ w'.heap.size) (hnew : ∀ b, Bk o v b → w.heap.size ≤ b) :
    Mv aw σ w F (aw ++ [o]) (σ ++ [v]) w' F := by
  refine ⟨hos, ht, hou, hs, fun b hb _ => hk b hb, fun i u hu => get_pre hu, fun _ h => h, fun _ h => .inl h, fun b hb => ?_⟩
  obtain ⟨k, o1, v1, ho1, hl, hv1, hb1⟩ := hb
  rcases get_app ho1 with h1 | ⟨rfl, rfl⟩
  · have hlt := (List.getElem?_eq_some_iff.1 h1).1
    rw [List.getElem?_append_left (by rw [h.len]; exact hlt)] at hv1
    exact .inl ⟨k, o1, v1, h1, hl, hv1, hb1⟩
  · rw [← h.len] at hv1
    simp at hv1
    subst hv1
    exact .inr (hnew b hb1)

theorem get_set {α : Type} {l : List α} {x y : α} {id k : Nat} (h : (l.set id x)[k]? = some y) : (k = id ∧ y = x ∧ id < l.length) ∨ (k ≠ id ∧ l[k]? = some y) := by
  rw [List.getElem?_set] at h
  split at h
  · split at h
    · rename_i e hlt; simp at h; exact .inl ⟨e.symm, h.symm, e ▸ hlt⟩
    · simp at h
  · rename_i e; exact .inr ⟨fun e' => e e'.symm, h⟩

/-- An object is let go: what it held is data from now on. -/
theorem Sim.drop {aw : List Ob} {σ : List Value} {w : World} {F : Nat → Prop} (h : Sim aw σ w F) (id : Nat) {o : Ob} {v : Value} (ho : aw[id]? = some o) (hl : o.live = true) (hv : σ[id]? = some v) :
    Sim (aw.set id .dead) σ w (fun b => F b ∨ Bk o v b) := by
  refine ⟨by simp [h.len], fun k o1 v1 ho1 hv1 => ?_, fun k k' o1 o2 v1 v2 g hne ho1 ho2 hl1 hl2 hv1 hv2 hb1 hb2 => ?_, fun b hb => ?_⟩
  · rcases get_set ho1 with ⟨rfl, rfl, _⟩ | ⟨hne, h1⟩
    · trivial
    · refine (h.obj k o1 v1 h1 hv1).mono (fun _ _ e => e) (fun _ e => .inl e) (fun _ _ => rfl) (fun hl1 b hb => ⟨rfl, fun hf => ?_⟩)
      rcases hf with hf | hf
      · exact h.free ⟨k, o1, v1, h1, hl1, hv1, hb⟩ hf
      · exact h.sep k id o1 o v1 v b hne h1 ho hl1 hl hv1 hv hb hf
  · rcases get_set ho1 with ⟨rfl, rfl, _⟩ | ⟨_, h1⟩
    · simp [Ob.live] at hl1
    · rcases get_set ho2 with ⟨rfl, rfl, _⟩ | ⟨_, h2⟩
      · simp [Ob.live] at hl2
      · exact h.sep k k' o1 o2 v1 v2 g hne h1 h2 hl1 hl2 hv1 hv2 hb1 hb2
  · rcases hb with hb | hb
    · exact h.lt b hb
    · exact h.lt_own ⟨id, o, v, ho, hl, hv, hb⟩
theorem Dof.set_dead {aw : List Ob} {σ : List Value} {id b : Nat} (h : Dof (aw.set id .dead) σ b) : Dof aw σ b := by
  obtain ⟨k, o, v, ho, hl, hv, hb⟩ := h
  rcases get_set ho with ⟨rfl, rfl, _⟩ | ⟨_, h1⟩
  · simp [Ob.live] at hl
  · exact ⟨k, o, v, h1, hl, hv, hb⟩
theorem Mv.drop {aw : List Ob} {σ : List Value} {w : World} {F : Nat → Prop} (id : Nat) {o : Ob} {v : Value} (ho : aw[id]? = some o) (hl : o.live = true) (hv : σ[id]? = some v) :
    Mv aw σ w F (aw.set id .dead) σ w (fun b => F b ∨ Bk o v b) :=
  ⟨rfl, rfl, rfl, Nat.le_refl _, fun _ _ _ => rfl, fun _ _ h => h, fun _ h => .inl h, fun b hb => hb.imp (fun h => h) (fun e => .inl ⟨id, o, v, ho, hl, hv, e⟩), fun _ h => .inl h.set_dead⟩

/-- An object that is let go without its data being kept: nobody may read it any more. -/
theorem Sim.lose {aw : List Ob} {σ : List Value} {w : World} {F : Nat → Prop} (h : Sim aw σ w F) (id : Nat) : Sim (aw.set id .dead) σ w F := by
  refine ⟨by simp [h.len], fun k o1 v1 ho1 hv1 => ?_, fun k k' o1 o2 v1 v2 g hne ho1 ho2 hl1 hl2 hv1 hv2 hb1 hb2 => ?_, h.lt⟩
  · rcases get_set ho1 with ⟨rfl, rfl, _⟩ | ⟨hne, h1⟩
    · trivial
    · exact h.obj k o1 v1 h1 hv1
  · rcases get_set ho1 with ⟨rfl, rfl, _⟩ | ⟨_, h1⟩
    · simp [Ob.live] at hl1
    · rcases get_set ho2 with ⟨rfl, rfl, _⟩ | ⟨_, h2⟩
      · simp [Ob.live] at hl2
      · exact h.sep k k' o1 o2 v1 v2 g hne h1 h2 hl1 hl2 hv1 hv2 hb1 hb2

/-- An object's block is written: the others are as they were. 'o'': what it is then. -/
theorem Sim.write {aw : List Ob} {σ : List Value} {w w' : World} {F : Nat → Prop} (h : Sim aw σ w F) (id : Nat) {o : Ob} {v : Value} {b0 : Nat} (ho : aw[id]? = some o) (hl : o.live = true) (hv : σ[id]? = some v) (hb0 : Bk o v b0)
    (hk : ∀ b, b ≠ b0 → w'.heap[b]? = w.heap[b]?) (hs : w'.heap.size = w.heap.size) (o' : Ob) (ho' : ORel σ w' F o' v) (hsub : ∀ b, Bk o' v b → Bk o v b) : Sim (aw.set id o') σ w' F := by
  have hF : ∀ b, F b → w'.heap[b]? = w.heap[b]? := fun b hb => hk b (fun e => h.free ⟨id, o, v, ho, hl, hv, hb0⟩ (e ▸ hb))
  refine ⟨by simp [h.len], fun k o1 v1 ho1 hv1 => ?_, fun k k' o1 o2 v1 v2 g hne ho1 ho2 hl1 hl2 hv1 hv2 hb1 hb2 => ?_, fun b hb => by rw [hs]; exact h.lt b hb⟩
  · rcases get_set ho1 with ⟨rfl, rfl, _⟩ | ⟨hne, h1⟩
    · rw [hv] at hv1; cases hv1; exact ho'
    · refine (h.obj k o1 v1 h1 hv1).mono (fun _ _ e => e) (fun _ e => e) hF (fun hl1 b hb => ⟨hk b (fun e => ?_), h.free ⟨k, o1, v1, h1, hl1, hv1, hb⟩⟩)
      subst e
      exact h.sep k id o1 o v1 v b hne h1 ho hl1 hl hv1 hv hb hb0
  · have un : ∀ (k : Nat) o1 v1, (aw.set id o')[k]? = some o1 → o1.live = true → σ[k]? = some v1 → ∃ o2, aw[k]? = some o2 ∧ o2.live = true ∧ ∀ b, Bk o1 v1 b → Bk o2 v1 b := fun k o1 v1 h1 hl1 hv1 => by
      rcases get_set h1 with ⟨rfl, rfl, _⟩ | ⟨_, h2⟩
      · rw [hv] at hv1; cases hv1; exact ⟨o, ho, hl, hsub⟩
      · exact ⟨o1, h2, hl1, fun _ h => h⟩
    obtain ⟨p1, q1, r1, z1⟩ := un k o1 v1 ho1 hl1 hv1
    obtain ⟨p2, q2, r2, z2⟩ := un k' o2 v2 ho2 hl2 hv2
    exact h.sep k k' p1 p2 v1 v2 g hne q1 q2 r1 r2 hv1 hv2 (z1 _ hb1) (z2 _ hb2)
theorem Mv.write {aw : List Ob} {σ : List Value} {w w' : World} {F : Nat → Prop} (id : Nat) {o : Ob} {v : Value} {b0 : Nat} (ho : aw[id]? = some o) (hl : o.live = true) (hv : σ[id]? = some v) (hb0 : Bk o v b0)
    (hos : w'.os = w.os) (ht : w'.tape = w.tape) (hou : w'.output = w.output)
    (hk : ∀ b, b ≠ b0 → w'.heap[b]? = w.heap[b]?) (hs : w'.heap.size = w.heap.size) (o' : Ob) (hsub : ∀ b, Bk o' v b → Bk o v b) : Mv aw σ w F (aw.set id o') σ w' F := by
  refine ⟨hos, ht, hou, by omega, fun b _ hd => hk b (fun e => hd (e ▸ ⟨id, o, v, ho, hl, hv, hb0⟩)), fun _ _ h => h, fun _ h => h, fun _ h => .inl h, fun b hb => .inl ?_⟩
  obtain ⟨k, o1, v1, ho1, hl1, hv1, hb1⟩ := hb
  rcases get_set ho1 with ⟨rfl, rfl, _⟩ | ⟨_, h2⟩
  · rw [hv] at hv1; cases hv1; exact ⟨_, o, v, ho, hl, hv, hsub b hb1⟩
  · exact ⟨k, o1, v1, h2, hl1, hv1, hb1⟩

/-- Where one is: objects, places, world, and what has become of the world since the start. -/
structure St where
  aw : List Ob
  σ : List Value
  w : World
  F : Nat → Prop

structure Cur (s : St) (fr : List AV) (aw : List Ob) (σ : List Value) (w : World) (F : Nat → Prop) (a : Act) : Prop where
  sim : Sim aw σ w F
  fr : ARel σ w F fr a
  mv : Mv s.aw s.σ s.w s.F aw σ w F

theorem Cur.step {s : St} {fr : List AV} {aw aw' : List Ob} {σ σ' : List Value} {w w' : World} {F F' : Nat → Prop} {a : Act} (h : Cur s fr aw σ w F a) (hs : Sim aw' σ' w' F') (hm : Mv aw σ w F aw' σ' w' F') :
    Cur s fr aw' σ' w' F' a := ⟨hs, hm.aRel h.sim h.fr, h.mv.trans hm⟩
theorem Cur.put {s : St} {fr : List AV} {aw : List Ob} {σ : List Value} {w : World} {F : Nat → Prop} {a : Act} (h : Cur s fr aw σ w F a) {r : AV} {v : Value} (hr : Rel σ w F r v) (d : Option Tmp) :
    Cur s (match d with | some t => fr.set t r | none => fr) aw σ w F (a.put d v) := ⟨h.sim, h.fr.put hr d, h.mv⟩

end Go.Proofs.Ytegkmfokfakeiaa
