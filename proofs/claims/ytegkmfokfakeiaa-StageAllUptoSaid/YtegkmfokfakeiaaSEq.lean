/-
  '==' of structs whose fields are numbers, texts, truth values. For every program.
-/
import Derived.Test.YtegkmfokfakeiaaW
import Derived.Laws.StructEq
namespace Go.Proofs.Ytegkmfokfakeiaa
open Go.RowKit
set_option linter.unusedVariables false
set_option linter.unusedSimpArgs false
def FieldsFit (P : Program) : List Field → Nat → List Nat → Prop
  | [], _, [] => True
  | f :: fs, off, k :: ks => f.name ≠ "_" ∧ f.offset = off ∧ (match k with
    | 1 => P.underlying f.type = some (.int .i64)
    | 2 => P.underlying f.type = some .string
    | 3 => P.underlying f.type = some .bool
    | _ => False) ∧ FieldsFit P fs (off + 1) ks
  | _, _, _ => False
section
variable {P : Program} {σ : List Value} {w : World} {F : Nat → Prop}
def isAggD : TypeDesc → Bool
  | .struct _ | .array _ _ => true
  | _ => false
theorem part_one {t : TypeId} {vs : Array Value} {off : Nat} {u : Value} {d : TypeDesc} (hu : P.underlying t = some d) (hd : isAggD d = false) (hv : vs[off]? = some u) (w' : World) : (part t vs off).run P w' = .ok u w' := by
  have hk : kindT P t = some false := by
    unfold kindT; rw [hu]
    cases d <;> simp_all [isAggD]
  obtain ⟨d', hu', hagg⟩ := kind_some hk
  simp [part, Sem.run_bind, hagg, hv]
theorem eqFields_ok (n : Nat) (w' : World) : ∀ (fs : List Field) (off : Nat) (ks : List Nat), FieldsFit P fs off ks → ∀ (x y : List AV) (vx vy : Array Value) (r : Bool), x.map AV.kd = ks → y.map AV.kd = ks → eqCells x y = some r →
    (∀ (j : Nat) c, x[j]? = some c → ∃ u, vx[off + j]? = some u ∧ Rel σ w F c u) → (∀ (j : Nat) c, y[j]? = some c → ∃ u, vy[off + j]? = some u ∧ Rel σ w F c u) → (Op.eqFields (n + 1) vx vy fs).run P w' = .ok r w'
  | [], off, [], _, x, y, vx, vy, r, hx, hy, he, _, _ => by
    simp at hx hy; subst hx; subst hy
    simp [eqCells] at he; subst he
    simp [Op.eqFields]
  | f :: fs, off, k :: ks, hf, x, y, vx, vy, r, hx, hy, he, hrx, hry => by
    obtain ⟨hn, ho, hk, hf⟩ := hf
    match x, y, hx, hy with
    | a :: x, b :: y, hx, hy =>
      simp only [List.map_cons, List.cons.injEq] at hx hy
      obtain ⟨u, hu, hru⟩ := hrx 0 a rfl
      obtain ⟨v, hv, hrv⟩ := hry 0 b rfl
      rw [Nat.add_zero] at hu hv
      have next := fun r' he' => eqFields_ok n w' fs (off + 1) ks hf x y vx vy r' hx.2 hy.2 he' (fun j c hc => by
        obtain ⟨u, h1, h2⟩ := hrx (j + 1) c (by simpa using hc)
        exact ⟨u, by rw [show off + 1 + j = off + (j + 1) by omega]; exact h1, h2⟩) (fun j c hc => by
        obtain ⟨u, h1, h2⟩ := hry (j + 1) c (by simpa using hc)
        exact ⟨u, by rw [show off + 1 + j = off + (j + 1) by omega]; exact h1, h2⟩)
      unfold Op.eqFields
      rw [if_pos hn]
      subst ho
      have fin : ∀ (d : TypeDesc) (q : Bool), P.underlying f.type = some d → isAggD d = false → (Op.equalIn (n + 1) f.type u v).run P w' = .ok q w' → (∃ r', eqCells x y = some r' ∧ r = (q && r')) →
          (do let a ← part f.type vx f.offset; let b ← part f.type vy f.offset; let r ← Op.equalIn (n + 1) f.type a b; if (!r) = true then pure false else Op.eqFields (n + 1) vx vy fs : Sem Bool).run P w' = .ok r w' := by
        rintro d q hd hnd hq ⟨r', h1, rfl⟩
        simp only [Sem.run_bind, part_one hd hnd hu, part_one hd hnd hv, Result.andThen_ok, hq]
        cases q
        · simp
        · simp; exact next r' h1
      cases a <;> cases b <;> simp only [eqCells, Option.map_eq_some_iff, reduceCtorEq] at he
      · rename_i k1 p k2 q
        obtain ⟨r', h1, h2⟩ := he
        cases hru; cases hrv
        have hk1 : k = 1 := by
          cases k1 <;> simp [AV.kd] at hx <;> first
            | exact hx.1.symm
            | (rw [← hx.1] at hk; exact hk.elim)
        have hki : k1 = .i64 := by
          subst hk1; cases k1 <;> simp [AV.kd] at hx ⊢
        have hki2 : k2 = .i64 := by
          subst hk1; cases k2 <;> simp [AV.kd] at hy ⊢
        subst hk1 hki hki2
        exact fin _ _ hk rfl (run_equalIn_int w' n f.type .i64 .i64 p q hk) ⟨r', h1, h2.symm⟩
      · rename_i p q
        obtain ⟨r', h1, h2⟩ := he
        cases hru; cases hrv
        have hk3 : k = 3 := by simp [AV.kd] at hx; exact hx.1.symm
        subst hk3
        exact fin _ _ hk rfl (run_equalIn_bool' w' n f.type p q hk) ⟨r', h1, h2.symm⟩
      · rename_i p q
        obtain ⟨r', h1, h2⟩ := he
        cases hru; cases hrv
        have hk2 : k = 2 := by simp [AV.kd] at hx; exact hx.1.symm
        subst hk2
        refine fin _ _ hk rfl ((run_equalIn_string w' n f.type _ _ hk).trans (by rw [toList_bytes, toList_bytes])) ⟨r', h1, h2.symm⟩
    | [], _, hx, _ => simp at hx
    | _ :: _, [], _, hy => simp at hy
  | [], _, _ :: _, hf, _, _, _, _, _, _, _, _, _, _ => hf.elim
  | _ :: _, _, [], hf, _, _, _, _, _, _, _, _, _, _ => hf.elim
theorem structEq_of {t : TypeId} {fs : Array Field} {ks : List Nat} (hg : P.eqGuardType P.depth t = false) (hu : P.underlying t = some (.struct fs)) (hp : P.stoodInHeld t = false) (hf : FieldsFit P fs.toList 0 ks) : StructEq P t ks := by
  refine ⟨hg, fun σ w F x y vx vy r hx hy he hrx hry w' => ?_⟩
  have hfo : P.fieldsOf t = fs := by unfold Program.fieldsOf; rw [hu]
  have h1 := run_equalIn_struct (P := P) w' 9999 t vx.toArray vy.toArray (by rw [hfo]; exact hu) hp
  rw [hfo] at h1
  show (Op.equalIn (9999 + 1) t _ _).run P w' = _
  rw [h1]
  refine eqFields_ok (σ := σ) (w := w) (F := F) 9998 w' fs.toList 0 ks hf x y _ _ r hx hy he (fun j c hc => ?_) (fun j c hc => ?_)
  · obtain ⟨u, h2, h3⟩ := hrx.get hc
    exact ⟨u, by simpa using h2, h3⟩
  · obtain ⟨u, h2, h3⟩ := hry.get hc
    exact ⟨u, by simpa using h2, h3⟩
end
end Go.Proofs.Ytegkmfokfakeiaa
