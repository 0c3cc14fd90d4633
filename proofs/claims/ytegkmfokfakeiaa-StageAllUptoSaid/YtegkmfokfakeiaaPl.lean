/-
  Plain words for what code computes: operations that may fail, loops as functions. No memory, no program in sight.
-/
import Derived.WalkKit
namespace Go.Proofs.Ytegkmfokfakeiaa
open Go.RowKit
set_option linter.unusedVariables false
set_option linter.unusedSimpArgs false

/- what may fail, on data -/
def idx {α : Type} (xs : List α) (i : Int) : Option α := if 0 ≤ i then xs[i.toNat]? else none
def setAt {α : Type} (xs : List α) (i : Int) (a : α) : Option (List α) := if 0 ≤ i ∧ i < xs.length then some (xs.set i.toNat a) else none
def sub {α : Type} (xs : List α) (lo hi : Int) : Option (List α) := if 0 ≤ lo ∧ lo ≤ hi ∧ hi ≤ xs.length then some ((xs.take hi.toNat).drop lo.toNat) else none
def app {α : Type} (xs ys : List α) : Option (List α) := if xs.length + ys.length ≤ 1099511627776 then some (xs ++ ys) else none
def cat (xs ys : List UInt8) : Option (List UInt8) := if xs.length + ys.length ≤ 4611686018427387904 then some (xs ++ ys) else none
def quo (k : IntKind) (a b : Int) : Option Int := if b = 0 then none else some (k.wrap (a.tdiv b))
def rem (a b : Int) : Option Int := if b = 0 then none else some (a.tmod b)
def shl (k : IntKind) (a b : Int) : Option Int := if 0 ≤ b then some (k.wrap (a * 2 ^ (min b.toNat k.bits))) else none
def shr (k : IntKind) (a b : Int) : Option Int := if 0 ≤ b then some (a.fdiv (2 ^ (min b.toNat k.bits))) else none
def mk {α : Type} (n : Int) (z : α) : Option (List α) := if 0 ≤ n ∧ n ≤ 1099511627776 then some (List.replicate n.toNat z) else none
def toStr (l : List Int) : List UInt8 := l.map fun n => UInt8.ofNat n.toNat
def ixN {α : Type} (xs : List α) (i : Int) : Option Nat := if 0 ≤ i ∧ i < xs.length then some i.toNat else none
def ibits (op : BinOp) (k : IntKind) (x y : Int) : Int :=
  let a := BitVec.ofInt k.bits x
  let b := BitVec.ofInt k.bits y
  match op with
  | .and => k.wrap (a &&& b).toNat
  | .or => k.wrap (a ||| b).toNat
  | .xor => k.wrap (a ^^^ b).toNat
  | _ => 0
def mk0 {α : Type} (n : Int) : Option (List α) := if 0 ≤ n ∧ n ≤ 1099511627776 then some [] else none
def isAt (i k : Int) : Option Unit := if i = k then some () else none
abbrev W (n : Int) : Int := IntKind.i64.wrap n
theorem idx_some {α : Type} {xs : List α} {i : Int} {a : α} (h : idx xs i = some a) : 0 ≤ i ∧ i < xs.length ∧ xs[i.toNat]? = some a := by
  unfold idx at h
  split at h
  · rename_i h0
    have := (List.getElem?_eq_some_iff.1 h).1
    exact ⟨h0, by omega, h⟩
  · cases h
theorem bind_some {α β : Type} {o : Option α} {k : α → Option β} {r : β} (h : o.bind k = some r) : ∃ x, o = some x ∧ k x = some r := Option.bind_eq_some_iff.1 h
theorem map_inr {α β : Type} {o : Option β} {v : α ⊕ β} (h : o.map Sum.inr = some v) : ∃ w, o = some w ∧ v = .inr w := by
  cases o with
  | none => cases h
  | some w => exact ⟨w, rfl, (Option.some.inj h).symm⟩

inductive Steps {α β : Type} (body : α → Option (α ⊕ β)) : Nat → α → β → Prop
  | done {s : α} {r : β} : body s = some (.inr r) → Steps body 0 s r
  | step {m : Nat} {s s' : α} {r : β} : body s = some (.inl s') → Steps body m s' r → Steps body (m + 1) s r
open Classical in
/-- A loop as a function: what it ends with, if it ends. -/
noncomputable def iter {α β : Type} (body : α → Option (α ⊕ β)) (s : α) : Option β :=
  if h : ∃ p : Nat × β, Steps body p.1 s p.2 then some h.choose.2 else none
theorem Steps.det {α β : Type} {body : α → Option (α ⊕ β)} {m m' : Nat} {s : α} {r r' : β} (h : Steps body m s r) (h' : Steps body m' s r') : m = m' ∧ r = r' := by
  induction h generalizing m' with
  | done e =>
    cases h' with
    | done e' => rw [e] at e'; cases e'; exact ⟨rfl, rfl⟩
    | step e' _ => rw [e] at e'; cases e'
  | step e _ ih =>
    cases h' with
    | done e' => rw [e] at e'; cases e'
    | step e' h' => rw [e] at e'; cases e'; obtain ⟨h1, h2⟩ := ih h'; exact ⟨by omega, h2⟩
theorem iter_some {α β : Type} {body : α → Option (α ⊕ β)} {s : α} {r : β} : iter body s = some r ↔ ∃ m, Steps body m s r := by
  unfold iter
  constructor
  · intro h
    split at h
    · rename_i hp; exact ⟨_, by cases h; exact hp.choose_spec⟩
    · cases h
  · rintro ⟨m, h⟩
    have hp : ∃ p : Nat × β, Steps body p.1 s p.2 := ⟨(m, r), h⟩
    rw [dif_pos hp, (hp.choose_spec.det h).2]
theorem iter_eq {α β : Type} (body : α → Option (α ⊕ β)) (s : α) : iter body s = match body s with | none => none | some (.inl s') => iter body s' | some (.inr r) => some r := by
  apply Option.ext
  intro r
  show iter body s = some r ↔ (match body s with | none => none | some (.inl s') => iter body s' | some (.inr r) => some r) = some r
  rw [iter_some]
  cases hb : body s with
  | none => exact ⟨fun ⟨m, h⟩ => (by cases h <;> simp_all), fun h => (by cases h)⟩
  | some v =>
    cases v with
    | inl s' =>
      simp only
      rw [iter_some]
      constructor
      · rintro ⟨m, h⟩
        cases h with
        | done e => rw [hb] at e; cases e
        | step e h => rw [hb] at e; cases e; exact ⟨_, h⟩
      · rintro ⟨m, h⟩; exact ⟨_, .step hb h⟩
    | inr r' =>
      simp only
      constructor
      · rintro ⟨m, h⟩
        cases h with
        | done e => rw [hb] at e; cases e; rfl
        | step e _ => rw [hb] at e; cases e
      · intro h; cases h; exact ⟨0, .done hb⟩


theorem ite_T {α : Type} {b : Bool} {A B : Option α} {v : α} (h : (if b = true then A else B) = some v) (hb : b = true) : A = some v := by rwa [if_pos hb] at h
theorem ite_F {α : Type} {b : Bool} {A B : Option α} {v : α} (h : (if b = true then A else B) = some v) (hb : b = false) : B = some v := by
  subst hb; simpa using h
end Go.Proofs.Ytegkmfokfakeiaa
