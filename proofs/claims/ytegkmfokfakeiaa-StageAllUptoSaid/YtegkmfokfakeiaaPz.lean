/-
  More plain words.
-/
import Derived.Test.YtegkmfokfakeiaaPl
import Derived.Lib.Join
namespace Go.Proofs.Ytegkmfokfakeiaa

/-- append of n zeros. -/
def appz {α : Type} (xs : List α) (m : Int) (z : α) : Option (List α) := if 0 < m ∧ xs.length + m.toNat ≤ 1099511627776 then some (xs ++ List.replicate m.toNat z) else none
/-- At which place a key stands. -/
def kix {κ : Type} [DecidableEq κ] (k : κ) : List κ → Option Nat
  | [] => none
  | k' :: r => if k = k' then some 0 else (kix k r).map (· + 1)
def mget {κ ν : Type} [DecidableEq κ] (k : κ) : List (κ × ν) → Option ν
  | [] => none
  | p :: r => if k = p.1 then some p.2 else mget k r
def mset {κ ν : Type} [DecidableEq κ] (k : κ) (v : ν) : List (κ × ν) → List (κ × ν)
  | [] => [(k, v)]
  | p :: r => if k = p.1 then (k, v) :: r else p :: mset k v r

/-- What is copied to place 'lo' on, 'n' at most. -/
def cpy {α : Type} (xs : List α) (lo n : Nat) (ys : List α) : List α := xs.take lo ++ ys.take n ++ xs.drop (lo + min n ys.length)
/-- strings.Join. -/
def joinB (xs : List (List UInt8)) (sep : List UInt8) : Option (List UInt8) := if xs.length ≤ 1099511627776 ∧ (Lib.join xs sep).length ≤ 140737488355328 then some (Lib.join xs sep) else none
def vwok (len : Nat) (i j : Int) : Option Unit := if 0 ≤ i ∧ i ≤ j ∧ j ≤ len then some () else none
def clr {α : Type} (xs : List α) (lo n : Nat) (z : α) : List α := xs.take lo ++ List.replicate n z ++ xs.drop (lo + n)

/-- What is the same whatever room there is. -/
noncomputable def allC {α : Type} (n : Nat) (f : Nat → Option α) : Option α :=
  open Classical in if h : ∃ r, ∀ C, n ≤ C → f C = some r then some (Classical.choose h) else none
theorem allC_some {α : Type} {n : Nat} {f : Nat → Option α} {r : α} (h : allC n f = some r) : ∀ C, n ≤ C → f C = some r := by
  unfold allC at h
  split at h
  · rename_i hx
    cases h
    exact Classical.choose_spec hx
  · cases h
theorem allC_of {α : Type} {n : Nat} {f : Nat → Option α} {r : α} (h : ∀ C, n ≤ C → f C = some r) : allC n f = some r := by
  have hx : ∃ r, ∀ C, n ≤ C → f C = some r := ⟨r, h⟩
  have h1 := Classical.choose_spec hx n (Nat.le_refl _)
  rw [h n (Nat.le_refl _)] at h1
  unfold allC
  rw [dif_pos hx]
  exact h1.symm
def roomx (len C : Nat) (j : Int) : Option Nat := if 0 < len ∧ (len : Int) ≤ j ∧ j ≤ C then some (j.toNat - len) else none
def cpyU {α : Type} (xs : List α) (x lo m lo2 m2 : Nat) : Option (List α) := if 0 < m ∧ m ≤ m2 ∧ lo ≤ xs.length ∧ lo + m = xs.length + x ∧ lo2 + m = xs.length then some (xs.take lo ++ xs.drop lo2) else none
def growz {α : Type} (xs : List α) (n K : Nat) (m : Int) (z : α) : Option (List α) := if n ≤ xs.length ∧ (K : Int) < n + m ∧ 0 < m ∧ n + m.toNat ≤ 1099511627776 then some (xs.take n ++ List.replicate m.toNat z) else none
def ovok {α : Type} (ys : List α) (m : Nat) : Option Unit := if 0 < ys.length ∧ 0 < m then some () else none

end Go.Proofs.Ytegkmfokfakeiaa
