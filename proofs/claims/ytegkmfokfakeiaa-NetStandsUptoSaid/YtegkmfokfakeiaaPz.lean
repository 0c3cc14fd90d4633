/-
  More plain words.
-/
import Derived.Test.YtegkmfokfakeiaaPl
namespace Go.Proofs.Ytegkmfokfakeiaa

/-- append of n zeros. -/
def appz {α : Type} (xs : List α) (m : Int) (z : α) : Option (List α) := if 0 < m ∧ xs.length + m.toNat ≤ 1099511627776 then some (xs ++ List.replicate m.toNat z) else none
/-- At which place a key stands. -/
def kix {κ : Type} [DecidableEq κ] (k : κ) : List κ → Option Nat
  | [] => none
  | k' :: r => if k = k' then some 0 else (kix k r).map (· + 1)
def mget {κ ν : Type} [DecidableEq κ] (k : κ) : List (κ × ν) → Option ν
  | [] => none
  | p :: r => if k = p.1 then some p.2 else mget k r
def mset {κ ν : Type} [DecidableEq κ] (k : κ) (v : ν) : List (κ × ν) → List (κ × ν)
  | [] => [(k, v)]
  | p :: r => if k = p.1 then (k, v) :: r else p :: mset k v r

/-- What is copied to place 'lo' on, 'n' at most. -/
def cpy {α : Type} (xs : List α) (lo n : Nat) (ys : List α) : List α := xs.take lo ++ ys.take n ++ xs.drop (lo + min n ys.length)
def vwok (len : Nat) (i j : Int) : Option Unit := if 0 ≤ i ∧ i ≤ j ∧ j ≤ len then some () else none
def clr {α : Type} (xs : List α) (lo n : Nat) (z : α) : List α := xs.take lo ++ List.replicate n z ++ xs.drop (lo + n)

end Go.Proofs.Ytegkmfokfakeiaa
