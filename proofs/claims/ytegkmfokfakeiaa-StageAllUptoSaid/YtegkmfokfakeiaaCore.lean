/-
  What this program's data are as values; small words for the proofs.
-/
import Derived.Test.YtegkmfokfakeiaaTy
namespace Go.Proofs.Ytegkmfokfakeiaa
open Go.RowKit
set_option linter.unusedVariables false
set_option linter.unusedSimpArgs false

theorem mixed : Try.prog.follows .mixedOrders = true := by kernel_rfl
theorem ite_i {c : Prop} [Decidable c] {A B : Prop} (h1 : c → A) (h2 : ¬ c → B) : if c then A else B := by
  by_cases h : c
  · rw [if_pos h]; exact h1 h
  · rw [if_neg h]; exact h2 h
theorem wrap_in (n : Int) (h0 : -9223372036854775808 ≤ n) (h1 : n ≤ 9223372036854775807) : IntKind.i64.wrap n = n := IntWalk.i64_in n ⟨h0, h1⟩
theorem wrap_succ {k n : Nat} (h : k < n) (hn : n ≤ 1099511627776) : IntKind.i64.wrap ((k : Int) + 1) = ((k + 1 : Nat) : Int) := by rw [wrap_in _ (by omega) (by omega)]; rfl

def encI (n : Int) : List AV := [.int .i64 n]
def encS (s : List UInt8) : List AV := [.str s]
theorem pure_ints (l : List Int) : Pure (.sl (l.map encI)) := pure_sl _ (by simp [encI, pure_int])
theorem pure_strs (l : List (List UInt8)) : Pure (.sl (l.map encS)) := pure_sl _ (by simp [encS, pure_str])

theorem pure_flat {a : AV} (h : flat a = true) : Pure a := fun σ w F v hr σ' => flat_rel h hr
theorem pure_nil : Pure (.sl []) := pure_sl _ (by simp)
theorem u8_wrap (n : Nat) : IntKind.u8.wrap (n : Int) = ((n % 256 : Nat) : Int) := by
  simp [IntKind.wrap, IntKind.signed, IntKind.bits]
theorem u8_byte (n : Nat) : byteOf' [.int .u8 (IntKind.u8.wrap (n : Int))] = UInt8.ofNat n := by
  rw [u8_wrap]
  show UInt8.ofNat ((n % 256 : Nat) : Int).toNat = _
  rw [Int.toNat_natCast]
  exact UInt8.toNat_inj.1 (by simp)
theorem renW_nil {ρ : List Nat} {aw : List Ob} : RenW ρ aw [] [] := trivial
theorem renW_arr {ρ : List Nat} {aw aw' : List Ob} {ids : List Nat} {id : Nat} {e : TypeId} {s : Nat} {rows rows' : List (List AV)} (h : aw[id]? = some (.arr e s rows)) (he : rows' = rows) (hp : ∀ row, row ∈ rows' → ∀ x, x ∈ row → Pure x) (t : RenW ρ aw ids aw') :
    RenW ρ aw (id :: ids) (.arr e s rows' :: aw') := ⟨⟨_, h, by subst he; exact ⟨rfl, rfl, rfl, fun row hr x hx => ren_pure (hp row hr x hx)⟩⟩, t⟩
theorem rows_pure {α : Type} {en : α → List AV} (l : List α) (h : ∀ a, a ∈ l → ∀ x, x ∈ en a → Pure x) : ∀ row, row ∈ l.map en → ∀ x, x ∈ row → Pure x := by
  intro row hr x hx
  obtain ⟨a, ha, rfl⟩ := List.mem_map.1 hr
  exact h a ha x hx
theorem encS_pure (l : List (List UInt8)) : ∀ row, row ∈ l.map encS → ∀ x, x ∈ row → Pure x := rows_pure l (by simp [encS, pure_str])
theorem encI_pure (l : List Int) : ∀ row, row ∈ l.map encI → ∀ x, x ∈ row → Pure x := rows_pure l (by simp [encI, pure_int])
theorem drop_cons {α : Type} {l : List α} {k : Nat} {x : α} (h : l[k]? = some x) : l.drop k = x :: l.drop (k + 1) := by
  obtain ⟨hlt, rfl⟩ := List.getElem?_eq_some_iff.1 h
  exact List.drop_eq_getElem_cons hlt
theorem get_some {α : Type} {l : List α} {k : Nat} (h : k < l.length) : ∃ x, l[k]? = some x := ⟨_, List.getElem?_eq_getElem h⟩

end Go.Proofs.Ytegkmfokfakeiaa
