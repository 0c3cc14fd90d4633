/-
  The law StageBegins.
-/
import Derived.Test.YtegkmfokfakeiaaPStage
namespace Go.Proofs.Ytegkmfokfakeiaa
set_option linter.unusedVariables false
set_option linter.unusedSimpArgs false

theorem begins_loop (xs ys : List Item) (e : Int) (hl : ys.length = xs.length) (hx : xs.length ≤ 20) (h : ∀ (i : Nat) x y, xs[i]? = some x → ys[i]? = some y → y.Key = x.Key ∧ x.Dep ≤ y.Dep) :
    iter (fun ss : Int => crosslaw_StageBegins_l1 xs (ys, e) ss) 0 = some true := by
  have := iter_list0 (σ := Unit) xs (by omega) (fun k _ => (k : Int)) (body := fun ss => crosslaw_StageBegins_l1 xs (ys, e) ss) (fun _ _ _ => some (.inl ())) (fun _ => some true) ()
    (fun k x _ hk hlt h1 h2 h3 => by
      unfold crosslaw_StageBegins_l1
      have hy : ys[k]? = some ys[k] := List.getElem?_eq_getElem (by omega)
      obtain ⟨h4, h5⟩ := h k x _ hk hy
      rw [if_pos h2, h1, Option.bind_some]
      simp only [idx_at hy, Option.bind_some]
      rw [if_neg (by simp [h4]), Option.bind_some, if_neg (by simp; omega), h3]) (fun _ h1 => by
      unfold crosslaw_StageBegins_l1
      rw [h1]; simp)
  obtain ⟨st', h6⟩ := foldE_all (f := fun _ _ _ => some (.inl ())) (fin := fun _ : Unit => some true) (g := fun _ _ _ => ()) (fun _ _ _ => rfl) xs 0 ()
  rw [h6] at this
  exact this
theorem StageBegins_true (k f : Int) (xs : List Item) (n : Int) (gk : gI k) (gf : gI f) (gx : gL gItem xs) (gn : gI n) (hb : mI k + (mI f + (mL mItem xs + (mI n + 0))) ≤ 1048576) : crosslaw_StageBegins k f xs n = some true := by
  unfold crosslaw_StageBegins
  rw [staged_true]
  by_cases hx : xs.length ≤ 20
  · rw [all_eq k f xs hx]
    simp only [Option.bind_some]
    by_cases he : (allF k f ⟨0, [], 0⟩ xs []).2 = 0
    · rw [if_neg (by simp [he])]
      obtain ⟨ys, h1, h2, h3, h4⟩ := all_pre k f xs _ _ he
      rw [List.nil_append] at h1
      have main : ∀ j : Nat, j ≤ xs.length → crosslaw_StageBegins_k2 k f xs (allF k f ⟨0, [], 0⟩ xs []) (j : Int) = some true := fun j hj => by
        unfold crosslaw_StageBegins_k2
        rw [sub_0 hj, Option.bind_some, all_eq k f _ (by simp; omega), h3 j, Option.bind_some, h1]
        simp only [List.nil_append]
        rw [if_neg (by simp), if_neg (by simp [h2]), sub_0 (by omega), Option.bind_some, slices_Equal_Item_eq _ _ (by simp; omega), Option.bind_some, Option.bind_some]
        rw [if_neg (by simp)]
        have : allF k f ⟨0, [], 0⟩ xs [] = (ys, 0) := Prod.ext h1 he
        rw [this]
        exact begins_loop xs ys 0 h2 hx h4
      split
      · have hq : quo .i64 ((xs.length : Int)) 2 = some ((xs.length / 2 : Nat) : Int) := by
          unfold quo
          rw [if_neg (by decide), Int.tdiv_eq_ediv_of_nonneg (by omega), wrap_ok (by omega) (by omega)]; rfl
        rw [hq, Option.bind_some]
        exact main _ (by omega)
      · rename_i hn
        simp at hn
        obtain ⟨j, rfl⟩ := Int.eq_ofNat_of_zero_le hn.1
        exact main j (by omega)
    · rw [if_pos (by simp [he])]
  · have : stage_All k f xs = some ([], 2) := by
      unfold stage_All
      rw [if_pos (by simp; omega)]
    rw [this]
    simp
end Go.Proofs.Ytegkmfokfakeiaa
