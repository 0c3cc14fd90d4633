/-
  The law LogOn. Plain.
-/
import Derived.Test.YtegkmfokfakeiaaPLog4
namespace Go.Proofs.Ytegkmfokfakeiaa
set_option linter.unusedVariables false
set_option linter.unusedSimpArgs false

theorem Grow_eq (n : Int) (h0 : 0 ≤ n) (h1 : n ≤ 1099511627776) : slices_Grow_Choice_x0013 n = some [] := by
  unfold slices_Grow_Choice_x0013
  rw [if_neg (by simp; omega), wrap_ok (n := 0 - 0) (by omega) (by omega), wrap_ok (n := n - (0 - 0)) (by omega) (by omega)]
  by_cases h : n > 0
  · rw [if_pos (by simp; omega)]
    have : appz ([] : List Choice) (n - (0 - 0)) ⟨0, 0⟩ = some ([] ++ List.replicate (n - (0 - 0)).toNat ⟨0, 0⟩) := by
      unfold appz; rw [if_pos ⟨by omega, by simp; omega⟩]
    rw [this]
    simp only [Option.bind_some]
    have := sub_0 (xs := ([] : List Choice) ++ List.replicate (n - (0 - 0)).toNat ⟨0, 0⟩) (j := 0) (by simp)
    rw [show ((0 : Nat) : Int) = 0 from rfl] at this
    rw [this]; simp
  · rw [if_neg (by simp; omega)]
theorem Concat_eq2 (x y : List Choice) (hx : x.length ≤ 549755813888) (hy : y.length ≤ 549755813888) : slices_Concat_Choice [x, y] = some (x ++ y) := by
  have l1a : slices_Concat_Choice_l1 [x, y] 0 [] = some (.inl (1, x)) := by
    unfold slices_Concat_Choice_l1
    have : idx [x, y] 0 = some x := by simp [idx]
    rw [if_pos (by simp), this]
    simp only [Option.bind_some]
    rw [app_ok (by simp; omega)]; rfl
  have l1b : slices_Concat_Choice_l1 [x, y] 1 x = some (.inl (2, x ++ y)) := by
    unfold slices_Concat_Choice_l1
    have : idx [x, y] 1 = some y := by simp [idx]
    rw [if_pos (by simp), this]
    simp only [Option.bind_some]
    rw [app_ok (by omega)]; rfl
  have l1c : slices_Concat_Choice_l1 [x, y] 2 (x ++ y) = some (.inr (x ++ y)) := by
    unfold slices_Concat_Choice_l1
    rw [if_neg (by simp)]; rfl
  have l1 : iter (fun ss_12 : Int × (List Choice) => slices_Concat_Choice_l1 [x, y] ss_12.1 ss_12.2) (0, []) = some (x ++ y) := by
    rw [iter_eq]; simp only [l1a]
    rw [iter_eq]; simp only [l1b]
    rw [iter_eq]; simp only [l1c]
  have l2a : slices_Concat_Choice_l2 [x, y] 0 0 = some (.inl ((x.length : Int), 1)) := by
    unfold slices_Concat_Choice_l2
    have : idx [x, y] 0 = some x := by simp [idx]
    rw [if_pos (by simp), this]
    simp only [Option.bind_some]
    rw [wrap_ok (n := 0 + (x.length : Int)) (by omega) (by omega), if_neg (by simp), Int.zero_add]; rfl
  have l2b : slices_Concat_Choice_l2 [x, y] (x.length : Int) 1 = some (.inl ((x.length : Int) + (y.length : Int), 2)) := by
    unfold slices_Concat_Choice_l2
    have : idx [x, y] 1 = some y := by simp [idx]
    rw [if_pos (by simp), this]
    simp only [Option.bind_some]
    rw [wrap_ok (n := (x.length : Int) + (y.length : Int)) (by omega) (by omega), if_neg (by simp; omega)]; rfl
  have l2c : slices_Concat_Choice_l2 [x, y] ((x.length : Int) + (y.length : Int)) 2 = some (.inr (x ++ y)) := by
    unfold slices_Concat_Choice_l2
    rw [if_neg (by simp), Grow_eq _ (by omega) (by omega)]
    simp only [Option.bind_some, l1]; rfl
  unfold slices_Concat_Choice
  rw [iter_eq]; simp only [l2a]
  rw [iter_eq]; simp only [l2b]
  rw [iter_eq]; simp only [l2c]

theorem appL_err (ep : Nat) (S : List (List UInt8)) : ∀ (n a : Nat) (l : List Choice) (w : List Write), (appL ep S n a l w).2.2 = 0 ∨ (appL ep S n a l w).2.2 = 3 ∨ (appL ep S n a l w).2.2 = 8
  | 0, a, l, w => .inl rfl
  | n + 1, a, l, w => by
    unfold appL
    have hch : (choicesR (l.take 29)).2 = 0 ∨ (choicesR (l.take 29)).2 = 3 := by
      unfold choicesR
      rw [if_neg (by simp; omega)]
      split <;> simp
    split
    · exact .inl rfl
    · split
      · rcases hch with h | h
        · exact .inl h
        · exact .inr (.inl h)
      · split
        · exact .inr (.inr rfl)
        · split
          · exact .inr (.inr rfl)
          · exact appL_err ep S n (a + 1) _ _

theorem LogOn_true (a b : List Choice) (ep n : Int) (ga : gL gChoice a) (gb : gL gChoice b) (ge : gI ep) (gn : gI n) (hb : mL mChoice a + (mL mChoice b + (mI ep + (mI n + 0))) ≤ 1048576) : crosslaw_LogOn a b ep n = some true := by
  have hla : a.length ≤ 1048576 := by have := len_le (m := mChoice) (fun a => by simp [mChoice]) a; omega
  have hlb : b.length ≤ 1048576 := by have := len_le (m := mChoice) (fun a => by simp [mChoice]) b; omega
  have o0 : okDisk ⟨[], []⟩ := by simp [okDisk]
  unfold crosslaw_LogOn
  by_cases hep : 0 ≤ ep ∧ ep ≤ 200
  · obtain ⟨e, rfl⟩ : ∃ e : Nat, ep = (e : Int) := ⟨_, (Int.toNat_of_nonneg hep.1).symm⟩
    have he : e ≤ 200 := by omega
    have hA := Append_eq o0 e 0 a he (by omega) (by omega)
    rw [show ((0 : Nat) : Int) = 0 from rfl] at hA
    rw [hA, logged_true]
    simp only [Option.bind_some]
    by_cases herr : (appL e [] a.length 0 a []).2.2 = 0
    · obtain ⟨cs, q1, q2, q3, q4⟩ := appL_ok e [] a.length 0 a [] (Nat.le_refl _) (by omega) herr
      simp only [List.nil_append, Nat.zero_add] at q1 q4
      rw [q1]
      simp only
      have hw := wr_len e 0 cs
      have od : okDisk ⟨[], wr e 0 cs⟩ := ⟨by simp, by show (wr e 0 cs).length ≤ 300; omega, by simp, wr_ok e 0 cs (by omega) q3⟩
      rw [if_neg (by simp), wrap_1 (by omega), At_eq _ _ (by omega) (by omega)]
      simp only [Option.bind_some]
      have e1 := Int.emod_nonneg n (by omega : (((wr e 0 cs).length + 1 : Nat) : Int) ≠ 0)
      have e2 := Int.emod_lt_of_pos n (by omega : (0 : Int) < (((wr e 0 cs).length + 1 : Nat) : Int))
      obtain ⟨m, hm⟩ : ∃ m : Nat, n % (((wr e 0 cs).length + 1 : Nat) : Int) = (m : Int) := ⟨_, (Int.toNat_of_nonneg e1).symm⟩
      rw [hm] at e2 ⊢
      have hmc : m ≤ cs.length := by omega
      rw [Cut_eq od m (by show m ≤ (wr e 0 cs).length; omega)]
      have hsec : putW [] ((wr e 0 cs).take m) = sec ((cs.take m).map (recB e)) := by
        rw [wr_take]
        have := putW_wr e (cs.take m) []
        simpa [sec] using this
      simp only [hsec]
      have hgm : ∀ c, c ∈ cs.take m → goodR c := fun c hc => q3 c (List.mem_of_mem_take hc)
      have hml : (cs.take m).length = m := by simp; omega
      have oc : okDisk ⟨sec ((cs.take m).map (recB e)), []⟩ := by
        have := putW_ok ((wr e 0 cs).take m) [] (fun w hw => od.2.2.2 w (List.mem_of_mem_take hw)) (by simp) (by simp)
        rw [hsec] at this
        exact ⟨this.1, by simp, this.2, by simp⟩
      simp only [Option.bind_some]
      rw [Scan_eq oc (e : Int) (by omega) (by omega)]
      simp only [Option.bind_some, sec_drop]
      rw [scanL_same e he _ hgm, hml]
      simp only
      rw [if_neg (by simp), Append_eq oc e m b he (by omega) (by omega)]
      simp only [Option.bind_some]
      by_cases herr2 : (appL e (sec ((cs.take m).map (recB e))) b.length m b []).2.2 = 0
      · obtain ⟨ds, r1, r2, r3, r4⟩ := appL_ok e (sec ((cs.take m).map (recB e))) b.length m b [] (Nat.le_refl _) (by omega) herr2
        simp only [List.nil_append] at r1
        rw [r1]
        simp only
        rw [if_neg (by simp)]
        have hwd := wr_len e m ds
        have okw := wr_ok e m ds r4 r3
        have of : okDisk ⟨sec ((cs.take m).map (recB e)), wr e m ds⟩ := ⟨oc.1, by show (wr e m ds).length ≤ 300; omega, oc.2.2.1, okw⟩
        rw [Flush_eq of]
        have hput : putW (sec ((cs.take m).map (recB e))) (wr e m ds) = sec ((cs.take m ++ ds).map (recB e)) := by
          have := putW_wr e ds ((cs.take m).map (recB e))
          rw [List.length_map, hml] at this
          rw [this, List.map_append]
        simp only [Option.bind_some, hput]
        have op : okDisk ⟨sec ((cs.take m ++ ds).map (recB e)), []⟩ := by
          have := putW_ok (wr e m ds) (sec ((cs.take m).map (recB e))) okw oc.1 oc.2.2.1
          rw [hput] at this
          exact ⟨this.1, by simp, this.2, by simp⟩
        rw [Scan_eq op (e : Int) (by omega) (by omega)]
        simp only [Option.bind_some, sec_drop]
        have hgall : ∀ c, c ∈ cs.take m ++ ds → goodR c := fun c hc => by
          rcases List.mem_append.1 hc with hc | hc
          · exact hgm c hc
          · exact r3 c hc
        rw [scanL_same e he _ hgall]
        simp only [beq_self_eq_true, if_true]
        have hpre : a = (cs.take m).flatten ++ (cs.drop m).flatten := by rw [q2, ← List.flatten_append, List.take_append_drop]
        have hple : (cs.take m).flatten.length ≤ a.length := by rw [hpre, List.length_append]; omega
        rw [Concat_eq2 _ _ (by omega) (by omega)]
        simp only [Option.bind_some]
        rw [List.flatten_append, ← r2, slices_Equal_Choice_eq _ _ (by rw [List.length_append]; omega)]
        simp
      · rw [if_pos (by simpa using herr2)]
        rcases appL_err e (sec ((cs.take m).map (recB e))) b.length m b [] with h | h | h
        · exact absurd h herr2
        · rw [h]; rfl
        · rw [h]; rfl
    · rw [if_pos (by simpa using herr)]
  · have hA : log_Append ⟨[], []⟩ ep 0 a = some (⟨[], []⟩, 0, 3) := by
      unfold log_Append
      rw [Check_ok o0]
      simp only [Option.bind_some]
      rw [if_neg (by simp), if_pos (by simp; omega)]
    rw [hA, logged_true]
    simp
end Go.Proofs.Ytegkmfokfakeiaa
