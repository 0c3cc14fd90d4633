/-
  The laws DiskSeen and DiskSome. Plain.
-/
import Derived.Test.YtpndpdbabblphaaPDisk
namespace Go.Proofs.Ytpndpdbabblphaa
set_option linter.unusedVariables false
set_option linter.unusedSimpArgs false

theorem Read_eq {d : Disk} (h : okDisk d) (i : Nat) (hi : i < 200) : disk_Read d (i : Int) = some (seen (gt d.Sectors i) d.Wait i, 0) := by
  have hh := h
  unfold okDisk at hh
  unfold disk_Read
  rw [Check_ok h]
  simp only [Option.bind_some]
  rw [if_neg (by simp), if_neg (by simp; omega)]
  have key : ∀ z, disk_Read_k2 d (i : Int) z = some (seen z d.Wait i, 0) := by
    intro z
    unfold disk_Read_k2
    have := iter_list0 (σ := List UInt8) d.Wait (by omega) (fun k st => (st, (k : Int))) (body := fun ss_12 : (List UInt8) × Int => disk_Read_l1 d (i : Int) ss_12.1 ss_12.2)
      (fun k w s => some (.inl (if w.At = (i : Int) then w.Bytes else s))) (fun s => some (s, 0)) z
      (fun k w s hx _ h1 h2 h3 => by
        show disk_Read_l1 d (i : Int) s (k : Int) = _
        unfold disk_Read_l1
        rw [h2, h1, h3]
        simp only [if_true, Option.bind_some]
        by_cases hc : w.At = (i : Int)
        · rw [if_pos (by simpa using hc), if_pos hc]
        · rw [if_neg (by simpa using hc), if_neg hc])
      (fun st h => by
        show disk_Read_l1 d (i : Int) st (d.Wait.length : Int) = _
        unfold disk_Read_l1
        rw [h]; rfl)
    refine Eq.trans this ?_
    have fold : ∀ (ws : List Write) (k : Nat) (s : List UInt8), foldE (σ := List UInt8) (fun k w s => some (.inl (if w.At = (i : Int) then w.Bytes else s))) (fun s => some (s, (0 : Int))) k ws s = some (seen s ws i, 0) := by
      intro ws
      induction ws with
      | nil => intro k s; rfl
      | cons w ws ih => intro k s; unfold foldE; exact ih (k + 1) _
    exact fold d.Wait 0 z
  by_cases hs : i < d.Sectors.length
  · rw [if_pos (by simp; omega)]
    have hx := List.getElem?_eq_getElem hs
    rw [idx_at hx]
    simp only [Option.bind_some]
    rw [key]
    unfold gt
    rw [List.getD_eq_getElem?_getD, hx]; rfl
  · rw [if_neg (by simp; omega), key]
    unfold gt
    rw [List.getD_eq_getElem?_getD, List.getElem?_eq_none (by omega)]; rfl
theorem Read_far {d : Disk} (h : okDisk d) (i : Int) (hi : ¬ (0 ≤ i ∧ i < 200)) : disk_Read d i = some ([], 3) := by
  unfold disk_Read
  rw [Check_ok h]
  simp only [Option.bind_some]
  rw [if_neg (by simp), if_pos (by simp; omega)]
theorem Read_bad {d : Disk} (h : ¬ okDisk d) (i : Int) : ∃ x : List UInt8 × Int, disk_Read d i = some x ∧ x.2 ≠ 0 := by
  obtain ⟨e, h1, h2⟩ := Check_ex d
  have he : e ≠ 0 := fun x => h (h2.1 x)
  unfold disk_Read
  rw [h1]
  simp only [Option.bind_some]
  rw [if_pos (by simpa using he)]
  exact ⟨_, rfl, he⟩
theorem put_eq1 (w : Write) (l : List (List UInt8)) (hw : okW w) : disk_put_x7df1 l [w] = some (put1 l w) := by
  unfold disk_put_x7df1
  have h0 : disk_put_x7df1_l2 [w] 0 l = some (.inl (1, put1 l w)) := by
    unfold disk_put_x7df1_l2
    rw [if_pos (by simp)]
    have : ixN [w] 0 = some 0 := ixN_at (xs := [w]) (k := 0) (by simp)
    rw [this]
    simp only [Option.bind_some, List.getElem?_cons_zero]
    rw [put_in (body := fun ss_20 => disk_put_x7df1_l1 0 w ss_20) 0 w hw (fun l => rfl) _ l rfl]; rfl
  have h1 : disk_put_x7df1_l2 [w] 1 (put1 l w) = some (.inr (put1 l w)) := by
    unfold disk_put_x7df1_l2
    rw [if_neg (by simp)]; rfl
  rw [iter_eq]; simp only [h0]
  rw [iter_eq]; simp only [h1]

theorem disked_true : crosslaw_disked = some true := by
  have o0 : okDisk ⟨[], []⟩ := by simp [okDisk]
  have o2 : okDisk ⟨[], [⟨1, [97]⟩, ⟨0, [98]⟩]⟩ := by simp [okDisk, okW]
  have o1 : okDisk ⟨[], [⟨1, [97]⟩]⟩ := by simp [okDisk, okW]
  have w1 := Write_ok o0 1 [97] (by omega) (by omega) (by simp) (by simp)
  have w2 := Write_ok o1 0 [98] (by omega) (by omega) (by simp) (by simp)
  simp only [List.nil_append, List.cons_append] at w1 w2
  have r := Read_eq o2 0 (by omega)
  have c := Cut_eq o2 1 (by simp)
  simp only [Int.ofNat_zero, Int.natCast_zero] at r
  unfold crosslaw_disked
  rw [w1]; simp only [Option.bind_some]
  rw [w2]; simp only [Option.bind_some]
  have r' : disk_Read ⟨[], [⟨1, [97]⟩, ⟨0, [98]⟩]⟩ 0 = some ([98], 0) := r
  have c' : disk_Cut ⟨[], [⟨1, [97]⟩, ⟨0, [98]⟩]⟩ 1 = some (⟨[[], [97]], []⟩, 0) := c
  rw [r']; simp only [Option.bind_some]
  rw [c']; simp only [Option.bind_some]
  rw [slices_Equal_string_eq _ _ (by simp)]
  simp

theorem DiskSeen_true (d : Disk) (i n : Int) : crosslaw_DiskSeen d i n = some true := by
  unfold crosslaw_DiskSeen
  by_cases h : okDisk d
  · have hh := h
    unfold okDisk at hh
    have hf := putW_ok d.Wait d.Sectors h.2.2.2 h.1 h.2.2.1
    have of : okDisk ⟨putW d.Sectors d.Wait, []⟩ := ⟨hf.1, by simp, hf.2, by simp⟩
    by_cases hi : 0 ≤ i ∧ i < 200
    · obtain ⟨j, rfl⟩ : ∃ j : Nat, i = (j : Int) := ⟨_, (Int.toNat_of_nonneg hi.1).symm⟩
      rw [Read_eq h j (by omega), Flush_eq h, disked_true]
      simp only [Option.bind_some]
      rw [if_neg (by simp), Read_eq of j (by omega)]
      simp only [Option.bind_some]
      rw [gt_putW _ _ _ h.2.2.2]
      rw [if_neg (by simp [seen]), wrap_1 (by omega), At_eq _ _ (by omega) (by omega)]
      simp only [Option.bind_some]
      have e1 := Int.emod_nonneg n (by omega : ((d.Wait.length + 1 : Nat) : Int) ≠ 0)
      have e2 := Int.emod_lt_of_pos n (by omega : (0 : Int) < ((d.Wait.length + 1 : Nat) : Int))
      obtain ⟨a, ha⟩ : ∃ a : Nat, n % ((d.Wait.length + 1 : Nat) : Int) = (a : Int) := ⟨_, (Int.toNat_of_nonneg e1).symm⟩
      rw [ha] at e2 ⊢
      rw [Cut_eq h a (by omega)]
      simp only [Option.bind_some]
      rw [sub_end (by omega)]
      simp only [Option.bind_some]
      have hg := putW_ok (d.Wait.take a) d.Sectors (fun w hw => h.2.2.2 w (List.mem_of_mem_take hw)) h.1 h.2.2.1
      have og : okDisk ⟨putW d.Sectors (d.Wait.take a), d.Wait.drop a⟩ := ⟨hg.1, by simp; omega, hg.2, fun w hw => h.2.2.2 w (List.mem_of_mem_drop hw)⟩
      rw [Flush_eq og]
      simp only [Option.bind_some]
      have : putW (putW d.Sectors (d.Wait.take a)) (d.Wait.drop a) = putW d.Sectors d.Wait := by
        unfold putW; rw [← List.foldl_append, List.take_append_drop]
      rw [this, slices_Equal_string_eq _ _ (by omega)]
      simp
    · rw [Read_far h i hi, Flush_eq h, disked_true]
      simp
  · obtain ⟨x, h1, h2⟩ := Read_bad h i
    obtain ⟨y, h3, h4⟩ := Flush_bad h
    rw [h1, h3, disked_true]
    simp only [Option.bind_some]
    rw [if_pos (by simp [h2])]

theorem Some_eq {d : Disk} (h : okDisk d) (n : Nat) (hn : n ≤ d.Wait.length) : disk_Some d ((List.range n).map fun k : Nat => (k : Int)) = some (⟨putW d.Sectors (d.Wait.take n), []⟩, 0) := by
  have hh := h
  unfold okDisk at hh
  unfold disk_Some
  rw [Check_ok h]
  simp only [Option.bind_some]
  rw [if_neg (by simp), Clone_eq _ (by omega)]
  simp only [Option.bind_some]
  have key : ∀ (m k : Nat), k + m = n → iter (fun ss_15 : Int × Int × (List (List UInt8)) => disk_Some_l1 d ((List.range n).map fun k : Nat => (k : Int)) ss_15.1 ss_15.2.1 ss_15.2.2) ((k : Int) - 1, (k : Int), putW d.Sectors (d.Wait.take k)) = some (⟨putW d.Sectors (d.Wait.take n), []⟩, 0) := by
    intro m
    induction m with
    | zero =>
      intro k hk
      have hk : k = n := by omega
      subst hk
      have e : disk_Some_l1 d ((List.range k).map fun k : Nat => (k : Int)) ((k : Int) - 1) (k : Int) (putW d.Sectors (d.Wait.take k)) = some (.inr (⟨putW d.Sectors (d.Wait.take k), []⟩, 0)) := by
        unfold disk_Some_l1
        rw [if_neg (by simp)]; rfl
      rw [iter_eq]; simp only [e]
    | succ m ih =>
      intro k hk
      have hlt : k < d.Wait.length := by omega
      obtain ⟨w, hw⟩ : ∃ w, d.Wait[k]? = some w := ⟨_, List.getElem?_eq_getElem hlt⟩
      have hx : ((List.range n).map fun k : Nat => (k : Int))[k]? = some (k : Int) := by
        rw [List.getElem?_map, List.getElem?_range (by omega)]; rfl
      have e : disk_Some_l1 d ((List.range n).map fun k : Nat => (k : Int)) ((k : Int) - 1) (k : Int) (putW d.Sectors (d.Wait.take k)) = some (.inl (((k + 1 : Nat) : Int) - 1, ((k + 1 : Nat) : Int), putW d.Sectors (d.Wait.take (k + 1)))) := by
        unfold disk_Some_l1
        rw [if_pos (by simp; omega), idx_at hx]
        simp only [Option.bind_some]
        rw [if_neg (by simp; omega), if_neg (by simp; omega), idx_at hw]
        simp only [Option.bind_some]
        rw [put_eq1 w _ (h.2.2.2 w (List.mem_of_getElem? hw)), wrap_1 (by omega)]
        simp only [Option.bind_some]
        have : putW d.Sectors (d.Wait.take (k + 1)) = put1 (putW d.Sectors (d.Wait.take k)) w := by
          unfold putW; rw [List.take_add_one, hw, List.foldl_append]; rfl
        rw [this]
        have : ((k + 1 : Nat) : Int) - 1 = (k : Int) := by omega
        rw [this]
      rw [iter_eq]; simp only [e]
      exact ih (k + 1) (by omega)
  have := key n 0 (by omega)
  simpa [putW] using this
theorem Equal_Write_nil : slices_Equal_Write [] [] = some true := by
  unfold slices_Equal_Write
  rw [if_neg (by simp), iter_eq]
  have : slices_Equal_Write_l1 [] [] 0 = some (.inr true) := by unfold slices_Equal_Write_l1; rw [if_neg (by simp)]; rfl
  simp only [this]
theorem SameDisk_self (s : List (List UInt8)) (h : s.length ≤ 200) : crossref_SameDisk ⟨s, []⟩ ⟨s, []⟩ = some true := by
  unfold crossref_SameDisk
  rw [slices_Equal_string_eq _ _ (by show s.length ≤ _; omega)]
  simp [Equal_Write_nil]

theorem DiskSome_true (d : Disk) (n : Int) : crosslaw_DiskSome d n = some true := by
  unfold crosslaw_DiskSome
  by_cases h : okDisk d
  · have hh := h
    unfold okDisk at hh
    rw [Flush_eq h, disked_true]
    simp only [Option.bind_some]
    rw [if_neg (by simp)]
    have key : ∀ (m k : Nat), k + m = d.Wait.length → iter (fun ss_6 : Int × (List Int) => crosslaw_DiskSome_l1 d n (⟨putW d.Sectors d.Wait, []⟩, 0) ss_6.1 ss_6.2) ((k : Int), (List.range k).map fun k : Nat => (k : Int)) = some true := by
      intro m
      induction m with
      | zero =>
        intro k hk
        have hk : k = d.Wait.length := by omega
        subst hk
        have e : crosslaw_DiskSome_l1 d n (⟨putW d.Sectors d.Wait, []⟩, 0) (d.Wait.length : Int) ((List.range d.Wait.length).map fun k : Nat => (k : Int)) = some (.inr true) := by
          unfold crosslaw_DiskSome_l1
          rw [if_neg (by simp), Some_eq h d.Wait.length (by omega), wrap_1 (by omega), At_eq _ _ (by omega) (by omega)]
          simp only [Option.bind_some]
          have e1 := Int.emod_nonneg n (by omega : ((d.Wait.length + 1 : Nat) : Int) ≠ 0)
          have e2 := Int.emod_lt_of_pos n (by omega : (0 : Int) < ((d.Wait.length + 1 : Nat) : Int))
          obtain ⟨a, ha⟩ : ∃ a : Nat, n % ((d.Wait.length + 1 : Nat) : Int) = (a : Int) := ⟨_, (Int.toNat_of_nonneg e1).symm⟩
          rw [ha] at e2 ⊢
          rw [sub_0 (by simp; omega)]
          simp only [Option.bind_some]
          have ht : ((List.range d.Wait.length).map fun k : Nat => (k : Int)).take a = (List.range a).map fun k : Nat => (k : Int) := by
            rw [← List.map_take, List.take_range, Nat.min_eq_left (by omega)]
          rw [ht, Some_eq h a (by omega), Cut_eq h a (by omega)]
          simp only [Option.bind_some]
          have h0 := Some_eq h 0 (by omega)
          simp only [List.range_zero, List.map_nil, List.take_zero] at h0
          rw [h0]
          simp only [Option.bind_some, List.take_length]
          have p1 := putW_ok d.Wait d.Sectors h.2.2.2 h.1 h.2.2.1
          have p2 := putW_ok (d.Wait.take a) d.Sectors (fun w hw => h.2.2.2 w (List.mem_of_mem_take hw)) h.1 h.2.2.1
          rw [SameDisk_self _ p1.1, SameDisk_self _ p2.1]
          simp only [Option.bind_some]
          have hq : slices_Equal_string (putW d.Sectors []) d.Sectors = some true := by
            rw [slices_Equal_string_eq _ _ (by show d.Sectors.length ≤ _; omega)]; simp [putW]
          rw [hq]; simp
        rw [iter_eq]; simp only [e]
      | succ m ih =>
        intro k hk
        have e : crosslaw_DiskSome_l1 d n (⟨putW d.Sectors d.Wait, []⟩, 0) (k : Int) ((List.range k).map fun k : Nat => (k : Int)) = some (.inl (((k + 1 : Nat) : Int), (List.range (k + 1)).map fun k : Nat => (k : Int))) := by
          unfold crosslaw_DiskSome_l1
          rw [if_pos (by simp; omega), app_ok (by simp; omega), wrap_1 (by omega)]
          simp [List.range_succ]
        rw [iter_eq]; simp only [e]
        exact ih (k + 1) (by omega)
    have := key d.Wait.length 0 (by omega)
    simpa using this
  · obtain ⟨y, h3, h4⟩ := Flush_bad h
    rw [h3, disked_true]
    simp only [Option.bind_some]
    rw [if_pos (by simp [h4])]
end Go.Proofs.Ytpndpdbabblphaa
