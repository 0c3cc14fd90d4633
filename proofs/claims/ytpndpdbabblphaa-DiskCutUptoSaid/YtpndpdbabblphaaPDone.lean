/-
  What a disk's writes do, as the document says it. Plain.
-/
import Derived.Test.YtpndpdbabblphaaPDisk2
namespace Go.Proofs.Ytpndpdbabblphaa
set_option linter.unusedVariables false
set_option linter.unusedSimpArgs false

theorem mget_same {κ ν : Type} [DecidableEq κ] (k : κ) (v : ν) : ∀ m : List (κ × ν), mget k (mset k v m) = some v
  | [] => by simp [mset, mget]
  | p :: r => by
    unfold mset
    split
    · simp [mget]
    · rename_i h
      simp only [mget, if_neg h]
      exact mget_same k v r
theorem mget_ne {κ ν : Type} [DecidableEq κ] {k k' : κ} (v : ν) (hk : k ≠ k') : ∀ m : List (κ × ν), mget k (mset k' v m) = mget k m
  | [] => by simp [mset, mget, hk]
  | p :: r => by
    unfold mset
    split
    · rename_i h
      simp only [mget, if_neg hk]
      rw [if_neg (fun e => hk (e.trans h.symm))]
    · simp only [mget]
      rw [mget_ne v hk r]
abbrev Mp := List (Int × List UInt8)
def lk (m : Mp) (i : Int) : List UInt8 := (mget i m).getD []
theorem lk_mset (m : Mp) (k i : Int) (v : List UInt8) : lk (mset k v m) i = if k = i then v else lk m i := by
  unfold lk
  by_cases h : k = i
  · subst h; rw [mget_same, if_pos rfl]; rfl
  · rw [mget_ne v (fun e => h e.symm), if_neg h]
/-- The sectors as a map. -/
def mpS : Nat → List (List UInt8) → Mp → Mp
  | _, [], m => m
  | k, x :: xs, m => mpS (k + 1) xs (mset (k : Int) x m)
theorem lk_mpS : ∀ (xs : List (List UInt8)) (k : Nat) (m : Mp) (i : Nat), lk (mpS k xs m) i = if k ≤ i ∧ i < k + xs.length then gt xs (i - k) else lk m i
  | [], k, m, i => by rw [if_neg (by simp <;> omega)]; rfl
  | x :: xs, k, m, i => by
    show lk (mpS (k + 1) xs (mset (k : Int) x m)) i = _
    rw [lk_mpS xs (k + 1), lk_mset]
    simp only [List.length_cons]
    by_cases h1 : k + 1 ≤ i ∧ i < k + 1 + xs.length
    · rw [if_pos h1, if_pos (by omega)]
      obtain ⟨t, ht⟩ : ∃ t, i - k = t + 1 := ⟨i - k - 1, by omega⟩
      rw [ht, show i - (k + 1) = t by omega]
      simp [gt]
    · rw [if_neg h1]
      by_cases h2 : (k : Int) = (i : Int)
      · rw [if_pos h2, if_pos (by omega), show i - k = 0 by omega]
        simp [gt]
      · rw [if_neg h2, if_neg (by omega)]
theorem fold_mpS (fin : Mp → Option (List (List UInt8))) : ∀ (xs : List (List UInt8)) (k : Nat) (m : Mp), foldE (fun k x m => some (.inl (mset (k : Int) x m))) fin k xs m = fin (mpS k xs m)
  | [], _, _ => rfl
  | x :: xs, k, m => by unfold foldE; exact fold_mpS fin xs (k + 1) _
/-- The writes, put into it. -/
def mpW : List Write → Nat → Mp → Nat × Mp
  | [], n, m => (n, m)
  | w :: ws, n, m => mpW ws (max n (w.At.toNat + 1)) (mset w.At w.Bytes m)
theorem mpW_ok : ∀ (ws : List Write) (l : List (List UInt8)) (m : Mp), (∀ w, w ∈ ws → okW w) → (∀ i : Nat, lk m i = gt l i) → (mpW ws l.length m).1 = (putW l ws).length ∧ ∀ i : Nat, lk (mpW ws l.length m).2 i = gt (putW l ws) i
  | [], l, m, _, h => ⟨rfl, h⟩
  | w :: ws, l, m, hw, h => by
    have h1 := hw w (by simp)
    have hl : max l.length (w.At.toNat + 1) = (put1 l w).length := by simp [put1]; omega
    show (mpW ws (max l.length (w.At.toNat + 1)) (mset w.At w.Bytes m)).1 = _ ∧ _
    rw [show mpW (w :: ws) l.length m = mpW ws (put1 l w).length (mset w.At w.Bytes m) from by rw [← hl]; rfl, hl]
    exact mpW_ok ws (put1 l w) _ (fun x hx => hw x (by simp [hx])) (fun i => by
      rw [lk_mset, gt_put1 l w h1, h])
theorem fold_mpW (fin : Nat × Mp → Option (List (List UInt8))) : ∀ (ws : List Write) (k : Nat) (n : Nat) (m : Mp),
    foldE (σ := Nat × Mp) (fun _ w st => some (.inl (max st.1 (w.At.toNat + 1), mset w.At w.Bytes st.2))) fin k ws (n, m) = fin (mpW ws n m)
  | [], _, _, _ => rfl
  | w :: ws, k, n, m => by unfold foldE; exact fold_mpW fin ws (k + 1) _ _
theorem out_loop (m : Mp) (L : Nat) (hL : L ≤ 1000) : ∀ (n k : Nat) (acc : List (List UInt8)), k + n = L → acc.length = k →
    iter (fun ss : Int × List (List UInt8) => crossref_Done_l1 (L : Int) m ss.1 ss.2) ((k : Int), acc) = some (acc ++ (List.range' k n).map fun i => lk m (i : Nat))
  | 0, k, acc, h, ha => by
    rw [iter_eq]
    unfold crossref_Done_l1
    simp only
    rw [if_neg (by simp; omega)]
    simp
  | n + 1, k, acc, h, ha => by
    have e : crossref_Done_l1 (L : Int) m (k : Int) acc = some (.inl (((k + 1 : Nat) : Int), acc ++ [lk m (k : Int)])) := by
      unfold crossref_Done_l1
      rw [if_pos (by simp; omega), app_ok (by simp; omega), wrap_1 (by omega)]; rfl
    rw [iter_eq]
    simp only [e]
    rw [out_loop m L hL n (k + 1) _ (by omega) (by simp [ha]), List.range'_succ]
    simp
theorem Done_eq (S : List (List UInt8)) (W : List Write) (hS : S.length ≤ 200) (hl : W.length ≤ 1000) (hW : ∀ w, w ∈ W → okW w) (hs : ∀ s, s ∈ S → okS s) : crossref_Done S W = some (putW S W) := by
  have hp := (putW_ok W S hW hS hs).1
  obtain ⟨h1, h2⟩ := mpW_ok W S (mpS 0 S []) hW (fun i => by
    rw [lk_mpS]
    by_cases h : i < S.length
    · rw [if_pos (by omega), Nat.sub_zero]
    · rw [if_neg (by omega)]
      unfold gt lk
      rw [List.getD_eq_getElem?_getD, List.getElem?_eq_none (by omega)]; rfl)
  have e3 : iter (fun ss : Int × List (List UInt8) => crossref_Done_l1 ((mpW W S.length (mpS 0 S [])).1 : Int) (mpW W S.length (mpS 0 S [])).2 ss.1 ss.2) (0, []) = some (putW S W) := by
    have := out_loop (mpW W S.length (mpS 0 S [])).2 (mpW W S.length (mpS 0 S [])).1 (by omega) (mpW W S.length (mpS 0 S [])).1 0 [] (by omega) rfl
    rw [show ((0 : Nat) : Int) = 0 from rfl] at this
    rw [this, List.nil_append]
    congr 1
    apply List.ext_getElem?
    intro i
    rw [List.getElem?_map]
    by_cases hi : i < (putW S W).length
    · rw [List.getElem?_range' (by omega), Option.map_some]
      have := h2 i
      simp only [Nat.zero_add, Nat.one_mul]
      rw [this]
      unfold gt
      rw [List.getD_eq_getElem?_getD, List.getElem?_eq_getElem hi]; rfl
    · rw [List.getElem?_eq_none (by simp; omega), List.getElem?_eq_none (by omega)]; rfl
  have e2 : iter (fun ss : Int × Int × Mp => crossref_Done_l2 W ss.1 ss.2.1 ss.2.2) ((S.length : Int), 0, mpS 0 S []) = some (putW S W) := by
    have := iter_list0 (σ := Nat × Mp) W (by omega) (fun k st => ((st.1 : Int), (k : Int), st.2)) (body := fun ss : Int × Int × Mp => crossref_Done_l2 W ss.1 ss.2.1 ss.2.2)
      (fun _ w st => some (.inl (max st.1 (w.At.toNat + 1), mset w.At w.Bytes st.2))) (fun st => iter (fun ss : Int × List (List UInt8) => crossref_Done_l1 (st.1 : Int) st.2 ss.1 ss.2) (0, [])) (S.length, mpS 0 S [])
      (fun k w st hk hlt h3 h4 h5 => by
        have hw := hW w (List.mem_of_getElem? hk)
        unfold okW at hw
        unfold crossref_Done_l2
        simp only
        rw [if_pos h4, h3, Option.bind_some, h5, wrap_ok (by omega) (by omega)]
        have : (if w.At + 1 > (st.1 : Int) then w.At + 1 else (st.1 : Int)) = ((max st.1 (w.At.toNat + 1) : Nat) : Int) := by
          by_cases h : w.At + 1 > (st.1 : Int)
          · rw [if_pos h, Nat.max_eq_right (by omega)]; omega
          · rw [if_neg h, Nat.max_eq_left (by omega)]
        rw [this]) (fun st h3 => by
        unfold crossref_Done_l2
        simp only
        rw [h3]; rfl)
    refine Eq.trans this ?_
    rw [fold_mpW (fun st => iter (fun ss : Int × List (List UInt8) => crossref_Done_l1 (st.1 : Int) st.2 ss.1 ss.2) (0, []))]
    exact e3
  unfold crossref_Done
  have := iter_list0 (σ := Mp) S (by omega) (fun k st => ((k : Int), st)) (body := fun ss : Int × Mp => crossref_Done_l3 S W ss.1 ss.2)
    (fun k x m => some (.inl (mset (k : Int) x m))) (fun m => iter (fun ss : Int × Int × Mp => crossref_Done_l2 W ss.1 ss.2.1 ss.2.2) ((S.length : Int), 0, m)) []
    (fun k w st hk hlt h3 h4 h5 => by
      unfold crossref_Done_l3
      simp only
      rw [if_pos h4, h3, Option.bind_some, h5]) (fun st h3 => by
      unfold crossref_Done_l3
      simp only
      rw [h3]; rfl)
  refine Eq.trans this ?_
  rw [fold_mpS]
  exact e2

theorem CheckDisk_eq (d : Disk) : crossref_CheckDisk d = disk_Check d := by
  have h : ∀ n : Int, decide (n > 199) = decide (n ≥ 200) := fun n => decide_eq_decide.2 (by omega)
  have e1 : crossref_CheckDisk_l1 = disk_Check_l1 := by
    funext d s
    unfold crossref_CheckDisk_l1 disk_Check_l1
    simp only [h]
  have e2 : crossref_CheckDisk_l2 = disk_Check_l2 := by
    funext d s
    unfold crossref_CheckDisk_l2 disk_Check_l2
    rw [e1]
  unfold crossref_CheckDisk disk_Check
  rw [e2]
theorem Equal_Write_eq (a b : List Write) (ha : a.length ≤ 1099511627776) : slices_Equal_Write a b = some (decide (a = b)) := by
  unfold slices_Equal_Write
  by_cases hl : a.length = b.length
  · rw [if_neg (by simp; omega)]
    exact equal_loop a b ha hl (fun k x y h1 h2 h3 h4 => by
      unfold slices_Equal_Write_l1
      rw [h1, h2, h3, h4]
      by_cases h : x = y <;> simp [h]) (fun h => by
      unfold slices_Equal_Write_l1
      rw [h]; simp)
  · rw [if_pos (by simp; omega)]
    have : a ≠ b := fun e => hl (by rw [e])
    simp [this]
theorem SameDisk_eq (a b : Disk) (ha : a.Sectors.length ≤ 1099511627776) (hw : a.Wait.length ≤ 1099511627776) : crossref_SameDisk a b = some (decide (a = b)) := by
  unfold crossref_SameDisk
  rw [slices_Equal_string_eq _ _ ha, Option.bind_some]
  obtain ⟨s, w⟩ := a
  obtain ⟨s', w'⟩ := b
  simp only
  by_cases h : s = s'
  · rw [if_pos (by simpa using h), Equal_Write_eq _ _ hw]
    simp [h]
  · rw [if_neg (by simpa using h)]
    simp [h]
theorem noDisk_true : crosslaw_noDisk ⟨[], []⟩ = some true := by
  unfold crosslaw_noDisk
  rw [SameDisk_eq _ _ (by simp) (by simp)]; simp
end Go.Proofs.Ytpndpdbabblphaa
