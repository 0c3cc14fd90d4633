/-
  The log: append; a closed fact; the law LogScan. Plain.
-/
import Derived.Test.YtegkmfokfakeiaaPLog
namespace Go.Proofs.Ytegkmfokfakeiaa
set_option linter.unusedVariables false
set_option linter.unusedSimpArgs false

def appL (ep : Nat) (S : List (List UInt8)) : Nat → Nat → List Choice → List Write → Disk × Int × Int
  | 0, a, _, w => (⟨S, w⟩, (a : Int), 0)
  | n + 1, a, l, w =>
    if l = [] then (⟨S, w⟩, (a : Int), 0)
    else if (choicesR (l.take 29)).2 ≠ 0 then (⟨[], []⟩, 0, (choicesR (l.take 29)).2)
    else if a = 80 then (⟨[], []⟩, 0, 8)
    else if w.length = 300 then (⟨[], []⟩, 0, 8)
    else appL ep S n (a + 1) (l.drop 29) (w ++ [⟨((120 + a : Nat) : Int), frm (UInt8.ofNat ep :: (choicesR (l.take 29)).1)⟩])
theorem choices_len (l : List Choice) (h : l.length ≤ 29) : (choicesR l).1.length ≤ 58 := by
  unfold choicesR
  rw [if_neg (by omega)]
  split
  · rw [bytes_len]; omega
  · simp
theorem App_loop (ep : Nat) (hep : ep ≤ 200) (S : List (List UInt8)) : ∀ (n a : Nat) (l : List Choice) (w : List Write), l.length ≤ n → l.length ≤ 1099511627776 → a ≤ 80 → okDisk ⟨S, w⟩ →
    iter (fun ss_22 : Int × (List Choice) × (List (List UInt8)) × (List Write) => log_Append_l1 (ep : Int) ss_22.1 ss_22.2.1 ss_22.2.2.1 ss_22.2.2.2) ((a : Int), l, S, w) = some (appL ep S n a l w) := by
  intro n
  induction n with
  | zero =>
    intro a l w h hl ha hd
    have hl0 : l = [] := List.eq_nil_of_length_eq_zero (by omega)
    subst hl0
    have e : log_Append_l1 (ep : Int) (a : Int) [] S w = some (.inr (⟨S, w⟩, (a : Int), 0)) := by
      unfold log_Append_l1
      rw [if_neg (by simp)]; rfl
    rw [iter_eq]; simp only [e]; rfl
  | succ n ih =>
    intro a l w h hl ha hd
    by_cases hl0 : l = []
    · subst hl0
      have e : log_Append_l1 (ep : Int) (a : Int) [] S w = some (.inr (⟨S, w⟩, (a : Int), 0)) := by
        unfold log_Append_l1
        rw [if_neg (by simp)]; rfl
      rw [iter_eq]; simp only [e]; simp [appL]
    have hpos : 0 < l.length := List.length_pos_iff.2 hl0
    have hmin : (if ((l).length : Int) < 29 then ((l).length : Int) else 29) = ((min l.length 29 : Nat) : Int) := by split <;> omega
    have htake : l.take (min l.length 29) = l.take 29 := by
      by_cases h29 : l.length ≤ 29
      · rw [Nat.min_eq_left h29, List.take_of_length_le (by omega), List.take_of_length_le h29]
      · rw [Nat.min_eq_right (by omega)]
    have hdrop : l.drop (min l.length 29) = l.drop 29 := by
      by_cases h29 : l.length ≤ 29
      · rw [Nat.min_eq_left h29, List.drop_of_length_le (by omega), List.drop_of_length_le h29]
      · rw [Nat.min_eq_right (by omega)]
    have s1 : sub l 0 ((min l.length 29 : Nat) : Int) = some (l.take 29) := by rw [sub_0 (by omega), htake]
    have s2 : sub l ((min l.length 29 : Nat) : Int) (l.length : Int) = some (l.drop 29) := by rw [sub_end (by omega), hdrop]
    have hcl := choices_len (l.take 29) (by simp; omega)
    unfold appL
    rw [if_neg hl0]
    by_cases hc : (choicesR (l.take 29)).2 ≠ 0
    · have e : log_Append_l1 (ep : Int) (a : Int) l S w = some (.inr (⟨[], []⟩, 0, (choicesR (l.take 29)).2)) := by
        unfold log_Append_l1
        rw [if_pos (by simp; omega), hmin, s1]
        simp only [Option.bind_some, frame_Choices_eq]
        rw [if_pos (by simpa using hc)]; rfl
      rw [iter_eq]; simp only [e]; rw [if_pos hc]
    have hput : putR (UInt8.ofNat ep :: (choicesR (l.take 29)).1) = (frm (UInt8.ofNat ep :: (choicesR (l.take 29)).1), 0) := by
      unfold putR
      rw [if_neg (by simp), if_neg (by simp; omega)]
    have hfl : (frm (UInt8.ofNat ep :: (choicesR (l.take 29)).1)).length ≤ 62 := by simp [frm]; omega
    rw [if_neg hc]
    by_cases ha80 : a = 80
    · have e : log_Append_l1 (ep : Int) (a : Int) l S w = some (.inr (⟨[], []⟩, 0, 8)) := by
        unfold log_Append_l1
        rw [if_pos (by simp; omega), hmin, s1]
        simp only [Option.bind_some, frame_Choices_eq]
        rw [if_neg (by simpa using hc), str_1, cat_ok (by simp; omega)]
        simp only [Option.bind_some, List.singleton_append, frame_Put_eq, hput]
        rw [wrap_ok (n := 120 + (a : Int)) (by omega) (by omega), if_pos (by simp; omega)]; rfl
      rw [iter_eq]; simp only [e]; rw [if_pos ha80]
    rw [if_neg ha80]
    have hh := hd
    unfold okDisk at hh
    have w120 : IntKind.i64.wrap (120 + (a : Int)) = ((120 + a : Nat) : Int) := by rw [wrap_ok (by omega) (by omega)]; omega
    by_cases hw : w.length = 300
    · have hW : disk_Write ⟨S, w⟩ ((120 + a : Nat) : Int) (frm (UInt8.ofNat ep :: (choicesR (l.take 29)).1)) = some (⟨[], []⟩, 8) := by
        unfold disk_Write
        rw [Check_ok hd]
        simp only [Option.bind_some]
        rw [if_neg (by simp), if_neg (by simp; omega), if_neg (by simp; omega), if_pos (by simp [hw])]
      have e : log_Append_l1 (ep : Int) (a : Int) l S w = some (.inr (⟨[], []⟩, 0, 8)) := by
        unfold log_Append_l1
        rw [if_pos (by simp; omega), hmin, s1]
        simp only [Option.bind_some, frame_Choices_eq]
        rw [if_neg (by simpa using hc), str_1, cat_ok (by simp; omega)]
        simp only [Option.bind_some, List.singleton_append, frame_Put_eq, hput, w120]
        rw [if_neg (by simp; omega), hW]; rfl
      rw [iter_eq]; simp only [e]; rw [if_pos hw]
    rw [if_neg hw]
    have hW := Write_ok hd ((120 + a : Nat) : Int) (frm (UInt8.ofNat ep :: (choicesR (l.take 29)).1)) (by omega) (by omega) (by omega) (by show w.length < 300; have := hh.2.1; simp only at this; omega)
    have e : log_Append_l1 (ep : Int) (a : Int) l S w = some (.inl (((a + 1 : Nat) : Int), l.drop 29, S, w ++ [⟨((120 + a : Nat) : Int), frm (UInt8.ofNat ep :: (choicesR (l.take 29)).1)⟩])) := by
      unfold log_Append_l1
      rw [if_pos (by simp; omega), hmin, s1]
      simp only [Option.bind_some, frame_Choices_eq]
      rw [if_neg (by simpa using hc), str_1, cat_ok (by simp; omega)]
      simp only [Option.bind_some, List.singleton_append, frame_Put_eq, hput, w120]
      rw [if_neg (by simp; omega), hW]
      simp only [Option.bind_some]
      rw [if_neg (by simp), s2, wrap_1 (by omega)]; rfl
    rw [iter_eq]; simp only [e]
    refine ih (a + 1) (l.drop 29) _ (by simp; omega) (by simp; omega) (by omega) ⟨hh.1, ?_, hd.2.2.1, ?_⟩
    · show (w ++ [_]).length ≤ 300
      have := hh.2.1
      simp only at this
      simp; omega
    · intro x hx
      rcases List.mem_append.1 hx with hx | hx
      · exact hd.2.2.2 x hx
      · simp at hx; subst hx; exact ⟨by simp; omega, by simp; omega, by show (frm _).length ≤ 64; omega⟩
theorem Append_eq {d : Disk} (hd : okDisk d) (ep a : Nat) (l : List Choice) (hep : ep ≤ 200) (ha : a ≤ 80) (hl : l.length ≤ 1099511627776) : log_Append d (ep : Int) (a : Int) l = some (appL ep d.Sectors l.length a l d.Wait) := by
  unfold log_Append
  rw [Check_ok hd]
  simp only [Option.bind_some]
  rw [if_neg (by simp), if_neg (by simp; omega)]
  exact App_loop ep hep d.Sectors l.length a l d.Wait (Nat.le_refl _) hl ha hd

def f3 : List UInt8 := frm [3, 2, 1]
theorem logged_true : crosslaw_logged = some true := by
  have o0 : okDisk ⟨[], []⟩ := by simp [okDisk]
  have o1 : okDisk ⟨[], [⟨120, f3⟩]⟩ := by
    refine ⟨by simp, by simp, by simp, ?_⟩
    intro w hw
    simp at hw; subst hw
    exact ⟨by simp, by simp, by decide +kernel⟩
  have hA := Append_eq o0 3 0 [⟨2, 1⟩] (by omega) (by omega) (by simp)
  have hA' : log_Append ⟨[], []⟩ 3 0 [⟨2, 1⟩] = some (⟨[], [⟨120, f3⟩]⟩, 1, 0) := hA.trans (by decide +kernel)
  have hF := Flush_eq o1
  have hP : putW [] [⟨120, f3⟩] = List.replicate 120 [] ++ [f3] := by decide +kernel
  simp only [hP] at hF
  have o2 : okDisk ⟨List.replicate 120 [] ++ [f3], []⟩ := by
    refine ⟨by simp, by simp, ?_, by simp⟩
    intro s hs
    rcases List.mem_append.1 hs with hs | hs
    · rw [(List.mem_replicate.1 hs).2]; simp [okS]
    · simp at hs; subst hs; unfold okS; decide +kernel
  have hS := Scan_eq o2 3 (by omega) (by omega)
  have hv : scanL 3 ((List.replicate 120 [] ++ [f3]).drop 120) = ([⟨2, 1⟩], 1) := by decide +kernel
  simp only [hv] at hS
  unfold crosslaw_logged
  rw [hA']; simp only [Option.bind_some]
  rw [hF]; simp only [Option.bind_some]
  rw [hS]; simp only [Option.bind_some]
  rw [slices_Equal_Choice_eq _ _ (by simp)]
  simp

theorem CheckDisk_eq (d : Disk) : crossref_CheckDisk d = disk_Check d := by
  have h1 : crossref_CheckDisk_l1 = disk_Check_l1 := by
    funext p s
    unfold crossref_CheckDisk_l1 disk_Check_l1
    have : ∀ n : Int, decide (n > 199) = decide (n ≥ 200) := fun n => decide_eq_decide.2 (by omega)
    simp only [this]
  have h2 : crossref_CheckDisk_l2 = disk_Check_l2 := by
    funext p s
    unfold crossref_CheckDisk_l2 disk_Check_l2
    rw [h1]
  unfold crossref_CheckDisk disk_Check
  rw [h2]
theorem Scan_bad {d : Disk} {e : Int} (h : disk_Check d = some e) (he : e ≠ 0) (ep : Int) : log_Scan d ep = some ([], 0, e) := by
  unfold log_Scan
  rw [h]
  simp only [Option.bind_some]
  rw [if_pos (by simpa using he)]
theorem scan_len (ep : Int) : ∀ S : List (List UInt8), (scanL ep S).1.length ≤ 30 * S.length
  | [] => by simp [scanL]
  | s :: S => by
    unfold scanL
    have := scan_len ep S
    have := recS_len ep s
    split <;> simp <;> omega

theorem LogScan_true (d : Disk) (ep : Int) : crosslaw_LogScan d ep = some true := by
  unfold crosslaw_LogScan
  obtain ⟨e, h1, h2⟩ := Check_ex d
  by_cases h : okDisk d
  · have he := h2.2 h
    subst he
    have hh := h
    unfold okDisk at hh
    by_cases hep : 0 ≤ ep ∧ ep ≤ 200
    · rw [Scan_eq h ep hep.1 hep.2, CheckDisk_eq, h1]
      simp only [Option.bind_some]
      rw [if_neg (by simp; omega)]
      unfold crosslaw_LogScan_k1
      rw [logged_true]
      simp only [Option.bind_some]
      rw [if_neg (by simp), LogOf_eq h]
      simp only [Option.bind_some, beq_self_eq_true, if_true]
      rw [slices_Equal_Choice_eq _ _ (by have := scan_len ep (d.Sectors.drop 120); simp at this; omega)]
      simp
    · rw [Scan_far h ep hep, CheckDisk_eq, h1]
      simp only [Option.bind_some]
      rw [if_pos (by simp; omega)]
      unfold crosslaw_LogScan_k1
      rw [logged_true]
      simp
  · have he : e ≠ 0 := fun x => h (h2.1 x)
    rw [Scan_bad h1 he, CheckDisk_eq, h1]
    simp only [Option.bind_some]
    rw [if_neg (by simp [he])]
    unfold crosslaw_LogScan_k1
    rw [logged_true]
    simp [he]
end Go.Proofs.Ytegkmfokfakeiaa
