/-
  The law LogAppend. Plain.
-/
import Derived.Test.YtegkmfokfakeiaaPLog2
namespace Go.Proofs.Ytegkmfokfakeiaa
set_option linter.unusedVariables false
set_option linter.unusedSimpArgs false

theorem slices_Equal_Write_eq (a b : List Write) (ha : a.length ≤ 1099511627776) : slices_Equal_Write a b = some (decide (a = b)) := by
  unfold slices_Equal_Write
  by_cases hl : a.length = b.length
  · rw [if_neg (by simp; omega)]
    exact equal_loop a b ha hl (fun k x y h1 h2 h3 h4 => by
      unfold slices_Equal_Write_l1
      rw [h1, h2, h3, h4]
      by_cases h : x = y <;> simp [h]) (fun h => by
      unfold slices_Equal_Write_l1
      rw [h]; simp)
  · rw [if_pos (by simp; omega)]
    have : a ≠ b := fun e => hl (by rw [e])
    simp [this]
theorem noDisk_nil : crosslaw_noDisk ⟨[], []⟩ = some true := by
  unfold crosslaw_noDisk crossref_SameDisk
  rw [slices_Equal_string_eq _ _ (by simp)]
  simp only [Option.bind_some, decide_true, if_true]
  rw [slices_Equal_Write_eq _ _ (by simp)]
  simp

/-- What the law's inner loop makes of one record's choices. -/
theorem la_in (k i : Nat) (w : List Write) (hw : w.length ≤ 300) (hk : k ≤ 80) (c : List Choice) (hc : c.length ≤ 29) (ep : Nat) (hi : i ≤ 1099511627776) :
    iter (fun ss_107 : Int × (List UInt8) × Int => crosslaw_LogAppend_l2 (k : Int) (i : Int) w c ss_107.1 ss_107.2.1 ss_107.2.2) (0, [UInt8.ofNat ep], 0) =
      some (.inl (if ∀ x, x ∈ c → okC x then (if k = 80 ∨ w.length = 300 then (8, (k : Int), ((i + 29 : Nat) : Int), w) else (0, ((k + 1 : Nat) : Int), ((i + 29 : Nat) : Int), w ++ [⟨((120 + k : Nat) : Int), frm (UInt8.ofNat ep :: c.flatMap bytesC)⟩])) else (3, (k : Int), ((i + 29 : Nat) : Int), w))) := by
  have w29 : IntKind.i64.wrap ((i : Int) + 29) = ((i + 29 : Nat) : Int) := by rw [wrap_ok (by omega) (by omega)]; omega
  have this := iter_list0 (σ := Int × List UInt8) c (by omega) (fun j st => (st.1, st.2, (j : Int))) (body := fun ss_107 : Int × (List UInt8) × Int => crosslaw_LogAppend_l2 (k : Int) (i : Int) w c ss_107.1 ss_107.2.1 ss_107.2.2)
    (fun j x st => (cat st.2 (toStr [IntKind.u8.wrap x.Node, IntKind.u8.wrap x.Lane])).map fun b => .inl ((if okC x then st.1 else 3), b))
    (fun st => (if (st.1 != 0) = true then (some (.inl (st.1, (k : Int), IntKind.i64.wrap ((i : Int) + 29), w))) else (if (((k : Int) == 80) || ((w).length : Int) == 300) = true then (some (.inl (8, (k : Int), IntKind.i64.wrap ((i : Int) + 29), w))) else (Option.bind (crossref_Framed st.2) fun x25 => (Option.bind (app w [(⟨IntKind.i64.wrap (120 + (k : Int)), x25⟩ : Write)]) fun x26 => (some (.inl (st.1, IntKind.i64.wrap ((k : Int) + 1), IntKind.i64.wrap ((i : Int) + 29), x26)))))))) (0, [UInt8.ofNat ep])
    (fun j x st _ _ h1 h2 h3 => by
      show crosslaw_LogAppend_l2 (k : Int) (i : Int) w c st.1 st.2 (j : Int) = _
      unfold crosslaw_LogAppend_l2 crosslaw_LogAppend_k1
      rw [h2, h1, h3]
      simp only [if_true, Option.bind_some, bad_eq2]
      by_cases hx : okC x
      · rw [if_neg (by simp [hx]), if_pos hx]
        cases cat st.2 (toStr [IntKind.u8.wrap x.Node, IntKind.u8.wrap x.Lane]) <;> rfl
      · rw [if_pos (by simp [hx]), if_neg hx]
        cases cat st.2 (toStr [IntKind.u8.wrap x.Node, IntKind.u8.wrap x.Lane]) <;> rfl)
    (fun st h => by
      show crosslaw_LogAppend_l2 (k : Int) (i : Int) w c st.1 st.2 (c.length : Int) = _
      unfold crosslaw_LogAppend_l2
      rw [h]; rfl)
  refine Eq.trans this ?_
  clear this
  generalize hfin : (fun st : Int × List UInt8 => (if (st.1 != 0) = true then (some (.inl (st.1, (k : Int), IntKind.i64.wrap ((i : Int) + 29), w))) else (if (((k : Int) == 80) || ((w).length : Int) == 300) = true then (some (.inl (8, (k : Int), IntKind.i64.wrap ((i : Int) + 29), w))) else (Option.bind (crossref_Framed st.2) fun x25 => (Option.bind (app w [(⟨IntKind.i64.wrap (120 + (k : Int)), x25⟩ : Write)]) fun x26 => (some (.inl (st.1, IntKind.i64.wrap ((k : Int) + 1), IntKind.i64.wrap ((i : Int) + 29), x26)))))) : Option ((Int × Int × Int × List Write) ⊕ Bool))) = fin
  have fold : ∀ (ys : List Choice) (j : Nat) (z : Int) (b : List UInt8), b.length + 2 * ys.length ≤ 4611686018427387904 →
      ∃ b', foldE (σ := Int × List UInt8) (fun j x st => (cat st.2 (toStr [IntKind.u8.wrap x.Node, IntKind.u8.wrap x.Lane])).map fun b => .inl ((if okC x then st.1 else 3), b)) fin j ys (z, b) = fin ((if ∀ x, x ∈ ys → okC x then z else 3), b') ∧ ((∀ x, x ∈ ys → okC x) → b' = b ++ ys.flatMap bytesC) := by
    intro ys
    induction ys with
    | nil => intro j z b _; exact ⟨b, by simp [foldE], by simp⟩
    | cons y ys ih =>
      intro j z b hb
      simp only [List.length_cons] at hb
      unfold foldE
      rw [cat_ok (by simp [toStr]; omega)]
      simp only [Option.map_some]
      obtain ⟨b', h1, h2⟩ := ih (j + 1) (if okC y then z else 3) (b ++ toStr [IntKind.u8.wrap y.Node, IntKind.u8.wrap y.Lane]) (by simp [toStr]; omega)
      refine ⟨b', h1.trans ?_, ?_⟩
      · by_cases hy : okC y
        · rw [if_pos hy]
          by_cases hall : ∀ x, x ∈ ys → okC x
          · rw [if_pos hall, if_pos (by intro x hx; rcases List.mem_cons.1 hx with rfl | hx; exact hy; exact hall x hx)]
          · rw [if_neg hall, if_neg (fun h => hall (fun x hx => h x (by simp [hx])))]
        · rw [if_neg hy, if_neg (c := ∀ x, x ∈ y :: ys → okC x) (fun h => hy (h y (by simp)))]
          split <;> rfl
      · intro hall
        have hy := hall y (by simp)
        have hy' := hy
        unfold okC at hy'
        rw [h2 (fun x hx => hall x (by simp [hx])), u8_small (by omega) (by omega), u8_small (by omega) (by omega)]
        simp [toStr, bytesC]
  obtain ⟨b', h1, h2⟩ := fold c 0 0 [UInt8.ofNat ep] (by simp; omega)
  rw [h1, ← hfin]
  simp only [w29]
  by_cases hall : ∀ x, x ∈ c → okC x
  · rw [if_pos hall, if_pos hall, h2 hall]
    rw [if_neg (by simp)]
    by_cases hf : k = 80 ∨ w.length = 300
    · rw [if_pos (by simp; omega), if_pos hf]
    · rw [if_neg (by simp; omega), if_neg hf]
      have hl : ([UInt8.ofNat ep] ++ c.flatMap bytesC).length ≤ 1048576 := by rw [List.length_append, bytes_len, List.length_cons, List.length_nil]; omega
      rw [Framed_eq _ hl]
      simp only [Option.bind_some]
      rw [app_ok (by simp; omega), wrap_1 (by omega), wrap_ok (n := 120 + (k : Int)) (by omega) (by omega)]
      simp only [Option.bind_some]
      rw [show (120 : Int) + (k : Int) = ((120 + k : Nat) : Int) by omega]
      rfl
  · rw [if_neg hall, if_neg hall, if_pos (by simp)]

theorem la_out (d : Disk) (ep a : Int) (x : Disk × Int × Int) (l : List Choice) (z k i : Int) (w : List Write) (hz : z ≠ 0) (hx : x = (⟨[], []⟩, 0, z)) :
    iter (fun ss_83 : Int × Int × Int × (List Write) => crosslaw_LogAppend_l3 d ep x l ss_83.1 ss_83.2.1 ss_83.2.2.1 ss_83.2.2.2) (z, k, i, w) = some true := by
  have e : crosslaw_LogAppend_l3 d ep x l z k i w = some (.inr true) := by
    unfold crosslaw_LogAppend_l3
    rw [if_neg (by simp [hz]), logged_true]
    simp only [Option.bind_some]
    rw [if_pos (by simp [hz])]
    subst hx
    simp [noDisk_nil]
  rw [iter_eq]; simp only [e]

theorem la_loop (d : Disk) (hd : okDisk d) (ep : Nat) (hep : ep ≤ 200) (l : List Choice) (hl : l.length ≤ 1048576) (x : Disk × Int × Int) :
    ∀ (n k i : Nat) (w : List Write), (l.drop i).length ≤ n → k ≤ 80 → w.length ≤ 300 → i ≤ 1048576 + 29 → x = appL ep d.Sectors n k (l.drop i) w →
    iter (fun ss_83 : Int × Int × Int × (List Write) => crosslaw_LogAppend_l3 d (ep : Int) x l ss_83.1 ss_83.2.1 ss_83.2.2.1 ss_83.2.2.2) (0, (k : Int), (i : Int), w) = some true := by
  intro n
  have fin : ∀ (k i : Nat) (w : List Write), l.length ≤ i → w.length ≤ 300 → x = (⟨d.Sectors, w⟩, (k : Int), 0) → iter (fun ss_83 : Int × Int × Int × (List Write) => crosslaw_LogAppend_l3 d (ep : Int) x l ss_83.1 ss_83.2.1 ss_83.2.2.1 ss_83.2.2.2) (0, (k : Int), (i : Int), w) = some true := by
    intro k i w hi hw hx
    have hh := hd
    unfold okDisk at hh
    have e : crosslaw_LogAppend_l3 d (ep : Int) x l 0 (k : Int) (i : Int) w = some (.inr true) := by
      unfold crosslaw_LogAppend_l3
      rw [if_neg (by simp; omega), logged_true]
      simp only [Option.bind_some]
      rw [if_neg (by simp)]
      subst hx
      simp only [beq_self_eq_true, if_true]
      rw [slices_Equal_string_eq _ _ (by omega), slices_Equal_Write_eq _ _ (by show w.length ≤ _; omega)]
      simp
    rw [iter_eq]; simp only [e]
  induction n with
  | zero =>
    intro k i w h hk hw hi hx
    refine fin k i w (by simp at h; omega) hw ?_
    rw [hx]; rfl
  | succ n ih =>
    intro k i w h hk hw hi hx
    by_cases hdone : l.length ≤ i
    · refine fin k i w hdone hw ?_
      rw [hx, List.drop_of_length_le hdone]; simp [appL]
    have hne : l.drop i ≠ [] := fun h0 => by
      have := congrArg List.length h0
      simp at this; omega
    have hsub : sub l (i : Int) (if ((l).length : Int) < (IntKind.i64.wrap ((i : Int) + 29)) then ((l).length : Int) else (IntKind.i64.wrap ((i : Int) + 29))) = some ((l.drop i).take 29) := by
      rw [wrap_ok (n := (i : Int) + 29) (by omega) (by omega)]
      by_cases hs : l.length < i + 29
      · rw [if_pos (by omega), sub_end (by omega), List.take_of_length_le (by simp; omega)]
      · rw [if_neg (by omega)]
        have := sub_ok (xs := l) (i := i) (j := i + 29) (by omega) (by omega)
        rw [show ((i + 29 : Nat) : Int) = (i : Int) + 29 by omega] at this
        rw [this]
        congr 1
        rw [List.drop_take, Nat.add_sub_cancel_left]
    have hstr : toStr [IntKind.u8.wrap (ep : Int)] = [UInt8.ofNat ep] := str_1 ep
    have hin := la_in k i w hw hk ((l.drop i).take 29) (by simp; omega) ep (by omega)
    have hstep : ∀ r, iter (fun ss_107 : Int × (List UInt8) × Int => crosslaw_LogAppend_l2 (k : Int) (i : Int) w ((l.drop i).take 29) ss_107.1 ss_107.2.1 ss_107.2.2) (0, [UInt8.ofNat ep], 0) = some (.inl r) → crosslaw_LogAppend_l3 d (ep : Int) x l 0 (k : Int) (i : Int) w = some (.inl r) := by
      intro r hr
      unfold crosslaw_LogAppend_l3
      rw [if_pos (by simp; omega), hsub]
      simp only [Option.bind_some]
      rw [hstr]
      exact hr
    have e := hstep _ hin
    have hch : choicesR ((l.drop i).take 29) = if ∀ c, c ∈ (l.drop i).take 29 → okC c then (((l.drop i).take 29).flatMap bytesC, 0) else ([], 3) := by
      unfold choicesR; rw [if_neg (by simp; omega)]
    rw [iter_eq]; simp only [e]
    unfold appL at hx
    rw [if_neg hne, hch] at hx
    by_cases hall : ∀ c, c ∈ (l.drop i).take 29 → okC c
    · rw [if_pos hall] at hx ⊢
      rw [if_neg (by simp)] at hx
      by_cases h80 : k = 80
      · rw [if_pos h80] at hx
        rw [if_pos (.inl h80)]
        exact la_out d (ep : Int) 0 x l 8 _ _ _ (by decide) hx
      rw [if_neg h80] at hx
      by_cases h300 : w.length = 300
      · rw [if_pos h300] at hx
        rw [if_pos (.inr h300)]
        exact la_out d (ep : Int) 0 x l 8 _ _ _ (by decide) hx
      rw [if_neg h300] at hx
      rw [if_neg (by omega)]
      rw [List.drop_drop] at hx
      exact ih (k + 1) (i + 29) _ (by simp at h ⊢; omega) (by omega) (by simp; omega) (by omega) hx
    · rw [if_neg hall] at hx ⊢
      rw [if_pos (by simp)] at hx
      exact la_out d (ep : Int) 0 x l 3 _ _ _ (by decide) hx

theorem Append_bad {d : Disk} {e : Int} (h : disk_Check d = some e) (he : e ≠ 0) (ep a : Int) (l : List Choice) : log_Append d ep a l = some (⟨[], []⟩, 0, e) := by
  unfold log_Append
  rw [h]
  simp only [Option.bind_some]
  rw [if_pos (by simpa using he)]
theorem Append_far {d : Disk} (h : okDisk d) (ep a : Int) (l : List Choice) (hf : ¬ (0 ≤ ep ∧ ep ≤ 200 ∧ 0 ≤ a ∧ a ≤ 80)) : log_Append d ep a l = some (⟨[], []⟩, 0, 3) := by
  unfold log_Append
  rw [Check_ok h]
  simp only [Option.bind_some]
  rw [if_neg (by simp), if_pos (by simp; omega)]

theorem LogAppend_true (d : Disk) (ep a : Int) (l : List Choice) (gd : gDisk d) (ge : gI ep) (ga : gI a) (gl : gL gChoice l) (hb : mDisk d + (mI ep + (mI a + (mL mChoice l + 0))) ≤ 1048576) : crosslaw_LogAppend d ep a l = some true := by
  have hl : l.length ≤ 1048576 := by have := len_le (m := mChoice) (fun a => by simp [mChoice]) l; omega
  have hwl : d.Wait.length ≤ 1048576 := by
    have := len_le (m := mWrite) (fun a => by simp [mWrite]) d.Wait
    unfold mDisk at hb; omega
  unfold crosslaw_LogAppend
  obtain ⟨e, h1, h2⟩ := Check_ex d
  by_cases h : okDisk d
  · have he := h2.2 h
    subst he
    have hh := h
    unfold okDisk at hh
    by_cases hr : 0 ≤ ep ∧ ep ≤ 200 ∧ 0 ≤ a ∧ a ≤ 80
    · obtain ⟨p, rfl⟩ : ∃ p : Nat, ep = (p : Int) := ⟨_, (Int.toNat_of_nonneg hr.1).symm⟩
      obtain ⟨q, rfl⟩ : ∃ q : Nat, a = (q : Int) := ⟨_, (Int.toNat_of_nonneg hr.2.2.1).symm⟩
      rw [Append_eq h p q l (by omega) (by omega) (by omega), CheckDisk_eq, h1]
      simp only [Option.bind_some]
      rw [if_neg (by simp; omega)]
      unfold crosslaw_LogAppend_k4
      rw [CloneW_eq _ (by omega)]
      simp only [Option.bind_some]
      exact la_loop d h p (by omega) l hl _ l.length q 0 d.Wait (by simp) (by omega) (by omega) (by omega) (by rw [List.drop_zero])
    · rw [Append_far h ep a l hr, CheckDisk_eq, h1]
      simp only [Option.bind_some]
      rw [if_pos (by simp; omega)]
      unfold crosslaw_LogAppend_k4
      rw [CloneW_eq _ (by omega)]
      simp only [Option.bind_some]
      exact la_out d ep 0 _ l 3 _ _ _ (by decide) rfl
  · have he : e ≠ 0 := fun x => h (h2.1 x)
    rw [Append_bad h1 he, CheckDisk_eq, h1]
    simp only [Option.bind_some]
    rw [if_neg (by simp [he])]
    unfold crosslaw_LogAppend_k4
    rw [CloneW_eq _ (by omega)]
    simp only [Option.bind_some]
    exact la_out d ep 0 _ l e _ _ _ he rfl
end Go.Proofs.Ytegkmfokfakeiaa
