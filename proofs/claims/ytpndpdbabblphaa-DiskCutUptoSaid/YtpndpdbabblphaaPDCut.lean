/-
  The law DiskCut. Plain.
-/
import Derived.Test.YtpndpdbabblphaaPDone
namespace Go.Proofs.Ytpndpdbabblphaa
set_option linter.unusedVariables false
set_option linter.unusedSimpArgs false

theorem join_flat (xs : List (List UInt8)) : Lib.join xs [] = xs.flatten := by
  cases xs with
  | nil => rfl
  | cons x r => rw [Lib.join_cons]; simp [Lib.joinTail]
theorem flat_len : ∀ (l : List (List UInt8)), (∀ s, s ∈ l → okS s) → l.flatten.length ≤ 64 * l.length
  | [], _ => by simp
  | s :: l, h => by
    have h1 := h s (by simp)
    have h2 := flat_len l (fun x hx => h x (by simp [hx]))
    unfold okS at h1
    simp only [List.flatten_cons, List.length_append, List.length_cons]
    omega
theorem All_eq {d : Disk} (h : okDisk d) : disk_All d = some (d.Sectors.flatten, 0) := by
  have hh := h
  unfold okDisk at hh
  have hf := flat_len d.Sectors hh.2.2.1
  unfold disk_All
  rw [Check_ok h, Option.bind_some, if_neg (by simp)]
  have : strings_Join d.Sectors [] = some d.Sectors.flatten := by
    unfold strings_Join joinB
    rw [join_flat, if_pos (by omega)]
  rw [this]; rfl
theorem putW_snoc (S : List (List UInt8)) (ch : List Write) (w : Write) : putW S (ch ++ [w]) = put1 (putW S ch) w := by
  unfold putW; rw [List.foldl_append]; rfl
theorem some_loop {d : Disk} (h : okDisk d) (ws : List Int) (hws : ws.length ≤ 1048576) : ∀ (m k : Nat) (prev : Int) (ch : List Write), k + m = ws.length → (k = 0 → prev = -1) → (∀ j, k = j + 1 → ws[j]? = some prev) → -1 ≤ prev → prev < d.Wait.length → (ch.length : Int) ≤ prev + 1 → (∀ w, w ∈ ch → okW w) →
    ∃ x6, iter (fun ss : Int × Int × (List (List UInt8)) => disk_Some_l1 d ws ss.1 ss.2.1 ss.2.2) (prev, (k : Int), putW d.Sectors ch) = some x6 ∧ iter (fun ss : Int × (List Write) => crosslaw_DiskCut_l1 d ws x6 ss.1 ss.2) ((k : Int), ch) = some true
  | 0, k, prev, ch, hk, h0, hp, h1, h2, h3, h4 => by
    have hh := h
    unfold okDisk at hh
    have hk : k = ws.length := by omega
    subst hk
    refine ⟨(⟨putW d.Sectors ch, []⟩, 0), ?_, ?_⟩
    · rw [iter_eq]
      have e : disk_Some_l1 d ws prev (ws.length : Int) (putW d.Sectors ch) = some (.inr (⟨putW d.Sectors ch, []⟩, 0)) := by
        unfold disk_Some_l1
        rw [if_neg (by simp)]; rfl
      simp only [e]
    · rw [iter_eq]
      have hpl := (putW_ok ch d.Sectors h4 hh.1 hh.2.2.1).1
      have e : crosslaw_DiskCut_l1 d ws (⟨putW d.Sectors ch, []⟩, 0) (ws.length : Int) ch = some (.inr true) := by
        unfold crosslaw_DiskCut_l1
        rw [if_neg (by simp)]
        simp only
        rw [if_pos (by simp), Done_eq _ _ hh.1 (by omega) h4 hh.2.2.1, Option.bind_some, SameDisk_eq _ _ (by show (putW d.Sectors ch).length ≤ _; omega) (by simp)]
        simp
      simp only [e]
  | m + 1, k, prev, ch, hk, h0, hp, h1, h2, h3, h4 => by
    have hh := h
    unfold okDisk at hh
    have hlt : k < ws.length := by omega
    have hx : ws[k]? = some ws[k] := List.getElem?_eq_getElem hlt
    generalize hxv : ws[k] = x at hx
    have hkw : decide ((k : Int) < (ws.length : Int)) = true := by simp; omega
    have hwr : IntKind.i64.wrap ((k : Int) + 1) = ((k + 1 : Nat) : Int) := wrap_1 (by omega)
    have prevc : (if decide ((k : Int) > 0) = true then (Option.bind (idx ws (IntKind.i64.wrap ((k : Int) - 1))) fun x40 => some (decide (x ≤ x40))) else some false) = some (decide (k ≠ 0 ∧ x ≤ prev)) := by
      cases k with
      | zero => simp
      | succ j =>
        rw [if_pos (by simp), wrap_ok (by omega) (by omega), show ((j + 1 : Nat) : Int) - 1 = (j : Int) by omega, idx_at (hp j rfl)]
        simp
    by_cases hr : x < 0 ∨ (d.Wait.length : Int) ≤ x
    · refine ⟨(⟨[], []⟩, 3), ?_, ?_⟩
      · rw [iter_eq]
        have e : disk_Some_l1 d ws prev (k : Int) (putW d.Sectors ch) = some (.inr (⟨[], []⟩, 3)) := by
          unfold disk_Some_l1
          rw [if_pos hkw, idx_at hx, Option.bind_some, if_pos (by simpa using hr)]; rfl
        simp only [e]
      · rw [iter_eq]
        have e : crosslaw_DiskCut_l1 d ws (⟨[], []⟩, 3) (k : Int) ch = some (.inr true) := by
          unfold crosslaw_DiskCut_l1
          rw [if_pos hkw, idx_at hx, Option.bind_some, if_pos (by simpa using hr)]
          simp only
          rw [if_pos (by simp), noDisk_true]; rfl
        simp only [e]
    · have hr' : ¬ (((decide (x < 0)) || decide (x ≥ (d.Wait.length : Int))) = true) := by simpa using hr
      obtain ⟨i, rfl⟩ := Int.eq_ofNat_of_zero_le (show 0 ≤ x by omega)
      have hi : i < d.Wait.length := by omega
      by_cases hle : (i : Int) ≤ prev
      · have hk0 : k ≠ 0 := fun e => by have := h0 e; omega
        refine ⟨(⟨[], []⟩, 4), ?_, ?_⟩
        · rw [iter_eq]
          have e : disk_Some_l1 d ws prev (k : Int) (putW d.Sectors ch) = some (.inr (⟨[], []⟩, 4)) := by
            unfold disk_Some_l1
            rw [if_pos hkw, idx_at hx, Option.bind_some, if_neg hr', if_pos (by simpa using hle)]; rfl
          simp only [e]
        · rw [iter_eq]
          have e : crosslaw_DiskCut_l1 d ws (⟨[], []⟩, 4) (k : Int) ch = some (.inr true) := by
            unfold crosslaw_DiskCut_l1
            rw [if_pos hkw, idx_at hx, Option.bind_some, if_neg hr', prevc, Option.bind_some, if_pos (by simpa using ⟨hk0, hle⟩)]
            simp only
            rw [if_pos (by simp), noDisk_true]; rfl
          simp only [e]
      · have hw : d.Wait[i]? = some d.Wait[i] := List.getElem?_eq_getElem hi
        have hok := hh.2.2.2 d.Wait[i] (List.getElem_mem _)
        have hpk : ∀ j, k + 1 = j + 1 → ws[j]? = some (i : Int) := fun j e => by
          have : j = k := by omega
          subst this
          exact hx
        obtain ⟨x6, h5, h6⟩ := some_loop h ws hws m (k + 1) (i : Int) (ch ++ [d.Wait[i]]) (by omega) (fun e => by omega) (hpk) (by omega) (by omega) (by simp; omega) (fun w hm => by
          rcases List.mem_append.1 hm with hm | hm
          · exact h4 w hm
          · simp at hm; subst hm; exact hok)
        refine ⟨x6, ?_, ?_⟩
        · rw [iter_eq]
          have e : disk_Some_l1 d ws prev (k : Int) (putW d.Sectors ch) = some (.inl ((i : Int), ((k + 1 : Nat) : Int), putW d.Sectors (ch ++ [d.Wait[i]]))) := by
            unfold disk_Some_l1
            rw [if_pos hkw, idx_at hx, Option.bind_some, if_neg hr', if_neg (by simpa using hle), idx_at hw, Option.bind_some, put_eq1 _ _ hok, Option.bind_some, hwr, putW_snoc]
          simp only [e]
          exact h5
        · rw [iter_eq]
          have e : crosslaw_DiskCut_l1 d ws x6 (k : Int) ch = some (.inl (((k + 1 : Nat) : Int), ch ++ [d.Wait[i]])) := by
            unfold crosslaw_DiskCut_l1
            rw [if_pos hkw, idx_at hx, Option.bind_some, if_neg hr', prevc, Option.bind_some, if_neg (by simp; omega), idx_at hw, Option.bind_some, app_ok (by simp; omega), Option.bind_some, hwr]
          simp only [e]
          exact h6
theorem Some_ok {d : Disk} (h : okDisk d) (ws : List Int) (hws : ws.length ≤ 1048576) : ∃ x6, disk_Some d ws = some x6 ∧ crosslaw_DiskCut_k2 d ws x6 = some true := by
  have hh := h
  unfold okDisk at hh
  obtain ⟨x6, h1, h2⟩ := some_loop h ws hws ws.length 0 (-1) [] (by omega) (fun _ => rfl) (fun j e => by omega) (by omega) (by omega) (by simp) (fun w hw => by simp at hw)
  refine ⟨x6, ?_, h2⟩
  unfold disk_Some
  rw [Check_ok h, Option.bind_some, if_neg (by simp), Clone_eq _ (by omega), Option.bind_some]
  exact h1
theorem cut_loop {d : Disk} (h : okDisk d) (n : Int) (ws : List Int) (x2 x6 : Disk × Int) (hk2 : crosslaw_DiskCut_k2 d ws x6 = some true)
    (hx2 : (n < 0 ∨ (d.Wait.length : Int) < n) ∧ x2 = (⟨[], []⟩, 3) ∨ ∃ k : Nat, n = (k : Int) ∧ k ≤ d.Wait.length ∧ x2 = (⟨putW d.Sectors (d.Wait.take k), []⟩, 0)) : ∀ (m k : Nat), k + m = d.Sectors.length →
    iter (fun ss : (List UInt8) × Int => crosslaw_DiskCut_l3 d n ws x2 (⟨putW d.Sectors d.Wait, []⟩, 0) x6 (d.Sectors.flatten, 0) ss.1 ss.2) ((d.Sectors.take k).flatten, (k : Int)) = some true
  | 0, k, hk => by
    have hh := h
    unfold okDisk at hh
    have hk : k = d.Sectors.length := by omega
    subst hk
    have done : ∀ W : List Write, W.length ≤ 300 → (∀ w, w ∈ W → okW w) → crossref_Done d.Sectors W = some (putW d.Sectors W) := fun W h1 h2 => Done_eq _ _ hh.1 (by omega) h2 hh.2.2.1
    have same : ∀ W : List Write, (∀ w, w ∈ W → okW w) → crossref_SameDisk ⟨putW d.Sectors W, []⟩ ⟨putW d.Sectors W, []⟩ = some true := fun W h2 => by
      have := (putW_ok W d.Sectors h2 hh.1 hh.2.2.1).1
      rw [SameDisk_eq _ _ (by show (putW d.Sectors W).length ≤ _; omega) (by simp)]; simp
    rw [iter_eq]
    have e : crosslaw_DiskCut_l3 d n ws x2 (⟨putW d.Sectors d.Wait, []⟩, 0) x6 (d.Sectors.flatten, 0) (d.Sectors.take d.Sectors.length).flatten (d.Sectors.length : Int) = some (.inr true) := by
      unfold crosslaw_DiskCut_l3
      rw [if_neg (by simp), List.take_length]
      simp only
      rw [if_neg (by simp), if_neg (by simp), if_neg (by simp), done d.Wait hh.2.1 hh.2.2.2, Option.bind_some, same d.Wait hh.2.2.2, Option.bind_some, Option.bind_some, if_neg (by simp)]
      rcases hx2 with ⟨h1, rfl⟩ | ⟨k, rfl, h1, rfl⟩
      · rw [if_pos (by simpa using h1)]
        simp only
        rw [if_neg (by simp), noDisk_true, Option.bind_some, Option.bind_some, if_neg (by simp), hk2]; rfl
      · have hm : ∀ w, w ∈ d.Wait.take k → okW w := fun w hw => hh.2.2.2 w (List.mem_of_mem_take hw)
        rw [if_neg (by simp; omega)]
        simp only
        rw [if_neg (by simp), sub_0 h1, Option.bind_some, done _ (by simp; omega) hm, Option.bind_some, same _ hm, Option.bind_some, Option.bind_some, if_neg (by simp), hk2]; rfl
    simp only [e]
  | m + 1, k, hk => by
    have hh := h
    unfold okDisk at hh
    have hlt : k < d.Sectors.length := by omega
    have hx : d.Sectors[k]? = some d.Sectors[k] := List.getElem?_eq_getElem hlt
    have hf : (d.Sectors.take k).flatten.length ≤ 64 * (d.Sectors.take k).length := flat_len _ (fun s hs => hh.2.2.1 s (List.mem_of_mem_take hs))
    have ho := hh.2.2.1 d.Sectors[k] (List.getElem_mem _)
    unfold okS at ho
    rw [List.length_take] at hf
    have ht : (d.Sectors.take (k + 1)).flatten = (d.Sectors.take k).flatten ++ d.Sectors[k] := by
      rw [List.take_add_one, hx, List.flatten_append]; simp
    rw [iter_eq]
    have e : crosslaw_DiskCut_l3 d n ws x2 (⟨putW d.Sectors d.Wait, []⟩, 0) x6 (d.Sectors.flatten, 0) (d.Sectors.take k).flatten (k : Int) = some (.inl ((d.Sectors.take (k + 1)).flatten, ((k + 1 : Nat) : Int))) := by
      unfold crosslaw_DiskCut_l3
      rw [if_pos (by simp; omega), idx_at hx, Option.bind_some, cat_ok (by omega), Option.bind_some, wrap_1 (by omega), ht]
    simp only [e]
    exact cut_loop h n ws x2 x6 hk2 hx2 m (k + 1) (by omega)

theorem DiskCut_true (d : Disk) (n : Int) (ws : List Int) (gd : gDisk d) (gn : gI n) (gw : gL gI ws) (hb : mDisk d + (mI n + (mL mI ws + 0)) ≤ 1048576) : crosslaw_DiskCut d n ws = some true := by
  have hws : ws.length ≤ mL mI ws := len_le (fun _ => Nat.le_refl 1) _
  obtain ⟨e, he, hok⟩ := Check_ex d
  unfold crosslaw_DiskCut
  by_cases h0 : e = 0
  · subst h0
    have ok := hok.1 rfl
    have hh := ok
    unfold okDisk at hh
    obtain ⟨x6, h6, hk2⟩ := Some_ok ok ws (by omega)
    have main : ∀ x2, disk_Cut d n = some x2 → ((n < 0 ∨ (d.Wait.length : Int) < n) ∧ x2 = (⟨[], []⟩, 3) ∨ ∃ k : Nat, n = (k : Int) ∧ k ≤ d.Wait.length ∧ x2 = (⟨putW d.Sectors (d.Wait.take k), []⟩, 0)) →
        (Option.bind (disk_Cut d n) fun x2 => (Option.bind (disk_Flush d) fun x4 => (Option.bind (disk_Some d ws) fun x6 => (Option.bind (disk_All d) fun x8 => (Option.bind (crossref_CheckDisk d) fun x10 => (Option.bind crosslaw_disked fun x11 => (if ((!x11) || x10 != 0) = true then (Option.bind crosslaw_disked fun x13 => (Option.bind (if x13 = true then (if (x2.2 == x10) = true then (if (x4.2 == x10) = true then (if (x6.2 == x10) = true then (if (x8.2 == x10) = true then (Option.bind (crosslaw_noDisk x2.1) fun x14 => (if x14 = true then (Option.bind (crosslaw_noDisk x4.1) fun x15 => (if x15 = true then (Option.bind (crosslaw_noDisk x6.1) fun x16 => (if x16 = true then (some (x8.1 == [])) else (some false))) else (some false))) else (some false))) else (some false)) else (some false)) else (some false)) else (some false)) else (some false)) fun c17 => (some c17))) else (iter (fun ss_14 : (List UInt8) × Int => crosslaw_DiskCut_l3 d n ws x2 x4 x6 x8 ss_14.1 ss_14.2) ([], 0))))))))) = some true := by
      intro x2 hx2 hc
      rw [hx2, Option.bind_some, Flush_eq ok, Option.bind_some, h6, Option.bind_some, All_eq ok, Option.bind_some, CheckDisk_eq, he, Option.bind_some, disked_true, Option.bind_some, if_neg (by simp)]
      have := cut_loop ok n ws x2 x6 hk2 hc d.Sectors.length 0 (by omega)
      simpa using this
    by_cases hn : n < 0 ∨ (d.Wait.length : Int) < n
    · refine main _ ?_ (.inl ⟨hn, rfl⟩)
      unfold disk_Cut
      rw [he, Option.bind_some, if_neg (by simp), if_pos (by simpa using hn)]
    · obtain ⟨k, rfl⟩ := Int.eq_ofNat_of_zero_le (show 0 ≤ n by omega)
      exact main _ (Cut_eq ok k (by omega)) (.inr ⟨k, rfl, by omega, rfl⟩)
  · have c1 : ∀ z, disk_Cut d z = some (⟨[], []⟩, e) := fun z => by
      unfold disk_Cut
      rw [he, Option.bind_some, if_pos (by simpa using h0)]
    have c2 : disk_Flush d = some (⟨[], []⟩, e) := by
      unfold disk_Flush
      rw [c1]; rfl
    have c3 : disk_Some d ws = some (⟨[], []⟩, e) := by
      unfold disk_Some
      rw [he, Option.bind_some, if_pos (by simpa using h0)]
    have c4 : disk_All d = some ([], e) := by
      unfold disk_All
      rw [he, Option.bind_some, if_pos (by simpa using h0)]
    rw [c1, Option.bind_some, c2, Option.bind_some, c3, Option.bind_some, c4, Option.bind_some, CheckDisk_eq, he, Option.bind_some, disked_true, Option.bind_some, if_pos (by simpa using h0), Option.bind_some]
    simp only
    rw [noDisk_true]
    simp
end Go.Proofs.Ytpndpdbabblphaa
