/-
  The law DiskWrite. Plain.
-/
import Derived.Test.YtpndpdbabblphaaPDone
namespace Go.Proofs.Ytpndpdbabblphaa
set_option linter.unusedVariables false
set_option linter.unusedSimpArgs false

theorem DiskWrite_true (d : Disk) (i : Int) (b : List UInt8) (gd : gDisk d) (gi : gI i) (gb : gS b) (hb : mDisk d + (mI i + (mS b + 0)) ≤ 1048576) : crosslaw_DiskWrite d i b = some true := by
  have m1 : d.Sectors.length ≤ mL mS d.Sectors := len_le (fun s => by unfold mS; omega) _
  have m2 : d.Wait.length ≤ mL mWrite d.Wait := len_le (fun s => by unfold mWrite; omega) _
  have hm : mDisk d = mL mS d.Sectors + mL mWrite d.Wait := rfl
  obtain ⟨e, he, hok⟩ := Check_ex d
  unfold crosslaw_DiskWrite
  rw [Clone_eq _ (by omega), Option.bind_some, CloneW_eq _ (by omega), Option.bind_some]
  have hd : (⟨d.Sectors, d.Wait⟩ : Disk) = d := rfl
  have hsame : crossref_SameDisk d d = some true := by rw [SameDisk_eq _ _ (by omega) (by omega)]; simp
  have cond : (if (!true) = true then some true else (Option.bind (disk_Check d) fun x12 => if (x12 != e) = true then some true else (Option.bind (crossref_SameDisk d d) fun x13 => some (!x13)))) = some false := by
    rw [if_neg (by simp), he, Option.bind_some, if_neg (by simp), hsame]; rfl
  have w : ∀ x : Disk × Int, disk_Write_x777f i b d.Sectors d.Wait = some x → ∀ r, disk_Read d i = some r → ∀ z : Int, (if e = 0 ∧ ¬ (0 ≤ i ∧ i < 200) then 3 else e) = z → crosslaw_DiskWrite_k2 d i b d.Wait x r z = some true →
      (Option.bind (disk_Write_x777f i b d.Sectors d.Wait) fun x6 => (Option.bind (disk_Read (⟨d.Sectors, d.Wait⟩ : Disk) i) fun x8 => (Option.bind (crossref_CheckDisk d) fun x10 => (Option.bind crosslaw_disked fun x11 => (Option.bind (if (!x11) = true then (some true) else (Option.bind (disk_Check d) fun x12 => (if (x12 != x10) = true then (some true) else (Option.bind (crossref_SameDisk (⟨d.Sectors, d.Wait⟩ : Disk) d) fun x13 => (some (!x13)))))) fun c14 => (if c14 = true then (some false) else (if ((x10 == 0) && ((decide (i < 0)) || decide (i > 199))) = true then (crosslaw_DiskWrite_k2 d i b d.Wait x6 x8 3) else (crosslaw_DiskWrite_k2 d i b d.Wait x6 x8 x10)))))))) = some true := by
    intro x hx r hr z hz hk
    rw [hd, hx, Option.bind_some, hr, Option.bind_some, CheckDisk_eq, he, Option.bind_some, disked_true, Option.bind_some]
    rw [he] at cond
    rw [cond, Option.bind_some, if_neg (by simp)]
    by_cases hc : e = 0 ∧ ¬ (0 ≤ i ∧ i < 200)
    · rw [if_pos hc] at hz
      subst hz
      rw [if_pos (by simp; omega)]
      exact hk
    · rw [if_neg hc] at hz
      subst hz
      rw [if_neg (by simp; omega)]
      exact hk
  have k2 : ∀ z : Int, z ≠ 0 → crosslaw_DiskWrite_k2 d i b d.Wait (⟨[], []⟩, z) ([], z) z = some true := fun z hz => by
    unfold crosslaw_DiskWrite_k2
    rw [if_pos (by simpa using hz)]
    simp only
    rw [noDisk_true]; simp
  by_cases h0 : e = 0
  · subst h0
    have ok := hok.1 rfl
    have hh := ok
    unfold okDisk at hh
    by_cases hi : 0 ≤ i ∧ i < 200
    · obtain ⟨n, rfl⟩ := Int.eq_ofNat_of_zero_le hi.1
      have hn : n < 200 := by omega
      have hr := Read_eq ok n hn
      have hdone := Done_eq d.Sectors d.Wait hh.1 (by omega) hh.2.2.2 hh.2.2.1
      have main : ∀ x : Disk × Int, disk_Write_x777f (n : Int) b d.Sectors d.Wait = some x → crosslaw_DiskWrite_k1 d (n : Int) b d.Wait x (seen (gt d.Sectors n) d.Wait n, 0) (seen (gt d.Sectors n) d.Wait n) = some true → crosslaw_DiskWrite_k2 d (n : Int) b d.Wait x (seen (gt d.Sectors n) d.Wait n, 0) 0 = some true := fun x hx hk => by
        unfold crosslaw_DiskWrite_k2
        rw [if_neg (by simp), hdone, Option.bind_some]
        have hg := gt_putW d.Wait d.Sectors n hh.2.2.2
        by_cases hlt : n < (putW d.Sectors d.Wait).length
        · rw [if_pos (by simp; omega), ixN_at hlt, Option.bind_some, List.getElem?_eq_getElem hlt, Option.bind_some]
          have : (putW d.Sectors d.Wait)[n] = seen (gt d.Sectors n) d.Wait n := by
            rw [← hg]; unfold gt; rw [List.getD_eq_getElem?_getD, List.getElem?_eq_getElem hlt]; rfl
          rw [this]; exact hk
        · rw [if_neg (by simp; omega)]
          have : ([] : List UInt8) = seen (gt d.Sectors n) d.Wait n := by
            rw [← hg]; unfold gt; rw [List.getD_eq_getElem?_getD, List.getElem?_eq_none (by omega)]; rfl
          rw [this]
          rw [← this] at hk ⊢
          exact hk
      have hwr : ∀ x, (if ((b.length : Int) > 64) then x = ((⟨[], []⟩ : Disk), (2 : Int)) else if (d.Wait.length : Int) = 300 then x = ((⟨[], []⟩ : Disk), (8 : Int)) else x = ((⟨d.Sectors, d.Wait ++ [⟨(n : Int), b⟩]⟩ : Disk), (0 : Int))) → disk_Write_x777f (n : Int) b d.Sectors d.Wait = some x := fun x hx => by
        unfold disk_Write_x777f
        rw [hd, he, Option.bind_some, if_neg (by simp), if_neg (by simp; omega)]
        by_cases c1 : (b.length : Int) > 64
        · rw [if_pos c1] at hx; rw [if_pos (by simpa using c1), hx]
        · rw [if_neg c1] at hx; rw [if_neg (by simpa using c1)]
          by_cases c2 : (d.Wait.length : Int) = 300
          · rw [if_pos c2] at hx; rw [if_pos (by simpa using c2), hx]
          · rw [if_neg c2] at hx; rw [if_neg (by simpa using c2), Clone_eq _ (by omega), Option.bind_some, CloneW_eq _ (by omega), Option.bind_some, app_ok (by simp; omega), Option.bind_some, hx]
      by_cases c1 : (b.length : Int) > 64
      · have hx := hwr (⟨[], []⟩, 2) (by rw [if_pos c1])
        refine w _ hx _ hr 0 (by rw [if_neg (by omega)]) (main _ hx ?_)
        unfold crosslaw_DiskWrite_k1
        rw [if_neg (by simp), if_pos (by simpa using c1)]
        simp only
        rw [noDisk_true]; simp
      · by_cases c2 : (d.Wait.length : Int) = 300
        · have hx := hwr (⟨[], []⟩, 8) (by rw [if_neg c1, if_pos c2])
          refine w _ hx _ hr 0 (by rw [if_neg (by omega)]) (main _ hx ?_)
          unfold crosslaw_DiskWrite_k1
          rw [if_neg (by simp), if_neg (by simpa using c1), if_pos (by simpa using c2)]
          simp only
          rw [noDisk_true]; simp
        · have hx := hwr (⟨d.Sectors, d.Wait ++ [⟨(n : Int), b⟩]⟩, 0) (by rw [if_neg c1, if_neg c2])
          refine w _ hx _ hr 0 (by rw [if_neg (by omega)]) (main _ hx ?_)
          unfold crosslaw_DiskWrite_k1
          rw [if_neg (by simp), if_neg (by simpa using c1), if_neg (by simpa using c2)]
          simp only
          rw [slices_Equal_string_eq _ _ (by omega), Option.bind_some, app_ok (by simp; omega), Option.bind_some, Equal_Write_eq _ _ (by simp; omega)]
          simp
    · have hx : disk_Write_x777f i b d.Sectors d.Wait = some (⟨[], []⟩, 3) := by
        unfold disk_Write_x777f
        rw [hd, he, Option.bind_some, if_neg (by simp), if_pos (by simp; omega)]
      exact w _ hx _ (Read_far ok i hi) 3 (by rw [if_pos ⟨rfl, hi⟩]) (k2 3 (by decide))
  · have hx : disk_Write_x777f i b d.Sectors d.Wait = some (⟨[], []⟩, e) := by
      unfold disk_Write_x777f
      rw [hd, he, Option.bind_some, if_pos (by simpa using h0)]
    have hr : disk_Read d i = some ([], e) := by
      unfold disk_Read
      rw [he, Option.bind_some, if_pos (by simpa using h0)]
    exact w _ hx _ hr e (by rw [if_neg (by omega)]) (k2 e h0)
end Go.Proofs.Ytpndpdbabblphaa
