/-
  The disk: plain.
-/
import Derived.Test.YtpndpdbabblphaaPFrame
namespace Go.Proofs.Ytpndpdbabblphaa
set_option linter.unusedVariables false
set_option linter.unusedSimpArgs false

def okS (s : List UInt8) : Prop := s.length ≤ 64
def okW (w : Write) : Prop := 0 ≤ w.At ∧ w.At < 200 ∧ w.Bytes.length ≤ 64
def okDisk (d : Disk) : Prop := d.Sectors.length ≤ 200 ∧ d.Wait.length ≤ 300 ∧ (∀ s, s ∈ d.Sectors → okS s) ∧ ∀ w, w ∈ d.Wait → okW w
theorem mem_take_succ {α : Type} {l : List α} {k : Nat} {x y : α} (hx : l[k]? = some x) (h : y ∈ l.take (k + 1)) : y ∈ l.take k ∨ y = x := by
  rw [List.take_add_one, hx] at h
  simpa using h
theorem Check_ex (d : Disk) : ∃ e, disk_Check d = some e ∧ (e = 0 ↔ okDisk d) := by
  unfold disk_Check
  by_cases h0 : d.Sectors.length > 200 ∨ d.Wait.length > 300
  · rw [if_pos (by simp; omega)]
    exact ⟨2, rfl, by simp [okDisk]; omega⟩
  rw [if_neg (by simp; omega)]
  refine iter_inv (body := fun ss_10 : Int => disk_Check_l2 d ss_10) (fun s => ∃ k : Nat, s = (k : Int) ∧ k ≤ d.Sectors.length ∧ ∀ x, x ∈ d.Sectors.take k → okS x) (fun s => d.Sectors.length - s.toNat) (fun e => e = 0 ↔ okDisk d) ?_ d.Sectors.length 0 (by simp) ⟨0, rfl, by omega, by simp⟩
  rintro _ ⟨k, rfl, hk, hP⟩
  by_cases hlt : k < d.Sectors.length
  · obtain ⟨x, hx⟩ : ∃ x, d.Sectors[k]? = some x := ⟨_, List.getElem?_eq_getElem hlt⟩
    show (∃ s', disk_Check_l2 d (k : Int) = _ ∧ _) ∨ ∃ r, disk_Check_l2 d (k : Int) = _ ∧ _
    unfold disk_Check_l2
    rw [if_pos (by simp; omega), idx_at hx, wrap_1 (by omega)]
    simp only [Option.bind_some]
    by_cases hs : x.length > 64
    · rw [if_pos (by simp; omega)]
      refine .inr ⟨2, rfl, by simp; intro h; have := h.2.2.1 x (List.mem_of_getElem? hx); unfold okS at this; omega⟩
    · rw [if_neg (by simp; omega)]
      refine .inl ⟨_, rfl, ⟨k + 1, rfl, by omega, fun y hy => ?_⟩, by simp; omega⟩
      rcases mem_take_succ hx hy with h | rfl
      · exact hP y h
      · unfold okS; omega
  · have hk' : k = d.Sectors.length := by omega
    subst hk'
    rw [List.take_length] at hP
    refine .inr ?_
    show ∃ r, disk_Check_l2 d (d.Sectors.length : Int) = _ ∧ _
    unfold disk_Check_l2
    rw [if_neg (by simp)]
    obtain ⟨r, h1, h2⟩ := iter_inv (body := fun ss : Int => disk_Check_l1 d ss) (fun s => ∃ k : Nat, s = (k : Int) ∧ k ≤ d.Wait.length ∧ ∀ x, x ∈ d.Wait.take k → okW x) (fun s => d.Wait.length - s.toNat) (fun e => e = 0 ↔ okDisk d) (by
      rintro _ ⟨k, rfl, hk, hQ⟩
      show (∃ s', disk_Check_l1 d (k : Int) = _ ∧ _) ∨ ∃ r, disk_Check_l1 d (k : Int) = _ ∧ _
      by_cases hlt : k < d.Wait.length
      · obtain ⟨x, hx⟩ : ∃ x, d.Wait[k]? = some x := ⟨_, List.getElem?_eq_getElem hlt⟩
        have hm := List.mem_of_getElem? hx
        unfold disk_Check_l1
        rw [if_pos (by simp; omega), idx_at hx, wrap_1 (by omega)]
        simp only [Option.bind_some]
        by_cases hs : x.At < 0 ∨ x.At ≥ 200
        · rw [if_pos (by simp; omega)]
          refine .inr ⟨3, rfl, by simp; intro h; have := h.2.2.2 x hm; unfold okW at this; omega⟩
        rw [if_neg (by simp; omega)]
        by_cases hb : x.Bytes.length > 64
        · rw [if_pos (by simp; omega)]
          refine .inr ⟨2, rfl, by simp; intro h; have := h.2.2.2 x hm; unfold okW at this; omega⟩
        rw [if_neg (by simp; omega)]
        refine .inl ⟨_, rfl, ⟨k + 1, rfl, by omega, fun y hy => ?_⟩, by simp; omega⟩
        rcases mem_take_succ hx hy with h | rfl
        · exact hQ y h
        · unfold okW; omega
      · have hk' : k = d.Wait.length := by omega
        subst hk'
        rw [List.take_length] at hQ
        refine .inr ?_
        unfold disk_Check_l1
        rw [if_neg (by simp)]
        exact ⟨0, rfl, by simp; exact ⟨by omega, by omega, hP, hQ⟩⟩) d.Wait.length 0 (by simp) ⟨0, rfl, by omega, by simp⟩
    rw [h1]
    exact ⟨r, rfl, h2⟩
theorem Check_ok {d : Disk} (h : okDisk d) : disk_Check d = some 0 := by
  obtain ⟨e, h1, h2⟩ := Check_ex d
  rw [h1, h2.2 h]

def put1 (l : List (List UInt8)) (w : Write) : List (List UInt8) := (l ++ List.replicate (w.At.toNat + 1 - l.length) []).set w.At.toNat w.Bytes
def putW (l : List (List UInt8)) (ws : List Write) : List (List UInt8) := ws.foldl put1 l
theorem put1_len (l : List (List UInt8)) (w : Write) (hw : okW w) (hl : l.length ≤ 200) : (put1 l w).length ≤ 200 := by
  unfold okW at hw
  simp [put1]; omega
theorem put1_mem (l : List (List UInt8)) (w : Write) (hw : okW w) (hl : ∀ s, s ∈ l → okS s) : ∀ s, s ∈ put1 l w → okS s := by
  intro s hs
  unfold put1 at hs
  rcases List.mem_or_eq_of_mem_set hs with h | h
  · rcases List.mem_append.1 h with h | h
    · exact hl s h
    · rw [(List.mem_replicate.1 h).2]; simp [okS]
  · rw [h]; exact hw.2.2
theorem putW_ok : ∀ (ws : List Write) (l : List (List UInt8)), (∀ w, w ∈ ws → okW w) → l.length ≤ 200 → (∀ s, s ∈ l → okS s) → (putW l ws).length ≤ 200 ∧ ∀ s, s ∈ putW l ws → okS s
  | [], l, _, h1, h2 => ⟨h1, h2⟩
  | w :: ws, l, hw, h1, h2 => putW_ok ws (put1 l w) (fun x hx => hw x (by simp [hx])) (put1_len l w (hw w (by simp)) h1) (put1_mem l w (hw w (by simp)) h2)
def gt (l : List (List UInt8)) (i : Nat) : List UInt8 := l.getD i []
theorem gt_put1 (l : List (List UInt8)) (w : Write) (hw : okW w) (i : Nat) : gt (put1 l w) i = if w.At = (i : Int) then w.Bytes else gt l i := by
  unfold okW at hw
  unfold gt put1
  simp only [List.getD_eq_getElem?_getD, List.getElem?_set]
  by_cases h : w.At = (i : Int)
  · rw [if_pos h, if_pos (by omega), if_pos (by simp; omega)]; rfl
  · rw [if_neg h, if_neg (by omega)]
    by_cases hi : i < l.length
    · rw [List.getElem?_append_left hi]
    · rw [List.getElem?_append_right (by omega), List.getElem?_eq_none (l := l) (by omega), List.getElem?_replicate]
      split <;> rfl
def seen (s : List UInt8) (ws : List Write) (i : Int) : List UInt8 := ws.foldl (fun s w => if w.At = i then w.Bytes else s) s
theorem gt_putW : ∀ (ws : List Write) (l : List (List UInt8)) (i : Nat), (∀ w, w ∈ ws → okW w) → gt (putW l ws) i = seen (gt l i) ws i
  | [], l, i, _ => rfl
  | w :: ws, l, i, h => by
    show gt (putW (put1 l w) ws) i = seen (if w.At = (i : Int) then w.Bytes else gt l i) ws i
    rw [gt_putW ws _ i (fun x hx => h x (by simp [hx])), gt_put1 l w (h w (by simp))]

/- the growing and the writing -/
theorem put_in (s1 : Int) (w : Write) (hw : okW w) {body : List (List UInt8) → Option (List (List UInt8) ⊕ ((Int × List (List UInt8)) ⊕ List (List UInt8)))}
    (hb : ∀ l, body l = (if (decide (((l).length : Int) ≤ w.At)) = true then (Option.bind (app l [[]]) fun x6 => (some (.inl x6))) else (Option.map Sum.inr (Option.bind (ixN l w.At) fun x7 => (Option.bind ((l)[x7]?) fun x8 => (some (.inl (IntKind.i64.wrap (s1 + 1), (List.set l x7 w.Bytes))))))))) :
    ∀ (n : Nat) (l : List (List UInt8)), w.At.toNat + 1 - l.length = n → iter body l = some (.inl (IntKind.i64.wrap (s1 + 1), put1 l w))
  | 0, l, hn => by
    have hw' := hw
    unfold okW at hw'
    have hi : ixN l w.At = some w.At.toNat := by
      have := ixN_at (xs := l) (k := w.At.toNat) (by omega)
      rwa [Int.toNat_of_nonneg hw'.1] at this
    obtain ⟨x, hx⟩ : ∃ x, l[w.At.toNat]? = some x := ⟨_, List.getElem?_eq_getElem (by omega)⟩
    have e : body l = some (.inr (.inl (IntKind.i64.wrap (s1 + 1), put1 l w))) := by
      rw [hb, if_neg (by simp; omega), hi]
      simp only [Option.bind_some, hx]
      unfold put1
      rw [hn]; simp
    rw [iter_eq]; simp only [e]
  | n + 1, l, hn => by
    have hw' := hw
    unfold okW at hw'
    have e : body l = some (.inl (l ++ [[]])) := by
      rw [hb, if_pos (by simp; omega), app_ok (by simp; omega)]; rfl
    rw [iter_eq]; simp only [e]
    rw [put_in s1 w hw hb n (l ++ [[]]) (by simp; omega)]
    have : put1 (l ++ [[]]) w = put1 l w := by
      unfold put1
      have e1 : w.At.toNat + 1 - l.length = (w.At.toNat + 1 - (l ++ [[]]).length) + 1 := by simp; omega
      rw [e1, List.replicate_succ, List.append_assoc]; rfl
    rw [this]
theorem foldE_put : ∀ (ws : List Write) (k : Nat) (l : List (List UInt8)), foldE (σ := List (List UInt8)) (fun _ w l => some (.inl (put1 l w))) (fun l => some l) k ws l = some (putW l ws)
  | [], k, l => rfl
  | w :: ws, k, l => by
    unfold foldE
    exact foldE_put ws (k + 1) (put1 l w)
theorem put_eq (ws : List Write) (l : List (List UInt8)) (hl : ws.length ≤ 1099511627776) (hw : ∀ w, w ∈ ws → okW w) : disk_put_x866e ws l = some (putW l ws) := by
  unfold disk_put_x866e
  have := iter_list0 (σ := List (List UInt8)) ws hl (fun k st => ((k : Int), st)) (body := fun ss_15 : Int × (List (List UInt8)) => disk_put_x866e_l2 ws ss_15.1 ss_15.2)
    (fun k w l => some (.inl (put1 l w))) (fun l => some l) l
    (fun k w l hx _ h1 h2 h3 => by
      show disk_put_x866e_l2 ws (k : Int) l = _
      unfold disk_put_x866e_l2
      rw [h2, h1]
      simp only [if_true, Option.bind_some]
      rw [put_in (body := fun ss_20 => disk_put_x866e_l1 (k : Int) w ss_20) (k : Int) w (hw w (List.mem_of_getElem? hx)) (fun l => rfl) _ l rfl, h3])
    (fun st h => by
      show disk_put_x866e_l2 ws (ws.length : Int) st = _
      unfold disk_put_x866e_l2
      rw [h]; rfl)
  refine Eq.trans this ?_
  exact foldE_put ws 0 l
theorem Clone_eq (l : List (List UInt8)) (h : l.length ≤ 1099511627776) : slices_Clone_string l = some l := by
  unfold slices_Clone_string; rw [app_ok (by simpa using h)]; rfl
theorem CloneW_eq (l : List Write) (h : l.length ≤ 1099511627776) : slices_Clone_Write l = some l := by
  unfold slices_Clone_Write; rw [app_ok (by simpa using h)]; rfl
theorem Cut_eq {d : Disk} (h : okDisk d) (n : Nat) (hn : n ≤ d.Wait.length) : disk_Cut d (n : Int) = some (⟨putW d.Sectors (d.Wait.take n), []⟩, 0) := by
  have hh := h
  unfold okDisk at hh
  unfold disk_Cut
  rw [Check_ok h]
  simp only [Option.bind_some]
  rw [if_neg (by simp), if_neg (by simp; omega), Clone_eq _ (by omega)]
  simp only [Option.bind_some]
  rw [sub_0 hn]
  simp only [Option.bind_some]
  rw [put_eq _ _ (by simp; omega) (fun w hw => h.2.2.2 w (List.mem_of_mem_take hw))]
  rfl
theorem Flush_eq {d : Disk} (h : okDisk d) : disk_Flush d = some (⟨putW d.Sectors d.Wait, []⟩, 0) := by
  unfold disk_Flush
  rw [Cut_eq h d.Wait.length (by omega)]; simp
theorem Flush_bad {d : Disk} (h : ¬ okDisk d) : ∃ x : Disk × Int, disk_Flush d = some x ∧ x.2 ≠ 0 := by
  obtain ⟨e, h1, h2⟩ := Check_ex d
  have he : e ≠ 0 := fun x => h (h2.1 x)
  unfold disk_Flush disk_Cut
  rw [h1]
  simp only [Option.bind_some]
  rw [if_pos (by simpa using he)]
  exact ⟨_, rfl, he⟩
theorem Write_ok {d : Disk} (h : okDisk d) (i : Int) (b : List UInt8) (h0 : 0 ≤ i) (h1 : i < 200) (h2 : b.length ≤ 64) (h3 : d.Wait.length < 300) : disk_Write d i b = some (⟨d.Sectors, d.Wait ++ [⟨i, b⟩]⟩, 0) := by
  have hh := h
  unfold okDisk at hh
  unfold disk_Write
  rw [Check_ok h]
  simp only [Option.bind_some]
  rw [if_neg (by simp), if_neg (by simp; omega), if_neg (by simp; omega), if_neg (by simp; omega), Clone_eq _ (by omega)]
  simp only [Option.bind_some]
  rw [CloneW_eq _ (by omega)]
  simp only [Option.bind_some]
  rw [app_ok (by simp; omega)]
  rfl
end Go.Proofs.Ytpndpdbabblphaa
