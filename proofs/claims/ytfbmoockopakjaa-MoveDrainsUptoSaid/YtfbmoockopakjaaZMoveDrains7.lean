/-
  Part 7 of a proof: what the code computes, and the law of it; put together by a program of ours (wip/decl.py) out of texts of ours.
-/
import Derived.Test.YtfbmoockopakjaaZMoveDrains6
namespace Go.Proofs.Ytfbmoockopakjaa
set_option linter.unusedVariables false
set_option linter.unusedSimpArgs false
section
variable {n : Net} {items : List (List Item)} {B : Int} {s : State}
theorem lanes_le (hR : RightN n) {i : Nat} (hi : i < n.Nodes.length) : lanesN (nodeN n i) ≤ 16 := by
  unfold lanesN
  split
  · have := nodup_len (hR.ndI i hi) (hR.inR i hi) hR.r1
    have := hR.r2; omega
  · omega
theorem ready_in (hS : RightS n items) (ok : OkS n items B s) {i : Nat} (hi : i < n.Nodes.length) : ∀ (m k : Nat) (acc : List Move), k + m = lanesN (nodeN n i) → acc.length + m ≤ 1000000 →
    iter (fun ss : Int × (List Move) => move_ready_l1 n items (i : Int) s (lanesN (nodeN n i) : Int) ss.1 ss.2) ((k : Int), acc) = some (.inl (((i + 1 : Nat) : Int), acc ++ (((List.range (lanesN (nodeN n i))).drop k).filter fun k => canM n items s i k).map fun k : Nat => (⟨i, k⟩ : Move)))
  | 0, k, acc, h, ha => by
    have hk : k = lanesN (nodeN n i) := by omega
    have e : move_ready_l1 n items (i : Int) s (lanesN (nodeN n i) : Int) (k : Int) acc = some (.inr (.inl (((i + 1 : Nat) : Int), acc))) := by
      unfold move_ready_l1
      have := hS.n2
      rw [if_neg (by simp; omega), wrap_1 (by omega)]; rfl
    rw [iter_eq]
    simp only [e]
    rw [List.drop_of_length_le (by simp; omega)]
    simp
  | m + 1, k, acc, h, ha => by
    have hk : k < lanesN (nodeN n i) := by omega
    have h16 := lanes_le hS.toRightN hi
    have hd : (List.range (lanesN (nodeN n i))).drop k = k :: (List.range (lanesN (nodeN n i))).drop (k + 1) := by
      rw [List.drop_eq_getElem_cons (by simpa using hk), List.getElem_range]
    have e : move_ready_l1 n items (i : Int) s (lanesN (nodeN n i) : Int) (k : Int) acc = some (.inl (((k + 1 : Nat) : Int), if canM n items s i k = true then acc ++ [⟨i, k⟩] else acc)) := by
      unfold move_ready_l1
      rw [if_pos (by simp; omega), can_eq hS ok hi hk, Option.bind_some, wrap_1 (by omega)]
      cases canM n items s i k with
      | true => rw [if_pos rfl, if_pos rfl, app_ok (by simp; omega)]; rfl
      | false => rw [if_neg (by decide), if_neg (by decide)]
    rw [iter_eq]
    simp only [e]
    rw [ready_in hS ok hi m (k + 1) _ (by omega) (by split <;> (try simp) <;> omega), hd, List.filter_cons]
    cases canM n items s i k <;> simp
theorem readyI_len (hR : RightN n) {i : Nat} (hi : i < n.Nodes.length) : (readyI n items s i).length ≤ 16 := by
  unfold readyI
  rw [List.length_map]
  have := List.length_filter_le (fun k => canM n items s i k) (List.range (lanesN (nodeN n i)))
  have := lanes_le hR hi
  simp at *; omega
theorem ready_out (hS : RightS n items) (ok : OkS n items B s) : ∀ (m i : Nat) (acc : List Move), i + m = n.Nodes.length → acc.length + 16 * m ≤ 1000 →
    iter (fun ss : Int × (List Move) => move_ready_l3 n items s ss.1 ss.2) ((i : Int), acc) = some (acc ++ ((List.range n.Nodes.length).drop i).flatMap fun i => readyI n items s i)
  | 0, i, acc, h, ha => by
    have hk : i = n.Nodes.length := by omega
    have e : move_ready_l3 n items s (i : Int) acc = some (.inr acc) := by
      unfold move_ready_l3
      rw [if_neg (by simp; omega)]; rfl
    rw [iter_eq]
    simp only [e]
    rw [List.drop_of_length_le (by simp; omega)]
    simp
  | m + 1, i, acc, h, ha => by
    have hi : i < n.Nodes.length := by omega
    have hd : (List.range n.Nodes.length).drop i = i :: (List.range n.Nodes.length).drop (i + 1) := by
      rw [List.drop_eq_getElem_cons (by simpa using hi), List.getElem_range]
    have hin := ready_in hS ok hi (lanesN (nodeN n i)) 0 acc (by omega) (by have := lanes_le hS.toRightN hi; omega)
    have e : move_ready_l3 n items s (i : Int) acc = some (.inl (((i + 1 : Nat) : Int), acc ++ readyI n items s i)) := by
      unfold move_ready_l3 move_ready_k2
      rw [if_pos (by simp; omega), idx_at (nodeN_get hi), Option.bind_some]
      have hl : (if ((nodeN n i).Kind == 6) = true then iter (fun ss_36 : Int × (List Move) => move_ready_l1 n items (i : Int) s ((nodeN n i).In.length : Int) ss_36.1 ss_36.2) (0, acc) else iter (fun ss_36 : Int × (List Move) => move_ready_l1 n items (i : Int) s 1 ss_36.1 ss_36.2) (0, acc)) =
          iter (fun ss : Int × (List Move) => move_ready_l1 n items (i : Int) s (lanesN (nodeN n i) : Int) ss.1 ss.2) (0, acc) := by
        unfold lanesN
        by_cases h6 : (nodeN n i).Kind = 6
        · rw [if_pos (by simpa using h6), if_pos h6]
        · rw [if_neg (by simpa using h6), if_neg h6]; rfl
      rw [hl]
      rw [Int.natCast_zero] at hin
      rw [hin, List.drop_zero]
      rfl
    rw [iter_eq]
    simp only [e]
    have h16 := readyI_len (items := items) (s := s) hS.toRightN hi
    rw [ready_out hS ok m (i + 1) _ (by omega) (by rw [List.length_append]; omega), hd, List.flatMap_cons, List.append_assoc]
theorem ready_eq (hS : RightS n items) (ok : OkS n items B s) : move_ready n items s = some (readyM n items s) := by
  unfold move_ready
  have := ready_out hS ok n.Nodes.length 0 [] (by omega) (by have := hS.n2; simp; omega)
  rw [Int.natCast_zero, List.drop_zero, List.nil_append] at this
  exact this
theorem readyM_mem {m : Move} (h : m ∈ readyM n items s) : ∃ i k : Nat, m = ⟨i, k⟩ ∧ i < n.Nodes.length ∧ k < lanesN (nodeN n i) ∧ canM n items s i k = true := by
  unfold readyM at h
  obtain ⟨i, hi, hm⟩ := List.mem_flatMap.1 h
  unfold readyI at hm
  obtain ⟨k, hk, rfl⟩ := List.mem_map.1 hm
  obtain ⟨h1, h2⟩ := List.mem_filter.1 hk
  exact ⟨i, k, rfl, by simpa using hi, by simpa using h1, h2⟩
theorem mem_readyM {i k : Nat} (hi : i < n.Nodes.length) (hk : k < lanesN (nodeN n i)) (hc : canM n items s i k = true) : (⟨i, k⟩ : Move) ∈ readyM n items s :=
  List.mem_flatMap.2 ⟨i, by simpa using hi, List.mem_map.2 ⟨k, List.mem_filter.2 ⟨by simpa using hk, hc⟩, rfl⟩⟩
theorem readyM_len (hR : RightN n) : (readyM n items s).length ≤ 192 := by
  have h : ∀ (l : List Nat), (∀ i, i ∈ l → i < n.Nodes.length) → (l.flatMap fun i => readyI n items s i).length ≤ 16 * l.length := by
    intro l
    induction l with
    | nil => intro _; simp
    | cons a l ih =>
      intro h
      have h1 := readyI_len (items := items) (s := s) hR (h a List.mem_cons_self)
      have h2 := ih fun i hi => h i (List.mem_cons_of_mem _ hi)
      rw [List.flatMap_cons, List.length_append, List.length_cons]; omega
  have := h (List.range n.Nodes.length) (fun i hi => by simpa using hi)
  have h2 := hR.n2
  rw [List.length_range] at this
  unfold readyM; omega
def doMv (n : Net) (items : List (List Item)) (s : State) (m : Move) : State := doM n items s m.Node.toNat m.Lane.toNat
theorem doMv_eq (hS : RightS n items) (ok : OkS n items B s) {m : Move} (h : m ∈ readyM n items s) :
    move_do_x5aa6 n items m s.At s.Rings s.Memory s.Choices s.Out = some ((doMv n items s m).At, (doMv n items s m).Rings, (doMv n items s m).Memory, (doMv n items s m).Choices, (doMv n items s m).Out) := by
  obtain ⟨i, k, rfl, hi, hk, hc⟩ := readyM_mem h
  exact do_eq hS ok hi hk hc
def wsum (w : Nat → Nat) : Nat → List (List Item) → Nat
  | _, [] => 0
  | k, l :: R => l.length * w k + wsum w (k + 1) R
def restN : List (List Item) → List Int → Nat
  | l :: ls, p :: ps => (l.length - p.toNat) + restN ls ps
  | _, _ => 0
theorem wsum_set (w : Nat → Nat) (x : List Item) : ∀ (R : List (List Item)) (k j : Nat), j < R.length → wsum w k (R.set j x) + (R.getD j []).length * w (k + j) = wsum w k R + x.length * w (k + j)
  | [], k, j, h => by simp at h
  | l :: R, k, 0, h => by simp [wsum]; omega
  | l :: R, k, j + 1, h => by
    have := wsum_set w x R (k + 1) j (by simpa using h)
    have e : k + 1 + j = k + (j + 1) := by omega
    rw [e] at this
    simp only [List.set_cons_succ, wsum, List.getD_cons_succ]
    omega
theorem restN_set : ∀ (ls : List (List Item)) (ps : List Int) (a : Nat), a < ps.length → 0 ≤ ps.getD a 0 → (ps.getD a 0).toNat < (ls.getD a []).length → restN ls (ps.set a (ps.getD a 0 + 1)) + 1 = restN ls ps
  | ls, [], a, h, _, _ => by simp at h
  | [], p :: ps, a, h, _, h2 => by simp at h2
  | l :: ls, p :: ps, 0, h, h0, h2 => by
    simp only [List.getD_cons_zero] at h0 h2 ⊢
    simp only [List.set_cons_zero, restN]
    omega
  | l :: ls, p :: ps, a + 1, h, h0, h2 => by
    simp only [List.getD_cons_succ] at h0 h2 ⊢
    have := restN_set ls ps a (by simpa using h) h0 h2
    simp only [List.set_cons_succ, restN]
    omega
theorem wsum_put (w : Nat → Nat) (y : Item) : ∀ (l : List Int) (R : List (List Item)), (∀ r, r ∈ l → 0 ≤ r ∧ r < R.length) → wsum w 0 (putR y l R) = wsum w 0 R + (l.map fun r => w r.toNat).sum
  | [], R, _ => by simp [putR]
  | r :: l, R, h => by
    have hr := h r List.mem_cons_self
    show wsum w 0 (putR y l (R.set r.toNat (R.getD r.toNat [] ++ [y]))) = _
    rw [wsum_put w y l _ (fun q hq => by have := h q (List.mem_cons_of_mem _ hq); simpa using this)]
    have := wsum_set w (R.getD r.toNat [] ++ [y]) R 0 r.toNat (by omega)
    rw [List.length_append, Nat.add_mul, List.length_singleton, Nat.one_mul, Nat.zero_add] at this
    rw [List.map_cons, List.sum_cons]
    omega
def takerN (n : Net) (r : Nat) : Nat := ((List.range n.Nodes.length).find? fun i => decide ((r : Int) ∈ (nodeN n i).In)).getD 0
theorem takerN_is (hR : RightN n) {i : Nat} (hi : i < n.Nodes.length) {r : Int} (hr : r ∈ (nodeN n i).In) : takerN n r.toNat = i := by
  have h0 := hR.inR i hi r hr
  unfold takerN
  cases h : (List.range n.Nodes.length).find? fun i => decide ((r.toNat : Int) ∈ (nodeN n i).In) with
  | none =>
    rw [List.find?_eq_none] at h
    have := h i (by simpa using hi)
    rw [Int.toNat_of_nonneg h0.1] at this
    simp [hr] at this
  | some j =>
    have h1 := List.find?_some h
    have h2 := List.mem_of_find?_eq_some h
    rw [Int.toNat_of_nonneg h0.1] at h1
    exact hR.oneI j i r (by simpa using h2) hi (by simpa using h1) hr
open Classical in
noncomputable def posN (n : Net) : Nat → Nat := if h : RightN n then Classical.choose h.ord else fun _ => 0
theorem posN_spec (hR : RightN n) : (∀ i, i < n.Nodes.length → posN n i < n.Nodes.length) ∧ (∀ i j, i < n.Nodes.length → j < n.Nodes.length → posN n i = posN n j → i = j) ∧ ∀ i j r, i < n.Nodes.length → j < n.Nodes.length → r ∈ (nodeN n i).Out → r ∈ (nodeN n j).In → posN n i < posN n j := by
  have : posN n = Classical.choose hR.ord := by unfold posN; rw [dif_pos hR]
  rw [this]
  exact Classical.choose_spec hR.ord
noncomputable def wN (n : Net) (r : Nat) : Nat := 17 ^ (12 - posN n (takerN n r))
noncomputable def muN (n : Net) (items : List (List Item)) (s : State) : Nat := wsum (wN n) 0 s.Rings + restN items s.At * 17 ^ 12
theorem outs_w (hR : RightN n) {i : Nat} (hi : i < n.Nodes.length) (key : Int) : ((outsI (nodeN n i) key).map fun r => wN n r.toNat).sum < 17 ^ (12 - posN n i) := by
  obtain ⟨p1, _, p2⟩ := posN_spec hR
  have hpi := p1 i hi
  have hn := hR.n2
  have hb : ∀ r, r ∈ outsI (nodeN n i) key → wN n r.toNat ≤ 17 ^ (11 - posN n i) := fun r hr => by
    have hro := outs_ok hR hi key r hr
    have h0 := hR.outR i hi r hro
    obtain ⟨j, hj, hrj⟩ := hR.toI r.toNat (by omega)
    rw [Int.toNat_of_nonneg h0.1] at hrj
    have h1 := p2 i j r hi hj hro hrj
    have h2 := p1 j hj
    unfold wN
    rw [takerN_is hR hj hrj]
    exact Nat.pow_le_pow_right (by omega) (by omega)
  have hsum : ∀ (l : List Int), (∀ r, r ∈ l → wN n r.toNat ≤ 17 ^ (11 - posN n i)) → (l.map fun r => wN n r.toNat).sum ≤ l.length * 17 ^ (11 - posN n i) := by
    intro l
    induction l with
    | nil => intro _; simp
    | cons a l ih =>
      intro h
      have h1 := h a List.mem_cons_self
      have h2 := ih fun r hr => h r (List.mem_cons_of_mem _ hr)
      rw [List.map_cons, List.sum_cons, List.length_cons, Nat.add_mul, Nat.one_mul]; omega
  have h1 := hsum _ hb
  have h2 : (outsI (nodeN n i) key).length ≤ 16 := by
    unfold outsI; split
    · simp
    · exact out_len hR hi
  have h3 : (outsI (nodeN n i) key).length * 17 ^ (11 - posN n i) ≤ 16 * 17 ^ (11 - posN n i) := Nat.mul_le_mul_right _ h2
  have e : 12 - posN n i = (11 - posN n i) + 1 := by omega
  have h4 : 17 ^ (12 - posN n i) = 17 ^ (11 - posN n i) * 17 := by rw [e, Nat.pow_succ]
  have h5 : 0 < 17 ^ (11 - posN n i) := Nat.pow_pos (by omega)
  omega
theorem mu_do (hS : RightS n items) (ok : OkS n items B s) {i k : Nat} (hi : i < n.Nodes.length) (hk : k < lanesN (nodeN n i)) (hc : canM n items s i k = true) : muN n items (doM n items s i k) + 1 ≤ muN n items s := by
  obtain ⟨it, hh, hroom, h500, h2000⟩ := can_head hc
  have hR := hS.toRightN
  have hrg := ok.rg
  have hw := outs_w hR hi it.Key
  have hrl : ∀ r, r ∈ outsI (nodeN n i) it.Key → 0 ≤ r ∧ r < (takenR n s i k).length := fun r hr => by
    have := hR.outR i hi r (outs_ok hR hi _ r hr)
    rw [takenR_len]; omega
  have hput := wsum_put (wN n) (stepM n s i it).2 _ _ hrl
  have hrings : (doM n items s i k).Rings = putR (stepM n s i it).2 (outsI (nodeN n i) it.Key) (takenR n s i k) := by unfold doM; simp only [hh]; rfl
  unfold muN
  rw [hrings, hput, do_at hh]
  by_cases h1 : (nodeN n i).Kind = 1
  · obtain ⟨a0, a1, a2, a3, a4, a5⟩ := at_ok hS ok hi h1
    unfold headI at hh
    rw [if_pos h1] at hh
    have h2 := (List.getElem?_eq_some_iff.1 hh).1
    have h3 := restN_set items s.At (nodeN n i).A.toNat (by omega) a3 h2
    rw [if_pos h1]
    unfold takenR
    rw [if_pos h1]
    have h4 : 17 ^ (12 - posN n i) ≤ 17 ^ 12 := Nat.pow_le_pow_right (by omega) (by omega)
    rw [← h3, Nat.add_mul, Nat.one_mul]
    omega
  · have hkl := lane_lt hR hi hk h1
    obtain ⟨hm, b0, b1⟩ := ring_in hR hi hkl
    rw [if_neg h1]
    unfold takenR
    rw [if_neg h1]
    unfold headI at hh
    rw [if_neg h1] at hh
    have h2 := wsum_set (wN n) (s.Rings.getD (ringN (nodeN n i) k) []).tail s.Rings 0 (ringN (nodeN n i) k) (by unfold ringN; omega)
    have h3 : wN n (ringN (nodeN n i) k) = 17 ^ (12 - posN n i) := by
      unfold wN ringN
      rw [takerN_is hR hi hm]
    cases hq : s.Rings.getD (ringN (nodeN n i) k) [] with
    | nil => rw [hq] at hh; cases hh
    | cons y ys =>
      rw [hq] at h2
      rw [Nat.zero_add, h3, List.tail_cons, List.length_cons, Nat.add_mul, Nat.one_mul] at h2
      rw [List.tail_cons]
      omega
def Inv (n : Net) (items : List (List Item)) (s : State) : Prop := ∃ B : Nat, OkS n items B s ∧ B + muN n items s ≤ 1000000000000000000
theorem Inv.doM (hS : RightS n items) (h : Inv n items s) {i k : Nat} (hi : i < n.Nodes.length) (hk : k < lanesN (nodeN n i)) (hc : canM n items s i k = true) : Inv n items (doM n items s i k) ∧ muN n items (Go.Proofs.Ytfbmoockopakjaa.doM n items s i k) + 1 ≤ muN n items s := by
  obtain ⟨B, ok, hB⟩ := h
  have := mu_do hS ok hi hk hc
  refine ⟨⟨B + 1, do_ok hS ok hi hk hc (by omega) (by omega), by omega⟩, this⟩
theorem Inv.doMv (hS : RightS n items) (h : Inv n items s) {m : Move} (hm : m ∈ readyM n items s) : Inv n items (doMv n items s m) ∧ muN n items (Go.Proofs.Ytfbmoockopakjaa.doMv n items s m) + 1 ≤ muN n items s := by
  obtain ⟨i, k, rfl, hi, hk, hc⟩ := readyM_mem hm
  exact Inv.doM hS h hi hk hc
def startM (n : Net) (items : List (List Item)) : State := ⟨List.replicate items.length 0, List.replicate n.Rings.toNat [], List.replicate n.Nodes.length ⟨0, [], 0⟩, [], []⟩
theorem wsum_0 (w : Nat → Nat) : ∀ (m k : Nat), wsum w k (List.replicate m []) = 0
  | 0, k => rfl
  | m + 1, k => by rw [List.replicate_succ]; simp [wsum, wsum_0 w m (k + 1)]
theorem restN_le (L : Nat) : ∀ (ls : List (List Item)) (ps : List Int), (∀ l, l ∈ ls → l.length ≤ L) → restN ls ps ≤ L * ls.length
  | [], ps, _ => by simp [restN]
  | l :: ls, [], _ => by simp [restN]
  | l :: ls, p :: ps, h => by
    have h1 := h l List.mem_cons_self
    have h2 := restN_le L ls ps fun x hx => h x (List.mem_cons_of_mem _ hx)
    simp only [restN, List.length_cons, Nat.mul_add]; omega
theorem start_inv (hS : RightS n items) : Inv n items (startM n items) := by
  have hr : ∀ (r : Nat) (l : List Item), (startM n items).Rings[r]? = some l → l = [] := fun r l h => by
    have := List.mem_of_getElem? h
    exact (List.mem_replicate.1 this).2
  refine ⟨0, ⟨by simp [startM], by have := hS.r1; simp [startM]; omega, by simp [startM], by simp [startM], by simp [startM], fun a p hp => ?_, fun r l hl => ?_, fun r l x hl hx => ?_, fun i m hm => ?_, fun c hc => by simp [startM] at hc, fun x hx => by simp [startM] at hx⟩, ?_⟩
  · have := (List.mem_replicate.1 (List.mem_of_getElem? hp)).2
    subst this
    exact ⟨Int.le_refl _, by omega⟩
  · rw [hr r l hl]; have := hS.m1; simp; omega
  · rw [hr r l hl] at hx; cases hx
  · have := (List.mem_replicate.1 (List.mem_of_getElem? hm)).2
    subst this
    refine ⟨⟨by simp, fun x hx => (by cases hx), fun i j x y _ h => (by simp at h), by simp⟩, by simp [startM], fun y hy => (by cases hy)⟩
  · have h1 := restN_le 20 items (startM n items).At (fun l hl => by
      obtain ⟨a, ha⟩ := List.getElem?_of_mem hl
      exact hS.l20 a l ha)
    have h2 := hS.l4
    unfold muN
    have : wsum (wN n) 0 (startM n items).Rings = 0 := wsum_0 _ _ _
    rw [this]
    have h3 : restN items (startM n items).At ≤ 80 := by omega
    have h4 := Nat.mul_le_mul_right (17 ^ 12) h3
    omega
theorem start_eq (hS : RightS n items) (hio : ∀ x ∈ n.Nodes, x.In.length ≤ 1099511627776 ∧ x.Out.length ≤ 1099511627776) : move_start n items = some (startM n items) := by
  unfold move_start
  have h1 := hS.r1
  have h2 := hS.r2
  have h3 := hS.n2
  have h4 := hS.l4
  have e1 : mk ((items.length : Nat) : Int) (0 : Int) = some (List.replicate items.length 0) := by unfold mk; rw [if_pos (by omega)]; simp
  have e2 : mk n.Rings ([] : List Item) = some (List.replicate n.Rings.toNat []) := by unfold mk; rw [if_pos (by omega)]
  have e3 : mk ((n.Nodes.length : Nat) : Int) (⟨0, [], 0⟩ : Memory) = some (List.replicate n.Nodes.length ⟨0, [], 0⟩) := by unfold mk; rw [if_pos (by omega)]; simp
  simp only [e1, e2, e3, Option.bind_some]
  rfl
def pickM (l : List Move) (c : Int) : Move := l.getD (c % l.length).toNat ⟨0, 0⟩
def playM (n : Net) (items : List (List Item)) : List Int → State → State
  | [], s => s
  | c :: cs, s => if readyM n items s = [] then s else playM n items cs (doMv n items s (pickM (readyM n items s) c))
theorem pick_mem {l : List Move} (h : l ≠ []) (c : Int) : pickM l c ∈ l ∧ (c % l.length).toNat < l.length := by
  have h1 : 0 < l.length := List.length_pos_iff.2 h
  have h2 := Int.emod_nonneg c (show (l.length : Int) ≠ 0 by omega)
  have h3 := Int.emod_lt_of_pos c (show (0 : Int) < l.length by omega)
  have h4 : (c % l.length).toNat < l.length := by omega
  exact ⟨List.mem_of_getElem? (getD_get _ h4), h4⟩
theorem rem_at (c : Int) (m : Nat) (h0 : 0 < m) (h : m ≤ 1000) : (rem c m).bind (fun x => (rem (IntKind.i64.wrap (x + m)) m)) = some (c % m) := by
  have h1 := Int.tmod_lt_of_pos c (show (0 : Int) < m by omega)
  have h2 := Int.lt_tmod_of_pos c (show (0 : Int) < m by omega)
  unfold rem
  rw [if_neg (by omega), Option.bind_some, if_neg (by omega), wrap_ok (by omega) (by omega)]
  congr 1
  rw [Int.tmod_eq_emod_of_nonneg (by omega), Int.add_emod_right, Int.tmod_eq_emod]
  split <;> simp [Int.sub_emod_right]
theorem play_loop (hS : RightS n items) (p : List Int) (hp : p.length ≤ 2000) : ∀ (m j : Nat) (s : State), j + m = p.length → Inv n items s →
    iter (fun ss : Int × (List Int) × (List (List Item)) × (List Memory) × (List Choice) × (List Item) => move_Play_l1 n items p ss.1 ss.2.1 ss.2.2.1 ss.2.2.2.1 ss.2.2.2.2.1 ss.2.2.2.2.2) ((j : Int), s.At, s.Rings, s.Memory, s.Choices, s.Out) = some (playM n items (p.drop j) s, 0)
  | 0, j, s, h, hI => by
    have hj : j = p.length := by omega
    subst hj
    have e : move_Play_l1 n items p (p.length : Int) s.At s.Rings s.Memory s.Choices s.Out = some (.inr (s, 0)) := by
      unfold move_Play_l1
      rw [if_neg (by simp)]; rfl
    rw [iter_eq]
    simp only [e, List.drop_length, playM]
  | m + 1, j, s, h, hI => by
    have hlt : j < p.length := by omega
    obtain ⟨B, ok, hB⟩ := hI
    have hrd : move_ready n items (⟨s.At, s.Rings, s.Memory, s.Choices, s.Out⟩ : State) = some (readyM n items s) := ready_eq hS ok
    rw [List.drop_eq_getElem_cons hlt, playM, iter_eq]
    by_cases h0 : readyM n items s = []
    · have e : move_Play_l1 n items p (j : Int) s.At s.Rings s.Memory s.Choices s.Out = some (.inr (s, 0)) := by
        unfold move_Play_l1
        rw [if_pos (by simp; omega), idx_at (List.getElem?_eq_getElem hlt), Option.bind_some, hrd, Option.bind_some, h0, if_pos (by simp)]; rfl
      simp only [e]
      rw [if_pos h0]
    · obtain ⟨hmem, hix⟩ := pick_mem h0 p[j]
      have hpos : 0 < (readyM n items s).length := List.length_pos_iff.2 h0
      have h192 := readyM_len (items := items) (s := s) hS.toRightN
      have hrem := rem_at p[j] (readyM n items s).length hpos (by omega)
      obtain ⟨r1, hr1, hr2⟩ := bind_some hrem
      have hn := Int.emod_nonneg p[j] (show ((readyM n items s).length : Int) ≠ 0 by omega)
      have hget : (readyM n items s)[(p[j] % ((readyM n items s).length : Int)).toNat]? = some (pickM (readyM n items s) p[j]) := getD_get _ hix
      have e : move_Play_l1 n items p (j : Int) s.At s.Rings s.Memory s.Choices s.Out = some (.inl (((j + 1 : Nat) : Int), (doMv n items s (pickM (readyM n items s) p[j])).At, (doMv n items s (pickM (readyM n items s) p[j])).Rings, (doMv n items s (pickM (readyM n items s) p[j])).Memory, (doMv n items s (pickM (readyM n items s) p[j])).Choices, (doMv n items s (pickM (readyM n items s) p[j])).Out)) := by
        unfold move_Play_l1
        rw [if_pos (by simp; omega), idx_at (List.getElem?_eq_getElem hlt), Option.bind_some, hrd, Option.bind_some, if_neg (by simp; omega), hr1, Option.bind_some, hr2, Option.bind_some, ixN_D hn (by omega), Option.bind_some, hget, Option.bind_some, doMv_eq hS ok hmem, Option.bind_some, wrap_1 (by omega)]
      simp only [e]
      rw [if_neg h0]
      exact play_loop hS p hp m (j + 1) _ (by omega) (Inv.doMv hS ⟨B, ok, hB⟩ hmem).1
theorem play_inv (hS : RightS n items) : ∀ (p : List Int) (s : State), Inv n items s → Inv n items (playM n items p s)
  | [], s, h => h
  | c :: cs, s, h => by
    unfold playM
    split
    · exact h
    · rename_i h0; exact play_inv hS cs _ (Inv.doMv hS h (pick_mem h0 c).1).1
def noS : State := ⟨[], [], [], [], []⟩
theorem Play_eq (n : Net) (items : List (List Item)) (p : List Int) (hio : ∀ x ∈ n.Nodes, x.In.length ≤ 1099511627776 ∧ x.Out.length ≤ 1099511627776) :
    move_Play n items p = some (if srcR n items ≠ 0 then (noS, srcR n items) else if 2000 < p.length then (noS, 2) else (playM n items p (startM n items), 0)) := by
  unfold move_Play move_Start
  rw [net_Sources_eq n items hio, Option.bind_some]
  by_cases h : srcR n items = 0
  · have hS := rightS_of h
    rw [if_neg (by simp [h]), if_neg (by simp [h]), start_eq hS hio, Option.bind_some, Option.bind_some, if_neg (by simp)]
    by_cases hp : 2000 < p.length
    · rw [if_pos (by simp; omega), if_pos hp]; rfl
    · rw [if_neg (by simp; omega), if_neg hp]
      have := play_loop hS p (by omega) p.length 0 (startM n items) (by omega) (start_inv hS)
      rw [Int.natCast_zero, List.drop_zero] at this
      exact this
  · rw [if_pos (by simpa using h), if_pos h, Option.bind_some, if_pos (by simpa using h)]; rfl
def finM (n : Net) (items : List (List Item)) : Nat → State → State
  | 0, s => s
  | f + 1, s => match readyM n items s with
    | [] => s
    | m :: _ => finM n items f (doMv n items s m)
theorem fin_inv (hS : RightS n items) : ∀ (f : Nat) (s : State), Inv n items s → Inv n items (finM n items f s)
  | 0, s, h => h
  | f + 1, s, h => by
    unfold finM
    split
    · exact h
    · rename_i m l hm; exact fin_inv hS f _ (Inv.doMv hS h (by rw [hm]; exact List.mem_cons_self)).1
theorem fin_end (hS : RightS n items) : ∀ (f : Nat) (s : State), Inv n items s → muN n items s ≤ f → readyM n items (finM n items f s) = []
  | 0, s, h, hf => by
    show readyM n items s = []
    cases hr : readyM n items s with
    | nil => rfl
    | cons m l => have := (Inv.doMv hS h (show m ∈ readyM n items s by rw [hr]; exact List.mem_cons_self)).2; omega
  | f + 1, s, h, hf => by
    unfold finM
    split
    · assumption
    · rename_i m l hm
      have := Inv.doMv hS h (show m ∈ readyM n items s by rw [hm]; exact List.mem_cons_self)
      exact fin_end hS f _ this.1 (by omega)
theorem fin_loop (hS : RightS n items) : ∀ (f : Nat) (s : State), Inv n items s → readyM n items (finM n items f s) = [] →
    iter (fun ss : (List Move) × (List Int) × (List (List Item)) × (List Memory) × (List Choice) × (List Item) => move_Finish_l1 n items ss.1 ss.2.1 ss.2.2.1 ss.2.2.2.1 ss.2.2.2.2.1 ss.2.2.2.2.2) (readyM n items s, s.At, s.Rings, s.Memory, s.Choices, s.Out) = some (finM n items f s, 0) := by
  have stop : ∀ s, readyM n items s = [] → iter (fun ss : (List Move) × (List Int) × (List (List Item)) × (List Memory) × (List Choice) × (List Item) => move_Finish_l1 n items ss.1 ss.2.1 ss.2.2.1 ss.2.2.2.1 ss.2.2.2.2.1 ss.2.2.2.2.2) (readyM n items s, s.At, s.Rings, s.Memory, s.Choices, s.Out) = some (s, 0) := fun s h => by
    have e : move_Finish_l1 n items (readyM n items s) s.At s.Rings s.Memory s.Choices s.Out = some (.inr (s, 0)) := by
      unfold move_Finish_l1
      rw [h, if_neg (by simp)]; rfl
    rw [iter_eq]
    simp only [e]
  intro f
  induction f with
  | zero => intro s h hr; exact stop s hr
  | succ f ih =>
    intro s h hr
    unfold finM at hr ⊢
    split at hr
    · rename_i h0; simp only [h0]; rw [← h0]; exact stop s h0
    · rename_i m l hm
      obtain ⟨B, ok, hB⟩ := h
      have hmem : m ∈ readyM n items s := by rw [hm]; exact List.mem_cons_self
      have hI := (Inv.doMv hS ⟨B, ok, hB⟩ hmem).1
      obtain ⟨B2, ok2, hB2⟩ := hI
      have hrd : move_ready n items (⟨(doMv n items s m).At, (doMv n items s m).Rings, (doMv n items s m).Memory, (doMv n items s m).Choices, (doMv n items s m).Out⟩ : State) = some (readyM n items (doMv n items s m)) := ready_eq hS ok2
      have e : move_Finish_l1 n items (readyM n items s) s.At s.Rings s.Memory s.Choices s.Out = some (.inl (readyM n items (doMv n items s m), (doMv n items s m).At, (doMv n items s m).Rings, (doMv n items s m).Memory, (doMv n items s m).Choices, (doMv n items s m).Out)) := by
        unfold move_Finish_l1
        have h0 : ixN (m :: l) 0 = some 0 := by unfold ixN; rw [if_pos (by simp <;> omega)]; rfl
        rw [hm, if_pos (by simp <;> omega), h0, Option.bind_some]
        show Option.bind (some m) _ = _
        rw [Option.bind_some, doMv_eq hS ok hmem, Option.bind_some]
        simp only
        rw [hrd, Option.bind_some]
      rw [iter_eq]
      simp only [e]
      exact ih _ ⟨B2, ok2, hB2⟩ hr
end
end Go.Proofs.Ytfbmoockopakjaa
namespace Go.Proofs.Ytfbmoockopakjaa
set_option linter.unusedVariables false
set_option linter.unusedSimpArgs false
def firstE {α ρ : Type} (f : Nat → α → Option ρ) : Nat → List α → Option ρ
  | _, [] => none
  | k, x :: xs => match f k x with
    | some r => some r
    | none => firstE f (k + 1) xs
theorem err_loop {α ρ : Type} (xs : List α) (hx : xs.length ≤ 1099511627776) (f : Nat → α → Option ρ) (fin : Option ρ) {body : Int → Option (Int ⊕ ρ)}
    (h1 : ∀ (k : Nat) (x : α), xs[k]? = some x → k < xs.length → idx xs (k : Int) = some x → decide ((k : Int) < (xs.length : Int)) = true → IntKind.i64.wrap ((k : Int) + 1) = ((k + 1 : Nat) : Int) → body k = match f k x with | some r => some (.inr r) | none => some (.inl ((k + 1 : Nat) : Int)))
    (h2 : decide ((xs.length : Int) < (xs.length : Int)) = false → body xs.length = fin.map .inr) : iter body 0 = match firstE f 0 xs with | some r => some r | none => fin := by
  have key : ∀ (m k : Nat), k + m = xs.length → iter body k = match firstE f k (xs.drop k) with | some r => some r | none => fin := by
    intro m
    induction m with
    | zero =>
      intro k hk
      have hk : k = xs.length := by omega
      subst hk
      rw [iter_eq, h2 (by simp), List.drop_length]
      unfold firstE
      cases fin <;> rfl
    | succ m ih =>
      intro k hk
      have hlt : k < xs.length := by omega
      have hg : xs[k]? = some xs[k] := List.getElem?_eq_getElem hlt
      rw [iter_eq, h1 k _ hg hlt (idx_at hg) (by simp; omega) (wrap_1 (by omega)), List.drop_eq_getElem_cons hlt]
      unfold firstE
      cases f k xs[k] with
      | some r => rfl
      | none => exact ih (k + 1) (by omega)
  have := key xs.length 0 (by omega)
  rw [Int.natCast_zero, List.drop_zero] at this
  exact this
theorem firstE_none {α ρ : Type} {f : Nat → α → Option ρ} : ∀ {xs : List α} {k : Nat}, firstE f k xs = none ↔ ∀ (j : Nat) (x : α), xs[j]? = some x → f (k + j) x = none
  | [], k => ⟨fun _ j x h => by simp at h, fun _ => rfl⟩
  | y :: xs, k => by
    unfold firstE
    cases hf : f k y with
    | some r =>
      refine ⟨fun h => (by cases h), fun h => ?_⟩
      have := h 0 y rfl
      rw [Nat.add_zero, hf] at this; cases this
    | none =>
      simp only
      rw [firstE_none]
      constructor
      · intro h j x hj
        cases j with
        | zero => simp at hj; subst hj; exact hf
        | succ j => have := h j x (by simpa using hj); rwa [show k + 1 + j = k + (j + 1) by omega] at this
      · intro h j x hj
        have := h (j + 1) x (by simpa using hj)
        rwa [show k + (j + 1) = k + 1 + j by omega] at this
def badDeps (s : State) (l : List Item) : Bool := l.any fun x => decide (x.Dep < 0) || decide (x.Dep > (s.Choices.length : Int))
noncomputable def chkM (m : Memory) : Int := (stage_Check m).getD 0
theorem chkM_eq (m : Memory) : stage_Check m = some (chkM m) ∧ (chkM m = 0 ↔ okM m) := by
  obtain ⟨c, h1, h2⟩ := Check_iff m
  have : chkM m = c := by unfold chkM; rw [h1]; rfl
  rw [this]; exact ⟨h1, h2⟩
def choiceB (n : Net) (c : Choice) : Bool := decide (0 ≤ c.Node ∧ c.Node < n.Nodes.length ∧ (nodeN n c.Node.toNat).Kind = 6 ∧ 0 ≤ c.Lane ∧ c.Lane < (nodeN n c.Node.toNat).In.length)
noncomputable def chkS (n : Net) (items : List (List Item)) (s : State) : Int :=
  if srcR n items ≠ 0 then srcR n items
  else if s.At.length ≠ items.length ∨ (s.Rings.length : Int) ≠ n.Rings ∨ s.Memory.length ≠ n.Nodes.length then 4
  else if 500 < s.Choices.length ∨ 2000 < s.Out.length then 2
  else (firstE (fun k (p : Int) => if p < 0 ∨ p > ((items.getD k []).length : Int) then some (3 : Int) else none) 0 s.At).getD
    ((firstE (fun _ (l : List Item) => if n.Room < (l.length : Int) then some (2 : Int) else if badDeps s l = true then some 3 else none) 0 s.Rings).getD
    ((firstE (fun _ (m : Memory) => if chkM m ≠ 0 then some (chkM m) else if m.Dep > (s.Choices.length : Int) then some 3 else none) 0 s.Memory).getD
    ((firstE (fun _ (c : Choice) => if choiceB n c = true then none else some (5 : Int)) 0 s.Choices).getD (if badDeps s s.Out = true then 3 else 0))))
theorem getD_match {α : Type} (o : Option α) (z : α) : (match o with | some r => some r | none => some z) = some (o.getD z) := by cases o <;> rfl
section
variable {n : Net} {items : List (List Item)} {B : Int} {s : State}
theorem right_eq (s : State) (l : List Item) (hl : l.length ≤ 1099511627776) : move_Check_1_xa01a l s.At s.Rings s.Memory s.Choices s.Out = some (!badDeps s l) := by
  unfold move_Check_1_xa01a slices_ContainsFunc_Item_xd8db slices_IndexFunc_Item_xd8db
  rw [index_loop l hl (fun x => decide (x.Dep < 0) || decide (x.Dep > (s.Choices.length : Int))) (fun k x hx hk h1 h2 h3 => by
    unfold slices_IndexFunc_Item_xd8db_l1 move_Check_1_1_xa01a
    rw [h2, h1, h3]
    simp only [if_true, Option.bind_some]
    rfl) (fun h => by
    unfold slices_IndexFunc_Item_xd8db_l1
    rw [h]; rfl)]
  rw [Option.bind_some, idxI_any]; rfl
theorem choice_eq (n : Net) (c : Choice) : move_choice n c = some (choiceB n c) := by
  unfold move_choice choiceB
  by_cases h0 : 0 ≤ c.Node
  · rw [if_pos (by simpa using h0)]
    by_cases h1 : c.Node < n.Nodes.length
    · have hi : idx n.Nodes c.Node = some (nodeN n c.Node.toNat) := idx_D _ h0 h1
      rw [if_pos (by simpa using h1), hi, Option.bind_some]
      by_cases h6 : (nodeN n c.Node.toNat).Kind = 6
      · rw [if_pos (by simpa using h6)]
        by_cases h2 : 0 ≤ c.Lane
        · rw [if_pos (by simpa using h2), Option.bind_some, Option.bind_some]
          simp [h0, h1, h6, h2]
        · rw [if_neg (by simpa using h2)]; simp [h2]
      · rw [if_neg (by simpa using h6)]; simp [h6]
    · rw [if_neg (by simpa using h1)]; simp [h1]
  · rw [if_neg (by simpa using h0)]; simp [h0]
theorem Check_eq (n : Net) (items : List (List Item)) (s : State) (hio : ∀ x ∈ n.Nodes, x.In.length ≤ 1099511627776 ∧ x.Out.length ≤ 1099511627776) (hr : ∀ l, l ∈ s.Rings → l.length ≤ 1099511627776) : move_Check n items s = some (chkS n items s) := by
  unfold move_Check chkS
  rw [net_Sources_eq n items hio, Option.bind_some]
  by_cases h : srcR n items = 0
  · have hS := rightS_of h
    rw [if_neg (show ¬ (srcR n items != 0) = true by simp [h]), if_neg (show ¬ srcR n items ≠ 0 by simp [h])]
    by_cases hl : s.At.length ≠ items.length ∨ (s.Rings.length : Int) ≠ n.Rings ∨ s.Memory.length ≠ n.Nodes.length
    · rw [if_pos hl, if_pos (by simp; omega)]
    · have h1 : s.At.length = items.length := by omega
      have h2 : (s.Rings.length : Int) = n.Rings := by omega
      have h3 : s.Memory.length = n.Nodes.length := by omega
      rw [if_neg hl, if_neg (by simp; omega)]
      by_cases hm : 500 < s.Choices.length ∨ 2000 < s.Out.length
      · rw [if_pos hm, if_pos (by simp; omega)]
      · rw [if_neg hm, if_neg (by simp; omega)]
        have h4 := hS.l4
        have h5 := hS.r2
        have h6 := hS.n2
        rw [err_loop s.At (by omega) (fun k (p : Int) => if p < 0 ∨ p > ((items.getD k []).length : Int) then some (3 : Int) else none) (iter (fun ss_43 : Int => move_Check_l3 n s ss_43) 0) (fun k x hx hk e1 e2 e3 => by
          unfold move_Check_l4
          rw [e2, e1, e3]
          simp only [if_true, Option.bind_some]
          have hi := idx_at (getD_get ([] : List Item) (show k < items.length by omega))
          by_cases hx0 : x < 0
          · rw [if_pos (by simpa using hx0), Option.bind_some, if_pos rfl, if_pos (show x < 0 ∨ _ from .inl hx0)]; rfl
          · rw [if_neg (by simpa using hx0), hi, Option.bind_some, Option.bind_some]
            by_cases hx1 : x > ((items.getD k []).length : Int)
            · rw [if_pos (by simpa using hx1), if_pos (show x < 0 ∨ x > ((items.getD k []).length : Int) from .inr hx1)]; rfl
            · rw [if_neg (by simpa using hx1), if_neg (show ¬ (x < 0 ∨ x > ((items.getD k []).length : Int)) by omega)]) (fun e => by
          unfold move_Check_l4
          rw [e]; rfl)]
        rw [err_loop s.Rings (by omega) (fun _ (l : List Item) => if n.Room < (l.length : Int) then some (2 : Int) else if badDeps s l = true then some 3 else none) (iter (fun ss_55 : Int => move_Check_l2 n s ss_55) 0) (fun k x hx hk e1 e2 e3 => by
          unfold move_Check_l3
          rw [e2, e1, e3]
          simp only [if_true, Option.bind_some]
          rw [right_eq s x (hr x (List.mem_of_getElem? hx)), Option.bind_some]
          by_cases hx1 : n.Room < (x.length : Int)
          · rw [if_pos (by simpa using hx1), if_pos hx1]; rfl
          · rw [if_neg (by simpa using hx1), if_neg hx1]
            cases badDeps s x <;> rfl) (fun e => by
          unfold move_Check_l3
          rw [e]; rfl)]
        rw [err_loop s.Memory (by omega) (fun _ (m : Memory) => if chkM m ≠ 0 then some (chkM m) else if m.Dep > (s.Choices.length : Int) then some 3 else none) (iter (fun ss_55 : Int => move_Check_l1 n s ss_55) 0) (fun k x hx hk e1 e2 e3 => by
          unfold move_Check_l2
          rw [e2, e1, e3]
          simp only [if_true, Option.bind_some]
          rw [(chkM_eq x).1, Option.bind_some]
          by_cases hx1 : chkM x = 0
          · rw [if_neg (show ¬ (chkM x != 0) = true by simp [hx1]), if_neg (show ¬ chkM x ≠ 0 by simp [hx1])]
            by_cases hx2 : x.Dep > (s.Choices.length : Int)
            · rw [if_pos (by simpa using hx2), if_pos hx2]; rfl
            · rw [if_neg (by simpa using hx2), if_neg hx2]
          · rw [if_pos (show (chkM x != 0) = true by simpa using hx1), if_pos hx1]; rfl) (fun e => by
          unfold move_Check_l2
          rw [e]; rfl)]
        rw [err_loop s.Choices (by omega) (fun _ (c : Choice) => if choiceB n c = true then none else some (5 : Int)) (some (if badDeps s s.Out = true then 3 else 0)) (fun k x hx hk e1 e2 e3 => by
          unfold move_Check_l1
          rw [e2, e1, e3]
          simp only [if_true, Option.bind_some]
          rw [choice_eq, Option.bind_some]
          cases choiceB n x <;> rfl) (fun e => by
          unfold move_Check_l1
          rw [e, right_eq s s.Out (by omega)]
          simp only [Bool.false_eq_true, if_false, Option.bind_some]
          cases badDeps s s.Out <;> rfl)]
        simp only [getD_match]
  · rw [if_pos (show (srcR n items != 0) = true by simpa using h), if_pos h]
theorem badDeps_false {l : List Item} : badDeps s l = false ↔ ∀ x, x ∈ l → 0 ≤ x.Dep ∧ x.Dep ≤ s.Choices.length := by
  unfold badDeps
  rw [List.any_eq_false]
  simp only [Bool.or_eq_true, decide_eq_true_eq]
  exact ⟨fun h x hx => by have := h x hx; omega, fun h x hx => by have := h x hx; omega⟩
theorem chkS_0 (hsrc : srcR n items = 0) (ok : OkS n items B s) : chkS n items s = 0 := by
  unfold chkS
  have h1 := ok.at_
  have h2 := ok.rg
  have h3 := ok.mm
  have h4 := ok.ch
  have h5 := ok.out
  rw [if_neg (by omega), if_neg (by omega), if_neg (by omega)]
  rw [firstE_none.2 (fun j p hp => by have := ok.atP j p hp; rw [Nat.zero_add]; rw [if_neg (by omega)]), firstE_none.2 (fun r l hl => by
    have := ok.room r l hl
    rw [if_neg (by omega), if_neg (by rw [badDeps_false.2 (fun x hx => ok.depR r l x hl hx)]; decide)]), firstE_none.2 (fun i m hm => by
    have := ok.mem i m hm
    rw [if_neg (by have := (chkM_eq m).2.2 this.1; omega), if_neg (by omega)]), firstE_none.2 (fun j c hc => by
    have := ok.cho c (List.mem_of_getElem? hc)
    rw [if_pos (show choiceB n c = true by unfold choiceB; unfold choiceOk at this; exact decide_eq_true this)])]
  show (if badDeps s s.Out = true then 3 else 0) = (0 : Int)
  rw [if_neg (by rw [badDeps_false.2 ok.depO]; decide)]
theorem set_self {α : Type} {l : List α} {k : Nat} {a : α} (h : l[k]? = some a) : l.set k a = l := by
  obtain ⟨hlt, rfl⟩ := List.getElem?_eq_some_iff.1 h
  exact List.set_getElem_self hlt
theorem Copy_eq (s : State) (h1 : s.At.length ≤ 1099511627776) (h2 : s.Rings.length ≤ 1099511627776) (h3 : s.Memory.length ≤ 1099511627776) (h4 : s.Choices.length ≤ 1099511627776) (h5 : s.Out.length ≤ 1099511627776)
    (h6 : ∀ l, l ∈ s.Rings → l.length ≤ 1099511627776) (h7 : ∀ m, m ∈ s.Memory → m.Keys.length ≤ 1099511627776) : move_Copy s = some s := by
  have cl : ∀ {α : Type} (l : List α), l.length ≤ 1099511627776 → app [] l = some l := fun l hl => by rw [app_ok (by simpa using hl)]; rfl
  have l1 : ∀ (m k : Nat), k + m = s.Memory.length → iter (fun ss_24 : Int × (List Memory) => move_Copy_l1 s s.At s.Rings s.Memory ss_24.1 ss_24.2) ((k : Int), s.Memory) = some s := by
    intro m
    induction m with
    | zero =>
      intro k hk
      have hk : k = s.Memory.length := by omega
      subst hk
      have e : move_Copy_l1 s s.At s.Rings s.Memory (s.Memory.length : Int) s.Memory = some (.inr s) := by
        unfold move_Copy_l1 slices_Clone_Choice slices_Clone_Item
        rw [if_neg (by simp), cl _ h4, Option.bind_some, cl _ h5]; rfl
      rw [iter_eq]; simp only [e]
    | succ m ih =>
      intro k hk
      have hlt : k < s.Memory.length := by omega
      have hg : s.Memory[k]? = some s.Memory[k] := List.getElem?_eq_getElem hlt
      have e : move_Copy_l1 s s.At s.Rings s.Memory (k : Int) s.Memory = some (.inl (((k + 1 : Nat) : Int), s.Memory)) := by
        unfold move_Copy_l1 stage_Copy slices_Clone_Keyed
        rw [if_pos (by simp; omega), ixN_at hlt, Option.bind_some, hg, Option.bind_some, cl _ (h7 _ (List.getElem_mem hlt)), Option.bind_some, Option.bind_some, Option.bind_some, hg, Option.bind_some, wrap_1 (by omega), set_self hg]
      rw [iter_eq]; simp only [e]
      exact ih (k + 1) (by omega)
  have l2 : ∀ (m k : Nat), k + m = s.Rings.length → iter (fun ss_9 : Int × (List (List Item)) => move_Copy_l2 s s.At s.Rings ss_9.1 ss_9.2) ((k : Int), s.Rings) = some s := by
    intro m
    induction m with
    | zero =>
      intro k hk
      have hk : k = s.Rings.length := by omega
      subst hk
      have e : move_Copy_l2 s s.At s.Rings (s.Rings.length : Int) s.Rings = some (.inr s) := by
        unfold move_Copy_l2 slices_Clone_Memory
        have := l1 s.Memory.length 0 (by omega)
        rw [Int.natCast_zero] at this
        rw [if_neg (by simp), cl _ h3, Option.bind_some, this]; rfl
      rw [iter_eq]; simp only [e]
    | succ m ih =>
      intro k hk
      have hlt : k < s.Rings.length := by omega
      have hg : s.Rings[k]? = some s.Rings[k] := List.getElem?_eq_getElem hlt
      have e : move_Copy_l2 s s.At s.Rings (k : Int) s.Rings = some (.inl (((k + 1 : Nat) : Int), s.Rings)) := by
        unfold move_Copy_l2 slices_Clone_Item
        rw [if_pos (by simp; omega), ixN_at hlt, Option.bind_some, hg, Option.bind_some, cl _ (h6 _ (List.getElem_mem hlt)), Option.bind_some, Option.bind_some, hg, Option.bind_some, wrap_1 (by omega), set_self hg]
      rw [iter_eq]; simp only [e]
      exact ih (k + 1) (by omega)
  unfold move_Copy slices_Clone_int slices_Clone_api_Item_api_Item
  rw [cl _ h1, Option.bind_some, cl _ h2, Option.bind_some]
  have := l2 s.Rings.length 0 (by omega)
  rw [Int.natCast_zero] at this
  exact this
theorem Copy_ok (hS : RightS n items) (ok : OkS n items B s) : move_Copy s = some s := by
  have h1 := ok.at_
  have h2 := ok.rg
  have h3 := ok.mm
  have h4 := ok.ch
  have h5 := ok.out
  have h6 := hS.l4
  have h7 := hS.r2
  have h8 := hS.n2
  have h9 := hS.m2
  refine Copy_eq s (by omega) (by omega) (by omega) (by omega) (by omega) (fun l hl => ?_) (fun m hm => ?_)
  · obtain ⟨r, hr⟩ := List.getElem?_of_mem hl
    have := ok.room r l hr; omega
  · obtain ⟨i, hi⟩ := List.getElem?_of_mem hm
    have := (ok.mem i m hi).1.len; omega
theorem Finish_eq (n : Net) (items : List (List Item)) (s : State) (hsrc : srcR n items = 0) (hI : Inv n items s) (hio : ∀ x ∈ n.Nodes, x.In.length ≤ 1099511627776 ∧ x.Out.length ≤ 1099511627776) {f : Nat} (hf : readyM n items (finM n items f s) = []) :
    move_Finish n items s = some (finM n items f s, 0) := by
  have hS := rightS_of hsrc
  obtain ⟨B, ok, hB⟩ := hI
  unfold move_Finish
  rw [Check_eq n items s hio (fun l hl => by
    obtain ⟨r, hr⟩ := List.getElem?_of_mem hl
    have := ok.room r l hr
    have := hS.m2; omega), chkS_0 hsrc ok, Option.bind_some, if_neg (by simp), Copy_ok hS ok, Option.bind_some, ready_eq hS ok, Option.bind_some]
  exact fin_loop hS f s ⟨B, ok, hB⟩ hf
noncomputable def finS (n : Net) (items : List (List Item)) (s : State) : State := finM n items (muN n items s) s
theorem finS_end (hS : RightS n items) (hI : Inv n items s) : readyM n items (finS n items s) = [] := fin_end hS _ s hI (Nat.le_refl _)
theorem finS_inv (hS : RightS n items) (hI : Inv n items s) : Inv n items (finS n items s) := fin_inv hS _ s hI
end
theorem slices_Equal_Choice_eq' (a b : List Choice) (ha : a.length ≤ 1099511627776) : slices_Equal_Choice a b = some (decide (a = b)) := by
  unfold slices_Equal_Choice
  by_cases hl : a.length = b.length
  · rw [if_neg (by simp; omega)]
    exact equal_loop a b ha hl (fun k x y h1 h2 h3 h4 => by
      unfold slices_Equal_Choice_l1
      rw [h1, h2, h3, h4]
      by_cases h : x = y <;> simp [h]) (fun h => by
      unfold slices_Equal_Choice_l1
      rw [h]; simp)
  · rw [if_pos (by simp; omega)]
    have : a ≠ b := fun e => hl (by rw [e])
    simp [this]
theorem slices_Equal_Item_eq' (a b : List Item) (ha : a.length ≤ 1099511627776) : slices_Equal_Item a b = some (decide (a = b)) := by
  unfold slices_Equal_Item
  by_cases hl : a.length = b.length
  · rw [if_neg (by simp; omega)]
    exact equal_loop a b ha hl (fun k x y h1 h2 h3 h4 => by
      unfold slices_Equal_Item_l1
      rw [h1, h2, h3, h4]
      by_cases h : x = y <;> simp [h]) (fun h => by
      unfold slices_Equal_Item_l1
      rw [h]; simp)
  · rw [if_pos (by simp; omega)]
    have : a ≠ b := fun e => hl (by rw [e])
    simp [this]
theorem meeting_eq : crosslaw_meeting = some meetN := rfl
theorem two_eq : crosslaw_two = some twoN := rfl
theorem moved_true : crosslaw_moved = some true := by
  have hp := Play_eq meetN twoN [1, 1] meet_io
  rw [if_neg (by rw [meet_src]; decide), if_neg (by decide)] at hp
  have hS := rightS_of meet_src
  have hI := play_inv hS [1, 1] _ (start_inv hS)
  have hf : readyM meetN twoN (finM meetN twoN 20 (playM meetN twoN [1, 1] (startM meetN twoN))) = [] := by decide +kernel
  have hfin := Finish_eq meetN twoN _ meet_src hI meet_io hf
  have hc : (finM meetN twoN 20 (playM meetN twoN [1, 1] (startM meetN twoN))).Choices = [⟨2, 1⟩, ⟨2, 0⟩] := by decide +kernel
  have ho : (finM meetN twoN 20 (playM meetN twoN [1, 1] (startM meetN twoN))).Out = [⟨2, 2, 1⟩, ⟨1, 1, 2⟩] := by decide +kernel
  unfold crosslaw_moved
  rw [meeting_eq, two_eq, Option.bind_some, Option.bind_some, hp, Option.bind_some, Option.bind_some, Option.bind_some]
  simp only
  rw [hfin, Option.bind_some]
  simp only
  rw [hc, ho, slices_Equal_Choice_eq' _ _ (by simp), Option.bind_some, slices_Equal_Item_eq' _ _ (by simp), Option.bind_some]
  rfl
end Go.Proofs.Ytfbmoockopakjaa
namespace Go.Proofs.Ytfbmoockopakjaa
set_option linter.unusedVariables false
set_option linter.unusedSimpArgs false
section
variable {n : Net} {items : List (List Item)} {B : Int} {s : State}
theorem none_waits (hS : RightS n items) (ok : OkS n items B s) (h500 : s.Choices.length < 500) (h2000 : s.Out.length < 2000) (hr : readyM n items s = []) : ∀ (m i k : Nat), n.Nodes.length - posN n i ≤ m → i < n.Nodes.length → k < lanesN (nodeN n i) → headI n items s i k = none := by
  have hR := hS.toRightN
  obtain ⟨p1, _, p2⟩ := posN_spec hR
  intro m
  induction m with
  | zero => intro i k hm hi hk; have := p1 i hi; omega
  | succ m ih =>
    intro i k hm hi hk
    cases hh : headI n items s i k with
    | none => rfl
    | some it =>
      exfalso
      have hroom : roomy n s (outsI (nodeN n i) it.Key) = true := by
        unfold roomy
        rw [List.all_eq_true]
        intro r hro
        have hro2 := outs_ok hR hi _ r hro
        have h0 := hR.outR i hi r hro2
        obtain ⟨j, hj, hrj⟩ := hR.toI r.toNat (by omega)
        have hpos := p2 i j r hi hj hro2 (by rwa [Int.toNat_of_nonneg h0.1] at hrj)
        obtain ⟨k', hk'⟩ := List.getElem?_of_mem hrj
        have hkl := (List.getElem?_eq_some_iff.1 hk').1
        have h1 : (nodeN n j).Kind ≠ 1 := fun e => by rw [hR.in1 j hj e] at hrj; cases hrj
        have hkl2 : k' < lanesN (nodeN n j) := by
          unfold lanesN
          split
          · exact hkl
          · rename_i h6; have := hR.inx j hj h1 h6; omega
        have hnone := ih j k' (by omega) hj hkl2
        unfold headI at hnone
        rw [if_neg h1] at hnone
        have hrn : ringN (nodeN n j) k' = r.toNat := by unfold ringN; rw [get_D 0 hk']; omega
        rw [hrn] at hnone
        have hnil : s.Rings.getD r.toNat [] = [] := List.head?_eq_none_iff.1 hnone
        rw [hnil]
        have := hR.m1
        simp; omega
      have hc : canM n items s i k = true := by
        unfold canM
        rw [hh]
        simp only
        rw [hroom]
        simp; omega
      have := mem_readyM hi hk hc
      rw [hr] at this
      cases this
theorem drained (hS : RightS n items) (ok : OkS n items B s) (h500 : s.Choices.length < 500) (h2000 : s.Out.length < 2000) (hr : readyM n items s = []) :
    (∀ i, i < n.Nodes.length → (nodeN n i).Kind = 1 → s.At.getD (nodeN n i).A.toNat 0 = (items.getD (nodeN n i).A.toNat []).length) ∧ ∀ l, l ∈ s.Rings → l = [] := by
  have hR := hS.toRightN
  refine ⟨fun i hi h1 => ?_, fun l hl => ?_⟩
  · have hk : 0 < lanesN (nodeN n i) := by unfold lanesN; rw [if_neg (by omega)]; omega
    have := none_waits hS ok h500 h2000 hr _ i 0 (Nat.le_refl _) hi hk
    unfold headI at this
    rw [if_pos h1, List.getElem?_eq_none_iff] at this
    obtain ⟨a0, a1, a2, a3, a4, a5⟩ := at_ok hS ok hi h1
    omega
  · obtain ⟨r, hr'⟩ := List.getElem?_of_mem hl
    have hlt := (List.getElem?_eq_some_iff.1 hr').1
    have hrg := ok.rg
    obtain ⟨j, hj, hrj⟩ := hR.toI r (by omega)
    obtain ⟨k', hk'⟩ := List.getElem?_of_mem hrj
    have hkl := (List.getElem?_eq_some_iff.1 hk').1
    have h1 : (nodeN n j).Kind ≠ 1 := fun e => by rw [hR.in1 j hj e] at hrj; cases hrj
    have hkl2 : k' < lanesN (nodeN n j) := by
      unfold lanesN
      split
      · exact hkl
      · rename_i h6; have := hR.inx j hj h1 h6; omega
    have hnone := none_waits hS ok h500 h2000 hr _ j k' (Nat.le_refl _) hj hkl2
    unfold headI at hnone
    rw [if_neg h1] at hnone
    have hrn : ringN (nodeN n j) k' = r := by unfold ringN; rw [get_D 0 hk']; simp
    rw [hrn, get_D [] hr'] at hnone
    exact List.head?_eq_none_iff.1 hnone
theorem drains_loop (hS : RightS n items) (ok : OkS n items B s) (h1 : ∀ i, i < n.Nodes.length → (nodeN n i).Kind = 1 → s.At.getD (nodeN n i).A.toNat 0 = (items.getD (nodeN n i).A.toNat []).length) (h2 : ∀ l, l ∈ s.Rings → l = []) :
    iter (fun ss_35 : Int => crosslaw_MoveDrains_l1 n items (s, 0) ss_35) 0 = some true := by
  have hn := hS.n2
  have hfin : slices_ContainsFunc_api_Item_api_Item_x88a1 s.Rings = some false := by
    unfold slices_ContainsFunc_api_Item_api_Item_x88a1 slices_IndexFunc_api_Item_api_Item_x88a1
    have hr := ok.rg
    have h16 := hS.r2
    rw [index_loop s.Rings (by omega) (fun l => decide ((l.length : Int) > 0)) (fun k x hx hk e1 e2 e3 => by
      unfold slices_IndexFunc_api_Item_api_Item_x88a1_l1 crosslaw_MoveDrains_1
      rw [e2, e1, e3]
      simp only [if_true, Option.bind_some]
      rfl) (fun h => by
      unfold slices_IndexFunc_api_Item_api_Item_x88a1_l1
      rw [h]; rfl), Option.bind_some, idxI_any]
    congr 1
    rw [List.any_eq_false]
    intro l hl
    rw [h2 l hl]; simp
  rw [err_loop n.Nodes (by omega) (fun _ _ => (none : Option Bool)) (some true) (fun k x hx hk e1 e2 e3 => by
    have hxe : x = nodeN n k := by have := nodeN_get hk; rw [hx] at this; exact Option.some.inj this
    unfold crosslaw_MoveDrains_l1
    rw [e2, e1, e3]
    simp only [if_true, Option.bind_some]
    by_cases hk1 : x.Kind = 1
    · obtain ⟨a0, a1, a2, a3, a4, a5⟩ := at_ok hS ok hk (by rw [← hxe]; exact hk1)
      have h3 := h1 k hk (by rw [← hxe]; exact hk1)
      rw [← hxe] at a0 a1 a2 h3
      rw [if_pos (by simpa using hk1), idx_D 0 a0 a1, Option.bind_some, idx_D [] a0 a2, Option.bind_some, Option.bind_some, h3]
      simp
    · rw [if_neg (by simpa using hk1), Option.bind_some]; simp) (fun e => by
    unfold crosslaw_MoveDrains_l1
    rw [e, hfin]; rfl)]
  rw [firstE_none.2 (fun _ _ _ => rfl)]
end
theorem MoveDrains_true (n : Net) (items : List (List Item)) (p : List Int) (hb : mNet n + (mL (mL mItem) items + (mL mI p + 0)) ≤ 1048576) : crosslaw_MoveDrains n items p = some true := by
  have hio := net_io (show mNet n ≤ 1048576 by omega)
  unfold crosslaw_MoveDrains
  rw [Play_eq n items p hio, Option.bind_some, moved_true, Option.bind_some]
  by_cases h : srcR n items = 0
  · rw [if_neg (show ¬ srcR n items ≠ 0 by simp [h])]
    by_cases hp : 2000 < p.length
    · rw [if_pos hp, if_pos (by simp), Option.bind_some]
    · rw [if_neg hp, if_neg (by simp)]
      have hS := rightS_of h
      have hI := play_inv hS p _ (start_inv hS)
      have hend := finS_end hS hI
      have hI2 := finS_inv hS hI
      simp only
      rw [Finish_eq n items _ h hI hio hend, Option.bind_some]
      have hfs : finM n items (muN n items (playM n items p (startM n items))) (playM n items p (startM n items)) = finS n items (playM n items p (startM n items)) := rfl
      rw [hfs]
      generalize finS n items (playM n items p (startM n items)) = t at hend hI2
      obtain ⟨B, ok, hB⟩ := hI2
      simp only
      rw [if_neg (by simp), Check_eq n items t hio (fun l hl => by
        obtain ⟨r, hr⟩ := List.getElem?_of_mem hl
        have := ok.room r l hr
        have := hS.m2; omega), chkS_0 h ok, Option.bind_some, Option.bind_some, if_neg (by simp)]
      unfold crosslaw_far
      rw [Option.bind_some]
      by_cases hf : t.Choices.length < 500 ∧ t.Out.length < 2000
      · obtain ⟨d1, d2⟩ := drained hS ok hf.1 hf.2 hend
        rw [if_neg (by simp; omega)]
        exact drains_loop hS ok d1 d2
      · rw [if_pos (by simp; omega)]
  · rw [if_pos h, if_pos (by simpa using h), Option.bind_some]
end Go.Proofs.Ytfbmoockopakjaa
namespace Go.Proofs.Ytfbmoockopakjaa.moveDrainsLaw
open Go.ChangeShapes Go.WideShapes Go.ChangeAt Go.RowKit
set_option linter.unusedVariables false
theorem own : ownKnob Try.prog.godebug = none := by kernel_rfl
theorem laid : laidOutB Try.prog = true := by kernel_rfl
theorem ok : (Try.f3.params.toList.all fun t => Try.prog.readableRec t && decide (t < Try.prog.types.size)) = true := by kernel_rfl
set_option maxRecDepth 100000 in
theorem contract (H : Type) (enc : TypeId × Value → H) (W : World) (base : Nat) (args : Array Value) (ds gs : List (DataW H)) (before : List MemPlace)
    (hval : ∀ (j : Nat) t v, Try.f3.params[j]? = some t → args[j]? = some v → Value.okWide Try.prog W .any base t v)
    (hW : DataW.Whole enc Try.prog Try.f3.params.toList Rows.moveDrainsSpec.vars false W args.toList ds gs before) (hk : Rows.uptoSmall H (ds ++ gs) = true) :
    Calls Try.prog 3 args W fun e W' => ∃ v, e = .returned v ∧ Rows.moveDrainsSpec.post enc Try.prog Try.f3 false true false false W args v W' := by
  have hW' := hW
  obtain ⟨p, q, hA0, hV, rfl, hfz, hnd⟩ := hW
  have hA : DataW.TrodAll enc Try.prog W 0 (fun _ => true) true Try.f3.params.toList args.toList ds p := hA0
  rw [Try.params3] at hA hval
  obtain ⟨v0, vs0, d0, ds0, p0, q0, hargs, rfl, rfl, h0, r0⟩ := trodAll_cons hA
  obtain ⟨v1, vs1, d1, ds1, p1, q1, rfl, rfl, rfl, h1, r1⟩ := trodAll_cons r0
  obtain ⟨v2, vs2, d2, ds2, p2, q2, rfl, rfl, rfl, h2, r2⟩ := trodAll_cons r1
  obtain ⟨rfl, rfl, rfl⟩ := trodAll_nil r2
  obtain rfl : args = #[v0, v1, v2] := by cases args; simp_all
  obtain ⟨rfl, rfl⟩ := trodVars_none hV
  obtain ⟨x0, a0, g0, m0⟩ := Opn.args on24 Try.underlying24 (hval 0 _ v0 rfl rfl) h0
  obtain ⟨x1, a1, g1, m1⟩ := Opn.arg on25 (by rw [Try.underlying25]) (hval 1 _ v1 rfl rfl) h1
  obtain ⟨x2, a2, g2, m2⟩ := Opn.arg on26 (by rw [Try.underlying26]) (hval 2 _ v2 rfl rfl) h2
  have hb : Rows.uptoBulkAll ([d0, d1, d2] : List (DataW H)) ≤ 1048576 := of_decide_eq_true hk
  simp only [Rows.uptoBulkAll] at hb
  refine law_post laid Try.underlying4 (by kernel_rfl) ok rfl rfl rfl rfl hW' (av := [_, _, _]) (.cons a0 (.cons a1 (.cons a2 (.nil)))) (crosslaw_MoveDrains_c x0 x1 x2 true (MoveDrains_true x0 x1 x2 (by omega)))
set_option maxRecDepth 100000 in
theorem lifted (os : Os) (started : os.Started) (H : Type) (enc : TypeId × Value → H) (F : Stop.Interp) :
    ReturnsInHanded {} Try.checked os 3 .any ((Rows.OpenSpec.upto Rows.moveDrainsSpec).pre6 enc Try.prog Try.f3 Rows.moveDrainsUptoRow.domain false) (((Rows.OpenSpec.upto Rows.moveDrainsSpec).at F).post enc Try.prog Try.f3 false true false false) := by
  refine returnsInHanded_of_cond (C := Try.checked) (s := Rows.OpenSpec.upto Rows.moveDrainsSpec) (k := Rows.uptoSmall) rfl own started (by kernel_rfl) Try.func3
    (OpenSpec.witness (enc := enc) (C := Try.checked) (s := Rows.OpenSpec.upto Rows.moveDrainsSpec) (k := Rows.uptoSmall) rfl false ⟨#[], #[.agg #[.slice none 0 0, .int .i64 0, .int .i64 0], .slice none 0 0, .slice none 0 0], []⟩ 8 (by kernel_rfl) (by kernel_rfl) (by kernel_rfl)
      (x := ([.agg [.nil, .lit (.int .i64 0), .lit (.int .i64 0)], .nil, .nil], [], [])) (by kernel_rfl) rfl (by kernel_rfl)) ?_
  intro W base args ds gs before hval hW _ hk _
  exact contract H enc W base args ds gs before hval hW hk
theorem proved : Rows.MoveDrainsUptoSaid :=
  OpenClaim.holds_of_cond 3 Try.f3 rfl rfl rfl rfl rfl rfl rfl ⟨rfl, rfl, rfl, rfl, rfl⟩ rfl rfl rfl rfl rfl (by kernel_rfl) Try.func3 (by kernel_rfl)
    (of_decide_eq_true (by kernel_rfl)) (by unfold Func.isWrapper; first | (rw [if_pos (by decide +kernel)]; kernel_rfl) | (rw [if_neg (by decide +kernel)]; exact ⟨rfl, rfl⟩))
    (fun os started H enc _ F => lifted os started H enc F)
#print axioms proved
end Go.Proofs.Ytfbmoockopakjaa.moveDrainsLaw
