/-
  What the functions of gate compute: plain.
-/
import Derived.Test.YtpndpdbabblphaaPlib
import Derived.Test.YtpndpdbabblphaaSh
namespace Go.Proofs.Ytpndpdbabblphaa
set_option linter.unusedVariables false
set_option linter.unusedSimpArgs false

theorem slices_Equal_Item_eq (a b : List Item) (ha : a.length ≤ 1099511627776) : slices_Equal_Item a b = some (decide (a = b)) := by
  unfold slices_Equal_Item
  by_cases hl : a.length = b.length
  · rw [if_neg (by simp; omega)]
    exact equal_loop a b ha hl (fun k x y h1 h2 h3 h4 => by
      unfold slices_Equal_Item_l1
      rw [h1, h2, h3, h4]
      by_cases h : x = y <;> simp [h]) (fun h => by
      unfold slices_Equal_Item_l1
      rw [h]; simp)
  · rw [if_pos (by simp; omega)]
    have : a ≠ b := fun e => hl (by rw [e])
    simp [this]

/-- How many of the first items hang on so many choices at most. -/
def freeN (l : List Item) (s : Int) : Nat := (l.takeWhile fun x => decide (x.Dep ≤ s)).length
theorem freeN_le (l : List Item) (s : Int) : freeN l s ≤ l.length := (List.takeWhile_sublist _).length_le
theorem slices_IndexFunc_Free (l : List Item) (s : Int) (hl : l.length ≤ 1099511627776) : slices_IndexFunc_Item_xe0d8 l s = some (if freeN l s < l.length then (freeN l s : Int) else -1) := by
  unfold slices_IndexFunc_Item_xe0d8
  have := iter_list0 (σ := Unit) l hl (fun k _ => (k : Int)) (body := fun s1 => slices_IndexFunc_Item_xe0d8_l1 l s s1)
    (fun k x _ => if x.Dep > s then some (.inr (k : Int)) else some (.inl ())) (fun _ => some (-1)) ()
    (fun k x _ _ _ h1 h2 h3 => by
      unfold slices_IndexFunc_Item_xe0d8_l1 gate_Free_1_x38ec
      rw [h2, h1, h3]
      by_cases h : x.Dep > s <;> simp [h])
    (fun _ h => by unfold slices_IndexFunc_Item_xe0d8_l1; rw [h]; simp)
  refine Eq.trans this ?_
  have key : ∀ (ys : List Item) (k : Nat), foldE (σ := Unit) (fun k x _ => if x.Dep > s then some (.inr (k : Int)) else some (.inl ())) (fun _ => some (-1)) k ys () = some (if freeN ys s < ys.length then ((k + freeN ys s : Nat) : Int) else -1) := by
    intro ys
    induction ys with
    | nil => intro k; simp [foldE, freeN]
    | cons y ys ih =>
      intro k
      unfold foldE
      by_cases h : y.Dep > s
      · have h' : ¬ y.Dep ≤ s := by omega
        simp [h, freeN, h']
      · have h' : y.Dep ≤ s := by omega
        rw [if_neg h]
        simp only
        rw [ih (k + 1)]
        have e : freeN (y :: ys) s = freeN ys s + 1 := by simp [freeN, h']
        rw [e]
        by_cases hh : freeN ys s < ys.length
        · rw [if_pos hh, if_pos (by simp; omega)]; congr 1; omega
        · rw [if_neg hh, if_neg (by simp; omega)]
  rw [key l 0]
  simp

def freeR (l : List Item) (s : Int) : Int × Int := if 2000 < l.length then (0, 2) else if s < 0 ∨ 500 < s then (0, 3) else (freeN l s, 0)
theorem gate_Free_eq (l : List Item) (s : Int) : gate_Free l s = some (freeR l s) := by
  unfold gate_Free freeR
  by_cases h1 : 2000 < l.length
  · rw [if_pos (by simp; omega), if_pos h1]
  rw [if_neg (by simp; omega), if_neg h1]
  by_cases h2 : s < 0 ∨ 500 < s
  · rw [if_pos (by simp; omega), if_pos h2]
  rw [if_neg (by simp; omega), if_neg h2, slices_IndexFunc_Free l s (by omega)]
  have := freeN_le l s
  by_cases h3 : freeN l s < l.length
  · simp [h3]; omega
  · simp [h3]; omega

def plainI (x : Item) : Item := ⟨x.Key, x.Val, 0⟩
def plainR (l : List Item) : List Item × Int := if 2000 < l.length then ([], 2) else (l.map plainI, 0)
theorem gate_Plain_eq (l : List Item) : gate_Plain l = some (plainR l) := by
  unfold gate_Plain plainR
  by_cases h1 : 2000 < l.length
  · rw [if_pos (by simp; omega), if_pos h1]
  rw [if_neg (by simp; omega), if_neg h1]
  unfold slices_Clone_Item
  rw [app_ok (by simp; omega)]
  simp only [List.nil_append, Option.bind_some]
  have key : ∀ (ys pre : List Item), pre.length + ys.length ≤ 2000 → ∀ (x2 : List Item), x2.length = pre.length + ys.length →
      iter (fun ss : Int × List Item => gate_Plain_l1 x2 ss.1 ss.2) ((pre.length : Int), pre ++ ys) = some (pre ++ ys.map plainI, 0) := by
    intro ys
    induction ys with
    | nil =>
      intro pre hp x2 hx
      rw [iter_eq]
      unfold gate_Plain_l1
      simp at hx
      rw [if_neg (by simp [hx])]
      simp
    | cons y ys ih =>
      intro pre hp x2 hx
      simp only [List.length_cons] at hp hx
      have e1 : ixN (pre ++ y :: ys) (pre.length : Int) = some pre.length := ixN_at (by simp)
      have e2 : (pre ++ y :: ys)[pre.length]? = some y := by simp
      have e3 : (pre ++ y :: ys).set pre.length (plainI y) = (pre ++ [plainI y]) ++ ys := by simp [List.set_append]
      have e4 : IntKind.i64.wrap ((pre.length : Int) + 1) = ((pre ++ [plainI y]).length : Int) := by rw [wrap_1 (by omega)]; simp
      have e5 : gate_Plain_l1 x2 (pre.length : Int) (pre ++ y :: ys) = some (.inl (((pre ++ [plainI y]).length : Int), (pre ++ [plainI y]) ++ ys)) := by
        unfold gate_Plain_l1
        rw [if_pos (by simp [hx]; omega), e1, Option.bind_some, e2, Option.bind_some, e4, show (⟨y.Key, y.Val, 0⟩ : Item) = plainI y from rfl, e3]
      rw [iter_eq, e5]
      simp only
      have := ih (pre ++ [plainI y]) (by simp; omega) x2 (by simp; omega)
      rw [this]
      simp
  have := key l [] (by simp; omega) l (by simp)
  simpa using this

def kv (x : Item) : Int × Int := (x.Key, x.Val)
def alikeB (a b : List Item) : Bool := decide (a.map kv = b.map kv)
def beginsB (a b : List Item) : Bool := decide (a.map kv = (b.take a.length).map kv ∧ a.length ≤ b.length)
theorem kv_eq (x y : Item) : ((x.Key == y.Key) && x.Val == y.Val) = decide (kv x = kv y) := by
  rw [Bool.eq_iff_iff]; simp [kv]
theorem alike_loop (a b : List Item) (ha : a.length ≤ 1099511627776) (hl : a.length = b.length) {body : Int → Option (Int ⊕ Bool)}
    (h1 : ∀ (k : Nat) x y, decide ((k : Int) < (a.length : Int)) = true → idx a (k : Int) = some x → idx b (k : Int) = some y → IntKind.i64.wrap ((k : Int) + 1) = ((k + 1 : Nat) : Int) → body k = if kv x = kv y then some (.inl ((k + 1 : Nat) : Int)) else some (.inr false))
    (h2 : decide ((a.length : Int) < (a.length : Int)) = false → body a.length = some (.inr true)) : iter body 0 = some (alikeB a b) := by
  have im : ∀ (l : List Item) (k : Nat) (p : Int × Int), idx (l.map kv) (k : Int) = some p → ∃ x, idx l (k : Int) = some x ∧ kv x = p := by
    intro l k p h
    unfold idx at h
    rw [if_pos (by omega)] at h
    simp at h
    obtain ⟨x, hx, rfl⟩ := h
    exact ⟨x, idx_at hx, rfl⟩
  have := equal_loop (a.map kv) (b.map kv) (by simpa using ha) (by simpa using hl) (body := body) (fun k x y h3 h4 h5 h6 => by
    obtain ⟨x, h7, rfl⟩ := im a k x h4
    obtain ⟨y, h8, rfl⟩ := im b k y h5
    exact h1 k x y (by simpa using h3) h7 h8 h6) (fun h => by have := h2 (by simp); simp; exact this)
  exact this
theorem equalFunc_begins (a b : List Item) (ha : a.length ≤ 1099511627776) : slices_EqualFunc_Itemapi_Item_api_Item_api_Item_x74e1 a b = some (alikeB a b) := by
  unfold slices_EqualFunc_Itemapi_Item_api_Item_api_Item_x74e1
  by_cases hl : a.length = b.length
  · rw [if_neg (by simp; omega)]
    exact alike_loop a b ha hl (fun k x y h1 h2 h3 h4 => by
      unfold slices_EqualFunc_Itemapi_Item_api_Item_api_Item_x74e1_l1 gate_Begins_1
      rw [h1, h2, h3, h4]
      simp only [Option.bind_some, if_true, kv_eq]
      by_cases h : kv x = kv y <;> simp [h]) (fun h => by
      unfold slices_EqualFunc_Itemapi_Item_api_Item_api_Item_x74e1_l1
      rw [h]; simp)
  · rw [if_pos (by simp; omega)]
    have : a.map kv ≠ b.map kv := fun e => hl (by have := congrArg List.length e; simp at this; exact this)
    simp [alikeB, this]
theorem gate_Begins_eq (a b : List Item) (ha : a.length ≤ 1099511627776) : gate_Begins a b = some (beginsB a b) := by
  unfold gate_Begins beginsB
  by_cases h : a.length ≤ b.length
  · rw [if_pos (by simp; omega), sub_0 h]
    simp only [Option.bind_some]
    rw [equalFunc_begins a _ ha]
    simp [alikeB, h]
  · rw [if_neg (by simp; omega)]
    simp [h]
theorem alike_eq (a b : List Item) (ha : a.length ≤ 1099511627776) : crosslaw_alike a b = some (alikeB a b) := by
  unfold crosslaw_alike
  have : slices_EqualFunc_Itemapi_Item_api_Item_api_Item_xafd2 a b = some (alikeB a b) := by
    unfold slices_EqualFunc_Itemapi_Item_api_Item_api_Item_xafd2
    by_cases hl : a.length = b.length
    · rw [if_neg (by simp; omega)]
      exact alike_loop a b ha hl (fun k x y h1 h2 h3 h4 => by
        unfold slices_EqualFunc_Itemapi_Item_api_Item_api_Item_xafd2_l1 crosslaw_alike_1
        rw [h1, h2, h3, h4]
        simp only [Option.bind_some, if_true, kv_eq]
        by_cases h : kv x = kv y <;> simp [h]) (fun h => by
        unfold slices_EqualFunc_Itemapi_Item_api_Item_api_Item_xafd2_l1
        rw [h]; simp)
    · rw [if_pos (by simp; omega)]
      have : a.map kv ≠ b.map kv := fun e => hl (by have := congrArg List.length e; simp at this; exact this)
      simp [alikeB, this]
  rw [this]; rfl

/-- What comes out behind what was told. -/
def behindR (t l : List Item) (s : Int) : List Item × Int :=
  if 2000 < t.length then ([], 2)
  else if (freeR l s).2 ≠ 0 then ([], (freeR l s).2)
  else if beginsB t l = false ∧ beginsB l t = false then ([], 4)
  else if freeN l s ≤ t.length then ([], 0)
  else (((l.take (freeN l s)).drop t.length).map plainI, 0)
theorem freeR_ok {l : List Item} {s : Int} (h : (freeR l s).2 = 0) : l.length ≤ 2000 ∧ (freeR l s).1 = freeN l s := by
  unfold freeR at h ⊢
  split at h
  · simp at h
  · split at h
    · simp at h
    · rename_i h1 h2
      rw [if_neg h1, if_neg h2]; exact ⟨by omega, rfl⟩
theorem gate_Behind_eq (t l : List Item) (s : Int) : gate_Behind t l s = some (behindR t l s) := by
  unfold gate_Behind behindR
  by_cases h1 : 2000 < t.length
  · rw [if_pos (by simp; omega), if_pos h1]
  rw [if_neg (by simp; omega), if_neg h1, gate_Free_eq]
  simp only [Option.bind_some]
  by_cases h2 : (freeR l s).2 ≠ 0
  · rw [if_pos (by simpa using h2), if_pos h2]
  have h2' : (freeR l s).2 = 0 := by simpa using h2
  obtain ⟨h3, h4⟩ := freeR_ok h2'
  rw [if_neg (by simp [h2']), if_neg h2, gate_Begins_eq t l (by omega)]
  simp only [Option.bind_some]
  have hc : (if (!beginsB t l) = true then (gate_Begins l t).bind fun x4 => some (!x4) else some false) = some (!beginsB t l && !beginsB l t) := by
    rw [gate_Begins_eq l t (by omega)]
    cases beginsB t l <;> simp
  rw [hc]
  simp only [Option.bind_some]
  by_cases h5 : beginsB t l = false ∧ beginsB l t = false
  · rw [if_pos (by simp [h5]), if_pos h5]
  rw [if_neg (by simpa using h5), if_neg h5, h4]
  by_cases h6 : freeN l s ≤ t.length
  · rw [if_pos (by simp; omega), if_pos h6]
  rw [if_neg (by simp; omega), if_neg h6]
  have h7 := freeN_le l s
  rw [sub_ok (by omega) h7]
  simp only [Option.bind_some]
  rw [gate_Plain_eq]
  have : ¬ 2000 < min (freeN l s) l.length - t.length := by omega
  simp [plainR, this]

theorem gated_true : crosslaw_gated = some true := by
  unfold crosslaw_gated
  rw [gate_Behind_eq]
  have : behindR ([] : List Item) [⟨1, 0, 1⟩, ⟨2, 0, 3⟩] 2 = ([⟨1, 0, 0⟩], 0) := by decide
  rw [this]
  simp only [Option.bind_some]
  rw [slices_Equal_Item_eq _ _ (by simp)]
  simp

/- the laws -/
theorem freeN_mono (l : List Item) {a b : Int} (hab : a ≤ b) : freeN l a ≤ freeN l b := by
  induction l with
  | nil => simp [freeN]
  | cons y ys ih =>
    unfold freeN at ih ⊢
    by_cases h : y.Dep ≤ a
    · have h2 : y.Dep ≤ b := by omega
      simp [h, h2]; exact ih
    · simp [h]
theorem GateMore_true (l : List Item) (a b : Int) : crosslaw_GateMore l a b = some true := by
  have key : ∀ a b : Int, a ≤ b → crosslaw_GateMore_k1 l a b = some true := by
    intro a b hab
    unfold crosslaw_GateMore_k1
    rw [gate_Behind_eq]
    simp only [Option.bind_some]
    rw [gate_Behind_eq]
    simp only [Option.bind_some]
    rw [gate_Behind_eq]
    simp only [Option.bind_some]
    rw [gated_true]
    simp only [Option.bind_some, Bool.not_true, Bool.false_or]
    by_cases h : (behindR [] l a).2 ≠ 0 ∨ (behindR [] l b).2 ≠ 0
    · rw [if_pos (by simpa using h)]
    rw [if_neg (by simpa using h)]
    have ha : (behindR [] l a).2 = 0 := by
      by_cases h' : (behindR [] l a).2 = 0
      · exact h'
      · exact absurd (.inl h') h
    have hb : (behindR [] l b).2 = 0 := by
      by_cases h' : (behindR [] l b).2 = 0
      · exact h'
      · exact absurd (.inr h') h
    have nilb : ∀ l, beginsB [] l = true := fun l => by simp [beginsB]
    have first : ∀ c, (behindR [] l c).2 = 0 → (freeR l c).2 = 0 ∧ (behindR [] l c).1 = (l.take (freeN l c)).map plainI := by
      intro c hc
      unfold behindR at hc ⊢
      simp only [List.length_nil, Nat.not_lt_zero, if_false, nilb] at hc ⊢
      by_cases h1 : (freeR l c).2 ≠ 0
      · rw [if_pos h1] at hc; exact absurd hc h1
      rw [if_neg h1]
      refine ⟨by simpa using h1, ?_⟩
      simp only [Bool.true_eq_false, false_and, if_false]
      by_cases h2 : freeN l c ≤ 0
      · rw [if_pos h2, show freeN l c = 0 by omega]; rfl
      · rw [if_neg h2]; simp
    obtain ⟨fa, ea⟩ := first a ha
    obtain ⟨fb, eb⟩ := first b hb
    obtain ⟨hl, _⟩ := freeR_ok fa
    have hna := freeN_le l a
    have hnb := freeN_le l b
    have hmono := freeN_mono l hab
    have hp : ∀ l : List Item, (l.map plainI).map kv = l.map kv := fun l => by simp [kv, plainI, Function.comp_def]
    have hxl : ((l.take (freeN l a)).map plainI).length = freeN l a := by simp; omega
    have hbx : beginsB ((l.take (freeN l a)).map plainI) l = true := by
      unfold beginsB
      rw [hxl, hp]
      simp; omega
    -- what comes out behind the first
    have hy : behindR ((l.take (freeN l a)).map plainI) l b = (((l.take (freeN l b)).drop (freeN l a)).map plainI, 0) := by
      unfold behindR
      rw [hxl, if_neg (by omega), if_neg (by simp [fb]), hbx]
      simp only [Bool.true_eq_false, false_and, if_false]
      by_cases h2 : freeN l b ≤ freeN l a
      · rw [if_pos h2, List.drop_of_length_le (by simp; omega)]; rfl
      · rw [if_neg h2]
    rw [ea, eb, hy]
    simp only [Option.bind_some]
    rw [if_pos (by simp)]
    unfold slices_Clone_Item
    have hlen1 : ((l.take (freeN l a)).map plainI).length ≤ 2000 := by rw [hxl]; omega
    rw [app_ok (by simp; omega)]
    simp only [Option.bind_some, List.nil_append]
    rw [app_ok (by simp; omega)]
    simp only [Option.bind_some]
    have hcat : (l.take (freeN l a)).map plainI ++ ((l.take (freeN l b)).drop (freeN l a)).map plainI = (l.take (freeN l b)).map plainI := by
      rw [← List.map_append]
      congr 1
      have e1 : l.take (freeN l a) = (l.take (freeN l b)).take (freeN l a) := by rw [List.take_take, Nat.min_eq_left hmono]
      rw [e1, List.take_append_drop]
    rw [hcat, slices_Equal_Item_eq _ _ (by simp; omega)]
    simp only [Option.bind_some, decide_true, if_true]
    rw [gate_Begins_eq _ _ (by simp; omega)]
    have hbb : beginsB ((l.take (freeN l b)).map plainI) l = true := by
      unfold beginsB
      have : ((l.take (freeN l b)).map plainI).length = freeN l b := by simp; omega
      rw [this, hp]
      simp; omega
    rw [hbb]; rfl
  unfold crosslaw_GateMore
  by_cases h : a > b
  · rw [if_pos (by simpa using h)]; exact key b a (by omega)
  · rw [if_neg (by simpa using h)]; exact key a b (by omega)
end Go.Proofs.Ytpndpdbabblphaa
