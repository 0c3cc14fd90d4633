/-
  Plain lemmas on the words of code: loops over lists, numbers that don't wrap. No memory, no program in sight.
-/
import Derived.Test.YtegkmfokfakeiaaData
import Derived.IntWalk
namespace Go.Proofs.Ytegkmfokfakeiaa
set_option linter.unusedVariables false
set_option linter.unusedSimpArgs false

/- what is known of data that comes in; its bulk -/
def gI (n : Int) : Prop := -9223372036854775808 ≤ n ∧ n ≤ 9223372036854775807
def gL {α : Type} (g : α → Prop) (l : List α) : Prop := ∀ a, a ∈ l → g a
def gB (b : Bool) : Prop := True
def gS (s : List UInt8) : Prop := True
def gItem (a : Item) : Prop := gI a.Key ∧ gI a.Val ∧ gI a.Dep
def gNode (a : Node) : Prop := gI a.Kind ∧ gI a.A ∧ gL gI a.In ∧ gL gI a.Out
def gNet (a : Net) : Prop := gL gNode a.Nodes ∧ gI a.Rings ∧ gI a.Room
def gKeyed (a : Keyed) : Prop := gI a.Key ∧ gI a.N
def gMemory (a : Memory) : Prop := gI a.Sum ∧ gL gKeyed a.Keys ∧ gI a.Dep
def gChoice (a : Choice) : Prop := gI a.Node ∧ gI a.Lane
def gState (a : State) : Prop := gL gI a.At ∧ gL (gL gItem) a.Rings ∧ gL gMemory a.Memory ∧ gL gChoice a.Choices ∧ gL gItem a.Out
def gMove (a : Move) : Prop := gI a.Node ∧ gI a.Lane
def gWrite (a : Write) : Prop := gI a.At ∧ gS a.Bytes
def gDisk (a : Disk) : Prop := gL gS a.Sectors ∧ gL gWrite a.Wait
def gShop (a : Shop) : Prop := gNet a.N ∧ gL (gL gItem) a.Items ∧ gState a.S ∧ gDisk a.D ∧ gI a.Logged ∧ gI a.Safe ∧ gI a.Epoch ∧ gI a.Laid ∧ gI a.Next ∧ gL gItem a.Told ∧ gB a.Down
def gHappening (a : Happening) : Prop := gI a.Kind ∧ gI a.N
def mI (n : Int) : Nat := 1
def mB (b : Bool) : Nat := 1
def mS (s : List UInt8) : Nat := s.length + 1
def mL {α : Type} (m : α → Nat) (l : List α) : Nat := (l.map m).sum + 1
def mItem (a : Item) : Nat := 3
def mNode (a : Node) : Nat := mL mI a.In + mL mI a.Out + 2
def mNet (a : Net) : Nat := mL mNode a.Nodes + 2
def mKeyed (a : Keyed) : Nat := 2
def mMemory (a : Memory) : Nat := mL mKeyed a.Keys + 2
def mChoice (a : Choice) : Nat := 2
def mState (a : State) : Nat := mL mI a.At + mL (mL mItem) a.Rings + mL mMemory a.Memory + mL mChoice a.Choices + mL mItem a.Out
def mMove (a : Move) : Nat := 2
def mWrite (a : Write) : Nat := mS a.Bytes + 1
def mDisk (a : Disk) : Nat := mL mS a.Sectors + mL mWrite a.Wait
def mShop (a : Shop) : Nat := mNet a.N + mL (mL mItem) a.Items + mState a.S + mDisk a.D + mL mItem a.Told
def mHappening (a : Happening) : Nat := 2
theorem len_le {α : Type} {m : α → Nat} (h : ∀ a, 1 ≤ m a) : ∀ l : List α, l.length ≤ mL m l
  | [] => by simp [mL]
  | a :: l => by
    have := len_le h l
    have := h a
    simp [mL] at *; omega
theorem sum_le {α : Type} {m : α → Nat} : ∀ {l : List α} {a : α}, a ∈ l → m a ≤ mL m l
  | b :: l, a, h => by
    rcases List.mem_cons.1 h with rfl | h
    · simp [mL]; omega
    · have := sum_le (m := m) h
      simp [mL] at *; omega
theorem mL_sub {α : Type} {m : α → Nat} (l : List α) (a : α) : mL m (a :: l) = m a + mL m l := by simp [mL]; omega

/- numbers -/
theorem wrap_ok {n : Int} (h0 : -9223372036854775808 ≤ n) (h1 : n ≤ 9223372036854775807) : IntKind.i64.wrap n = n := IntWalk.i64_in n ⟨h0, h1⟩
theorem wrap_1 {k : Nat} (h : k < 4611686018427387904) : IntKind.i64.wrap ((k : Int) + 1) = ((k + 1 : Nat) : Int) := by rw [wrap_ok (by omega) (by omega)]; rfl
theorem idx_at {α : Type} {xs : List α} {k : Nat} {x : α} (h : xs[k]? = some x) : idx xs (k : Int) = some x := by
  unfold idx; rw [if_pos (by omega)]; simpa using h
theorem ixN_at {α : Type} {xs : List α} {k : Nat} (h : k < xs.length) : ixN xs (k : Int) = some k := by
  unfold ixN; rw [if_pos (by omega)]; simp
theorem app_ok {α : Type} {xs ys : List α} (h : xs.length + ys.length ≤ 1099511627776) : app xs ys = some (xs ++ ys) := by unfold app; rw [if_pos h]
theorem cat_ok {xs ys : List UInt8} (h : xs.length + ys.length ≤ 4611686018427387904) : cat xs ys = some (xs ++ ys) := by unfold cat; rw [if_pos h]
theorem sub_ok {α : Type} {xs : List α} {i j : Nat} (h : i ≤ j) (h2 : j ≤ xs.length) : sub xs (i : Int) (j : Int) = some ((xs.take j).drop i) := by
  unfold sub; rw [if_pos (by omega)]; simp
theorem sub_0 {α : Type} {xs : List α} {j : Nat} (h2 : j ≤ xs.length) : sub xs 0 (j : Int) = some (xs.take j) := by
  have := sub_ok (xs := xs) (i := 0) (j := j) (by omega) h2
  simpa using this
theorem sub_end {α : Type} {xs : List α} {i : Nat} (h2 : i ≤ xs.length) : sub xs (i : Int) (xs.length : Int) = some (xs.drop i) := by
  have := sub_ok (xs := xs) (i := i) (j := xs.length) h2 (Nat.le_refl _)
  simpa using this

/- loops -/
/-- A loop that goes over a list. -/
def foldE {α σ ρ : Type} (f : Nat → α → σ → Option (σ ⊕ ρ)) (fin : σ → Option ρ) : Nat → List α → σ → Option ρ
  | _, [], st => fin st
  | k, x :: xs, st => match f k x st with
    | none => none
    | some (.inl st') => foldE f fin (k + 1) xs st'
    | some (.inr r) => some r
theorem iter_list {α σ ρ τ : Type} (xs : List α) (hx : xs.length ≤ 1099511627776) (e : Nat → σ → τ) {body : τ → Option (τ ⊕ ρ)} (f : Nat → α → σ → Option (σ ⊕ ρ)) (fin : σ → Option ρ)
    (h1 : ∀ (k : Nat) x st, xs[k]? = some x → k < xs.length → idx xs (k : Int) = some x → decide ((k : Int) < (xs.length : Int)) = true → IntKind.i64.wrap ((k : Int) + 1) = ((k + 1 : Nat) : Int) →
      body (e k st) = match f k x st with
        | none => none
        | some (.inl st') => some (.inl (e (k + 1) st'))
        | some (.inr r) => some (.inr r))
    (h2 : ∀ st, decide ((xs.length : Int) < (xs.length : Int)) = false → body (e xs.length st) = (fin st).map .inr) :
    ∀ (n k : Nat) st, k + n = xs.length → iter body (e k st) = foldE f fin k (xs.drop k) st
  | 0, k, st, h => by
    have hk : k = xs.length := by omega
    subst hk
    rw [iter_eq, h2 st (by simp), List.drop_length]
    unfold foldE
    cases fin st <;> rfl
  | n + 1, k, st, h => by
    have hlt : k < xs.length := by omega
    have hg : xs[k]? = some xs[k] := List.getElem?_eq_getElem hlt
    rw [iter_eq, h1 k xs[k] st hg hlt (idx_at hg) (by simp; omega) (wrap_1 (by omega)), List.drop_eq_getElem_cons hlt]
    unfold foldE
    cases f k xs[k] st with
    | none => rfl
    | some v =>
      cases v with
      | inl st' => exact iter_list xs hx e f fin h1 h2 n (k + 1) st' (by omega)
      | inr r => rfl
theorem iter_list0 {α σ ρ τ : Type} (xs : List α) (hx : xs.length ≤ 1099511627776) (e : Nat → σ → τ) {body : τ → Option (τ ⊕ ρ)} (f : Nat → α → σ → Option (σ ⊕ ρ)) (fin : σ → Option ρ) (st : σ)
    (h1 : ∀ (k : Nat) x st, xs[k]? = some x → k < xs.length → idx xs (k : Int) = some x → decide ((k : Int) < (xs.length : Int)) = true → IntKind.i64.wrap ((k : Int) + 1) = ((k + 1 : Nat) : Int) →
      body (e k st) = match f k x st with
        | none => none
        | some (.inl st') => some (.inl (e (k + 1) st'))
        | some (.inr r) => some (.inr r))
    (h2 : ∀ st, decide ((xs.length : Int) < (xs.length : Int)) = false → body (e xs.length st) = (fin st).map .inr) : iter body (e 0 st) = foldE f fin 0 xs st := by
  have := iter_list xs hx e f fin h1 h2 xs.length 0 st (by omega)
  simpa using this
/-- A loop by what holds at its head and a number that falls. -/
theorem iter_inv {α β : Type} {body : α → Option (α ⊕ β)} (I : α → Prop) (μ : α → Nat) (R : β → Prop) (h : ∀ s, I s → (∃ s', body s = some (.inl s') ∧ I s' ∧ μ s' < μ s) ∨ ∃ r, body s = some (.inr r) ∧ R r) : ∀ (n : Nat) s, μ s ≤ n → I s → ∃ r, iter body s = some r ∧ R r
  | n, s, hn, hs => by
    rcases h s hs with ⟨s', h1, h2, h3⟩ | ⟨r, h1, h2⟩
    · match n, hn with
      | 0, hn => omega
      | n + 1, hn =>
        obtain ⟨r, h4, h5⟩ := iter_inv I μ R h n s' (by omega) h2
        exact ⟨r, by rw [iter_eq, h1]; exact h4, h5⟩
    · exact ⟨r, by rw [iter_eq, h1], h2⟩
theorem foldE_all {α σ ρ : Type} {f : Nat → α → σ → Option (σ ⊕ ρ)} {fin : σ → Option ρ} {g : Nat → α → σ → σ} (hf : ∀ k x st, f k x st = some (.inl (g k x st))) : ∀ (xs : List α) (k : Nat) (st : σ), ∃ st', foldE f fin k xs st = fin st'
  | [], k, st => ⟨st, rfl⟩
  | x :: xs, k, st => by
    unfold foldE; rw [hf]
    exact foldE_all hf xs (k + 1) _

/-- slices.Equal. -/
theorem equal_loop {α : Type} [DecidableEq α] (a b : List α) (ha : a.length ≤ 1099511627776) (hl : a.length = b.length) {body : Int → Option (Int ⊕ Bool)}
    (h1 : ∀ (k : Nat) x y, decide ((k : Int) < (a.length : Int)) = true → idx a (k : Int) = some x → idx b (k : Int) = some y → IntKind.i64.wrap ((k : Int) + 1) = ((k + 1 : Nat) : Int) → body k = if x = y then some (.inl ((k + 1 : Nat) : Int)) else some (.inr false))
    (h2 : decide ((a.length : Int) < (a.length : Int)) = false → body a.length = some (.inr true)) : iter body 0 = some (decide (a = b)) := by
  have key : ∀ (n k : Nat), k + n = a.length → iter body k = some (decide (a.drop k = b.drop k)) := by
    intro n
    induction n with
    | zero =>
      intro k hk
      have hk : k = a.length := by omega
      subst hk
      rw [iter_eq, h2 (by simp), List.drop_length, List.drop_of_length_le (by omega)]
      simp
    | succ n ih =>
      intro k hk
      have hlt : k < a.length := by omega
      have hlt2 : k < b.length := by omega
      have hd : (a.drop k = b.drop k) ↔ (a[k] = b[k] ∧ a.drop (k + 1) = b.drop (k + 1)) := by
        have ea := List.drop_eq_getElem_cons hlt
        have eb := List.drop_eq_getElem_cons hlt2
        constructor
        · intro h; rw [ea, eb] at h; exact List.cons.inj h
        · rintro ⟨h1, h2⟩; rw [ea, eb, h1, h2]
      rw [iter_eq, h1 k a[k] b[k] (by simp; omega) (idx_at (List.getElem?_eq_getElem hlt)) (idx_at (List.getElem?_eq_getElem hlt2)) (wrap_1 (by omega))]
      by_cases hxy : a[k] = b[k]
      · rw [if_pos hxy]
        simp only
        rw [ih (k + 1) (by omega)]
        simp [hd, hxy]
      · rw [if_neg hxy]
        simp [hd, hxy]
  have := key a.length 0 (by omega)
  simpa using this
end Go.Proofs.Ytegkmfokfakeiaa
