/-
  Values as pure data ('AV'), the relation between them and the model's values and memory, and what is kept of it when memory grows. No program in sight.
-/
import Derived.WalkKit
import Derived.WalkSpells
namespace Go.Proofs.Ytegkmfokfakeiaa
open Go.RowKit
set_option linter.unusedVariables false
set_option linter.unusedSimpArgs false

/-- A value as pure data. 'sl': a slice whose cells nobody writes any more; 'ref', 'ptr', 'aptr': an object of the call's own. -/
inductive AV where
  | any
  | int (k : IntKind) (n : Int)
  | bool (b : Bool)
  | str (s : List UInt8)
  | agg (cs : List AV)
  | tup (vs : List AV)
  | nils
  | sl (rows : List (List AV))
  | ref (id : Nat)
  | ptr (id off : Nat)
  | elt (row : List AV) (off : Nat)
  | aptr (id size i off : Nat)
  | func (f : FuncId) (caps : List AV)
  | nilf
  | nilp
  | nili
  | mpr (id : Nat)
  | ifc (t : TypeId) (a : AV)
  | cst (v : Value)
  | vw (id size lo n : Nat) (cap : Option Nat)
  | ref2 (id : Nat)
  | aptr2 (id i : Nat)
  | iref (id i : Nat)

/-- A cell of an array of slices: its slice is the call's own, or data, or taken out. -/
inductive Cell where
  | own (rows : List (List AV))
  | fz (rows : List (List AV))
  | hole

/-- An object of the call's own: a box (a variable in memory), an array that may be written or grown. -/
inductive Ob where
  | dead
  | box (cs : List AV)
  | arr (e : TypeId) (size : Nat) (rows : List (List AV))
  | mp (ks vs : List AV)
  | arr2 (e e2 : TypeId) (size : Nat) (cells : List Cell)
  | arrU (e : TypeId) (size : Nat) (rows : List (List AV)) (x : Nat)

def Ob.live : Ob → Bool
  | .dead => false
  | _ => true

inductive Rel (σ : List Value) (w : World) (F : Nat → Prop) : AV → Value → Prop
  | any (v : Value) : Rel σ w F .any v
  | int (k : IntKind) (n : Int) : Rel σ w F (.int k n) (.int k n)
  | bool (b : Bool) : Rel σ w F (.bool b) (.bool b)
  | str (s : List UInt8) : Rel σ w F (.str s) (.string ⟨s.toArray⟩)
  | agg (cs : List AV) (vs : List Value) (h : vs.length = cs.length) (h1 : ∀ u, u ∈ vs → u.oneCell' = true) (hc : ∀ (j : Nat) c u, cs[j]? = some c → vs[j]? = some u → Rel σ w F c u) :
      Rel σ w F (.agg cs) (.agg vs.toArray)
  | tup (cs : List AV) (vs : List Value) (h : vs.length = cs.length) (hc : ∀ (j : Nat) c u, cs[j]? = some c → vs[j]? = some u → Rel σ w F c u) :
      Rel σ w F (.tup cs) (.tuple vs.toArray)
  | nils : Rel σ w F .nils (.slice none 0 0)
  | slNil : Rel σ w F (.sl []) (.slice none 0 0)
  | sl (rows : List (List AV)) (size : Nat) (ad : Addr) (c : Nat) (u : Nat → Nat → Value)
      (hF : rows ≠ [] → F ad.block) (hn : rows.length ≤ c) (hm : c ≤ maxLen)
      (hrow : ∀ row, row ∈ rows → row.length = size) (hone : ∀ i j : Nat, i < rows.length → j < size → (u i j).oneCell' = true)
      (hcell : ∀ i j : Nat, i < rows.length → j < size → w.cell? (ad.add (i * size + j)) = some (u i j))
      (hrel : ∀ (i : Nat) row (j : Nat) x, rows[i]? = some row → row[j]? = some x → Rel σ w F x (u i j)) :
      Rel σ w F (.sl rows) (.slice (some ad) rows.length c)
  | ref (id : Nat) (a : Option Addr) (n c : Nat) (h : σ[id]? = some (.slice a n c)) : Rel σ w F (.ref id) (.slice a n c)
  | ptr (id off g : Nat) (h : σ[id]? = some (.pointer (some ⟨g, 0, none⟩))) : Rel σ w F (.ptr id off) (.pointer (some ⟨g, off, none⟩))
  | elt (row : List AV) (off : Nat) (ad : Addr) (u : Nat → Value) (hF : row ≠ [] → F ad.block)
      (hone : ∀ j : Nat, j < row.length → (u j).oneCell' = true)
      (hcell : ∀ j : Nat, j < row.length → w.cell? (ad.add j) = some (u j))
      (hrel : ∀ (j : Nat) x, row[j]? = some x → Rel σ w F x (u j)) : Rel σ w F (.elt row off) (.pointer (some (ad.add off)))
  | aptr (id size i off g n c : Nat) (h : σ[id]? = some (.slice (some ⟨g, 0, none⟩) n c)) : Rel σ w F (.aptr id size i off) (.pointer (some ⟨g, i * size + off, none⟩))
  | func (f : FuncId) (cs : List AV) (vs : List Value) (h : vs.length = cs.length) (hc : ∀ (j : Nat) c u, cs[j]? = some c → vs[j]? = some u → Rel σ w F c u) :
      Rel σ w F (.func f cs) (.func (.func f) #[] vs.toArray)
  | nilf : Rel σ w F .nilf .nilFunc
  | nilp : Rel σ w F .nilp (.pointer none)
  | nili : Rel σ w F .nili .nilIface
  | mpr (id : Nat) (r : Option Nat) (h : σ[id]? = some (.map r)) : Rel σ w F (.mpr id) (.map r)
  | ifc (t : TypeId) (a : AV) (v : Value) (h : Rel σ w F a v) : Rel σ w F (.ifc t a) (.iface t v)
  | cst (v : Value) : Rel σ w F (.cst v) v
  | vw (id size lo n N C : Nat) (cap : Option Nat) (A B : Option Addr) (h : σ[id]? = some (.slice B N C)) (hn : lo + n ≤ C) (hA : 0 < n → ∃ g, B = some ⟨g, 0, none⟩ ∧ A = some ⟨g, lo * size, none⟩) (hc : ∀ k, cap = some k → k + lo = C) (hz : lo = 0 → A = B) :
      Rel σ w F (.vw id size lo n cap) (.slice A n (C - lo))
  | ref2 (id : Nat) (a : Option Addr) (n c : Nat) (vs : Array Value) (h : σ[id]? = some (.tuple vs)) (h0 : vs[0]? = some (.slice a n c)) : Rel σ w F (.ref2 id) (.slice a n c)
  | aptr2 (id i g n c : Nat) (vs : Array Value) (h : σ[id]? = some (.tuple vs)) (h0 : vs[0]? = some (.slice (some ⟨g, 0, none⟩) n c)) : Rel σ w F (.aptr2 id i) (.pointer (some ⟨g, i, none⟩))
  | iref (id i : Nat) (a : Option Addr) (n c : Nat) (vs : Array Value) (h : σ[id]? = some (.tuple vs)) (h0 : vs[i + 1]? = some (.slice a n c)) : Rel σ w F (.iref id i) (.slice a n c)

theorem block_of_add (a : Addr) (n : Nat) : (a.add n).block = a.block := by unfold Addr.add; split <;> rfl
theorem add_of_add (a : Addr) (i j : Nat) : (a.add i).add j = a.add (i + j) := by
  unfold Addr.add
  by_cases hi : i = 0 <;> by_cases hj : j = 0 <;> simp [hi, hj, Nat.add_assoc]

/-- What is kept: what is not written any more is read as before, objects keep their places. -/
theorem Rel.mono {σ σ' : List Value} {w w' : World} {F F' : Nat → Prop} (hσ : ∀ (i : Nat) v, σ[i]? = some v → σ'[i]? = some v) (hF : ∀ b, F b → F' b)
    (hw : ∀ b, F b → w'.heap[b]? = w.heap[b]?) {a : AV} {v : Value} (h : Rel σ w F a v) : Rel σ' w' F' a v := by
  induction h with
  | any v => exact .any v
  | int k n => exact .int k n
  | bool b => exact .bool b
  | str s => exact .str s
  | agg cs vs h h1 _ ih => exact .agg cs vs h h1 ih
  | tup cs vs h _ ih => exact .tup cs vs h ih
  | nils => exact .nils
  | slNil => exact .slNil
  | sl rows size ad c u hFb hn hm hrow hone hcell _ ih =>
    refine .sl rows size ad c u (fun h => hF _ (hFb h)) hn hm hrow hone (fun i j hi hj => ?_) ih
    have hne : rows ≠ [] := by rintro rfl; simp at hi
    rw [World.cell?_of_block (w := w) (by rw [block_of_add]; exact hw _ (hFb hne))]
    exact hcell i j hi hj
  | ref id a n c h => exact .ref id a n c (hσ _ _ h)
  | ptr id off g h => exact .ptr id off g (hσ _ _ h)
  | elt row off ad u hFb hone hcell _ ih =>
    refine .elt row off ad u (fun h => hF _ (hFb h)) hone (fun j hj => ?_) ih
    have hne : row ≠ [] := by rintro rfl; simp at hj
    rw [World.cell?_of_block (w := w) (by rw [block_of_add]; exact hw _ (hFb hne))]
    exact hcell j hj
  | aptr id size i off g n c h => exact .aptr id size i off g n c (hσ _ _ h)
  | func f cs vs h _ ih => exact .func f cs vs h ih
  | nilf => exact .nilf
  | nilp => exact .nilp
  | nili => exact .nili
  | mpr id r h => exact .mpr id r (hσ _ _ h)
  | ifc t a v _ ih => exact .ifc t a v ih
  | cst v => exact .cst v
  | vw id size lo n N C cap A B h hn hA hc hz => exact .vw id size lo n N C cap A B (hσ _ _ h) hn hA hc hz
  | ref2 id a n c vs h h0 => exact .ref2 id a n c vs (hσ _ _ h) h0
  | aptr2 id i g n c vs h h0 => exact .aptr2 id i g n c vs (hσ _ _ h) h0
  | iref id i a n c vs h h0 => exact .iref id i a n c vs (hσ _ _ h) h0

/-- Lists of values. -/
def RelL (σ : List Value) (w : World) (F : Nat → Prop) (as : List AV) (vs : List Value) : Prop :=
  vs.length = as.length ∧ ∀ (j : Nat) a v, as[j]? = some a → vs[j]? = some v → Rel σ w F a v

theorem RelL.mono {σ σ' : List Value} {w w' : World} {F F' : Nat → Prop} (hσ : ∀ (i : Nat) v, σ[i]? = some v → σ'[i]? = some v) (hF : ∀ b, F b → F' b)
    (hw : ∀ b, F b → w'.heap[b]? = w.heap[b]?) {as : List AV} {vs : List Value} (h : RelL σ w F as vs) : RelL σ' w' F' as vs :=
  ⟨h.1, fun j a v ha hv => (h.2 j a v ha hv).mono hσ hF hw⟩

theorem RelL.nil {σ : List Value} {w : World} {F : Nat → Prop} : RelL σ w F [] [] := ⟨rfl, fun j a v h => by simp at h⟩
theorem RelL.cons {σ : List Value} {w : World} {F : Nat → Prop} {a : AV} {v : Value} {as : List AV} {vs : List Value} (h : Rel σ w F a v) (t : RelL σ w F as vs) : RelL σ w F (a :: as) (v :: vs) := by
  refine ⟨by simp [t.1], fun j a' v' ha hv => ?_⟩
  cases j with
  | zero => simp at ha hv; subst ha; subst hv; exact h
  | succ j => simp at ha hv; exact t.2 j a' v' ha hv
theorem RelL.append {σ : List Value} {w : World} {F : Nat → Prop} {as bs : List AV} {vs us : List Value} (h : RelL σ w F as vs) (t : RelL σ w F bs us) : RelL σ w F (as ++ bs) (vs ++ us) := by
  induction as generalizing vs with
  | nil => have : vs = [] := List.eq_nil_of_length_eq_zero h.1; subst this; simpa using t
  | cons a as ih =>
    match vs, h with
    | [], h => exact absurd h.1 (by simp)
    | v :: vs, h =>
      have h1 : Rel σ w F a v := h.2 0 a v rfl rfl
      have h2 : RelL σ w F as vs := ⟨by simpa using h.1, fun j a v ha hv => h.2 (j + 1) a v (by simpa using ha) (by simpa using hv)⟩
      exact .cons h1 (ih h2)
theorem RelL.get {σ : List Value} {w : World} {F : Nat → Prop} {as : List AV} {vs : List Value} (h : RelL σ w F as vs) {j : Nat} {a : AV} (ha : as[j]? = some a) : ∃ v, vs[j]? = some v ∧ Rel σ w F a v := by
  have hj : j < vs.length := by rw [h.1]; exact (List.getElem?_eq_some_iff.1 ha).1
  exact ⟨vs[j], List.getElem?_eq_getElem hj, h.2 j a _ ha (List.getElem?_eq_getElem hj)⟩
theorem RelL.set {σ : List Value} {w : World} {F : Nat → Prop} {as : List AV} {vs : List Value} (h : RelL σ w F as vs) (d : Nat) {a : AV} {v : Value} (hr : Rel σ w F a v) : RelL σ w F (as.set d a) (vs.set d v) := by
  refine ⟨by simp [h.1], fun j a' v' ha hv => ?_⟩
  rw [List.getElem?_set] at ha hv
  by_cases hdj : d = j
  · subst hdj
    rw [if_pos rfl] at ha hv
    split at ha
    · split at hv
      · simp at ha hv; subst ha; subst hv; exact hr
      · simp at hv
    · simp at ha
  · rw [if_neg hdj] at ha hv
    exact h.2 j a' v' ha hv
theorem RelL.sub {σ : List Value} {w : World} {F : Nat → Prop} {as : List AV} {vs : List Value} (h : RelL σ w F as vs) (n m : Nat) : RelL σ w F ((as.drop n).take m) ((vs.drop n).take m) := by
  refine ⟨by simp [h.1], fun j a v ha hv => ?_⟩
  rw [List.getElem?_take] at ha hv
  split at ha
  · rename_i hlt
    rw [if_pos hlt] at hv
    rw [List.getElem?_drop] at ha hv
    exact h.2 _ a v ha hv
  · simp at ha

/-- What an operand that is written out says. -/
def AV.ofVal1 : Value → AV
  | .bool b => .bool b
  | .int k n => .int k n
  | .string s => .str s.data.toList
  | .slice none 0 0 => .nils
  | .nilFunc => .nilf
  | .nilIface => .nili
  | .pointer none => .nilp
  | _ => .any
def AV.ofVal : Value → AV
  | .agg cs => if cs.toList.all (·.oneCell') then .agg (cs.toList.map AV.ofVal1) else .any
  | v => AV.ofVal1 v
theorem Rel.ofVal1 (σ : List Value) (w : World) (F : Nat → Prop) (v : Value) : Rel σ w F (AV.ofVal1 v) v := by
  unfold AV.ofVal1
  split
  · exact .bool _
  · exact .int _ _
  · rename_i s; simpa using Rel.str (σ := σ) (w := w) (F := F) s.data.toList
  · exact .nils
  · exact .nilf
  · exact .nili
  · exact .nilp
  · exact .any _
theorem Rel.ofVal (σ : List Value) (w : World) (F : Nat → Prop) (v : Value) : Rel σ w F (AV.ofVal v) v := by
  unfold AV.ofVal
  split
  · rename_i cs
    split
    · rename_i h1
      have h := Rel.agg (σ := σ) (w := w) (F := F) (cs.toList.map AV.ofVal1) cs.toList (by simp) (fun u hu => List.all_eq_true.1 h1 u hu) (fun j c u hc hu => by
        rw [List.getElem?_map] at hc
        rw [hu] at hc
        simp at hc
        subst hc
        exact Rel.ofVal1 σ w F u)
      simpa using h
    · exact .any _
  · exact Rel.ofVal1 σ w F v

def ev (fr : List AV) : Operand → AV
  | .tmp t => fr.getD t .any
  | .const v => AV.ofVal v
  | .global _ => .any
  | .func f => .func f []

def ARel (σ : List Value) (w : World) (F : Nat → Prop) (fr : List AV) (a : Act) : Prop := RelL σ w F fr a.tmps.toList ∧ a.defers = []

theorem ARel.ev {σ : List Value} {w : World} {F : Nat → Prop} {fr : List AV} {a : Act} (h : ARel σ w F fr a) (x : Operand) : Rel σ w F (ev fr x) (a.eval x) := by
  cases x with
  | tmp t =>
    show Rel σ w F (fr.getD t .any) (a.tmps.getD t undef)
    rw [List.getD_eq_getElem?_getD]
    cases hf : fr[t]? with
    | none => exact .any _
    | some c =>
      obtain ⟨v, hv, hr⟩ := h.1.get hf
      have hv' : a.tmps[t]? = some v := by simpa using hv
      simp [hv']
      exact hr
  | const v => exact Rel.ofVal σ w F v
  | global g => exact .any _
  | func f => exact .func f [] [] rfl (fun j c u hc => by simp at hc)
theorem ARel.put {σ : List Value} {w : World} {F : Nat → Prop} {fr : List AV} {a : Act} (h : ARel σ w F fr a) {r : AV} {v : Value} (hr : Rel σ w F r v) (d : Option Tmp) :
    ARel σ w F (match d with | some t => fr.set t r | none => fr) (a.put d v) := by
  cases d with
  | none => exact h
  | some t => exact ⟨by simpa [Act.put] using h.1.set t hr, h.2⟩

end Go.Proofs.Ytegkmfokfakeiaa
