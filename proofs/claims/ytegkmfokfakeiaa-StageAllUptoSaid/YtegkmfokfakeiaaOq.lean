/-
  Short names for the printed proofs. For every program.
-/
import Derived.Test.YtegkmfokfakeiaaOi
namespace Go.Proofs.Ytegkmfokfakeiaa
open Go.RowKit
set_option linter.unusedVariables false
set_option linter.unusedSimpArgs false

section
variable {P : Program} {N n : Nat} {aw aw' : List Ob} {l : List (Nat × AV)} {ops : Array Oper} {os : List Oper} {K : List AV → List Ob → Prop} {o : Oper} {d : Option Tmp} {x : Operand} {ty : TypeId} {ps : String} {af : Array Edge}
theorem sm (v : AV) (hx : evA n l x = v) (h : RS P N ops os K (mkA n (putA l d v)) aw) : RS P N ops (⟨d, .move x, ty, ps, af, none⟩ :: os) K (mkA n l) aw := RS.op rfl (OP.q rfl (v_move hx h))
theorem sa (v : AV) (hx : evA n l x = v) (h : RS P N ops os K (mkA n (putA l d v)) aw) : RS P N ops (⟨d, .assign x, ty, ps, af, none⟩ :: os) K (mkA n l) aw := RS.op rfl (OP.q rfl (v_assign hx h))
theorem sq (h : vcQ P (mkA n l) aw o.op fun r => RS P N ops os K (mkA n (putA l o.dst r)) aw) (hg : o.guard = none := by rfl) (hq : alwaysQ o.op = true := by rfl) : RS P N ops (o :: os) K (mkA n l) aw := RS.op hg (OP.q hq h)
theorem so (h : OP P N o (mkA n l) aw fun r aw' => RS P N ops os K (mkA n (putA l o.dst r)) aw') (hg : o.guard = none := by rfl) : RS P N ops (o :: os) K (mkA n l) aw := RS.op hg h
theorem yq {j t : Nat} {want b : Bool} (hbw : b = want) (h : vcQ P (mkA n l) aw o.op fun r => RS P N ops os K (mkA n (putA l o.dst r)) aw) (hg : o.guard = some (j, want) := by rfl) (ht : (ops[j]?).bind (·.dst) = some t := by rfl) (hb : evA n l (.tmp t) = .bool b := by rfl) (hq : alwaysQ o.op = true := by rfl) :
    RS P N ops (o :: os) K (mkA n l) aw := RS.yes hg ht hb hbw (OP.q hq h)
theorem yo {j t : Nat} {want b : Bool} (hbw : b = want) (h : OP P N o (mkA n l) aw fun r aw' => RS P N ops os K (mkA n (putA l o.dst r)) aw') (hg : o.guard = some (j, want) := by rfl) (ht : (ops[j]?).bind (·.dst) = some t := by rfl) (hb : evA n l (.tmp t) = .bool b := by rfl) :
    RS P N ops (o :: os) K (mkA n l) aw := RS.yes hg ht hb hbw h
theorem sn {j t : Nat} {want b : Bool} (hbw : b = !want) (h : RS P N ops os K (mkA n (putA l o.dst (.tup []))) aw) (hg : o.guard = some (j, want) := by rfl) (ht : (ops[j]?).bind (·.dst) = some t := by rfl) (hb : evA n l (.tmp t) = .bool b := by rfl) :
    RS P N ops (o :: os) K (mkA n l) aw := RS.no hg ht hb hbw h
theorem su {j t : Nat} {want : Bool} (h : RS P N ops os K (mkA n (putA l o.dst (.tup []))) aw) (hg : o.guard = some (j, want) := by rfl) (ht : (ops[j]?).bind (·.dst) = some t := by rfl) (hb : evA n l (.tmp t) = .tup [] := by rfl) :
    RS P N ops (o :: os) K (mkA n l) aw := RS.nou hg ht hb h
/-- Slots may be forgotten. -/
def SubA : List (Nat × AV) → List (Nat × AV) → Prop
  | [], _ => True
  | (s, v) :: r, l => lkA l s = v ∧ SubA r l
theorem subA_lk : ∀ {l' l : List (Nat × AV)}, SubA l' l → ∀ t, lkA l' t = .any ∨ lkA l' t = lkA l t
  | [], l, _, t => .inl rfl
  | (s, v) :: r, l, h, t => by
    rw [lkA_cons]
    by_cases e : s = t
    · subst e; rw [if_pos rfl]; exact .inr h.1.symm
    · rw [if_neg e]; exact subA_lk h.2 t
theorem cur_sub {l' : List (Nat × AV)} {st : St} {σ : List Value} {w : World} {F : Nat → Prop} {a : Act} (h : SubA l' l) (hc : Cur st (mkA n l) aw σ w F a) : Cur st (mkA n l') aw σ w F a := by
  refine ⟨hc.sim, ⟨⟨?_, fun j x v hx hv => ?_⟩, hc.fr.2⟩, hc.mv⟩
  · have := hc.fr.1.1
    rw [len_mkA] at this ⊢
    exact this
  · rw [get_mkA] at hx
    split at hx
    · rename_i hj
      cases hx
      rcases subA_lk h j with e | e
      · rw [e]; exact .any _
      · rw [e]; exact hc.fr.1.2 j _ v (by rw [get_mkA, if_pos hj]) hv
    · cases hx
theorem RA.sub {l' : List (Nat × AV)} {k : Nat} {li : Array Bool} (h : RA P N ops k li K (mkA n l') aw) (hs : SubA l' l) : RA P N ops k li K (mkA n l) aw := ⟨fun st h1 h2 σ w F a hc => h.out st h1 h2 σ w F a (cur_sub hs hc)⟩
theorem T.sub {l' : List (Nat × AV)} {c : Code} {Q : Exit → List AV → List Ob → Prop} (h : T P N c Q (mkA n l') aw) (hs : SubA l' l) : T P N c Q (mkA n l) aw := ⟨fun st h1 h2 σ w F a hc => h.out st h1 h2 σ w F a (cur_sub hs hc)⟩
/-- What simp knows of truth values. -/
theorem bz : (∀ b, (true || b) = true) ∧ (∀ b, (b || true) = true) ∧ (∀ b, (false || b) = b) ∧ (∀ b, (b || false) = b) ∧ (∀ b, (true && b) = b) ∧ (∀ b, (b && true) = b) ∧ (∀ b, (false && b) = false) ∧ (∀ b, (b && false) = false) ∧ (!true) = false ∧ (!false) = true := by
  refine ⟨?_, ?_, ?_, ?_, ?_, ?_, ?_, ?_, rfl, rfl⟩ <;> intro b <;> cases b <;> rfl
theorem it {α : Type} (a b : α) : (if true = true then a else b) = a := rfl
theorem jf {α : Type} (a b : α) : (if false = true then a else b) = b := rfl
/-- A body's answer, handed on through what lies around. -/
class RetI (Q : Exit → List AV → List Ob → Prop) (R : outParam (List AV → List Ob → Prop)) : Prop where
  out : ∀ fr aw, R fr aw → Q .ret fr aw
instance {fn : Func} {M : Nat} {Q : AV → List Ob → Prop} : RetI (retQ P fn M Q) (fun fr aw => vcRes P fr aw fn.results.toList (Ret M Q aw)) := ⟨fun _ _ h => h⟩
instance {K : List AV → List Ob → Prop} {Q : Exit → List AV → List Ob → Prop} {R : List AV → List Ob → Prop} [h : RetI Q R] : RetI (thenA K Q) R := ⟨h.out⟩
instance {id : Nat} {Q : Exit → List AV → List Ob → Prop} {R : List AV → List Ob → Prop} [h : RetI Q R] : RetI (inBlockA id Q) R := ⟨h.out⟩
instance {α β : Type} {M : Nat} {v : α ⊕ β} {F : α → List AV} {A : α → List Ob} {Q : Exit → List AV → List Ob → Prop} {R : List AV → List Ob → Prop} [h : RetI Q R] : RetI (LQ M v F A Q) R := ⟨h.out⟩
theorem T.rt {Q : Exit → List AV → List Ob → Prop} {R : List AV → List Ob → Prop} {fr : List AV} [hq : RetI Q R] (h : R fr aw) : T P N .ret Q fr aw := T.ret (hq.out fr aw h)
/-- Cells that name no place. -/
class PureC (a : AV) : Prop where
  out : Pure a
class EnP {α : Type} (en : α → List AV) : Prop where
  out : ∀ a x, x ∈ en a → Pure x
instance {k : IntKind} {i : Int} : PureC (.int k i) := ⟨pure_int _ _⟩
instance {b : Bool} : PureC (.bool b) := ⟨pure_bool _⟩
instance {s : List UInt8} : PureC (.str s) := ⟨pure_str _⟩
instance : PureC .nils := ⟨pure_nils⟩
instance : PureC .nilf := ⟨pure_nilf⟩
instance {α : Type} {en : α → List AV} {xs : List α} [h : EnP en] : PureC (.sl (xs.map en)) := ⟨pure_map h.out _⟩
class PureCs (cs : List AV) : Prop where
  out : ∀ a, a ∈ cs → Pure a
instance : PureCs [] := ⟨fun a h => by cases h⟩
instance {a : AV} {cs : List AV} [h : PureC a] [t : PureCs cs] : PureCs (a :: cs) := ⟨fun b hb => by cases hb with | head => exact h.out | tail _ hb => exact t.out b hb⟩
instance {cs : List AV} [h : PureCs cs] : PureC (.agg cs) := ⟨pure_agg _ h.out⟩
instance {cs : List AV} [h : PureCs cs] : PureC (.tup cs) := ⟨pure_tup _ h.out⟩
/-- A box that stays as it is. -/
theorem rw_bs {ρ ids : List Nat} {id : Nat} (cs : List AV) [h : PureCs cs] (ho : aw[id]? = some (.box cs)) (t : RenW ρ aw ids aw') : RenW ρ aw (id :: ids) (.box cs :: aw') := rw_box ho (renL_same h.out) t
theorem rw_ar {α : Type} {en : α → List AV} {xs ys : List α} {ρ ids : List Nat} {id e s : Nat} [h : EnP en] (ho : aw[id]? = some (.arr e s (ys.map en))) (hx : xs = ys) (t : RenW ρ aw ids aw') : RenW ρ aw (id :: ids) (.arr e s (xs.map en) :: aw') := rw_arr ho h.out hx t
theorem rn_s {α : Type} {en : α → List AV} {xs ys : List α} {ρ : List Nat} [hp : EnP en] (h : xs = ys) : Ren ρ (.sl (xs.map en)) (.sl (ys.map en)) := rn_sl hp.out h
end
end Go.Proofs.Ytegkmfokfakeiaa
