/-
  The conditions of a body of code on pure data ('vc'), and that they suffice ('vc_sound'). For every program.
-/
import Derived.Test.YtegkmfokfakeiaaOkG
import Derived.Deep.LoopGhost
namespace Go.Proofs.Ytegkmfokfakeiaa
open Go.RowKit
set_option linter.unusedVariables false
set_option linter.unusedSimpArgs false

/-- A call, said of pure data. -/
def ACalls (P : Program) (f : FuncId) (args : List AV) (aw : List Ob) (Q : AV → List Ob → Prop) : Prop :=
  (∀ vs w, (callFunc f vs).run P w = .ok (.enter f vs) w) ∧
  ∀ w F σ vs, Sim aw σ w F → RelL σ w F args vs → Calls P f vs.toArray w fun e w' => ∃ v r aw' σ' F', e = .returned v ∧ Q r aw' ∧ Sim aw' σ' w' F' ∧ Rel σ' w' F' r v ∧ Mv aw σ w F aw' σ' w' F'

theorem ACalls.mono {P : Program} {f : FuncId} {args : List AV} {aw : List Ob} {Q Q' : AV → List Ob → Prop} (h : ACalls P f args aw Q) (hq : ∀ r aw', Q r aw' → Q' r aw') : ACalls P f args aw Q' :=
  ⟨h.1, fun w F σ vs hs ha => (h.2 w F σ vs hs ha).mono fun _ _ ⟨v, r, aw', σ', F', he, hQ, rest⟩ => ⟨v, r, aw', σ', F', he, hq _ _ hQ, rest⟩⟩

/-- Data that names no object. -/
def Pure (a : AV) : Prop := ∀ σ w F v, Rel σ w F a v → ∀ σ', Rel σ' w F a v

/-- A cell that names no place. -/
def flat0 : AV → Bool
  | .int _ _ | .bool _ | .str _ | .nils | .nilp | .nilf | .nili => true
  | _ => false
def flat1 : AV → Bool
  | .agg cs => cs.all flat0
  | a => flat0 a
def flat : AV → Bool
  | .tup vs => vs.all flat1
  | a => flat1 a

/-- What a callee's new objects are called at its caller. -/
def AV.shift (n : Nat) : AV → AV
  | .ref k => .ref (n + k)
  | .tup vs => .tup (vs.map fun | .ref k => .ref (n + k) | a => a)
  | a => a


/-- What a callee hands back, its new arrays apart. -/
def flatR : AV → Bool
  | .tup vs => vs.all fun | .ref _ => true | a => flat1 a
  | .ref _ => true
  | a => flat1 a
def flatOb : Ob → Bool
  | .arr _ _ rows => rows.all fun row => row.all flat0
  | _ => false

/-- The call in its caller: four ways. 'aw': the objects as they were, 'aw1': what was handed over is data. -/
def CallK (P : Program) (f : FuncId) (args : List AV) (aw aw1 : List Ob) (K : AV → List Ob → Prop) : Prop :=
  (∃ Q, ACalls P f args aw1 Q ∧ ∀ r aw', Q r aw' → K r aw') ∨
  (∃ Q, ACalls P f args [] Q ∧ (∀ a, a ∈ args → Pure a) ∧ ∀ r aw', Q r aw' → (flat r = true ∧ K r aw) ∨ (aw' = [] ∧ Pure r ∧ K r aw1) ∨
    (∃ e s rows, aw' = [.arr e s rows] ∧ (∀ row, row ∈ rows → ∀ x, x ∈ row → Pure x) ∧ ((∃ k, r = .ref k) ∨ ∃ vs, r = .tup vs ∧ ∀ x, x ∈ vs → Pure x ∨ ∃ k, x = .ref k) ∧ K (r.shift aw1.length) (aw1 ++ aw')) ∨
    (flatR r = true ∧ aw'.all flatOb = true ∧ K (r.shift aw.length) (aw ++ aw')))

def vcOper (P : Program) (o : Oper) (fr : List AV) (aw : List Ob) (K : AV → List Ob → Prop) : Prop :=
  match o.op with
  | .call { callee := .value f, args, .. } =>
    (match ev fr f with
    | .func g caps => CallK P g ((normL aw (args.toList.map (ev fr))).1 ++ caps) aw (normL aw (args.toList.map (ev fr))).2 K
    | _ => False)
  | op => vcVal P fr aw op K

def putF (fr : List AV) (d : Option Tmp) (r : AV) : List AV := match d with | some t => fr.set t r | none => fr

/-- What follows an operation. -/
def contOp (rest : List AV → List Ob → Prop) (fr : List AV) (dst : Option Tmp) (r : AV) (aw : List Ob) : Prop := rest (putF fr dst r) aw

def vcOps (P : Program) (ops : Array Oper) : List Oper → (List AV → List Ob → Prop) → List AV → List Ob → Prop
  | [], K, fr, aw => K fr aw
  | o :: rest, K, fr, aw =>
    match o.guard with
    | none => vcOper P o fr aw (contOp (vcOps P ops rest K) fr o.dst)
    | some (j, want) =>
      match (ops[j]?).bind (·.dst) with
      | none => False
      | some t => match fr[t]? with
        | some (.bool b) => if b = want then vcOper P o (fr.set t (.bool want)) aw (contOp (vcOps P ops rest K) (fr.set t (.bool want)) o.dst)
            else vcOps P ops rest K (putF (fr.set t (.bool !want)) o.dst .any) aw
        | _ => False

/-- What is known of an object or a value may be forgotten; objects may be named anew ('ρ': their old names). -/
def Ren (ρ : List Nat) (a' a : AV) : Prop := ∀ σ w F v, Rel σ w F a v → ∀ σ', (∀ (k id : Nat), ρ[k]? = some id → σ'[k]? = σ[id]?) → Rel σ' w F a' v
def RenL (ρ : List Nat) : List AV → List AV → Prop
  | [], [] => True
  | a' :: as', a :: as => Ren ρ a' a ∧ RenL ρ as' as
  | _, _ => False
def RenO (ρ : List Nat) : Ob → Ob → Prop
  | .dead, _ => True
  | .box cs', .box cs => RenL ρ cs' cs
  | .arr e' s' rows', .arr e s rows => e' = e ∧ s' = s ∧ rows' = rows ∧ ∀ row, row ∈ rows → ∀ x, x ∈ row → Ren ρ x x
  | .mp ks' vs', .mp ks vs => RenL ρ ks' ks ∧ RenL ρ vs' vs
  | .arr2 e' e2' s' cells', .arr2 e e2 s cells => e' = e ∧ e2' = e2 ∧ s' = s ∧ cells' = cells ∧ ∀ rows, (Cell.own rows ∈ cells ∨ Cell.fz rows ∈ cells) → ∀ row, row ∈ rows → ∀ x, x ∈ row → Pure x
  | _, _ => False
def RenW (ρ : List Nat) (aw : List Ob) : List Nat → List Ob → Prop
  | [], [] => True
  | id :: ids, o' :: aw' => (∃ o, aw[id]? = some o ∧ RenO ρ o' o) ∧ RenW ρ aw ids aw'
  | _, _ => False
/-- A nil slice may be taken for a new array of the call's own that has no element yet. 'nl': where, its elements' type, how many cells these have. -/
def nilify : List (Nat × TypeId × Nat) → List AV → List Ob → List AV × List Ob
  | [], fr, aw => (fr, aw)
  | (s, e, z) :: r, fr, aw =>
    match fr[s]? with
    | some .nils => nilify r (fr.set s (.ref aw.length)) (aw ++ [.arr e z []])
    | _ => nilify r fr aw
/-- 'n': so many objects keep their names. -/
def Weak (n : Nat) (fr : List AV) (aw : List Ob) (fr' : List AV) (aw' : List Ob) : Prop :=
  ∃ (nl : List (Nat × TypeId × Nat)) (ρ : List Nat), ρ.Nodup ∧ (∀ k, k < n → ρ[k]? = some k) ∧ RenL ρ fr' (nilify nl fr aw).1 ∧ RenW ρ (nilify nl fr aw).2 ρ aw'

/-- A loop: what holds at each round's head, by a number that falls. -/
def loopQ (n : Nat) (I : Nat → List AV → List Ob → Prop) (m : Nat) (Q : Exit → List AV → List Ob → Prop) : Exit → List AV → List Ob → Prop
  | .normal, fr1, aw1 => ∃ m' fr' aw', m' < m ∧ Weak n fr1 aw1 fr' aw' ∧ I m' fr' aw'
  | e, fr1, aw1 => Q e fr1 aw1
def Loop (n : Nat) (body : (Exit → List AV → List Ob → Prop) → List AV → List Ob → Prop) (Q : Exit → List AV → List Ob → Prop) (fr : List AV) (aw : List Ob) : Prop :=
  ∃ I : Nat → List AV → List Ob → Prop, (∃ m fr' aw', Weak n fr aw fr' aw' ∧ I m fr' aw') ∧ ∀ m fr aw, I m fr aw → body (loopQ n I m Q) fr aw

def thenA (K : List AV → List Ob → Prop) (Q : Exit → List AV → List Ob → Prop) : Exit → List AV → List Ob → Prop
  | .normal, fr, aw => K fr aw
  | e, fr, aw => Q e fr aw
def inBlockA (id : Nat) (Q : Exit → List AV → List Ob → Prop) : Exit → List AV → List Ob → Prop
  | .exit id', fr, aw => if id' = id then Q .normal fr aw else Q (.exit id') fr aw
  | e, fr, aw => Q e fr aw

/-- A region that draws its order. -/
def onlyN (R : Act → World → Prop) : Exit → Act → World → Prop
  | .normal, a, w => R a w
  | _, _, _ => False
def Drawn (P : Program) (id : Nat) (ops : Array Oper) (K : List AV → List Ob → Prop) (s : List AV) (aw : List Ob) : Prop :=
  ∀ (st : St) (R : Act → World → Prop) (σ : List Value) (w : World) (F : Nat → Prop) (a : Act),
    (∀ fr aw σ w F a, Cur st fr aw σ w F a → K fr aw → R a w) → Cur st s aw σ w F a → (Code.region id ops true).wp P (onlyN R) a w

def vc (P : Program) (n : Nat) : Code → (Exit → List AV → List Ob → Prop) → List AV → List Ob → Prop
  | .skip, Q, fr, aw => Q .normal fr aw
  | .region id ops draw, Q, fr, aw => if draw = true then Drawn P id ops (Q .normal) fr aw else vcOps P ops ops.toList (Q .normal) fr aw
  | .seq x y, Q, fr, aw => vc P n x (thenA (vc P n y Q) Q) fr aw
  | .cond c x y, Q, fr, aw => (match ev fr c with
    | .bool b => if b = true then vc P n x Q fr aw else vc P n y Q fr aw
    | _ => False)
  | .block id c, Q, fr, aw => vc P n c (inBlockA id Q) fr aw
  | .loop c, Q, fr, aw => Loop n (vc P n c) Q fr aw
  | .exit id, Q, fr, aw => Q (.exit id) fr aw
  | .ret, Q, fr, aw => Q .ret fr aw
  | _, _, _, _ => False

/-- What a body hands back. -/
def vcRes (P : Program) (fr : List AV) (aw : List Ob) : List ResultVar → (List AV → Prop) → Prop
  | [], K => K []
  | .tmp t :: rs, K => vcRes P fr aw rs fun vs => K (fr.getD t .any :: vs)
  | .cell a t :: rs, K => vcQ P fr aw (.load t (.tmp a)) fun v => vcRes P fr aw rs fun vs => K (v :: vs)
def retAV : List AV → AV
  | [v] => v
  | vs => .tup vs
def normR (aw : List Ob) : AV → AV × List Ob
  | .tup vs => (.tup (normL aw vs).1, (normL aw vs).2)
  | a => norm aw a
def WeakR (n : Nat) (r : AV) (aw : List Ob) (r' : AV) (aw' : List Ob) : Prop :=
  ∃ ρ : List Nat, ρ.Nodup ∧ (∀ k, k < n → ρ[k]? = some k) ∧ Ren ρ r' r ∧ RenW ρ aw ρ aw'
/-- The end of a body: what it hands back is data ('true'), or the caller's own. -/
def Ret (n : Nat) (Q : AV → List Ob → Prop) (aw : List Ob) (vs : List AV) : Prop :=
  ∃ (nl : List (Nat × TypeId × Nat)) (z : Bool) (r' : AV) (aw' : List Ob),
    WeakR n (if z = true then normR (nilify nl vs aw).2 (retAV (nilify nl vs aw).1) else (retAV (nilify nl vs aw).1, (nilify nl vs aw).2)).1
      (if z = true then normR (nilify nl vs aw).2 (retAV (nilify nl vs aw).1) else (retAV (nilify nl vs aw).1, (nilify nl vs aw).2)).2 r' aw' ∧ Q r' aw'
def retQ (P : Program) (fn : Func) (n : Nat) (Q : AV → List Ob → Prop) : Exit → List AV → List Ob → Prop
  | .normal, fr, aw | .ret, fr, aw => vcRes P fr aw fn.results.toList (Ret n Q aw)
  | _, _, _ => False

end Go.Proofs.Ytegkmfokfakeiaa
