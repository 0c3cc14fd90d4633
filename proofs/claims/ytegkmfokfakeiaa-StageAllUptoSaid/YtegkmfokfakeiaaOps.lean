/-
  What each operation does on pure data ('vcVal'), and that the model does just that ('vcVal_ok'). For every program.
-/
import Derived.Test.YtegkmfokfakeiaaSim
import Derived.Maps.AppendAt
import Derived.Laws.MakeOwn
import Derived.Laws.OwnMore
namespace Go.Proofs.Ytegkmfokfakeiaa
open Go.RowKit
set_option linter.unusedVariables false
set_option linter.unusedSimpArgs false

def kindT (P : Program) (t : TypeId) : Option Bool := (P.underlying t).map fun | .struct _ | .array _ _ => true | _ => false
/-- The zero value's cells. -/
def zeroOf (P : Program) (t : TypeId) : Option (List AV) :=
  ((P.info? t).bind (·.zero)).bind fun v => if v.cells.toList.all (·.oneCell') then some (v.cells.toList.map AV.ofVal1) else none

def AV.cells : AV → Option (List AV)
  | .any | .tup _ => none
  | .agg cs => some cs
  | .cst v => if v.oneCell' = true then some [.cst v] else none
  | a => some [a]

def splice (cs : List AV) (off : Nat) (vs : List AV) : List AV := cs.take off ++ vs ++ cs.drop (off + vs.length)

def pickV (t : Bool) (a b : AV) : AV :=
  match a, b with
  | .bool x, .bool y => .bool (if t then x else y)
  | .int k x, .int k' y => if k = k' then .int k (if t then x else y) else if t then .int k x else .int k' y
  | a, b => if t then a else b

def loadRow (P : Program) (t : TypeId) (row : List AV) (off : Nat) (K : AV → Prop) : Prop :=
  match kindT P t with
  | some true => off + P.cellsOf t ≤ row.length ∧ K (.agg ((row.drop off).take (P.cellsOf t)))
  | some false => (match row[off]? with | some c => K c | none => False)
  | none => False

/-- What a call of the call's own is handed, or a slice of it, is data from then on. -/
def norm0 (aw : List Ob) : AV → AV × List Ob
  | .nils => (.sl [], aw)
  | .ref id => (match aw[id]? with | some (.arr _ _ rows) => (.sl rows, aw.set id .dead) | _ => (.any, aw))
  | a => (a, aw)
def norm0L (aw : List Ob) : List AV → List AV × List Ob
  | [] => ([], aw)
  | a :: as => let r := norm0 aw a; let s := norm0L r.2 as; (r.1 :: s.1, s.2)
def norm (aw : List Ob) : AV → AV × List Ob
  | .agg cs => (.agg (norm0L aw cs).1, (norm0L aw cs).2)
  | a => norm0 aw a
def normL (aw : List Ob) : List AV → List AV × List Ob
  | [] => ([], aw)
  | a :: as => let r := norm aw a; let s := normL r.2 as; (r.1 :: s.1, s.2)

def isByte : List AV → Bool
  | [.int .u8 _] => true
  | _ => false
def byteOf' : List AV → UInt8
  | [.int .u8 n] => UInt8.ofNat n.toNat
  | _ => 0

/-- '==' of structs whose fields are numbers, texts, truth values. -/
def eqCells : List AV → List AV → Option Bool
  | [], [] => some true
  | .int _ a :: l, .int _ b :: m => (eqCells l m).map fun r => a == b && r
  | .str a :: l, .str b :: m => (eqCells l m).map fun r => a == b && r
  | .bool a :: l, .bool b :: m => (eqCells l m).map fun r => a == b && r
  | _, _ => none

def intBits (op : BinOp) (k : IntKind) (x y : Int) : Int :=
  let a := BitVec.ofInt k.bits x
  let b := BitVec.ofInt k.bits y
  match op with
  | .and => k.wrap (a &&& b).toNat
  | .or => k.wrap (a ||| b).toNat
  | .xor => k.wrap (a ^^^ b).toNat
  | _ => 0

/-- '==' of two structs of a type: number by number, text by text. 'ks': what its fields are. -/
def AV.kd : AV → Nat
  | .int .i64 _ => 1
  | .str _ => 2
  | .bool _ => 3
  | _ => 0
def StructEq (P : Program) (t : TypeId) (ks : List Nat) : Prop :=
  P.eqGuardType P.depth t = false ∧ ∀ (σ : List Value) (w : World) (F : Nat → Prop) (x y : List AV) (vx vy : List Value) (r : Bool), x.map AV.kd = ks → y.map AV.kd = ks →
    eqCells x y = some r → RelL σ w F x vx → RelL σ w F y vy → ∀ w', (Op.equal t (.agg vx.toArray) (.agg vy.toArray)).run P w' = .ok r w'

def vcBin (P : Program) (op : BinOp) (t : TypeId) (a b : AV) (K : AV → Prop) : Prop :=
  match a, b with
  | .int k x, .int k' y =>
    (match op with
    | .add => k = k' ∧ K (.int k (k.wrap (x + y)))
    | .sub => k = k' ∧ K (.int k (k.wrap (x - y)))
    | .mul => k = k' ∧ K (.int k (k.wrap (x * y)))
    | .quo => k = k' ∧ y ≠ 0 ∧ K (.int k (k.wrap (x.tdiv y)))
    | .rem => k = k' ∧ y ≠ 0 ∧ K (.int k (x.tmod y))
    | .and => k = k' ∧ K (.int k (intBits .and k x y))
    | .or => k = k' ∧ K (.int k (intBits .or k x y))
    | .xor => k = k' ∧ K (.int k (intBits .xor k x y))
    | .shl => 0 ≤ y ∧ K (.int k (k.wrap (x * 2 ^ (min y.toNat k.bits))))
    | .shr => 0 ≤ y ∧ K (.int k (x.fdiv (2 ^ (min y.toNat k.bits))))
    | .eql => k = k' ∧ K (.bool (x == y))
    | .neq => k = k' ∧ K (.bool (x != y))
    | .lss => k = k' ∧ K (.bool (decide (x < y)))
    | .leq => k = k' ∧ K (.bool (decide (x ≤ y)))
    | .gtr => k = k' ∧ K (.bool (decide (x > y)))
    | .geq => k = k' ∧ K (.bool (decide (x ≥ y)))
    | _ => False)
  | .str x, .str y =>
    (match op with
    | .add => x.length + y.length ≤ 4611686018427387904 ∧ K (.str (x ++ y))
    | .eql => K (.bool (x == y))
    | .neq => K (.bool (!(x == y)))
    | _ => False)
  | .bool x, .bool y =>
    (match op, P.underlying t with
    | .eql, some .bool => K (.bool (x == y))
    | .neq, some .bool => K (.bool (!(x == y)))
    | _, _ => False)
  | .nils, .nils => (match op, P.underlying t with | .eql, some (.slice _) => K (.bool true) | .neq, some (.slice _) => K (.bool false) | _, _ => False)
  | .sl rows, .nils =>
    (match op, P.underlying t with
    | .eql, some (.slice _) => ∀ z : Bool, (z = true → rows = []) → K (.bool z)
    | .neq, some (.slice _) => ∀ z : Bool, (z = false → rows = []) → K (.bool z)
    | _, _ => False)
  | .agg x, .agg y =>
    (match op, eqCells x y with
    | .eql, some r => x.map AV.kd = y.map AV.kd ∧ StructEq P t (x.map AV.kd) ∧ K (.bool r)
    | .neq, some r => x.map AV.kd = y.map AV.kd ∧ StructEq P t (x.map AV.kd) ∧ K (.bool (!r))
    | _, _ => False)
  | .func _ _, .nilf => (match op, P.underlying t with | .eql, some (.func _ _ _) => K (.bool false) | .neq, some (.func _ _ _) => K (.bool true) | _, _ => False)
  | .nilf, .nilf => (match op, P.underlying t with | .eql, some (.func _ _ _) => K (.bool true) | .neq, some (.func _ _ _) => K (.bool false) | _, _ => False)
  | _, _ => False

def fillAV (place : Nat → Option (Nat × Nat)) (cells : List AV) : List (Nat × AV) → Option (List AV)
  | [] => some cells
  | (i, v) :: rest =>
    match place i, v.cells with
    | some (off, size), some vs => if vs.length = size ∧ off + size ≤ cells.length then fillAV place (splice cells off vs) rest else none
    | _, _ => none

/-- Where a struct's fields lie, an array's elements. -/
def placesOf (P : Program) (t : TypeId) : Option (List (Nat × Nat)) :=
  match P.underlying t with
  | some (.struct fs) => fs.toList.mapM fun f => (P.info? f.type).map fun i => (f.offset, i.size)
  | some (.array n e) => (P.info? e).map fun i => (List.range n).map fun k => (k * i.size, i.size)
  | _ => none

def rowsOf (P : Program) (size : Nat) (rows : List (List AV)) : List (Nat × AV) → Option (List (List AV))
  | [] => some rows
  | (i, v) :: rest =>
    match v.cells with
    | some vs => if vs.length = size ∧ i < rows.length then rowsOf P size (rows.set i vs) rest else none
    | none => none

/-- Builtins that read nothing but what they are handed. -/
def vcB (P : Program) (fr : List AV) (aw : List Ob) (b : Builtin) (args : List Operand) (ats : List TypeId) (K : AV → Prop) : Prop :=
  match b, args, ats with
  | .len, [x], [t] =>
    (match P.underlying t, ev fr x with
    | some .string, .str s => K (.int .i64 s.length)
    | some (.slice _), .sl rows => K (.int .i64 rows.length)
    | some (.slice _), .nils => K (.int .i64 0)
    | some (.slice _), .ref id => (match aw[id]? with | some (.arr _ _ rows) => K (.int .i64 rows.length) | _ => False)
    | _, _ => False)
  | .min, [x, y], _ => (match ev fr x, ev fr y with | .int k a, .int _ b => K (.int k (if b < a then b else a)) | _, _ => False)
  | .max, [x, y], _ => (match ev fr x, ev fr y with | .int k a, .int _ b => K (.int k (if b > a then b else a)) | _, _ => False)
  | _, _, _ => False

/-- Operations that only read, and read nothing that is being written. -/
def vcQ (P : Program) (fr : List AV) (aw : List Ob) (op : Op) (K : AV → Prop) : Prop :=
  match op with
  | .move x | .assign x => K (ev fr x)
  | .pick c a b => (match ev fr c with | .bool t => K (pickV t (ev fr a) (ev fr b)) | _ => False)
  | .load t x =>
    (match ev fr x with
    | .ptr id off => (match aw[id]? with | some (.box cs) => loadRow P t cs off K | _ => False)
    | .elt row off => loadRow P t row off K
    | _ => False)
  | .fieldAddr t x k =>
    (match P.underlying t with
    | some (.struct fs) => (match fs[k]? with
      | some f => P.cellsOf f.type ≠ 0 ∧ (P.underlying f.type).isSome = true ∧ (match ev fr x with
        | .ptr id off => K (.ptr id (off + f.offset))
        | .elt row off => K (.elt row (off + f.offset))
        | .aptr id size i off => K (.aptr id size i (off + f.offset))
        | _ => False)
      | none => False)
    | _ => False)
  | .field t x k =>
    (match P.underlying t, ev fr x with
    | some (.struct fs), .agg cs => (match fs[k]? with | some f => loadRow P f.type cs f.offset K | none => False)
    | _, _ => False)
  | .indexAddr t x i =>
    (match P.underlying t, ev fr x, ev fr i with
    | some (.slice e), .sl rows, .int _ n => 0 ≤ n ∧ n < rows.length ∧ ∀ row, rows[n.toNat]? = some row → row.length = P.cellsOf e ∧ (P.underlying e).isSome = true ∧ K (.elt row 0)
    | some (.slice e), .ref id, .int _ n => (match aw[id]? with
      | some (.arr _ size rows) => size = P.cellsOf e ∧ (P.underlying e).isSome = true ∧ 0 ≤ n ∧ n < rows.length ∧ K (.aptr id size n.toNat 0)
      | _ => False)
    | some (.array len e), .ptr id off, .int _ n => (P.underlying e).isSome = true ∧ 0 ≤ n ∧ n < len ∧ 1 < len ∧ K (.ptr id (off + n.toNat * P.cellsOf e))
    | _, _, _ => False)
  | .index t x i =>
    (match P.underlying t, ev fr x, ev fr i with
    | some .string, .str s, .int _ n => 0 ≤ n ∧ n < s.length ∧ ∀ b, s[n.toNat]? = some b → K (.int .u8 b.toNat)
    | _, _, _ => False)
  | .slice t x lo hi none =>
    (match P.underlying t, ev fr x with
    | some .string, .str s =>
      (match (lo.map (ev fr)).getD (.int .i64 0), (hi.map (ev fr)).getD (.int .i64 s.length) with
      | .int _ l, .int _ h => 0 ≤ l ∧ l ≤ h ∧ h ≤ s.length ∧ K (.str ((s.take h.toNat).drop l.toNat))
      | _, _ => False)
    | some (.slice e), .sl rows =>
      (match (lo.map (ev fr)).getD (.int .i64 0), (hi.map (ev fr)).getD (.int .i64 rows.length) with
      | .int _ l, .int _ h => (P.underlying e).isSome = true ∧ (∀ row, row ∈ rows → row.length = P.cellsOf e) ∧ 0 ≤ l ∧ l ≤ h ∧ h ≤ rows.length ∧ K (.sl ((rows.take h.toNat).drop l.toNat))
      | _, _ => False)
    | _, _ => False)
  | .binOp op t x y _ => vcBin P op t (ev fr x) (ev fr y) K
  | .unOp op _ x =>
    (match op, ev fr x with
    | .not, .bool b => K (.bool (!b))
    | .neg, .int k n => K (.int k (k.wrap (0 - n)))
    | _, _ => False)
  | .convert s d x =>
    (match P.underlying s, P.underlying d, ev fr x with
    | some _, some (.int k), .int _ n => K (.int k (k.wrap n))
    | _, _, _ => False)
  | .makeFunc (.func f) first caps => first.toList = [] ∧ K (.func f (caps.toList.map (ev fr)))
  | .build t parts => (match zeroOf P t, placesOf P t with
    | some z, some pl => (match fillAV (fun i => pl[i]?) z (parts.toList.map fun p => (p.1, ev fr p.2)) with | some cs => K (.agg cs) | none => False)
    | _, _ => False)
  | .extract x k => (match ev fr x with | .tup vs => (match vs[k]? with | some v => K v | none => False) | _ => False)
  | .nilCheck x => (match ev fr x with | .ptr id off => K (.ptr id off) | .elt row off => K (.elt row off) | .aptr id s i off => K (.aptr id s i off) | .func f cs => K (.func f cs) | _ => False)
  | .call c => (match c.callee with | .builtin b => vcB P fr aw b c.args.toList c.argTypes.toList K | _ => False)
  | _ => False

def isQ (fr : List AV) : Op → Bool
  | .move _ | .assign _ | .pick _ _ _ | .fieldAddr _ _ _ | .field _ _ _ | .indexAddr _ _ _ | .index _ _ _ | .binOp _ _ _ _ _ | .unOp _ _ _ | .makeFunc _ _ _ | .build _ _ | .extract _ _ | .nilCheck _ => true
  | .load _ x => (match ev fr x with | .aptr _ _ _ _ => false | _ => true)
  | .slice _ x _ _ _ => (match ev fr x with | .ref _ => false | .nils => false | _ => true)
  | .convert _ _ x => (match ev fr x with | .int _ _ => true | _ => false)
  | .call { callee := .builtin .len, .. } | .call { callee := .builtin .min, .. } | .call { callee := .builtin .max, .. } => true
  | _ => false

/-- append. -/
def vcApp (P : Program) (fr : List AV) (aw : List Ob) (args : List Operand) (ats : List TypeId) (K : AV → List Ob → Prop) : Prop :=
  match args, ats with
  | [x, y], [t, t'] =>
    t' = t ∧ (match P.underlying t with
    | some (.slice e) => (match zeroOf P e, ev fr x, norm aw (ev fr y) with
      | some z, .nils, (.sl rows, aw') => z.length = P.cellsOf e ∧ 0 < P.cellsOf e ∧ (∀ row, row ∈ rows → row.length = P.cellsOf e) ∧ rows.length ≤ 1099511627776 ∧ P.bytesOf e ≤ 128 ∧
          K (.ref aw'.length) (aw' ++ [.arr e (P.cellsOf e) rows])
      | some z, .ref id, (.sl rows, aw') => (match aw'[id]? with
        | some (.arr e' size old) => e' = e ∧ size = P.cellsOf e ∧ z.length = P.cellsOf e ∧ 0 < P.cellsOf e ∧ (∀ row, row ∈ rows → row.length = P.cellsOf e) ∧ old.length + rows.length ≤ 1099511627776 ∧ P.bytesOf e ≤ 128 ∧
            K (.ref aw'.length) (aw'.set id .dead ++ [.arr e (P.cellsOf e) (old ++ rows)])
        | _ => False)
      | _, _, _ => False)
    | _ => False)
  | _, _ => False

/-- Operations that make or write memory. -/
def vcE (P : Program) (fr : List AV) (aw : List Ob) (op : Op) (K : AV → List Ob → Prop) : Prop :=
  match op with
  | .alloc e => (match zeroOf P e with | some z => K (.ptr aw.length 0) (aw ++ [.box z]) | none => False)
  | .box _ x => (match (ev fr x).cells with | some cs => K (.ptr aw.length 0) (aw ++ [.box cs]) | none => False)
  | .load t x =>
    (match ev fr x with
    | .aptr id size i off => (match aw[id]? with
      | some (.arr _ size' rows) => size' = size ∧ i < rows.length ∧ ∀ row, rows[i]? = some row → loadRow P t row off fun r => K r aw
      | _ => False)
    | _ => False)
  | .store t x y =>
    (match ev fr x, (ev fr y).cells with
    | .ptr id off, some vs => (match aw[id]? with
      | some (.box cs) => (P.underlying t).isSome = true ∧ vs.length = P.cellsOf t ∧ off + vs.length ≤ cs.length ∧ K .any (aw.set id (.box (splice cs off vs)))
      | _ => False)
    | .aptr id size i off, some vs => (match aw[id]? with
      | some (.arr e size' rows) => (P.underlying t).isSome = true ∧ size' = size ∧ vs.length = P.cellsOf t ∧ i < rows.length ∧ off + vs.length ≤ size ∧
          ∀ row, rows[i]? = some row → K .any (aw.set id (.arr e size (rows.set i (splice row off vs))))
      | _ => False)
    | _, _ => False)
  | .slice t x lo hi none =>
    (match P.underlying t, norm aw (ev fr x) with
    | some (.slice e), (.sl rows, aw') =>
      (match (lo.map (ev fr)).getD (.int .i64 0), (hi.map (ev fr)).getD (.int .i64 rows.length) with
      | .int _ l, .int _ h => (P.underlying e).isSome = true ∧ (∀ row, row ∈ rows → row.length = P.cellsOf e) ∧ 0 ≤ l ∧ l ≤ h ∧ h ≤ rows.length ∧ K (.sl ((rows.take h.toNat).drop l.toNat)) aw'
      | _, _ => False)
    | _, _ => False)
  | .convert s d x =>
    (match P.underlying s, P.underlying d, norm aw (ev fr x) with
    | some (.slice e), some .string, (.sl rows, aw') => P.underlying e = some (.int .u8) ∧ rows.all isByte = true ∧ K (.str (rows.map byteOf')) aw'
    | _, _, _ => False)
  | .buildSlice t len parts =>
    (match P.underlying t with
    | some (.slice e) => (match zeroOf P e with
      | some z => z.length = P.cellsOf e ∧ 0 < P.cellsOf e ∧ len * P.cellsOf e ≤ 2 ^ 24 ∧ (match rowsOf P (P.cellsOf e) (List.replicate len z) ((parts.toList.map (·.1)).zip (normL aw (parts.toList.map fun p => ev fr p.2)).1) with
        | some rows => K (.ref (normL aw (parts.toList.map fun p => ev fr p.2)).2.length) ((normL aw (parts.toList.map fun p => ev fr p.2)).2 ++ [.arr e (P.cellsOf e) rows])
        | none => False)
      | none => False)
    | _ => False)
  | .makeSlice t l c =>
    (match P.underlying t, ev fr l, ev fr c with
    | some (.slice e), .int _ n, .int _ m => (match zeroOf P e with
      | some z => z.length = P.cellsOf e ∧ 0 < P.cellsOf e ∧ 0 ≤ n ∧ n ≤ m ∧ (n = 0 ∨ n = m) ∧ P.bytesOf e * m.toNat ≤ 281474976710656 ∧ m.toNat ≤ maxLen ∧
          K (.ref aw.length) (aw ++ [.arr e (P.cellsOf e) (List.replicate n.toNat z)])
      | none => False)
    | _, _, _ => False)
  | .call c => (match c.callee with | .builtin .append => vcApp P fr aw c.args.toList c.argTypes.toList K | _ => False)
  | _ => False

def vcVal (P : Program) (fr : List AV) (aw : List Ob) (op : Op) (K : AV → List Ob → Prop) : Prop :=
  if isQ fr op = true then vcQ P fr aw op (fun r => K r aw) else vcE P fr aw op K

/-- The same where nobody writes, and in the call's own boxes. -/
def Agr (aw : List Ob) (σ : List Value) (w : World) (F : Nat → Prop) (w' : World) : Prop :=
  ∀ b, (F b ∨ ∃ (k : Nat) (cs : List AV) (v : Value), aw[k]? = some (Ob.box cs) ∧ σ[k]? = some v ∧ blk v = some b) → w'.heap[b]? = w.heap[b]?

/-- 'G': the worlds in which it is so. -/
def QOk (P : Program) (G : World → Prop) (σ : List Value) (w : World) (F : Nat → Prop) (c : Sem Value) (K : AV → Prop) : Prop :=
  ∃ v r, (∀ w', G w' → c.run P w' = .ok v w') ∧ Rel σ w F r v ∧ K r

def OpOk (P : Program) (aw : List Ob) (σ : List Value) (w : World) (F : Nat → Prop) (c : Sem Next) (K : AV → List Ob → Prop) : Prop :=
  ∃ v n w' aw' σ' F' r, c.run P w = .ok n w' ∧ (n = .value v ∨ (n = .skip ∧ v = undef)) ∧ Sim aw' σ' w' F' ∧ Mv aw σ w F aw' σ' w' F' ∧ Rel σ' w' F' r v ∧ K r aw'

theorem run_v {P : Program} {w w' : World} {s : Sem Value} {v : Value} (h : s.run P w = .ok v w') : (do let x ← s; pure (Next.value x) : Sem Next).run P w = .ok (.value v) w' := by
  simp [Sem.run_bind, h]
theorem run_u {P : Program} {w w' : World} {s : Sem Unit} (h : s.run P w = .ok () w') : (do s; pure Next.skip : Sem Next).run P w = .ok .skip w' := by
  simp [Sem.run_bind, h]

end Go.Proofs.Ytegkmfokfakeiaa
