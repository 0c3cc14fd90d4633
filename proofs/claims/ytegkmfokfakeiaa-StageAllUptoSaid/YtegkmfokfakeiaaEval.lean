/-
  How the conditions are worked out, step by step: rewriting rules, each by computation. For every program.
-/
import Derived.Test.YtegkmfokfakeiaaCalls
namespace Go.Proofs.Ytegkmfokfakeiaa
open Go.RowKit
set_option linter.unusedVariables false
set_option linter.unusedSimpArgs false

section
variable {P : Program} {n : Nat} {Q : Exit → List AV → List Ob → Prop} {fr : List AV} {aw : List Ob} {K : AV → List Ob → Prop} {KK : List AV → List Ob → Prop}
  {d : Option Tmp} {ty : TypeId} {ps : String} {af : Array Edge} {g : Option (Nat × Bool)} {x y z : Operand} {t s : TypeId} {ops : Array Oper} {o : Oper} {l : List Oper}

theorem vc_skip : vc P n .skip Q fr aw = Q .normal fr aw := rfl
theorem vc_ret : vc P n .ret Q fr aw = Q .ret fr aw := rfl
theorem vc_exit {id : Nat} : vc P n (.exit id) Q fr aw = Q (.exit id) fr aw := rfl
theorem vc_seq {a b : Code} : vc P n (.seq a b) Q fr aw = vc P n a (thenA (vc P n b Q) Q) fr aw := rfl
theorem vc_block {id : Nat} {c : Code} : vc P n (.block id c) Q fr aw = vc P n c (inBlockA id Q) fr aw := rfl
theorem vc_loop {c : Code} : vc P n (.loop c) Q fr aw = Loop n (vc P n c) Q fr aw := rfl
theorem vc_cond {c : Operand} {a b : Code} : vc P n (.cond c a b) Q fr aw = (match ev fr c with | .bool e => if e = true then vc P n a Q fr aw else vc P n b Q fr aw | _ => False) := rfl
theorem vc_region {id : Nat} : vc P n (.region id l.toArray false) Q fr aw = vcOps P l.toArray l (Q .normal) fr aw := by simp [vc]
theorem vc_drawn {id : Nat} : vc P n (.region id ops true) Q fr aw = Drawn P id ops (Q .normal) fr aw := rfl
theorem then_normal : thenA KK Q .normal fr aw = KK fr aw := rfl
theorem then_ret : thenA KK Q .ret fr aw = Q .ret fr aw := rfl
theorem then_exit {id : Nat} : thenA KK Q (.exit id) fr aw = Q (.exit id) fr aw := rfl
theorem block_normal {id : Nat} : inBlockA id Q .normal fr aw = Q .normal fr aw := rfl
theorem block_ret {id : Nat} : inBlockA id Q .ret fr aw = Q .ret fr aw := rfl
theorem block_exit {id id' : Nat} : inBlockA id Q (.exit id') fr aw = if id' = id then Q .normal fr aw else Q (.exit id') fr aw := rfl
theorem ops_nil : vcOps P ops [] KK fr aw = KK fr aw := rfl
theorem ops_plain {op : Op} : vcOps P ops (⟨d, op, ty, ps, af, none⟩ :: l) KK fr aw = vcOper P ⟨d, op, ty, ps, af, none⟩ fr aw (contOp (vcOps P ops l KK) fr d) := rfl
theorem ops_guard {op : Op} {j : Nat} {want : Bool} : vcOps P ops (⟨d, op, ty, ps, af, some (j, want)⟩ :: l) KK fr aw =
    (match (ops[j]?).bind (·.dst) with
      | none => False
      | some t => match fr[t]? with
        | some (.bool b) => if b = want then vcOper P ⟨d, op, ty, ps, af, some (j, want)⟩ (fr.set t (.bool want)) aw (contOp (vcOps P ops l KK) (fr.set t (.bool want)) d)
            else vcOps P ops l KK (putF (fr.set t (.bool !want)) d .any) aw
        | _ => False) := rfl
theorem cont_eq {r : AV} : contOp KK fr d r aw = KK (putF fr d r) aw := rfl
theorem put_some {t : Nat} {r : AV} : putF fr (some t) r = fr.set t r := rfl
theorem put_none {r : AV} : putF fr none r = fr := rfl
theorem ev_tmp {t : Nat} : ev fr (.tmp t) = fr.getD t .any := rfl
theorem ev_const {v : Value} : ev fr (.const v) = AV.ofVal v := rfl
theorem ev_func {f : FuncId} : ev fr (.func f) = .func f [] := rfl
theorem of_int {k : IntKind} {n : Int} : AV.ofVal (.int k n) = .int k n := rfl
theorem of_bool {b : Bool} : AV.ofVal (.bool b) = .bool b := rfl
theorem of_str {l : List UInt8} : AV.ofVal (.string ⟨l.toArray⟩) = .str l := by simp [AV.ofVal, AV.ofVal1]
theorem of_nil : AV.ofVal (.slice none 0 0) = .nils := rfl
theorem of_nilf : AV.ofVal .nilFunc = .nilf := rfl
theorem of_nili : AV.ofVal .nilIface = .nili := rfl
theorem of_nilp : AV.ofVal (.pointer none) = .nilp := rfl
theorem of_agg {l : List Value} : AV.ofVal (.agg l.toArray) = if l.all (·.oneCell') then .agg (l.map AV.ofVal1) else .any := by simp [AV.ofVal]
theorem of1_int {k : IntKind} {n : Int} : AV.ofVal1 (.int k n) = .int k n := rfl
theorem of1_bool {b : Bool} : AV.ofVal1 (.bool b) = .bool b := rfl
theorem of1_str {l : List UInt8} : AV.ofVal1 (.string ⟨l.toArray⟩) = .str l := by simp [AV.ofVal1]
theorem of1_nil : AV.ofVal1 (.slice none 0 0) = .nils := rfl

-- operations
theorem vo_move : vcOper P ⟨d, .move x, ty, ps, af, g⟩ fr aw K = K (ev fr x) aw := rfl
theorem vo_assign : vcOper P ⟨d, .assign x, ty, ps, af, g⟩ fr aw K = K (ev fr x) aw := rfl
theorem vo_pick : vcOper P ⟨d, .pick x y z, ty, ps, af, g⟩ fr aw K = (match ev fr x with | .bool t => K (pickV t (ev fr y) (ev fr z)) aw | _ => False) := rfl
theorem vo_alloc : vcOper P ⟨d, .alloc t, ty, ps, af, g⟩ fr aw K = (match zeroOf P t with | some z => K (.ptr aw.length 0) (aw ++ [.box z]) | none => False) := rfl
theorem vo_box : vcOper P ⟨d, .box t x, ty, ps, af, g⟩ fr aw K = (match (ev fr x).cells with | some cs => K (.ptr aw.length 0) (aw ++ [.box cs]) | none => False) := rfl
theorem vo_load : vcOper P ⟨d, .load t x, ty, ps, af, g⟩ fr aw K =
    (match ev fr x with
    | .ptr id off => (match aw[id]? with | some (.box cs) => loadRow P t cs off fun r => K r aw | _ => False)
    | .elt row off => loadRow P t row off fun r => K r aw
    | .aptr id size i off => (match aw[id]? with
      | some (.arr _ size' rows) => size' = size ∧ i < rows.length ∧ ∀ row, rows[i]? = some row → loadRow P t row off fun r => K r aw
      | _ => False)
    | _ => False) := by
  cases h : ev fr x <;> simp only [vcOper, vcVal, isQ, vcQ, vcE, h, if_true, Bool.false_eq_true, if_false] <;> rfl
theorem vo_store : vcOper P ⟨d, .store t x y, ty, ps, af, g⟩ fr aw K =
    (match ev fr x with
    | .ptr id off => (match (ev fr y).cells with
      | some vs => (match aw[id]? with
        | some (.box cs) => (P.underlying t).isSome = true ∧ vs.length = P.cellsOf t ∧ off + vs.length ≤ cs.length ∧ K .any (aw.set id (.box (splice cs off vs)))
        | _ => False)
      | none => False)
    | .aptr id size i off => (match (ev fr y).cells with
      | some vs => (match aw[id]? with
        | some (.arr e size' rows) => (P.underlying t).isSome = true ∧ size' = size ∧ vs.length = P.cellsOf t ∧ i < rows.length ∧ off + vs.length ≤ size ∧
            ∀ row, rows[i]? = some row → K .any (aw.set id (.arr e size (rows.set i (splice row off vs))))
        | _ => False)
      | none => False)
    | _ => False) := by
  cases h : ev fr x <;> cases h2 : (ev fr y).cells <;> simp only [vcOper, vcVal, isQ, vcQ, vcE, h, h2, if_true, Bool.false_eq_true, if_false] <;> rfl
theorem vo_fieldAddr {k : Nat} : vcOper P ⟨d, .fieldAddr t x k, ty, ps, af, g⟩ fr aw K =
    (match P.underlying t with
    | some (.struct fs) => (match fs[k]? with
      | some f => P.cellsOf f.type ≠ 0 ∧ (P.underlying f.type).isSome = true ∧ (match ev fr x with
        | .ptr id off => K (.ptr id (off + f.offset)) aw
        | .elt row off => K (.elt row (off + f.offset)) aw
        | .aptr id size i off => K (.aptr id size i (off + f.offset)) aw
        | _ => False)
      | none => False)
    | _ => False) := rfl
theorem vo_field {k : Nat} : vcOper P ⟨d, .field t x k, ty, ps, af, g⟩ fr aw K =
    (match P.underlying t, ev fr x with
    | some (.struct fs), .agg cs => (match fs[k]? with | some f => loadRow P f.type cs f.offset fun r => K r aw | none => False)
    | _, _ => False) := rfl
theorem vo_indexAddr : vcOper P ⟨d, .indexAddr t x y, ty, ps, af, g⟩ fr aw K =
    (match P.underlying t, ev fr x, ev fr y with
    | some (.slice e), .sl rows, .int _ n => 0 ≤ n ∧ n < rows.length ∧ ∀ row, rows[n.toNat]? = some row → row.length = P.cellsOf e ∧ (P.underlying e).isSome = true ∧ K (.elt row 0) aw
    | some (.slice e), .ref id, .int _ n => (match aw[id]? with
      | some (.arr _ size rows) => size = P.cellsOf e ∧ (P.underlying e).isSome = true ∧ 0 ≤ n ∧ n < rows.length ∧ K (.aptr id size n.toNat 0) aw
      | _ => False)
    | some (.array len e), .ptr id off, .int _ n => (P.underlying e).isSome = true ∧ 0 ≤ n ∧ n < len ∧ 1 < len ∧ K (.ptr id (off + n.toNat * P.cellsOf e)) aw
    | _, _, _ => False) := rfl
theorem vo_index : vcOper P ⟨d, .index t x y, ty, ps, af, g⟩ fr aw K =
    (match P.underlying t, ev fr x, ev fr y with
    | some .string, .str s, .int _ n => 0 ≤ n ∧ n < s.length ∧ ∀ b, s[n.toNat]? = some b → K (.int .u8 b.toNat) aw
    | _, _, _ => False) := rfl
theorem vo_binOp {op : BinOp} {yt : TypeId} : vcOper P ⟨d, .binOp op t x y yt, ty, ps, af, g⟩ fr aw K = vcBin P op t (ev fr x) (ev fr y) fun r => K r aw := rfl
theorem vo_unOp {op : UnOp} : vcOper P ⟨d, .unOp op t x, ty, ps, af, g⟩ fr aw K =
    (match op, ev fr x with
    | .not, .bool b => K (.bool (!b)) aw
    | .neg, .int k n => K (.int k (k.wrap (0 - n))) aw
    | _, _ => False) := rfl
theorem vo_makeFunc {f : FuncId} {a c : List Operand} : vcOper P ⟨d, .makeFunc (.func f) a.toArray c.toArray, ty, ps, af, g⟩ fr aw K = (a = [] ∧ K (.func f (c.map (ev fr))) aw) := rfl
theorem vo_build {l : List (Nat × Operand)} : vcOper P ⟨d, .build t l.toArray, ty, ps, af, g⟩ fr aw K =
    (match zeroOf P t, placesOf P t with
    | some z, some pl => (match fillAV (fun i => pl[i]?) z (l.map fun p => (p.1, ev fr p.2)) with | some cs => K (.agg cs) aw | none => False)
    | _, _ => False) := rfl
theorem vo_buildSlice {len : Nat} {l : List (Nat × Operand)} : vcOper P ⟨d, .buildSlice t len l.toArray, ty, ps, af, g⟩ fr aw K =
    (match P.underlying t with
    | some (.slice e) => (match zeroOf P e with
      | some z => z.length = P.cellsOf e ∧ 0 < P.cellsOf e ∧ len * P.cellsOf e ≤ 2 ^ 24 ∧ (match rowsOf P (P.cellsOf e) (List.replicate len z) ((l.map (·.1)).zip (normL aw (l.map fun p => ev fr p.2)).1) with
        | some rows => K (.ref (normL aw (l.map fun p => ev fr p.2)).2.length) ((normL aw (l.map fun p => ev fr p.2)).2 ++ [.arr e (P.cellsOf e) rows])
        | none => False)
      | none => False)
    | _ => False) := rfl
theorem vo_makeSlice : vcOper P ⟨d, .makeSlice t x y, ty, ps, af, g⟩ fr aw K =
    (match P.underlying t, ev fr x, ev fr y with
    | some (.slice e), .int _ n, .int _ m => (match zeroOf P e with
      | some z => z.length = P.cellsOf e ∧ 0 < P.cellsOf e ∧ 0 ≤ n ∧ n ≤ m ∧ (n = 0 ∨ n = m) ∧ P.bytesOf e * m.toNat ≤ 281474976710656 ∧ m.toNat ≤ maxLen ∧
          K (.ref aw.length) (aw ++ [.arr e (P.cellsOf e) (List.replicate n.toNat z)])
      | none => False)
    | _, _, _ => False) := rfl
theorem vo_extract {k : Nat} : vcOper P ⟨d, .extract x k, ty, ps, af, g⟩ fr aw K = (match ev fr x with | .tup vs => (match vs[k]? with | some v => K v aw | none => False) | _ => False) := rfl
theorem vo_nilCheck : vcOper P ⟨d, .nilCheck x, ty, ps, af, g⟩ fr aw K =
    (match ev fr x with | .ptr id off => K (.ptr id off) aw | .elt row off => K (.elt row off) aw | .aptr id s i off => K (.aptr id s i off) aw | .func f cs => K (.func f cs) aw | _ => False) := rfl
theorem vo_len : vcOper P ⟨d, .call { callee := .builtin .len, args := [x].toArray, argTypes := [t].toArray }, ty, ps, af, g⟩ fr aw K =
    (match P.underlying t, ev fr x with
    | some .string, .str s => K (.int .i64 s.length) aw
    | some (.slice _), .sl rows => K (.int .i64 rows.length) aw
    | some (.slice _), .nils => K (.int .i64 0) aw
    | some (.slice _), .ref id => (match aw[id]? with | some (.arr _ _ rows) => K (.int .i64 rows.length) aw | _ => False)
    | _, _ => False) := rfl
theorem vo_min {ts : Array TypeId} : vcOper P ⟨d, .call { callee := .builtin .min, args := [x, y].toArray, argTypes := ts }, ty, ps, af, g⟩ fr aw K =
    (match ev fr x, ev fr y with | .int k a, .int _ b => K (.int k (if b < a then b else a)) aw | _, _ => False) := rfl
theorem vo_max {ts : Array TypeId} : vcOper P ⟨d, .call { callee := .builtin .max, args := [x, y].toArray, argTypes := ts }, ty, ps, af, g⟩ fr aw K =
    (match ev fr x, ev fr y with | .int k a, .int _ b => K (.int k (if b > a then b else a)) aw | _, _ => False) := rfl
theorem vo_append : vcOper P ⟨d, .call { callee := .builtin .append, args := [x, y].toArray, argTypes := [t, s].toArray }, ty, ps, af, g⟩ fr aw K = vcApp P fr aw [x, y] [t, s] K := rfl
theorem vo_call {f : Operand} {a : List Operand} {ts : Array TypeId} : vcOper P ⟨d, .call { callee := .value f, args := a.toArray, argTypes := ts }, ty, ps, af, g⟩ fr aw K =
    (match ev fr f with
    | .func h caps => CallK P h ((normL aw (a.map (ev fr))).1 ++ caps) aw (normL aw (a.map (ev fr))).2 K
    | _ => False) := rfl
theorem vo_convert : vcOper P ⟨d, .convert s t x, ty, ps, af, g⟩ fr aw K =
    (if (match ev fr x with | .int _ _ => true | _ => false) = true then (match P.underlying s, P.underlying t, ev fr x with
      | some _, some (.int k), .int _ n => K (.int k (k.wrap n)) aw
      | _, _, _ => False)
    else (match P.underlying s, P.underlying t, norm aw (ev fr x) with
      | some (.slice e), some .string, (.sl rows, aw') => P.underlying e = some (.int .u8) ∧ rows.all isByte = true ∧ K (.str (rows.map byteOf')) aw'
      | _, _, _ => False)) := rfl
theorem vo_slice {lo hi : Option Operand} : vcOper P ⟨d, .slice t x lo hi none, ty, ps, af, g⟩ fr aw K =
    (if (match ev fr x with | .ref _ => false | .nils => false | _ => true) = true then (match P.underlying t, ev fr x with
      | some .string, .str s =>
        (match (lo.map (ev fr)).getD (.int .i64 0), (hi.map (ev fr)).getD (.int .i64 s.length) with
        | .int _ l, .int _ h => 0 ≤ l ∧ l ≤ h ∧ h ≤ s.length ∧ K (.str ((s.take h.toNat).drop l.toNat)) aw
        | _, _ => False)
      | some (.slice e), .sl rows =>
        (match (lo.map (ev fr)).getD (.int .i64 0), (hi.map (ev fr)).getD (.int .i64 rows.length) with
        | .int _ l, .int _ h => (P.underlying e).isSome = true ∧ (∀ row, row ∈ rows → row.length = P.cellsOf e) ∧ 0 ≤ l ∧ l ≤ h ∧ h ≤ rows.length ∧ K (.sl ((rows.take h.toNat).drop l.toNat)) aw
        | _, _ => False)
      | _, _ => False)
    else (match P.underlying t, norm aw (ev fr x) with
      | some (.slice e), (.sl rows, aw') =>
        (match (lo.map (ev fr)).getD (.int .i64 0), (hi.map (ev fr)).getD (.int .i64 rows.length) with
        | .int _ l, .int _ h => (P.underlying e).isSome = true ∧ (∀ row, row ∈ rows → row.length = P.cellsOf e) ∧ 0 ≤ l ∧ l ≤ h ∧ h ≤ rows.length ∧ K (.sl ((rows.take h.toNat).drop l.toNat)) aw'
        | _, _ => False)
      | _, _ => False)) := rfl
end

end Go.Proofs.Ytegkmfokfakeiaa
