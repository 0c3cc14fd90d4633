/-
  The single operations on frames that are known slot by slot, as rules. For every program.
-/
import Derived.Test.YtegkmfokfakeiaaT
namespace Go.Proofs.Ytegkmfokfakeiaa
open Go.RowKit
set_option linter.unusedVariables false
set_option linter.unusedSimpArgs false

/- closed facts on types -/
structure FieldAt (P : Program) (t : TypeId) (k : Nat) (ft : TypeId) (off : Nat) : Prop where
  out : ∃ fs f, P.underlying t = some (.struct fs) ∧ fs[k]? = some f ∧ f.type = ft ∧ f.offset = off ∧ P.cellsOf ft ≠ 0 ∧ (P.underlying ft).isSome = true
structure SliceOf (P : Program) (t e : TypeId) (m : Nat) : Prop where
  u : P.underlying t = some (.slice e)
  c : P.cellsOf e = m
  s : (P.underlying e).isSome = true
  p : 0 < m
  b : P.bytesOf e ≤ 128
  z : ∃ z, zeroOf P e = some z ∧ z.length = m

section
variable {P : Program} {N n : Nat} {aw aw' : List Ob} {l : List (Nat × AV)} {t : TypeId} {x y z : Operand} {K : AV → Prop} {K2 : AV → List Ob → Prop} {v u r : AV}

/- the quiet ones -/
def alwaysQ : Op → Bool
  | .move _ | .assign _ | .pick _ _ _ | .fieldAddr _ _ _ | .field _ _ _ | .indexAddr _ _ _ | .index _ _ _ | .binOp _ _ _ _ _ | .unOp _ _ _ | .makeFunc _ _ _ | .build _ _ | .extract _ _ | .nilCheck _ => true
  | .call { callee := .builtin .len, .. } | .call { callee := .builtin .min, .. } | .call { callee := .builtin .max, .. } => true
  | _ => false
theorem OP.q {o : Oper} {fr : List AV} (hq : alwaysQ o.op = true) (h : vcQ P fr aw o.op fun r => K2 r aw) : OP P N o fr aw K2 := by
  refine OP.of_vc ?_
  obtain ⟨d, op, ty, ps, af, g⟩ := o
  cases op with
  | call c =>
    obtain ⟨cal, as, ts⟩ := c
    cases cal with
    | builtin b => cases b <;> first | exact h | exact absurd hq (by simp [alwaysQ])
    | _ => exact absurd hq (by simp [alwaysQ])
  | _ => first | exact h | exact absurd hq (by simp [alwaysQ])

theorem v_move (hx : evA n l x = v) (h : K v) : vcQ P (mkA n l) aw (.move x) K := by show K (ev (mkA n l) x); rw [ev_mkA, hx]; exact h
theorem v_assign (hx : evA n l x = v) (h : K v) : vcQ P (mkA n l) aw (.assign x) K := by show K (ev (mkA n l) x); rw [ev_mkA, hx]; exact h
theorem v_pick {b : Bool} (hc : evA n l z = .bool b) (hr : pickV b (evA n l x) (evA n l y) = r) (h : K r) : vcQ P (mkA n l) aw (.pick z x y) K := by
  simp only [vcQ, ev_mkA, hc, hr]; exact h
theorem v_pickT {b : Bool} (hc : evA n l z = .bool b) (hb : b = true) (hx : evA n l x = v) (h : K v) : vcQ P (mkA n l) aw (.pick z x y) K := by
  refine v_pick hc ?_ h
  subst hb; rw [hx]
  unfold pickV
  split <;> simp_all
theorem v_pickF {b : Bool} (hc : evA n l z = .bool b) (hb : b = false) (hx : evA n l y = v) (h : K v) : vcQ P (mkA n l) aw (.pick z x y) K := by
  refine v_pick hc ?_ h
  subst hb; rw [hx]
  unfold pickV
  split <;> simp_all
section
variable {k : IntKind} {a b : Int} {yt : TypeId}
theorem v_add (hx : evA n l x = .int k a) (hy : evA n l y = .int k b) (h : K (.int k (k.wrap (a + b)))) : vcQ P (mkA n l) aw (.binOp .add t x y yt) K := by
  simp only [vcQ, vcBin, ev_mkA, hx, hy]; exact ⟨trivial, h⟩
theorem v_sub (hx : evA n l x = .int k a) (hy : evA n l y = .int k b) (h : K (.int k (k.wrap (a - b)))) : vcQ P (mkA n l) aw (.binOp .sub t x y yt) K := by
  simp only [vcQ, vcBin, ev_mkA, hx, hy]; exact ⟨trivial, h⟩
theorem v_mul (hx : evA n l x = .int k a) (hy : evA n l y = .int k b) (h : K (.int k (k.wrap (a * b)))) : vcQ P (mkA n l) aw (.binOp .mul t x y yt) K := by
  simp only [vcQ, vcBin, ev_mkA, hx, hy]; exact ⟨trivial, h⟩
theorem v_quo {c : Int} (hx : evA n l x = .int k a) (hy : evA n l y = .int k b) (hc : quo k a b = some c) (h : K (.int k c)) : vcQ P (mkA n l) aw (.binOp .quo t x y yt) K := by
  unfold quo at hc; split at hc
  · cases hc
  · cases hc; simp only [vcQ, vcBin, ev_mkA, hx, hy]; exact ⟨trivial, by assumption, h⟩
theorem v_rem {c : Int} (hx : evA n l x = .int k a) (hy : evA n l y = .int k b) (hc : rem a b = some c) (h : K (.int k c)) : vcQ P (mkA n l) aw (.binOp .rem t x y yt) K := by
  unfold rem at hc; split at hc
  · cases hc
  · cases hc; simp only [vcQ, vcBin, ev_mkA, hx, hy]; exact ⟨trivial, by assumption, h⟩
theorem v_and (hx : evA n l x = .int k a) (hy : evA n l y = .int k b) (h : K (.int k (intBits .and k a b))) : vcQ P (mkA n l) aw (.binOp .and t x y yt) K := by
  simp only [vcQ, vcBin, ev_mkA, hx, hy]; exact ⟨trivial, h⟩
theorem v_or (hx : evA n l x = .int k a) (hy : evA n l y = .int k b) (h : K (.int k (intBits .or k a b))) : vcQ P (mkA n l) aw (.binOp .or t x y yt) K := by
  simp only [vcQ, vcBin, ev_mkA, hx, hy]; exact ⟨trivial, h⟩
theorem v_xor (hx : evA n l x = .int k a) (hy : evA n l y = .int k b) (h : K (.int k (intBits .xor k a b))) : vcQ P (mkA n l) aw (.binOp .xor t x y yt) K := by
  simp only [vcQ, vcBin, ev_mkA, hx, hy]; exact ⟨trivial, h⟩
theorem v_shl {k' : IntKind} {c : Int} (hx : evA n l x = .int k a) (hy : evA n l y = .int k' b) (hc : shl k a b = some c) (h : K (.int k c)) : vcQ P (mkA n l) aw (.binOp .shl t x y yt) K := by
  unfold shl at hc; split at hc
  · cases hc; simp only [vcQ, vcBin, ev_mkA, hx, hy]; exact ⟨by assumption, h⟩
  · cases hc
theorem v_shr {k' : IntKind} {c : Int} (hx : evA n l x = .int k a) (hy : evA n l y = .int k' b) (hc : shr k a b = some c) (h : K (.int k c)) : vcQ P (mkA n l) aw (.binOp .shr t x y yt) K := by
  unfold shr at hc; split at hc
  · cases hc; simp only [vcQ, vcBin, ev_mkA, hx, hy]; exact ⟨by assumption, h⟩
  · cases hc
theorem v_eql (hx : evA n l x = .int k a) (hy : evA n l y = .int k b) (h : K (.bool (a == b))) : vcQ P (mkA n l) aw (.binOp .eql t x y yt) K := by
  simp only [vcQ, vcBin, ev_mkA, hx, hy]; exact ⟨trivial, h⟩
theorem v_neq (hx : evA n l x = .int k a) (hy : evA n l y = .int k b) (h : K (.bool (a != b))) : vcQ P (mkA n l) aw (.binOp .neq t x y yt) K := by
  simp only [vcQ, vcBin, ev_mkA, hx, hy]; exact ⟨trivial, h⟩
theorem v_lss (hx : evA n l x = .int k a) (hy : evA n l y = .int k b) (h : K (.bool (decide (a < b)))) : vcQ P (mkA n l) aw (.binOp .lss t x y yt) K := by
  simp only [vcQ, vcBin, ev_mkA, hx, hy]; exact ⟨trivial, h⟩
theorem v_leq (hx : evA n l x = .int k a) (hy : evA n l y = .int k b) (h : K (.bool (decide (a ≤ b)))) : vcQ P (mkA n l) aw (.binOp .leq t x y yt) K := by
  simp only [vcQ, vcBin, ev_mkA, hx, hy]; exact ⟨trivial, h⟩
theorem v_gtr (hx : evA n l x = .int k a) (hy : evA n l y = .int k b) (h : K (.bool (decide (a > b)))) : vcQ P (mkA n l) aw (.binOp .gtr t x y yt) K := by
  simp only [vcQ, vcBin, ev_mkA, hx, hy]; exact ⟨trivial, h⟩
theorem v_geq (hx : evA n l x = .int k a) (hy : evA n l y = .int k b) (h : K (.bool (decide (a ≥ b)))) : vcQ P (mkA n l) aw (.binOp .geq t x y yt) K := by
  simp only [vcQ, vcBin, ev_mkA, hx, hy]; exact ⟨trivial, h⟩
theorem v_neg (hx : evA n l x = .int k a) (h : K (.int k (k.wrap (0 - a)))) : vcQ P (mkA n l) aw (.unOp .neg t x) K := by simp only [vcQ, ev_mkA, hx]; exact h
theorem v_min (hx : evA n l x = .int k a) (hy : evA n l y = .int k b) {ts : Array TypeId} (h : K (.int k (if b < a then b else a))) : vcQ P (mkA n l) aw (.call ⟨.builtin .min, #[x, y], ts⟩) K := by
  show vcB P (mkA n l) aw .min [x, y] ts.toList K
  simp only [vcB, ev_mkA, hx, hy]; exact h
theorem v_max (hx : evA n l x = .int k a) (hy : evA n l y = .int k b) {ts : Array TypeId} (h : K (.int k (if b > a then b else a))) : vcQ P (mkA n l) aw (.call ⟨.builtin .max, #[x, y], ts⟩) K := by
  show vcB P (mkA n l) aw .max [x, y] ts.toList K
  simp only [vcB, ev_mkA, hx, hy]; exact h
end
section
variable {a b : List UInt8} {p q : Bool} {yt : TypeId}
theorem v_sadd {c : List UInt8} (hx : evA n l x = .str a) (hy : evA n l y = .str b) (hc : cat a b = some c) (h : K (.str c)) : vcQ P (mkA n l) aw (.binOp .add t x y yt) K := by
  unfold cat at hc; split at hc
  · cases hc; simp only [vcQ, vcBin, ev_mkA, hx, hy]; exact ⟨by assumption, h⟩
  · cases hc
theorem v_seql (hx : evA n l x = .str a) (hy : evA n l y = .str b) (h : K (.bool (a == b))) : vcQ P (mkA n l) aw (.binOp .eql t x y yt) K := by
  simp only [vcQ, vcBin, ev_mkA, hx, hy]; exact h
theorem v_sneq (hx : evA n l x = .str a) (hy : evA n l y = .str b) (h : K (.bool (!(a == b)))) : vcQ P (mkA n l) aw (.binOp .neq t x y yt) K := by
  simp only [vcQ, vcBin, ev_mkA, hx, hy]; exact h
theorem v_beql (hu : P.underlying t = some .bool) (hx : evA n l x = .bool p) (hy : evA n l y = .bool q) (h : K (.bool (p == q))) : vcQ P (mkA n l) aw (.binOp .eql t x y yt) K := by
  simp only [vcQ, vcBin, ev_mkA, hx, hy, hu]; exact h
theorem v_bneq (hu : P.underlying t = some .bool) (hx : evA n l x = .bool p) (hy : evA n l y = .bool q) (h : K (.bool (!(p == q)))) : vcQ P (mkA n l) aw (.binOp .neq t x y yt) K := by
  simp only [vcQ, vcBin, ev_mkA, hx, hy, hu]; exact h
theorem v_not (hx : evA n l x = .bool p) (h : K (.bool (!p))) : vcQ P (mkA n l) aw (.unOp .not t x) K := by simp only [vcQ, ev_mkA, hx]; exact h
theorem v_geql {cs ds : List AV} {ks : List Nat} {r : Bool} (hS : StructEq P t ks) (hx : evA n l x = .agg cs) (hy : evA n l y = .agg ds) (hk : cs.map AV.kd = ks) (hk' : ds.map AV.kd = ks) (he : eqCells cs ds = some r) (h : K (.bool r)) : vcQ P (mkA n l) aw (.binOp .eql t x y yt) K := by
  simp only [vcQ, vcBin, ev_mkA, hx, hy, he]; exact ⟨by rw [hk, hk'], by rw [hk]; exact hS, h⟩
theorem v_gneq {cs ds : List AV} {ks : List Nat} {r : Bool} (hS : StructEq P t ks) (hx : evA n l x = .agg cs) (hy : evA n l y = .agg ds) (hk : cs.map AV.kd = ks) (hk' : ds.map AV.kd = ks) (he : eqCells cs ds = some r) (h : K (.bool (!r))) : vcQ P (mkA n l) aw (.binOp .neq t x y yt) K := by
  simp only [vcQ, vcBin, ev_mkA, hx, hy, he]; exact ⟨by rw [hk, hk'], by rw [hk]; exact hS, h⟩
end

theorem v_fieldAddr_ptr {k id off o ft : Nat} (hF : FieldAt P t k ft o) (hx : evA n l x = .ptr id off) {off' : Nat} (ho : off + o = off') (h : K (.ptr id off')) : vcQ P (mkA n l) aw (.fieldAddr t x k) K := by
  obtain ⟨fs, f, h1, h2, h3, h4, h5, h6⟩ := hF.out
  subst h3 h4 ho
  simp only [vcQ, ev_mkA, h1, h2, hx]; exact ⟨h5, h6, h⟩
theorem v_fieldAddr_elt {k off o ft : Nat} {row : List AV} (hF : FieldAt P t k ft o) (hx : evA n l x = .elt row off) {off' : Nat} (ho : off + o = off') (h : K (.elt row off')) : vcQ P (mkA n l) aw (.fieldAddr t x k) K := by
  obtain ⟨fs, f, h1, h2, h3, h4, h5, h6⟩ := hF.out
  subst h3 h4 ho
  simp only [vcQ, ev_mkA, h1, h2, hx]; exact ⟨h5, h6, h⟩
theorem v_fieldAddr_aptr {k id s i off o ft : Nat} (hF : FieldAt P t k ft o) (hx : evA n l x = .aptr id s i off) {off' : Nat} (ho : off + o = off') (h : K (.aptr id s i off')) : vcQ P (mkA n l) aw (.fieldAddr t x k) K := by
  obtain ⟨fs, f, h1, h2, h3, h4, h5, h6⟩ := hF.out
  subst h3 h4 ho
  simp only [vcQ, ev_mkA, h1, h2, hx]; exact ⟨h5, h6, h⟩
theorem loadRow1 {row : List AV} {off : Nat} {c : AV} (hk : kindT P t = some false) (hc : row[off]? = some c) (h : K c) : loadRow P t row off K := by
  simp only [loadRow, hk, hc]; exact h
theorem loadRowA {row cs : List AV} {off m : Nat} (hk : kindT P t = some true) (hm : P.cellsOf t = m) (hl : Nat.ble (off + m) row.length = true) (hc : (row.drop off).take m = cs) (h : K (.agg cs)) : loadRow P t row off K := by
  simp only [loadRow, hk, hm, hc]; exact ⟨Nat.le_of_ble_eq_true hl, h⟩
theorem v_field {k ft o : Nat} {cs : List AV} (hF : FieldAt P t k ft o) (hx : evA n l x = .agg cs) (h : loadRow P ft cs o K) : vcQ P (mkA n l) aw (.field t x k) K := by
  obtain ⟨fs, f, h1, h2, h3, h4, h5, h6⟩ := hF.out
  subst h3 h4
  simp only [vcQ, ev_mkA, h1, h2, hx]; exact h
theorem v_load_ptr {id off : Nat} {cs : List AV} (hx : evA n l x = .ptr id off) (ho : aw[id]? = some (.box cs)) (h : loadRow P t cs off K) : vcQ P (mkA n l) aw (.load t x) K := by
  simp only [vcQ, ev_mkA, hx, ho]; exact h
theorem v_load_elt {off : Nat} {row : List AV} (hx : evA n l x = .elt row off) (h : loadRow P t row off K) : vcQ P (mkA n l) aw (.load t x) K := by
  simp only [vcQ, ev_mkA, hx]; exact h
theorem v_index_sl {α : Type} {en : α → List AV} {xs : List α} {e c : Nat} {k : IntKind} {i : Int} {a : α} (hS : SliceOf P t e c) (hl : ∀ a, (en a).length = c) (hx : evA n l x = .sl (xs.map en)) (hy : evA n l y = .int k i) (hi : idx xs i = some a) (h : K (.elt (en a) 0)) : vcQ P (mkA n l) aw (.indexAddr t x y) K := by
  obtain ⟨h0, h1, h2⟩ := idx_some hi
  simp only [vcQ, ev_mkA, hS.u, hx, hy]
  refine ⟨h0, by simpa using h1, fun row hrow => ?_⟩
  rw [List.getElem?_map, h2] at hrow
  cases hrow
  exact ⟨by rw [hS.c]; exact hl a, hS.s, h⟩
theorem v_index_ref {id e c m : Nat} {rows : List (List AV)} {k : IntKind} {i : Int} (hS : SliceOf P t e c) (hx : evA n l x = .ref id) (hy : evA n l y = .int k i) (ho : aw[id]? = some (.arr e c rows)) (hm : rows.length = m) (h0 : 0 ≤ i) (h1 : i < m) (h : K (.aptr id c i.toNat 0)) : vcQ P (mkA n l) aw (.indexAddr t x y) K := by
  simp only [vcQ, ev_mkA, hS.u, hx, hy, ho]
  exact ⟨hS.c.symm, hS.s, h0, by rw [hm]; exact h1, h⟩
theorem v_index_str {s : List UInt8} {k : IntKind} {i : Int} {b : UInt8} (hu : P.underlying t = some .string) (hx : evA n l x = .str s) (hy : evA n l y = .int k i) (hi : idx s i = some b) (h : K (.int .u8 b.toNat)) : vcQ P (mkA n l) aw (.index t x y) K := by
  obtain ⟨h0, h1, h2⟩ := idx_some hi
  simp only [vcQ, ev_mkA, hu, hx, hy]
  exact ⟨h0, h1, fun b' hb => by rw [h2] at hb; cases hb; exact h⟩
theorem v_nileq {rows : List (List AV)} {e c : Nat} {yt : TypeId} (hS : SliceOf P t e c) (hx : evA n l x = .sl rows) (hy : evA n l y = .nils) (h : ∀ z : Bool, (z = true → rows = []) → K (.bool z)) : vcQ P (mkA n l) aw (.binOp .eql t x y yt) K := by
  simp only [vcQ, vcBin, ev_mkA, hx, hy, hS.u]; exact h
theorem v_extract {vs : List AV} {k : Nat} (hx : evA n l x = .tup vs) (hv : vs[k]? = some v) (h : K v) : vcQ P (mkA n l) aw (.extract x k) K := by
  simp only [vcQ, ev_mkA, hx, hv]; exact h
theorem v_nil_ptr {id off : Nat} (hx : evA n l x = .ptr id off) (h : K (.ptr id off)) : vcQ P (mkA n l) aw (.nilCheck x) K := by simp only [vcQ, ev_mkA, hx]; exact h
theorem v_nil_elt {row : List AV} {off : Nat} (hx : evA n l x = .elt row off) (h : K (.elt row off)) : vcQ P (mkA n l) aw (.nilCheck x) K := by simp only [vcQ, ev_mkA, hx]; exact h
theorem v_nil_aptr {id s i off : Nat} (hx : evA n l x = .aptr id s i off) (h : K (.aptr id s i off)) : vcQ P (mkA n l) aw (.nilCheck x) K := by simp only [vcQ, ev_mkA, hx]; exact h
theorem v_nil_func {f : Nat} {cs : List AV} (hx : evA n l x = .func f cs) (h : K (.func f cs)) : vcQ P (mkA n l) aw (.nilCheck x) K := by simp only [vcQ, ev_mkA, hx]; exact h
theorem v_len_str {s : List UInt8} (hu : P.underlying t = some .string) (hx : evA n l x = .str s) (h : K (.int .i64 s.length)) : vcQ P (mkA n l) aw (.call ⟨.builtin .len, #[x], #[t]⟩) K := by
  show vcB P (mkA n l) aw .len [x] [t] K
  simp only [vcB, ev_mkA, hu, hx]; exact h
theorem v_len_sl {α : Type} {en : α → List AV} {xs : List α} {e c : Nat} (hS : SliceOf P t e c) (hx : evA n l x = .sl (xs.map en)) (h : K (.int .i64 xs.length)) : vcQ P (mkA n l) aw (.call ⟨.builtin .len, #[x], #[t]⟩) K := by
  show vcB P (mkA n l) aw .len [x] [t] K
  simp only [vcB, ev_mkA, hS.u, hx, List.length_map]; exact h
theorem v_len_nil {e c : Nat} (hS : SliceOf P t e c) (hx : evA n l x = .nils) (h : K (.int .i64 0)) : vcQ P (mkA n l) aw (.call ⟨.builtin .len, #[x], #[t]⟩) K := by
  show vcB P (mkA n l) aw .len [x] [t] K
  simp only [vcB, ev_mkA, hS.u, hx]; exact h
theorem v_len_ref {α : Type} {en : α → List AV} {xs : List α} {id e c : Nat} (hS : SliceOf P t e c) (hx : evA n l x = .ref id) (ho : aw[id]? = some (.arr e c (xs.map en))) (h : K (.int .i64 xs.length)) : vcQ P (mkA n l) aw (.call ⟨.builtin .len, #[x], #[t]⟩) K := by
  show vcB P (mkA n l) aw .len [x] [t] K
  simp only [vcB, ev_mkA, hS.u, hx, ho, List.length_map]; exact h
theorem v_makeFunc {f : FuncId} {caps : Array Operand} {cs : List AV} (hc : caps.toList.map (evA n l) = cs) (h : K (.func f cs)) : vcQ P (mkA n l) aw (.makeFunc (.func f) #[] caps) K := by
  simp only [vcQ]
  refine ⟨trivial, ?_⟩
  rw [show caps.toList.map (ev (mkA n l)) = cs from by rw [← hc]; exact List.map_congr_left fun x _ => ev_mkA n l x]
  exact h
theorem v_build {parts : Array (Nat × Operand)} {z : List AV} {pl : List (Nat × Nat)} {cs : List AV} (hz : zeroOf P t = some z) (hp : placesOf P t = some pl) (hc : fillAV (fun i => pl[i]?) z (parts.toList.map fun p => (p.1, evA n l p.2)) = some cs) (h : K (.agg cs)) : vcQ P (mkA n l) aw (.build t parts) K := by
  simp only [vcQ, hz, hp]
  rw [show (parts.toList.map fun p => (p.1, ev (mkA n l) p.2)) = parts.toList.map fun p => (p.1, evA n l p.2) from List.map_congr_left fun p _ => by rw [ev_mkA], hc]
  exact h
theorem v_conv {s : TypeId} {k k' : IntKind} {a : Int} {ds : TypeDesc} (hs : P.underlying s = some ds) (ht : P.underlying t = some (.int k')) (hx : evA n l x = .int k a) (h : K (.int k' (k'.wrap a))) : vcQ P (mkA n l) aw (.convert s t x) K := by
  simp only [vcQ, hs, ht, ev_mkA, hx]; exact h
theorem v_slice_str {s b : List UInt8} {lo hi : Option Operand} {i j : Int} {k k' : IntKind} (hu : P.underlying t = some .string) (hx : evA n l x = .str s) (hl : (lo.map (evA n l)).getD (.int .i64 0) = .int k i) (hh : (hi.map (evA n l)).getD (.int .i64 s.length) = .int k' j) (hs : sub s i j = some b) (h : K (.str b)) : vcQ P (mkA n l) aw (.slice t x lo hi none) K := by
  unfold sub at hs; split at hs
  · rename_i hc
    cases hs
    simp only [vcQ, hu, ev_mkA, hx]
    rw [show lo.map (ev (mkA n l)) = lo.map (evA n l) from by cases lo <;> simp [ev_mkA], show hi.map (ev (mkA n l)) = hi.map (evA n l) from by cases hi <;> simp [ev_mkA], hl, hh]
    exact ⟨hc.1, hc.2.1, hc.2.2, h⟩
  · cases hs
theorem v_slice_sl {α : Type} {en : α → List AV} {xs b : List α} {e c : Nat} {lo hi : Option Operand} {i j : Int} {k k' : IntKind} (hS : SliceOf P t e c) (hen : ∀ a, (en a).length = c) (hx : evA n l x = .sl (xs.map en)) (hl : (lo.map (evA n l)).getD (.int .i64 0) = .int k i) (hh : (hi.map (evA n l)).getD (.int .i64 xs.length) = .int k' j) (hs : sub xs i j = some b) (h : K (.sl (b.map en))) : vcQ P (mkA n l) aw (.slice t x lo hi none) K := by
  unfold sub at hs; split at hs
  · rename_i hc
    cases hs
    simp only [vcQ, hS.u, ev_mkA, hx, List.length_map]
    rw [show lo.map (ev (mkA n l)) = lo.map (evA n l) from by cases lo <;> simp [ev_mkA], show hi.map (ev (mkA n l)) = hi.map (evA n l) from by cases hi <;> simp [ev_mkA], hl, hh]
    refine ⟨hS.s, fun row hr => ?_, hc.1, hc.2.1, hc.2.2, ?_⟩
    · obtain ⟨a, _, rfl⟩ := List.mem_map.1 hr
      rw [hS.c]; exact hen a
    · rw [← List.map_take, ← List.map_drop]; exact h
  · cases hs

/- whole operations -/
variable {d : Option Tmp} {ty : TypeId} {ps : String} {af : Array Edge} {g : Option (Nat × Bool)}
theorem o_load_ptr {id off : Nat} {cs : List AV} (hx : evA n l x = .ptr id off) (ho : aw[id]? = some (.box cs)) (h : loadRow P t cs off fun r => K2 r aw) : OP P N ⟨d, .load t x, ty, ps, af, g⟩ (mkA n l) aw K2 :=
  OP.of_vc (by rw [vo_load, ev_mkA, hx]; simp only [ho]; exact h)
theorem o_load_elt {off : Nat} {row : List AV} (hx : evA n l x = .elt row off) (h : loadRow P t row off fun r => K2 r aw) : OP P N ⟨d, .load t x, ty, ps, af, g⟩ (mkA n l) aw K2 :=
  OP.of_vc (by rw [vo_load, ev_mkA, hx]; exact h)
theorem o_load_aptr {id s i off e : Nat} {rows : List (List AV)} {row : List AV} (hx : evA n l x = .aptr id s i off) (ho : aw[id]? = some (.arr e s rows)) (hr : rows[i]? = some row) (h : loadRow P t row off fun r => K2 r aw) : OP P N ⟨d, .load t x, ty, ps, af, g⟩ (mkA n l) aw K2 :=
  OP.of_vc (by
    rw [vo_load, ev_mkA, hx]; simp only [ho]
    exact ⟨trivial, (List.getElem?_eq_some_iff.1 hr).1, fun row' h' => by rw [hr] at h'; cases h'; exact h⟩)
theorem o_store_ptr {id off : Nat} {cs vs cs' : List AV} {m : Nat} (hm : P.cellsOf t = m) (hs : (P.underlying t).isSome = true) (hx : evA n l x = .ptr id off) (hy : (evA n l y).cells = some vs) (hv : vs.length = m) (ho : aw[id]? = some (.box cs)) (hl : Nat.ble (off + m) cs.length = true) (hc : splice cs off vs = cs') (ha : aw.set id (.box cs') = aw') (h : K2 .any aw') : OP P N ⟨d, .store t x y, ty, ps, af, g⟩ (mkA n l) aw K2 :=
  OP.of_vc (by
    subst ha hc
    rw [vo_store, ev_mkA, ev_mkA, hx]; simp only [hy, ho]
    exact ⟨hs, by rw [hv, hm], by rw [hv]; exact Nat.le_of_ble_eq_true hl, h⟩)
theorem o_store_aptr {id s i off e : Nat} {rows : List (List AV)} {row vs row' : List AV} {m : Nat} (hm : P.cellsOf t = m) (hs : (P.underlying t).isSome = true) (hx : evA n l x = .aptr id s i off) (hy : (evA n l y).cells = some vs) (hv : vs.length = m) (ho : aw[id]? = some (.arr e s rows)) (hr : rows[i]? = some row) (hl : Nat.ble (off + m) s = true) (hc : splice row off vs = row') (ha : aw.set id (.arr e s (rows.set i row')) = aw') (h : K2 .any aw') : OP P N ⟨d, .store t x y, ty, ps, af, g⟩ (mkA n l) aw K2 :=
  OP.of_vc (by
    subst ha hc
    rw [vo_store, ev_mkA, ev_mkA, hx]; simp only [hy, ho]
    exact ⟨hs, trivial, by rw [hv, hm], (List.getElem?_eq_some_iff.1 hr).1, by rw [hv]; exact Nat.le_of_ble_eq_true hl, fun row'' h' => by rw [hr] at h'; cases h'; exact h⟩)
theorem o_alloc {cs : List AV} {k : Nat} (hz : zeroOf P t = some cs) (hk : aw.length = k) (ha : aw ++ [.box cs] = aw') (h : K2 (.ptr k 0) aw') : OP P N ⟨d, .alloc t, ty, ps, af, g⟩ (mkA n l) aw K2 :=
  OP.of_vc (by subst hk ha; rw [vo_alloc, hz]; exact h)
theorem o_box {cs : List AV} {k : Nat} (hx : (evA n l x).cells = some cs) (hk : aw.length = k) (ha : aw ++ [.box cs] = aw') (h : K2 (.ptr k 0) aw') : OP P N ⟨d, .box t x, ty, ps, af, g⟩ (mkA n l) aw K2 :=
  OP.of_vc (by subst hk ha; rw [vo_box, ev_mkA, hx]; exact h)
theorem o_conv {s : TypeId} {k k' : IntKind} {a : Int} {ds : TypeDesc} (hs : P.underlying s = some ds) (ht : P.underlying t = some (.int k')) (hx : evA n l x = .int k a) (h : K2 (.int k' (k'.wrap a)) aw) : OP P N ⟨d, .convert s t x, ty, ps, af, g⟩ (mkA n l) aw K2 :=
  OP.of_vc (by rw [vo_convert]; simp only [ev_mkA, hx, hs, ht]; exact h)
theorem o_slice_str {s b : List UInt8} {lo hi : Option Operand} {i j : Int} {k k' : IntKind} (hu : P.underlying t = some .string) (hx : evA n l x = .str s) (hl : (lo.map (evA n l)).getD (.int .i64 0) = .int k i) (hh : (hi.map (evA n l)).getD (.int .i64 s.length) = .int k' j) (hs : sub s i j = some b) (h : K2 (.str b) aw) : OP P N ⟨d, .slice t x lo hi none, ty, ps, af, g⟩ (mkA n l) aw K2 :=
  OP.of_vc (by
    have := v_slice_str (P := P) (aw := aw) (K := fun r => K2 r aw) hu hx hl hh hs h
    show vcVal P (mkA n l) aw (.slice t x lo hi none) K2
    unfold vcVal
    rw [if_pos (by simp only [isQ, ev_mkA, hx])]
    exact this)
theorem o_slice_sl {α : Type} {en : α → List AV} {xs b : List α} {e c : Nat} {lo hi : Option Operand} {i j : Int} {k k' : IntKind} (hS : SliceOf P t e c) (hen : ∀ a, (en a).length = c) (hx : evA n l x = .sl (xs.map en)) (hl : (lo.map (evA n l)).getD (.int .i64 0) = .int k i) (hh : (hi.map (evA n l)).getD (.int .i64 xs.length) = .int k' j) (hs : sub xs i j = some b) (h : K2 (.sl (b.map en)) aw) : OP P N ⟨d, .slice t x lo hi none, ty, ps, af, g⟩ (mkA n l) aw K2 :=
  OP.of_vc (by
    have := v_slice_sl (P := P) (aw := aw) (K := fun r => K2 r aw) hS hen hx hl hh hs h
    show vcVal P (mkA n l) aw (.slice t x lo hi none) K2
    unfold vcVal
    rw [if_pos (by simp only [isQ, ev_mkA, hx])]
    exact this)
theorem o_mk {α : Type} {en : α → List AV} {e c k : Nat} {k1 k2 : IntKind} {i : Int} {zr : α} {xs : List α} (hS : SliceOf P t e c) (hz : zeroOf P e = some (en zr)) (hx : evA n l x = .int k1 i) (hy : evA n l y = .int k2 i) (hm : mk i zr = some xs) (hk : aw.length = k) (ha : aw ++ [.arr e c (xs.map en)] = aw') (h : K2 (.ref k) aw') : OP P N ⟨d, .makeSlice t x y, ty, ps, af, g⟩ (mkA n l) aw K2 :=
  OP.of_vc (by
    unfold mk at hm; split at hm
    · rename_i hc
      cases hm
      subst hk ha
      obtain ⟨z', hz1, hz2⟩ := hS.z
      rw [hz] at hz1; cases hz1
      rw [vo_makeSlice, hS.u]; simp only [ev_mkA, hx, hy, hz]
      refine ⟨by rw [hS.c, hz2], by rw [hS.c]; exact hS.p, hc.1, Int.le_refl _, .inr trivial, ?_, by unfold maxLen; omega, by rw [hS.c]; simpa using h⟩
      have h1 : i.toNat ≤ 1099511627776 := by omega
      exact Nat.le_trans (Nat.mul_le_mul hS.b h1) (by decide)
    · cases hm)
theorem o_buildSlice {len : Nat} {parts : Array (Nat × Operand)} {e c k : Nat} {z : List AV} {rows : List (List AV)} {vs : List AV} (hS : SliceOf P t e c) (hz : zeroOf P e = some z) (hl : Nat.ble (len * c) 16777216 = true) (hv : parts.toList.map (fun p => evA n l p.2) = vs) (hn : normL aw vs = (vs, aw)) (hr : rowsOf P c (List.replicate len z) ((parts.toList.map (·.1)).zip vs) = some rows) (hk : aw.length = k) (ha : aw ++ [.arr e c rows] = aw') (h : K2 (.ref k) aw') : OP P N ⟨d, .buildSlice t len parts, ty, ps, af, g⟩ (mkA n l) aw K2 :=
  OP.of_vc (by
    subst hk ha
    obtain ⟨z', hz1, hz2⟩ := hS.z
    rw [hz] at hz1; cases hz1
    show vcE P (mkA n l) aw (.buildSlice t len parts) K2
    simp only [vcE, hS.u, hz, hS.c]
    rw [show (parts.toList.map fun p => ev (mkA n l) p.2) = vs from by rw [← hv]; exact List.map_congr_left fun p _ => ev_mkA n l p.2, hn, hr]
    exact ⟨hz2, hS.p, Nat.le_of_ble_eq_true hl, h⟩)
/-- append; what is appended is data, or an array of the call's own that nobody needs any more. -/
theorem o_app_nil {α : Type} {en : α → List AV} {xs : List α} {e c k : Nat} {aw1 : List Ob} (hS : SliceOf P t e c) (hen : ∀ a, (en a).length = c) (hx : evA n l x = .nils) (hy : norm aw (evA n l y) = (.sl (xs.map en), aw1)) (hlen : xs.length ≤ 1099511627776) (hk : aw1.length = k) (ha : aw1 ++ [.arr e c (xs.map en)] = aw') (h : K2 (.ref k) aw') : OP P N ⟨d, .call ⟨.builtin .append, #[x, y], #[t, t]⟩, ty, ps, af, g⟩ (mkA n l) aw K2 :=
  OP.of_vc (by
    subst hk ha
    obtain ⟨z', hz1, hz2⟩ := hS.z
    show vcApp P (mkA n l) aw [x, y] [t, t] K2
    simp only [vcApp, hS.u, hz1, ev_mkA, hx, hy, hS.c, List.length_map]
    exact ⟨trivial, hz2, hS.p, fun row hr => by obtain ⟨a, _, rfl⟩ := List.mem_map.1 hr; exact hen a, hlen, hS.b, h⟩)
theorem o_app_ref {α : Type} {en : α → List AV} {xs ys r : List α} {id e c k : Nat} {aw1 : List Ob} (hS : SliceOf P t e c) (hen : ∀ a, (en a).length = c) (hx : evA n l x = .ref id) (hy : norm aw (evA n l y) = (.sl (ys.map en), aw1)) (ho : aw1[id]? = some (.arr e c (xs.map en))) (hr : app xs ys = some r) (hk : aw1.length = k) (ha : aw1.set id .dead ++ [.arr e c (r.map en)] = aw') (h : K2 (.ref k) aw') : OP P N ⟨d, .call ⟨.builtin .append, #[x, y], #[t, t]⟩, ty, ps, af, g⟩ (mkA n l) aw K2 :=
  OP.of_vc (by
    unfold app at hr; split at hr
    · rename_i hc
      cases hr
      subst hk ha
      obtain ⟨z', hz1, hz2⟩ := hS.z
      show vcApp P (mkA n l) aw [x, y] [t, t] K2
      simp only [vcApp, hS.u, hz1, ev_mkA, hx, hy, hS.c, List.length_map, ho]
      exact ⟨trivial, trivial, trivial, hz2, hS.p, fun row hr => by obtain ⟨a, _, rfl⟩ := List.mem_map.1 hr; exact hen a, hc, hS.b, by rw [← List.map_append]; exact h⟩
    · cases hr)
end

end Go.Proofs.Ytegkmfokfakeiaa
