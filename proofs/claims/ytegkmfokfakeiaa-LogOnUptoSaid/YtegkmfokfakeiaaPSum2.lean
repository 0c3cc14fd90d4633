/-
  crossref.SumOf, Framed, Unframe; the law FramePut. Plain.
-/
import Derived.Test.YtegkmfokfakeiaaPSum
namespace Go.Proofs.Ytegkmfokfakeiaa
set_option linter.unusedVariables false
set_option linter.unusedSimpArgs false

def bI (b : Bool) : Int := if b then 1 else 0
theorem bI_byte : ∀ (x : Fin 256) (k : Fin 8), (shr .u8 (x.val : Int) (k.val : Int)).map (fun y => ibits .and .u8 y 1) = some (bI (x.val.testBit k.val)) := by decide +kernel
theorem bI_xor (a b : Bool) : ibits .xor .u8 (bI a) (bI b) = bI (a ^^ b) := by cases a <;> cases b <;> decide
theorem bI_at (pre : List Bool) (b : Bool) (r : List Bool) : ((pre ++ b :: r).map bI)[pre.length]? = some (bI b) := by simp
theorem bI_set (pre : List Bool) (b c : Bool) (r : List Bool) : ((pre ++ b :: r).map bI).set pre.length (bI c) = (pre ++ c :: r).map bI := by simp
theorem bI_ix (pre : List Bool) (b : Bool) (r : List Bool) : ixN ((pre ++ b :: r).map bI) (pre.length : Int) = some pre.length := ixN_at (by simp)

theorem sumof_l1 (p : List UInt8) (i : Nat) (x : UInt8) (hx : idx p (i : Int) = some x) (hi : i ≤ 1099511627776) : ∀ (k : Nat) (acc : List Int), k ≤ 8 → acc.length + k ≤ 1099511627776 →
    iter (fun ss : Int × List Int => crossref_SumOf_l1 p (i : Int) ss.1 ss.2) ((k : Int) - 1, acc) = some (.inl (((i + 1 : Nat) : Int), acc ++ (bitsN k x.toNat).map bI))
  | 0, acc, _, _ => by
    have e : crossref_SumOf_l1 p (i : Int) (((0 : Nat) : Int) - 1) acc = some (.inr (.inl (((i + 1 : Nat) : Int), acc))) := by
      unfold crossref_SumOf_l1
      rw [if_neg (by decide), wrap_1 (by omega)]; rfl
    rw [iter_eq]; simp only [e]; simp [bitsN]
  | k + 1, acc, hk, ha => by
    have hb := bI_byte ⟨x.toNat, x.toNat_lt⟩ ⟨k, by omega⟩
    simp only at hb
    have e : crossref_SumOf_l1 p (i : Int) (((k + 1 : Nat) : Int) - 1) acc = some (.inl ((k : Int) - 1, acc ++ [bI (x.toNat.testBit k)])) := by
      unfold crossref_SumOf_l1
      have hk1 : ((k + 1 : Nat) : Int) - 1 = (k : Int) := by omega
      rw [hk1, if_pos (by simp), hx]
      simp only [Option.bind_some]
      cases hs : shr .u8 (x.toNat : Int) (k : Int) with
      | none => rw [hs] at hb; simp at hb
      | some y =>
        rw [hs] at hb
        simp only [Option.map_some, Option.some.injEq] at hb
        simp only [Option.bind_some]
        rw [hb, app_ok (by simp; omega), wrap_ok (by omega) (by omega)]
        rfl
    rw [iter_eq]; simp only [e]
    rw [sumof_l1 p i x hx hi k _ (by omega) (by simp; omega)]
    simp [bitsN]

theorem sumof_l3 : ∀ (suf pre : List Bool), (pre ++ suf).length = 16 → iter (fun ss : Int × Int => crossref_SumOf_l3 ((pre ++ suf).map bI) ss.1 ss.2) ((bval pre : Int), (pre.length : Int)) = some ((bval (pre ++ suf) : Nat) : Int)
  | [], pre, h => by
    have e : crossref_SumOf_l3 ((pre ++ []).map bI) (bval pre : Int) (pre.length : Int) = some (.inr (bval pre : Int)) := by
      unfold crossref_SumOf_l3
      rw [if_neg (by simp)]; rfl
    rw [iter_eq]; simp only [e]; simp
  | b :: suf, pre, h => by
    have hl : pre.length < 16 := by simp at h; omega
    have hv := bval_lt pre
    have hv2 : bval pre < 65536 := Nat.lt_of_lt_of_le hv (by
      have := Nat.pow_le_pow_right (n := 2) (by omega) (by omega : pre.length ≤ 16)
      simpa using this)
    have e : crossref_SumOf_l3 ((pre ++ b :: suf).map bI) (bval pre : Int) (pre.length : Int) = some (.inl ((bval (pre ++ [b]) : Int), ((pre ++ [b]).length : Int))) := by
      unfold crossref_SumOf_l3
      rw [if_pos (by simp; omega), idx_at (bI_at pre b suf)]
      simp only [Option.bind_some]
      rw [wrap_1 (by omega), bval_snoc]
      have hbI : bI b = ((b.toNat : Nat) : Int) := by cases b <;> rfl
      have hbn : b.toNat ≤ 1 := by cases b <;> simp
      rw [hbI, wrap_ok (n := 2 * (bval pre : Int)) (by omega) (by omega), wrap_ok (n := ((b.toNat : Nat) : Int)) (by omega) (by omega), wrap_ok (by omega) (by omega)]
      simp
    rw [iter_eq]; simp only [e]
    have := sumof_l3 suf (pre ++ [b]) (by simpa using h)
    simpa using this

/- one taking off of the polynomial -/
def polyB : List Bool := true :: ptail
theorem poly_eq : ([1, 0, 0, 0, 1, 0, 0, 0, 0, 0, 0, 1, 0, 0, 0, 0, 1] : List Int) = polyB.map bI := by decide
theorem sumof_l2 (i : Nat) (hi : i ≤ 1099511627776) : ∀ (ps done : List Bool) (pre cur : List Bool), polyB = done ++ ps → pre.length = i + done.length → ps.length ≤ cur.length →
    iter (fun ss : Int × List Int => crossref_SumOf_l2 (i : Int) ss.1 ss.2) ((done.length : Int), (pre ++ cur).map bI) = some (.inl (((i + 1 : Nat) : Int), (pre ++ onto ps cur).map bI))
  | [], done, pre, cur, hd, hp, hc => by
    have e : crossref_SumOf_l2 (i : Int) (done.length : Int) ((pre ++ cur).map bI) = some (.inr (.inl (((i + 1 : Nat) : Int), (pre ++ cur).map bI))) := by
      have hl : done.length = 17 := by
        have := congrArg List.length hd
        simp [polyB, ptail] at this
        omega
      unfold crossref_SumOf_l2
      rw [if_neg (by simp; omega), wrap_1 (by omega)]; rfl
    rw [iter_eq]; simp only [e]; rfl
  | p :: ps, done, pre, [], hd, hp, hc => by simp at hc
  | p :: ps, done, pre, c :: cur, hd, hp, hc => by
    have hl : done.length + ps.length + 1 = 17 := by
      have := congrArg List.length hd
      simp [polyB, ptail] at this
      omega
    have e : crossref_SumOf_l2 (i : Int) (done.length : Int) ((pre ++ c :: cur).map bI) = some (.inl (((done ++ [p]).length : Int), ((pre ++ [c ^^ p]) ++ cur).map bI)) := by
      unfold crossref_SumOf_l2
      have hxn : ixN ([1, 0, 0, 0, 1, 0, 0, 0, 0, 0, 0, 1, 0, 0, 0, 0, 1] : List Nat) (done.length : Int) = some done.length := ixN_at (by simp; omega)
      rw [if_pos (by simp; omega), hxn, wrap_ok (n := (i : Int) + (done.length : Int)) (by omega) (by omega)]
      simp only [Option.bind_some]
      rw [poly_eq, hd, bI_at]
      simp only [Option.bind_some]
      have hix : (i : Int) + (done.length : Int) = (pre.length : Int) := by omega
      rw [hix, bI_ix]
      simp only [Option.bind_some]
      rw [bI_at]
      simp only [Option.bind_some]
      rw [bI_xor, bI_set, wrap_1 (by omega)]
      simp
    rw [iter_eq]; simp only [e]
    rw [sumof_l2 i hi ps (done ++ [p]) (pre ++ [c ^^ p]) cur (by simp [hd]) (by simp; omega) (by simpa using hc)]
    simp [onto, Bool.xor_comm]

theorem repeat_in (n : Nat) (x : List Bool) : Nat.repeat dstep (n + 1) x = Nat.repeat dstep n (dstep x) := by
  induction n generalizing x with
  | zero => rfl
  | succ n ih => show dstep (Nat.repeat dstep (n + 1) x) = dstep (Nat.repeat dstep n (dstep x)); rw [ih]

theorem sumof_l4 : ∀ (n : Nat) (pre cur : List Bool), cur.length = 16 + n → pre.length + n ≤ 1099511627776 →
    iter (fun ss : Int × List Int => crossref_SumOf_l4 ss.1 ss.2) ((pre.length : Int), (pre ++ cur).map bI) = some ((bval (Nat.repeat dstep n cur) : Nat) : Int)
  | 0, pre, cur, h, hb => by
    have e : crossref_SumOf_l4 (pre.length : Int) ((pre ++ cur).map bI) = some (.inr ((bval cur : Nat) : Int)) := by
      unfold crossref_SumOf_l4
      rw [wrap_ok (n := (pre.length : Int) + 16) (by omega) (by omega), if_neg (by simp; omega)]
      have hl : (((pre ++ cur).map bI).length : Int) - 16 = (pre.length : Int) := by simp; omega
      rw [hl, wrap_ok (by omega) (by omega), sub_end (by simp)]
      simp only [Option.bind_some]
      have hd : ((pre ++ cur).map bI).drop pre.length = ([] ++ cur).map bI := by simp
      rw [hd]
      have := sumof_l3 cur [] (by simpa using h)
      have h0 : ((bval [] : Nat) : Int) = 0 := rfl
      have h1 : (([] : List Bool).length : Int) = 0 := rfl
      rw [h0, h1] at this
      rw [this]; rfl
    rw [iter_eq]; simp only [e]; rfl
  | n + 1, pre, [], h, hb => by simp at h
  | n + 1, pre, b :: r, h, hb => by
    have hr : r.length = 16 + n := by simp at h; omega
    have w16 : IntKind.i64.wrap ((pre.length : Int) + 16) = (pre.length : Int) + 16 := wrap_ok (by omega) (by omega)
    rw [repeat_in]
    cases b with
    | false =>
      have e : crossref_SumOf_l4 (pre.length : Int) ((pre ++ false :: r).map bI) = some (.inl (((pre ++ [false]).length : Int), ((pre ++ [false]) ++ r).map bI)) := by
        unfold crossref_SumOf_l4
        rw [w16, if_pos (by simp; omega), bI_ix]
        simp only [Option.bind_some]
        rw [bI_at]
        simp only [Option.bind_some]
        rw [if_neg (by decide), wrap_1 (by omega)]
        simp
      rw [iter_eq]; simp only [e]
      exact sumof_l4 n (pre ++ [false]) r hr (by simp; omega)
    | true =>
      have hl2 := sumof_l2 pre.length (by omega) polyB [] pre (true :: r) rfl rfl (by simp [polyB, ptail, hr])
      have e : crossref_SumOf_l4 (pre.length : Int) ((pre ++ true :: r).map bI) = some (.inl (((pre ++ [false]).length : Int), ((pre ++ [false]) ++ onto ptail r).map bI)) := by
        unfold crossref_SumOf_l4
        rw [w16, if_pos (by simp; omega), bI_ix]
        simp only [Option.bind_some]
        rw [bI_at]
        simp only [Option.bind_some]
        rw [if_pos (by decide)]
        refine Eq.trans hl2 ?_
        simp [polyB, onto]
      rw [iter_eq]; simp only [e]
      exact sumof_l4 n (pre ++ [false]) (onto ptail r) (by rw [onto_len]; exact hr) (by simp; omega)

theorem sumof_l5 : ∀ (n : Nat) (pre cur : List Bool), pre.length + n = 16 → n ≤ cur.length → pre.length + cur.length ≤ 1099511627776 →
    iter (fun ss : Int × List Int => crossref_SumOf_l5 ss.1 ss.2) ((pre.length : Int), (pre ++ cur).map bI) = iter (fun ss : Int × List Int => crossref_SumOf_l4 ss.1 ss.2) (0, (pre ++ onto (List.replicate n true) cur).map bI)
  | 0, pre, cur, h, _, _ => by
    have e : crossref_SumOf_l5 (pre.length : Int) ((pre ++ cur).map bI) = (iter (fun ss : Int × List Int => crossref_SumOf_l4 ss.1 ss.2) (0, (pre ++ cur).map bI)).map .inr := by
      unfold crossref_SumOf_l5
      rw [if_neg (by simp; omega)]
    rw [iter_eq]; simp only [e]
    show _ = iter _ (0, (pre ++ cur).map bI)
    cases iter (fun ss : Int × List Int => crossref_SumOf_l4 ss.1 ss.2) (0, (pre ++ cur).map bI) <;> rfl
  | n + 1, pre, [], h, hn, _ => by simp at hn
  | n + 1, pre, c :: cur, h, hn, hb => by
    have e : crossref_SumOf_l5 (pre.length : Int) ((pre ++ c :: cur).map bI) = some (.inl (((pre ++ [c ^^ true]).length : Int), ((pre ++ [c ^^ true]) ++ cur).map bI)) := by
      unfold crossref_SumOf_l5
      rw [if_pos (by simp; omega), bI_ix]
      simp only [Option.bind_some]
      rw [bI_at]
      simp only [Option.bind_some]
      have : ibits .xor .u8 (bI c) 1 = bI (c ^^ true) := bI_xor c true
      rw [this, bI_set, wrap_1 (by omega)]
      simp
    rw [iter_eq]; simp only [e]
    rw [sumof_l5 n (pre ++ [c ^^ true]) cur (by simp; omega) (by simpa using hn) (by simp at hb ⊢; omega)]
    simp [List.replicate_succ, onto]

theorem SumOf_eq (p : List UInt8) (hp : p.length ≤ 1073741824) : crossref_SumOf p = some ((crc p : Nat) : Int) := by
  have hbl : ∀ x : UInt8, (bitsB x).length = 8 := fun x => by simp [bitsB, bitsN]
  have hfl : ∀ l : List UInt8, (l.flatMap bitsB).length = 8 * l.length := by
    intro l
    induction l with
    | nil => rfl
    | cons x l ih => rw [List.flatMap_cons, List.length_append, hbl, ih, List.length_cons]; omega
  have key : ∀ (n k : Nat), k + n = p.length → iter (fun ss : Int × List Int => crossref_SumOf_l6 p ss.1 ss.2) ((k : Int), ((p.take k).flatMap bitsB).map bI) = some ((crc p : Nat) : Int) := by
    intro n
    induction n with
    | zero =>
      intro k hk
      have hk : k = p.length := by omega
      subst hk
      have e : crossref_SumOf_l6 p (p.length : Int) (((p.take p.length).flatMap bitsB).map bI) = some (.inr ((crc p : Nat) : Int)) := by
        unfold crossref_SumOf_l6
        rw [if_neg (by simp), List.take_length]
        have hz : appz ((p.flatMap bitsB).map bI) 16 0 = some ((p.flatMap bitsB ++ List.replicate 16 false).map bI) := by
          unfold appz
          rw [if_pos (by simp only [List.length_map, hfl]; omega), List.map_append]; rfl
        rw [hz]
        simp only [Option.bind_some]
        have h5 := sumof_l5 16 [] (p.flatMap bitsB ++ List.replicate 16 false) rfl (by simp) (by simp only [List.length_nil, List.length_append, hfl, List.length_replicate]; omega)
        have h4 := sumof_l4 (p.flatMap bitsB).length [] (onto (List.replicate 16 true) (p.flatMap bitsB ++ List.replicate 16 false)) (by rw [onto_len, List.length_append, List.length_replicate]; omega) (by simp only [List.length_nil, hfl]; omega)
        rw [sum_divide] at h4
        simp only [List.nil_append, List.length_nil, Int.natCast_zero] at h5 h4
        rw [h5, h4]; rfl
      rw [iter_eq]; simp only [e]
    | succ n ih =>
      intro k hk
      have hlt : k < p.length := by omega
      obtain ⟨x, hx⟩ : ∃ x, p[k]? = some x := ⟨_, List.getElem?_eq_getElem hlt⟩
      have h1 := sumof_l1 p k x (idx_at hx) (by omega) 8 (((p.take k).flatMap bitsB).map bI) (by omega) (by simp only [List.length_map, hfl, List.length_take]; omega)
      have e : crossref_SumOf_l6 p (k : Int) (((p.take k).flatMap bitsB).map bI) = some (.inl (((k + 1 : Nat) : Int), ((p.take (k + 1)).flatMap bitsB).map bI)) := by
        unfold crossref_SumOf_l6
        rw [if_pos (by simp; omega)]
        have h7 : ((8 : Nat) : Int) - 1 = 7 := rfl
        rw [h7] at h1
        refine Eq.trans h1 ?_
        rw [List.take_add_one, hx]
        simp [bitsB]
      rw [iter_eq]; simp only [e]
      exact ih (k + 1) (by omega)
  unfold crossref_SumOf
  have hm : mk0 (α := Int) (IntKind.i64.wrap ((IntKind.i64.wrap (8 * ((p).length : Int))) + 16)) = some [] := by
    rw [wrap_ok (n := 8 * (p.length : Int)) (by omega) (by omega), wrap_ok (by omega) (by omega)]
    unfold mk0; rw [if_pos (by omega)]
  rw [hm]
  simp only [Option.bind_some]
  exact key p.length 0 (by omega)
end Go.Proofs.Ytegkmfokfakeiaa
