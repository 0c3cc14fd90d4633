/-
  What the functions of frame compute: plain.
-/
import Derived.Test.YtpndpdbabblphaaPlib
import Derived.Test.YtpndpdbabblphaaSh
namespace Go.Proofs.Ytpndpdbabblphaa
set_option linter.unusedVariables false
set_option linter.unusedSimpArgs false

theorem ofInt_i64 (a : Nat) (ha : a < 9223372036854775808) : (BitVec.ofInt 64 (a : Int)).toNat = a := by
  rw [BitVec.toNat_ofInt]; omega
theorem bits_and (a b : Nat) (ha : a < 9223372036854775808) (hb : b < 9223372036854775808) : ibits .and .i64 (a : Int) (b : Int) = ((a &&& b : Nat) : Int) := by
  have hx : a &&& b < 2 ^ 63 := Nat.lt_of_le_of_lt Nat.and_le_left (by omega)
  show IntKind.i64.wrap ((BitVec.ofInt 64 (a : Int) &&& BitVec.ofInt 64 (b : Int)).toNat : Int) = _
  rw [BitVec.toNat_and, ofInt_i64 a ha, ofInt_i64 b hb, wrap_ok (by omega) (by omega)]
theorem bits_or (a b : Nat) (ha : a < 9223372036854775808) (hb : b < 9223372036854775808) : ibits .or .i64 (a : Int) (b : Int) = ((a ||| b : Nat) : Int) := by
  have hx : a ||| b < 2 ^ 63 := Nat.or_lt_two_pow (by omega) (by omega)
  show IntKind.i64.wrap ((BitVec.ofInt 64 (a : Int) ||| BitVec.ofInt 64 (b : Int)).toNat : Int) = _
  rw [BitVec.toNat_or, ofInt_i64 a ha, ofInt_i64 b hb, wrap_ok (by omega) (by omega)]
theorem bits_xor (a b : Nat) (ha : a < 9223372036854775808) (hb : b < 9223372036854775808) : ibits .xor .i64 (a : Int) (b : Int) = ((a ^^^ b : Nat) : Int) := by
  have hx : a ^^^ b < 2 ^ 63 := Nat.xor_lt_two_pow (by omega) (by omega)
  show IntKind.i64.wrap ((BitVec.ofInt 64 (a : Int) ^^^ BitVec.ofInt 64 (b : Int)).toNat : Int) = _
  rw [BitVec.toNat_xor, ofInt_i64 a ha, ofInt_i64 b hb, wrap_ok (by omega) (by omega)]

/-- One bit of the sum. -/
def crc1 (n : Nat) : Nat := if (n * 2) &&& 65536 ≠ 0 then (n * 2) ^^^ 69665 else n * 2
def crcN : Nat → Nat → Nat
  | 0, n => n
  | k + 1, n => crcN k (crc1 n)
def crcB (n : Nat) (b : UInt8) : Nat := crcN 8 (n ^^^ (b.toNat * 256))
/-- The sum of bytes. -/
def crc (l : List UInt8) : Nat := l.foldl crcB 65535

theorem and_hi (q r q' r' : Nat) (hr : r < 65536) (hr' : r' < 65536) : (65536 * q + r) &&& (65536 * q' + r') = 65536 * (q &&& q') + (r &&& r') := by
  have hrr : r &&& r' < 2 ^ 16 := Nat.lt_of_le_of_lt Nat.and_le_left hr
  apply Nat.eq_of_testBit_eq
  intro i
  have e : (65536 : Nat) = 2 ^ 16 := by decide
  rw [e] at hr hr' ⊢
  rw [Nat.testBit_and, Nat.testBit_two_pow_mul_add _ hr, Nat.testBit_two_pow_mul_add _ hr', Nat.testBit_two_pow_mul_add _ hrr]
  split <;> simp [Nat.testBit_and]
theorem xor_hi (q r q' r' : Nat) (hr : r < 65536) (hr' : r' < 65536) : (65536 * q + r) ^^^ (65536 * q' + r') = 65536 * (q ^^^ q') + (r ^^^ r') := by
  have hrr : r ^^^ r' < 2 ^ 16 := Nat.xor_lt_two_pow (n := 16) (by omega) (by omega)
  apply Nat.eq_of_testBit_eq
  intro i
  have e : (65536 : Nat) = 2 ^ 16 := by decide
  rw [e] at hr hr' ⊢
  rw [Nat.testBit_xor, Nat.testBit_two_pow_mul_add _ hr, Nat.testBit_two_pow_mul_add _ hr', Nat.testBit_two_pow_mul_add _ hrr]
  split <;> simp [Nat.testBit_xor]
theorem xor_lt16 {a b : Nat} (ha : a < 65536) (hb : b < 65536) : a ^^^ b < 65536 := Nat.xor_lt_two_pow (n := 16) ha hb
theorem crc1_lo {n : Nat} (h : n < 32768) : crc1 n = n * 2 := by
  have e : (n * 2) &&& 65536 = 0 := by
    have := and_hi 0 (n * 2) 1 0 (by omega) (by omega)
    simpa using this
  unfold crc1
  rw [e]; rfl
theorem crc1_hi {n : Nat} (h : 32768 ≤ n) (h' : n < 65536) : crc1 n = (n * 2 - 65536) ^^^ 4129 := by
  have e : n * 2 = 65536 * 1 + (n * 2 - 65536) := by omega
  have e1 : (n * 2) &&& 65536 = 65536 := by
    have := and_hi 1 (n * 2 - 65536) 1 0 (by omega) (by omega)
    rw [← e] at this
    simpa using this
  have e2 := xor_hi 1 (n * 2 - 65536) 1 4129 (by omega) (by omega)
  rw [← e] at e2
  unfold crc1
  rw [e1, if_pos (by decide)]
  simpa using e2
theorem crc1_lt {n : Nat} (h : n < 65536) : crc1 n < 65536 := by
  by_cases h' : n < 32768
  · rw [crc1_lo h']; omega
  · rw [crc1_hi (by omega) h]; exact xor_lt16 (by omega) (by decide)
theorem crcN_lt {k n : Nat} (h : n < 65536) : crcN k n < 65536 := by
  induction k generalizing n with
  | zero => exact h
  | succ k ih => exact ih (crc1_lt h)
theorem crcN_last {k n : Nat} : crcN (k + 1) n = crc1 (crcN k n) := by
  induction k generalizing n with
  | zero => rfl
  | succ k ih => show crcN (k + 1) (crc1 n) = _; rw [ih]; rfl
theorem crcX_lt {n : Nat} {b : UInt8} (h : n < 65536) : n ^^^ (b.toNat * 256) < 65536 := xor_lt16 h (by have := b.toNat_lt; omega)
theorem crcB_lt {n : Nat} {b : UInt8} (h : n < 65536) : crcB n b < 65536 := crcN_lt (crcX_lt h)
theorem crcF_lt (l : List UInt8) : ∀ {n : Nat}, n < 65536 → l.foldl crcB n < 65536 := by
  induction l with
  | nil => exact fun h => h
  | cons b l ih => exact fun h => ih (crcB_lt h)
theorem crc_lt (l : List UInt8) : crc l < 65536 := crcF_lt l (by decide)


theorem wrap_n {n : Nat} (h : n < 9223372036854775808) : IntKind.i64.wrap (n : Int) = (n : Int) := wrap_ok (by omega) (by omega)
theorem wrap_b (c : UInt8) : IntKind.i64.wrap (c.toNat : Int) = (c.toNat : Int) := wrap_n (by have := c.toNat_lt; omega)
theorem u8_mod (n : Nat) : IntKind.u8.wrap (n : Int) = ((n % 256 : Nat) : Int) := by simp [IntKind.wrap, IntKind.signed, IntKind.bits]
theorem str_1 (n : Nat) : toStr [IntKind.u8.wrap (n : Int)] = [UInt8.ofNat n] := by
  unfold toStr
  rw [u8_mod]
  simp only [List.map_cons, List.map_nil, Int.toNat_natCast]
  congr 1
  exact UInt8.toNat_inj.1 (by simp)
theorem str_2 (n m : Nat) : toStr [IntKind.u8.wrap (n : Int), IntKind.u8.wrap (m : Int)] = [UInt8.ofNat n, UInt8.ofNat m] := by
  have h1 := str_1 n
  have h2 := str_1 m
  unfold toStr at *
  simp only [List.map_cons, List.map_nil, List.cons.injEq, and_true] at *
  exact ⟨h1, h2⟩
theorem shl_n {x k : Nat} (hk : k ≤ 64) (h : x * 2 ^ k < 9223372036854775808) : shl .i64 (x : Int) (k : Int) = some ((x * 2 ^ k : Nat) : Int) := by
  unfold shl
  rw [if_pos (by omega)]
  have e : min (k : Int).toNat IntKind.i64.bits = k := by
    have : IntKind.i64.bits = 64 := rfl
    rw [this]; simp; omega
  rw [e]
  congr 1
  have : ((x : Int) * 2 ^ k) = ((x * 2 ^ k : Nat) : Int) := by push_cast; rfl
  rw [this, wrap_n h]
theorem shr8 {x : Nat} (h : x < 9223372036854775808) : shr .i64 (x : Int) 8 = some ((x / 256 : Nat) : Int) := by
  unfold shr
  rw [if_pos (by omega)]
  have e : min (8 : Int).toNat IntKind.i64.bits = 8 := rfl
  rw [e]
  congr 1
  rw [Int.fdiv_eq_ediv_of_nonneg _ (by decide)]
  omega

theorem sum_inner (s2 : Int) : ∀ (n j x : Nat), j + n = 8 → x < 65536 → iter (fun ss : Int × Int => frame_sum_l1 s2 ss.1 ss.2) ((x : Int), (j : Int)) = some (.inl (((crcN n x : Nat) : Int), IntKind.i64.wrap (s2 + 1)))
  | 0, j, x, hj, hx => by
    have e : frame_sum_l1 s2 (x : Int) (j : Int) = some (.inr (.inl ((x : Int), IntKind.i64.wrap (s2 + 1)))) := by
      unfold frame_sum_l1
      rw [if_neg (by simp; omega)]; rfl
    rw [iter_eq]; simp only [e]; rfl
  | n + 1, j, x, hj, hx => by
    have h1 : shl .i64 (x : Int) 1 = some ((x * 2 : Nat) : Int) := by
      have := shl_n (x := x) (k := 1) (by omega) (by omega)
      simpa using this
    have ha : ibits .and .i64 ((x * 2 : Nat) : Int) 65536 = (((x * 2) &&& 65536 : Nat) : Int) := bits_and (x * 2) 65536 (by omega) (by decide)
    have hb : ibits .xor .i64 ((x * 2 : Nat) : Int) 69665 = (((x * 2) ^^^ 69665 : Nat) : Int) := bits_xor (x * 2) 69665 (by omega) (by decide)
    have e : frame_sum_l1 s2 (x : Int) (j : Int) = some (.inl (((crc1 x : Nat) : Int), ((j + 1 : Nat) : Int))) := by
      unfold frame_sum_l1
      rw [if_pos (by simp; omega), h1]
      simp only [Option.bind_some]
      rw [ha, hb, wrap_1 (by omega)]
      unfold crc1
      by_cases hc : (x * 2) &&& 65536 = 0
      · rw [if_neg (by simp [hc]), if_neg (by simp [hc])]
      · rw [if_pos (by simpa using hc), if_pos (by simpa using hc)]
    rw [iter_eq]; simp only [e]
    exact sum_inner s2 n (j + 1) (crc1 x) (by omega) (crc1_lt hx)
theorem frame_sum_eq (b : List UInt8) (hb : b.length ≤ 1099511627776) : frame_sum b = some ((crc b : Nat) : Int) := by
  unfold frame_sum
  have := iter_list0 (σ := Fin 65536) b hb (fun k st => ((st.val : Int), (k : Int))) (body := fun ss : Int × Int => frame_sum_l2 b ss.1 ss.2)
    (fun k x st => some (.inl ⟨crcB st.val x, crcB_lt st.isLt⟩)) (fun st => some (st.val : Int)) ⟨65535, by decide⟩
    (fun k x st _ hk h1 h2 h3 => by
      show frame_sum_l2 b (st.val : Int) (k : Int) = _
      unfold frame_sum_l2
      rw [h2, h1]
      simp only [if_true, Option.bind_some, wrap_b]
      have hx := x.toNat_lt
      have hst := st.isLt
      have h4 : shl .i64 (x.toNat : Int) 8 = some ((x.toNat * 256 : Nat) : Int) := by
        have := shl_n (x := x.toNat) (k := 8) (by omega) (by omega)
        simpa using this
      rw [h4]
      simp only [Option.bind_some]
      rw [bits_xor _ _ (by omega) (by omega)]
      have := sum_inner (k : Int) 8 0 (st.val ^^^ x.toNat * 256) (by omega) (crcX_lt st.isLt)
      rw [h3] at this
      exact this)
    (fun st h => by
      show frame_sum_l2 b (st.val : Int) (b.length : Int) = _
      unfold frame_sum_l2
      rw [h]; rfl)
  refine Eq.trans this ?_
  have fold : ∀ (ys : List UInt8) (k : Nat) (st : Fin 65536), foldE (σ := Fin 65536) (ρ := Int) (fun k x st => some (.inl ⟨crcB st.val x, crcB_lt st.isLt⟩)) (fun st => some (st.val : Int)) k ys st = some ((ys.foldl crcB st.val : Nat) : Int) := by
    intro ys
    induction ys with
    | nil => intro k st; rfl
    | cons y ys ih => intro k st; unfold foldE; simp only; rw [ih]; rfl
  rw [fold]; rfl

/-- A record of bytes: how many, they, their sum. -/
def frm (b : List UInt8) : List UInt8 := UInt8.ofNat b.length :: b ++ [UInt8.ofNat (crc (UInt8.ofNat b.length :: b) / 256), UInt8.ofNat (crc (UInt8.ofNat b.length :: b))]
def putR (b : List UInt8) : List UInt8 × Int := if b = [] then ([], 4) else if 60 < b.length then ([], 2) else (frm b, 0)


theorem frame_Put_eq (b : List UInt8) : frame_Put b = some (putR b) := by
  unfold frame_Put putR
  by_cases h1 : b = []
  · rw [if_pos (by simp [h1]), if_pos h1]
  rw [if_neg (by simpa using h1), if_neg h1]
  by_cases h2 : 60 < b.length
  · rw [if_pos (by simp; omega), if_pos h2]
  rw [if_neg (by simp; omega), if_neg h2, str_1, cat_ok (by simp; omega)]
  simp only [Option.bind_some, List.singleton_append]
  rw [frame_sum_eq _ (by simp; omega)]
  simp only [Option.bind_some]
  have hc := crc_lt (UInt8.ofNat b.length :: b)
  rw [shr8 (by omega)]
  simp only [Option.bind_some]
  rw [str_2, cat_ok (by simp; omega)]
  simp [frm]

/-- The record at the head of bytes, if there is one: what it holds. -/
def recAt (r : List UInt8) : Option (List UInt8) :=
  match r with
  | [] => none
  | h :: t =>
    if h.toNat < 1 ∨ 60 < h.toNat ∨ t.length + 1 < h.toNat + 3 then none
    else if (t.getD h.toNat 0).toNat * 256 + (t.getD (h.toNat + 1) 0).toNat ≠ crc (h :: t.take h.toNat) then none
    else some (t.take h.toNat)
/-- All records of bytes, and how many bytes they take. -/
def records : Nat → List UInt8 → List (List UInt8) × Nat
  | 0, _ => ([], 0)
  | n + 1, r =>
    match recAt r with
    | none => ([], 0)
    | some p => (p :: (records n (r.drop (p.length + 3))).1, p.length + 3 + (records n (r.drop (p.length + 3))).2)
def readR (b : List UInt8) : List (List UInt8) × Int × Int :=
  if 12800 < b.length then ([], 0, 2) else ((records b.length b).1, ((records b.length b).2 : Int), 0)


theorem frame_Read_eq (b : List UInt8) : frame_Read b = some (readR b) := by
  unfold frame_Read readR
  by_cases h0 : 12800 < b.length
  · rw [if_pos (by simp; omega), if_pos h0]
  rw [if_neg (by simp; omega), if_neg h0]
  have key : ∀ (n u : Nat) (acc : List (List UInt8)), u ≤ b.length → acc.length ≤ u → b.length ≤ u + n →
      iter (fun ss : Int × List (List UInt8) => frame_Read_l1 b ss.1 ss.2) ((u : Int), acc) = some (acc ++ (records n (b.drop u)).1, ((u + (records n (b.drop u)).2 : Nat) : Int), 0) := by
    intro n
    induction n with
    | zero =>
      intro u acc hu ha hn
      have e : frame_Read_l1 b (u : Int) acc = some (.inr (acc, (u : Int), 0)) := by
        unfold frame_Read_l1
        rw [if_neg (by simp; omega)]; rfl
      rw [iter_eq]; simp only [e]; simp [records]
    | succ n ih =>
      intro u acc hu ha hn
      have stop : recAt (b.drop u) = none → frame_Read_l1 b (u : Int) acc = some (.inr (acc, (u : Int), 0)) → iter (fun ss : Int × List (List UInt8) => frame_Read_l1 b ss.1 ss.2) ((u : Int), acc) = some (acc ++ (records (n + 1) (b.drop u)).1, ((u + (records (n + 1) (b.drop u)).2 : Nat) : Int), 0) := by
        intro h1 h2
        rw [iter_eq]; simp only [h2]; simp [records, h1]
      by_cases hlt : u < b.length
      · have hr : b.drop u = b[u] :: b.drop (u + 1) := List.drop_eq_getElem_cons hlt
        generalize hc : b[u] = c at hr
        generalize ht : b.drop (u + 1) = t at hr
        have hlen : t.length + 1 + u = b.length := by rw [← ht]; simp; omega
        have hcl := c.toNat_lt
        have w1 : IntKind.i64.wrap ((c.toNat : Int) + 1) = ((c.toNat + 1 : Nat) : Int) := by rw [wrap_ok (by omega) (by omega)]; rfl
        have w2 : IntKind.i64.wrap ((c.toNat : Int) + 2) = ((c.toNat + 2 : Nat) : Int) := by rw [wrap_ok (by omega) (by omega)]; rfl
        have w3 : IntKind.i64.wrap ((c.toNat : Int) + 3) = ((c.toNat + 3 : Nat) : Int) := by rw [wrap_ok (by omega) (by omega)]; rfl
        have e1 : sub b (u : Int) (b.length : Int) = some (c :: t) := by rw [sub_end hu, hr]
        have e2 : idx (c :: t) 0 = some c := by simp [idx]
        rw [hr] at stop ⊢
        by_cases hbad : c.toNat < 1 ∨ 60 < c.toNat ∨ t.length + 1 < c.toNat + 3
        · refine stop (by simp only [recAt]; rw [if_pos hbad]) ?_
          unfold frame_Read_l1
          rw [if_pos (by simp; omega), e1]
          simp only [Option.bind_some]
          rw [e2]
          simp only [Option.bind_some, wrap_b, w1, w2, w3]
          rw [if_pos (by simp; omega)]; rfl
        have e3 : sub (c :: t) 0 ((c.toNat + 1 : Nat) : Int) = some (c :: t.take c.toNat) := by rw [sub_0 (by simp; omega)]; simp
        have e4 : sub (c :: t) 1 ((c.toNat + 1 : Nat) : Int) = some (t.take c.toNat) := by
          have := sub_ok (xs := c :: t) (i := 1) (j := c.toNat + 1) (by omega) (by simp; omega)
          simpa using this
        have hs := frame_sum_eq (c :: t.take c.toNat) (by simp; omega)
        have hcs := crc_lt (c :: t.take c.toNat)
        have hx : ∃ x, t[c.toNat]? = some x := ⟨_, List.getElem?_eq_getElem (by omega)⟩
        have hy : ∃ y, t[c.toNat + 1]? = some y := ⟨_, List.getElem?_eq_getElem (by omega)⟩
        obtain ⟨x, hx⟩ := hx
        obtain ⟨y, hy⟩ := hy
        have ix : idx (c :: t) ((c.toNat + 1 : Nat) : Int) = some x := idx_at (by simpa using hx)
        have iy : idx (c :: t) ((c.toNat + 2 : Nat) : Int) = some y := idx_at (by simpa using hy)
        have hxl := x.toNat_lt
        have hyl := y.toNat_lt
        have h8 : shl .i64 (x.toNat : Int) 8 = some ((x.toNat * 256 : Nat) : Int) := by
          have := shl_n (x := x.toNat) (k := 8) (by omega) (by omega)
          simpa using this
        have hor : x.toNat * 256 ||| y.toNat = x.toNat * 256 + y.toNat := by
          have := Nat.two_pow_add_eq_or_of_lt (i := 8) (b := y.toNat) hyl x.toNat
          rw [Nat.mul_comm x.toNat 256, show (256 : Nat) = 2 ^ 8 by decide, ← this]
        have hx' : t.getD c.toNat 0 = x := by rw [List.getD_eq_getElem?_getD, hx]; rfl
        have hy' : t.getD (c.toNat + 1) 0 = y := by rw [List.getD_eq_getElem?_getD, hy]; rfl
        by_cases hsum : x.toNat * 256 + y.toNat = crc (c :: t.take c.toNat)
        · have hsome : recAt (c :: t) = some (t.take c.toNat) := by simp only [recAt, hx', hy']; rw [if_neg hbad, if_neg (by omega)]
          have hp : (t.take c.toNat).length = c.toNat := by simp; omega
          have e : frame_Read_l1 b (u : Int) acc = some (.inl (((u + (c.toNat + 3) : Nat) : Int), acc ++ [t.take c.toNat])) := by
            unfold frame_Read_l1
            rw [if_pos (by simp; omega), e1]
            simp only [Option.bind_some]
            rw [e2]
            simp only [Option.bind_some, wrap_b, w1, w2, w3]
            rw [if_neg (by simp; omega), e3]
            simp only [Option.bind_some]
            rw [hs]
            simp only [Option.bind_some]
            rw [ix]
            simp only [Option.bind_some, wrap_b]
            rw [h8]
            simp only [Option.bind_some]
            rw [iy]
            simp only [Option.bind_some, wrap_b]
            rw [bits_or _ _ (by omega) (by omega), hor, if_neg (by simp [hsum]), e4]
            simp only [Option.bind_some]
            rw [app_ok (by simp; omega)]
            simp only [Option.bind_some]
            rw [show (u : Int) + ((c.toNat + 3 : Nat) : Int) = ((u + (c.toNat + 3) : Nat) : Int) by omega, wrap_n (by omega)]
          rw [iter_eq]; simp only [e]
          have hdrop : (c :: t).drop (c.toNat + 3) = b.drop (u + (c.toNat + 3)) := by rw [← hr, List.drop_drop]
          rw [ih (u + (c.toNat + 3)) (acc ++ [t.take c.toNat]) (by omega) (by simp; omega) (by omega)]
          have hstep : records (n + 1) (c :: t) = (t.take c.toNat :: (records n (b.drop (u + (c.toNat + 3)))).1, c.toNat + 3 + (records n (b.drop (u + (c.toNat + 3)))).2) := by
            simp only [records, hsome, hp, hdrop]
          rw [hstep]
          simp; omega
        · refine stop (by simp only [recAt, hx', hy']; rw [if_neg hbad, if_pos hsum]) ?_
          unfold frame_Read_l1
          rw [if_pos (by simp; omega), e1]
          simp only [Option.bind_some]
          rw [e2]
          simp only [Option.bind_some, wrap_b, w1, w2, w3]
          rw [if_neg (by simp; omega), e3]
          simp only [Option.bind_some]
          rw [hs]
          simp only [Option.bind_some]
          rw [ix]
          simp only [Option.bind_some, wrap_b]
          rw [h8]
          simp only [Option.bind_some]
          rw [iy]
          simp only [Option.bind_some, wrap_b]
          rw [bits_or _ _ (by omega) (by omega), hor, if_pos (by simp; omega)]; rfl
      · have hnil : b.drop u = [] := List.drop_of_length_le (by omega)
        refine stop (by rw [hnil]; rfl) ?_
        unfold frame_Read_l1
        rw [if_neg (by simp; omega)]; rfl
  have := key b.length 0 [] (by omega) (by simp) (by omega)
  simpa using this

theorem slices_Equal_string_eq (a b : List (List UInt8)) (ha : a.length ≤ 1099511627776) : slices_Equal_string a b = some (decide (a = b)) := by
  unfold slices_Equal_string
  by_cases hl : a.length = b.length
  · rw [if_neg (by simp; omega)]
    exact equal_loop a b ha hl (fun k x y h1 h2 h3 h4 => by
      unfold slices_Equal_string_l1
      rw [h1, h2, h3, h4]
      by_cases h : x = y <;> simp [h]) (fun h => by
      unfold slices_Equal_string_l1
      rw [h]; simp)
  · rw [if_pos (by simp; omega)]
    have : a ≠ b := fun e => hl (by rw [e])
    simp [this]
theorem slices_Equal_Choice_eq (a b : List Choice) (ha : a.length ≤ 1099511627776) : slices_Equal_Choice a b = some (decide (a = b)) := by
  unfold slices_Equal_Choice
  by_cases hl : a.length = b.length
  · rw [if_neg (by simp; omega)]
    exact equal_loop a b ha hl (fun k x y h1 h2 h3 h4 => by
      unfold slices_Equal_Choice_l1
      rw [h1, h2, h3, h4]
      by_cases h : x = y <;> simp [h]) (fun h => by
      unfold slices_Equal_Choice_l1
      rw [h]; simp)
  · rw [if_pos (by simp; omega)]
    have : a ≠ b := fun e => hl (by rw [e])
    simp [this]
theorem At_eq (k : Int) (n : Nat) (hn : 0 < n) (hn' : n ≤ 1099511627776) : crossref_At k (n : Int) = some (k % (n : Int)) := by
  unfold crossref_At rem
  have e := Int.tmod_eq_emod (a := k) (b := (n : Int))
  have h1 := Int.emod_nonneg k (by omega : (n : Int) ≠ 0)
  have h2 := Int.emod_lt_of_pos k (by omega : (0 : Int) < n)
  rw [if_neg (by omega)]
  simp only [Option.bind_some]
  rw [e]
  by_cases hc : 0 ≤ k ∨ (n : Int) ∣ k
  · rw [if_pos hc, if_neg (by simp; omega)]; simp
  · rw [if_neg hc, if_pos (by simp; omega), wrap_ok (by omega) (by omega)]
    congr 1; simp
end Go.Proofs.Ytpndpdbabblphaa
