/-
  crossref.SumOf is the sum of the frames: long division of bits is the register. Plain.
-/
import Derived.Test.YtegkmfokfakeiaaPFrame
namespace Go.Proofs.Ytegkmfokfakeiaa
set_option linter.unusedVariables false
set_option linter.unusedSimpArgs false

/- bits, the first the greatest -/
def bval (l : List Bool) : Nat := l.foldl (fun n b => 2 * n + b.toNat) 0
theorem bval_go (l : List Bool) : ∀ n : Nat, l.foldl (fun n b => 2 * n + b.toNat) n = 2 ^ l.length * n + bval l := by
  induction l with
  | nil => intro n; simp [bval]
  | cons b l ih =>
    intro n
    unfold bval
    rw [List.foldl_cons, List.foldl_cons, ih, ih (2 * 0 + b.toNat), List.length_cons, Nat.pow_succ]
    simp only [Nat.mul_zero, Nat.zero_add, Nat.mul_add]
    rw [Nat.mul_assoc]; omega
theorem bval_cons (b : Bool) (l : List Bool) : bval (b :: l) = 2 ^ l.length * b.toNat + bval l := by
  show (b :: l).foldl _ 0 = _
  rw [List.foldl_cons, bval_go]; simp
theorem bval_snoc (l : List Bool) (b : Bool) : bval (l ++ [b]) = 2 * bval l + b.toNat := by
  unfold bval; rw [List.foldl_append]; rfl
theorem bval_lt (l : List Bool) : bval l < 2 ^ l.length := by
  induction l with
  | nil => simp [bval]
  | cons b l ih => rw [bval_cons, List.length_cons, Nat.pow_succ]; cases b <;> simp <;> omega
/-- The first list, xor'ed onto the head of the second. -/
def onto : List Bool → List Bool → List Bool
  | [], ms => ms
  | _ :: _, [] => []
  | a :: as, m :: ms => (a ^^ m) :: onto as ms
theorem onto_len (as : List Bool) : ∀ ms, (onto as ms).length = ms.length := by
  induction as with
  | nil => intro ms; rfl
  | cons a as ih => intro ms; cases ms <;> simp [onto, ih]
theorem xor_two (a b : Nat) (x y : Bool) : (2 * a + x.toNat) ^^^ (2 * b + y.toNat) = 2 * (a ^^^ b) + (x ^^ y).toNat := by
  apply Nat.eq_of_testBit_eq
  intro i
  have h1 : ∀ (n : Nat) (z : Bool) (i : Nat), (2 * n + z.toNat).testBit i = if i = 0 then z else n.testBit (i - 1) := by
    intro n z i
    cases i with
    | zero => cases z <;> simp [Nat.testBit_zero] <;> omega
    | succ i =>
      rw [Nat.testBit_succ, if_neg (by omega)]
      have : (2 * n + z.toNat) / 2 = n := by cases z <;> simp <;> omega
      rw [this]; rfl
  rw [Nat.testBit_xor, h1, h1, h1]
  split <;> simp [Nat.testBit_xor]
theorem xor_hi_lo (k a b r s : Nat) (hr : r < 2 ^ k) (hs : s < 2 ^ k) : (2 ^ k * a + r) ^^^ (2 ^ k * b + s) = 2 ^ k * (a ^^^ b) + (r ^^^ s) := by
  apply Nat.eq_of_testBit_eq
  intro i
  have hx : r ^^^ s < 2 ^ k := Nat.xor_lt_two_pow hr hs
  rw [Nat.testBit_xor, Nat.testBit_two_pow_mul_add a hr, Nat.testBit_two_pow_mul_add b hs, Nat.testBit_two_pow_mul_add _ hx]
  split <;> simp [Nat.testBit_xor]
theorem bval_onto (as : List Bool) : ∀ ms : List Bool, as.length = ms.length → bval (onto as ms) = bval as ^^^ bval ms := by
  induction as with
  | nil => intro ms h; cases ms; simp [onto, bval]; simp at h
  | cons a as ih =>
    intro ms h
    cases ms with
    | nil => simp at h
    | cons m ms =>
      have h' : as.length = ms.length := by simpa using h
      show bval ((a ^^ m) :: onto as ms) = _
      rw [bval_cons, bval_cons, bval_cons, onto_len, h', ih ms h']
      have h1 := bval_lt as
      have h2 := bval_lt ms
      rw [h'] at h1
      rw [xor_hi_lo _ _ _ _ _ h1 h2]
      cases a <;> cases m <;> rfl
theorem onto_onto (as bs ms : List Bool) (h : as.length = bs.length) : onto as (onto bs ms) = onto (onto as bs) ms := by
  induction as generalizing bs ms with
  | nil => cases bs; rfl; simp at h
  | cons a as ih =>
    cases bs with
    | nil => simp at h
    | cons b bs =>
      cases ms with
      | nil => rfl
      | cons m ms => simp [onto, ih bs ms (by simpa using h)]

/- one step of the division: the head goes; if it was set, the rest of the polynomial is taken off -/
def ptail : List Bool := [false, false, false, true, false, false, false, false, false, false, true, false, false, false, false, true]
def dstep : List Bool → List Bool
  | [] => []
  | b :: r => if b then onto ptail r else r
/-- The register's step. -/
def rstep (D : List Bool) (m : Bool) : List Bool :=
  match D with
  | [] => []
  | d :: D' => if d ^^ m then onto ptail (D' ++ [false]) else D' ++ [false]
theorem onto_pad : ∀ (as ms : List Bool), onto (as ++ [false]) ms = onto as ms
  | [], [] => rfl
  | [], m :: ms => by simp [onto]
  | a :: as, [] => rfl
  | a :: as, m :: ms => by
    show (a ^^ m) :: onto (as ++ [false]) ms = (a ^^ m) :: onto as ms
    rw [onto_pad as ms]
theorem dstep_onto (d m : Bool) (D M : List Bool) (hD : D.length = 15) : dstep (onto (d :: D) (m :: M)) = onto (rstep (d :: D) m) M := by
  show (if (d ^^ m) = true then onto ptail (onto D M) else onto D M) = onto (if (d ^^ m) = true then onto ptail (D ++ [false]) else D ++ [false]) M
  by_cases h : (d ^^ m) = true
  · rw [if_pos h, if_pos h, ← onto_onto _ _ _ (by simp [ptail, hD]), onto_pad]
  · rw [if_neg h, if_neg h, onto_pad]
theorem rstep_len (D : List Bool) (m : Bool) (h : D.length = 16) : (rstep D m).length = 16 := by
  cases D with
  | nil => simp at h
  | cons d D =>
    have hD : D.length = 15 := by simpa using h
    show (if (d ^^ m) = true then onto ptail (D ++ [false]) else D ++ [false]).length = 16
    split
    · rw [onto_len]; simp [hD]
    · simp [hD]
theorem crc1_two (n : Nat) : crc1 n = if 32768 ≤ n % 65536 then (n * 2) ^^^ 69665 else n * 2 := by
  unfold crc1
  have h : (n * 2) &&& 65536 ≠ 0 ↔ 32768 ≤ n % 65536 := by
    have e : (n * 2) &&& 65536 = 65536 * ((n * 2 / 65536) % 2) := by
      apply Nat.eq_of_testBit_eq
      intro i
      rw [Nat.testBit_and, show (65536 : Nat) = 2 ^ 16 from rfl, Nat.testBit_two_pow]
      have h2 := Nat.testBit_two_pow_mul_add (i := 16) ((n * 2 / 2 ^ 16) % 2) (b := 0) (by omega) i
      rw [Nat.add_zero] at h2
      rw [h2]
      by_cases hi : i < 16
      · rw [if_pos hi]; simp; omega
      · rw [if_neg hi]
        by_cases h16 : 16 = i
        · subst h16; simp [Nat.testBit_eq_decide_div_mod_eq]
        · have : (n * 2 / 2 ^ 16 % 2).testBit (i - 16) = false := Nat.testBit_lt_two_pow (Nat.lt_of_lt_of_le (Nat.mod_lt _ (by omega)) (by
            have : 1 ≤ i - 16 := by omega
            calc 2 = 2 ^ 1 := rfl
              _ ≤ 2 ^ (i - 16) := Nat.pow_le_pow_right (by omega) this))
          rw [this]; simp [h16]
    rw [e]; omega
  by_cases hc : 32768 ≤ n % 65536
  · rw [if_pos (h.2 hc), if_pos hc]
  · rw [if_neg (fun x => hc (h.1 x)), if_neg hc]
theorem rstep_val (D : List Bool) (m : Bool) (h : D.length = 16) : bval (rstep D m) = crc1 (bval D ^^^ (32768 * m.toNat)) := by
  cases D with
  | nil => simp at h
  | cons d D =>
    have hD : D.length = 15 := by simpa using h
    have hv := bval_lt D
    rw [hD] at hv
    have e1 : bval (d :: D) ^^^ (32768 * m.toNat) = 32768 * (d ^^ m).toNat + bval D := by
      rw [bval_cons, hD]
      have := xor_hi_lo 15 d.toNat m.toNat (bval D) 0 hv (by omega)
      simp only [Nat.add_zero, Nat.xor_zero] at this
      rw [show (32768 : Nat) = 2 ^ 15 from rfl, this]
      cases d <;> cases m <;> rfl
    rw [e1]
    have e2 : bval (D ++ [false]) = 2 * bval D := by rw [bval_snoc]; rfl
    show bval (if (d ^^ m) = true then onto ptail (D ++ [false]) else D ++ [false]) = _
    by_cases hc : (d ^^ m) = true
    · rw [if_pos hc, bval_onto _ _ (by simp [ptail, hD]), e2, hc]
      have hp : bval ptail = 4129 := by decide
      have hq : (32768 * Bool.toNat true + bval D) * 2 - 65536 = 2 * bval D := by
        have gen : ∀ z : Nat, (32768 * 1 + z) * 2 - 65536 = 2 * z := by intro z; omega
        exact gen _
      rw [hp, crc1_hi (by simp) (by simp; omega), hq, Nat.xor_comm]
    · rw [if_neg hc, e2, (Bool.not_eq_true _).mp hc, crc1_lo (by simp; omega)]
      simp; omega
/-- k bits of a byte, the greatest first. -/
def bitsN : Nat → Nat → List Bool
  | 0, _ => []
  | k + 1, n => n.testBit k :: bitsN k n
def bitsB (b : UInt8) : List Bool := bitsN 8 b.toNat
theorem crc1_lin (x y : Nat) (hx : x < 65536) (hy : y < 32768) : crc1 (x ^^^ y) = crc1 x ^^^ (2 * y) := by
  have hxl : x % 32768 < 2 ^ 15 := Nat.mod_lt _ (by omega)
  have e : x ^^^ y = 32768 * (x / 32768) + (x % 32768 ^^^ y) := by
    have := xor_hi_lo 15 (x / 32768) 0 (x % 32768) y hxl hy
    simp only [Nat.mul_zero, Nat.zero_add, Nat.xor_zero, Nat.reducePow] at this
    rw [← this, Nat.div_add_mod]
  have hz : x % 32768 ^^^ y < 2 ^ 15 := Nat.xor_lt_two_pow hxl hy
  have d2 : ∀ a b : Nat, (2 * a) ^^^ (2 * b) = 2 * (a ^^^ b) := fun a b => by simpa using xor_two a b false false
  by_cases h : x < 32768
  · rw [crc1_lo h, crc1_lo (by omega), Nat.mul_comm _ 2, Nat.mul_comm x 2, d2]
  · have hd : x / 32768 = 1 := by omega
    rw [hd] at e
    rw [crc1_hi (by omega) hx, crc1_hi (by omega) (by omega)]
    have e3 : (x ^^^ y) * 2 - 65536 = (x * 2 - 65536) ^^^ (2 * y) := by
      have gen : ∀ q z : Nat, q = 32768 * 1 + z → q * 2 - 65536 = 2 * z := by intro q z h; omega
      have h1 : (x ^^^ y) * 2 - 65536 = 2 * (x % 32768 ^^^ y) := gen _ _ e
      have h2 : x * 2 - 65536 = 2 * (x % 32768) := gen _ _ (by have := Nat.div_add_mod x 32768; rw [hd] at this; exact this.symm)
      rw [h1, h2, d2]
    rw [e3, Nat.xor_assoc, Nat.xor_comm (2 * y), ← Nat.xor_assoc]
theorem feed : ∀ (k : Nat) (D : List Bool) (r : Nat), D.length = 16 → k ≤ 8 → r < 2 ^ k → bval ((bitsN k r).foldl rstep D) = crcN k (bval D ^^^ (r * 2 ^ (16 - k)))
  | 0, D, r, h, _, hr => by
    have : r = 0 := by simpa using hr
    subst this; simp [bitsN, crcN]
  | k + 1, D, r, h, hk, hr => by
    have hD := bval_lt D
    rw [h] at hD
    have hm : r % 2 ^ k < 2 ^ k := Nat.mod_lt _ (Nat.two_pow_pos k)
    have hsp : r = 2 ^ k * (r.testBit k).toNat + r % 2 ^ k := by
      have h1 := Nat.div_add_mod r (2 ^ k)
      have h2 : r / 2 ^ k < 2 := Nat.div_lt_of_lt_mul (by rw [Nat.pow_succ] at hr; omega)
      have h3 : (r.testBit k).toNat = r / 2 ^ k := by
        rw [Nat.testBit_eq_decide_div_mod_eq]
        rcases Nat.lt_or_ge (r / 2 ^ k) 1 with h4 | h4
        · have : r / 2 ^ k = 0 := Nat.lt_one_iff.1 h4
          rw [this]; rfl
        · have : r / 2 ^ k = 1 := Nat.le_antisymm (Nat.lt_succ_iff.1 h2) h4
          rw [this]; rfl
      rw [h3]; omega
    have hb : ∀ j, j ≤ k → bitsN j r = bitsN j (r % 2 ^ k) := by
      intro j
      induction j with
      | zero => intro _; rfl
      | succ j ih =>
        intro hj
        simp only [bitsN]
        rw [ih (by omega), Nat.testBit_mod_two_pow]
        simp; omega
    show bval ((bitsN k r).foldl rstep (rstep D (r.testBit k))) = _
    rw [hb k (Nat.le_refl _), feed k _ (r % 2 ^ k) (rstep_len D _ h) (by omega) hm, rstep_val D _ h]
    have hpw : (2 : Nat) ^ k * 2 ^ (16 - (k + 1)) = 32768 := by rw [← Nat.pow_add, show k + (16 - (k + 1)) = 15 by omega]
    have hpw2 : (2 : Nat) ^ (16 - k) = 2 * 2 ^ (16 - (k + 1)) := by rw [show 16 - k = (16 - (k + 1)) + 1 by omega, Nat.pow_succ]; omega
    have hlow : r % 2 ^ k * 2 ^ (16 - (k + 1)) < 32768 := by rw [← hpw]; exact Nat.mul_lt_mul_of_pos_right hm (Nat.two_pow_pos _)
    have hx : bval D ^^^ (32768 * (r.testBit k).toNat) < 65536 := Nat.xor_lt_two_pow (n := 16) hD (by cases r.testBit k <;> simp)
    have e1 : r * 2 ^ (16 - (k + 1)) = 32768 * (r.testBit k).toNat ^^^ (r % 2 ^ k * 2 ^ (16 - (k + 1))) := by
      have := xor_hi_lo 15 (r.testBit k).toNat 0 0 (r % 2 ^ k * 2 ^ (16 - (k + 1))) (by omega) hlow
      simp only [Nat.mul_zero, Nat.zero_add, Nat.xor_zero, Nat.add_zero, Nat.zero_xor] at this
      rw [show (32768 : Nat) = 2 ^ 15 from rfl, this, ← (show 2 ^ k * 2 ^ (16 - (k + 1)) = 2 ^ 15 from hpw)]
      conv => lhs; rw [hsp]
      rw [Nat.add_mul, Nat.mul_assoc, Nat.mul_comm (r.testBit k).toNat, ← Nat.mul_assoc]
    have e2 : ∀ (k m : Nat), crcN (k + 1) m = crcN k (crc1 m) := fun k m => rfl
    rw [e2, e1, ← Nat.xor_assoc, crc1_lin _ _ hx hlow]
    congr 2
    rw [hpw2, Nat.mul_left_comm]
theorem feedB (D : List Bool) (b : UInt8) (h : D.length = 16) : bval ((bitsB b).foldl rstep D) = crcB (bval D) b := by
  unfold bitsB crcB
  rw [feed 8 D b.toNat h (by omega) b.toNat_lt]
theorem foldr_len (l : List Bool) : ∀ D : List Bool, D.length = 16 → (l.foldl rstep D).length = 16 := by
  induction l with
  | nil => intro D h; exact h
  | cons b l ih => intro D h; exact ih _ (rstep_len D b h)
theorem feedL (bs : List UInt8) : ∀ (D : List Bool), D.length = 16 → bval ((bs.flatMap bitsB).foldl rstep D) = bs.foldl crcB (bval D) := by
  induction bs with
  | nil => intro D h; rfl
  | cons b bs ih =>
    intro D h
    rw [List.flatMap_cons, List.foldl_append, List.foldl_cons, ih _ (foldr_len _ _ h), feedB D b h]
/-- The division of a text's bits and 16 more, all 1 onto the first 16. -/
theorem divide : ∀ (M : List Bool) (D : List Bool), D.length = 16 → (Nat.repeat dstep M.length (onto D (M ++ List.replicate 16 false))) = M.foldl rstep D
  | [], D, h => by
    show onto D (List.replicate 16 false) = D
    have : ∀ (D : List Bool), onto D (List.replicate D.length false) = D := by
      intro D
      induction D with
      | nil => rfl
      | cons d D ih => simp [List.replicate_succ, onto, ih]
    rw [← h]; exact this D
  | m :: M, D, h => by
    cases D with
    | nil => simp at h
    | cons d D =>
      have hc : ∀ (n : Nat) (x : List Bool), Nat.repeat dstep (n + 1) x = Nat.repeat dstep n (dstep x) := by
        intro n
        induction n with
        | zero => intro x; rfl
        | succ n ih => intro x; show dstep (Nat.repeat dstep (n + 1) x) = dstep (Nat.repeat dstep n (dstep x)); rw [ih]
      rw [List.length_cons, hc]
      show Nat.repeat dstep M.length (dstep (onto (d :: D) (m :: (M ++ List.replicate 16 false)))) = M.foldl rstep (rstep (d :: D) m)
      rw [dstep_onto d m D _ (by simpa using h)]
      exact divide M _ (rstep_len _ m h)
theorem ones_val : bval (List.replicate 16 true) = 65535 := by decide
theorem sum_divide (bs : List UInt8) : bval (Nat.repeat dstep (bs.flatMap bitsB).length (onto (List.replicate 16 true) (bs.flatMap bitsB ++ List.replicate 16 false))) = crc bs := by
  rw [divide _ _ (by simp), feedL bs _ (by simp), ones_val]; rfl
end Go.Proofs.Ytegkmfokfakeiaa
