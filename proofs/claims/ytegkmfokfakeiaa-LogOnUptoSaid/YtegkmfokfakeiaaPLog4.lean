/-
  The law LogGoes. Plain.
-/
import Derived.Test.YtegkmfokfakeiaaPLog2
import Derived.Test.YtegkmfokfakeiaaPRec
namespace Go.Proofs.Ytegkmfokfakeiaa
set_option linter.unusedVariables false
set_option linter.unusedSimpArgs false

def goodR (c : List Choice) : Prop := c ≠ [] ∧ c.length ≤ 29 ∧ ∀ x, x ∈ c → okC x
def recB (ep : Nat) (c : List Choice) : List UInt8 := frm (UInt8.ofNat ep :: c.flatMap bytesC)
def wr (ep : Nat) : Nat → List (List Choice) → List Write
  | _, [] => []
  | k, c :: cs => ⟨((120 + k : Nat) : Int), recB ep c⟩ :: wr ep (k + 1) cs
theorem wr_len (ep : Nat) : ∀ (k : Nat) (cs : List (List Choice)), (wr ep k cs).length = cs.length
  | _, [] => rfl
  | k, c :: cs => by simp [wr, wr_len ep (k + 1) cs]
theorem wr_app (ep : Nat) : ∀ (k : Nat) (cs ds : List (List Choice)), wr ep k (cs ++ ds) = wr ep k cs ++ wr ep (k + cs.length) ds
  | k, [], ds => by simp [wr]
  | k, c :: cs, ds => by
    have e : k + 1 + cs.length = k + (cs.length + 1) := by omega
    simp [wr, wr_app ep (k + 1) cs ds, e]
theorem wr_take (ep : Nat) : ∀ (k n : Nat) (cs : List (List Choice)), (wr ep k cs).take n = wr ep k (cs.take n)
  | k, 0, cs => by simp [wr]
  | k, n + 1, [] => by simp [wr]
  | k, n + 1, c :: cs => by simp [wr, wr_take ep (k + 1) n cs]
theorem recB_len (ep : Nat) (c : List Choice) (h : c.length ≤ 29) : (recB ep c).length ≤ 62 := by
  unfold recB
  rw [frm_len, List.length_cons, bytes_len]; omega
theorem wr_ok (ep : Nat) : ∀ (k : Nat) (cs : List (List Choice)), k + cs.length ≤ 80 → (∀ c, c ∈ cs → goodR c) → ∀ w, w ∈ wr ep k cs → okW w
  | _, [], _, _, w, hw => by simp [wr] at hw
  | k, c :: cs, h, hc, w, hw => by
    simp only [List.length_cons] at h
    simp only [wr, List.mem_cons] at hw
    rcases hw with rfl | hw
    · exact ⟨by show (0 : Int) ≤ ((120 + k : Nat) : Int); omega, by show ((120 + k : Nat) : Int) < 200; omega, by show (recB ep c).length ≤ 64; have := recB_len ep c (hc c (by simp)).2.1; omega⟩
    · exact wr_ok ep (k + 1) cs (by omega) (fun x hx => hc x (by simp [hx])) w hw

/-- What is appended, if it is. -/
theorem appL_ok (ep : Nat) (S : List (List UInt8)) : ∀ (n a : Nat) (l : List Choice) (w : List Write), l.length ≤ n → a ≤ 80 → (appL ep S n a l w).2.2 = 0 →
    ∃ cs : List (List Choice), appL ep S n a l w = (⟨S, w ++ wr ep a cs⟩, ((a + cs.length : Nat) : Int), 0) ∧ l = cs.flatten ∧ (∀ c, c ∈ cs → goodR c) ∧ a + cs.length ≤ 80
  | 0, a, l, w, h, ha, _ => by
    have hl0 : l = [] := List.eq_nil_of_length_eq_zero (by omega)
    exact ⟨[], by simp [appL, wr], by simp [hl0], by simp, by simpa using ha⟩
  | n + 1, a, l, w, h, ha, he => by
    unfold appL at he ⊢
    by_cases hl0 : l = []
    · rw [if_pos hl0]
      exact ⟨[], by simp [wr], by simp [hl0], by simp, by simpa using ha⟩
    rw [if_neg hl0] at he ⊢
    by_cases hc : (choicesR (l.take 29)).2 ≠ 0
    · rw [if_pos hc] at he; exact absurd he hc
    rw [if_neg hc] at he ⊢
    by_cases h80 : a = 80
    · rw [if_pos h80] at he; exact absurd he (by decide)
    rw [if_neg h80] at he ⊢
    by_cases h300 : w.length = 300
    · rw [if_pos h300] at he; exact absurd he (by decide)
    rw [if_neg h300] at he ⊢
    have hpos : 0 < l.length := List.length_pos_iff.2 hl0
    have hall : ∀ x, x ∈ l.take 29 → okC x := by
      by_cases hall : ∀ x, x ∈ l.take 29 → okC x
      · exact hall
      · exfalso; apply hc
        unfold choicesR
        rw [if_neg (by simp; omega), if_neg hall]; decide
    have hch : choicesR (l.take 29) = ((l.take 29).flatMap bytesC, 0) := by
      unfold choicesR
      rw [if_neg (by simp; omega), if_pos hall]
    rw [hch] at he ⊢
    obtain ⟨cs, h1, h2, h3, h4⟩ := appL_ok ep S n (a + 1) (l.drop 29) _ (by simp; omega) (by omega) he
    refine ⟨l.take 29 :: cs, ?_, ?_, ?_, by simp; omega⟩
    · rw [h1]
      have e : a + 1 + cs.length = a + (l.take 29 :: cs).length := by simp; omega
      rw [e]
      simp [wr, recB]
    · rw [List.flatten_cons, ← h2, List.take_append_drop]
    · intro c hc
      rcases List.mem_cons.1 hc with rfl | hc
      · exact ⟨fun h0 => by
          have := congrArg List.length h0
          rw [List.length_take, List.length_nil] at this
          omega, by simp; omega, hall⟩
      · exact h3 c hc

/-- The sectors behind the first records. -/
def sec (done : List (List UInt8)) : List (List UInt8) := if done = [] then [] else List.replicate 120 [] ++ done
theorem put_sec (done : List (List UInt8)) (r : List UInt8) : put1 (sec done) ⟨((120 + done.length : Nat) : Int), r⟩ = sec (done ++ [r]) := by
  unfold put1 sec
  simp only [Int.toNat_natCast]
  by_cases hd : done = []
  · subst hd; simp [List.replicate_succ]
  · rw [if_neg hd, if_neg (by simp)]
    have e1 : 120 + done.length + 1 - (List.replicate 120 ([] : List UInt8) ++ done).length = 1 := by simp; omega
    rw [e1]
    have e2 : 120 + done.length = (List.replicate 120 ([] : List UInt8) ++ done).length := by rw [List.length_append, List.length_replicate]
    rw [e2, List.set_append_right _ _ (Nat.le_refl _), Nat.sub_self]
    simp
theorem putW_wr (ep : Nat) : ∀ (cs : List (List Choice)) (done : List (List UInt8)), putW (sec done) (wr ep done.length cs) = sec (done ++ cs.map (recB ep))
  | [], done => by simp [wr, putW]
  | c :: cs, done => by
    show putW (put1 (sec done) ⟨((120 + done.length : Nat) : Int), recB ep c⟩) (wr ep (done.length + 1) cs) = _
    rw [put_sec]
    have := putW_wr ep cs (done ++ [recB ep c])
    rw [List.length_append, List.length_singleton] at this
    rw [this]; simp
theorem sec_drop (done : List (List UInt8)) : (sec done).drop 120 = done := by
  unfold sec
  split
  · rename_i h; rw [h]; rfl
  · rw [List.drop_left' (by simp)]

theorem recS_rec (ep ep' : Nat) (he : ep ≤ 200) (c : List Choice) (hc : goodR c) : recS (ep' : Int) (recB ep c) = if ep = ep' then c else [] := by
  have hb := bytes_len c
  have hok : okP (UInt8.ofNat ep :: c.flatMap bytesC) := ⟨by simp, by rw [List.length_cons]; have := hc.2.1; omega⟩
  have hr : records (recB ep c).length (recB ep c) = ([UInt8.ofNat ep :: c.flatMap bytesC], (recB ep c).length) := by
    have hl : (recB ep c).length = (UInt8.ofNat ep :: c.flatMap bytesC).length + 3 := frm_len _
    have h0 := recAt_frm (UInt8.ofNat ep :: c.flatMap bytesC) [] hok
    rw [List.append_nil] at h0
    rw [hl]
    generalize hm : (UInt8.ofNat ep :: c.flatMap bytesC).length + 2 = m
    have e : (UInt8.ofNat ep :: c.flatMap bytesC).length + 3 = m + 1 := by omega
    have hrec : recAt (recB ep c) = some (UInt8.ofNat ep :: c.flatMap bytesC) := h0
    have hdr : (recB ep c).drop ((UInt8.ofNat ep :: c.flatMap bytesC).length + 3) = [] := List.drop_of_length_le (by omega)
    have hnil : ∀ q, records q [] = ([], 0) := by intro q; cases q <;> simp [records, recAt]
    rw [e]
    simp only [records, hrec]
    rw [hdr, hnil]
    refine Prod.ext rfl ?_
    show (UInt8.ofNat ep :: c.flatMap bytesC).length + 3 + 0 = m + 1
    omega
  unfold recS
  rw [hr]
  have hep : ((UInt8.ofNat ep).toNat : Int) = (ep : Int) := by simp; omega
  simp only [List.head?_cons, Option.map_some, hep, true_and, List.tail_cons, Option.some.injEq]
  by_cases h : ep = ep'
  · rw [if_pos (by omega), if_pos h, (ofCh_small (by have := hc.2.1; omega)).1, ofBytes_back c hc.2.2]; rfl
  · rw [if_neg (by omega), if_neg h]
theorem scanL_same (ep : Nat) (he : ep ≤ 200) : ∀ cs : List (List Choice), (∀ c, c ∈ cs → goodR c) → scanL (ep : Int) (cs.map (recB ep)) = (cs.flatten, cs.length)
  | [], _ => by simp [scanL]
  | c :: cs, h => by
    have hc := h c (by simp)
    have ih := scanL_same ep he cs (fun x hx => h x (by simp [hx]))
    rw [List.map_cons]
    unfold scanL
    rw [recS_rec ep ep he c hc, if_pos rfl, if_neg hc.1, ih]
    simp; omega
theorem scanL_other (ep ep' : Nat) (he : ep ≤ 200) (hne : ep ≠ ep') (cs : List (List Choice)) (h : ∀ c, c ∈ cs → goodR c) : scanL (ep' : Int) (cs.map (recB ep)) = ([], 0) := by
  cases cs with
  | nil => rfl
  | cons c cs =>
    rw [List.map_cons]
    unfold scanL
    rw [recS_rec ep ep' he c (h c (by simp)), if_neg hne, if_pos rfl]

theorem goes_fin (parts : List (List Choice)) (ep : Nat) (he : ep ≤ 200) (n : Int) (cs : List (List Choice)) (hg : ∀ c, c ∈ cs → goodR c) (h80 : cs.length ≤ 80) (a k : Int) (hk : k = (parts.length : Int)) (hfl : cs.flatten.length ≤ 1099511627776) :
    crosslaw_LogGoes_l1 parts (ep : Int) n a k [] (wr ep 0 cs) cs.flatten = some (.inr true) := by
  have hw := wr_len ep 0 cs
  have od : okDisk ⟨[], wr ep 0 cs⟩ := ⟨by simp, by show (wr ep 0 cs).length ≤ 300; omega, by simp, wr_ok ep 0 cs (by omega) hg⟩
  unfold crosslaw_LogGoes_l1
  rw [if_neg (by simp; omega), wrap_1 (by omega), At_eq _ _ (by omega) (by omega)]
  simp only [Option.bind_some]
  have e1 := Int.emod_nonneg n (by omega : (((wr ep 0 cs).length + 1 : Nat) : Int) ≠ 0)
  have e2 := Int.emod_lt_of_pos n (by omega : (0 : Int) < (((wr ep 0 cs).length + 1 : Nat) : Int))
  obtain ⟨m, hm⟩ : ∃ m : Nat, n % (((wr ep 0 cs).length + 1 : Nat) : Int) = (m : Int) := ⟨_, (Int.toNat_of_nonneg e1).symm⟩
  rw [hm] at e2 ⊢
  have hmc : m ≤ cs.length := by omega
  rw [Cut_eq od m (by show m ≤ (wr ep 0 cs).length; omega)]
  have hsec : putW [] ((wr ep 0 cs).take m) = sec ((cs.take m).map (recB ep)) := by
    rw [wr_take]
    have := putW_wr ep (cs.take m) []
    simpa [sec] using this
  simp only [hsec]
  have hgm : ∀ c, c ∈ cs.take m → goodR c := fun c hc => hg c (List.mem_of_mem_take hc)
  have oc : okDisk ⟨sec ((cs.take m).map (recB ep)), []⟩ := by
    have := putW_ok ((wr ep 0 cs).take m) [] (fun w hw => od.2.2.2 w (List.mem_of_mem_take hw)) (by simp) (by simp)
    rw [hsec] at this
    exact ⟨this.1, by simp, this.2, by simp⟩
  simp only [Option.bind_some]
  rw [Scan_eq oc (ep : Int) (by omega) (by omega)]
  simp only [Option.bind_some, sec_drop]
  rw [scanL_same ep he _ hgm, logged_true]
  simp only [Option.bind_some]
  have hml : (cs.take m).length = m := by simp; omega
  have hpre : cs.flatten = (cs.take m).flatten ++ (cs.drop m).flatten := by rw [← List.flatten_append, List.take_append_drop]
  have hple : (cs.take m).flatten.length ≤ cs.flatten.length := by rw [hpre, List.length_append]; omega
  rw [if_neg (by simp), if_neg (by simp), if_neg (by simp; omega), if_neg (by rw [decide_eq_true_eq]; omega), sub_0 hple]
  simp only [Option.bind_some]
  have htk : cs.flatten.take (cs.take m).flatten.length = (cs.take m).flatten := by rw [hpre]; simp
  rw [htk, slices_Equal_Choice_eq _ _ (by omega)]
  simp only [decide_true, Bool.not_true, Bool.false_eq_true, if_false, Option.bind_some]
  have hlast : (if ((m : Int) == ((wr ep 0 cs).length : Int)) = true then (some ((((cs.take m).flatten).length : Int) != ((cs.flatten).length : Int))) else (some false)) = some false := by
    by_cases h : m = cs.length
    · rw [if_pos (by simp; omega), h, List.take_length]; simp
    · rw [if_neg (by simp; omega)]
  rw [hlast]
  simp only [Option.bind_some, Bool.false_eq_true, if_false]
  have hA := At_eq ((ep : Int) + 1) 201 (by omega) (by omega)
  rw [wrap_ok (n := (ep : Int) + 1) (by omega) (by omega)]
  rw [show ((201 : Nat) : Int) = 201 from rfl] at hA
  rw [hA]
  simp only [Option.bind_some]
  obtain ⟨ep', hep'⟩ : ∃ e : Nat, ((ep : Int) + 1) % 201 = (e : Int) := ⟨_, (Int.toNat_of_nonneg (by omega)).symm⟩
  rw [hep', Scan_eq oc (ep' : Int) (by omega) (by omega)]
  simp only [Option.bind_some, sec_drop]
  rw [scanL_other ep ep' he (by omega) _ hgm]
  rfl

theorem LogGoes_true (parts : List (List Choice)) (ep n : Int) (gp : gL (gL gChoice) parts) (ge : gI ep) (gn : gI n) (hb : mL (mL mChoice) parts + (mI ep + (mI n + 0)) ≤ 1048576) : crosslaw_LogGoes parts ep n = some true := by
  have hl : parts.length ≤ 1048576 := by have := len_le (m := mL mChoice) (fun a => by simp [mL]) parts; omega
  have hpart : ∀ p, p ∈ parts → p.length ≤ 1048576 := by
    intro p hp
    have h1 := len_le (m := mChoice) (fun a => by simp [mChoice]) p
    have h2 : ∀ l : List (List Choice), p ∈ l → mL mChoice p ≤ mL (mL mChoice) l := by
      intro l
      induction l with
      | nil => intro h; simp at h
      | cons q l ih =>
        intro h
        rw [mL_sub]
        rcases List.mem_cons.1 h with rfl | h
        · omega
        · have := ih h; omega
    have := h2 parts hp
    omega
  unfold crosslaw_LogGoes
  by_cases hep : 0 ≤ ep ∧ ep ≤ 200
  · obtain ⟨e, rfl⟩ : ∃ e : Nat, ep = (e : Int) := ⟨_, (Int.toNat_of_nonneg hep.1).symm⟩
    have he : e ≤ 200 := by omega
    obtain ⟨r, h1, h2⟩ := iter_inv (body := fun ss_7 : Int × Int × (List (List UInt8)) × (List Write) × (List Choice) => crosslaw_LogGoes_l1 parts (e : Int) n ss_7.1 ss_7.2.1 ss_7.2.2.1 ss_7.2.2.2.1 ss_7.2.2.2.2)
      (fun s => ∃ (k : Nat) (cs : List (List Choice)), k ≤ parts.length ∧ (∀ c, c ∈ cs → goodR c) ∧ cs.length ≤ 80 ∧ s = ((cs.length : Int), (k : Int), [], wr e 0 cs, cs.flatten)) (fun s => parts.length - s.2.1.toNat) (fun r => r = true) (by
        rintro _ ⟨k, cs, hk, hg, h80, rfl⟩
        show (∃ s', crosslaw_LogGoes_l1 parts (e : Int) n (cs.length : Int) (k : Int) [] (wr e 0 cs) cs.flatten = _ ∧ _) ∨ ∃ r, crosslaw_LogGoes_l1 parts (e : Int) n (cs.length : Int) (k : Int) [] (wr e 0 cs) cs.flatten = _ ∧ _
        have hfl : ∀ cs : List (List Choice), (∀ c, c ∈ cs → goodR c) → cs.flatten.length ≤ 29 * cs.length := by
          intro cs
          induction cs with
          | nil => intro _; simp
          | cons c cs ih =>
            intro h
            have := ih (fun x hx => h x (by simp [hx]))
            have := (h c (by simp)).2.1
            rw [List.flatten_cons, List.length_append, List.length_cons]; omega
        have hf1 := hfl cs hg
        by_cases hlt : k < parts.length
        · refine .inl ?_
          obtain ⟨p, hp⟩ : ∃ p, parts[k]? = some p := ⟨_, List.getElem?_eq_getElem hlt⟩
          have hpl := hpart p (List.mem_of_getElem? hp)
          have hw := wr_len e 0 cs
          have od : okDisk ⟨[], wr e 0 cs⟩ := ⟨by simp, by show (wr e 0 cs).length ≤ 300; omega, by simp, wr_ok e 0 cs (by omega) hg⟩
          have hA := Append_eq od e cs.length p he h80 (by omega)
          unfold crosslaw_LogGoes_l1
          rw [if_pos (by simp; omega), idx_at hp, wrap_1 (by omega)]
          simp only [Option.bind_some]
          rw [hA]
          simp only [Option.bind_some]
          by_cases herr : (appL e [] p.length cs.length p (wr e 0 cs)).2.2 = 0
          · obtain ⟨ds, q1, q2, q3, q4⟩ := appL_ok e [] p.length cs.length p (wr e 0 cs) (Nat.le_refl _) h80 herr
            rw [q1]
            simp only
            rw [if_neg (by simp), app_ok (by omega)]
            refine ⟨_, rfl, ⟨k + 1, cs ++ ds, by omega, ?_, by simpa using q4, ?_⟩, by simp; omega⟩
            · intro c hc
              rcases List.mem_append.1 hc with hc | hc
              · exact hg c hc
              · exact q3 c hc
            · rw [wr_app, List.flatten_append, ← q2, List.length_append, Nat.zero_add]
          · rw [if_pos (by simpa using herr)]
            exact ⟨_, rfl, ⟨k + 1, cs, by omega, hg, h80, rfl⟩, by simp; omega⟩
        · refine .inr ⟨true, goes_fin parts e he n cs hg h80 _ _ (by omega) (by omega), rfl⟩) parts.length (0, 0, [], [], []) (by simp) ⟨0, [], by omega, by simp, by simp, rfl⟩
    rw [h1, h2]
  · obtain ⟨r, h1, h2⟩ := iter_inv (body := fun ss_7 : Int × Int × (List (List UInt8)) × (List Write) × (List Choice) => crosslaw_LogGoes_l1 parts ep n ss_7.1 ss_7.2.1 ss_7.2.2.1 ss_7.2.2.2.1 ss_7.2.2.2.2)
      (fun s => ∃ k : Nat, k ≤ parts.length ∧ s = (0, (k : Int), [], [], [])) (fun s => parts.length - s.2.1.toNat) (fun r => r = true) (by
        rintro _ ⟨k, hk, rfl⟩
        have o0 : okDisk ⟨[], []⟩ := by simp [okDisk]
        show (∃ s', crosslaw_LogGoes_l1 parts ep n 0 (k : Int) [] [] [] = _ ∧ _) ∨ ∃ r, crosslaw_LogGoes_l1 parts ep n 0 (k : Int) [] [] [] = _ ∧ _
        by_cases hlt : k < parts.length
        · refine .inl ?_
          obtain ⟨p, hp⟩ : ∃ p, parts[k]? = some p := ⟨_, List.getElem?_eq_getElem hlt⟩
          have hA : log_Append ⟨[], []⟩ ep 0 p = some (⟨[], []⟩, 0, 3) := by
            unfold log_Append
            rw [Check_ok o0]
            simp only [Option.bind_some]
            rw [if_neg (by simp), if_pos (by simp; omega)]
          unfold crosslaw_LogGoes_l1
          rw [if_pos (by simp; omega), idx_at hp, wrap_1 (by omega)]
          simp only [Option.bind_some]
          rw [hA]
          simp only [Option.bind_some]
          rw [if_pos (by simp)]
          exact ⟨_, rfl, ⟨k + 1, by omega, rfl⟩, by simp; omega⟩
        · refine .inr ⟨true, ?_, rfl⟩
          unfold crosslaw_LogGoes_l1
          have h1 : IntKind.i64.wrap ((([] : List Write).length : Int) + 1) = ((1 : Nat) : Int) := by decide
          rw [if_neg (by simp; omega), h1, At_eq _ _ (by omega) (by omega)]
          simp only [Option.bind_some]
          have h0 : n % ((1 : Nat) : Int) = 0 := by simp
          rw [h0]
          have hC := Cut_eq o0 0 (by simp)
          rw [show ((0 : Nat) : Int) = 0 from rfl] at hC
          rw [hC]
          simp only [Option.bind_some]
          have oc : okDisk ⟨putW [] (([] : List Write).take 0), []⟩ := by simp [okDisk, putW]
          rw [Scan_far oc ep hep, logged_true]
          simp) parts.length (0, 0, [], [], []) (by simp) ⟨0, by omega, rfl⟩
    rw [h1, h2]
end Go.Proofs.Ytegkmfokfakeiaa
