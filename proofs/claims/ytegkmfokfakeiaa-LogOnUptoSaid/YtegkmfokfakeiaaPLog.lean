/-
  The log: plain.
-/
import Derived.Test.YtegkmfokfakeiaaPUnf
import Derived.Test.YtegkmfokfakeiaaPCh
import Derived.Test.YtegkmfokfakeiaaPDisk
namespace Go.Proofs.Ytegkmfokfakeiaa
set_option linter.unusedVariables false
set_option linter.unusedSimpArgs false

/-- A sector's record of an epoch: its choices. -/
def recS (ep : Int) (s : List UInt8) : List Choice :=
  match records s.length s with
  | ([p], n) => if n = s.length ∧ p.head?.map (fun c => (c.toNat : Int)) = some ep then (ofChoicesR p.tail).1 else []
  | _ => []
def scanL (ep : Int) : List (List UInt8) → List Choice × Nat
  | [] => ([], 0)
  | s :: r => if recS ep s = [] then ([], 0) else (recS ep s ++ (scanL ep r).1, 1 + (scanL ep r).2)

theorem recAt_ne {b p : List UInt8} (h : recAt b = some p) : p ≠ [] ∧ p.length ≤ 60 := by
  cases b with
  | nil => cases h
  | cons c t =>
    simp only [recAt] at h
    split at h
    · cases h
    · rename_i hb
      split at h
      · cases h
      · cases h
        constructor
        · intro h0
          have : (t.take c.toNat).length = 0 := by rw [h0]; rfl
          rw [List.length_take] at this; omega
        · simp; omega
theorem records_mem : ∀ (n : Nat) (b p : List UInt8), p ∈ (records n b).1 → p ≠ [] ∧ p.length ≤ 60
  | 0, b, p, h => by simp [records] at h
  | n + 1, b, p, h => by
    unfold records at h
    split at h
    · simp at h
    · rename_i q hq
      rcases List.mem_cons.1 h with h | h
      · rw [h]; exact recAt_ne hq
      · exact records_mem n _ p h
/-- What the record of a sector is, three ways. -/
theorem recS_cases (ep : Int) (s : List UInt8) :
    ((records s.length s).1.length ≠ 1 ∧ recS ep s = []) ∨
    ∃ c t, (records s.length s).1 = [c :: t] ∧ t.length ≤ 59 ∧ (((records s.length s).2 ≠ s.length ∧ recS ep s = []) ∨ ((records s.length s).2 = s.length ∧ (c.toNat : Int) ≠ ep ∧ recS ep s = []) ∨ ((records s.length s).2 = s.length ∧ (c.toNat : Int) = ep ∧ recS ep s = (ofChoicesR t).1)) := by
  have hm := fun p => records_mem s.length s p
  unfold recS
  generalize records s.length s = R at hm
  obtain ⟨l, n⟩ := R
  match l, hm with
  | [], _ => exact .inl ⟨by simp, rfl⟩
  | a :: b :: r, _ => exact .inl ⟨by simp, rfl⟩
  | [p], hm =>
    have := hm p (by simp)
    cases p with
    | nil => exact absurd rfl this.1
    | cons c t =>
      refine .inr ⟨c, t, rfl, by have := this.2; simp at this; omega, ?_⟩
      by_cases h1 : n = s.length
      · by_cases h2 : (c.toNat : Int) = ep
        · exact .inr (.inr ⟨h1, h2, by simp [h1, h2]⟩)
        · exact .inr (.inl ⟨h1, h2, by simp [h1, h2]⟩)
      · exact .inl ⟨h1, by simp [h1]⟩

theorem ofCh_small {t : List UInt8} (h : t.length ≤ 59) : (ofChoicesR t).1 = (pairsOf t).getD [] ∧ ofChoicesR t = match pairsOf t with | none => ([], 12) | some l => (l, 0) := by
  have e : ofChoicesR t = match pairsOf t with | none => ([], 12) | some l => (l, 0) := by
    unfold ofChoicesR; rw [if_neg (by omega)]
    cases pairsOf t <;> rfl
  refine ⟨?_, e⟩
  rw [e]; cases pairsOf t <;> rfl

theorem record_eq (S : List (List UInt8)) (w : List Write) (ep : Int) (k : Nat) (h : ∀ s, s ∈ S → okS s) : log_Scan_1_x006d (k : Int) S w ep = some (match S[k]? with | some s => recS ep s | none => []) := by
  unfold log_Scan_1_x006d
  by_cases hk : S.length ≤ k
  · rw [if_pos (by simp; omega), List.getElem?_eq_none hk]
  rw [if_neg (by simp; omega)]
  obtain ⟨s, hs⟩ : ∃ s, S[k]? = some s := ⟨_, List.getElem?_eq_getElem (by omega)⟩
  have hsl := h s (List.mem_of_getElem? hs)
  unfold okS at hsl
  rw [idx_at hs]
  simp only [Option.bind_some, frame_Read_eq, hs]
  have hr : readR s = ((records s.length s).1, ((records s.length s).2 : Int), 0) := by unfold readR; rw [if_neg (by omega)]
  rw [hr]
  simp only
  rcases recS_cases ep s with ⟨h1, h2⟩ | ⟨c, t, h1, ht, h3⟩
  · rw [if_pos (by simp; omega), h2]; rfl
  · rw [h1, if_neg (by simp)]
    have e0 : ixN [c :: t] 0 = some 0 := ixN_at (xs := [c :: t]) (k := 0) (by simp)
    have e1 : idx (c :: t) 0 = some c := by simp [idx]
    have e2 : sub (c :: t) 1 ((c :: t).length : Int) = some t := by
      have := sub_end (xs := c :: t) (i := 1) (by simp)
      simpa using this
    rw [e0]
    simp only [Option.bind_some, List.getElem?_cons_zero, e1, wrap_b]
    rcases h3 with ⟨h4, h5⟩ | ⟨h4, h5, h6⟩ | ⟨h4, h5, h6⟩
    · rw [if_pos (by simp; omega), h5]; rfl
    · rw [if_neg (by simp; omega), h6]
      simp [h5]
    · rw [if_neg (by simp; omega), h6, h5]
      simp only [bne_self_eq_false, Option.bind_some, Bool.false_eq_true, if_false]
      rw [e2]
      simp [frame_OfChoices_eq]

theorem recS_len (ep : Int) (s : List UInt8) : (recS ep s).length ≤ 30 := by
  rcases recS_cases ep s with ⟨h1, h2⟩ | ⟨c, t, h1, ht, h3⟩
  · rw [h2]; simp
  · rcases h3 with ⟨h4, h5⟩ | ⟨h4, h5, h6⟩ | ⟨h4, h5, h6⟩
    · rw [h5]; simp
    · rw [h6]; simp
    · rw [h6, (ofCh_small ht).1]
      cases hp : pairsOf t with
      | none => simp
      | some l => have := pairs_len t l hp; simp; omega

theorem Scan_eq {d : Disk} (hd : okDisk d) (ep : Int) (h0 : 0 ≤ ep) (h1 : ep ≤ 200) : log_Scan d ep = some ((scanL ep (d.Sectors.drop 120)).1, ((scanL ep (d.Sectors.drop 120)).2 : Int), 0) := by
  have hh := hd
  unfold okDisk at hh
  unfold log_Scan
  rw [Check_ok hd]
  simp only [Option.bind_some]
  rw [if_neg (by simp), if_neg (by simp; omega)]
  have r0 := record_eq d.Sectors d.Wait ep 120 hd.2.2.1
  rw [show ((120 : Nat) : Int) = 120 from rfl] at r0
  rw [r0]
  simp only [Option.bind_some]
  have key : ∀ (n k : Nat) (acc : List Choice), 120 + k + n = d.Sectors.length ∨ (n = 0 ∧ d.Sectors.length ≤ 120 + k ∧ k ≤ 200) → acc.length ≤ 30 * k →
      iter (fun ss_8 : Int × (List Choice) × (List Choice) => log_Scan_l1 d ep ss_8.1 ss_8.2.1 ss_8.2.2) ((k : Int), acc, (match d.Sectors[120 + k]? with | some s => recS ep s | none => [])) = some (acc ++ (scanL ep (d.Sectors.drop (120 + k))).1, ((k + (scanL ep (d.Sectors.drop (120 + k))).2 : Nat) : Int), 0) := by
    intro n
    induction n with
    | zero =>
      intro k acc hk ha
      rw [List.getElem?_eq_none (by omega)]
      have e : log_Scan_l1 d ep (k : Int) acc [] = some (.inr (acc, (k : Int), 0)) := by
        unfold log_Scan_l1
        rw [if_neg (by simp)]; rfl
      rw [iter_eq]; simp only [e]
      rw [List.drop_of_length_le (by omega)]; simp [scanL]
    | succ n ih =>
      intro k acc hk ha
      have hlt : 120 + k < d.Sectors.length := by omega
      obtain ⟨s, hs⟩ : ∃ s, d.Sectors[120 + k]? = some s := ⟨_, List.getElem?_eq_getElem hlt⟩
      have hdr : d.Sectors.drop (120 + k) = s :: d.Sectors.drop (120 + (k + 1)) := by
        rw [List.drop_eq_getElem_cons hlt]
        have : d.Sectors[120 + k] = s := by rw [List.getElem?_eq_getElem hlt] at hs; injection hs
        rw [this]; rfl
      rw [hs, hdr]
      simp only
      by_cases hc : recS ep s = []
      · have e : log_Scan_l1 d ep (k : Int) acc (recS ep s) = some (.inr (acc, (k : Int), 0)) := by
          unfold log_Scan_l1
          rw [hc, if_neg (by simp)]; rfl
        rw [iter_eq]; simp only [e]; simp [scanL, hc]
      · have hlen := recS_len ep s
        have hpos : 0 < (recS ep s).length := List.length_pos_iff.2 hc
        have r1 := record_eq d.Sectors d.Wait ep (120 + (k + 1)) hd.2.2.1
        have e : log_Scan_l1 d ep (k : Int) acc (recS ep s) = some (.inl (((k + 1 : Nat) : Int), acc ++ recS ep s, (match d.Sectors[120 + (k + 1)]? with | some s => recS ep s | none => []))) := by
          unfold log_Scan_l1
          rw [if_pos (by simp; omega), app_ok (by omega), wrap_1 (by omega), wrap_ok (n := 120 + ((k + 1 : Nat) : Int)) (by omega) (by omega)]
          simp only [Option.bind_some]
          rw [show (120 : Int) + ((k + 1 : Nat) : Int) = ((120 + (k + 1) : Nat) : Int) by omega, r1]
          rfl
        rw [iter_eq]; simp only [e]
        rw [ih (k + 1) _ (by omega) (by simp; omega)]
        simp [scanL, hc]; omega
  by_cases hlong : 120 ≤ d.Sectors.length
  · have := key (d.Sectors.length - 120) 0 [] (.inl (by omega)) (by simp)
    simpa using this
  · have := key 0 0 [] (.inr ⟨rfl, by omega, by omega⟩) (by simp)
    simpa using this
theorem Scan_far {d : Disk} (hd : okDisk d) (ep : Int) (h : ¬ (0 ≤ ep ∧ ep ≤ 200)) : log_Scan d ep = some ([], 0, 3) := by
  unfold log_Scan
  rw [Check_ok hd]
  simp only [Option.bind_some]
  rw [if_neg (by simp), if_pos (by simp; omega)]

theorem LogOf_eq {d : Disk} (hd : okDisk d) (ep : Int) : crossref_LogOf d ep = some ((scanL ep (d.Sectors.drop 120)).1, ((scanL ep (d.Sectors.drop 120)).2 : Int)) := by
  have hh := hd
  unfold okDisk at hh
  unfold crossref_LogOf
  have key : ∀ (n k : Nat) (acc : List Choice), 120 + k + n = d.Sectors.length ∨ (n = 0 ∧ d.Sectors.length ≤ 120 + k ∧ k ≤ 200) → acc.length ≤ 30 * k →
      iter (fun ss_15 : Int × Int × (List Choice) => crossref_LogOf_l1 d ep ss_15.1 ss_15.2.1 ss_15.2.2) ((k : Int), ((120 + k : Nat) : Int), acc) = some (acc ++ (scanL ep (d.Sectors.drop (120 + k))).1, ((k + (scanL ep (d.Sectors.drop (120 + k))).2 : Nat) : Int)) := by
    intro n
    induction n with
    | zero =>
      intro k acc hk ha
      have e : crossref_LogOf_l1 d ep (k : Int) ((120 + k : Nat) : Int) acc = some (.inr (acc, (k : Int))) := by
        unfold crossref_LogOf_l1
        rw [if_neg (by simp; omega)]; rfl
      rw [iter_eq]; simp only [e]
      rw [List.drop_of_length_le (by omega)]; simp [scanL]
    | succ n ih =>
      intro k acc hk ha
      have hlt : 120 + k < d.Sectors.length := by omega
      obtain ⟨s, hs⟩ : ∃ s, d.Sectors[120 + k]? = some s := ⟨_, List.getElem?_eq_getElem hlt⟩
      have hsl := hd.2.2.1 s (List.mem_of_getElem? hs)
      unfold okS at hsl
      have hdr : d.Sectors.drop (120 + k) = s :: d.Sectors.drop (120 + (k + 1)) := by
        rw [List.drop_eq_getElem_cons hlt]
        have : d.Sectors[120 + k] = s := by rw [List.getElem?_eq_getElem hlt] at hs; injection hs
        rw [this]; rfl
      have stop : recS ep s = [] → crossref_LogOf_l1 d ep (k : Int) ((120 + k : Nat) : Int) acc = some (.inr (acc, (k : Int))) → iter (fun ss_15 : Int × Int × (List Choice) => crossref_LogOf_l1 d ep ss_15.1 ss_15.2.1 ss_15.2.2) ((k : Int), ((120 + k : Nat) : Int), acc) = some (acc ++ (scanL ep (d.Sectors.drop (120 + k))).1, ((k + (scanL ep (d.Sectors.drop (120 + k))).2 : Nat) : Int)) := by
        intro hc e
        rw [iter_eq]; simp only [e]; rw [hdr]; simp [scanL, hc]
      have hU := Unframe_eq s (by omega)
      rcases recS_cases ep s with ⟨h1, h2⟩ | ⟨c, t, h1, ht, h3⟩
      · refine stop h2 ?_
        unfold crossref_LogOf_l1
        rw [if_pos (by simp; omega), idx_at hs]
        simp only [Option.bind_some]
        rw [hU]
        simp only [Option.bind_some]
        rw [if_pos (by simp; omega)]; rfl
      · rw [h1] at hU
        have e0 : ixN [c :: t] 0 = some 0 := ixN_at (xs := [c :: t]) (k := 0) (by simp)
        have e1 : idx (c :: t) 0 = some c := by simp [idx]
        have e2 : sub (c :: t) 1 ((c :: t).length : Int) = some t := by
          have := sub_end (xs := c :: t) (i := 1) (by simp)
          simpa using this
        rcases h3 with ⟨h4, h5⟩ | ⟨h4, h5, h6⟩ | ⟨h4, h5, h6⟩
        · refine stop h5 ?_
          unfold crossref_LogOf_l1
          rw [if_pos (by simp; omega), idx_at hs]
          simp only [Option.bind_some]
          rw [hU]
          simp only [Option.bind_some]
          rw [if_neg (by simp), if_pos (by simp; omega)]; rfl
        · refine stop h6 ?_
          unfold crossref_LogOf_l1
          rw [if_pos (by simp; omega), idx_at hs]
          simp only [Option.bind_some]
          rw [hU]
          simp only [Option.bind_some]
          rw [if_neg (by simp), if_neg (by simp; omega), e0]
          simp only [Option.bind_some, List.getElem?_cons_zero, e1, wrap_b]
          rw [if_pos (by simp [h5])]; rfl
        · have hP : crossref_Pairs t = some (pairsR t []) := by
            unfold crossref_Pairs
            exact Pairs_eq t.length t [] (by omega) (by simp; omega)
          have hoc := (ofCh_small ht).1
          have pre : crossref_LogOf_l1 d ep (k : Int) ((120 + k : Nat) : Int) acc = (if ((!(pairsR t []).2) || (((pairsR t []).1).length : Int) == 0) = true then (Option.map Sum.inr (some (acc, (k : Int)))) else (Option.bind (app acc (pairsR t []).1) fun x23 => (some (.inl (IntKind.i64.wrap ((k : Int) + 1), IntKind.i64.wrap (((120 + k : Nat) : Int) + 1), x23))))) := by
            unfold crossref_LogOf_l1
            rw [if_pos (by simp; omega), idx_at hs]
            simp only [Option.bind_some]
            rw [hU]
            simp only [Option.bind_some]
            rw [if_neg (by simp), if_neg (by simp; omega), e0]
            simp only [Option.bind_some, List.getElem?_cons_zero, e1, wrap_b]
            rw [if_neg (by simp [h5]), e2]
            simp only [Option.bind_some]
            rw [hP]
            simp only [Option.bind_some]
          have hpq := pairsR_eq t []
          cases hp : pairsOf t with
          | none =>
            rw [hp] at hpq hoc
            refine stop (by rw [h6, hoc]; rfl) ?_
            rw [pre, hpq]; rfl
          | some q =>
            rw [hp] at hpq hoc
            simp only [List.nil_append] at hpq
            have hrq : recS ep s = q := by rw [h6, hoc]; rfl
            by_cases hq : q = []
            · refine stop (by rw [hrq, hq]) ?_
              rw [pre, hpq, hq]; rfl
            · have hql : q.length ≤ 30 := by rw [← hrq]; exact recS_len ep s
              have hqp : 0 < q.length := List.length_pos_iff.2 hq
              have e : crossref_LogOf_l1 d ep (k : Int) ((120 + k : Nat) : Int) acc = some (.inl (((k + 1 : Nat) : Int), ((120 + (k + 1) : Nat) : Int), acc ++ q)) := by
                rw [pre, hpq, if_neg (by simp [hq]), app_ok (by show acc.length + q.length ≤ _; omega), wrap_1 (by omega), wrap_1 (by omega)]; rfl
              rw [iter_eq]; simp only [e]
              rw [ih (k + 1) _ (by omega) (by simp; omega), hdr]
              simp [scanL, hrq, hq]; omega
  by_cases hlong : 120 ≤ d.Sectors.length
  · have := key (d.Sectors.length - 120) 0 [] (.inl (by omega)) (by simp)
    simpa using this
  · have := key 0 0 [] (.inr ⟨rfl, by omega, by omega⟩) (by simp)
    simpa using this
end Go.Proofs.Ytegkmfokfakeiaa
