/-
  What a piece of code makes of pure data, said of its meaning ('T': code, 'OP': an operation, 'RS', 'RA': the rest of a region, in its order or in any): closed under forgetting, so that ways may meet again. For every program.
-/
import Derived.Test.YtegkmfokfakeiaaDraw
import Derived.Test.YtegkmfokfakeiaaPl
namespace Go.Proofs.Ytegkmfokfakeiaa
open Go.RowKit
set_option linter.unusedVariables false
set_option linter.unusedSimpArgs false

/-- A frame by its slots that are known: the newest first. -/
def lkA : List (Nat × AV) → Nat → AV
  | [], _ => .any
  | (s, v) :: r, t => match Nat.beq s t with
    | true => v
    | false => lkA r t
def mkA (n : Nat) (l : List (Nat × AV)) : List AV := (List.range n).map (lkA l)
def evA (n : Nat) (l : List (Nat × AV)) : Operand → AV
  | .tmp t => match Nat.blt t n with
    | true => lkA l t
    | false => .any
  | .const v => AV.ofVal v
  | .global _ => .any
  | .func f => .func f []
def putA (l : List (Nat × AV)) : Option Tmp → AV → List (Nat × AV)
  | none, _ => l
  | some t, r => (t, r) :: l

theorem lkA_cons (s : Nat) (v : AV) (r : List (Nat × AV)) (t : Nat) : lkA ((s, v) :: r) t = if s = t then v else lkA r t := by
  show (match Nat.beq s t with | true => v | false => lkA r t) = _
  by_cases h : s = t
  · subst h; rw [Nat.beq_refl, if_pos rfl]
  · have : Nat.beq s t = false := by
      cases hb : Nat.beq s t
      · rfl
      · exact absurd (Nat.eq_of_beq_eq_true hb) h
    rw [this, if_neg h]
theorem get_mkA {n : Nat} {l : List (Nat × AV)} {t : Nat} : (mkA n l)[t]? = if t < n then some (lkA l t) else none := by
  unfold mkA
  rw [List.getElem?_map]
  by_cases h : t < n
  · rw [List.getElem?_range h, if_pos h]; rfl
  · rw [if_neg h, List.getElem?_eq_none (by simpa using Nat.le_of_not_lt h)]; rfl
theorem len_mkA {n : Nat} {l : List (Nat × AV)} : (mkA n l).length = n := by simp [mkA]
theorem ev_mkA (n : Nat) (l : List (Nat × AV)) (x : Operand) : ev (mkA n l) x = evA n l x := by
  cases x with
  | tmp t =>
    show (mkA n l).getD t .any = (match Nat.blt t n with | true => lkA l t | false => .any)
    rw [List.getD_eq_getElem?_getD, get_mkA]
    by_cases h : t < n
    · have : Nat.blt t n = true := by rw [Nat.blt_eq]; exact h
      rw [if_pos h, this]; rfl
    · have : Nat.blt t n = false := by
        cases hb : Nat.blt t n
        · rfl
        · exact absurd (by rw [Nat.blt_eq] at hb; exact hb) h
      rw [if_neg h, this]; rfl
  | _ => rfl
theorem putF_mkA (n : Nat) (l : List (Nat × AV)) (d : Option Tmp) (r : AV) : putF (mkA n l) d r = mkA n (putA l d r) := by
  cases d with
  | none => rfl
  | some t =>
    apply List.ext_getElem?
    intro i
    show ((mkA n l).set t r)[i]? = (mkA n ((t, r) :: l))[i]?
    rw [List.getElem?_set, get_mkA, get_mkA, len_mkA, lkA_cons]
    by_cases h : t = i
    · subst h
      rw [if_pos rfl, if_pos rfl]
    · rw [if_neg h, if_neg h]

/-- The frame at a call's start. -/
def initA (k : Nat) : List AV → List (Nat × AV)
  | [] => []
  | a :: as => (k, a) :: initA (k + 1) as
theorem lk_initA : ∀ (as : List AV) (k t : Nat), k ≤ t → lkA (initA k as) t = as.getD (t - k) .any
  | [], k, t, _ => rfl
  | a :: as, k, t, h => by
    show lkA ((k, a) :: initA (k + 1) as) t = _
    rw [lkA_cons]
    by_cases e : k = t
    · subst e; simp
    · rw [if_neg e, lk_initA as (k + 1) t (by omega)]
      obtain ⟨m, hm⟩ : ∃ m, t - k = m + 1 := ⟨t - k - 1, by omega⟩
      rw [hm, show t - (k + 1) = m by omega]
      rfl
theorem init_mkA (n : Nat) (as : List AV) (h : as.length ≤ n) : as ++ List.replicate (n - as.length) AV.any = mkA n (initA 0 as) := by
  apply List.ext_getElem?
  intro i
  rw [get_mkA, lk_initA as 0 i (Nat.zero_le _), Nat.sub_zero]
  by_cases h1 : i < as.length
  · rw [List.getElem?_append_left h1, if_pos (by omega), List.getD_eq_getElem?_getD, List.getElem?_eq_getElem h1]; rfl
  · rw [List.getElem?_append_right (by omega), List.getElem?_replicate]
    by_cases h2 : i < n
    · rw [if_pos (by omega), if_pos h2, List.getD_eq_getElem?_getD, List.getElem?_eq_none (by omega)]; rfl
    · rw [if_neg (by omega), if_neg h2]

section
variable {P : Program} {N n : Nat} {fr fr' : List AV} {aw aw' : List Ob} {l : List (Nat × AV)}

structure T (P : Program) (N : Nat) (c : Code) (Q : Exit → List AV → List Ob → Prop) (fr : List AV) (aw : List Ob) : Prop where
  out : ∀ st : St, st.aw.length = N → st.σ.length = st.aw.length → ∀ σ w F a, Cur st fr aw σ w F a → c.wp P (CQ st Q) a w
structure OP (P : Program) (N : Nat) (o : Oper) (fr : List AV) (aw : List Ob) (K : AV → List Ob → Prop) : Prop where
  out : ∀ st : St, st.aw.length = N → st.σ.length = st.aw.length → ∀ σ w F a, Cur st fr aw σ w F a → ∀ (Kc : Act → World → Prop) (Q : Exit → Act → World → Prop),
    (∀ r aw' σ' w' F' v, K r aw' → Cur st fr aw' σ' w' F' a → Rel σ' w' F' r v → Kc (a.put o.dst v) w') → o.wp P a w Kc Q
structure RS (P : Program) (N : Nat) (ops : Array Oper) (l : List Oper) (K : List AV → List Ob → Prop) (fr : List AV) (aw : List Ob) : Prop where
  out : ∀ st : St, st.aw.length = N → st.σ.length = st.aw.length → ∀ σ w F a, Cur st fr aw σ w F a → ∀ (Q : Exit → Act → World → Prop),
    (∀ fr aw σ w F a, Cur st fr aw σ w F a → K fr aw → Q .normal a w) → wpList P ops Q l a w
structure RA (P : Program) (N : Nat) (ops : Array Oper) (k : Nat) (listed : Array Bool) (K : List AV → List Ob → Prop) (fr : List AV) (aw : List Ob) : Prop where
  out : ∀ st : St, st.aw.length = N → st.σ.length = st.aw.length → ∀ σ w F a, Cur st fr aw σ w F a → ∀ (R : Act → World → Prop),
    (∀ fr aw σ w F a, Cur st fr aw σ w F a → K fr aw → R a w) → wpAny P .any ops (onlyN R) k listed a w

/- code -/
theorem T.of_vc {c : Code} {Q : Exit → List AV → List Ob → Prop} (h : vc P N c Q fr aw) : T P N c Q fr aw :=
  ⟨fun st h1 h2 σ w F a hc => by subst h1; exact vc_sound h2 c Q fr aw σ w F a h hc⟩
theorem T.weak {c : Code} {Q : Exit → List AV → List Ob → Prop} (hw : Weak N fr aw fr' aw') (h : T P N c Q fr' aw') : T P N c Q fr aw :=
  ⟨fun st h1 h2 σ w F a hc => by
    subst h1
    obtain ⟨σ', hc'⟩ := hc.weak h2 hw
    exact h.out st rfl h2 σ' w F a hc'⟩
theorem RS.weak {ops : Array Oper} {l : List Oper} {K : List AV → List Ob → Prop} (hw : Weak N fr aw fr' aw') (h : RS P N ops l K fr' aw') : RS P N ops l K fr aw :=
  ⟨fun st h1 h2 σ w F a hc => by
    subst h1
    obtain ⟨σ', hc'⟩ := hc.weak h2 hw
    exact h.out st rfl h2 σ' w F a hc'⟩
theorem RA.weak {ops : Array Oper} {k : Nat} {li : Array Bool} {K : List AV → List Ob → Prop} (hw : Weak N fr aw fr' aw') (h : RA P N ops k li K fr' aw') : RA P N ops k li K fr aw :=
  ⟨fun st h1 h2 σ w F a hc => by
    subst h1
    obtain ⟨σ', hc'⟩ := hc.weak h2 hw
    exact h.out st rfl h2 σ' w F a hc'⟩
theorem T.skip {Q : Exit → List AV → List Ob → Prop} (h : Q .normal fr aw) : T P N .skip Q fr aw := ⟨fun st _ _ σ w F a hc => wp_skip ⟨fr, aw, σ, F, h, hc⟩⟩
theorem T.ret {Q : Exit → List AV → List Ob → Prop} (h : Q .ret fr aw) : T P N .ret Q fr aw := ⟨fun st _ _ σ w F a hc => wp_ret ⟨fr, aw, σ, F, h, hc⟩⟩
theorem T.exit {id : Nat} {Q : Exit → List AV → List Ob → Prop} (h : Q (.exit id) fr aw) : T P N (.exit id) Q fr aw := ⟨fun st _ _ σ w F a hc => wp_exit ⟨fr, aw, σ, F, h, hc⟩⟩
theorem T.seq {x y : Code} {Q : Exit → List AV → List Ob → Prop} (h : T P N x (thenA (T P N y Q) Q) fr aw) : T P N (.seq x y) Q fr aw :=
  ⟨fun st h1 h2 σ w F a hc => wp_seq (wp_mono (h.out st h1 h2 σ w F a hc) (by
    rintro e a' w' ⟨fr', aw', σ', F', hq, hcur⟩
    cases e with
    | normal => exact T.out hq st h1 h2 σ' w' F' a' hcur
    | _ => exact ⟨fr', aw', σ', F', hq, hcur⟩))⟩
theorem T.mono {c : Code} {Q Q' : Exit → List AV → List Ob → Prop} (h : T P N c Q fr aw) (hq : ∀ e fr aw, Q e fr aw → Q' e fr aw) : T P N c Q' fr aw :=
  ⟨fun st h1 h2 σ w F a hc => wp_mono (h.out st h1 h2 σ w F a hc) fun e a' w' ⟨fr', aw', σ', F', h3, h4⟩ => ⟨fr', aw', σ', F', hq _ _ _ h3, h4⟩⟩
theorem T.cond {c : Operand} {x y : Code} {Q : Exit → List AV → List Ob → Prop} {b : Bool} (he : evA n l c = .bool b) (h1 : b = true → T P N x Q (mkA n l) aw) (h0 : b = false → T P N y Q (mkA n l) aw) : T P N (.cond c x y) Q (mkA n l) aw :=
  ⟨fun st hN h2 σ w F a hc => by
    have hcv := hc.fr.ev c
    rw [ev_mkA, he] at hcv
    generalize hv : a.eval c = v at hcv
    cases hcv
    cases b with
    | true => exact wp_cond_true hv ((h1 rfl).out st hN h2 σ w F a hc)
    | false => exact wp_cond_false hv ((h0 rfl).out st hN h2 σ w F a hc)⟩
theorem T.block {id : Nat} {c : Code} {Q : Exit → List AV → List Ob → Prop} (h : T P N c (inBlockA id Q) fr aw) : T P N (.block id c) Q fr aw :=
  ⟨fun st h1 h2 σ w F a hc => by
    refine wp_block (wp_mono (h.out st h1 h2 σ w F a hc) ?_)
    rintro e a' w' ⟨fr', aw', σ', F', hq, hcur⟩
    cases e with
    | exit id' =>
      simp only [Exit.inBlock, inBlockA] at hq ⊢
      split
      · rename_i he; rw [if_pos he] at hq; exact ⟨fr', aw', σ', F', hq, hcur⟩
      · rename_i he; rw [if_neg he] at hq; exact ⟨fr', aw', σ', F', hq, hcur⟩
    | _ => exact ⟨fr', aw', σ', F', hq, hcur⟩⟩
theorem T.region {id : Nat} {ops : Array Oper} {Q : Exit → List AV → List Ob → Prop} (h : RS P N ops ops.toList (Q .normal) fr aw) : T P N (.region id ops false) Q fr aw :=
  ⟨fun st h1 h2 σ w F a hc => wp_region_list (h.out st h1 h2 σ w F a hc _ fun fr aw σ w F a hc hK => ⟨fr, aw, σ, F, hK, hc⟩)⟩
theorem T.drawn {id : Nat} {ops : Array Oper} {Q : Exit → List AV → List Ob → Prop} (hm : P.follows .mixedOrders = true) {k : Nat} (hk : ops.size = k) (h : RA P N ops k (Array.replicate k false) (Q .normal) fr aw) : T P N (.region id ops true) Q fr aw :=
  ⟨fun st h1 h2 σ w F a hc => by
    subst hk
    have hc' : Cur st fr aw σ w.drew F a := hc.step hc.sim.drew .drew
    refine wp_mono (wp_region_any hm (h.out st h1 h2 σ w.drew F a hc' (fun a w => CQ st Q .normal a w) fun fr aw σ w F a hc hK => ⟨fr, aw, σ, F, hK, hc⟩)) (fun e a w hq => ?_)
    cases e <;> first | exact hq | exact hq.elim⟩

/- loops -/
end
section
variable {P : Program} {N n : Nat} {fr fr' : List AV} {aw aw' : List Ob} {l : List (Nat × AV)}
/-- What a round of a loop ends with: 'v': the next round's state, or the loop's answer. -/
def LQ {α β : Type} (N : Nat) (v : α ⊕ β) (F : α → List AV) (A : α → List Ob) (Q : Exit → List AV → List Ob → Prop) : Exit → List AV → List Ob → Prop
  | .normal, fr, aw => ∃ s', v = .inl s' ∧ Weak N fr aw (F s') (A s')
  | e, fr, aw => Q e fr aw
theorem T.iter {α β : Type} {body : α → Option (α ⊕ β)} {s : α} {r : β} {c : Code} {Q : Exit → List AV → List Ob → Prop} (F : α → List AV) (A : α → List Ob) (h : iter body s = some r) (hw : Weak N fr aw (F s) (A s))
    (hb : ∀ s v, body s = some v → (∀ w, v = .inr w → w = r) → T P N c (LQ N v F A Q) (F s) (A s)) : T P N (.loop c) Q fr aw := by
  obtain ⟨m, hm⟩ := iter_some.1 h
  refine ⟨fun st h1 h2 σ w Fb a hc => ?_⟩
  subst h1
  obtain ⟨σ', hc'⟩ := hc.weak h2 hw
  refine wp_loop_ghost (fun m a w => ∃ s σ Fb, Steps body m s r ∧ Cur st (F s) (A s) σ w Fb a) m ⟨s, σ', Fb, hm, hc'⟩ ?_
  rintro m a w ⟨s, σ, Fb, hs, hc⟩
  cases hs with
  | done e =>
    refine wp_mono ((hb s _ e (fun w hw => (Sum.inr.inj hw).symm)).out st rfl h2 σ w Fb a hc) ?_
    rintro e a' w' ⟨fr1, aw1, σ1, F1, hq, hcur⟩
    cases e with
    | normal => obtain ⟨s', hv, _⟩ := hq; cases hv
    | _ => exact ⟨fr1, aw1, σ1, F1, hq, hcur⟩
  | @step m' _ s' _ e hs' =>
    refine wp_mono ((hb s _ e (fun w hw => by cases hw)).out st rfl h2 σ w Fb a hc) ?_
    rintro e a' w' ⟨fr1, aw1, σ1, F1, hq, hcur⟩
    cases e with
    | normal =>
      obtain ⟨s'', hv, hw⟩ := hq
      cases hv
      obtain ⟨σ', hc'⟩ := hcur.weak h2 hw
      exact ⟨m', by omega, s', σ', F1, hs', hc'⟩
    | _ => exact ⟨fr1, aw1, σ1, F1, hq, hcur⟩

/- regions -/
theorem OP.of_vc {o : Oper} {K : AV → List Ob → Prop} (h : vcOper P o fr aw K) : OP P N o fr aw K :=
  ⟨fun st h1 h2 σ w F a hc Kc Q hk => oper_ok hc h hk⟩
theorem RS.nil {ops : Array Oper} {K : List AV → List Ob → Prop} (h : K fr aw) : RS P N ops [] K fr aw := ⟨fun st h1 h2 σ w F a hc Q hQ => hQ _ _ _ _ _ _ hc h⟩
theorem RS.op {ops : Array Oper} {o : Oper} {os : List Oper} {K : List AV → List Ob → Prop} (hg : o.guard = none) (h : OP P N o (mkA n l) aw fun r aw' => RS P N ops os K (mkA n (putA l o.dst r)) aw') : RS P N ops (o :: os) K (mkA n l) aw :=
  ⟨fun st h1 h2 σ w F a hc Q hQ => by
    unfold wpList
    rw [if_pos (by simp [Region.wanted, hg])]
    refine .inl (h.out st h1 h2 σ w F a hc _ _ fun r aw' σ' w' F' v hK hcur hrel => RS.out hK st h1 h2 σ' w' F' _ ?_ Q hQ)
    have := putF_cur hcur hrel o.dst
    rwa [putF_mkA] at this⟩
theorem rel_undef {σ : List Value} {w : World} {F : Nat → Prop} : Rel σ w F (.tup []) undef := .tup [] [] rfl (fun j c u hc => by simp at hc)
theorem guard_yield {st : St} {ops : Array Oper} {j t : Nat} {b : Bool} {σ : List Value} {w : World} {F : Nat → Prop} {a : Act} (hc : Cur st (mkA n l) aw σ w F a) (ht : (ops[j]?).bind (·.dst) = some t) (hb : evA n l (.tmp t) = .bool b) : yielded ops a.tmps j = some b := by
  have hr := hc.fr.ev (.tmp t)
  rw [ev_mkA, hb] at hr
  have he : a.eval (.tmp t) = a.tmps.getD t undef := rfl
  rw [he] at hr
  generalize hv : a.tmps.getD t undef = v at hr
  cases hr
  have : a.tmps[t]? = some (.bool b) := by
    cases hx : a.tmps[t]? with
    | none => simp [hx, undef] at hv
    | some u => simp [hx] at hv; rw [hv]
  simp [yielded, ht, this]
theorem RS.yes {ops : Array Oper} {o : Oper} {os : List Oper} {K : List AV → List Ob → Prop} {j t : Nat} {want b : Bool} (hg : o.guard = some (j, want)) (ht : (ops[j]?).bind (·.dst) = some t) (hb : evA n l (.tmp t) = .bool b) (hbw : b = want)
    (h : OP P N o (mkA n l) aw fun r aw' => RS P N ops os K (mkA n (putA l o.dst r)) aw') : RS P N ops (o :: os) K (mkA n l) aw :=
  ⟨fun st h1 h2 σ w F a hc Q hQ => by
    unfold wpList
    rw [if_pos (by simp [Region.wanted, hg, guard_yield hc ht hb, hbw])]
    refine .inl (h.out st h1 h2 σ w F a hc _ _ fun r aw' σ' w' F' v hK hcur hrel => RS.out hK st h1 h2 σ' w' F' _ ?_ Q hQ)
    have := putF_cur hcur hrel o.dst
    rwa [putF_mkA] at this⟩
theorem RS.no {ops : Array Oper} {o : Oper} {os : List Oper} {K : List AV → List Ob → Prop} {j t : Nat} {want b : Bool} (hg : o.guard = some (j, want)) (ht : (ops[j]?).bind (·.dst) = some t) (hb : evA n l (.tmp t) = .bool b) (hbw : b = !want)
    (h : RS P N ops os K (mkA n (putA l o.dst (.tup []))) aw) : RS P N ops (o :: os) K (mkA n l) aw :=
  ⟨fun st h1 h2 σ w F a hc Q hQ => by
    unfold wpList
    rw [if_neg (by simp [Region.wanted, hg, guard_yield hc ht hb, hbw])]
    refine h.out st h1 h2 σ w F _ ?_ Q hQ
    have := putF_cur hc rel_undef o.dst
    rwa [putF_mkA] at this⟩
theorem guard_undef {st : St} {ops : Array Oper} {j t : Nat} {σ : List Value} {w : World} {F : Nat → Prop} {a : Act} (hc : Cur st (mkA n l) aw σ w F a) (ht : (ops[j]?).bind (·.dst) = some t) (hb : evA n l (.tmp t) = .tup []) : yielded ops a.tmps j = none := by
  have hr := hc.fr.ev (.tmp t)
  rw [ev_mkA, hb] at hr
  have he : a.eval (.tmp t) = a.tmps.getD t undef := rfl
  rw [he] at hr
  generalize hv : a.tmps.getD t undef = v at hr
  cases hr with
  | tup _ vs hl _ =>
    have : vs = [] := List.eq_nil_of_length_eq_zero (by simpa using hl)
    subst this
    simp only [yielded, ht, Option.bind_some]
    cases hx : a.tmps[t]? with
    | none => rfl
    | some u => simp [hx] at hv; subst hv; rfl
theorem RS.nou {ops : Array Oper} {o : Oper} {os : List Oper} {K : List AV → List Ob → Prop} {j t : Nat} {want : Bool} (hg : o.guard = some (j, want)) (ht : (ops[j]?).bind (·.dst) = some t) (hb : evA n l (.tmp t) = .tup [])
    (h : RS P N ops os K (mkA n (putA l o.dst (.tup []))) aw) : RS P N ops (o :: os) K (mkA n l) aw :=
  ⟨fun st h1 h2 σ w F a hc Q hQ => by
    unfold wpList
    rw [if_neg (by simp [Region.wanted, hg, guard_undef hc ht hb])]
    refine h.out st h1 h2 σ w F _ ?_ Q hQ
    have := putF_cur hc rel_undef o.dst
    rwa [putF_mkA] at this⟩
/-- Ways meet again. -/
theorem RS.join {ops : Array Oper} {os : List Oper} {K : List AV → List Ob → Prop} (m : Nat) (fr' : List AV) (aw' : List Ob) (h : RS P N ops (os.drop m) K fr' aw') (h2 : RS P N ops (os.drop m) K fr' aw' → RS P N ops os K fr aw) : RS P N ops os K fr aw := h2 h

/- regions in any order -/
theorem RA.done {ops : Array Oper} {k : Nat} {li : Array Bool} {K : List AV → List Ob → Prop} (hr : Region.ready .any ops li = []) (h : K fr aw) : RA P N ops k li K fr aw :=
  ⟨fun st h1 h2 σ w F a hc R hR => wpAny_done hr (hR _ _ _ _ _ _ hc h) k⟩
/-- Number 'i' comes up. -/
structure RO (P : Program) (N : Nat) (ops : Array Oper) (i : Nat) (K : List AV → List Ob → Prop) (fr : List AV) (aw : List Ob) : Prop where
  out : ∀ st : St, st.aw.length = N → st.σ.length = st.aw.length → ∀ σ w F a, Cur st fr aw σ w F a → ∀ (R Kc : Act → World → Prop),
    (∀ fr aw σ w F a, Cur st fr aw σ w F a → K fr aw → Kc a w) → wpOp P ops (onlyN R) i Kc a w
theorem RA.all {ops : Array Oper} {k : Nat} {li : Array Bool} {K : List AV → List Ob → Prop} {rs : List Nat} (hr : Region.ready .any ops li = rs) (hne : rs ≠ []) (h : ∀ i, i ∈ rs → RO P N ops i (RA P N ops k (li.setIfInBounds i true) K) fr aw) : RA P N ops (k + 1) li K fr aw :=
  ⟨fun st h1 h2 σ w F a hc R hR => wpAny_all hr hne fun i hi => (h i hi).out st h1 h2 σ w F a hc R _ fun fr aw σ w F a hc hK => RA.out hK st h1 h2 σ w F a hc R hR⟩
theorem RO.op {ops : Array Oper} {i : Nat} {o : Oper} {K : List AV → List Ob → Prop} (hi : ops[i]? = some o) (hg : o.guard = none) (h : OP P N o (mkA n l) aw fun r aw' => K (mkA n (putA l o.dst r)) aw') : RO P N ops i K (mkA n l) aw :=
  ⟨fun st h1 h2 σ w F a hc R Kc hK => by
    unfold wpOp
    simp only [hi]
    rw [if_pos (by simp [Region.wanted, hg])]
    refine .inl (h.out st h1 h2 σ w F a hc _ _ fun r aw' σ' w' F' v hk hcur hrel => hK _ _ σ' w' F' _ ?_ hk)
    have := putF_cur hcur hrel o.dst
    rwa [putF_mkA] at this⟩
theorem RO.yes {ops : Array Oper} {i : Nat} {o : Oper} {K : List AV → List Ob → Prop} {j t : Nat} {want b : Bool} (hi : ops[i]? = some o) (hg : o.guard = some (j, want)) (ht : (ops[j]?).bind (·.dst) = some t) (hb : evA n l (.tmp t) = .bool b) (hbw : b = want)
    (h : OP P N o (mkA n l) aw fun r aw' => K (mkA n (putA l o.dst r)) aw') : RO P N ops i K (mkA n l) aw :=
  ⟨fun st h1 h2 σ w F a hc R Kc hK => by
    unfold wpOp
    simp only [hi]
    rw [if_pos (by simp [Region.wanted, hg, guard_yield hc ht hb, hbw])]
    refine .inl (h.out st h1 h2 σ w F a hc _ _ fun r aw' σ' w' F' v hk hcur hrel => hK _ _ σ' w' F' _ ?_ hk)
    have := putF_cur hcur hrel o.dst
    rwa [putF_mkA] at this⟩
theorem RO.no {ops : Array Oper} {i : Nat} {o : Oper} {K : List AV → List Ob → Prop} {j t : Nat} {want b : Bool} (hi : ops[i]? = some o) (hg : o.guard = some (j, want)) (ht : (ops[j]?).bind (·.dst) = some t) (hb : evA n l (.tmp t) = .bool b) (hbw : b = !want)
    (h : K (mkA n (putA l o.dst (.tup []))) aw) : RO P N ops i K (mkA n l) aw :=
  ⟨fun st h1 h2 σ w F a hc R Kc hK => by
    unfold wpOp
    simp only [hi]
    rw [if_neg (by simp [Region.wanted, hg, guard_yield hc ht hb, hbw])]
    refine hK _ _ σ w F _ ?_ h
    have := putF_cur hc rel_undef o.dst
    rwa [putF_mkA] at this⟩

theorem RO.nou {ops : Array Oper} {i : Nat} {o : Oper} {K : List AV → List Ob → Prop} {j t : Nat} {want : Bool} (hi : ops[i]? = some o) (hg : o.guard = some (j, want)) (ht : (ops[j]?).bind (·.dst) = some t) (hb : evA n l (.tmp t) = .tup [])
    (h : K (mkA n (putA l o.dst (.tup []))) aw) : RO P N ops i K (mkA n l) aw :=
  ⟨fun st h1 h2 σ w F a hc R Kc hK => by
    unfold wpOp
    simp only [hi]
    rw [if_neg (by simp [Region.wanted, hg, guard_undef hc ht hb])]
    refine hK _ _ σ w F _ ?_ h
    have := putF_cur hc rel_undef o.dst
    rwa [putF_mkA] at this⟩
theorem RA.takeU {ops : Array Oper} {k i : Nat} {li : Array Bool} {o : Oper} {K : List AV → List Ob → Prop} {j t : Nat} {want : Bool} (hi : ops[i]? = some o) (hs : Region.noSelect ops = true) (hf : Region.free .any ops li i = true) (hr : (Region.ready .any ops li).contains i = true)
    (hg : o.guard = some (j, want)) (ht : (ops[j]?).bind (·.dst) = some t) (hb : evA n l (.tmp t) = .tup [])
    (h : RA P N ops k (li.setIfInBounds i true) K (mkA n (putA l o.dst (.tup []))) aw) : RA P N ops (k + 1) li K (mkA n l) aw :=
  ⟨fun st h1 h2 σ w F a hc R hR => by
    refine wpAny_take hi hs hf hr (fun c a w hp => hp) (.inr ⟨by simp [Region.wanted, hg, guard_undef hc ht hb], rfl⟩) (h.out st h1 h2 σ w F _ ?_ R hR)
    have := putF_cur hc rel_undef o.dst
    rwa [putF_mkA] at this⟩
/-- What reads no memory may be taken first. -/
def quietOp : Op → Bool
  | .load _ _ => false
  | _ => true
theorem oper_all {st : St} {σ : List Value} {w : World} {F : Nat → Prop} {a : Act} {o : Oper} {K : AV → Prop} (hc : Cur st fr aw σ w F a) (hn : quietOp o.op = true) (h : vcQ P fr aw o.op K) : ∃ v r, (∀ w', (execOp a.eval o).run P w' = .ok (.value v) w') ∧ Rel σ w F r v ∧ K r := by
  obtain ⟨v, r, h1, h2, h3⟩ := vcQ_all hc.fr hc.sim o (fun t x e => by rw [e] at hn; cases hn) h
  exact ⟨v, r, fun w' => h1 w' trivial, h2, h3⟩
theorem RA.take {ops : Array Oper} {k i : Nat} {li : Array Bool} {o : Oper} {K : List AV → List Ob → Prop} (hi : ops[i]? = some o) (hs : Region.noSelect ops = true) (hf : Region.free .any ops li i = true) (hr : (Region.ready .any ops li).contains i = true) (hg : o.guard = none) (hn : quietOp o.op = true)
    (h : vcQ P (mkA n l) aw o.op fun r => RA P N ops k (li.setIfInBounds i true) K (mkA n (putA l o.dst r)) aw) : RA P N ops (k + 1) li K (mkA n l) aw :=
  ⟨fun st h1 h2 σ w F a hc R hR => by
    obtain ⟨v, r, hrun, hrel, hk⟩ := oper_all hc hn h
    refine wpAny_take hi hs hf hr (fun c a w hp => hp) (.inl ⟨by simp [Region.wanted, hg], hrun⟩) (RA.out hk st h1 h2 σ w F _ ?_ R hR)
    have := putF_cur hc hrel o.dst
    rwa [putF_mkA] at this⟩
theorem RA.takeYes {ops : Array Oper} {k i : Nat} {li : Array Bool} {o : Oper} {K : List AV → List Ob → Prop} {j t : Nat} {want b : Bool} (hi : ops[i]? = some o) (hs : Region.noSelect ops = true) (hf : Region.free .any ops li i = true) (hr : (Region.ready .any ops li).contains i = true)
    (hg : o.guard = some (j, want)) (ht : (ops[j]?).bind (·.dst) = some t) (hb : evA n l (.tmp t) = .bool b) (hbw : b = want) (hn : quietOp o.op = true)
    (h : vcQ P (mkA n l) aw o.op fun r => RA P N ops k (li.setIfInBounds i true) K (mkA n (putA l o.dst r)) aw) : RA P N ops (k + 1) li K (mkA n l) aw :=
  ⟨fun st h1 h2 σ w F a hc R hR => by
    obtain ⟨v, r, hrun, hrel, hk⟩ := oper_all hc hn h
    refine wpAny_take hi hs hf hr (fun c a w hp => hp) (.inl ⟨by simp [Region.wanted, hg, guard_yield hc ht hb, hbw], hrun⟩) (RA.out hk st h1 h2 σ w F _ ?_ R hR)
    have := putF_cur hc hrel o.dst
    rwa [putF_mkA] at this⟩
theorem RA.takeNo {ops : Array Oper} {k i : Nat} {li : Array Bool} {o : Oper} {K : List AV → List Ob → Prop} {j t : Nat} {want b : Bool} (hi : ops[i]? = some o) (hs : Region.noSelect ops = true) (hf : Region.free .any ops li i = true) (hr : (Region.ready .any ops li).contains i = true)
    (hg : o.guard = some (j, want)) (ht : (ops[j]?).bind (·.dst) = some t) (hb : evA n l (.tmp t) = .bool b) (hbw : b = !want)
    (h : RA P N ops k (li.setIfInBounds i true) K (mkA n (putA l o.dst (.tup []))) aw) : RA P N ops (k + 1) li K (mkA n l) aw :=
  ⟨fun st h1 h2 σ w F a hc R hR => by
    refine wpAny_take hi hs hf hr (fun c a w hp => hp) (.inr ⟨by simp [Region.wanted, hg, guard_yield hc ht hb, hbw], rfl⟩) (h.out st h1 h2 σ w F _ ?_ R hR)
    have := putF_cur hc rel_undef o.dst
    rwa [putF_mkA] at this⟩

end

end Go.Proofs.Ytegkmfokfakeiaa
