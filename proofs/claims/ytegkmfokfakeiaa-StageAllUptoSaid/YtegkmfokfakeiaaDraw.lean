/-
  Regions that draw their order and only read: the order of the text serves. Loops, calls, ends: how one goes on. For every program.
-/
import Derived.Test.YtegkmfokfakeiaaEval
import Derived.OrdersHeld
namespace Go.Proofs.Ytegkmfokfakeiaa
open Go.RowKit
set_option linter.unusedVariables false
set_option linter.unusedSimpArgs false

/-- Operations that leave memory as it is. -/
def isR (fr : List AV) : Op → Bool
  | .load _ _ => true
  | op => isQ fr op

def vcOpsR (P : Program) (ops : Array Oper) : List Oper → (List AV → List Ob → Prop) → List AV → List Ob → Prop
  | [], K, fr, aw => K fr aw
  | o :: rest, K, fr, aw =>
    match o.guard with
    | none => isR fr o.op = true ∧ vcOper P o fr aw (contOp (vcOpsR P ops rest K) fr o.dst)
    | some (j, want) =>
      match (ops[j]?).bind (·.dst) with
      | none => False
      | some t => match fr[t]? with
        | some (.bool b) => if b = want then isR (fr.set t (.bool want)) o.op = true ∧ vcOper P o (fr.set t (.bool want)) aw (contOp (vcOpsR P ops rest K) (fr.set t (.bool want)) o.dst)
            else vcOpsR P ops rest K (putF (fr.set t (.bool !want)) o.dst .any) aw
        | _ => False

def quietFrom (ops : Array Oper) : Nat → Nat → Array Bool → Bool
  | 0, _, listed => (Region.ready .any ops listed).isEmpty
  | k + 1, i, listed => Region.free .any ops listed i && (Region.ready .any ops listed).contains i && quietFrom ops k (i + 1) (listed.setIfInBounds i true)
def quietOk (ops : Array Oper) : Bool := Region.noSelect ops && quietFrom ops ops.size 0 (Array.replicate ops.size false)

section
variable {P : Program} {σ : List Value} {w : World} {F : Nat → Prop} {aw : List Ob}

theorem oper_r {st : St} {fr : List AV} {a : Act} {o : Oper} {K : AV → List Ob → Prop} (hc : Cur st fr aw σ w F a) (hr : isR fr o.op = true) (h : vcOper P o fr aw K) :
    ∃ v r, (execOp a.eval o).run P w = .ok (.value v) w ∧ Rel σ w F r v ∧ K r aw := by
  have hv : vcVal P fr aw o.op K := by
    unfold vcOper at h
    split at h
    · rename_i hop; rw [hop] at hr; simp [isR, isQ] at hr
    · exact h
  unfold vcVal at hv
  split at hv
  · obtain ⟨v, r, h1, h2, h3⟩ := vcQ_ok hc.fr hc.sim o hv
    exact ⟨v, r, h1 w (fun _ _ => rfl), h2, h3⟩
  · rename_i hq
    cases ho : o.op with
    | load t x => rw [ho] at hv; exact e_load' hc.fr hc.sim hv o ho
    | _ => rw [ho] at hr hq; exact absurd hr hq

theorem drawn_aux {st : St} {ops : Array Oper} {R : Act → World → Prop} {K : List AV → List Ob → Prop} (hR : ∀ fr aw σ w F a, Cur st fr aw σ w F a → K fr aw → R a w) (hsel : Region.noSelect ops = true) :
    ∀ (k i : Nat) (l : List Oper) (listed : Array Bool) (fr : List AV) (a : Act), l.length = k → (∀ j, l[j]? = ops[i + j]?) → quietFrom ops k i listed = true → Cur st fr aw σ w F a → vcOpsR P ops l K fr aw →
      wpAnyH P .any ops (onlyN R) (fun w' => w' = w) k listed a w
  | 0, i, l, listed, fr, a, hl, hop, hq, hc, h => by
    have : l = [] := List.eq_nil_of_length_eq_zero hl
    subst this
    exact wpAnyH_done (by simpa [quietFrom] using hq) (hR fr aw σ w F a hc h) 0
  | k + 1, i, [], listed, fr, a, hl, _, _, _, _ => by simp at hl
  | k + 1, i, o :: l, listed, fr, a, hl, hop, hq, hc, h => by
    simp only [quietFrom, Bool.and_eq_true] at hq
    obtain ⟨⟨hfree, hready⟩, hq⟩ := hq
    have hi : ops[i]? = some o := by simpa using (hop 0).symm
    have hop' : ∀ j, l[j]? = ops[i + 1 + j]? := fun j => by have := hop (j + 1); simpa [Nat.add_assoc, Nat.add_comm 1 j] using this
    have step : ∀ (fr' : List AV) (r : AV) (v : Value), Cur st fr' aw σ w F a → Rel σ w F r v → YieldsIf P ops (fun w' => w' = w) o v a → vcOpsR P ops l K (putF fr' o.dst r) aw → wpAnyH P .any ops (onlyN R) (fun w' => w' = w) (k + 1) listed a w := by
      intro fr' r v hc' hr hy hrest
      exact wpAnyH_take hi hsel hfree hready (fun c a w hp => hp) hy rfl
        (drawn_aux hR hsel k (i + 1) l _ _ _ (by simpa using hl) hop' hq (putF_cur hc' hr o.dst) hrest)
    simp only [vcOpsR] at h
    cases hg : o.guard with
    | none =>
      rw [hg] at h
      obtain ⟨h1, h2⟩ := h
      obtain ⟨v, r, hrun, hr, hK⟩ := oper_r hc h1 h2
      exact step fr r v hc hr (.inl ⟨by simp [Region.wanted, hg], fun w' e => by subst e; exact hrun⟩) hK
    | some jw =>
      obtain ⟨j, want⟩ := jw
      rw [hg] at h
      simp only at h
      split at h
      · exact h.elim
      · rename_i t ht
        split at h
        · rename_i b hb
          obtain ⟨v, hv, hrel⟩ := hc.fr.1.get hb
          cases hrel
          have hy : yielded ops a.tmps j = some b := by
            have : a.tmps[t]? = some (.bool b) := by simpa using hv
            simp [yielded, ht, this]
          have hself : ∀ c, b = c → Cur st (fr.set t (.bool c)) aw σ w F a := fun c e => by
            subst e
            have : fr.set t (.bool b) = fr := by
              apply List.ext_getElem?
              intro i
              rw [List.getElem?_set]
              split
              · rename_i e; subst e
                split
                · exact hb.symm
                · rename_i hlt; exact absurd (List.getElem?_eq_some_iff.1 hb).1 hlt
              · rfl
            rw [this]; exact hc
          by_cases hbw : b = want
          · rw [if_pos hbw] at h
            obtain ⟨h1, h2⟩ := h
            obtain ⟨v, r, hrun, hr, hK⟩ := oper_r (hself want hbw) h1 h2
            exact step _ r v (hself want hbw) hr (.inl ⟨by simp [Region.wanted, hg, hy, hbw], fun w' e => by subst e; exact hrun⟩) hK
          · rw [if_neg hbw] at h
            have hbn : b = !want := by cases b <;> cases want <;> simp_all
            exact step _ .any undef (hself _ hbn) (.any _) (.inr ⟨by simp [Region.wanted, hg, hy, hbw], rfl⟩) h
        · exact h.elim

theorem Drawn.quiet {id : Nat} {ops : Array Oper} {K : List AV → List Ob → Prop} {fr : List AV} (hm : P.follows .mixedOrders = true) (hq : quietOk ops = true) (h : vcOpsR P ops ops.toList K fr aw) : Drawn P id ops K fr aw := by
  intro st R σ w F a hR hc
  simp only [quietOk, Bool.and_eq_true] at hq
  have hc' : Cur st fr aw σ w.drew F a := hc.step hc.sim.drew .drew
  exact wp_region_held hm (drawn_aux hR hq.1 ops.size 0 ops.toList _ fr a (by simp) (fun j => by simp) hq.2 hc' h)

-- working 'vcOpsR' out
variable {d : Option Tmp} {ty : TypeId} {ps : String} {af : Array Edge} {ops : Array Oper} {l : List Oper} {fr : List AV} {KK : List AV → List Ob → Prop}
theorem opsR_nil : vcOpsR P ops [] KK fr aw = KK fr aw := rfl
theorem opsR_plain {op : Op} : vcOpsR P ops (⟨d, op, ty, ps, af, none⟩ :: l) KK fr aw = (isR fr op = true ∧ vcOper P ⟨d, op, ty, ps, af, none⟩ fr aw (contOp (vcOpsR P ops l KK) fr d)) := rfl
theorem opsR_guard {op : Op} {j : Nat} {want : Bool} : vcOpsR P ops (⟨d, op, ty, ps, af, some (j, want)⟩ :: l) KK fr aw =
    (match (ops[j]?).bind (·.dst) with
      | none => False
      | some t => match fr[t]? with
        | some (.bool b) => if b = want then isR (fr.set t (.bool want)) op = true ∧ vcOper P ⟨d, op, ty, ps, af, some (j, want)⟩ (fr.set t (.bool want)) aw (contOp (vcOpsR P ops l KK) (fr.set t (.bool want)) d)
            else vcOpsR P ops l KK (putF (fr.set t (.bool !want)) d .any) aw
        | _ => False) := rfl

/-- Data. -/
theorem pure_int (k : IntKind) (n : Int) : Pure (.int k n) := fun σ w F v h σ' => flat_rel rfl h
theorem pure_bool (b : Bool) : Pure (.bool b) := fun σ w F v h σ' => flat_rel rfl h
theorem pure_str (s : List UInt8) : Pure (.str s) := fun σ w F v h σ' => flat_rel rfl h
theorem pure_any : Pure .any := fun σ w F v h σ' => .any v
theorem pure_nils : Pure .nils := fun σ w F v h σ' => by cases h; exact .nils
theorem pure_nilf : Pure .nilf := fun σ w F v h σ' => by cases h; exact .nilf
theorem pure_agg (cs : List AV) (hp : ∀ c, c ∈ cs → Pure c) : Pure (.agg cs) := fun σ w F v h σ' => by
  cases h with
  | agg _ vs hl h1 hc => exact .agg cs vs hl h1 (fun j c u hcj hu => hp c (List.mem_of_getElem? hcj) σ w F u (hc j c u hcj hu) σ')
theorem pure_tup (cs : List AV) (hp : ∀ c, c ∈ cs → Pure c) : Pure (.tup cs) := fun σ w F v h σ' => by
  cases h with
  | tup _ vs hl hc => exact .tup cs vs hl (fun j c u hcj hu => hp c (List.mem_of_getElem? hcj) σ w F u (hc j c u hcj hu) σ')
theorem pure_func (f : FuncId) (cs : List AV) (hp : ∀ c, c ∈ cs → Pure c) : Pure (.func f cs) := fun σ w F v h σ' => by
  cases h with
  | func _ _ vs hl hc => exact .func f cs vs hl (fun j c u hcj hu => hp c (List.mem_of_getElem? hcj) σ w F u (hc j c u hcj hu) σ')
theorem pure_sl (rows : List (List AV)) (hp : ∀ row, row ∈ rows → ∀ c, c ∈ row → Pure c) : Pure (.sl rows) := fun σ w F v h σ' => by
  cases h with
  | slNil => exact .slNil
  | sl _ size ad c u h1 h2 h3 h4 h5 h6 h7 => exact .sl rows size ad c u h1 h2 h3 h4 h5 h6 (fun i row j x hi hx => hp row (List.mem_of_getElem? hi) x (List.mem_of_getElem? hx) σ w F _ (h7 i row j x hi hx) σ')
theorem pure_elt (row : List AV) (off : Nat) (hp : ∀ c, c ∈ row → Pure c) : Pure (.elt row off) := fun σ w F v h σ' => by
  cases h with
  | elt _ _ ad u h1 h2 h3 h4 => exact .elt row off ad u h1 h2 h3 (fun j x hx => hp x (List.mem_of_getElem? hx) σ w F _ (h4 j x hx) σ')

theorem ren_any (ρ : List Nat) (a : AV) : Ren ρ .any a := fun σ w F v h σ' _ => .any v
theorem ren_pure {ρ : List Nat} {a : AV} (h : Pure a) : Ren ρ a a := fun σ w F v hr σ' _ => h σ w F v hr σ'
theorem ren_ptr {ρ : List Nat} {k id off : Nat} (h : ρ[k]? = some id) : Ren ρ (.ptr k off) (.ptr id off) := fun σ w F v hr σ' hσ => by
  cases hr with
  | ptr _ _ g hg => exact .ptr k off g (by rw [hσ k id h]; exact hg)
theorem ren_ref {ρ : List Nat} {k id : Nat} (h : ρ[k]? = some id) : Ren ρ (.ref k) (.ref id) := fun σ w F v hr σ' hσ => by
  cases hr with
  | ref _ A n c hg => exact .ref k A n c (by rw [hσ k id h]; exact hg)

/-- A frame by its slots that matter. -/
def mkF (n : Nat) (l : List (Nat × AV)) : List AV := l.foldl (fun f p => f.set p.1 p.2) (List.replicate n .any)

theorem mkF_nil {n : Nat} : mkF n [] = List.replicate n .any := rfl

/-- A loop by what its rounds hand on: 'x'. -/
def loopI {α : Type} (F : α → List AV) (A : α → List Ob) (μ : α → Nat) (inv : α → Prop) (m : Nat) (fr : List AV) (aw : List Ob) : Prop := ∃ x, fr = F x ∧ aw = A x ∧ μ x = m ∧ inv x
theorem Loop.by {α : Type} {n : Nat} {body : (Exit → List AV → List Ob → Prop) → List AV → List Ob → Prop} {Q : Exit → List AV → List Ob → Prop} {aw : List Ob}
    (F : α → List AV) (A : α → List Ob) (μ : α → Nat) (inv : α → Prop) (x : α) (h0 : inv x) (hw : Weak n fr aw (F x) (A x))
    (hr : ∀ x, inv x → body (loopQ n (loopI F A μ inv) (μ x) Q) (F x) (A x)) : Loop n body Q fr aw := by
  refine ⟨loopI F A μ inv, ⟨μ x, _, _, hw, x, rfl, rfl, rfl, h0⟩, ?_⟩
  rintro m fr aw ⟨y, rfl, rfl, rfl, hy⟩
  exact hr y hy
theorem Loop.back {α : Type} {n : Nat} {Q : Exit → List AV → List Ob → Prop} {aw : List Ob} {F : α → List AV} {A : α → List Ob} {μ : α → Nat} {inv : α → Prop} {x : α} (y : α) (hlt : μ y < μ x) (hy : inv y) (hw : Weak n fr aw (F y) (A y)) :
    loopQ n (loopI F A μ inv) (μ x) Q .normal fr aw := ⟨_, _, _, hlt, hw, y, rfl, rfl, rfl, hy⟩
theorem loopQ_exit {n m id : Nat} {I : Nat → List AV → List Ob → Prop} {Q : Exit → List AV → List Ob → Prop} {aw : List Ob} : loopQ n I m Q (.exit id) fr aw = Q (.exit id) fr aw := rfl
theorem loopQ_ret {n m : Nat} {I : Nat → List AV → List Ob → Prop} {Q : Exit → List AV → List Ob → Prop} {aw : List Ob} : loopQ n I m Q .ret fr aw = Q .ret fr aw := rfl

/-- Forgetting, renaming: 'ρ': the old names of the objects that are kept. -/
theorem Weak.by {n : Nat} {aw aw' : List Ob} {fr' : List AV} (ρ : List Nat) (h1 : ρ.Nodup) (h2 : ∀ k, k < n → ρ[k]? = some k) (h3 : RenL ρ fr' fr) (h4 : RenW ρ aw ρ aw') : Weak n fr aw fr' aw' := ⟨[], ρ, h1, h2, h3, h4⟩
/-- 'nl': the nil slices that are arrays of the call's own from then on. -/
theorem Weak.byN {n : Nat} {aw aw' : List Ob} {fr' : List AV} (nl : List (Nat × TypeId × Nat)) (ρ : List Nat) (h1 : ρ.Nodup) (h2 : ∀ k, k < n → ρ[k]? = some k) (h3 : RenL ρ fr' (nilify nl fr aw).1) (h4 : RenW ρ (nilify nl fr aw).2 ρ aw') : Weak n fr aw fr' aw' := ⟨nl, ρ, h1, h2, h3, h4⟩

-- ends
theorem retQ_ret {fn : Func} {n : Nat} {Q : AV → List Ob → Prop} {aw : List Ob} : retQ P fn n Q .ret fr aw = vcRes P fr aw fn.results.toList (Ret n Q aw) := rfl
theorem retQ_normal {fn : Func} {n : Nat} {Q : AV → List Ob → Prop} {aw : List Ob} : retQ P fn n Q .normal fr aw = vcRes P fr aw fn.results.toList (Ret n Q aw) := rfl
theorem res_nil {aw : List Ob} {K : List AV → Prop} : vcRes P fr aw [] K = K [] := rfl
theorem res_tmp {t : Nat} {rs : List ResultVar} {aw : List Ob} {K : List AV → Prop} : vcRes P fr aw (.tmp t :: rs) K = vcRes P fr aw rs fun vs => K (fr.getD t .any :: vs) := rfl
theorem res_cell {a t : Nat} {rs : List ResultVar} {aw : List Ob} {K : List AV → Prop} : vcRes P fr aw (.cell a t :: rs) K =
    (match fr.getD a .any with
    | .ptr id off => (match aw[id]? with | some (.box cs) => loadRow P t cs off fun v => vcRes P fr aw rs fun vs => K (v :: vs) | _ => False)
    | .elt row off => loadRow P t row off fun v => vcRes P fr aw rs fun vs => K (v :: vs)
    | _ => False) := rfl
/-- What is handed back is data, and nothing else is kept. -/
theorem Ret.data {Q : AV → List Ob → Prop} {aw : List Ob} {vs : List AV} (hp : Pure (retAV vs)) (hQ : Q (retAV vs) []) : Ret 0 Q aw vs :=
  ⟨[], false, retAV vs, [], ⟨[], List.nodup_nil, fun k h => by omega, ren_pure hp, trivial⟩, hQ⟩
/-- What is handed back is read as data. -/
theorem Ret.norm {Q : AV → List Ob → Prop} {aw : List Ob} {vs : List AV} (hp : Pure (normR aw (retAV vs)).1) (hQ : Q (normR aw (retAV vs)).1 []) : Ret 0 Q aw vs :=
  ⟨[], true, _, [], ⟨[], List.nodup_nil, fun k h => by omega, ren_pure hp, trivial⟩, hQ⟩
/-- What is handed back is an array of the caller's own from then on. -/
theorem Ret.own {Q : AV → List Ob → Prop} {aw : List Ob} {k : Nat} {e : TypeId} {s : Nat} {rows : List (List AV)} (hk : aw[k]? = some (.arr e s rows)) (hp : ∀ row, row ∈ rows → ∀ x, x ∈ row → Pure x) (hQ : Q (.ref 0) [.arr e s rows]) : Ret 0 Q aw [.ref k] :=
  ⟨[], false, .ref 0, [.arr e s rows], ⟨[k], by simp, fun k h => by omega, ren_ref rfl, show RenW [k] aw [k] [.arr e s rows] from ⟨⟨_, hk, rfl, rfl, rfl, fun row hr x hx => ren_pure (hp row hr x hx)⟩, trivial⟩⟩, hQ⟩

/-- A function of data. -/
def Fn (P : Program) (f : FuncId) (args : List AV) (v : AV) : Prop := ACalls P f args [] fun r aw => r = v ∧ aw = []
theorem CallK.fn {f : FuncId} {args : List AV} {aw aw1 : List Ob} {v : AV} {K : AV → List Ob → Prop} (h : Fn P f args v) (hp : ∀ a, a ∈ args → Pure a) (hv : Pure v) (hK : K v aw1) : CallK P f args aw aw1 K :=
  .inr ⟨_, h, hp, fun r aw' ⟨h1, h2⟩ => .inr (.inl ⟨h2, by rw [h1]; exact hv, by rw [h1]; exact hK⟩)⟩
/-- What it is handed stays the caller's. -/
theorem CallK.flat {f : FuncId} {args : List AV} {aw aw1 : List Ob} {v : AV} {K : AV → List Ob → Prop} (h : Fn P f args v) (hp : ∀ a, a ∈ args → Pure a) (hv : Go.Proofs.Ytegkmfokfakeiaa.flat v = true) (hK : K v aw) : CallK P f args aw aw1 K :=
  .inr ⟨_, h, hp, fun r aw' ⟨h1, h2⟩ => .inl ⟨by rw [h1]; exact hv, by rw [h1]; exact hK⟩⟩
end

attribute [go_sem ↓] vc_skip vc_ret vc_exit vc_seq vc_block vc_loop vc_cond vc_region vc_drawn then_normal then_ret then_exit block_normal block_ret block_exit ops_nil ops_plain ops_guard cont_eq put_some put_none ev_tmp ev_const ev_func of_int of_bool of_str of_nil of_nilf of_nili of_nilp of_agg of1_int of1_bool of1_str of1_nil vo_move vo_assign vo_pick vo_alloc vo_box vo_load vo_store vo_fieldAddr vo_field vo_indexAddr vo_index vo_binOp vo_unOp vo_makeFunc vo_build vo_buildSlice vo_makeSlice vo_extract vo_nilCheck vo_len vo_min vo_max vo_append vo_call vo_convert vo_slice opsR_nil opsR_plain opsR_guard loopQ_exit loopQ_ret retQ_ret retQ_normal res_nil res_tmp res_cell
theorem isR_load {fr : List AV} {t : TypeId} {x : Operand} : isR fr (.load t x) = true := rfl
attribute [go_sem] loadRow vcBin norm norm0 norm0L normL nilify pickV splice AV.cells isR_load isR isQ vcApp fillAV rowsOf eqCells AV.kd mkF retAV
attribute [go_sem] List.set_cons_zero List.set_cons_succ List.getD_cons_zero List.getD_cons_succ List.length_cons List.length_nil List.getElem?_cons_zero List.getElem?_cons_succ List.cons_append List.nil_append List.length_map
  List.getElem?_toArray true_and and_true List.drop_succ_cons List.drop_zero List.take_succ_cons List.take_zero reduceIte Bool.false_eq_true Bool.not_true Bool.not_false Nat.zero_add Nat.add_zero
  Option.isSome_some Option.bind_some ne_eq not_false_eq_true Int.toNat_natCast List.foldl_cons List.foldl_nil List.replicate_succ List.replicate_zero List.map_cons List.map_nil Option.map_some Option.map_none Option.getD_some Option.getD_none List.toList_toArray List.zip_cons_cons List.zip_nil_left List.zip_nil_right

end Go.Proofs.Ytegkmfokfakeiaa
