/-
  Forgetting and renaming on frames that are known slot by slot; calls; ends. For every program.
-/
import Derived.Test.YtegkmfokfakeiaaOp
namespace Go.Proofs.Ytegkmfokfakeiaa
open Go.RowKit
set_option linter.unusedVariables false
set_option linter.unusedSimpArgs false

section
variable {P : Program} {N n : Nat} {aw aw' : List Ob} {l : List (Nat × AV)} {ρ : List Nat}

def RenA (ρ : List Nat) : List (Nat × AV) → List (Nat × AV) → Prop
  | [], _ => True
  | (s, v) :: r, l => Ren ρ v (lkA l s) ∧ RenA ρ r l
theorem renA_lk : ∀ {l' l : List (Nat × AV)}, RenA ρ l' l → ∀ t, Ren ρ (lkA l' t) (lkA l t)
  | [], l, _, t => ren_any ρ _
  | (s, v) :: r, l, h, t => by
    rw [lkA_cons]
    by_cases e : s = t
    · subst e; rw [if_pos rfl]; exact h.1
    · rw [if_neg e]; exact renA_lk h.2 t
theorem renL_of : ∀ {as' as : List AV}, as'.length = as.length → (∀ (j : Nat) a' a, as'[j]? = some a' → as[j]? = some a → Ren ρ a' a) → RenL ρ as' as
  | [], [], _, _ => trivial
  | a' :: as', a :: as, h, k => ⟨k 0 a' a rfl rfl, renL_of (by simpa using h) fun j x y hx hy => k (j + 1) x y (by simpa using hx) (by simpa using hy)⟩
  | [], _ :: _, h, _ => by simp at h
  | _ :: _, [], h, _ => by simp at h
theorem renL_mkA {l' : List (Nat × AV)} (h : RenA ρ l' l) : RenL ρ (mkA n l') (mkA n l) := by
  refine renL_of (by rw [len_mkA, len_mkA]) fun j a' a h1 h2 => ?_
  rw [get_mkA] at h1 h2
  split at h1
  · rename_i hj
    rw [if_pos hj] at h2
    cases h1; cases h2
    exact renA_lk h j
  · cases h1
/-- nil slices as arrays of the call's own. -/
def nilA (n : Nat) : List (Nat × TypeId × Nat) → List (Nat × AV) → List Ob → List (Nat × AV) × List Ob
  | [], l, aw => (l, aw)
  | (s, e, z) :: r, l, aw =>
    match Nat.blt s n, lkA l s with
    | true, .nils => nilA n r ((s, .ref aw.length) :: l) (aw ++ [.arr e z []])
    | _, _ => nilA n r l aw
theorem nilify_mkA : ∀ (nl : List (Nat × TypeId × Nat)) (l : List (Nat × AV)) (aw : List Ob), nilify nl (mkA n l) aw = (mkA n (nilA n nl l aw).1, (nilA n nl l aw).2)
  | [], l, aw => rfl
  | (s, e, z) :: r, l, aw => by
    unfold nilify nilA
    rw [get_mkA]
    by_cases hs : s < n
    · have hb : Nat.blt s n = true := by rw [Nat.blt_eq]; exact hs
      rw [if_pos hs, hb]
      cases hv : lkA l s <;> simp only <;> first
        | exact nilify_mkA r l aw
        | (rw [show (mkA n l).set s (.ref aw.length) = mkA n ((s, .ref aw.length) :: l) from putF_mkA n l (some s) _]; exact nilify_mkA r _ _)
    · have hb : Nat.blt s n = false := by
        cases hb : Nat.blt s n
        · rfl
        · rw [Nat.blt_eq] at hb; exact absurd hb hs
      rw [if_neg hs, hb]
      exact nilify_mkA r l aw
theorem Weak.mkN {l' l1 : List (Nat × AV)} {aw1 : List Ob} (nl : List (Nat × TypeId × Nat)) (ρ : List Nat) (h1 : ρ.Nodup) (h2 : ∀ k, k < N → ρ[k]? = some k) (hn : nilA n nl l aw = (l1, aw1)) (h3 : RenA ρ l' l1) (h4 : RenW ρ aw1 ρ aw') : Weak N (mkA n l) aw (mkA n l') aw' := by
  refine ⟨nl, ρ, h1, h2, ?_, ?_⟩
  · rw [nilify_mkA, hn]; exact renL_mkA h3
  · rw [nilify_mkA, hn]; exact h4
theorem Weak.mk {l' : List (Nat × AV)} (ρ : List Nat) (h1 : ρ.Nodup) (h2 : ∀ k, k < N → ρ[k]? = some k) (h3 : RenA ρ l' l) (h4 : RenW ρ aw ρ aw') : Weak N (mkA n l) aw (mkA n l') aw' := Weak.mkN [] ρ h1 h2 rfl h3 h4

/- single values -/
theorem rn_int {k : IntKind} {a b : Int} (h : a = b) : Ren ρ (.int k a) (.int k b) := by rw [h]; exact ren_pure (pure_int _ _)
theorem rn_bool {a b : Bool} (h : a = b) : Ren ρ (.bool a) (.bool b) := by rw [h]; exact ren_pure (pure_bool _)
theorem rn_str {a b : List UInt8} (h : a = b) : Ren ρ (.str a) (.str b) := by rw [h]; exact ren_pure (pure_str _)
theorem pure_map {α : Type} {en : α → List AV} (hp : ∀ a x, x ∈ en a → Pure x) (xs : List α) : Pure (.sl (xs.map en)) := pure_sl _ fun row hr c hc => by
  obtain ⟨a, _, rfl⟩ := List.mem_map.1 hr
  exact hp a c hc
theorem rn_sl {α : Type} {en : α → List AV} {xs ys : List α} (hp : ∀ a x, x ∈ en a → Pure x) (h : xs = ys) : Ren ρ (.sl (xs.map en)) (.sl (ys.map en)) := by rw [h]; exact ren_pure (pure_map hp _)
theorem rn_nil {α : Type} {en : α → List AV} {xs : List α} (h : xs = []) : Ren ρ (.sl (xs.map en)) .nils := fun σ w F v hr σ' hσ => by subst h; cases hr; exact .slNil
theorem rn_agg {cs ds : List AV} (h : RenL ρ cs ds) : Ren ρ (.agg cs) (.agg ds) := fun σ w F v hr σ' hσ => by
  cases hr with
  | agg _ vs hl h1 hc =>
    have := renL_rel h ⟨hl, hc⟩ hσ
    exact .agg cs vs this.1 h1 this.2
theorem rn_tup {cs ds : List AV} (h : RenL ρ cs ds) : Ren ρ (.tup cs) (.tup ds) := fun σ w F v hr σ' hσ => by
  cases hr with
  | tup _ vs hl hc =>
    have := renL_rel h ⟨hl, hc⟩ hσ
    exact .tup cs vs this.1 this.2
theorem rn_func {f : FuncId} {cs ds : List AV} (h : RenL ρ cs ds) : Ren ρ (.func f cs) (.func f ds) := fun σ w F v hr σ' hσ => by
  cases hr with
  | func _ _ vs hl hc =>
    have := renL_rel h ⟨hl, hc⟩ hσ
    exact .func f cs vs this.1 this.2
theorem rn_ref {k id : Nat} (h : ρ[k]? = some id) : Ren ρ (.ref k) (.ref id) := ren_ref h
theorem rn_ptr {k id off : Nat} (h : ρ[k]? = some id) : Ren ρ (.ptr k off) (.ptr id off) := ren_ptr h
theorem rn_aptr {k id s i j off : Nat} (h : ρ[k]? = some id) (hi : i = j) : Ren ρ (.aptr k s i off) (.aptr id s j off) := fun σ w F v hr σ' hσ => by
  subst hi
  cases hr with
  | aptr _ _ _ _ g n c hg => exact .aptr k s i off g n c (by rw [hσ k id h]; exact hg)
theorem rn_elt {row row' : List AV} {off : Nat} (hp : ∀ c, c ∈ row → Pure c) (h : row = row') : Ren ρ (.elt row off) (.elt row' off) := by rw [← h]; exact ren_pure (pure_elt _ _ hp)
theorem rn_any {a : AV} : Ren ρ .any a := ren_any ρ a
theorem rn_same {a : AV} (h : Pure a) : Ren ρ a a := ren_pure h
/- objects -/
theorem rw_nil {aw : List Ob} : RenW ρ aw [] [] := trivial
theorem rw_dead {ids : List Nat} {id : Nat} {o : Ob} (h : aw[id]? = some o) (t : RenW ρ aw ids aw') : RenW ρ aw (id :: ids) (.dead :: aw') := ⟨⟨o, h, trivial⟩, t⟩
theorem rw_arr {α : Type} {en : α → List AV} {xs ys : List α} {ids : List Nat} {id e s : Nat} (h : aw[id]? = some (.arr e s (ys.map en))) (hp : ∀ a x, x ∈ en a → Pure x) (hx : xs = ys) (t : RenW ρ aw ids aw') : RenW ρ aw (id :: ids) (.arr e s (xs.map en) :: aw') :=
  ⟨⟨_, h, rfl, rfl, by rw [hx], fun row hr x hx => by obtain ⟨a, _, rfl⟩ := List.mem_map.1 hr; exact ren_pure (hp a x hx)⟩, t⟩
theorem rw_box {ids : List Nat} {id : Nat} {cs ds : List AV} (h : aw[id]? = some (.box ds)) (hr : RenL ρ cs ds) (t : RenW ρ aw ids aw') : RenW ρ aw (id :: ids) (.box cs :: aw') := ⟨⟨_, h, hr⟩, t⟩
theorem none_kept (ρ : List Nat) : ∀ k, k < 0 → ρ[k]? = some k := fun k h => absurd h (Nat.not_lt_zero k)

/- a body -/
theorem fn_of_T {f : FuncId} {fn : Func} {c : Code} {args : List AV} {aw : List Ob} {Q : AV → List Ob → Prop} {m N : Nat} (hN : aw.length = N) (hf : P.funcs[f]? = some fn) (hb : fn.body = some c) (hname : (fn.name == "runtime.NumGoroutine") = false) (hm : fn.ntmps = m) (hl : Nat.ble args.length m = true)
    (h : T P N c (retQ P fn N Q) (mkA m (initA 0 args)) aw) : ACalls P f args aw Q := by
  subst hm hN
  refine ⟨callable hf (by rw [hb]; rfl) hname, fun w F σ vs hs hr => ?_⟩
  have hc : Cur ⟨aw, σ, w, F⟩ (args ++ List.replicate (fn.ntmps - args.length) .any) aw σ w F { tmps := vs.toArray ++ Array.replicate (fn.ntmps - vs.toArray.size) undef, defers := [] } := by
    refine ⟨hs, ⟨?_, rfl⟩, .refl ..⟩
    have h2 : RelL σ w F (List.replicate (fn.ntmps - args.length) .any) (List.replicate (fn.ntmps - vs.length) undef) :=
      ⟨by simp [hr.1], fun j x v hx hv => by rw [List.eq_of_mem_replicate (List.mem_of_getElem? hx)]; exact .any v⟩
    simpa using hr.append h2
  rw [init_mkA _ _ (Nat.le_of_ble_eq_true hl)] at hc
  refine calls_of_wp hf hb (wp_mono (h.out ⟨aw, σ, w, F⟩ rfl hs.len σ w F _ hc) ?_)
  rintro e a' w' ⟨fr', aw', σ', F', hq, hcur⟩
  have key : vcRes P fr' aw' fn.results.toList (Ret aw.length Q aw') → a'.defers = [] ∧ ∃ v, (results fn a'.tmps).run P w' = .ok v w' ∧
      (∃ v' r aw2 σ2 F2, Ending.returned v = .returned v' ∧ Q r aw2 ∧ Sim aw2 σ2 w' F2 ∧ Rel σ2 w' F2 r v' ∧ Mv aw σ w F aw2 σ2 w' F2) := by
    intro hq
    obtain ⟨rs, us, h1, ⟨nl, z, r', aw2, hW, hQ⟩, h3⟩ := res_ok hcur.fr hcur.sim _ _ hq
    obtain ⟨σn, sn, h1n, mn⟩ := nilify_ok nl hcur.sim h1
    refine ⟨hcur.fr.2, _, run_results fn a'.tmps us h3, ?_⟩
    have hrel := ret_rel h1n
    have fin : ∀ (r1 : AV) (aw1 : List Ob) (F1 : Nat → Prop), Sim aw1 σn w' F1 → Mv aw σ w F aw1 σn w' F1 → Rel σn w' F1 r1 (if h : us.length = 1 then us[0] else .tuple us.toArray) → WeakR aw.length r1 aw1 r' aw2 →
        ∃ v' r aw2 σ2 F2, Ending.returned (if h : us.length = 1 then us[0] else .tuple us.toArray) = .returned v' ∧ Q r aw2 ∧ Sim aw2 σ2 w' F2 ∧ Rel σ2 w' F2 r v' ∧ Mv aw σ w F aw2 σ2 w' F2 := by
      intro r1 aw1 F1 s1 m1 hr1 ⟨ρ, hnd, hρ, hren, hRW⟩
      obtain ⟨σ2, hσ, s2, hd⟩ := sim_ren s1 hnd hRW
      exact ⟨_, r', aw2, σ2, F1, rfl, hQ, s2, hren σn w' F1 _ hr1 σ2 hσ, Mv.ren (st := ⟨aw, σ, w, F⟩) hs.len m1 hρ hσ hd⟩
    cases z with
    | true =>
      obtain ⟨F1, s1, m1, r1⟩ := normR_ok sn hrel
      exact fin _ _ F1 s1 ((hcur.mv.trans mn).trans m1) r1 hW
    | false => exact fin _ _ F' sn (hcur.mv.trans mn) hrel hW
  cases e with
  | normal => exact key hq
  | ret => exact key hq
  | exit id => exact hq.elim
  | goto l => exact hq.elim
  | panic ch => exact hq.elim
  | outgrown => exact hq.elim

/-- What a body hands back: read as data. -/
theorem ret_data {Q : AV → List Ob → Prop} {aw : List Ob} {vs : List AV} {v : AV} {aw1 : List Ob} (hr : normR aw (retAV vs) = (v, aw1)) (hp : Pure v) (hQ : Q v []) : Ret 0 Q aw vs :=
  Ret.norm (by rw [hr]; exact hp) (by rw [hr]; exact hQ)
/-- As it is: 'ρ': the old names of the objects that are handed back. -/
theorem ret_own {M : Nat} {Q : AV → List Ob → Prop} {aw aw' : List Ob} {vs : List AV} (r : AV) (nl : List (Nat × TypeId × Nat)) (ρ : List Nat) {vs1 : List AV} {aw1 : List Ob} (h1 : ρ.Nodup) (h2 : ∀ k, k < M → ρ[k]? = some k) (hn : nilify nl vs aw = (vs1, aw1)) (hr : Ren ρ r (retAV vs1)) (hw : RenW ρ aw1 ρ aw') (hQ : Q r aw') : Ret M Q aw vs :=
  ⟨nl, false, r, aw', by simp only [hn]; exact ⟨ρ, h1, h2, hr, hw⟩, hQ⟩
theorem res_tmpA {n t : Nat} {l : List (Nat × AV)} {v : AV} {rs : List ResultVar} {K : List AV → Prop} (hx : evA n l (.tmp t) = v) (h : vcRes P (mkA n l) aw rs fun vs => K (v :: vs)) : vcRes P (mkA n l) aw (.tmp t :: rs) K := by
  show vcRes P (mkA n l) aw rs fun vs => K ((mkA n l).getD t .any :: vs)
  have : (mkA n l).getD t .any = v := by rw [← hx]; exact ev_mkA n l (.tmp t)
  rw [this]; exact h
theorem res_cellA {n a t : Nat} {l : List (Nat × AV)} {id off : Nat} {cs : List AV} {v : AV} {rs : List ResultVar} {K : List AV → Prop} (hx : evA n l (.tmp a) = .ptr id off) (ho : aw[id]? = some (.box cs)) (hl : ∀ K : AV → Prop, K v → loadRow P t cs off K) (h : vcRes P (mkA n l) aw rs fun vs => K (v :: vs)) : vcRes P (mkA n l) aw (.cell a t :: rs) K := by
  show vcQ P (mkA n l) aw (.load t (.tmp a)) fun v => vcRes P (mkA n l) aw rs fun vs => K (v :: vs)
  exact v_load_ptr hx ho (hl _ h)
theorem res_done {K : List AV → Prop} {fr : List AV} (h : K []) : vcRes P fr aw [] K := h

/- whole operations by what arrays hold -/
theorem get_map {α : Type} {en : α → List AV} {xs : List α} {i : Nat} {a : α} (h : xs[i]? = some a) : (xs.map en)[i]? = some (en a) := by rw [List.getElem?_map, h]; rfl
theorem o_load_aptr' {α : Type} {en : α → List AV} {xs : List α} {a : α} {t : TypeId} {x : Operand} {id s i off e : Nat} {d : Option Tmp} {ty : TypeId} {ps : String} {af : Array Edge} {g : Option (Nat × Bool)} {K2 : AV → List Ob → Prop} (hx : evA n l x = .aptr id s i off) (ho : aw[id]? = some (.arr e s (xs.map en))) (hr : xs[i]? = some a) (h : loadRow P t (en a) off fun r => K2 r aw) : OP P N ⟨d, .load t x, ty, ps, af, g⟩ (mkA n l) aw K2 :=
  o_load_aptr hx ho (get_map hr) h
theorem o_store_aptr' {α : Type} {en : α → List AV} {xs : List α} {a a' : α} {t : TypeId} {x y : Operand} {id s i off e : Nat} {d : Option Tmp} {ty : TypeId} {ps : String} {af : Array Edge} {g : Option (Nat × Bool)} {K2 : AV → List Ob → Prop} {vs : List AV} {m : Nat} (hm : P.cellsOf t = m) (hs : (P.underlying t).isSome = true) (hx : evA n l x = .aptr id s i off) (hy : (evA n l y).cells = some vs) (hv : vs.length = m) (ho : aw[id]? = some (.arr e s (xs.map en))) (hr : xs[i]? = some a) (hl : Nat.ble (off + m) s = true) (hc : splice (en a) off vs = en a') (ha : aw.set id (.arr e s ((xs.set i a').map en)) = aw') (h : K2 .any aw') : OP P N ⟨d, .store t x y, ty, ps, af, g⟩ (mkA n l) aw K2 :=
  o_store_aptr hm hs hx hy hv ho (get_map hr) hl hc (by rw [← ha, List.map_set]) h
theorem o_mk0 {α : Type} {en : α → List AV} {zr : List AV} {t : TypeId} {x y : Operand} {e c k : Nat} {k1 k2 : IntKind} {i : Int} {xs : List α} {d : Option Tmp} {ty : TypeId} {ps : String} {af : Array Edge} {g : Option (Nat × Bool)} {K2 : AV → List Ob → Prop} (hS : SliceOf P t e c) (hz : zeroOf P e = some zr) (hx : evA n l x = .int k1 0) (hy : evA n l y = .int k2 i) (hm : mk0 i = some xs) (hk : aw.length = k) (ha : aw ++ [.arr e c (xs.map en)] = aw') (h : K2 (.ref k) aw') : OP P N ⟨d, .makeSlice t x y, ty, ps, af, g⟩ (mkA n l) aw K2 :=
  OP.of_vc (by
    unfold mk0 at hm; split at hm
    · rename_i hc
      cases hm
      subst hk ha
      obtain ⟨z', hz1, hz2⟩ := hS.z
      rw [hz] at hz1; cases hz1
      rw [vo_makeSlice, hS.u]; simp only [ev_mkA, hx, hy, hz]
      refine ⟨by rw [hS.c, hz2], by rw [hS.c]; exact hS.p, Int.le_refl _, hc.1, .inl trivial, ?_, by unfold maxLen; omega, by rw [hS.c]; simpa using h⟩
      have h1 : i.toNat ≤ 1099511627776 := by omega
      exact Nat.le_trans (Nat.mul_le_mul hS.b h1) (by decide)
    · cases hm)
/-- A slice of an array of the call's own: nobody writes it any more. -/
theorem o_slice_ref {α : Type} {en : α → List AV} {xs b : List α} {t : TypeId} {x : Operand} {lo hi : Option Operand} {id e c : Nat} {i j : Int} {k k' : IntKind} {d : Option Tmp} {ty : TypeId} {ps : String} {af : Array Edge} {g : Option (Nat × Bool)} {K2 : AV → List Ob → Prop} (hS : SliceOf P t e c) (hen : ∀ a, (en a).length = c) (hx : evA n l x = .ref id) (ho : aw[id]? = some (.arr e c (xs.map en)))
    (hl : (lo.map (evA n l)).getD (.int .i64 0) = .int k i) (hh : (hi.map (evA n l)).getD (.int .i64 xs.length) = .int k' j) (hs : sub xs i j = some b) (ha : aw.set id .dead = aw') (h : K2 (.sl (b.map en)) aw') : OP P N ⟨d, .slice t x lo hi none, ty, ps, af, g⟩ (mkA n l) aw K2 :=
  OP.of_vc (by
    unfold sub at hs; split at hs
    · rename_i hc
      cases hs
      subst ha
      show vcVal P (mkA n l) aw (.slice t x lo hi none) K2
      unfold vcVal
      rw [if_neg (by simp only [isQ, ev_mkA, hx]; simp)]
      simp only [vcE, hS.u, ev_mkA, hx, norm, norm0, ho, List.length_map]
      rw [show lo.map (ev (mkA n l)) = lo.map (evA n l) from by cases lo <;> simp [ev_mkA], show hi.map (ev (mkA n l)) = hi.map (evA n l) from by cases hi <;> simp [ev_mkA], hl, hh]
      refine ⟨hS.s, fun row hr => ?_, hc.1, hc.2.1, hc.2.2, ?_⟩
      · obtain ⟨a, _, rfl⟩ := List.mem_map.1 hr
        rw [hS.c]; exact hen a
      · rw [← List.map_take, ← List.map_drop]; exact h
    · cases hs)
theorem v_index_arr {t : TypeId} {x y : Operand} {K : AV → Prop} {id off e c m q off' : Nat} {k : IntKind} {i : Int} (hu : P.underlying t = some (.array m e)) (hc : P.cellsOf e = c) (hs : (P.underlying e).isSome = true) (hx : evA n l x = .ptr id off) (hy : evA n l y = .int k i) (hi : i = (q : Int)) (hq : Nat.blt q m = true) (h1 : Nat.blt 1 m = true) (ho : off + q * c = off') (h : K (.ptr id off')) : vcQ P (mkA n l) aw (.indexAddr t x y) K := by
  subst hi ho
  rw [Nat.blt_eq] at hq h1
  simp only [vcQ, ev_mkA, hu, hx, hy, hc]
  exact ⟨hs, by omega, by omega, h1, by simpa using h⟩
theorem isAt_some {i k : Int} {u : Unit} (h : isAt i k = some u) : i = k := by
  unfold isAt at h; split at h
  · assumption
  · cases h
def isIntAV : AV → Bool
  | .int _ _ => true
  | _ => false
theorem o_conv_bytes {x : Operand} {s e t : TypeId} {xs : List Int} {d : Option Tmp} {ty : TypeId} {ps : String} {af : Array Edge} {g : Option (Nat × Bool)} {K2 : AV → List Ob → Prop} {aw1 : List Ob} (hs : P.underlying s = some (.slice e)) (he : P.underlying e = some (.int .u8)) (ht : P.underlying t = some .string)
    (hx : norm aw (evA n l x) = (.sl (xs.map fun n => [.int .u8 n]), aw1)) (hni : isIntAV (evA n l x) = false) (h : K2 (.str (toStr xs)) aw1) : OP P N ⟨d, .convert s t x, ty, ps, af, g⟩ (mkA n l) aw K2 :=
  OP.of_vc (by
    rw [vo_convert, if_neg (by rw [ev_mkA]; revert hni; cases evA n l x <;> simp [isIntAV])]
    simp only [hs, ht, ev_mkA, hx, he]
    refine ⟨trivial, by simp [isByte], ?_⟩
    have : (xs.map fun n => ([.int .u8 n] : List AV)).map byteOf' = toStr xs := by simp [byteOf', toStr]
    rw [this]; exact h)
theorem v_index_ref' {α : Type} {en : α → List AV} {xs : List α} {t : TypeId} {x y : Operand} {K : AV → Prop} {id e c m : Nat} {k : IntKind} {i : Int} (hS : SliceOf P t e c) (hx : evA n l x = .ref id) (hy : evA n l y = .int k i) (ho : aw[id]? = some (.arr e c (xs.map en))) (hm : ixN xs i = some m) (h : K (.aptr id c m 0)) : vcQ P (mkA n l) aw (.indexAddr t x y) K := by
  unfold ixN at hm
  split at hm
  · rename_i hc
    cases hm
    exact v_index_ref hS hx hy ho (by simp) hc.1 hc.2 h
  · cases hm
theorem o_app_nil' {α : Type} {en : α → List AV} {ys r : List α} {t : TypeId} {x y : Operand} {e c k : Nat} {aw1 : List Ob} {d : Option Tmp} {ty : TypeId} {ps : String} {af : Array Edge} {g : Option (Nat × Bool)} {K2 : AV → List Ob → Prop} (hS : SliceOf P t e c) (hen : ∀ a, (en a).length = c) (hx : evA n l x = .nils) (hy : norm aw (evA n l y) = (.sl (ys.map en), aw1)) (hr : app [] ys = some r) (hk : aw1.length = k) (ha : aw1 ++ [.arr e c (r.map en)] = aw') (h : K2 (.ref k) aw') : OP P N ⟨d, .call ⟨.builtin .append, #[x, y], #[t, t]⟩, ty, ps, af, g⟩ (mkA n l) aw K2 := by
  unfold app at hr
  split at hr
  · rename_i hc
    cases hr
    exact o_app_nil hS hen hx hy (by simpa using hc) hk ha h
  · cases hr
/- a return from within loops and blocks -/
structure RetIs (Q : Exit → List AV → List Ob → Prop) (R : List AV → List Ob → Prop) : Prop where
  out : ∀ fr aw, R fr aw → Q .ret fr aw
theorem RetIs.base {fn : Func} {M : Nat} {Q : AV → List Ob → Prop} : RetIs (retQ P fn M Q) (fun fr aw => vcRes P fr aw fn.results.toList (Ret M Q aw)) := ⟨fun _ _ h => h⟩
theorem RetIs.thn {K : List AV → List Ob → Prop} {Q : Exit → List AV → List Ob → Prop} {R : List AV → List Ob → Prop} (h : RetIs Q R) : RetIs (thenA K Q) R := ⟨h.out⟩
theorem RetIs.blk {id : Nat} {Q : Exit → List AV → List Ob → Prop} {R : List AV → List Ob → Prop} (h : RetIs Q R) : RetIs (inBlockA id Q) R := ⟨h.out⟩
theorem RetIs.lq {α β : Type} {M : Nat} {v : α ⊕ β} {F : α → List AV} {A : α → List Ob} {Q : Exit → List AV → List Ob → Prop} {R : List AV → List Ob → Prop} (h : RetIs Q R) : RetIs (LQ M v F A Q) R := ⟨h.out⟩
theorem T.ret' {Q : Exit → List AV → List Ob → Prop} {R : List AV → List Ob → Prop} {fr : List AV} (hq : RetIs Q R) (h : R fr aw) : T P N .ret Q fr aw := T.ret (hq.out fr aw h)
/- calls -/
variable {d : Option Tmp} {ty : TypeId} {ps : String} {af : Array Edge} {g : Option (Nat × Bool)} {K2 : AV → List Ob → Prop}
theorem o_call {f : Operand} {args : Array Operand} {ts : Array TypeId} {h : FuncId} {caps as0 as1 : List AV} {aw1 : List Ob} (hf : evA n l f = .func h caps) (ha : args.toList.map (evA n l) = as0) (hn : normL aw as0 = (as1, aw1)) (hK : CallK P h (as1 ++ caps) aw aw1 K2) : OP P N ⟨d, .call ⟨.value f, args, ts⟩, ty, ps, af, g⟩ (mkA n l) aw K2 :=
  OP.of_vc (by
    show vcOper P ⟨d, .call ⟨.value f, args, ts⟩, ty, ps, af, g⟩ (mkA n l) aw K2
    unfold vcOper
    simp only [ev_mkA, hf]
    rw [show args.toList.map (ev (mkA n l)) = as0 from by rw [← ha]; exact List.map_congr_left fun x _ => ev_mkA n l x, hn]
    exact hK)
def Pures : List AV → Prop
  | [] => True
  | a :: as => Pure a ∧ Pures as
theorem pures_mem : ∀ {ls : List AV}, Pures ls → ∀ a, a ∈ ls → Pure a
  | _ :: _, h, _, .head _ => h.1
  | _ :: _, h, _, .tail _ hm => pures_mem h.2 _ hm
/-- A function of data, its answer anything: what it was handed is data from then on. -/
theorem k_fn {f : FuncId} {args : List AV} {aw1 : List Ob} {v : AV} (h : Fn P f args v) (hp : Pures args) (hv : Pure v) (hK : K2 v aw1) : CallK P f args aw aw1 K2 := CallK.fn h (pures_mem hp) hv hK
/-- Its answer is numbers, texts: what it was handed stays the caller's own. -/
theorem k_flat {f : FuncId} {args : List AV} {aw1 : List Ob} {v : AV} (h : Fn P f args v) (hp : Pures args) (hv : flat v = true) (hK : K2 v aw) : CallK P f args aw aw1 K2 := CallK.flat h (pures_mem hp) hv hK
/-- A function of data whose answer has new arrays. -/
def FnO (P : Program) (f : FuncId) (args : List AV) (v : AV) (obs : List Ob) : Prop := ACalls P f args [] fun r aw => r = v ∧ aw = obs
theorem k_own {f : FuncId} {args : List AV} {aw1 : List Ob} {v : AV} {obs : List Ob} (h : FnO P f args v obs) (hp : Pures args) (hv : flatR v = true) (ho : obs.all flatOb = true) (hK : K2 (v.shift aw.length) (aw ++ obs)) : CallK P f args aw aw1 K2 :=
  .inr ⟨_, h, pures_mem hp, fun r aw' ⟨h1, h2⟩ => .inr (.inr (.inr (by subst h1 h2; exact ⟨hv, ho, hK⟩)))⟩
theorem k_own1 {f : FuncId} {args : List AV} {aw1 : List Ob} {v : AV} {e s : Nat} {rows : List (List AV)} (h : FnO P f args v [.arr e s rows]) (hp : Pures args) (hr : ∀ row, row ∈ rows → ∀ x, x ∈ row → Pure x) (hv : (∃ k, v = .ref k) ∨ ∃ vs, v = .tup vs ∧ ∀ x, x ∈ vs → Pure x ∨ ∃ k, x = .ref k) (hK : K2 (v.shift aw1.length) (aw1 ++ [.arr e s rows])) : CallK P f args aw aw1 K2 :=
  .inr ⟨_, h, pures_mem hp, fun r aw' ⟨h1, h2⟩ => .inr (.inr (.inl ⟨e, s, rows, h2, hr, by subst h1; exact hv, by subst h1 h2; exact hK⟩))⟩
theorem k_own' {f : FuncId} {args : List AV} {aw1 aw' : List Ob} {v v' : AV} {obs : List Ob} (h : FnO P f args v obs) (hp : Pures args) (hv : flatR v = true) (ho : obs.all flatOb = true) (hr : v.shift aw.length = v') (ha : aw ++ obs = aw') (hK : K2 v' aw') : CallK P f args aw aw1 K2 := k_own h hp hv ho (by rw [hr, ha]; exact hK)
theorem flatOb_map {α : Type} {en : α → List AV} {xs : List α} {e s : Nat} (h : ∀ a, (en a).all flat0 = true) : flatOb (.arr e s (xs.map en)) = true := by
  simp only [flatOb, List.all_map, List.all_eq_true, Function.comp]
  intro a _
  simpa using h a
theorem obs_nil : ([] : List Ob).all flatOb = true := rfl
theorem obs_cons {o : Ob} {r : List Ob} (h : flatOb o = true) (t : r.all flatOb = true) : (o :: r).all flatOb = true := by simp [h]; simpa using t
def OwnP : List AV → Prop
  | [] => True
  | x :: r => (Pure x ∨ ∃ k, x = .ref k) ∧ OwnP r
theorem ownp_mem : ∀ {vs : List AV}, OwnP vs → ∀ x, x ∈ vs → Pure x ∨ ∃ k, x = .ref k
  | _ :: _, h, _, .head _ => h.1
  | _ :: _, h, _, .tail _ hm => ownp_mem h.2 _ hm
theorem k_own1' {α : Type} {en : α → List AV} {xs : List α} {f : FuncId} {args : List AV} {aw1 aw' : List Ob} {v v' : AV} {e s : Nat} (h : FnO P f args v [.arr e s (xs.map en)]) (hp : Pures args) (hr : ∀ a x, x ∈ en a → Pure x) (hv : (∃ k, v = .ref k) ∨ ∃ vs, v = .tup vs ∧ ∀ x, x ∈ vs → Pure x ∨ ∃ k, x = .ref k) (hs : v.shift aw1.length = v') (ha : aw1 ++ [.arr e s (xs.map en)] = aw') (hK : K2 v' aw') : CallK P f args aw aw1 K2 :=
  k_own1 h hp (fun row hrow x hx => by obtain ⟨a, _, rfl⟩ := List.mem_map.1 hrow; exact hr a x hx) hv (by rw [hs, ha]; exact hK)
end

/- regions in any order, what is listed written out -/
section
variable {P : Program} {N n : Nat} {aw aw' : List Ob} {l : List (Nat × AV)} {ops : Array Oper} {k : Nat} {li : Array Bool} {K : List AV → List Ob → Prop} {fr fr' : List AV}
theorem RA.join (k' : Nat) (li' : Array Bool) (fr' : List AV) (aw' : List Ob) (h : RA P N ops k' li' K fr' aw') (h2 : RA P N ops k' li' K fr' aw' → RA P N ops k li K fr aw) : RA P N ops k li K fr aw := h2 h
theorem RA.weakR (h : RA P N ops k li K fr' aw') (hw : Weak N fr aw fr' aw') : RA P N ops k li K fr aw := RA.weak hw h
theorem RA.t0 {i : Nat} {li' : Array Bool} {o : Oper} (hi : ops[i]? = some o) (hs : Region.noSelect ops = true) (hf : Region.free .any ops li i = true) (hr : (Region.ready .any ops li).contains i = true) (hl : li.setIfInBounds i true = li') (hg : o.guard = none) (hn : quietOp o.op = true)
    (h : vcQ P (mkA n l) aw o.op fun r => RA P N ops k li' K (mkA n (putA l o.dst r)) aw) : RA P N ops (k + 1) li K (mkA n l) aw := by subst hl; exact RA.take hi hs hf hr hg hn h
theorem RA.t1 {i : Nat} {li' : Array Bool} {o : Oper} {j t : Nat} {want b : Bool} (hi : ops[i]? = some o) (hs : Region.noSelect ops = true) (hf : Region.free .any ops li i = true) (hr : (Region.ready .any ops li).contains i = true) (hl : li.setIfInBounds i true = li')
    (hg : o.guard = some (j, want)) (ht : (ops[j]?).bind (·.dst) = some t) (hb : evA n l (.tmp t) = .bool b) (hbw : b = want) (hn : quietOp o.op = true)
    (h : vcQ P (mkA n l) aw o.op fun r => RA P N ops k li' K (mkA n (putA l o.dst r)) aw) : RA P N ops (k + 1) li K (mkA n l) aw := by subst hl; exact RA.takeYes hi hs hf hr hg ht hb hbw hn h
theorem RA.t2 {i : Nat} {li' : Array Bool} {o : Oper} {j t : Nat} {want b : Bool} (hi : ops[i]? = some o) (hs : Region.noSelect ops = true) (hf : Region.free .any ops li i = true) (hr : (Region.ready .any ops li).contains i = true) (hl : li.setIfInBounds i true = li')
    (hg : o.guard = some (j, want)) (ht : (ops[j]?).bind (·.dst) = some t) (hb : evA n l (.tmp t) = .bool b) (hbw : b = !want)
    (h : RA P N ops k li' K (mkA n (putA l o.dst (.tup []))) aw) : RA P N ops (k + 1) li K (mkA n l) aw := by subst hl; exact RA.takeNo hi hs hf hr hg ht hb hbw h
theorem RA.t3 {i : Nat} {li' : Array Bool} {o : Oper} {j t : Nat} {want : Bool} (hi : ops[i]? = some o) (hs : Region.noSelect ops = true) (hf : Region.free .any ops li i = true) (hr : (Region.ready .any ops li).contains i = true) (hl : li.setIfInBounds i true = li')
    (hg : o.guard = some (j, want)) (ht : (ops[j]?).bind (·.dst) = some t) (hb : evA n l (.tmp t) = .tup [])
    (h : RA P N ops k li' K (mkA n (putA l o.dst (.tup []))) aw) : RA P N ops (k + 1) li K (mkA n l) aw := by subst hl; exact RA.takeU hi hs hf hr hg ht hb h
theorem RA.a1 {i1 : Nat} {l1 : Array Bool} (hr : Region.ready .any ops li = [i1]) (e1 : li.setIfInBounds i1 true = l1) (h1 : RO P N ops i1 (RA P N ops k l1 K) fr aw) : RA P N ops (k + 1) li K fr aw := by
  subst e1
  exact RA.all hr (by simp) fun i hi => by simp at hi; subst hi; exact h1
theorem RA.a2 {i1 i2 : Nat} {l1 l2 : Array Bool} (hr : Region.ready .any ops li = [i1, i2]) (e1 : li.setIfInBounds i1 true = l1) (e2 : li.setIfInBounds i2 true = l2) (h1 : RO P N ops i1 (RA P N ops k l1 K) fr aw) (h2 : RO P N ops i2 (RA P N ops k l2 K) fr aw) : RA P N ops (k + 1) li K fr aw := by
  subst e1 e2
  exact RA.all hr (by simp) fun i hi => by simp at hi; rcases hi with rfl | rfl <;> assumption
theorem RA.a3 {i1 i2 i3 : Nat} {l1 l2 l3 : Array Bool} (hr : Region.ready .any ops li = [i1, i2, i3]) (e1 : li.setIfInBounds i1 true = l1) (e2 : li.setIfInBounds i2 true = l2) (e3 : li.setIfInBounds i3 true = l3) (h1 : RO P N ops i1 (RA P N ops k l1 K) fr aw) (h2 : RO P N ops i2 (RA P N ops k l2 K) fr aw) (h3 : RO P N ops i3 (RA P N ops k l3 K) fr aw) : RA P N ops (k + 1) li K fr aw := by
  subst e1 e2 e3
  exact RA.all hr (by simp) fun i hi => by simp at hi; rcases hi with rfl | rfl | rfl <;> assumption
theorem RA.a4 {i1 i2 i3 i4 : Nat} {l1 l2 l3 l4 : Array Bool} (hr : Region.ready .any ops li = [i1, i2, i3, i4]) (e1 : li.setIfInBounds i1 true = l1) (e2 : li.setIfInBounds i2 true = l2) (e3 : li.setIfInBounds i3 true = l3) (e4 : li.setIfInBounds i4 true = l4) (h1 : RO P N ops i1 (RA P N ops k l1 K) fr aw) (h2 : RO P N ops i2 (RA P N ops k l2 K) fr aw) (h3 : RO P N ops i3 (RA P N ops k l3 K) fr aw) (h4 : RO P N ops i4 (RA P N ops k l4 K) fr aw) : RA P N ops (k + 1) li K fr aw := by
  subst e1 e2 e3 e4
  exact RA.all hr (by simp) fun i hi => by simp at hi; rcases hi with rfl | rfl | rfl | rfl <;> assumption
end
/- joins of code -/
theorem T.weakR {P : Program} {N : Nat} {c : Code} {Q : Exit → List AV → List Ob → Prop} {fr fr' : List AV} {aw aw' : List Ob} (h : T P N c Q fr' aw') (hw : Weak N fr aw fr' aw') : T P N c Q fr aw := T.weak hw h
theorem T.join {P : Program} {N : Nat} {x y : Code} {Q : Exit → List AV → List Ob → Prop} {fr : List AV} {aw : List Ob} {Z : Type} (F : Z → List AV) (A : Z → List Ob) (S : Z → Prop) (h : ∀ z, S z → T P N y Q (F z) (A z))
    (h2 : (∀ z, S z → T P N y Q (F z) (A z)) → T P N x (thenA (T P N y Q) Q) fr aw) : T P N (.seq x y) Q fr aw := T.seq (h2 h)

end Go.Proofs.Ytegkmfokfakeiaa
