/-
  A call's contract out of the conditions of its body: 'ACalls.of_vc'. For every program.
-/
import Derived.Test.YtegkmfokfakeiaaSound
namespace Go.Proofs.Ytegkmfokfakeiaa
open Go.RowKit
set_option linter.unusedVariables false
set_option linter.unusedSimpArgs false

section
variable {P : Program} {σ : List Value} {w : World} {F : Nat → Prop} {aw : List Ob}

def resOf (tmps : Array Value) : ResultVar → Sem Value
  | .tmp t => pure (tmps.getD t undef)
  | .cell a t => do loadVar t (← asAddr (tmps.getD a undef))
theorem run_results (fn : Func) (tmps : Array Value) (us : List Value) (h : (fn.results.toList.mapM (resOf tmps)).run P w = .ok us w) : (results fn tmps).run P w = .ok (if h : us.length = 1 then us[0] else .tuple us.toArray) w := by
  have e : results fn tmps = (do let vs ← fn.results.mapM (resOf tmps); pure (if h : vs.size = 1 then vs[0] else .tuple vs)) := by
    unfold results
    congr 1
  rw [e, Array.mapM_eq_mapM_toList]
  simp only [Sem.run_bind, Sem.run_map, h, Result.andThen_ok]
  by_cases h1 : us.length = 1 <;> simp [h1, Sem.run_bind, Result.andThen_ok]

theorem res_ok {fr : List AV} {a : Act} (ha : ARel σ w F fr a) (hs : Sim aw σ w F) : ∀ (rs : List ResultVar) (K : List AV → Prop), vcRes P fr aw rs K → ∃ vs us, RelL σ w F vs us ∧ K vs ∧ (rs.mapM (resOf a.tmps)).run P w = .ok us w
  | [], K, h => ⟨[], [], .nil, h, by simp⟩
  | .tmp t :: rs, K, h => by
    obtain ⟨vs, us, h1, h2, h3⟩ := res_ok ha hs rs _ h
    refine ⟨_, a.tmps.getD t undef :: us, .cons (ha.ev (.tmp t)) h1, h2, ?_⟩
    simp only [List.mapM_cons, Sem.run_bind, resOf, Sem.run_pure, Result.andThen_ok, h3]
  | .cell x t :: rs, K, h => by
    obtain ⟨v, r, h1, h2, h3⟩ := q_load ha hs h
    obtain ⟨vs, us, h4, h5, h6⟩ := res_ok ha hs rs _ h3
    refine ⟨_, v :: us, .cons h2 h4, h5, ?_⟩
    have hrun := h1 w (fun _ _ => rfl)
    have e : a.eval (.tmp x) = a.tmps.getD x undef := rfl
    rw [e] at hrun
    have : (resOf a.tmps (.cell x t)).run P w = .ok v w := by
      simp only [resOf]
      generalize a.tmps.getD x undef = p at hrun ⊢
      cases p with
      | pointer ad => cases ad with
        | none => simp [Instr.loadAt, Instr.sureAddr, Sem.run_bind] at hrun
        | some ad => simpa [Instr.loadAt, Instr.sureAddr, asAddr, Sem.run_bind] using hrun
      | _ => simp [Instr.loadAt, Instr.sureAddr, Sem.run_bind] at hrun
    simp only [List.mapM_cons, Sem.run_bind, this, Sem.run_pure, Result.andThen_ok, h6]

theorem ret_rel {vs : List AV} {us : List Value} (h : RelL σ w F vs us) : Rel σ w F (retAV vs) (if h : us.length = 1 then us[0] else .tuple us.toArray) := by
  match vs, us, h with
  | [v], [u], h => exact h.2 0 v u rfl rfl
  | [], [], h => exact .tup [] [] rfl (fun j c u hc => by simp at hc)
  | v :: v' :: vs, u :: u' :: us, h =>
    rw [dif_neg (by simp)]
    exact .tup _ _ h.1 h.2
  | [], _ :: _, h => exact absurd h.1 (by simp)
  | _ :: _, [], h => exact absurd h.1 (by simp)
  | [_], _ :: _ :: _, h => exact absurd h.1 (by simp)
  | _ :: _ :: _, [_], h => exact absurd h.1 (by simp)

theorem normR_ok {r : AV} {v : Value} (hs : Sim aw σ w F) (hr : Rel σ w F r v) : ∃ F', Sim (normR aw r).2 σ w F' ∧ Mv aw σ w F (normR aw r).2 σ w F' ∧ Rel σ w F' (normR aw r).1 v := by
  cases r with
  | tup vs =>
    cases hr with
    | tup _ us hl hc =>
      obtain ⟨F', s1, m1, r1⟩ := normL_ok hs ⟨hl, hc⟩
      exact ⟨F', s1, m1, .tup _ us r1.1 r1.2⟩
  | _ => exact norm_ok hs hr

theorem callable {f : FuncId} {fn : Func} (hf : P.funcs[f]? = some fn) (hb : fn.body.isSome = true) (hname : (fn.name == "runtime.NumGoroutine") = false) (vs : Array Value) (w : World) : (callFunc f vs).run P w = .ok (.enter f vs) w := by
  have hb' : fn.body ≠ none := by cases h : fn.body <;> simp_all
  have hn : fn.name ≠ "runtime.NumGoroutine" := by simpa using hname
  simp [callFunc, Sem.run_bind, hf, hn, hb']

theorem ACalls.of_vc {f : FuncId} {fn : Func} {c : Code} {args : List AV} {aw : List Ob} {Q : AV → List Ob → Prop} (hf : P.funcs[f]? = some fn) (hb : fn.body = some c) (hname : (fn.name == "runtime.NumGoroutine") = false)
    (h : vc P aw.length c (retQ P fn aw.length Q) (args ++ List.replicate (fn.ntmps - args.length) .any) aw) : ACalls P f args aw Q := by
  refine ⟨callable hf (by rw [hb]; rfl) hname, fun w F σ vs hs hr => ?_⟩
  have hc : Cur ⟨aw, σ, w, F⟩ (args ++ List.replicate (fn.ntmps - args.length) .any) aw σ w F { tmps := vs.toArray ++ Array.replicate (fn.ntmps - vs.toArray.size) undef, defers := [] } := by
    refine ⟨hs, ⟨?_, rfl⟩, .refl ..⟩
    have h2 : RelL σ w F (List.replicate (fn.ntmps - args.length) .any) (List.replicate (fn.ntmps - vs.length) undef) :=
      ⟨by simp [hr.1], fun j x v hx hv => by rw [List.eq_of_mem_replicate (List.mem_of_getElem? hx)]; exact .any v⟩
    simpa using hr.append h2
  refine calls_of_wp hf hb (wp_mono (vc_sound (st := ⟨aw, σ, w, F⟩) hs.len c _ _ aw σ w F _ h hc) ?_)
  rintro e a' w' ⟨fr', aw', σ', F', hq, hcur⟩
  have key : vcRes P fr' aw' fn.results.toList (Ret aw.length Q aw') → a'.defers = [] ∧ ∃ v, (results fn a'.tmps).run P w' = .ok v w' ∧
      (∃ v' r aw2 σ2 F2, Ending.returned v = .returned v' ∧ Q r aw2 ∧ Sim aw2 σ2 w' F2 ∧ Rel σ2 w' F2 r v' ∧ Mv aw σ w F aw2 σ2 w' F2) := by
    intro hq
    obtain ⟨rs, us, h1, ⟨nl, z, r', aw2, hW, hQ⟩, h3⟩ := res_ok hcur.fr hcur.sim _ _ hq
    obtain ⟨σn, sn, h1n, mn⟩ := nilify_ok nl hcur.sim h1
    refine ⟨hcur.fr.2, _, run_results fn a'.tmps us h3, ?_⟩
    have hrel := ret_rel h1n
    have fin : ∀ (r1 : AV) (aw1 : List Ob) (F1 : Nat → Prop), Sim aw1 σn w' F1 → Mv aw σ w F aw1 σn w' F1 → Rel σn w' F1 r1 (if h : us.length = 1 then us[0] else .tuple us.toArray) → WeakR aw.length r1 aw1 r' aw2 →
        ∃ v' r aw2 σ2 F2, Ending.returned (if h : us.length = 1 then us[0] else .tuple us.toArray) = .returned v' ∧ Q r aw2 ∧ Sim aw2 σ2 w' F2 ∧ Rel σ2 w' F2 r v' ∧ Mv aw σ w F aw2 σ2 w' F2 := by
      intro r1 aw1 F1 s1 m1 hr1 ⟨ρ, hnd, hρ, hren, hRW⟩
      obtain ⟨σ2, hσ, s2, hd⟩ := sim_ren s1 hnd hRW
      exact ⟨_, r', aw2, σ2, F1, rfl, hQ, s2, hren σn w' F1 _ hr1 σ2 hσ, Mv.ren (st := ⟨aw, σ, w, F⟩) hs.len m1 hρ hσ hd⟩
    cases z with
    | true =>
      obtain ⟨F1, s1, m1, r1⟩ := normR_ok sn hrel
      exact fin _ _ F1 s1 ((hcur.mv.trans mn).trans m1) r1 hW
    | false => exact fin _ _ F' sn (hcur.mv.trans mn) hrel hW
  cases e with
  | normal => exact key hq
  | ret => exact key hq
  | exit id => exact hq.elim
  | goto l => exact hq.elim
  | panic ch => exact hq.elim
  | outgrown => exact hq.elim

end

end Go.Proofs.Ytegkmfokfakeiaa
