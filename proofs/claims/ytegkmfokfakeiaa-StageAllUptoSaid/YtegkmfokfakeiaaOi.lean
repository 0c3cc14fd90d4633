/-
  Arrays of the call's own whose room is looked at: cap, a slice beyond the length, copies within, slices.overlaps (for slices.Insert). For every program.
-/
import Derived.Test.YtegkmfokfakeiaaOv
import Derived.Lib.Overlaps
namespace Go.Proofs.Ytegkmfokfakeiaa
open Go.RowKit Go.Lib
set_option linter.unusedVariables false
set_option linter.unusedSimpArgs false

section
variable {P : Program} {N n : Nat} {aw aw' : List Ob} {l : List (Nat × AV)} {σ : List Value} {w : World} {F : Nat → Prop}

theorem aRel_re {t : Nat} {r : AV} {v : Value} {a : Act} (h : ARel σ w F (mkA n l) a) (hv : a.eval (.tmp t) = v) (hr : Rel σ w F r v) : ARel σ w F (mkA n ((t, r) :: l)) a := by
  have e1 : a.tmps.getD t undef = v := hv
  have hset : mkA n ((t, r) :: l) = (mkA n l).set t r := (putF_mkA n l (some t) r).symm
  rw [hset]
  refine ⟨?_, h.2⟩
  by_cases ht : t < a.tmps.size
  · have := h.1.set t hr
    have e2 : a.tmps.toList.set t v = a.tmps.toList := by
      have e3 : a.tmps.toList[t]? = some v := by
        have : a.tmps[t]? = some v := by
          rw [Array.getElem?_eq_getElem ht]
          rw [← e1]; simp [ht]
        simpa using this
      obtain ⟨hlt2, hvs⟩ := List.getElem?_eq_some_iff.1 e3
      rw [← hvs]; exact List.set_getElem_self hlt2
    rwa [e2] at this
  · have hlen := h.1.1
    have : (mkA n l).set t r = mkA n l := List.set_eq_of_length_le (by rw [← hlen]; simpa using Nat.le_of_not_lt ht)
    rw [this]; exact h.1

/-- An array's room may be looked at. -/
theorem T.expose {code : Code} {Q : Exit → List AV → List Ob → Prop} (t id : Nat) {e c : Nat} {rows : List (List AV)} (hx : evA n l (.tmp t) = .ref id) (ho : aw[id]? = some (.arr e c rows))
    (h : ∀ C : Nat, rows.length ≤ C → T P N code Q (mkA n ((t, .vw id c 0 rows.length (some C)) :: l)) aw) : T P N code Q (mkA n l) aw :=
  ⟨fun st h1 h2 σ w F a hcur => by
    have hr := hcur.fr.ev (.tmp t)
    rw [ev_mkA, hx] at hr
    generalize hv : a.eval (.tmp t) = v at hr
    cases hr with
    | ref _ A m C hg =>
      obtain ⟨hm, hmc⟩ := arr_len hcur.sim ho hg
      subst hm
      refine (h C hmc).out st h1 h2 σ w F a ⟨hcur.sim, aRel_re hcur.fr hv ?_, hcur.mv⟩
      refine Rel.vw (σ := σ) (w := w) (F := F) id c 0 rows.length rows.length C (some C) A A hg (by omega) (fun hpos => ?_) (fun k hk => by cases hk; rfl) (fun _ => rfl)
      obtain ⟨_, _, _, _, hc2⟩ := arr_form hcur.sim ho hg
      rcases hc2 with hc2 | ⟨g, cur, e1, _⟩
      · rw [hc2] at hpos; simp at hpos
      · exact ⟨g, e1, by simpa using e1⟩⟩
theorem T.exposeM {α : Type} {en : α → List AV} {xs : List α} {code : Code} {Q : Exit → List AV → List Ob → Prop} (t id : Nat) {e c : Nat} (hx : evA n l (.tmp t) = .ref id) (ho : aw[id]? = some (.arr e c (xs.map en)))
    (h : ∀ C : Nat, xs.length ≤ C → T P N code Q (mkA n ((t, .vw id c 0 xs.length (some C)) :: l)) aw) : T P N code Q (mkA n l) aw :=
  T.expose t id hx ho (fun C hC => by rw [List.length_map] at hC ⊢; exact h C hC)
theorem unvw {id e c m : Nat} {rows : List (List AV)} {C : Nat} {v : Value} (hs : Sim aw σ w F) (ho : aw[id]? = some (.arr e c rows)) (hr : Rel σ w F (.vw id c 0 m (some C)) v) (hm : m = rows.length) : Rel σ w F (.ref id) v := by
  cases hr with
  | vw _ _ _ _ N0 C0 _ A B hσ hn hA hc hz =>
    obtain ⟨h1, _⟩ := arr_len hs ho hσ
    have h2 := hz rfl
    subst h2
    refine .ref id A m (C0 - 0) ?_
    rw [hσ, h1, hm, Nat.sub_zero]

variable {d : Option Tmp} {ty : TypeId} {ps : String} {af : Array Edge} {g : Option (Nat × Bool)} {K2 : AV → List Ob → Prop} {α : Type} {en : α → List AV} {xs ys : List α}

theorem o_cap_vw {t e c id lo m K : Nat} {x : Operand} (hS : SliceOf P t e c) (hx : evA n l x = .vw id c lo m (some K)) (h : K2 (.int .i64 K) aw) : OP P N ⟨d, .call ⟨.builtin .cap, #[x], #[t]⟩, ty, ps, af, g⟩ (mkA n l) aw K2 :=
  OP.of_ok (fun σ w F a har hs => by
    have ex := har.ev x
    rw [ev_mkA, hx] at ex
    generalize hvx : a.eval x = vx at ex
    cases ex with
    | vw _ _ _ _ N0 C _ A B hσ hn hA hc hz =>
      have hk := hc K rfl
      have e1 : C - lo = K := by omega
      refine ⟨.int .i64 K, _, w, aw, σ, F, _, ?_, .inl rfl, hs, .refl .., .int _ _, h⟩
      simp [execOp, resolve, invoke, builtin, Sem.run_bind, hvx, Builtin.cap_, run_underlying hS.u, goInt, e1])

/-- A slice of a view. -/
theorem o_slice_vc {t : TypeId} {x : Operand} {lo hi : Option Operand} {id e c l0 n0 K : Nat} {i j : Int} {k k' : IntKind} {u : Unit} (hS : SliceOf P t e c) (hx : evA n l x = .vw id c l0 n0 (some K))
    (hl : (lo.map (evA n l)).getD (.int .i64 0) = .int k i) (hh : (hi.map (evA n l)).getD (.int .i64 n0) = .int k' j) (hv : vwok n0 i j = some u) (h : K2 (.vw id c (l0 + i.toNat) (j.toNat - i.toNat) (some (K - i.toNat))) aw) :
    OP P N ⟨d, .slice t x lo hi none, ty, ps, af, g⟩ (mkA n l) aw K2 :=
  OP.of_ok (fun σ w F a har hs => by
    unfold vwok at hv; split at hv
    · rename_i hc
      have ex := har.ev x
      rw [ev_mkA, hx] at ex
      generalize hvx : a.eval x = vx at ex
      cases ex with
      | vw _ _ _ _ N0 C _ A B hσ hn hA hcK hz =>
        have hK := hcK K rfl
        obtain ⟨ds, hd⟩ := Option.isSome_iff_exists.1 hS.s
        have hsz := run_sizeOf' hd
        rw [hS.c] at hsz
        have b := fun w' => run_bounds (P := P) har (lo := lo) (hi := hi) (b := true) (len := n0) (cap := C - l0) (by rw [map_evA]; exact hl) (by rw [map_evA]; exact hh) hc.1 hc.2.1 hc.2.2 (by omega) w'
        have e2 : C - l0 - i.toNat = C - (l0 + i.toNat) := by omega
        refine ⟨.slice (if C - l0 = i.toNat then A else A.map (·.add (i.toNat * c))) (j.toNat - i.toNat) (C - (l0 + i.toNat)), _, w, aw, σ, F, _, ?_, .inl rfl, hs, .refl .., ?_, h⟩
        · simp [execOp, hvx, Instr.sliceAt, Instr.slice, Sem.run_bind, run_underlying hS.u, b, hsz, e2]
        · refine .vw id c _ _ N0 C (some (K - i.toNat)) _ B hσ (by omega) (fun hpos => ?_) (fun k hk => by cases hk; omega) (fun h0 => ?_)
          · obtain ⟨g0, e3, e4⟩ := hA (by omega)
            refine ⟨g0, e3, ?_⟩
            have : ¬ C - l0 = i.toNat := by omega
            rw [if_neg this, e4, Option.map_some]
            congr 1
            have : (l0 + i.toNat) * c = l0 * c + i.toNat * c := Nat.add_mul ..
            unfold Addr.add; split <;> simp_all
          · have h1 : i.toNat = 0 := by omega
            rw [← hz (by omega), h1]
            split
            · rfl
            · cases A with
              | none => rfl
              | some A => cases A; simp [Addr.add]
    · cases hv)

theorem o_slice_vh {t : TypeId} {x hi : Operand} {id e c l0 n0 K : Nat} {j : Int} {k' : IntKind} {u : Unit} (hS : SliceOf P t e c) (hx : evA n l x = .vw id c l0 n0 (some K)) (hh : evA n l hi = .int k' j) (hv : vwok n0 0 j = some u)
    (h : K2 (.vw id c l0 j.toNat (some K)) aw) : OP P N ⟨d, .slice t x none (some hi) none, ty, ps, af, g⟩ (mkA n l) aw K2 :=
  o_slice_vc (i := 0) (k := .i64) hS hx rfl hh hv (by simpa using h)

theorem lose_push {k : Nat} {o o' : Ob} {v v' : Value} (hs : Sim aw σ w F) (ho : aw[k]? = some o) (hl : o.live = true) (hv : σ[k]? = some v) (hO : ORel (σ ++ [v']) w F o' v') (hsub : ∀ b, Bk o' v' b → Bk o v b) :
    Sim (aw.set k .dead ++ [o']) (σ ++ [v']) w F ∧ Mv aw σ w F (aw.set k .dead ++ [o']) (σ ++ [v']) w F := by
  have s3 := hs.lose k
  refine ⟨s3.push2 o' v' (fun _ _ => rfl) (Nat.le_refl _) hO (fun b hb hd => ?_), ⟨rfl, rfl, rfl, Nat.le_refl _, fun _ _ _ => rfl, fun i v hv => get_pre hv, fun _ h => h, fun _ h => .inl h, fun b hb => .inl ?_⟩⟩
  · obtain ⟨j, o1, v1, ho1, hl1, hv1, hb1⟩ := hd
    rcases get_set ho1 with ⟨rfl, rfl, _⟩ | ⟨hne, h2⟩
    · simp [Ob.live] at hl1
    · exact hs.sep j k o1 _ v1 _ b hne h2 ho hl1 hl hv1 hv hb1 (hsub b hb)
  · obtain ⟨j, o1, v1, ho1, hl1, hv1, hb1⟩ := hb
    rcases get_app ho1 with h2 | ⟨rfl, rfl⟩
    · have hlt := (List.getElem?_eq_some_iff.1 h2).1
      rw [List.getElem?_append_left (by rw [s3.len]; exact hlt)] at hv1
      rcases get_set h2 with ⟨rfl, rfl, _⟩ | ⟨hne, h3⟩
      · simp [Ob.live] at hl1
      · exact ⟨j, o1, v1, h3, hl1, hv1, hb1⟩
    · rw [← s3.len] at hv1
      simp at hv1
      subst hv1
      exact ⟨k, o, v, ho, hl, hv, hsub b hb1⟩

theorem run_boundsU {fr : List AV} {a : Act} (ha : ARel σ w F fr a) {y : Operand} {len cap : Nat} {kh : IntKind} {h : Int} (eh : ev fr y = .int kh h) (h0 : 0 ≤ h) (h2 : h ≤ cap) (w' : World) :
    (Instr.sliceBounds true len cap none (some (a.eval y)) none).run P w' = .ok (0, h.toNat, cap) w' := by
  have e : a.eval y = .int kh h := by
    have hz := ha.ev y
    rw [eh] at hz
    generalize a.eval y = vz at hz ⊢
    cases hz
    rfl
  have b1 : ∀ code w', (Instr.sliceBound (.int kh h) cap code).run P w' = .ok h.toNat w' := fun code w' => run_sliceBound (P := P) w' kh h cap code (by omega) (by omega)
  simp [Instr.sliceBounds, Sem.run_bind, e, b1]

/-- A slice beyond the length, into the room. -/
theorem o_room {t : TypeId} {x1 hi : Operand} {id e c k x C m0 : Nat} {j : Int} {kq : IntKind} (hS : SliceOf P t e c) (hx : evA n l x1 = .vw id c 0 m0 (some C)) (hm : m0 = xs.length) (hy : evA n l hi = .int kq j) (ho : aw[id]? = some (.arr e c (xs.map en)))
    (hr : roomx xs.length C j = some x) (hk : aw.length = k) (ha : aw.set id .dead ++ [.arrU e c (xs.map en) x] = aw') (h : K2 (.ref k) aw') : OP P N ⟨d, .slice t x1 none (some hi) none, ty, ps, af, g⟩ (mkA n l) aw K2 :=
  OP.of_ok (fun σ w F a har hs => by
    unfold roomx at hr; split at hr
    · rename_i hc
      cases hr
      subst hk ha hm
      have ex := har.ev x1
      rw [ev_mkA, hx] at ex
      generalize hvx : a.eval x1 = vx at ex
      cases ex with
      | vw _ _ _ _ N0 C0 _ A B hσ hn hA hcK hz =>
        have hCC : C0 = C := by have := hcK C rfl; omega
        have hAB := hz rfl
        subst hAB hCC
        obtain ⟨hN, flat, hown, hfl, hcase⟩ := arr_form hs ho hσ
        rw [List.length_map] at hN
        subst hN
        obtain ⟨ds, hd⟩ := Option.isSome_iff_exists.1 hS.s
        obtain ⟨g0, e3, _⟩ := hA hc.1
        subst e3
        have hF : ¬ F g0 := by
          obtain ⟨_, _, _, hf, _⟩ := hs.obj id _ _ ho hσ
          exact hf g0 rfl
        have b := fun w' => run_boundsU (P := P) har (y := hi) (len := xs.length) (cap := C0 - 0) (by rw [ev_mkA, hy]) (by omega) (by omega) w'
        have h0 : (⟨g0, 0, none⟩ : Addr).add 0 = ⟨g0, 0, none⟩ := by simp [Addr.add]
        have hrun : (execOp a.eval ⟨d, .slice t x1 none (some hi) none, ty, ps, af, g⟩).run P w = .ok (.value (.slice (some ⟨g0, 0, none⟩) j.toNat C0)) w := by
          simp only [Nat.sub_zero] at b hvx
          simp [execOp, hvx, Instr.sliceAt, Instr.slice, Sem.run_bind, run_underlying hS.u, b, run_sizeOf' hd, h0]
        have hjj : (xs.map en).length + (j.toNat - xs.length) = j.toNat := by rw [List.length_map]; omega
        obtain ⟨s2, m2⟩ := lose_push (v' := .slice (some ⟨g0, 0, none⟩) j.toNat C0) (o' := .arrU e c (xs.map en) (j.toNat - xs.length)) hs ho rfl hσ
          ⟨g0, C0, flat, by rw [hjj], by rw [hjj]; omega, by rw [List.length_map]; exact hown, hfl.mono (fun _ _ e => get_pre e) (fun _ e => e) (fun _ _ => rfl), hF⟩ (fun _ h => h)
        refine ⟨_, _, w, _, _, F, _, hrun, .inl rfl, s2, m2, ?_, h⟩
        exact .ref _ _ _ _ (by rw [← hs.len]; simp)
    · cases hr)

theorem u_form {id e c x : Nat} {rows : List (List AV)} {A : Option Addr} {q cp : Nat} (hs : Sim aw σ w F) (ho : aw[id]? = some (.arrU e c rows x)) (hσ : σ[id]? = some (.slice A q cp)) :
    q = rows.length + x ∧ q ≤ cp ∧ ∃ g flat cur, A = some ⟨g, 0, none⟩ ∧ ¬ F g ∧ w.heap[g]? = some (.cells cur e (0, 0)) ∧ cp ≤ maxLen ∧ cur.size = cp * c ∧ cur.toList.take (rows.length * c) = flat ∧ flat.length = rows.length * c ∧ FlatRel σ w F c rows flat := by
  obtain ⟨g, C, flat, e1, h1, hown, hfl, hF⟩ := hs.obj id _ _ ho hσ
  cases e1
  rcases hown.2 with ⟨h2, _⟩ | ⟨g', cap, cur, h2, _, hg, h3, h4, h5, h6⟩
  · cases h2
  · cases h2
    exact ⟨rfl, h1, g, flat, cur, rfl, hF, hg, h4, h5, h6, hown.1, hfl⟩

theorem o_slice_U {t : TypeId} {x1 : Operand} {lo hi : Option Operand} {id e c x : Nat} {i j : Int} {k k' : IntKind} {u : Unit} (hS : SliceOf P t e c) (hx : evA n l x1 = .ref id) (ho : aw[id]? = some (.arrU e c (xs.map en) x))
    (hl : (lo.map (evA n l)).getD (.int .i64 0) = .int k i) (hh : (hi.map (evA n l)).getD (.int .i64 (xs.length + x : Nat)) = .int k' j) (hv : vwok (xs.length + x) i j = some u) (h : K2 (.vw id c i.toNat (j.toNat - i.toNat) none) aw) :
    OP P N ⟨d, .slice t x1 lo hi none, ty, ps, af, g⟩ (mkA n l) aw K2 :=
  OP.of_ok (fun σ w F a har hs => by
    unfold vwok at hv; split at hv
    · rename_i hc
      have ex := har.ev x1
      rw [ev_mkA, hx] at ex
      generalize hvx : a.eval x1 = vx at ex
      cases ex with
      | ref _ A q cp hσ =>
        obtain ⟨h1, h2, g0, flat, cur, rfl, _⟩ := u_form hs ho hσ
        rw [List.length_map] at h1
        subst h1
        obtain ⟨ds, hd⟩ := Option.isSome_iff_exists.1 hS.s
        have hsz := run_sizeOf' hd
        rw [hS.c] at hsz
        have b := fun w' => run_bounds (P := P) har (lo := lo) (hi := hi) (b := true) (len := xs.length + x) (cap := cp) (by rw [map_evA]; exact hl) (by rw [map_evA]; exact hh) hc.1 hc.2.1 hc.2.2 h2 w'
        refine ⟨.slice (if cp = i.toNat then some ⟨g0, 0, none⟩ else (some ⟨g0, 0, none⟩ : Option Addr).map (·.add (i.toNat * c))) (j.toNat - i.toNat) (cp - i.toNat), _, w, aw, σ, F, _, ?_, .inl rfl, hs, .refl .., ?_, h⟩
        · simp [execOp, hvx, Instr.sliceAt, Instr.slice, Sem.run_bind, run_underlying hS.u, b, hsz]
        · refine .vw id c _ _ _ cp none _ _ hσ (by omega) (fun hpos => ⟨g0, rfl, ?_⟩) (fun k hk => by cases hk) (fun h0 => ?_)
          · have : ¬ cp = i.toNat := by omega
            rw [if_neg this, Option.map_some, add_box]
          · rw [h0]; split <;> simp [Addr.add]
    · cases hv)

theorem flatten_drop {c : Nat} : ∀ (k : Nat) (l : List (List AV)), (∀ row, row ∈ l → row.length = c) → (l.drop k).flatten = l.flatten.drop (k * c) := by
  intro k
  induction k with
  | zero => intro l _; simp
  | succ k ih =>
    intro l hl
    cases l with
    | nil => simp
    | cons x l =>
      rw [List.drop_succ_cons, ih l (fun row hr => hl row (List.mem_cons_of_mem _ hr)), List.flatten_cons, Nat.add_mul, Nat.one_mul, ← hl x List.mem_cons_self, Nat.add_comm (k * x.length), ← List.drop_drop, List.drop_left]

/-- copy within an array that was made longer: its elements, pushed up to its new end. -/
theorem o_copy_U {t ts e c id x lo m lo2 m2 : Nat} {x1 y : Operand} {cap cap2 : Option Nat} {r : List α} (hS : SliceOf P t e c) (hen : ∀ a, (en a).length = c) (hx : evA n l x1 = .vw id c lo m cap) (hy : evA n l y = .vw id c lo2 m2 cap2) (ho : aw[id]? = some (.arrU e c (xs.map en) x))
    (hr : cpyU xs x lo m lo2 m2 = some r) (ha : aw.set id (.arr e c (r.map en)) = aw') (h : K2 (.int .i64 m) aw') : OP P N ⟨d, .call ⟨.builtin .copy, #[x1, y], #[t, ts]⟩, ty, ps, af, g⟩ (mkA n l) aw K2 :=
  OP.of_ok (fun σ w F a har hs => by
    unfold cpyU at hr; split at hr
    · rename_i hc
      obtain ⟨c1, c2, c3, c4, c5⟩ := hc
      cases hr
      subst ha
      have ex := har.ev x1
      have ey := har.ev y
      rw [ev_mkA, hx] at ex
      rw [ev_mkA, hy] at ey
      generalize hvx : a.eval x1 = vx at ex
      generalize hvy : a.eval y = vy at ey
      cases ex with
      | vw _ _ _ _ N0 C _ A B hσ hn hA _ _ =>
      cases ey with
      | vw _ _ _ _ N1 C1 _ A1 B1 hσ1 hn1 hA1 _ _ =>
      rw [hσ] at hσ1
      cases hσ1
      obtain ⟨hq, hqc, g0, flat, cur, e0, hF, hg, hcm, hsz, htk, hfll, hfl⟩ := u_form hs ho hσ
      subst e0
      obtain ⟨g1, e1, rfl⟩ := hA c1
      cases e1
      obtain ⟨g1, e1, rfl⟩ := hA1 (by omega)
      cases e1
      rw [List.length_map] at hq htk hfll
      obtain ⟨ds, hds⟩ := Option.isSome_iff_exists.1 hS.s
      have hsize := run_sizeOf' hds
      rw [hS.c] at hsize
      have hrow : ∀ row, row ∈ xs.map en → row.length = c := hfl.1
      have hvl : (flat.drop (lo2 * c)).length = m * c := by
        rw [List.length_drop, hfll, ← c5, Nat.add_mul]; omega
      have hfirst : (Builtin.firstCells c m (.slice (some ⟨g0, lo2 * c, none⟩) m2 (C - lo2))).run P w = .ok (flat.drop (lo2 * c)).toArray w :=
        run_firstCells_some w c m ⟨g0, lo2 * c, none⟩ m2 (C - lo2) (flat.drop (lo2 * c)) hvl (fun j u hj => by
          rw [List.getElem?_drop] at hj
          have hlt : lo2 * c + j < xs.length * c := by rw [← hfll]; exact (List.getElem?_eq_some_iff.1 hj).1
          rw [← htk, List.getElem?_take, if_pos hlt] at hj
          rw [show (⟨g0, lo2 * c, none⟩ : Addr).add j = ⟨g0, lo2 * c + j, none⟩ from by unfold Addr.add; split <;> simp_all, cell_of_row w g0 _ cur e (0, 0) hg]
          simpa using hj)
      have hone : ∀ u, u ∈ flat.drop (lo2 * c) → u.oneCell' = true := fun u hu => hfl.2.1 u (List.mem_of_mem_drop hu)
      have hcap : lo * c + m * c ≤ cur.size := by rw [hsz, ← Nat.add_mul]; exact Nat.mul_le_mul_right _ (by omega)
      have hst := run_storeCells_at P g0 (lo * c) e (flat.drop (lo2 * c)) 0 cur w hg (by omega) hone
      simp only [Nat.add_zero] at hst
      have hmin : Nat.min m2 m = m := Nat.min_eq_right c2
      have hrun : (Builtin.copy_ #[t, ts] ty #[.slice (some ⟨g0, lo * c, none⟩) m (C - lo), .slice (some ⟨g0, lo2 * c, none⟩) m2 (C - lo2)]).run P w = .ok (goInt m) (w.setRow g0 (cur.toList.take (lo * c) ++ flat.drop (lo2 * c) ++ cur.toList.drop (lo * c + (flat.drop (lo2 * c)).length)).toArray) := by
        simp [Builtin.copy_, Sem.run_bind, run_underlying hS.u, Builtin.lenOf, hmin, hsize, hfirst, hst]
      have hkk : ∀ b, b ≠ g0 → (w.setRow g0 (cur.toList.take (lo * c) ++ flat.drop (lo2 * c) ++ cur.toList.drop (lo * c + (flat.drop (lo2 * c)).length)).toArray).heap[b]? = w.heap[b]? := fun b hb => setRow_other w g0 b _ hb
      have hlen2 : ((xs.take lo ++ xs.drop lo2).map en).length = N0 := by simp; omega
      have e5 : cur.toList.take (lo * c) = flat.take (lo * c) := by rw [← htk, List.take_take, Nat.min_eq_left (Nat.mul_le_mul_right _ c3)]
      have hll : (flat.take (lo * c) ++ flat.drop (lo2 * c)).length = N0 * c := by
        have : lo * c ≤ xs.length * c := Nat.mul_le_mul_right _ c3
        rw [List.length_append, hvl, List.length_take, hfll, Nat.min_eq_left this, ← Nat.add_mul]
        congr 1; omega
      have hORel : ORel σ (w.setRow g0 (cur.toList.take (lo * c) ++ flat.drop (lo2 * c) ++ cur.toList.drop (lo * c + (flat.drop (lo2 * c)).length)).toArray) F (.arr e c ((xs.take lo ++ xs.drop lo2).map en)) (.slice (some ⟨g0, 0, none⟩) N0 C) := by
        refine ⟨flat.take (lo * c) ++ flat.drop (lo2 * c), ⟨by rw [hlen2]; exact hll, .inr ⟨g0, C, _, by rw [hlen2], Nat.zero_le _, setRow_heap w g0 cur _ e (0, 0) hg, by rw [hlen2]; exact hqc, hcm, ?_, ?_⟩⟩, ⟨fun row hr => ?_, fun u hu => ?_, ?_⟩, fun g2 hg2 => ?_, _, _, _, rfl⟩
        · simp only [List.size_toArray, List.length_append, List.length_take, List.length_drop, Array.length_toList] at hvl ⊢
          omega
        · rw [hlen2]
          simp only [List.toList_toArray]
          rw [e5]
          exact List.take_left' hll
        · obtain ⟨a, _, rfl⟩ := List.mem_map.1 hr
          exact hen a
        · rcases List.mem_append.1 hu with hu | hu
          · exact hfl.2.1 u (List.mem_of_mem_take hu)
          · exact hone u hu
        · rw [List.map_append, List.map_take, List.map_drop, List.flatten_append, flatten_take _ _ hrow, flatten_drop _ _ hrow]
          have hd2 : RelL σ w F ((xs.map en).flatten.drop (lo2 * c)) (flat.drop (lo2 * c)) := by
            refine ⟨by simp [hfl.2.2.1], fun j a v ha hv => ?_⟩
            rw [List.getElem?_drop] at ha hv
            exact hfl.2.2.2 _ a v ha hv
          exact ((hfl.2.2.take _).append hd2).mono (fun _ _ e => e) (fun _ e => e) (fun b hb => hkk b (fun e => hF (e ▸ hb)))
        · simp [Value.ownBlock] at hg2; subst hg2; exact hF
      refine ⟨goInt m, _, _, _, σ, F, _, ?_, .inl rfl, hs.write (b0 := g0) id ho rfl hσ rfl hkk (by simp) _ hORel (fun _ h => h), Mv.write (w := w) (w' := w.setRow g0 _) (F := F) (b0 := g0) id ho rfl hσ rfl rfl rfl rfl hkk (by simp) _ (fun _ h => h), .int _ _, h⟩
      simp [execOp, resolve, invoke, builtin, Sem.run_bind, hvx, hvy, hrun]
    · cases hr)

/-- copy onto a view, of another array of the call's own. -/
theorem o_copy_vr {t ts e c id lo m id2 : Nat} {x y : Operand} {cap : Option Nat} {u : Unit} (hS : SliceOf P t e c) (hen : ∀ a, (en a).length = c) (hx : evA n l x = .vw id c lo m cap) (hy : evA n l y = .ref id2) (ho : aw[id]? = some (.arr e c (xs.map en))) (ho2 : aw[id2]? = some (.arr e c (ys.map en)))
    (hv : vwok xs.length lo ((lo : Int) + m) = some u) (ha : aw.set id (.arr e c ((cpy xs lo m ys).map en)) = aw') (h : K2 (.int .i64 (min m ys.length : Nat)) aw') : OP P N ⟨d, .call ⟨.builtin .copy, #[x, y], #[t, ts]⟩, ty, ps, af, g⟩ (mkA n l) aw K2 := by
  unfold vwok at hv; split at hv
  · rename_i hc
    have hrow : ∀ row, row ∈ ys.map en → row.length = c := fun row hr => by obtain ⟨a, _, rfl⟩ := List.mem_map.1 hr; exact hen a
    rw [cpy_map] at ha
    refine o_copy_gen (news := ys.map en) (k := min m ys.length) hS hx hy ho (fun σ w F v _ hr => isV_vw hr) (fun σ w F v hs hr => ?_) hrow (by simp) (by simp; omega) ha h
    obtain ⟨flat, h1, h2, h3, _⟩ := src_isV hs ho2 (isV_ref hs ho2 hr) (by omega)
    rw [List.drop_zero, List.take_length] at h2
    exact ⟨flat, h1, h2, h3⟩
  · cases hv
/-- .. of a view of another array. -/
theorem o_copy_v2 {t ts e c id lo m id2 lo2 m2 : Nat} {x y : Operand} {cap cap2 : Option Nat} {u u2 : Unit} (hS : SliceOf P t e c) (hen : ∀ a, (en a).length = c) (hx : evA n l x = .vw id c lo m cap) (hy : evA n l y = .vw id2 c lo2 m2 cap2) (ho : aw[id]? = some (.arr e c (xs.map en))) (ho2 : aw[id2]? = some (.arr e c (ys.map en)))
    (hv : vwok xs.length lo ((lo : Int) + m) = some u) (hv2 : vwok ys.length lo2 ((lo2 : Int) + m2) = some u2) (ha : aw.set id (.arr e c ((cpy xs lo m ((ys.drop lo2).take m2)).map en)) = aw') (h : K2 (.int .i64 (min m m2 : Nat)) aw') : OP P N ⟨d, .call ⟨.builtin .copy, #[x, y], #[t, ts]⟩, ty, ps, af, g⟩ (mkA n l) aw K2 := by
  unfold vwok at hv hv2
  split at hv <;> split at hv2
  · rename_i hc hc2
    have hl2 : ((ys.drop lo2).take m2).length = m2 := by rw [List.length_take, List.length_drop]; omega
    have hrow : ∀ row, row ∈ ((ys.drop lo2).take m2).map en → row.length = c := fun row hr => by obtain ⟨a, _, rfl⟩ := List.mem_map.1 hr; exact hen a
    rw [cpy_map, hl2] at ha
    refine o_copy_gen (news := ((ys.drop lo2).take m2).map en) (k := min m m2) hS hx hy ho (fun σ w F v _ hr => isV_vw hr) (fun σ w F v hs hr => ?_) hrow (by rw [List.length_map, hl2]) (by simp; omega) ha h
    obtain ⟨flat, h1, h2, h3, _⟩ := src_isV hs ho2 (isV_vw hr) (by simp; omega)
    rw [List.length_map, hl2]
    rw [← List.map_drop, ← List.map_take] at h2
    exact ⟨flat, h1, h2, h3⟩
  · cases hv2
  · cases hv
  · cases hv

/-- append of an integer's make to the head of an array that has no room for it: a new array. -/
theorem o_app_vz {z0 : α} {r : List α} {t tn : TypeId} {x y : Operand} {id e c k m0 K : Nat} {m : Int} {kn kq : IntKind} (hS : SliceOf P t e c) (htn : P.underlying tn = some (.int kn)) (hz : zeroOf P e = some (en z0)) (hen : ∀ a, (en a).length = c)
    (hx : evA n l x = .vw id c 0 m0 (some K)) (hy : evA n l y = .int kq m) (ho : aw[id]? = some (.arr e c (xs.map en))) (hr : growz xs m0 K m z0 = some r) (hk : aw.length = k) (ha : aw ++ [.arr e c (r.map en)] = aw') (h : K2 (.ref k) aw') :
    OP P N ⟨d, .call ⟨.builtin .append, #[x, y], #[t, tn]⟩, ty, ps, af, g⟩ (mkA n l) aw K2 :=
  OP.of_ok (fun σ w F a har hs => by
    unfold growz at hr; split at hr
    · rename_i hc
      cases hr
      subst hk ha
      have ex := har.ev x
      have ey := har.ev y
      rw [ev_mkA, hx] at ex
      rw [ev_mkA, hy] at ey
      generalize hvx : a.eval x = vx at ex
      generalize hvy : a.eval y = vy at ey
      cases ey
      cases ex with
      | vw _ _ _ _ N0 C _ A B hσ hn hA hcK hzz =>
        have hAB := hzz rfl
        subst hAB
        have hKC : K = C := by have := hcK K rfl; omega
        subst hKC
        obtain ⟨hN, flat, hown0, hfl, hcase⟩ := arr_form hs ho hσ
        rw [List.length_map] at hN
        subst hN
        have hcut : m0 * c ≤ xs.length * c := Nat.mul_le_mul_right _ hc.1
        have hcc := hS.c
        have hownp : w.ownsRow 0 e (P.cellsOf e) (.slice A m0 (K - 0)) m0 (flat.take (m0 * c)) := by
          rw [hcc]
          refine ⟨by rw [List.length_take, hown0.1, Nat.min_eq_left hcut], ?_⟩
          rcases hown0.2 with ⟨h2, h3⟩ | ⟨g0, cap, cur, h2, h3, h4, h5, h6, h7, h8⟩
          · injection h2 with h5 h6 h7
            have hm0 : m0 = 0 := by omega
            exact .inl ⟨by simp [h5, hm0, h7], hm0⟩
          · cases h2
            refine .inr ⟨g0, K, cur, rfl, h3, h4, by omega, h6, h7, ?_⟩
            rw [← h8, List.take_take, Nat.min_eq_left hcut]
        have hlen : m0 + m.toNat ≤ 1099511627776 := hc.2.2.2
        obtain ⟨v', w', news, hrun, hown, hg, hat, hr, h1, hbig⟩ := app_zeros (σ := σ) (F := F) (ty := ty) (kq := kq) hS.u htn hz (by rw [hen, hcc]) (by rw [hcc]; exact hS.p) hS.b hownp (m := m.toNat) (by omega) hlen
        rw [Int.toNat_of_nonneg (by omega)] at hrun
        rw [hcc] at hown
        obtain ⟨hnew, hg0⟩ := hbig A m0 (K - 0) rfl (by omega)
        have hrow : ∀ row, row ∈ List.replicate m.toNat (en z0) → row.length = c := fun row hm => by rw [List.eq_of_mem_replicate hm, hen]
        have hfl2 : FlatRel σ w F c ((xs.map en).take m0) (flat.take (m0 * c)) :=
          ⟨fun row hr => hfl.1 row (List.mem_of_mem_take hr), fun u hu => hfl.2.1 u (List.mem_of_mem_take hu), by rw [flatten_take _ _ hfl.1]; exact hfl.2.2.take _⟩
        have hl2 : m0 + m.toNat = ((xs.map en).take m0 ++ List.replicate m.toNat (en z0)).length := by simp; omega
        rw [hl2] at hown
        obtain ⟨s2, m2, r2⟩ := app_push (aw0 := aw) (vx := .slice none 0 0) hs (fun _ h => h) hfl2 hrow hr h1 hown hg0 (.inr hnew) (fun b hb => by simp [Value.ownBlock] at hb)
        have e2 : (xs.map en).take m0 ++ List.replicate m.toNat (en z0) = (xs.take m0 ++ List.replicate m.toNat z0).map en := by simp
        rw [e2] at s2 m2
        refine ⟨v', _, w', _, _, F, _, ?_, .inl rfl, s2, m2, r2, h⟩
        simp only [Nat.sub_zero] at hrun hvx
        simp [execOp, resolve, invoke, builtin, Sem.run_bind, hvx, hvy, hrun]
    · cases hr)

/-- append to a whole array whose room was looked at. -/
theorem o_app_vw {r : List α} {id e c k m0 C t tx : Nat} {y : Operand} {aw1 : List Ob} (hS : SliceOf P t e c) (hen : ∀ a, (en a).length = c) (hx : evA n l (.tmp tx) = .vw id c 0 m0 (some C)) (hm : m0 = xs.length) (ho0 : aw[id]? = some (.arr e c (xs.map en))) (hlt : Nat.blt tx n = true)
    (hy : norm aw (evA n ((tx, .ref id) :: l) y) = (.sl (ys.map en), aw1)) (ho : aw1[id]? = some (.arr e c (xs.map en))) (hr : app xs ys = some r) (hk : aw1.length = k) (ha : aw1.set id .dead ++ [.arr e c (r.map en)] = aw') (h : K2 (.ref k) aw') :
    OP P N ⟨d, .call ⟨.builtin .append, #[.tmp tx, y], #[t, t]⟩, ty, ps, af, g⟩ (mkA n l) aw K2 :=
  OP.of_ok (fun σ w F a har hs => by
    unfold app at hr; split at hr
    · rename_i hc
      cases hr
      subst hk ha
      have ex := har.ev (.tmp tx)
      rw [ev_mkA, hx] at ex
      have har2 := aRel_re har rfl (unvw hs ho0 ex (by rw [List.length_map]; exact hm))
      obtain ⟨z', hz1, hz2⟩ := hS.z
      have hx2 : evA n ((tx, .ref id) :: l) (.tmp tx) = .ref id := by
        show (match Nat.blt tx n with | true => lkA ((tx, .ref id) :: l) tx | false => .any) = _
        rw [hlt]
        show lkA ((tx, .ref id) :: l) tx = _
        rw [lkA_cons, if_pos rfl]
      refine e_append har2 hs (args := #[.tmp tx, y]) (ats := #[t, t]) ?_ _ rfl
      simp only [vcApp, hS.u, hz1, ev_mkA, hx2, hy, hS.c, List.length_map, ho]
      exact ⟨trivial, trivial, trivial, hz2, hS.p, fun row hr => by obtain ⟨a, _, rfl⟩ := List.mem_map.1 hr; exact hen a, hc, hS.b, by rw [← List.map_append]; exact h⟩
    · cases hr)

/-- slices.overlaps, of two arrays of the call's own. -/
theorem o_overlaps {f : FuncId} {fn : Func} {tS tR e c i1 i2 lo m x : Nat} {cap : Option Nat} {x1 y : Operand} {ts : Array TypeId} {u : Unit} (hf : P.funcs[f]? = some fn) (hname : (fn.name == "runtime.NumGoroutine") = false) (hb : fn.body.isNone = true) (hn : Extern.findNext fn = none)
    (he : Extern.find fn = some (Extern.SlicesOverlaps.overlaps #[tS, tS] #[tR])) (hS : SliceOf P tS e c) (hx : evA n l x1 = .ref i1) (hy : evA n l y = .vw i2 c lo m cap) (h1 : aw[i1]? = some (.arr e c (ys.map en))) (h2 : aw[i2]? = some (.arrU e c (xs.map en) x)) (hr : ovok ys m = some u) (h : K2 (.bool false) aw) :
    OP P N ⟨d, .call ⟨.value (.func f), #[x1, y], ts⟩, ty, ps, af, g⟩ (mkA n l) aw K2 :=
  OP.of_ok (fun σ w F a har hs => by
    unfold ovok at hr; split at hr
    · rename_i hc
      have ex := har.ev x1
      have ey := har.ev y
      rw [ev_mkA, hx] at ex
      rw [ev_mkA, hy] at ey
      generalize hvx : a.eval x1 = vx at ex
      generalize hvy : a.eval y = vy at ey
      cases ex with
      | ref _ A q cp hσ =>
      cases ey with
      | vw _ _ _ _ N0 C _ A' B hσ2 hn2 hA _ _ =>
        obtain ⟨g2, e3, e4⟩ := hA hc.2
        subst e3 e4
        obtain ⟨hq, _, _, _, hcase⟩ := arr_form hs h1 hσ
        obtain ⟨hq2, hqc, g0, flat, cur, e0, hF, hg, hcm, hsz, _⟩ := u_form hs h2 hσ2
        cases e0
        rcases hcase with hcase | ⟨g1, cur1, e1, hF1, hg1, _⟩
        · have : ys = [] := List.map_eq_nil_iff.1 hcase
          subst this; simp at hc
        · subst e1
          have hne : g1 ≠ g2 := by
            rintro rfl
            have hi : i1 ≠ i2 := by rintro rfl; rw [h1] at h2; cases h2
            exact hs.sep i1 i2 _ _ _ _ g1 hi h1 h2 rfl rfl hσ hσ2 rfl rfl
          obtain ⟨ds, hd⟩ := Option.isSome_iff_exists.1 hS.s
          have hsize := fun w => run_sizeOf' (P := P) (w := w) hd
          have hk0 : cur.size ≠ 0 := by
            rw [hsz]
            exact Nat.mul_ne_zero (by omega) (by have := hS.p; omega)
          have hov := Lib.run_overlaps_apart (P := P) w tS tR e hS.u _ hsize ⟨g1, 0, none⟩ ⟨g2, lo * c, none⟩ q cp m (C - lo) hne e e cur1.size cur.size (by simp [World.shape?, hg1]) (by simp [World.shape?, hg]) hk0 (by simp [World.frozen?, hg1]) (by simp [World.frozen?, hg1])
          have hcall := run_callFunc_extern hf hname hb hn he #[.slice (some ⟨g1, 0, none⟩) q cp, .slice (some ⟨g2, lo * c, none⟩) m (C - lo)] w
          rw [hov] at hcall
          refine ⟨.bool false, _, w, aw, σ, F, _, ?_, .inl rfl, hs, .refl .., .bool _, h⟩
          have hvf : a.eval (.func f) = .func (.func f) #[] #[] := rfl
          have e9 : #[x1, y].map a.eval ++ #[] = #[.slice (some ⟨g1, 0, none⟩) q cp, .slice (some ⟨g2, lo * c, none⟩) m (C - lo)] := by simp [hvx, hvy]
          simp only [execOp, resolve, Deferred.ofValue, hvf, Sem.run_bind, Sem.run_pure, Result.andThen_ok, invoke, Array.empty_append, e9, hcall]
    · cases hr)
end
end Go.Proofs.Ytegkmfokfakeiaa
