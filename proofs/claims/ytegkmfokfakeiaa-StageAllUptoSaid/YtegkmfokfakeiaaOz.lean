/-
  More operations, at the level of OP: append of an integer's make. For every program.
-/
import Derived.Test.YtegkmfokfakeiaaSEq
import Derived.Test.YtegkmfokfakeiaaFr
import Derived.Test.YtegkmfokfakeiaaPz
import Derived.Lib.AppendZerosOnto
namespace Go.Proofs.Ytegkmfokfakeiaa
open Go.RowKit Go.Lib
set_option linter.unusedVariables false
set_option linter.unusedSimpArgs false

section
variable {P : Program} {N n : Nat} {aw aw' : List Ob} {l : List (Nat × AV)}

/-- An operation, by what its run does. -/
theorem OP.of_ok {o : Oper} {fr : List AV} {K : AV → List Ob → Prop} (h : ∀ σ w F a, ARel σ w F fr a → Sim aw σ w F → OpOk P aw σ w F (execOp a.eval o) K) : OP P N o fr aw K :=
  ⟨fun st h1 h2 σ w F a hc Kc Q hk => by
    obtain ⟨v, n, w', aw', σ', F', r, hrun, hn, hs, hm, hr, hK⟩ := h σ w F a hc.fr hc.sim
    unfold Oper.wp
    rw [hrun]
    rcases hn with rfl | ⟨rfl, rfl⟩
    · exact hk r aw' σ' w' F' v hK (hc.step hs hm) hr
    · exact hk r aw' σ' w' F' undef hK (hc.step hs hm) hr⟩

theorem app_zeros {σ : List Value} {w : World} {F : Nat → Prop} {t tn ty e : TypeId} {z : List AV} {kn kq : IntKind} (hu : P.underlying t = some (.slice e)) (htn : P.underlying tn = some (.int kn)) (hz : zeroOf P e = some z) (hzl : z.length = P.cellsOf e) (h0 : 0 < P.cellsOf e) (hby : P.bytesOf e ≤ 128)
    {n m : Nat} {v : Value} {flat : List Value} (hown : w.ownsRow 0 e (P.cellsOf e) v n flat) (hm : 0 < m) (hlen : n + m ≤ 1099511627776) :
    ∃ v' w' news, (Builtin.append_ #[t, tn] ty #[v, .int kq m]).run P w = .ok v' w' ∧ w'.ownsRow 0 e (P.cellsOf e) v' (n + m) (flat ++ news) ∧ w.grownBy w' v.ownBlock ∧
      (v'.ownBlock = v.ownBlock ∨ v'.ownBlock = some w.heap.size) ∧ RelL σ w F (List.replicate m z).flatten news ∧ (∀ u, u ∈ news → u.oneCell' = true) ∧ (∀ A q cp, v = .slice A q cp → cp < n + m → v'.ownBlock = some w.heap.size ∧ w.grownBy w' none) := by
  obtain ⟨i, zv, hi, hiz, hvl, hv1, hvr⟩ := zero_some hz
  have hsz : i.size = P.cellsOf e := by simp [Program.cellsOf, hi]
  have hbb : i.bytes = P.bytesOf e := by simp [Program.bytesOf, hi]
  rw [← hsz] at hown h0 hzl ⊢
  rw [← hbb] at hby
  have hzs : zv.cells.size = i.size := by rw [← hzl]; simpa using hvl
  have hinit := init_rel (hvr σ w F) (by omega) m
  have hone := one_made hv1 (by omega) (m * zv.cells.size)
  have hbytes : (n + m) * i.bytes ≤ 140737488355328 := by
    have : (n + m) * i.bytes ≤ 1099511627776 * 128 := Nat.mul_le_mul hlen hby
    omega
  have h63 : n + m ≤ maxLen := by simp only [maxLen]; omega
  have hnl : (Builtin.zeroCells zv.cells m).toList.length = m * i.size := by rw [Array.length_toList, size_zeroCells, hzs]
  have hfl : (flat ++ (Builtin.zeroCells zv.cells m).toList).length = (n + m) * i.size := by rw [List.length_append, hown.1, hnl, Nat.add_mul]
  have hrel : RelL σ w F (List.replicate m z).flatten (Builtin.zeroCells zv.cells m).toList := by
    have e1 : m * z.length = m * zv.cells.size := by rw [hzl, hzs]
    rw [e1] at hinit
    exact hinit
  have grown : ∀ (old : Nat), old < n + m → ∀ (row : Option Nat),
      (w.drew.alloc (.cells (flat.toArray ++ Builtin.zeroCells zv.cells m ++ Builtin.zeroCells zv.cells (grownCap w (n + m) old e - (n + m))) e)).ownsRow 0 e i.size
        (.slice (some ⟨w.heap.size, 0, none⟩) (n + m) (grownCap w (n + m) old e)) (n + m) (flat ++ (Builtin.zeroCells zv.cells m).toList) ∧
      w.grownBy (w.drew.alloc (.cells (flat.toArray ++ Builtin.zeroCells zv.cells m ++ Builtin.zeroCells zv.cells (grownCap w (n + m) old e - (n + m))) e)) row := by
    intro old ho row
    have hge := grownCap_ge w (n + m) old e
    have hcm : grownCap w (n + m) old e ≤ maxLen := grownCap_le_maxLen w (n + m) old e h63
    refine ⟨⟨hfl, .inr ⟨w.heap.size, _, _, rfl, Nat.zero_le _, heap_alloc_new w.drew _, hge, hcm, ?_, ?_⟩⟩, ⟨rfl, rfl, rfl, by simp, fun k hk _ => Below.heap_alloc w.drew _ k hk⟩⟩
    · simp only [Array.size_append, List.size_toArray, size_zeroCells, hzs, hown.1, ← Nat.add_mul]
      congr 1
      omega
    · simp only [Array.toList_append]
      rw [← hfl]
      exact List.take_left
  rcases hown.2 with ⟨rfl, rfl⟩ | ⟨g, cap, cur, rfl, hbg, hg, hnc, hcm, hcs, htake⟩
  · have hx : flat = [] := List.eq_nil_of_length_eq_zero (by simpa using hown.1)
    subst hx
    have hr := run_append_nil_zeros (P := P) w t tn ty e i zv kq kn hu htn hi hiz m hm h0 (by omega) (by
      have : m * i.bytes ≤ 140737488355328 := by simpa using hbytes
      omega)
    have hgr := grown 0 (by omega) none
    simp only [Nat.zero_add, List.nil_append, Array.empty_append] at hgr ⊢
    exact ⟨_, _, _, hr, hgr.1, hgr.2, .inr rfl, hrel, hone, fun _ _ _ _ _ => ⟨rfl, hgr.2⟩⟩
  · by_cases hroom : n + m ≤ cap
    · have hfit : n * i.size + (Builtin.zeroCells zv.cells m).toList.length ≤ cur.size := by rw [hnl, hcs, ← Nat.add_mul]; exact Nat.mul_le_mul_right _ hroom
      have hst := run_storeCells_at P g (n * i.size) e (Builtin.zeroCells zv.cells m).toList 0 cur w hg (by simpa using hfit) hone
      simp only [Nat.add_zero] at hst
      have hw : IntKind.i64.wrap (m : Int) = m := by rw [IntKind.wrap_i64]; omega
      have hneg : ¬ ((m : Int) < 0) := by omega
      have hns : ¬ (m * i.size = 0) := Nat.mul_ne_zero (by omega) (by omega)
      have h48i : ¬ (281474976710656 < (m : Int) * (i.bytes : Int)) := by
        rw [← Int.natCast_mul]
        have : m * i.bytes ≤ (n + m) * i.bytes := Nat.mul_le_mul_right _ (by omega)
        omega
      have hr : (Builtin.append_ #[t, tn] ty #[.slice (some ⟨g, 0, none⟩) n cap, .int kq m]).run P w = .ok (.slice (some ⟨g, 0, none⟩) (n + m) cap)
          (w.setRow g (cur.toList.take (n * i.size) ++ (Builtin.zeroCells zv.cells m).toList ++ cur.toList.drop (n * i.size + (Builtin.zeroCells zv.cells m).toList.length)).toArray) := by
        simp [Builtin.append_, run_underlying hu, run_underlying htn, sizeOf, typeInfo, zeroValue, hi, hiz, asInt, asIntOf, hw, hneg, hns, h48i, hroom, Addr.add_lit, hst]
      refine ⟨_, _, _, hr, ⟨hfl, .inr ⟨g, cap, _, rfl, hbg, setRow_heap w g cur _ e _ hg, hroom, hcm, ?_, ?_⟩⟩, ⟨rfl, rfl, rfl, by simp, fun k _ hk => setRow_other w g k _ (fun e => hk (by simp [Value.ownBlock, e]))⟩, .inl rfl, hrel, hone, fun A q cp e h => by cases e; omega⟩
      · simp only [List.size_toArray, List.length_append, List.length_take, List.length_drop, Array.length_toList]
        simp only [Array.length_toList] at hfit
        omega
      · rw [htake, ← hfl]
        exact List.take_left
    · have holds : ∀ j u, flat[j]? = some u → w.drew.cell? ((⟨g, 0, none⟩ : Addr).add j) = some u := hown.cells (g := g) rfl
      have hold := run_firstCells_some (P := P) w.drew i.size n ⟨g, 0, none⟩ n cap flat hown.1 holds
      have hr := run_append_grow_zeros (P := P) w t tn ty e i zv kq kn hu htn hi hiz (some ⟨g, 0, none⟩) n cap flat hold m hm h0 (by omega) (by omega) (by
        have : m * i.bytes ≤ (n + m) * i.bytes := Nat.mul_le_mul_right _ (by omega)
        omega) (growslice_fits (by omega) hbytes)
      have hgr := grown cap (by omega) (Value.ownBlock (.slice (some ⟨g, 0, none⟩) n cap))
      exact ⟨_, _, _, hr, hgr.1, hgr.2, .inr rfl, hrel, hone, fun _ _ _ _ _ => ⟨rfl, (grown cap (by omega) none).2⟩⟩

theorem o_app_z {α : Type} {en : α → List AV} {z0 : α} {xs r : List α} {t tn : TypeId} {x y : Operand} {id e c k : Nat} {m : Int} {kn kq : IntKind} {d : Option Tmp} {ty : TypeId} {ps : String} {af : Array Edge} {g : Option (Nat × Bool)} {K2 : AV → List Ob → Prop}
    (hS : SliceOf P t e c) (htn : P.underlying tn = some (.int kn)) (hz : zeroOf P e = some (en z0)) (hen : ∀ a, (en a).length = c) (hx : evA n l x = .ref id) (hy : evA n l y = .int kq m) (ho : aw[id]? = some (.arr e c (xs.map en))) (hr : appz xs m z0 = some r) (hk : aw.length = k)
    (ha : aw.set id .dead ++ [.arr e c (r.map en)] = aw') (h : K2 (.ref k) aw') : OP P N ⟨d, .call ⟨.builtin .append, #[x, y], #[t, tn]⟩, ty, ps, af, g⟩ (mkA n l) aw K2 :=
  OP.of_ok (fun σ w F a har hs => by
    unfold appz at hr; split at hr
    · rename_i hc
      cases hr
      subst hk ha
      have ex := har.ev x
      have ey := har.ev y
      rw [ev_mkA, hx] at ex
      rw [ev_mkA, hy] at ey
      generalize hvx : a.eval x = vx at ex
      generalize hvy : a.eval y = vy at ey
      cases ey
      cases ex with
      | ref _ A q cp hσ =>
        obtain ⟨flat, hown0, hfl, hf, _⟩ := hs.obj id _ _ ho hσ
        have hcc := hS.c
        have hlen : (xs.map en).length + m.toNat ≤ 1099511627776 := by simpa using hc.2
        have hown1 : w.ownsRow 0 e (P.cellsOf e) (.slice A q cp) (xs.map en).length flat := by rw [hcc]; exact hown0
        obtain ⟨v', w', news, hrun, hown, hg, hat, hr, h1, _⟩ := app_zeros (σ := σ) (F := F) (ty := ty) (kq := kq) hS.u htn hz (by rw [hen, hcc]) (by rw [hcc]; exact hS.p) hS.b hown1 (m := m.toNat) (by omega) hlen
        rw [Int.toNat_of_nonneg (by omega)] at hrun
        rw [hcc] at hown
        have s3 := hs.lose id
        have hfree : ∀ b, (Value.slice A q cp).ownBlock = some b → ¬ F b ∧ ¬ Dof (aw.set id .dead) σ b ∧ Dof aw σ b := by
          intro b hb
          refine ⟨hf b hb, fun hd => ?_, ⟨id, _, _, ho, rfl, hσ, (Bk.slice hb)⟩⟩
          obtain ⟨k, o1, v1, ho1, hl, hv1, hb1⟩ := hd
          rcases get_set ho1 with ⟨rfl, rfl, _⟩ | ⟨hne, h2⟩
          · simp [Ob.live] at hl
          · exact hs.sep k id o1 _ v1 _ b hne h2 ho hl rfl hv1 hσ hb1 ((Bk.slice hb))
        have hrow : ∀ row, row ∈ List.replicate m.toNat (en z0) → row.length = c := fun row hm => by rw [List.eq_of_mem_replicate hm, hen]
        have hl2 : (xs.map en).length + m.toNat = (xs.map en ++ List.replicate m.toNat (en z0)).length := by simp
        rw [hl2] at hown
        obtain ⟨s2, m2, r2⟩ := app_push (aw0 := aw) (vx := .slice A q cp) s3 (fun _ h => h.set_dead) hfl hrow hr h1 hown hg hat hfree
        rw [List.length_set] at r2
        have e2 : xs.map en ++ List.replicate m.toNat (en z0) = (xs ++ List.replicate m.toNat z0).map en := by simp
        rw [e2] at s2 m2
        refine ⟨v', _, w', _, _, F, _, ?_, .inl rfl, s2, m2, r2, h⟩
        simp [execOp, resolve, invoke, builtin, Sem.run_bind, hvx, hvy, hrun]
    · cases hr)
end
end Go.Proofs.Ytegkmfokfakeiaa
