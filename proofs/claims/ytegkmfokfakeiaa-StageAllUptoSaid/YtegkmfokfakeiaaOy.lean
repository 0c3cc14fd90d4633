/-
  More operations: cap and head of a nil slice; the head of an array of the call's own stays its own; append of zeros to a nil slice. For every program.
-/
import Derived.Test.YtegkmfokfakeiaaOz
namespace Go.Proofs.Ytegkmfokfakeiaa
open Go.RowKit Go.Lib
set_option linter.unusedVariables false
set_option linter.unusedSimpArgs false

section
variable {P : Program} {N n : Nat} {aw aw' : List Ob} {l : List (Nat × AV)}

theorem o_cap_nil {t : TypeId} {x : Operand} {e c : Nat} {d : Option Tmp} {ty : TypeId} {ps : String} {af : Array Edge} {g : Option (Nat × Bool)} {K2 : AV → List Ob → Prop}
    (hS : SliceOf P t e c) (hx : evA n l x = .nils) (h : K2 (.int .i64 0) aw) : OP P N ⟨d, .call ⟨.builtin .cap, #[x], #[t]⟩, ty, ps, af, g⟩ (mkA n l) aw K2 :=
  OP.of_ok (fun σ w F a har hs => by
    have ex := har.ev x
    rw [ev_mkA, hx] at ex
    generalize hvx : a.eval x = vx at ex
    cases ex
    refine ⟨.int .i64 0, _, w, aw, σ, F, _, ?_, .inl rfl, hs, .refl .., .int _ _, h⟩
    simp [execOp, resolve, invoke, builtin, Sem.run_bind, hvx, Builtin.cap_, run_underlying hS.u, goInt])

theorem o_slice_nil0 {t : TypeId} {x y : Operand} {e c : Nat} {kq : IntKind} {d : Option Tmp} {ty : TypeId} {ps : String} {af : Array Edge} {g : Option (Nat × Bool)} {K2 : AV → List Ob → Prop}
    (hS : SliceOf P t e c) (hx : evA n l x = .nils) (hy : evA n l y = .int kq 0) (h : K2 .nils aw) : OP P N ⟨d, .slice t x none (some y) none, ty, ps, af, g⟩ (mkA n l) aw K2 :=
  OP.of_ok (fun σ w F a har hs => by
    have ex := har.ev x
    rw [ev_mkA, hx] at ex
    generalize hvx : a.eval x = vx at ex
    cases ex
    obtain ⟨ds, hd⟩ := Option.isSome_iff_exists.1 hS.s
    have b := fun w' => run_bounds (P := P) har (lo := none) (hi := some y) (b := true) (len := 0) (cap := 0) (kl := .i64) (l := 0) rfl (by show ev (mkA n l) y = _; rw [ev_mkA, hy]) (by omega) (by omega) (by omega) (by omega) w'
    refine ⟨.slice none 0 0, _, w, aw, σ, F, _, ?_, .inl rfl, hs, .refl .., .nils, h⟩
    simp only [Option.map_none, Option.map_some] at b
    simp [execOp, hvx, Instr.sliceAt, Instr.slice, Sem.run_bind, run_underlying hS.u, b, run_sizeOf' hd])

theorem flatten_take {size : Nat} : ∀ (rows : List (List AV)) (j : Nat), (∀ row, row ∈ rows → row.length = size) → (rows.take j).flatten = rows.flatten.take (j * size)
  | [], j, _ => by simp
  | r :: rows, 0, _ => by simp
  | r :: rows, j + 1, h => by
    have hr := h r (by simp)
    have e : (j + 1) * size = r.length + j * size := by rw [Nat.add_mul]; omega
    rw [List.take_succ_cons, List.flatten_cons, List.flatten_cons, flatten_take rows j (fun x hx => h x (by simp [hx])), e, List.take_length_add_append]

theorem o_slice_own {α : Type} {en : α → List AV} {xs b : List α} {t : TypeId} {x y : Operand} {id e c k : Nat} {j : Int} {kq : IntKind} {d : Option Tmp} {ty : TypeId} {ps : String} {af : Array Edge} {g : Option (Nat × Bool)} {K2 : AV → List Ob → Prop}
    (hS : SliceOf P t e c) (hx : evA n l x = .ref id) (hy : evA n l y = .int kq j) (ho : aw[id]? = some (.arr e c (xs.map en))) (hs' : sub xs 0 j = some b) (hk : aw.length = k)
    (ha : aw.set id .dead ++ [.arr e c (b.map en)] = aw') (h : K2 (.ref k) aw') : OP P N ⟨d, .slice t x none (some y) none, ty, ps, af, g⟩ (mkA n l) aw K2 :=
  OP.of_ok (fun σ w F a har hs => by
    unfold sub at hs'; split at hs'
    · rename_i hc
      cases hs'
      subst hk ha
      have ex := har.ev x
      rw [ev_mkA, hx] at ex
      generalize hvx : a.eval x = vx at ex
      cases ex with
      | ref _ A q cp hσ =>
        obtain ⟨flat, hown0, hfl, hf, _⟩ := hs.obj id _ _ ho hσ
        obtain ⟨ds, hd⟩ := Option.isSome_iff_exists.1 hS.s
        have hlen : (xs.map en).length = xs.length := by simp
        have hq : q = xs.length ∧ q ≤ cp := by
          rcases hown0.2 with ⟨h1, h2⟩ | ⟨g0, cap, cur, h1, _, _, h2, _⟩
          · cases h1; exact ⟨by omega, by omega⟩
          · cases h1; exact ⟨by omega, h2⟩
        have b := fun w' => run_bounds (P := P) har (lo := none) (hi := some y) (b := true) (len := q) (cap := cp) (kl := .i64) (l := 0) rfl (by show ev (mkA n l) y = _; rw [ev_mkA, hy]) (by omega) hc.2.1 (by omega) hq.2 w'
        simp only [Option.map_none, Option.map_some] at b
        have hrun : (execOp a.eval ⟨d, .slice t x none (some y) none, ty, ps, af, g⟩).run P w = .ok (.value (.slice A j.toNat cp)) w := by
          cases A with
          | none => simp [execOp, hvx, Instr.sliceAt, Instr.slice, Sem.run_bind, run_underlying hS.u, b, run_sizeOf' hd]
          | some A =>
            have h0 : A.add 0 = A := by cases A; simp [Addr.add]
            simp [execOp, hvx, Instr.sliceAt, Instr.slice, Sem.run_bind, run_underlying hS.u, b, run_sizeOf' hd, h0]
        have s3 := hs.lose id
        have hfree : ∀ b, (Value.slice A q cp).ownBlock = some b → ¬ F b ∧ ¬ Dof (aw.set id .dead) σ b ∧ Dof aw σ b := by
          intro b hb
          refine ⟨hf b hb, fun hd => ?_, ⟨id, _, _, ho, rfl, hσ, (Bk.slice hb)⟩⟩
          obtain ⟨k, o1, v1, ho1, hl, hv1, hb1⟩ := hd
          rcases get_set ho1 with ⟨rfl, rfl, _⟩ | ⟨hne, h2⟩
          · simp [Ob.live] at hl
          · exact hs.sep k id o1 _ v1 _ b hne h2 ho hl rfl hv1 hσ hb1 ((Bk.slice hb))
        have hjl : j.toNat ≤ xs.length := by omega
        have hcut : (j.toNat) * c ≤ xs.length * c := Nat.mul_le_mul_right _ hjl
        have hown : w.ownsRow 0 e c (.slice A j.toNat cp) ((xs.map en).take j.toNat ++ []).length (flat.take (j.toNat * c) ++ []) := by
          rw [List.append_nil, List.append_nil, List.length_take, hlen, Nat.min_eq_left hjl]
          have h1 := hown0.1
          rw [hlen] at h1
          refine ⟨by rw [List.length_take, h1, Nat.min_eq_left hcut], ?_⟩
          rcases hown0.2 with ⟨h2, h3⟩ | ⟨g0, cap, cur, h2, h3, h4, h5, h6, h7, h8⟩
          · cases h2
            rw [hlen] at h3
            have : j.toNat = 0 := by omega
            exact .inl ⟨by rw [this], this⟩
          · cases h2
            rw [hlen] at h5 h8
            refine .inr ⟨g0, cp, cur, rfl, h3, h4, by omega, h6, h7, ?_⟩
            rw [← h8, List.take_take, Nat.min_eq_left hcut]
        have hfl2 : FlatRel σ w F c ((xs.map en).take j.toNat) (flat.take (j.toNat * c)) :=
          ⟨fun row hr => hfl.1 row (List.mem_of_mem_take hr), fun u hu => hfl.2.1 u (List.mem_of_mem_take hu), by rw [flatten_take _ _ hfl.1]; exact hfl.2.2.take _⟩
        obtain ⟨s2, m2, r2⟩ := app_push (aw0 := aw) (vx := .slice A q cp) (old := (xs.map en).take j.toNat) (rows := []) (news := []) s3 (fun _ h => h.set_dead) hfl2 (fun row hr => by simp at hr) .nil (fun u hu => by simp at hu) hown (World.grownBy.refl w _) (.inl (by cases A <;> rfl)) hfree
        rw [List.length_set] at r2
        have e2 : (xs.map en).take j.toNat ++ [] = ((xs.take j.toNat).drop (Int.toNat 0)).map en := by simp
        rw [e2] at s2 m2
        exact ⟨_, _, w, _, _, F, _, hrun, .inl rfl, s2, m2, r2, h⟩
    · cases hs')

theorem o_app_zn {α : Type} {en : α → List AV} {z0 : α} {r : List α} {t tn : TypeId} {x y : Operand} {e c k : Nat} {m : Int} {kn kq : IntKind} {d : Option Tmp} {ty : TypeId} {ps : String} {af : Array Edge} {g : Option (Nat × Bool)} {K2 : AV → List Ob → Prop}
    (hS : SliceOf P t e c) (htn : P.underlying tn = some (.int kn)) (hz : zeroOf P e = some (en z0)) (hen : ∀ a, (en a).length = c) (hx : evA n l x = .nils) (hy : evA n l y = .int kq m) (hr : appz [] m z0 = some r) (hk : aw.length = k)
    (ha : aw ++ [.arr e c (r.map en)] = aw') (h : K2 (.ref k) aw') : OP P N ⟨d, .call ⟨.builtin .append, #[x, y], #[t, tn]⟩, ty, ps, af, g⟩ (mkA n l) aw K2 :=
  OP.of_ok (fun σ w F a har hs => by
    unfold appz at hr; split at hr
    · rename_i hc
      cases hr
      subst hk ha
      have ex := har.ev x
      have ey := har.ev y
      rw [ev_mkA, hx] at ex
      rw [ev_mkA, hy] at ey
      generalize hvx : a.eval x = vx at ex
      generalize hvy : a.eval y = vy at ey
      cases ey
      cases ex
      have hcc := hS.c
      have hlen : 0 + m.toNat ≤ 1099511627776 := by simpa using hc.2
      obtain ⟨v', w', news, hrun, hown, hg, hat, hr, h1, _⟩ := app_zeros (σ := σ) (F := F) (ty := ty) (kq := kq) hS.u htn hz (by rw [hen, hcc]) (by rw [hcc]; exact hS.p) hS.b (World.ownsRow_nil w 0 e (P.cellsOf e)) (m := m.toNat) (by omega) hlen
      rw [Int.toNat_of_nonneg (by omega)] at hrun
      rw [hcc] at hown
      have hrow : ∀ row, row ∈ List.replicate m.toNat (en z0) → row.length = c := fun row hm => by rw [List.eq_of_mem_replicate hm, hen]
      have hl2 : 0 + m.toNat = (([] : List (List AV)) ++ List.replicate m.toNat (en z0)).length := by simp
      rw [hl2] at hown
      obtain ⟨s2, m2, r2⟩ := app_push (aw0 := aw) (vx := .slice none 0 0) (old := []) (flat := []) hs (fun _ h => h) ⟨fun _ h => by simp at h, fun _ h => by simp at h, .nil⟩ hrow hr h1 hown hg hat (fun b hb => by simp [Value.ownBlock] at hb)
      have e2 : ([] : List (List AV)) ++ List.replicate m.toNat (en z0) = ([] ++ List.replicate m.toNat z0).map en := by simp
      rw [e2] at s2 m2
      refine ⟨v', _, w', _, _, F, _, ?_, .inl rfl, s2, m2, r2, h⟩
      simp [execOp, resolve, invoke, builtin, Sem.run_bind, hvx, hvy, hrun]
    · cases hr)
end
end Go.Proofs.Ytegkmfokfakeiaa
