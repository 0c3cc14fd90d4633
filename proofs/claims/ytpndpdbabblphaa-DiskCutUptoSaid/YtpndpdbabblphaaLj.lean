/-
  strings.Join, by the library's contract. Printed by a program of ours (wip/lay.py).
-/
import Derived.Shelf.Strings.OnBuilder
import Derived.Test.YtpndpdbabblphaaEnc
namespace Go.Proofs.Ytpndpdbabblphaa
open Go.RowKit Go.Shelf
set_option maxRecDepth 100000
set_option maxHeartbeats 4000000
def jR : Go.Shelf.Ren := ⟨fun n => match n with | 156 => 68 | 165 => 69 | 166 => 70 | 169 => 71 | 240 => 72 | 241 => 73 | 276 => 74 | 277 => 75 | _ => 0, fun n => match n with | 0 => 0 | 3 => 3 | 4 => 4 | 5 => 5 | 9 => 9 | 20 => 20 | 31 => 29 | 37 => 67 | 70 => 105 | 72 => 107 | 75 => 110 | 76 => 111 | 80 => 113 | 127 => 114 | 164 => 115 | _ => 0, fun n => n⟩
theorem jL : Lays.n156 Try.prog jR where
  mixed := mixed
  f156 := by kernel_rfl
  f165 := by kernel_rfl
  f166 := by kernel_rfl
  f169 := by kernel_rfl
  f240 := by kernel_rfl
  f241 := by kernel_rfl
  f276 := by kernel_rfl
  f277 := by kernel_rfl
  t0 := by kernel_rfl
  a0 := fun w => by kernel_rfl
  z0 := fun w => by kernel_rfl
  v0 := fun w => by kernel_rfl
  t3 := by kernel_rfl
  a3 := fun w => by kernel_rfl
  z3 := fun w => by kernel_rfl
  v3 := fun w => by kernel_rfl
  t4 := by kernel_rfl
  a4 := fun w => by kernel_rfl
  z4 := fun w => by kernel_rfl
  v4 := fun w => by kernel_rfl
  t9 := by kernel_rfl
  a9 := fun w => by kernel_rfl
  z9 := fun w => by kernel_rfl
  v9 := fun w => by kernel_rfl
  t20 := by kernel_rfl
  a20 := fun w => by kernel_rfl
  z20 := fun w => by kernel_rfl
  v20 := fun w => by kernel_rfl
  t31 := by kernel_rfl
  a31 := fun w => by kernel_rfl
  z31 := fun w => by kernel_rfl
  v31 := fun w => by kernel_rfl
  t37 := by kernel_rfl
  a37 := fun w => by kernel_rfl
  z37 := fun w => by kernel_rfl
  v37 := fun w => by kernel_rfl
  t70 := by kernel_rfl
  a70 := fun w => by kernel_rfl
  z70 := fun w => by kernel_rfl
  v70 := fun w => by kernel_rfl
  t72 := by kernel_rfl
  a72 := fun w => by kernel_rfl
  z72 := fun w => by kernel_rfl
  v72 := fun w => by kernel_rfl
  t75 := by kernel_rfl
  a75 := fun w => by kernel_rfl
  z75 := fun w => by kernel_rfl
  v75 := fun w => by kernel_rfl
  t76 := by kernel_rfl
  a76 := fun w => by kernel_rfl
  z76 := fun w => by kernel_rfl
  v76 := fun w => by kernel_rfl
  t127 := by kernel_rfl
  a127 := fun w => by kernel_rfl
  z127 := fun w => by kernel_rfl
  v127 := fun w => by kernel_rfl
  t164 := by kernel_rfl
  a164 := fun w => by kernel_rfl
  z164 := fun w => by kernel_rfl
  v164 := fun w => by kernel_rfl
theorem jX : Builder.Extra Try.prog jR where
  sizeBuilder := by kernel_rfl
  liesBuilder := by kernel_rfl
  t5 := by kernel_rfl
  a5 := fun w => by kernel_rfl
  z5 := fun w => by kernel_rfl
  v5 := fun w => by kernel_rfl
  infoByte := by kernel_rfl
  cellsByte := by kernel_rfl
  sizeByte := by kernel_rfl
  neB5 := by decide
theorem join_fn (p0 : List (List UInt8)) (p1 : List UInt8) (h0 : p0.length ≤ 1099511627776) (hl : (Lib.join p0 p1).length ≤ 140737488355328) : Fn Try.prog 68 [.sl (List.map encS p0), .str p1] (.str (Lib.join p0 p1)) := by
  refine ⟨callable Try.func68 rfl (by kernel_rfl), fun w F σ vs hs hr => ?_⟩
  have fin : ∀ w', Below w.heap.size w w' → ∃ v r aw' σ' F', Ending.returned (.string ⟨(Lib.join p0 p1).toArray⟩) = .returned v ∧ (r = .str (Lib.join p0 p1) ∧ aw' = []) ∧ Sim aw' σ' w' F' ∧ Rel σ' w' F' r v ∧ Mv [] σ w F aw' σ' w' F' := fun w' hb =>
    ⟨_, _, [], σ, F, rfl, ⟨rfl, rfl⟩, hs.grow (fun _ h => h) (fun _ h => .inl h) (fun b hb' => Nat.lt_of_lt_of_le (hs.lt b hb') hb.size) hb.block, .str _, .grow (fun _ h => h) (fun _ h => .inl h) hb.os hb.tape hb.output hb.size hb.block⟩
  match vs, hr with
  | [v0, v1], hr =>
    have hr0 : Rel σ w F (.sl (List.map encS p0)) v0 := hr.2 0 _ v0 rfl rfl
    have hr1 : Rel σ w F (.str p1) v1 := hr.2 1 _ v1 rfl rfl
    have e1 : v1 = .string ⟨p1.toArray⟩ := by cases hr1; rfl
    subst e1
    have none : ∀ (a : Option Addr) (c : Nat), p0 = [] → v0 = .slice a 0 c → Calls Try.prog 68 [v0, .string ⟨p1.toArray⟩].toArray w fun e w' => ∃ v r aw' σ' F', e = .returned v ∧ (r = .str (Lib.join p0 p1) ∧ aw' = []) ∧ Sim aw' σ' w' F' ∧ Rel σ' w' F' r v ∧ Mv [] σ w F aw' σ' w' F' := by
      rintro a c hp rfl
      refine (Any.strings_Join_none jL jX a c ⟨p1.toArray⟩ w).mono ?_
      rintro e w' ⟨rfl, rfl⟩
      have := fin w' (.refl ..)
      rw [hp, Lib.join_nil] at this ⊢
      exact this
    generalize hrows : List.map encS p0 = rows at hr0
    cases hr0 with
    | slNil => exact none _ _ (List.map_eq_nil_iff.1 hrows) rfl
    | sl _ size ad c u hF hn hm hrow hone hcell hrel =>
      subst hrows
      by_cases hp : p0 = []
      · subst hp; exact none (some ad) c rfl rfl
      · have hpl : 0 < p0.length := List.length_pos_iff.2 hp
        have hsize : size = 1 := by
          have h1 := hrow (encS p0[0]) (List.mem_map.2 ⟨_, List.getElem_mem _, rfl⟩)
          exact h1.symm
        subst hsize
        have hsp : ad.spot = Option.none := by
          have h1 := hcell 0 0 (by simpa using hpl) (by omega)
          rw [show 0 * 1 + 0 = 0 from rfl, show ad.add 0 = ad from rfl] at h1
          unfold World.cell? at h1
          split at h1
          · split at h1
            · cases h1
            · rename_i hx; cases hs : ad.spot with
              | none => rfl
              | some q => rw [hs] at hx; simp at hx
          · cases h1
        have had : ad = ⟨ad.block, ad.off, Option.none⟩ := by cases ad; simp at hsp; subst hsp; rfl
        have hx : (p0.map fun s => (⟨s.toArray⟩ : ByteArray)).map (·.data.toList) = p0 := by simp [List.map_map, Function.comp_def]
        have hJ := Any.strings_Join jL jX ad.block ad.off c (p0.map fun s => (⟨s.toArray⟩ : ByteArray)) ⟨p1.toArray⟩ w (fun j x hj => by
            rw [List.getElem?_map, Option.map_eq_some_iff] at hj
            obtain ⟨s, hs1, rfl⟩ := hj
            have hlt := (List.getElem?_eq_some_iff.1 hs1).1
            have h1 := hcell j 0 (by simpa using hlt) (by omega)
            have h2 := hrel j (encS s) 0 (.str s) (by rw [List.getElem?_map, hs1]; rfl) rfl
            have h3 : u j 0 = .string ⟨s.toArray⟩ := by
              generalize u j 0 = q at h2
              cases h2; rfl
            rw [h3, Nat.mul_one, Nat.add_zero] at h1
            rw [← h1]
            unfold Addr.add
            split
            · rename_i hz; rw [hz, Nat.add_zero, ← had]
            · rfl) (hs.lt _ (hF (by simpa using hp))) (by simp; omega) (by simpa using hn) (by rw [hx]; simpa using hl)
        rw [hx] at hJ
        simp only [List.length_map] at hJ ⊢
        rw [had]
        refine Calls.mono hJ ?_
        rintro e w' ⟨rfl, hb⟩
        simpa using fin w' hb
end Go.Proofs.Ytpndpdbabblphaa
