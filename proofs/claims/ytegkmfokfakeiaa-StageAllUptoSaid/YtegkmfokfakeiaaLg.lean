/-
  sort.Slice, by the library's contract: the laying. Printed by a program of ours (wip/lay_sort.py).
-/
import Derived.Shelf.GgSortFunc.SmallK
import Derived.Shelf.GgSortFunc.Tiny
import Derived.Deep.QuietTactic
import Derived.Sort.LotA
import Derived.Test.YtegkmfokfakeiaaEnc
import Derived.Test.YtegkmfokfakeiaaSrt
namespace Go.Proofs.Ytegkmfokfakeiaa
open Go.RowKit Go.Shelf
set_option linter.unusedVariables false
set_option maxRecDepth 100000
set_option maxHeartbeats 4000000
def sR : Go.Shelf.Ren := ⟨fun n => match n with | 6 => 85 | 10 => 98 | 11 => 99 | 12 => 100 | 13 => 101 | 14 => 102 | 15 => 105 | 16 => 106 | 17 => 107 | 18 => 108 | 19 => 109 | 20 => 110 | 21 => 111 | 22 => 112 | 23 => 113 | 24 => 114 | 25 => 115 | 26 => 116 | 27 => 117 | 28 => 118 | 29 => 119 | 30 => 120 | 31 => 121 | 32 => 122 | 33 => 123 | 34 => 127 | 35 => 128 | 36 => 129 | 37 => 130 | 38 => 131 | 39 => 132 | 40 => 133 | 41 => 134 | 42 => 135 | 43 => 136 | 44 => 137 | 45 => 138 | 46 => 139 | 47 => 140 | 48 => 141 | 49 => 142 | 50 => 143 | 51 => 144 | 52 => 145 | 53 => 146 | 54 => 147 | 55 => 148 | 56 => 149 | 57 => 150 | _ => 0, fun n => match n with | 0 => 0 | 1 => 1 | 2 => 2 | 3 => 3 | 4 => 4 | 5 => 5 | 6 => 6 | 7 => 7 | 8 => 8 | 9 => 9 | 10 => 10 | 11 => 11 | 12 => 12 | 13 => 13 | 14 => 14 | 15 => 15 | 16 => 16 | 17 => 17 | 18 => 18 | 19 => 19 | 20 => 20 | 21 => 21 | 23 => 141 | 26 => 142 | 28 => 57 | 30 => 22 | 32 => 151 | 33 => 152 | 34 => 153 | 35 => 154 | 36 => 155 | 37 => 156 | 38 => 157 | 39 => 158 | 40 => 159 | 41 => 143 | 42 => 160 | 43 => 161 | 44 => 162 | 45 => 165 | 46 => 166 | 47 => 167 | 48 => 168 | 49 => 169 | 50 => 170 | 51 => 171 | 52 => 172 | 53 => 173 | 54 => 174 | 55 => 175 | 56 => 176 | 57 => 177 | 58 => 129 | 59 => 178 | 60 => 184 | 61 => 185 | 62 => 186 | 63 => 187 | 64 => 188 | 65 => 189 | 66 => 190 | 67 => 191 | 68 => 192 | 69 => 193 | 70 => 194 | 71 => 195 | 72 => 196 | 73 => 197 | 74 => 198 | 75 => 199 | 76 => 200 | 77 => 201 | 78 => 202 | 79 => 203 | 80 => 204 | 81 => 205 | 82 => 206 | 83 => 207 | 84 => 208 | _ => 0, fun n => n⟩
theorem sL : LaysGg.n6 Try.prog sR where
  mixed := mixed
  f6 := by kernel_rfl
  f10 := by kernel_rfl
  f11 := by kernel_rfl
  f12 := by kernel_rfl
  f13 := by kernel_rfl
  f14 := by kernel_rfl
  f24 := by kernel_rfl
  f25 := by kernel_rfl
  f26 := by kernel_rfl
  f27 := by kernel_rfl
  f28 := by kernel_rfl
  f29 := by kernel_rfl
  f30 := by kernel_rfl
  f31 := by kernel_rfl
  f32 := by kernel_rfl
  f33 := by kernel_rfl
  f34 := by kernel_rfl
  f35 := by kernel_rfl
  f36 := by kernel_rfl
  f37 := by kernel_rfl
  f38 := by kernel_rfl
  f39 := by kernel_rfl
  t0 := by kernel_rfl
  a0 := fun w => by kernel_rfl
  z0 := fun w => by kernel_rfl
  v0 := fun w => by kernel_rfl
  i0 := by kernel_rfl
  t3 := by kernel_rfl
  a3 := fun w => by kernel_rfl
  z3 := fun w => by kernel_rfl
  v3 := fun w => by kernel_rfl
  i3 := by kernel_rfl
  t4 := by kernel_rfl
  a4 := fun w => by kernel_rfl
  z4 := fun w => by kernel_rfl
  v4 := fun w => by kernel_rfl
  i4 := by kernel_rfl
  t5 := by kernel_rfl
  a5 := fun w => by kernel_rfl
  z5 := fun w => by kernel_rfl
  v5 := fun w => by kernel_rfl
  i5 := by kernel_rfl
  t9 := by kernel_rfl
  a9 := fun w => by kernel_rfl
  z9 := fun w => by kernel_rfl
  v9 := fun w => by kernel_rfl
  i9 := by kernel_rfl
  t12 := by kernel_rfl
  a12 := fun w => by kernel_rfl
  z12 := fun w => by kernel_rfl
  v12 := fun w => by kernel_rfl
  i12 := by kernel_rfl
  t17 := by kernel_rfl
  a17 := fun w => by kernel_rfl
  z17 := fun w => by kernel_rfl
  v17 := fun w => by kernel_rfl
  i17 := by kernel_rfl
  t20 := by kernel_rfl
  a20 := fun w => by kernel_rfl
  z20 := fun w => by kernel_rfl
  v20 := fun w => by kernel_rfl
  i20 := by kernel_rfl
  t26 := by kernel_rfl
  a26 := fun w => by kernel_rfl
  z26 := fun w => by kernel_rfl
  v26 := fun w => by kernel_rfl
  i26 := by kernel_rfl
  t32 := by kernel_rfl
  a32 := fun w => by kernel_rfl
  z32 := fun w => by kernel_rfl
  v32 := fun w => by kernel_rfl
  i32 := by kernel_rfl
  t33 := by kernel_rfl
  a33 := fun w => by kernel_rfl
  z33 := fun w => by kernel_rfl
  v33 := fun w => by kernel_rfl
  i33 := by kernel_rfl
  t35 := by kernel_rfl
  a35 := fun w => by kernel_rfl
  z35 := fun w => by kernel_rfl
  v35 := fun w => by kernel_rfl
  i35 := by kernel_rfl
  t37 := by kernel_rfl
  a37 := fun w => by kernel_rfl
  z37 := fun w => by kernel_rfl
  v37 := fun w => by kernel_rfl
  i37 := by kernel_rfl
  t41 := by kernel_rfl
  a41 := fun w => by kernel_rfl
  z41 := fun w => by kernel_rfl
  v41 := fun w => by kernel_rfl
  i41 := by kernel_rfl
  t44 := by kernel_rfl
  a44 := fun w => by kernel_rfl
  z44 := fun w => by kernel_rfl
  v44 := fun w => by kernel_rfl
  i44 := by kernel_rfl
  t49 := by kernel_rfl
  a49 := fun w => by kernel_rfl
  z49 := fun w => by kernel_rfl
  v49 := fun w => by kernel_rfl
  i49 := by kernel_rfl
  t51 := by kernel_rfl
  a51 := fun w => by kernel_rfl
  z51 := fun w => by kernel_rfl
  v51 := fun w => by kernel_rfl
  i51 := by kernel_rfl
  t53 := by kernel_rfl
  a53 := fun w => by kernel_rfl
  z53 := fun w => by kernel_rfl
  v53 := fun w => by kernel_rfl
  i53 := by kernel_rfl
  t54 := by kernel_rfl
  a54 := fun w => by kernel_rfl
  z54 := fun w => by kernel_rfl
  v54 := fun w => by kernel_rfl
  i54 := by kernel_rfl
  t58 := by kernel_rfl
  a58 := fun w => by kernel_rfl
  z58 := fun w => by kernel_rfl
  v58 := fun w => by kernel_rfl
  i58 := by kernel_rfl
  t60 := by kernel_rfl
  a60 := fun w => by kernel_rfl
  z60 := fun w => by kernel_rfl
  v60 := fun w => by kernel_rfl
  i60 := by kernel_rfl
  t64 := by kernel_rfl
  a64 := fun w => by kernel_rfl
  z64 := fun w => by kernel_rfl
  v64 := fun w => by kernel_rfl
  i64 := by kernel_rfl
  t66 := by kernel_rfl
  a66 := fun w => by kernel_rfl
  z66 := fun w => by kernel_rfl
  v66 := fun w => by kernel_rfl
  i66 := by kernel_rfl
  t67 := by kernel_rfl
  a67 := fun w => by kernel_rfl
  z67 := fun w => by kernel_rfl
  v67 := fun w => by kernel_rfl
  i67 := by kernel_rfl
  t75 := by kernel_rfl
  a75 := fun w => by kernel_rfl
  z75 := fun w => by kernel_rfl
  v75 := fun w => by kernel_rfl
  i75 := by kernel_rfl
  t76 := by kernel_rfl
  a76 := fun w => by kernel_rfl
  z76 := fun w => by kernel_rfl
  v76 := fun w => by kernel_rfl
  i76 := by kernel_rfl
  t77 := by kernel_rfl
  a77 := fun w => by kernel_rfl
  z77 := fun w => by kernel_rfl
  v77 := fun w => by kernel_rfl
  i77 := by kernel_rfl
  t78 := by kernel_rfl
  a78 := fun w => by kernel_rfl
  z78 := fun w => by kernel_rfl
  v78 := fun w => by kernel_rfl
  i78 := by kernel_rfl
  t79 := by kernel_rfl
  a79 := fun w => by kernel_rfl
  z79 := fun w => by kernel_rfl
  v79 := fun w => by kernel_rfl
  i79 := by kernel_rfl
  t80 := by kernel_rfl
  a80 := fun w => by kernel_rfl
  z80 := fun w => by kernel_rfl
  v80 := fun w => by kernel_rfl
  i80 := by kernel_rfl
  t82 := by kernel_rfl
  a82 := fun w => by kernel_rfl
  z82 := fun w => by kernel_rfl
  v82 := fun w => by kernel_rfl
  i82 := by kernel_rfl
open Go.Sort Go.Lib
noncomputable def svT : TypeInfo := (Try.prog.info? 88).get (by kernel_rfl)
noncomputable def svE : TypeInfo := (Try.prog.info? 135).get (by kernel_rfl)
theorem svK (n : Nat) (h2 : 2 ≤ n) : Lib.swapperK n svE 25 = 9 := by
  have a : svE.hasPointers = false := by kernel_rfl
  have b : svE.bytes = 16 := by kernel_rfl
  have c : (n == 0) = false := by simp; omega
  have d : (n == 1) = false := by simp; omega
  simp [Lib.swapperK, a, b, c, d]
def encV (x : Keyed) : List Value := [.int .i64 x.Key, .int .i64 x.N]
theorem swoK : SWO ltK where
  irrefl := fun x => by simp [ltK]
  trans := fun x y z h1 h2 => by simp [ltK] at *; omega
  ntrans := fun x y z h1 h2 => by simp [ltK] at *; omega
theorem less_k (blk off c Bs size : Nat) (W : World) (G : Nat → Int) (hs : W.cell? ⟨Bs, 1, none⟩ = some (.slice (some ⟨blk, off, none⟩) size c))
    (hc : ∀ t, t < size → W.cell? ⟨blk, off + t * 2, none⟩ = some (.int .i64 (G t))) (i j : Nat) (hi : i < size) (hj : j < size) (_hsz : size < 4611686018427387904) :
    Calls Try.prog 86 #[.int .i64 i, .int .i64 j, .pointer (some ⟨Bs, 0, none⟩)] W fun e w' => e = .returned (.bool (decide (G i < G j))) ∧ ∃ q, w' = W.drewN q := by
  have ci := hc i hi
  have cj := hc j hj
  go_enter Try.func86, Try.ntmps86
  go_wp2
  go_quiet (fail)
  go_wp2
  go_ret
  exact ⟨rfl, nq, rfl⟩
theorem rel_flat {σ : List Value} {w : World} {F : Nat → Prop} : ∀ (xs : List Keyed) (flat : List Value), RelL σ w F (xs.map encKeyed).flatten flat → flat = (xs.map encV).flatten
  | [], flat, h => List.eq_nil_of_length_eq_zero h.1
  | x :: xs, flat, h => by
    match flat, h with
    | [], h => exact absurd h.1 (by simp [encKeyed])
    | [a], h => exact absurd h.1 (by simp [encKeyed])
    | a :: b :: r, h =>
      have h1 : Rel σ w F (.int .i64 x.Key) a := h.2 0 _ a rfl rfl
      have h2 : Rel σ w F (.int .i64 x.N) b := h.2 1 _ b rfl rfl
      have h3 := rel_flat xs r ⟨by have := h.1; simp [encKeyed] at this ⊢; omega, fun j y v hy hv => h.2 (j + 2) y v (by simpa [encKeyed] using hy) (by simpa using hv)⟩
      cases h1; cases h2
      rw [h3]; rfl
theorem flatv_rel {σ : List Value} {w : World} {F : Nat → Prop} : ∀ (xs : List Keyed), RelL σ w F (xs.map encKeyed).flatten (xs.map encV).flatten
  | [] => .nil
  | x :: xs => .cons (.int _ _) (.cons (.int _ _) (flatv_rel xs))
theorem flat_get : ∀ (xs : List Keyed) (t : Nat), t < xs.length * 2 → ((xs.map encV).flatten)[t]? = some (encV xs[t / 2]!)[t % 2]!
  | [], t, h => by simp at h
  | x :: xs, 0, h => rfl
  | x :: xs, 1, h => rfl
  | x :: xs, t + 2, h => by
    have h1 := flat_get xs t (by simp at h; omega)
    have e1 : (t + 2) / 2 = t / 2 + 1 := by omega
    have e2 : (t + 2) % 2 = t % 2 := by omega
    rw [e1, e2]
    show ((xs.map encV).flatten)[t]? = _
    rw [h1]; simp
theorem flatK_list (xs : List Keyed) : (flatK encV 2 xs.toArray).toList = (xs.map encV).flatten := by
  have hl : ((xs.map encV).flatten).length = xs.length * 2 := by
    induction xs with
    | nil => rfl
    | cons x xs ih => simp [encV] at ih ⊢; omega
  apply List.ext_getElem?
  intro t
  by_cases ht : t < xs.length * 2
  · rw [flat_get xs t ht]
    have h2 : t < (flatK encV 2 xs.toArray).size := by simpa using ht
    have h3 := get_flatK encV 2 xs.toArray t (by simpa using ht)
    rw [getElem!_pos _ t h2] at h3
    rw [Array.getElem?_toList, Array.getElem?_eq_getElem h2, h3]
    simp
  · rw [List.getElem?_eq_none (by simp; omega), List.getElem?_eq_none (by rw [hl]; omega)]
theorem sort_fn (p0 r : List Keyed) (p1 p2 : Int) (h : sortK p0 = some r) : FnX Try.prog 85 [.ifc 88 (.ref 0), .func 86 [.ptr 1 0]] [.arr 135 2 (List.map encKeyed p0), .box [.int .i64 p1, .ref 0, .int .i64 p2]] (.tup []) [.arr 135 2 (List.map encKeyed r), .box [.int .i64 p1, .ref 0, .int .i64 p2]] := by
  unfold sortK at h
  refine ⟨callable Try.func85 rfl (by kernel_rfl), fun w F σ vs hs hr => ?_⟩
  match vs, hr with
  | [v0, v1], hr =>
    have r0 : Rel σ w F (.ifc 88 (.ref 0)) v0 := hr.2 0 _ v0 rfl rfl
    have r1 : Rel σ w F (.func 86 [.ptr 1 0]) v1 := hr.2 1 _ v1 rfl rfl
    cases r0 with
    | ifc _ _ v r0 =>
    cases r0 with
    | ref _ A q cp hσ0 =>
    cases r1 with
    | func _ _ lb hl hc =>
    match lb, hl, hc with
    | [b0], hl, hc =>
      have rb : Rel σ w F (.ptr 1 0) b0 := hc 0 _ _ rfl rfl
      cases rb with
      | ptr _ _ gb hσ1 =>
      obtain ⟨gb', us, ty, e1, hgb, hbr, hb1, hFb⟩ := hs.obj 1 _ _ rfl hσ1
      cases e1
      obtain ⟨hq, flat, hown, hfl, hcase⟩ := arr_form hs (id := 0) rfl hσ0
      rw [List.length_map] at hq
      subst hq
      have grown : ∀ (W : World) (os : Array Obj) (b : Nat), b < W.heap.size → (Sort.grow W os).heap[b]? = W.heap[b]? := fun W os b hb => by
        show (W.heap ++ os)[b]? = _
        rw [Array.getElem?_append_left hb]
      split at h
      · rename_i h1
        cases h
        have tiny : ∀ (n : Nat), n ≤ 1 → Calls Try.prog 85 #[.iface 88 (.slice A n cp), .func (.func 86) #[] #[.pointer (some ⟨gb, 0, none⟩)]] w fun e w' => e = .returned (.tuple #[]) ∧ ∃ os, w' = Sort.grow w os := by
          intro n hn
          match n, hn with
          | 0, hn => exact Any.sort_Slice_tiny sL 88 135 svT svE (by kernel_rfl) (by kernel_rfl) (by kernel_rfl) (by kernel_rfl) 25 (fun _ => by kernel_rfl) A 0 cp hn 105 (by kernel_rfl) _ _ _ w
          | 1, hn => exact Any.sort_Slice_tiny sL 88 135 svT svE (by kernel_rfl) (by kernel_rfl) (by kernel_rfl) (by kernel_rfl) 25 (fun _ => by kernel_rfl) A 1 cp hn 106 (by kernel_rfl) _ _ _ w
        refine (tiny p0.length h1).mono ?_
        rintro e w' ⟨rfl, os, rfl⟩
        exact ⟨_, _, _, σ, F, rfl, ⟨rfl, rfl⟩, hs.grow (fun _ h => h) (fun _ h => .inl h) (fun b hb => by have := hs.lt b hb; rw [size_grow]; omega) (grown w os), rel_undef, .grow (fun _ h => h) (fun _ h => .inl h) rfl rfl rfl (by rw [size_grow]; omega) (grown w os)⟩
      · rename_i h1
        have h2 : 2 ≤ p0.length := by omega
        split at h
        · rename_i h12
          cases h
          rcases hcase with hcase | ⟨ga, cur, rfl, hFa, hga, hnc, hcm, hsz, htk⟩
          · have : p0 = [] := List.map_eq_nil_iff.1 hcase
            subst this; simp at h2
          · have hflat := rel_flat p0 flat hfl.2.2
            have hds : p0.toArray.size = p0.length := by simp
            have hga' : ga < w.heap.size := (Array.getElem?_eq_some_iff.1 hga).1
            have hgb' : gb < w.heap.size := (Array.getElem?_eq_some_iff.1 hgb).1
            have hne : gb ≠ ga := by
              rintro rfl
              exact hs.sep 0 1 _ _ _ _ gb (by decide) rfl rfl rfl rfl hσ0 hσ1 rfl rfl
            have hcurn : p0.length * 2 ≤ cur.size := by rw [hsz]; exact Nat.mul_le_mul_right _ hnc
            have hH : HoldsK encV 2 w ga 0 p0.toArray := by
              intro j hj
              have hj2 : j < p0.length * 2 := by simpa using hj
              refine ⟨?_, by simp [World.frozen?, hga]⟩
              have hc1 : cur.toList[j]? = ((p0.map encV).flatten)[j]? := by rw [← hflat, ← htk, List.getElem?_take, if_pos hj2]
              rw [Nat.zero_add, cell_of_row w ga j cur 135 (0, 0) hga, ← Array.getElem?_toList, hc1, ← flatK_list, Array.getElem?_toList, Array.getElem?_eq_getElem hj, getElem!_pos _ j hj]
              rfl
            have hbc : w.cell? ⟨gb, 1, none⟩ = some (.slice (some ⟨ga, 0, none⟩) p0.length cp) := by
              obtain ⟨u, hu, hru⟩ := hbr.get (j := 1) (a := .ref 0) rfl
              cases hru with
              | ref _ a1 n1 c1 hσ2 =>
                rw [hσ0] at hσ2
                cases hσ2
                rw [cell_of_row w gb 1 us ty (0, 0) hgb, ← Array.getElem?_toList]
                exact hu
            have hless : LessReadsK Try.prog 86 #[.pointer (some ⟨gb, 0, none⟩)] encV 2 ltK ga 0 p0.toArray.size w := by
              intro m os dk hdk i j hi hj
              have e : sortWorldK encV 2 w ga 0 m dk os = putRowK encV 2 (Sort.grow (Sort.ahead w m) os) ga 0 dk := by
                unfold sortWorldK; rw [putRowK_grow _ _ (Sort.ahead w m) _ ga 0 _ hga']
              have hHg : HoldsK encV 2 (Sort.grow (Sort.ahead w m) os) ga 0 p0.toArray := holdsK_grow _ _ _ _ ga 0 p0.toArray hga' (holdsK_ahead _ _ _ _ _ _ _ hH)
              refine less_k ga 0 cp gb p0.toArray.size _ (fun t => dk[t]!.Key) ?_ (fun t ht => ?_) i j hi hj (by omega)
              · rw [e, cell?_putRowK_other _ _ _ ga 0 dk _ (by show gb ≠ ga; exact hne), cell?_grow _ _ _ (by show gb < w.heap.size; exact hgb'), hds]
                exact hbc
              · rw [e]; exact ((holdsK_putRowK _ _ _ ga 0 p0.toArray dk hHg hdk).cell (i := t) (c := 0) (by omega) (by omega)).1
            have hS := Any.sort_Slice_small_cells sL 88 135 svT svE (by kernel_rfl) (by kernel_rfl) (by kernel_rfl) (by kernel_rfl) 25 (fun _ => by kernel_rfl) encV 2 (fun _ => rfl) (by kernel_rfl) (fun _ => by kernel_rfl)
              (fun x v hv => by simp [encV] at hv; rcases hv with rfl | rfl <;> rfl) ltK 86 #[.pointer (some ⟨gb, 0, none⟩)]
              (enters_of Try.func86 (by kernel_rfl) rfl) ga 0 cp p0.toArray (by rw [hds]; exact h2) (by rw [hds]; exact h12) 113 (by rw [svK _ (by rw [hds]; exact h2)]; kernel_rfl) false
              (fun args W => run_callFunc_extern Try.func113 (by kernel_rfl) (by kernel_rfl) (by kernel_rfl) (e := Extern.ReflectliteSwapper.swap false) (by kernel_rfl) args W) w hless hH hga'
            change Calls Try.prog 85 _ _ _ at hS
            have hDs : (Sort.insertionSort ltK p0.toArray 0 p0.toArray.size).size = p0.length := by
              have := (insertionSort_holds swoK p0.toArray 0 p0.toArray.size (Nat.zero_le _) (Nat.le_refl _)).1.1
              rw [this]; exact hds
            generalize hD : Sort.insertionSort ltK p0.toArray 0 p0.toArray.size = D at hS hDs
            rw [hds] at hS
            refine hS.mono ?_
            rintro e w' ⟨rfl, n, os, rfl⟩
            have hDl : (List.map encKeyed D.toList).length = p0.length := by rw [List.length_map, Array.length_toList (xs := D), hDs]
            have hFs : (flatK encV 2 D).size = p0.length * 2 := by simp [hDs]
            have hFl : (flatK encV 2 D).toList = (D.toList.map encV).flatten := by
              have := flatK_list D.toList
              rwa [Array.toArray_toList] at this
            have hW1 : (putRowK encV 2 (Sort.ahead w n) ga 0 D).heap[ga]? = some (.cells (putCells id 0 (flatK encV 2 D) cur) 135 (0, 0)) := by
              simp [putRowK, putRow, mapBlock, Array.getElem?_modify, Sort.ahead, hga, onCells]
            have hW1o : ∀ b, b ≠ ga → (putRowK encV 2 (Sort.ahead w n) ga 0 D).heap[b]? = w.heap[b]? := fun b hb => by
              have : ¬ ga = b := fun e => hb e.symm
              simp [putRowK, putRow, mapBlock, Array.getElem?_modify, Sort.ahead, this]
            have hW1s : (putRowK encV 2 (Sort.ahead w n) ga 0 D).heap.size = w.heap.size := by simp [putRowK, Sort.ahead]
            have hORel : ORel σ (putRowK encV 2 (Sort.ahead w n) ga 0 D) F (.arr 135 2 (List.map encKeyed D.toList)) (.slice (some ⟨ga, 0, none⟩) p0.length cp) := by
              refine ⟨(D.toList.map encV).flatten, ⟨?_, .inr ⟨ga, cp, _, by rw [hDl], Nat.zero_le _, hW1, by rw [hDl]; exact hnc, hcm, by simp [putCells, hsz], ?_⟩⟩, ⟨fun row hr => ?_, fun u hu => ?_, flatv_rel _⟩, fun g2 hg2 => ?_, _, _, _, rfl⟩
              · rw [← hFl, Array.length_toList (xs := flatK encV 2 D), hFs, hDl]
              · rw [← hFl, hDl]
                apply List.ext_getElem?
                intro k
                rw [List.getElem?_take]
                by_cases hk : k < p0.length * 2
                · rw [if_pos hk, Array.getElem?_toList, Array.getElem?_toList]
                  simp only [putCells, Array.getElem?_mapIdx]
                  rw [Array.getElem?_eq_getElem (show k < cur.size by omega), Option.map_some, if_pos ⟨Nat.zero_le _, by omega⟩, Array.getElem?_eq_getElem (show k < (flatK encV 2 D).size by omega), Nat.sub_zero, getElem!_pos _ k (by omega)]
                  rfl
                · rw [if_neg hk, List.getElem?_eq_none (by rw [Array.length_toList, hFs]; omega)]
              · obtain ⟨a, _, rfl⟩ := List.mem_map.1 hr; rfl
              · obtain ⟨row, hrow, hu⟩ := List.mem_flatten.1 hu
                obtain ⟨a, _, rfl⟩ := List.mem_map.1 hrow
                simp [encV] at hu; rcases hu with rfl | rfl <;> rfl
              · simp [Value.ownBlock] at hg2; subst hg2; exact hFa
            have s1 := hs.write (b0 := ga) 0 rfl rfl hσ0 rfl hW1o hW1s (.arr 135 2 (List.map encKeyed D.toList)) hORel (fun _ h => h)
            have m1 : Mv [.arr 135 2 (List.map encKeyed p0), .box [.int .i64 p1, .ref 0, .int .i64 p2]] σ w F ([.arr 135 2 (List.map encKeyed p0), .box [.int .i64 p1, .ref 0, .int .i64 p2]].set 0 (.arr 135 2 (List.map encKeyed D.toList))) σ (putRowK encV 2 (Sort.ahead w n) ga 0 D) F := Mv.write (aw := [.arr 135 2 (List.map encKeyed p0), .box [.int .i64 p1, .ref 0, .int .i64 p2]]) (w := w) (w' := putRowK encV 2 (Sort.ahead w n) ga 0 D) (F := F) (b0 := ga) (o := .arr 135 2 (List.map encKeyed p0)) 0 rfl rfl hσ0 rfl rfl rfl rfl hW1o hW1s (.arr 135 2 (List.map encKeyed D.toList)) (fun _ h => h)
            exact ⟨_, _, _, σ, F, rfl, ⟨rfl, rfl⟩, s1.grow (fun _ h => h) (fun _ h => .inl h) (fun b hb => by have := s1.lt b hb; rw [size_grow]; omega) (grown _ os), rel_undef, m1.trans (.grow (fun _ h => h) (fun _ h => .inl h) rfl rfl rfl (by rw [size_grow]; omega) (grown _ os))⟩
        · cases h
end Go.Proofs.Ytegkmfokfakeiaa
