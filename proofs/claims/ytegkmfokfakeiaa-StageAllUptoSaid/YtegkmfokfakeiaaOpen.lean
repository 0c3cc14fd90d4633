/-
  ARGUMENTS OPENED: from what the form says of an argument (its reading) to the pure data that the contracts speak of; and A LAW CLOSED: from a contract over pure data to the row's post-condition. No function of the program in sight.
-/
import Derived.Test.YtegkmfokfakeiaaCore
import Derived.Test.YtegkmfokfakeiaaRows
import Derived.ProofKit
import Derived.OpenShut
import Derived.JoinedCond
import Derived.Deep.Slices
import Derived.Carry
namespace Go.Proofs.Ytegkmfokfakeiaa
open Go.ChangeShapes Go.WideShapes Go.ChangeAt Go.RowKit
set_option linter.unusedVariables false
set_option linter.unusedSimpArgs false

theorem list_choose {α : Type} {p : Nat → α → Prop} : ∀ n : Nat, (∀ i, i < n → ∃ x, p i x) → ∃ l : List α, l.length = n ∧ ∀ (i : Nat) x, l[i]? = some x → p i x
  | 0, _ => ⟨[], rfl, fun i x h => by simp at h⟩
  | n + 1, h => by
    obtain ⟨l, hl, hp⟩ := list_choose n (fun i hi => h i (by omega))
    obtain ⟨y, hy⟩ := h n (by omega)
    refine ⟨l ++ [y], by simp [hl], fun i x hx => ?_⟩
    rw [List.getElem?_append] at hx
    split at hx
    · exact hp i x hx
    · have : i = n := by
        have := (List.getElem?_eq_some_iff.1 hx).1
        simp at this; omega
      subst this
      simp [hl] at hx
      subst hx; exact hy

theorem bulk_one {H : Type} (d : DataW H) : 1 ≤ Rows.uptoBulk d := by
  cases d with
  | lit l => cases l <;> simp [Rows.uptoBulk]
  | _ => simp [Rows.uptoBulk]

theorem bulk_sum {H α : Type} (m : α → Nat) : ∀ (l : List α) (ds : List (DataW H)), l.length = ds.length → (∀ (i : Nat) x d, l[i]? = some x → ds[i]? = some d → m x ≤ Rows.uptoBulk d) → (l.map m).sum ≤ Rows.uptoBulkAll ds
  | [], [], _, _ => by simp
  | [], _ :: _, h, _ => by simp at h
  | _ :: _, [], h, _ => by simp at h
  | x :: l, d :: ds, h, hp => by
    have h0 := hp 0 x d rfl rfl
    have h1 := bulk_sum m l ds (by simpa using h) (fun i y e hy he => hp (i + 1) y e (by simpa using hy) (by simpa using he))
    simp only [List.map_cons, List.sum_cons, Rows.uptoBulkAll]
    omega

/-- A TYPE OPENED: 'en': its cells as pure data; 'good': what is known of it; 'm': at most its bulk. -/
structure Opn (P : Program) (t : TypeId) {α : Type} (en : α → List AV) (good : α → Prop) (m : α → Nat) : Prop where
  opn : ∀ {H : Type} {enc : TypeId × Value → H} {W : World} {fuel : Nat} {cs : List Value} {x : DataW H × List MemPlace}, DataW.trod enc P W 0 (fun _ => true) true fuel t cs = some x →
    ∃ a, RelL [] W (fun b => b < W.heap.size) (en a) cs ∧ (∀ u, u ∈ cs → u.oneCell' = true) ∧ good a ∧ m a ≤ Rows.uptoBulk x.1

theorem Opn.map {P : Program} {t : TypeId} {α β : Type} {en : α → List AV} {good : α → Prop} {m : α → Nat} (h : Opn P t en good m) (f : α → β) {en' : β → List AV} {good' : β → Prop} {m' : β → Nat}
    (he : ∀ a, en' (f a) = en a) (hg : ∀ a, good a → good' (f a)) (hm : ∀ a, m' (f a) ≤ m a) : Opn P t en' good' m' :=
  ⟨fun hx => by
    obtain ⟨a, h1, h2, h3, h4⟩ := h.opn hx
    exact ⟨f a, by rw [he]; exact h1, h2, hg a h3, Nat.le_trans (hm a) h4⟩⟩

theorem relL_one {σ : List Value} {w : World} {F : Nat → Prop} {a : AV} {v : Value} (h : Rel σ w F a v) : RelL σ w F [a] [v] := .cons h .nil

theorem Opn.bool {P : Program} {t : TypeId} (ht : P.underlying t = some .bool) : Opn P t (fun b : Bool => [.bool b]) (fun _ => True) (fun _ => 1) :=
  ⟨fun hx => by
    obtain ⟨b, rfl, rfl⟩ := DataW.trod_bool ht hx
    exact ⟨b, relL_one (.bool b), by simp [Value.oneCell'], trivial, bulk_one _⟩⟩
theorem Opn.int {P : Program} {t : TypeId} {k : IntKind} (ht : P.underlying t = some (.int k)) : Opn P t (fun n : Int => [.int k n]) (fun n => k.min ≤ n ∧ n ≤ k.max) (fun _ => 1) :=
  ⟨fun hx => by
    obtain ⟨n, rfl, rfl, hw⟩ := DataW.trod_int ht hx
    refine ⟨n, relL_one (.int k n), by simp [Value.oneCell'], ?_, bulk_one _⟩
    simpa only [Lit.wf, Bool.and_eq_true, decide_eq_true_eq] using hw⟩
theorem Opn.str {P : Program} {t : TypeId} (ht : P.underlying t = some .string) : Opn P t (fun s : List UInt8 => [.str s]) (fun s => s.length ≤ maxLen) (fun s => s.length + 1) :=
  ⟨fun hx => by
    obtain ⟨s, rfl, rfl, hw⟩ := DataW.trod_string ht hx
    refine ⟨s.data.toList, relL_one (by simpa using Rel.str s.data.toList), by simp [Value.oneCell'], ?_, by simp [Rows.uptoBulk]⟩
    have e : s.data.toList.length = s.size := by rw [Array.length_toList]; rfl
    omega⟩

theorem Opn.slice {P : Program} {t e : TypeId} {α : Type} {en : α → List AV} {good : α → Prop} {m : α → Nat} {size : Nat} (ht : P.underlying t = some (.slice e)) (hc : P.cellsOf e = size + 1) (h : Opn P e en good m) :
    Opn P t (fun l : List α => [.sl (l.map en)]) (fun l => ∀ a, a ∈ l → good a) (fun l => (l.map m).sum + 1) := by
  refine ⟨fun {H enc W fuel cs x} hx => ?_⟩
  rcases DataW.trod_slice ht hx with ⟨rfl, rfl⟩ | ⟨a, len, cap, elems, rest, n, _, rfl, rfl, hb, hl, hm, hlen, hel, hsp, hns⟩
  · exact ⟨[], relL_one .slNil, by simp [Value.oneCell'], by simp, by simp [Rows.uptoBulk]⟩
  rw [hc] at hel
  have hone : ∀ i, i < len → ∃ y : α × List Value × (DataW H × List MemPlace), elems[i]? = some y.2.2 ∧ W.cells? 0 (a.add (i * (size + 1))) (size + 1) = some y.2.1 ∧ RelL [] W (fun b => b < W.heap.size) (en y.1) y.2.1 ∧ (∀ u, u ∈ y.2.1 → u.oneCell' = true) ∧ good y.1 ∧ m y.1 ≤ Rows.uptoBulk y.2.2.1 := by
    intro i hi
    have h1 := hel i hi
    rw [List.getElem?_eq_getElem (by omega : i < elems.length)] at h1
    obtain ⟨cs', hcs, ht'⟩ := Option.bind_eq_some_iff.1 h1
    obtain ⟨y, g1, g2, g3, g4⟩ := h.opn ht'
    exact ⟨(y, cs', elems[i]), List.getElem?_eq_getElem (by omega), hcs, g1, g2, g3, g4⟩
  obtain ⟨ys, hys, hp⟩ := list_choose len hone
  refine ⟨ys.map (·.1), relL_one ?_, by simp [Value.oneCell'], ?_, ?_⟩
  · have hrl : ((ys.map (·.1)).map en).length = len := by simp [hys]
    have key : Rel [] W (fun b => b < W.heap.size) (.sl ((ys.map (·.1)).map en)) (.slice (some a) ((ys.map (·.1)).map en).length cap) := by
      refine .sl _ (size + 1) a cap (fun i j => ((ys[i]?).bind (fun y => y.2.1[j]?)).getD .nilIface) (fun hne => ?_) (by omega) hm (fun row hrow => ?_) (fun i j hi hj => ?_) (fun i j hi hj => ?_) (fun i row j x hi hj => ?_)
      · have hpos : 0 < len := by
          rcases Nat.eq_zero_or_pos len with h0 | h0
          · exfalso; apply hne; apply List.eq_nil_of_length_eq_zero; omega
          · exact h0
        obtain ⟨y, hy⟩ : ∃ y, ys[0]? = some y := ⟨ys[0], List.getElem?_eq_getElem (by omega)⟩
        have := World.cells?_block (hp 0 y hy).2.1 (by omega)
        rwa [block_of_add] at this
      · simp only [List.map_map, List.mem_map] at hrow
        obtain ⟨y, hy, rfl⟩ := hrow
        obtain ⟨i, hi, hi'⟩ := List.getElem_of_mem hy
        have h1 := hp i y (by rw [List.getElem?_eq_getElem hi, hi'])
        have h2 := (World.cells?_some h1.2.1).2.1
        have h3 := h1.2.2.1.1
        simp only [Function.comp]; omega
      · rw [hrl] at hi
        obtain ⟨y, hy⟩ : ∃ y, ys[i]? = some y := ⟨ys[i], List.getElem?_eq_getElem (by omega)⟩
        have h1 := hp i y hy
        have h2 := (World.cells?_some h1.2.1).2.1
        have h3 : y.2.1[j]? = some y.2.1[j] := List.getElem?_eq_getElem (by omega)
        simp only [hy, Option.bind_some, h3, Option.getD_some]
        exact h1.2.2.2.1 _ (List.getElem_mem _)
      · rw [hrl] at hi
        obtain ⟨y, hy⟩ : ∃ y, ys[i]? = some y := ⟨ys[i], List.getElem?_eq_getElem (by omega)⟩
        have h1 := hp i y hy
        have h2 := World.cells?_some h1.2.1
        have h3 : y.2.1[j]? = some y.2.1[j] := List.getElem?_eq_getElem (by omega)
        simp only [hy, Option.bind_some, h3, Option.getD_some]
        rw [← add_of_add, h2.2.2 j hj, h3]
      · simp only [List.map_map, List.getElem?_map, Option.map_eq_some_iff] at hi
        obtain ⟨y, hy, rfl⟩ := hi
        have h1 := hp i y hy
        obtain ⟨v, hv, hr⟩ := h1.2.2.1.get hj
        simp only [hy, Option.bind_some, hv, Option.getD_some]
        exact hr
    rwa [hrl] at key
  · intro z hz
    simp only [List.mem_map] at hz
    obtain ⟨y, hy, rfl⟩ := hz
    obtain ⟨i, hi, hi'⟩ := List.getElem_of_mem hy
    exact (hp i y (by rw [List.getElem?_eq_getElem hi, hi'])).2.2.2.2.1
  · have := bulk_sum m (ys.map (·.1)) (elems.map (·.1)) (by simp [hys, hlen]) (fun i z d hz hd => by
      simp only [List.getElem?_map, Option.map_eq_some_iff] at hz hd
      obtain ⟨y, hy, rfl⟩ := hz
      obtain ⟨el, he, rfl⟩ := hd
      have h1 := hp i y hy
      rw [h1.1] at he
      obtain rfl := Option.some.inj he
      exact h1.2.2.2.2.2)
    simp only [Rows.uptoBulk]
    omega

/-- THE FIELDS OF A STRUCT, one behind the other: 'off': where the first lies. -/
structure OpnF (P : Program) (fs : List Field) (off total : Nat) {α : Type} (en : α → List AV) (good : α → Prop) (m : α → Nat) : Prop where
  opn : ∀ {H : Type} {enc : TypeId × Value → H} {W : World} {fuel : Nat} {cs : List Value} {xs : List (DataW H × List MemPlace)}, cs.length = total →
    xs.length = fs.length → (∀ (i : Nat) (f : Field), fs[i]? = some f → DataW.trod enc P W 0 (fun _ => true) true fuel f.type ((cs.drop f.offset).take (P.cellsOf f.type)) = xs[i]?) →
    ∃ a, RelL [] W (fun b => b < W.heap.size) (en a) (cs.drop off) ∧ (∀ u, u ∈ cs.drop off → u.oneCell' = true) ∧ good a ∧ m a ≤ Rows.uptoBulkAll (xs.map (·.1))

theorem OpnF.nil {P : Program} {total : Nat} : OpnF P [] total total (fun _ : Unit => []) (fun _ => True) (fun _ => 0) :=
  ⟨fun hl hx hp => ⟨(), by rw [List.drop_of_length_le (by omega)]; exact .nil, by rw [List.drop_of_length_le (by omega)]; simp, trivial, by simp⟩⟩

theorem OpnF.cons {P : Program} {f : Field} {fs : List Field} {off total : Nat} {α β : Type} {en1 : α → List AV} {en2 : β → List AV} {g1 : α → Prop} {g2 : β → Prop} {m1 : α → Nat} {m2 : β → Nat}
    (ho : f.offset = off) (c : Nat) (hc : P.cellsOf f.type = c) (h1 : Opn P f.type en1 g1 m1) (h2 : OpnF P fs (off + c) total en2 g2 m2) :
    OpnF P (f :: fs) off total (fun p : α × β => en1 p.1 ++ en2 p.2) (fun p => g1 p.1 ∧ g2 p.2) (fun p => m1 p.1 + m2 p.2) := by
  refine ⟨fun {H enc W fuel cs xs} hl hx hp => ?_⟩
  match xs, hx with
  | x :: xs, hx =>
    have h0 := hp 0 f rfl
    simp only [List.getElem?_cons_zero] at h0
    subst ho; subst hc
    obtain ⟨a, a1, a2, a3, a4⟩ := h1.opn h0
    obtain ⟨b, b1, b2, b3, b4⟩ := h2.opn (xs := xs) hl (by simpa using hx) (fun i f' hf => by simpa using hp (i + 1) f' (by simpa using hf))
    have hs : cs.drop f.offset = (cs.drop f.offset).take (P.cellsOf f.type) ++ cs.drop (f.offset + P.cellsOf f.type) := by
      rw [← List.drop_drop]; exact (List.take_append_drop _ _).symm
    refine ⟨(a, b), ?_, fun u hu => ?_, ⟨a3, b3⟩, ?_⟩
    · rw [hs]; exact a1.append b1
    · rw [hs, List.mem_append] at hu
      exact hu.elim (a2 u) (b2 u)
    · simp only [List.map_cons, Rows.uptoBulkAll]; omega

theorem Opn.struct {P : Program} {t : TypeId} {fs : Array Field} {total : Nat} {α : Type} {en : α → List AV} {good : α → Prop} {m : α → Nat} (ht : P.underlying t = some (.struct fs)) (hc : P.cellsOf t = total)
    (h : OpnF P fs.toList 0 total en good m) : Opn P t en good m := by
  refine ⟨fun {H enc W fuel cs x} hx => ?_⟩
  obtain ⟨xs, n, rfl, rfl, hl, hxl, hp⟩ := DataW.trod_struct ht hx
  obtain ⟨a, h1, h2, h3, h4⟩ := h.opn (enc := enc) (W := W) (fuel := n) (cs := cs) (xs := xs) (by omega) (by simp [hxl]) (fun i f hf => hp i f (by simpa using hf))
  exact ⟨a, by simpa using h1, by simpa using h2, h3, by simp only [Rows.uptoBulk]; omega⟩

/-- An argument that is one cell. -/
theorem Opn.arg {P : Program} {t : TypeId} {α : Type} {en : α → AV} {good : α → Prop} {m : α → Nat} (h : Opn P t (fun a => [en a]) good m)
    (ht : (match P.underlying t with | some (.struct _) | some (.array _ _) => false | _ => true) = true)
    {H : Type} {enc : TypeId × Value → H} {W : World} {base : Nat} {v : Value} {d : DataW H} {ps : List MemPlace} (hval : Value.okWide P W .any base t v) (hd : DataW.Trod enc P W 0 (fun _ => true) true t v d ps) :
    ∃ a, Rel [] W (fun b => b < W.heap.size) (en a) v ∧ good a ∧ m a ≤ Rows.uptoBulk d := by
  obtain ⟨fuel, hf⟩ := hd
  obtain ⟨a, h1, h2, h3, h4⟩ := h.opn hf
  have hv : v.cells = #[v] := by
    cases v with
    | agg cs =>
      exfalso
      unfold Value.okWide at hval
      split at hval
      · rename_i e; rw [e] at ht; simp at ht
      · rename_i e; rw [e] at ht; simp at ht
      · unfold Cell.okWide at hval
        split at hval <;> simp_all [Cell.ok]
    | _ => rfl
  rw [hv] at h1
  exact ⟨a, h1.2 0 (en a) v rfl rfl, h3, h4⟩

/-- An argument that is a struct. -/
theorem Opn.args {P : Program} {t : TypeId} {α : Type} {en : α → List AV} {good : α → Prop} {m : α → Nat} (h : Opn P t en good m)
    {fs : Array Field} (ht : P.underlying t = some (.struct fs))
    {H : Type} {enc : TypeId × Value → H} {W : World} {base : Nat} {v : Value} {d : DataW H} {ps : List MemPlace} (hval : Value.okWide P W .any base t v) (hd : DataW.Trod enc P W 0 (fun _ => true) true t v d ps) :
    ∃ a, Rel [] W (fun b => b < W.heap.size) (.agg (en a)) v ∧ good a ∧ m a ≤ Rows.uptoBulk d := by
  obtain ⟨fuel, hf⟩ := hd
  obtain ⟨a, h1, h2, h3, h4⟩ := h.opn hf
  unfold Value.okWide at hval
  rw [ht] at hval
  obtain ⟨cs, rfl, _, _⟩ := hval
  simp only [Value.cells] at h1 h2
  refine ⟨a, ?_, h3, h4⟩
  have := Rel.agg (σ := []) (w := W) (F := fun b => b < W.heap.size) (en a) cs.toList h1.1 h2 h1.2
  simpa using this

/-! ### The law's end -/
theorem stays_all {H : Type} {enc : TypeId × Value → H} {P : Program} (hl : laidOutB P = true) {W W' : World} (hb : Below W.heap.size W W') (sp : Nat → Bool) :
    ∀ {ts : List TypeId} {vs : List Value} {ds : List (DataW H)} {ps : List MemPlace}, (ts.all fun t => P.readableRec t && decide (t < P.types.size)) = true → DataW.TrodAll enc P W 0 (fun _ => true) true ts vs ds ps →
      (∀ x ∈ ps, x.block < W.heap.size) → (∀ x ∈ ps, sp x.block = true) → DataW.TrodAll enc P W' 0 sp true ts vs ds ps
  | [], [], [], _, _, h, _, _ => h
  | [], _ :: _, _, _, _, h, _, _ => h.elim
  | [], [], _ :: _, _, _, h, _, _ => h.elim
  | _ :: _, [], _, _, _, h, _, _ => h.elim
  | _ :: _, _ :: _, [], _, _, h, _, _ => h.elim
  | t :: ts, v :: vs, d :: ds, ps, hr, h, hlt, hsp => by
    obtain ⟨p, q, h1, h2, rfl⟩ := h
    simp only [List.all_cons, Bool.and_eq_true, decide_eq_true_eq] at hr
    exact ⟨p, q, WideElems.Trod_stays hl hr.1.1 hr.1.2 h1 (fun x hx => hb.same (hlt x (by simp [hx]))) (fun x hx => hsp x (by simp [hx])),
      stays_all hl hb sp hr.2 h2 (fun x hx => hlt x (by simp [hx])) (fun x hx => hsp x (by simp [hx])), rfl⟩

section
variable {H : Type} {enc : TypeId × Value → H} {P : Program}
theorem post_of_below {f : Func} {s : ChangeSpec} {apart fresh handsOn again : Bool} {W W' : World} {args : Array Value} {v : Value} {ds gs : List (DataW H)} {before pa pv : List MemPlace}
    (hW : DataW.Whole enc P f.params.toList s.vars apart W args.toList ds gs before)
    (hres : ∀ (b : Nat) (sp : Nat → Bool) (hd : Bool), DataW.TrodAll enc P W' b sp hd f.resultTypes.toList (v.resultList f.resultTypes.size) (s.fn H (ds ++ gs)).results [])
    (hargs : ∀ sp : Nat → Bool, (∀ p ∈ before, sp p.block = true) → DataW.TrodAll enc P W' 0 sp true f.params.toList args.toList (s.fn H (ds ++ gs)).args pa)
    (hvars : ∀ sp : Nat → Bool, (∀ p ∈ before, sp p.block = true) → DataW.TrodVars enc P W' sp s.vars (s.fn H (ds ++ gs)).vars pv)
    (hps : before = pa ++ pv) (hb : Below W.heap.size W W')
    (hok : ∀ (j : Nat) (t : TypeId) (r : Value), f.resultTypes[j]? = some t → (v.resultList f.resultTypes.size)[j]? = some r → Value.okWide P W' .any 0 t r) :
    s.post enc P f apart fresh handsOn again W args v W' := by
  have hlt : ∀ p ∈ before, p.block < W.heap.size := fun p hp => hW.lt p hp
  have hold : ∀ p ∈ before, (fun b => decide (b < W.heap.size)) p.block = true := fun p hp => by simpa using hlt p hp
  refine ⟨ds, gs, before, [], pa, pv, hW, hres _ _ _, hargs _ hold, hvars _ hold, World.keptBut_mono (fun p hp => ⟨hp, ?_⟩) (hb.frame (· ∈ before)), fun _ => ?_⟩
  · rw [hps, List.mem_append] at hp
    exact Or.inr hp
  · obtain ⟨_, _, _, _, _, hz, hn⟩ := hW
    refine ⟨hok, _, _, ([] ++ pa) ++ pv, ⟨[] ++ pa, pv, trodAll_append (hargs _ (fun _ _ => rfl)) (hres _ _ _), hvars _ (fun _ _ => rfl), rfl, ?_, ?_⟩, ?_⟩
    · intro b off hp
      have hin : MemPlace.cell b off ∈ before := by rw [hps]; simpa using hp
      rw [hb.frozen (hlt _ hin)]
      exact hz b off hin
    · intro ha
      have := hn ha
      rw [hps] at this
      simpa using this
    · intro p hp _
      rw [hps]
      simpa using hp
end

/-- A LAW: it returns true, its arguments read as before. -/
theorem law_post {H : Type} {enc : TypeId × Value → H} {P : Program} {id : FuncId} {f : Func} {s : ChangeSpec} {W : World} {args : Array Value} {ds gs : List (DataW H)} {before : List MemPlace} {av : List AV} {tb : TypeId}
    (hl : laidOutB P = true) (htb : P.underlying tb = some .bool) (hres : f.resultTypes = #[tb]) (hr : (f.params.toList.all fun t => P.readableRec t && decide (t < P.types.size)) = true) (hvars : s.vars = [])
    (hfn : (s.fn H (ds ++ gs)).results = [.lit (.bool true)]) (hfa : (s.fn H (ds ++ gs)).args = ds) (hfv : (s.fn H (ds ++ gs)).vars = [])
    (hW : DataW.Whole enc P f.params.toList s.vars false W args.toList ds gs before)
    (hrel : RelL [] W (fun b => b < W.heap.size) av args.toList) (hc : ACalls P id av [] fun r aw' => r = .bool true ∧ aw' = []) :
    Calls P id args W fun e W' => ∃ v, e = .returned v ∧ s.post enc P f false true false false W args v W' := by
  have hs : Sim [] [] W (fun b => b < W.heap.size) := ⟨rfl, fun k o v h => by simp at h, fun k k' o o' v v' g _ h => by simp at h, fun b h => h⟩
  refine (hc.2 W _ [] args.toList hs hrel).mono fun e W' hx => ?_
  obtain ⟨v, r, aw', σ', F', he, ⟨hr1, hr2⟩, _, hv, hm⟩ := hx
  subst hr1; subst hr2
  cases hv
  have hb : Below W.heap.size W W' := ⟨hm.os, hm.tape, hm.output, hm.size, fun k hk => hm.keep k hk (fun ⟨k', o, v, ho, _⟩ => by simp at ho)⟩
  refine ⟨.bool true, he, ?_⟩
  have hW' := hW
  obtain ⟨p, q, hA, hV, rfl, hfz, hnd⟩ := hW'
  rw [hvars] at hV
  obtain ⟨rfl, rfl⟩ := trodVars_none hV
  have hlt : ∀ x ∈ p ++ [], x.block < W.heap.size := fun x hx => hW.lt x hx
  refine post_of_below (pa := p) (pv := []) hW (fun b sp hd => ?_) (fun sp hsp => ?_) (fun sp hsp => ?_) rfl hb (ok_one hres rfl (okWide_bool_mk htb _))
  · rw [hfn, hres]
    exact trodAll_cons_mk (shut_bool htb _) trodAll_mk0
  · rw [hfa]
    exact stays_all hl hb sp hr hA (fun x hx => hlt x (by simpa using hx)) (fun x hx => hsp x (by simpa using hx))
  · rw [hfv, hvars]
    exact rfl

end Go.Proofs.Ytegkmfokfakeiaa
