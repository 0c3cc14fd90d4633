/-
  Part 6 of a proof: what the code computes, and the law of it; put together by a program of ours (wip/decl.py) out of texts of ours.
-/
import Derived.Test.YtfbmoockopakjaaZMoveOne5
namespace Go.Proofs.Ytfbmoockopakjaa
set_option linter.unusedVariables false
set_option linter.unusedSimpArgs false
theorem eqf_loop {α β:Type} [DecidableEq β] (a b:List α) (ha:a.length≤1099511627776) (hl:a.length=b.length) (f:α→β) {body:Int→Option (Int ⊕ Bool)}
    (h1:∀ (k:Nat) (x y:α),a[k]?=some x→b[k]?=some y→decide ((k:Int)<(a.length:Int))=true→idx a (k:Int)=some x→idx b (k:Int)=some y→IntKind.i64.wrap ((k:Int)+1)=((k+1:Nat):Int)→body k=if f x=f y then some (.inl ((k+1:Nat):Int)) else some (.inr false))
    (h2:decide ((a.length:Int)<(a.length:Int))=false→body a.length=some (.inr true)):iter body 0=some (decide (a.map f=b.map f)):=by
  have key:∀ (m k:Nat),k+m=a.length→iter body k=some (decide ((a.drop k).map f=(b.drop k).map f)):=by
    intro m
    induction m with
    | zero =>
      intro k hk
      have hk:k=a.length:=by omega
      subst hk
      rw [J1a,h2 (by simp),List.drop_length,List.drop_of_length_le (by omega)]
      simp
    | succ m ih =>
      intro k hk
      have hlt:k<a.length:=by omega
      have hlt2:k<b.length:=by omega
      rw [J1a,h1 k a[k] b[k] (List.getElem?_eq_getElem hlt) (List.getElem?_eq_getElem hlt2) (by simp;omega) (Vya (List.getElem?_eq_getElem hlt)) (Vya (List.getElem?_eq_getElem hlt2)) (Qvb (by omega)),List.drop_eq_getElem_cons hlt,List.drop_eq_getElem_cons hlt2,List.map_cons,List.map_cons]
      by_cases hxy:f a[k]=f b[k]
      · rw [if_pos hxy]
        simp only
        rw [ih (k+1) (by omega)]
        simp [hxy]
      · rw [if_neg hxy]
        simp [hxy]
  have:=key a.length 0 (by omega)
  rw [Int.natCast_zero,List.drop_zero,List.drop_zero] at this
  exact this
theorem SameItems_eq (a b:List Item) (ha:a.length≤1099511627776):Vha a b=some (decide (a=b)):=by
  unfold Vha
  rw [slices_Equal_Item_eq' a b ha];rfl
theorem sameRings_eq (a b:List (List Item)) (ha:a.length≤1099511627776) (hi:∀ l,l∈a→l.length≤1099511627776):Jha a b=some (decide (a=b)):=by
  unfold Jha
  by_cases hl:a.length=b.length
  · rw [if_neg (by simp;omega),eqf_loop a b ha hl id (fun k x y hx hy e1 e2 e3 e4=>by
      unfold Jca
      rw [e1,e2,e3,e4]
      simp only [if_true,Option.bind_some]
      rw [SameItems_eq x y (hi x (List.mem_of_getElem? hx)),Option.bind_some]
      by_cases h:x=y<;>simp [h]) (fun h=>by
      unfold Jca
      rw [h];rfl)]
    simp
  · rw [if_pos (by simp;omega)]
    have:a≠b:=fun e=>hl (by rw [e])
    simp [this]
theorem slices_Equal_Keyed_eq' (a b:List Keyed) (ha:a.length≤1099511627776):V7a a b=some (decide (a=b)):=by
  unfold V7a
  by_cases hl:a.length=b.length
  · rw [if_neg (by simp;omega)]
    exact equal_loop a b ha hl (fun k x y h1 h2 h3 h4=>by
      unfold Vea
      rw [h1,h2,h3,h4]
      by_cases h:x=y<;>simp [h]) (fun h=>by
      unfold Vea
      rw [h];simp)
  · rw [if_pos (by simp;omega)]
    have:a≠b:=fun e=>hl (by rw [e])
    simp [this]
theorem SameMemory_eq (a b:Memory) (ha:a.Keys.length≤1099511627776):Vwa a b=some (decide (a=b)):=by
  unfold Vwa
  rw [slices_Equal_Keyed_eq' _ _ ha]
  cases a with
  | mk s k d =>
    cases b with
    | mk s' k' d' =>
      simp only [Memory.mk.injEq]
      by_cases h1:s=s'
      · by_cases h2:d=d'
        · by_cases h3:k=k'<;>simp [h1,h2,h3]
        · simp [h1,h2]
      · simp [h1]
theorem sameMems_eq (a b:List Memory) (ha:a.length≤1099511627776) (hi:∀ m,m∈a→m.Keys.length≤1099511627776):Jda a b=some (decide (a=b)):=by
  unfold Jda
  by_cases hl:a.length=b.length
  · rw [if_neg (by simp;omega),eqf_loop a b ha hl id (fun k x y hx hy e1 e2 e3 e4=>by
      unfold Q9a
      rw [e1,e2,e3,e4]
      simp only [if_true,Option.bind_some]
      rw [SameMemory_eq x y (hi x (List.mem_of_getElem? hx)),Option.bind_some]
      by_cases h:x=y<;>simp [h]) (fun h=>by
      unfold Q9a
      rw [h];rfl)]
    simp
  · rw [if_pos (by simp;omega)]
    have:a≠b:=fun e=>hl (by rw [e])
    simp [this]
structure SmallS (s:State):Prop where
  a1:s.At.length≤1099511627776
  a2:s.Rings.length≤1099511627776
  a3:s.Memory.length≤1099511627776
  a4:s.Choices.length≤1099511627776
  a5:s.Out.length≤1099511627776
  a6:∀ l,l∈s.Rings→l.length≤1099511627776
  a7:∀ m,m∈s.Memory→m.Keys.length≤1099511627776
theorem smallS_of {n:Net} {items:List (List Item)} {B:Int} {s:State} (hS:RightS n items) (ok:OkS n items B s):SmallS s:=by
  have h1:=ok.at_
  have h2:=ok.rg
  have h3:=ok.mm
  have h4:=ok.ch
  have h5:=ok.out
  have h6:=hS.l4
  have h7:=hS.r2
  have h8:=hS.n2
  have h9:=hS.m2
  refine ⟨by omega,by omega,by omega,by omega,by omega,fun l hl=>?_,fun m hm=>?_⟩
  · obtain ⟨r,hr⟩:=List.getElem?_of_mem hl
    have:=ok.room r l hr;omega
  · obtain ⟨i,hi⟩:=List.getElem?_of_mem hm
    have:=(ok.mem i m hi).1.len;omega
theorem slices_Equal_int_eq' (a b:List Int) (ha:a.length≤1099511627776):Yua a b=some (decide (a=b)):=by
  unfold Yua
  by_cases hl:a.length=b.length
  · rw [if_neg (by simp;omega)]
    exact equal_loop a b ha hl (fun k x y h1 h2 h3 h4=>by
      unfold Vua
      rw [h1,h2,h3,h4]
      by_cases h:x=y<;>simp [h]) (fun h=>by
      unfold Vua
      rw [h];simp)
  · rw [if_pos (by simp;omega)]
    have:a≠b:=fun e=>hl (by rw [e])
    simp [this]
theorem SameState_eq (a b:State) (ha:SmallS a):V6a a b=some (decide (a=b)):=by
  unfold V6a
  rw [slices_Equal_int_eq' _ _ ha.a1,sameRings_eq _ _ ha.a2 ha.a6,sameMems_eq _ _ ha.a3 ha.a7,slices_Equal_Choice_eq' _ _ ha.a4,SameItems_eq _ _ ha.a5]
  cases a with
  | mk a1 a2 a3 a4 a5 =>
    cases b with
    | mk b1 b2 b3 b4 b5 =>
      simp only [State.mk.injEq,Option.bind_some]
      by_cases h1:a1=b1
      · by_cases h2:a2=b2
        · by_cases h3:a3=b3
          · by_cases h4:a4=b4
            · by_cases h5:a5=b5<;>simp [h1,h2,h3,h4,h5]
            · simp [h1,h2,h3,h4]
          · simp [h1,h2,h3]
        · simp [h1,h2]
      · simp [h1]
section
variable {n:Net} {items:List (List Item)} {B:Int} {s:State}
def goodMv (n:Net) (m:Move):Prop:=0≤m.Node∧m.Node<n.Nodes.length∧0≤m.Lane∧m.Lane<Vga (nodeN n m.Node.toNat)
instance (n:Net) (m:Move):Decidable (goodMv n m):=by unfold goodMv;infer_instance
end
end Go.Proofs.Ytfbmoockopakjaa
namespace Go.Proofs.Ytfbmoockopakjaa
set_option linter.unusedVariables false
set_option linter.unusedSimpArgs false
def hasKind (n:Net) (ks:List Int):Bool:=n.Nodes.any fun x=>decide (x.Kind∈ks)
theorem contains_I (l:List Int) (v:Int) (hl:l.length≤1099511627776):Vta l v=some (decide (v∈l)):=by
  unfold Vta Qmb
  rw [index_loop l hl (fun x=>decide (v=x)) (fun k x hx hk e1 e2 e3=>by
    unfold Vra
    rw [e2,e1,e3]
    simp only [if_true,Option.bind_some]
    by_cases h:v=x<;>simp [h]) (fun h=>by
    unfold Vra
    rw [h];rfl),Option.bind_some,idxI_any]
  congr 1
  rw [Bool.eq_iff_iff]
  simp
theorem without_eq (n:Net) (ks:List Int) (hn:n.Nodes.length≤1099511627776) (hk:ks.length≤1000):Yta n ks=some (!hasKind n ks):=by
  unfold Yta Zqa Zya
  rw [index_loop n.Nodes hn (fun x=>decide (x.Kind∈ks)) (fun k x hx hlt e1 e2 e3=>by
    unfold J9a Vfa
    rw [e2,e1,e3]
    simp only [if_true,Option.bind_some,contains_I ks _ (show ks.length≤1099511627776 by omega)]
    rfl) (fun h=>by
    unfold J9a
    rw [h];rfl),Option.bind_some,idxI_any]
  rfl
theorem not_kind {n:Net} {ks:List Int} (h:hasKind n ks=false) {i:Nat} (hi:i<n.Nodes.length):(nodeN n i).Kind ∉ ks:=fun hm=>by
  unfold hasKind at h
  rw [List.any_eq_false] at h
  have:=h _ (List.mem_of_getElem? (nodeN_get hi))
  simp at this
  exact this hm
section
variable {n:Net} {items:List (List Item)} {B:Int} {s:State} {room:Option Nat}
def cntW (i:Nat) (w:List (Nat × Nat)):Nat:=(projW i w).length
theorem cntW_cons (i:Nat) (m:Nat × Nat) (w:List (Nat × Nat)):cntW i (m::w)=(if m.1=i then 1 else 0)+cntW i w:=by
  unfold cntW
  rw [Z2a]
  split
  · rw [List.length_cons];omega
  · omega
theorem flow {I M T:Type} {E:Mach I M T} (hR:RightN n) {i j:Nat} {r:Int} (hi:i<n.Nodes.length) (hj:j<n.Nodes.length) (hro:r∈(nodeN n i).Out) (hri:r∈(nodeN n j).In) (h6:(nodeN n j).Kind≠6) :
    ∀ {w:List (Nat × Nat)} {c d:MSt I M T},Run E n room c w d→(d.rg r.toNat).length+cntW j w≤(c.rg r.toNat).length+cntW i w:=by
  have hij:i≠j:=fun e=>by
    obtain ⟨pos,_,_,hp⟩:=hR.ord
    subst e
    have:=hp _ _ r hi hj hro hri
    omega
  have h1:(nodeN n j).Kind≠1:=fun e=>by rw [hR.in1 j hj e] at hri;cases hri
  have hlen:=hR.inx j hj h1 h6
  have h0:=hR.inR j hj r hri
  intro w
  induction w with
  | nil=>intro c d h;cases h;simp [cntW,projW]
  | cons m w ih =>
    intro c d h
    cases h with
    | @cons _ c1 _ _ _ h t =>
      have h2:=ih t
      rw [cntW_cons,cntW_cons]
      obtain ⟨hm,x,hx,_,rfl⟩:=h
      have hrg:(goM E n c m x).rg r.toNat=(if (nodeN n m.1).Kind≠1∧r.toNat=ringN (nodeN n m.1) m.2 then (c.rg r.toNat).tail else c.rg r.toNat)++if ((r.toNat:Nat):Int)∈toM E n m x then [(mkM E n c m x).2] else []:=rfl
      have hl1:(if ((r.toNat:Nat):Int)∈toM E n m x then [(mkM E n c m x).2] else []).length≤if m.1=i then 1 else 0:=by
        split
        · rename_i hto
          rw [Int.toNat_of_nonneg h0.1] at hto
          rw [if_pos (hR.oneO m.1 i r hm.1 hi (to_out hR hm x r hto) hro)]
          simp
        · simp
      by_cases hmj:m.1=j
      · subst hmj
        have hmi:¬ m.1=i:=fun e=>hij e.symm
        have hin:=ring_of hR hm h1
        have hrr:r.toNat=ringN (nodeN n m.1) m.2:=by
          obtain ⟨q,hq⟩:=List.length_eq_one_iff.1 hlen
          rw [hq] at hri hin
          simp at hri hin
          omega
        rw [if_neg hmi] at hl1
        rw [hrg,List.length_append,if_pos ⟨h1,hrr⟩,List.length_tail] at h2
        have hne:(c.rg r.toNat).length≠0:=fun e=>by
          unfold hdM at hx
          rw [if_neg h1,← hrr,List.eq_nil_of_length_eq_zero e] at hx
          cases hx
        rw [if_pos rfl,if_neg hmi]
        omega
      · rw [if_neg hmj]
        have hl2:(if (nodeN n m.1).Kind≠1∧r.toNat=ringN (nodeN n m.1) m.2 then (c.rg r.toNat).tail else c.rg r.toNat).length≤(c.rg r.toNat).length:=by
          split
          · rw [List.length_tail];omega
          · exact Nat.le_refl _
        rw [hrg,List.length_append] at h2
        omega
theorem src_cnt {I M T:Type} {E:Mach I M T} (hsrc:SrcN n) {i:Nat} (hi:i<n.Nodes.length) (h1:(nodeN n i).Kind=1) (L:Nat) (hL:(E.src (nodeN n i).A.toNat).length≤L) :
    ∀ {w:List (Nat × Nat)} {c d:MSt I M T},Run E n room c w d→c.pos (nodeN n i).A.toNat≤L→c.pos (nodeN n i).A.toNat+cntW i w≤L:=by
  intro w
  induction w with
  | nil=>intro c d h h0;simpa [cntW,projW] using h0
  | cons m w ih =>
    intro c d h h0
    cases h with
    | @cons _ c1 _ _ _ h t =>
      rw [cntW_cons]
      obtain ⟨hm,x,hx,_,rfl⟩:=h
      by_cases hmi:m.1=i
      · subst hmi
        unfold hdM at hx
        rw [if_pos h1] at hx
        have hlt:=(List.getElem?_eq_some_iff.1 hx).1
        have hpos:(goM E n c m x).pos (nodeN n m.1).A.toNat=c.pos (nodeN n m.1).A.toNat+1:=by
          show (if (nodeN n m.1).Kind=1 then upd c.pos (nodeN n m.1).A.toNat (c.pos (nodeN n m.1).A.toNat+1) else c.pos) _=_
          rw [if_pos h1,upd_same]
        have:=ih t (by rw [hpos];omega)
        rw [hpos] at this
        rw [if_pos rfl]
        omega
      · have hpos:(goM E n c m x).pos (nodeN n i).A.toNat=c.pos (nodeN n i).A.toNat:=by
          show (if (nodeN n m.1).Kind=1 then upd c.pos (nodeN n m.1).A.toNat (c.pos (nodeN n m.1).A.toNat+1) else c.pos) _=_
          split
          · rename_i hm1
            exact upd_ne _ _ (fun e=>hmi (hsrc m.1 i hm.1 hi hm1 h1 e.symm))
          · rfl
        have:=ih t (by rw [hpos];exact h0)
        rw [hpos] at this
        rw [if_neg hmi]
        omega
theorem out_cnt {I M T:Type} {E:Mach I M T} (hR:RightN n) {i:Nat} (hi:i<n.Nodes.length) (h8:(nodeN n i).Kind=8):∀ {w:List (Nat × Nat)} {c d:MSt I M T},Run E n room c w d→d.out.length=c.out.length+cntW i w:=by
  intro w
  induction w with
  | nil=>intro c d h;cases h;simp [cntW,projW]
  | cons m w ih =>
    intro c d h
    cases h with
    | @cons _ c1 _ _ _ h t =>
      rw [cntW_cons,ih t]
      obtain ⟨hm,x,hx,_,rfl⟩:=h
      show (if (nodeN n m.1).Kind=8 then c.out++[_] else c.out).length+_=_
      by_cases hmi:m.1=i
      · subst hmi;rw [if_pos h8,if_pos rfl,List.length_append];simp;omega
      · rw [if_neg (fun e=>hmi (hR.sink1 m.1 i hm.1 hi e h8)),if_neg hmi];omega
theorem cnt_20 (hS:RightS n items) (h6:∀ i,i<n.Nodes.length→(nodeN n i).Kind≠6) {w:List (Nat × Nat)} {d:MSt Item Memory (List Choice)} (h:Run (fullE n items) n room (absF (Vna n items)) w d):∀ (m j:Nat),posN n j≤m→j<n.Nodes.length→cntW j w≤20:=by
  have hR:=hS.toRightN
  obtain ⟨p1,_,p2⟩:=posN_spec hR
  have hrg:∀ r,(absF (Vna n items)).rg r=[]:=fun r=>by
    show (Vna n items).Rings.getD r []=[]
    rw [List.getD_eq_getElem?_getD]
    cases h:(Vna n items).Rings[r]? with
    | none=>rfl
    | some l=>exact (List.mem_replicate.1 (List.mem_of_getElem? h)).2
  have step:∀ j,j<n.Nodes.length→(∀ i,i<n.Nodes.length→posN n i<posN n j→cntW i w≤20)→cntW j w≤20:=fun j hj ih=>by
    by_cases h1:(nodeN n j).Kind=1
    · have hl:((fullE n items).src (nodeN n j).A.toNat).length≤20:=by
        show (items.getD (nodeN n j).A.toNat []).length≤20
        have ha:=hS.a0 j hj
        have hA:=hS.srcA j hj h1
        exact hS.l20 _ _ (J7a [] (by omega))
      have hp0:(absF (Vna n items)).pos (nodeN n j).A.toNat≤20:=by
        show ((Vna n items).At.getD (nodeN n j).A.toNat 0).toNat≤20
        rw [List.getD_eq_getElem?_getD]
        cases h:(Vna n items).At[(nodeN n j).A.toNat]? with
        | none=>simp
        | some l=>rw [(List.mem_replicate.1 (List.mem_of_getElem? h)).2];simp
      have:=src_cnt (srcN_of hS) hj h1 20 hl h hp0
      omega
    · have hlen:=hR.inx j hj h1 (h6 j hj)
      obtain ⟨q,hq⟩:=List.length_eq_one_iff.1 hlen
      have hqi:q∈(nodeN n j).In:=by rw [hq];exact List.mem_cons_self
      have h0:=hR.inR j hj q hqi
      obtain ⟨g,hg,hgo⟩:=hR.toO q.toNat (by omega)
      rw [Int.toNat_of_nonneg h0.1] at hgo
      have hf:=flow hR hg hj hgo hqi (h6 j hj) h
      rw [hrg] at hf
      have:=ih g hg (p2 g j q hg hj hgo hqi)
      simp at hf
      omega
  intro m
  induction m with
  | zero=>intro j hp hj;exact step j hj fun i hi hlt=>by omega
  | succ m ih=>intro j hp hj;exact step j hj fun i hi hlt=>ih i (by omega) hi
theorem one_end (hS:RightS n items) (h6:∀ i,i<n.Nodes.length→(nodeN n i).Kind≠6) {t:State} {u v:List (Nat × Nat)} (hs:Reach n items u s) (ht:Reach n items v t) (es:Zna n items s=[]) (et:Zna n items t=[]):s=t∧∀ x,x∈s.Out→x.Dep=0:=by
  have hR:=hS.toRightN
  have hch:∀ {w:List (Nat × Nat)} {q:State},Reach n items w q→q.Choices=[]:=fun {w q} hq=>by
    rw [reach_ch hq]
    unfold chW
    rw [List.filter_eq_nil_iff.2 (fun m hm=>by
      have:=run_valid hq.run m hm
      simpa using h6 m.1 this.1)]
    rfl
  obtain ⟨k,hk,hk8⟩:=hR.sink
  have hout:∀ {w:List (Nat × Nat)} {q:State},Reach n items w q→q.Out.length≤20:=fun {w q} hq=>by
    have h1:=out_cnt hR hk hk8 hq.run
    have h2:=cnt_20 hS h6 hq.run _ k (Nat.le_refl _) hk
    have h3:(absF (Vna n items)).out.length=0:=rfl
    have h4:(absF q).out.length=q.Out.length:=rfl
    omega
  have cs:=hch hs
  have ct:=hch ht
  obtain ⟨u',v',d,d1,d2,_⟩:=run_join hR (srcN_of hS) (E:=coreE n items) (fun _ _ _=>rfl) (era_run hs.run) (era_run ht.run)
    (comp_of_choices (run_valid hs.run) (run_valid ht.run) (fun i hi6=>by
      rw [← reach_ch hs,← reach_ch ht,cs,ct]
      exact .inl (List.prefix_refl _)))
  have hu:u'=[]:=by
    cases u' with
    | nil=>rfl
    | cons m w=>cases d1 with | cons h1 _=>exact absurd h1 (end_stuck hS hs.inv (by rw [cs];decide) (by have:=hout hs;omega) es)
  have hv:v'=[]:=by
    cases v' with
    | nil=>rfl
    | cons m w=>cases d2 with | cons h1 _=>exact absurd h1 (end_stuck hS ht.inv (by rw [ct];decide) (by have:=hout ht;omega) et)
  subst hu hv
  have he:era (absF s)=era (absF t):=by rw [← d1.nil_inv,← d2.nil_inv]
  obtain ⟨Bs,oks,_⟩:=hs.inv
  obtain ⟨Bt,okt,_⟩:=ht.inv
  obtain ⟨q1,q2,q3,q4⟩:=era_eq oks okt he
  have zI:∀ l:List Item,(∀ x,x∈l→x.Dep=0)→(l.map eraI).map (fun q=>(⟨q.1,q.2,0⟩:Item))=l:=fun l hl=>by
    rw [List.map_map]
    conv=>rhs;rw [← List.map_id l]
    refine List.map_congr_left fun x hx=>?_
    have:=hl x hx
    cases x
    simp [eraI] at this ⊢
    exact this.symm
  have zM:∀ l:List Memory,(∀ x,x∈l→x.Dep=0)→(l.map eraM).map (fun q=>(⟨q.1,q.2,0⟩:Memory))=l:=fun l hl=>by
    rw [List.map_map]
    conv=>rhs;rw [← List.map_id l]
    refine List.map_congr_left fun x hx=>?_
    have:=hl x hx
    cases x
    simp [eraM] at this ⊢
    exact this.symm
  have dO:∀ {q:State} {B:Int},OkS n items B q→q.Choices=[]→∀ x,x∈q.Out→x.Dep=0:=fun {q B} ok hc x hx=>by
    have:=ok.depO x hx
    rw [hc] at this;simp at this;omega
  have dR:∀ {q:State} {B:Int},OkS n items B q→q.Choices=[]→∀ l,l∈q.Rings→∀ x,x∈l→x.Dep=0:=fun {q B} ok hc l hl x hx=>by
    obtain ⟨r,hr⟩:=List.getElem?_of_mem hl
    have:=ok.depR r l x hr hx
    rw [hc] at this;simp at this;omega
  have dM:∀ {q:State} {B:Int},OkS n items B q→q.Choices=[]→∀ m,m∈q.Memory→m.Dep=0:=fun {q B} ok hc m hm=>by
    obtain ⟨r,hr⟩:=List.getElem?_of_mem hm
    have h1:=ok.mem r m hr
    have h2:=h1.1.dep
    have h3:=h1.2.1
    rw [hc] at h3;simp at h3;omega
  have zR:∀ R:List (List Item),(∀ l,l∈R→∀ x,x∈l→x.Dep=0)→(R.map (List.map eraI)).map (List.map (fun q=>(⟨q.1,q.2,0⟩:Item)))=R:=fun R hR=>by
    rw [List.map_map]
    conv=>rhs;rw [← List.map_id R]
    exact List.map_congr_left fun l hl=>zI l (hR l hl)
  refine ⟨?_,dO oks cs⟩
  have e2:s.Rings=t.Rings:=by rw [← zR _ (dR oks cs),q2,zR _ (dR okt ct)]
  have e3:s.Memory=t.Memory:=by rw [← zM _ (dM oks cs),q3,zM _ (dM okt ct)]
  have e4:s.Out=t.Out:=by rw [← zI _ (dO oks cs),q4,zI _ (dO okt ct)]
  have e5:s.Choices=t.Choices:=by rw [cs,ct]
  cases s
  cases t
  simp only [State.mk.injEq]
  exact ⟨q1,e2,e3,e5,e4⟩
end
theorem MoveOne_true (n:Net) (items:List (List Item)) (p o:List Int) (hb:mNet n+(mL (mL mItem) items+(mL mI p+(mL mI o+0)))≤1048576):Qkb n items p o=some true:=by
  have hio:=net_io (show mNet n≤1048576 by omega)
  have hnl:n.Nodes.length≤mL mNode n.Nodes:=len_le (fun x=>by unfold mNode;omega) _
  have hnn:mL mNode n.Nodes≤mNet n:=by unfold mNet;omega
  unfold Qkb
  rw [Play_eq n items p hio,Option.bind_some,Play_eq n items o hio,Option.bind_some,moved_true,Option.bind_some,without_eq n [6] (by omega) (by simp)]
  by_cases h:srcR n items=0
  · rw [if_neg (show ¬ srcR n items≠0 by simp [h]),if_neg (show ¬ srcR n items≠0 by simp [h])]
    by_cases hp:2000<p.length
    · rw [if_pos hp,if_neg (by decide),if_pos (by decide),Option.bind_some,if_pos rfl,Option.bind_some]
    · rw [if_neg hp]
      by_cases ho:2000<o.length
      · rw [if_pos ho,if_neg (by decide),if_neg (by simp),if_pos (by decide),Option.bind_some,if_pos rfl,Option.bind_some]
      · rw [if_neg ho,if_neg (by decide),if_neg (by simp),if_neg (by simp),Option.bind_some,Option.bind_some]
        cases hk:hasKind n [6] with
        | true=>rw [if_pos (by decide),Option.bind_some]
        | false =>
          have hS:=rightS_of h
          have h6:∀ i,i<n.Nodes.length→(nodeN n i).Kind≠6:=fun i hi e=>not_kind hk hi (by rw [e];exact List.mem_cons_self)
          obtain ⟨w1,r1⟩:=reach_play hS p
          obtain ⟨w2,r2⟩:=reach_play hS o
          simp only
          generalize playM n items p (Vna n items)=s at r1
          generalize playM n items o (Vna n items)=t at r2
          have f1:=Finish_eq n items s h r1.inv hio (finS_end hS r1.inv)
          have f2:=Finish_eq n items t h r2.inv hio (finS_end hS r2.inv)
          have hfs:finM n items (muN n items s) s=finS n items s:=rfl
          have hft:finM n items (muN n items t) t=finS n items t:=rfl
          rw [hfs] at f1
          rw [hft] at f2
          obtain ⟨w1',g1⟩:=reach_fin hS r1
          obtain ⟨w2',g2⟩:=reach_fin hS r2
          obtain ⟨heq,hdep⟩:=one_end hS h6 g1 g2 (finS_end hS r1.inv) (finS_end hS r2.inv)
          have hI1:=g1.inv
          rw [if_neg (by decide),f1,Option.bind_some,f2,Option.bind_some]
          rw [← heq]
          generalize finS n items s=q at hdep hI1
          obtain ⟨B,ok,_⟩:=hI1
          have hout:Zca q.Out=some false:=by
            unfold Zca Zva
            have:=ok.out
            rw [index_loop q.Out (by omega) (fun x=>x.Dep != 0) (fun k x hx hlt e1 e2 e3=>by
              unfold J8a Yza
              rw [e2,e1,e3]
              simp only [if_true,Option.bind_some]
              rfl) (fun h=>by
              unfold J8a
              rw [h];rfl),Option.bind_some,idxI_any]
            congr 1
            rw [List.any_eq_false]
            intro x hx
            simp [hdep x hx]
          simp only
          rw [if_pos (by decide),if_pos (by decide),SameState_eq q q (smallS_of hS ok),Option.bind_some,if_pos (by simp),hout,Option.bind_some,Option.bind_some]
          rfl
  · rw [if_pos h]
    have e:((noS,srcR n items).2 != 0)=true:=by simpa using h
    rw [if_neg (by decide),if_pos e,Option.bind_some,if_pos rfl,Option.bind_some]
end Go.Proofs.Ytfbmoockopakjaa
namespace Go.Proofs.Ytfbmoockopakjaa.moveOneLaw
open Go.ChangeShapes Go.WideShapes Go.ChangeAt Go.RowKit
set_option linter.unusedVariables false
theorem own:ownKnob Try.prog.godebug=none:=by kernel_rfl
theorem laid:laidOutB Try.prog=true:=by kernel_rfl
theorem ok:(Try.f5.params.toList.all fun t=>Try.prog.readableRec t && decide (t<Try.prog.types.size))=true:=by kernel_rfl
set_option maxRecDepth 100000 in
theorem contract (H:Type) (enc:TypeId × Value→H) (W:World) (base:Nat) (args:Array Value) (ds gs:List (DataW H)) (before:List MemPlace)
    (hval:∀ (j:Nat) t v,Try.f5.params[j]?=some t→args[j]?=some v→Value.okWide Try.prog W .any base t v)
    (hW:DataW.Whole enc Try.prog Try.f5.params.toList Rows.moveOneSpec.vars false W args.toList ds gs before) (hk:Rows.uptoSmall H (ds++gs)=true) :
    Calls Try.prog 5 args W fun e W'=>∃ v,e=.returned v∧Rows.moveOneSpec.post enc Try.prog Try.f5 false true false false W args v W':=by
  have hW':=hW
  obtain ⟨p,q,hA0,hV,rfl,hfz,hnd⟩:=hW
  have hA:DataW.TrodAll enc Try.prog W 0 (fun _=>true) true Try.f5.params.toList args.toList ds p:=hA0
  rw [Try.params5] at hA hval
  obtain ⟨v0,vs0,d0,ds0,p0,q0,hargs,rfl,rfl,h0,r0⟩:=trodAll_cons hA
  obtain ⟨v1,vs1,d1,ds1,p1,q1,rfl,rfl,rfl,h1,r1⟩:=trodAll_cons r0
  obtain ⟨v2,vs2,d2,ds2,p2,q2,rfl,rfl,rfl,h2,r2⟩:=trodAll_cons r1
  obtain ⟨v3,vs3,d3,ds3,p3,q3,rfl,rfl,rfl,h3,r3⟩:=trodAll_cons r2
  obtain ⟨rfl,rfl,rfl⟩:=trodAll_nil r3
  obtain rfl:args=#[v0,v1,v2,v3]:=by cases args;simp_all
  obtain ⟨rfl,rfl⟩:=trodVars_none hV
  obtain ⟨x0,a0,g0,m0⟩:=Opn.args on24 Try.underlying24 (hval 0 _ v0 rfl rfl) h0
  obtain ⟨x1,a1,g1,m1⟩:=Opn.arg on25 (by rw [Try.underlying25]) (hval 1 _ v1 rfl rfl) h1
  obtain ⟨x2,a2,g2,m2⟩:=Opn.arg on26 (by rw [Try.underlying26]) (hval 2 _ v2 rfl rfl) h2
  obtain ⟨x3,a3,g3,m3⟩:=Opn.arg on26 (by rw [Try.underlying26]) (hval 3 _ v3 rfl rfl) h3
  have hb:Rows.uptoBulkAll ([d0,d1,d2,d3]:List (DataW H))≤1048576:=of_decide_eq_true hk
  simp only [Rows.uptoBulkAll] at hb
  refine law_post laid Try.underlying4 (by kernel_rfl) ok rfl rfl rfl rfl hW' (av:=[_,_,_,_]) (.cons a0 (.cons a1 (.cons a2 (.cons a3 (.nil))))) (crosslaw_MoveOne_c x0 x1 x2 x3 true (MoveOne_true x0 x1 x2 x3 (by omega)))
set_option maxRecDepth 100000 in
theorem lifted (os:Os) (started:os.Started) (H:Type) (enc:TypeId × Value→H) (F:Stop.Interp) :
    ReturnsInHanded {} Try.checked os 5 .any ((Rows.OpenSpec.upto Rows.moveOneSpec).pre6 enc Try.prog Try.f5 Rows.moveOneUptoRow.domain false) (((Rows.OpenSpec.upto Rows.moveOneSpec).at F).post enc Try.prog Try.f5 false true false false):=by
  refine returnsInHanded_of_cond (C:=Try.checked) (s:=Rows.OpenSpec.upto Rows.moveOneSpec) (k:=Rows.uptoSmall) rfl own started (by kernel_rfl) Try.func5
    (OpenSpec.witness (enc:=enc) (C:=Try.checked) (s:=Rows.OpenSpec.upto Rows.moveOneSpec) (k:=Rows.uptoSmall) rfl false ⟨#[],#[.agg #[.slice none 0 0,.int .i64 0,.int .i64 0],.slice none 0 0,.slice none 0 0,.slice none 0 0],[]⟩ 8 (by kernel_rfl) (by kernel_rfl) (by kernel_rfl)
      (x:=([.agg [.nil,.lit (.int .i64 0),.lit (.int .i64 0)],.nil,.nil,.nil],[],[])) (by kernel_rfl) rfl (by kernel_rfl)) ?_
  intro W base args ds gs before hval hW _ hk _
  exact contract H enc W base args ds gs before hval hW hk
theorem proved:Rows.MoveOneUptoSaid :=
  OpenClaim.holds_of_cond 5 Try.f5 rfl rfl rfl rfl rfl rfl rfl ⟨rfl,rfl,rfl,rfl,rfl⟩ rfl rfl rfl rfl rfl (by kernel_rfl) Try.func5 (by kernel_rfl)
    (of_decide_eq_true (by kernel_rfl)) (by unfold Func.isWrapper;first | (rw [if_pos (by decide +kernel)];kernel_rfl) | (rw [if_neg (by decide +kernel)];exact ⟨rfl,rfl⟩))
    (fun os started H enc _ F=>lifted os started H enc F)
#print axioms proved
end Go.Proofs.Ytfbmoockopakjaa.moveOneLaw
