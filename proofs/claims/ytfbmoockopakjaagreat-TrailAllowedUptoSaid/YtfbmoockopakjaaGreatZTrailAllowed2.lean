/-
  Part 2 of the proof of trailAllowedLaw.proved: the code computes these functions, and the law holds of them, with no condition beyond the statement's own; put together by a program of ours (wip/decl.py) out of texts of ours.
-/
import Derived.Test.YtfbmoockopakjaaGreatZTrailAllowed1
namespace Go.Proofs.YtfbmoockopakjaaGreat
open Go.RowKit
set_option linter.unusedVariables false
set_option linter.unusedSimpArgs false
def RenM (m:List (Nat × Nat)) (a' a:AV):Prop:=∀ σ w F v,Rel σ w F a v→∀ σ':List Value,(∀ p,p∈m→σ'[p.1]?=σ[p.2]?)→Rel σ' w F a' v
def RenLM (m:List (Nat × Nat)):List AV→List AV→Prop
  | [],[]=>True
  | a'::as',a::as₀=>RenM m a' a∧RenLM m as' as₀
  | _,_=>False
def RenOM (m:List (Nat × Nat)):Ob→Ob→Prop
  | .dead,_=>True
  | .box cs',.box cs=>RenLM m cs' cs
  | .arr e' s' rows',.arr e s rows=>e'=e∧s'=s∧rows'=rows∧∀ row,row∈rows→∀ x,x∈row→Pure x
  | .mp ks' vs',.mp ks vs=>RenLM m ks' ks∧RenLM m vs' vs
  | .hd e' k',.hd e k=>e'=e∧(k',k)∈m
  | .cl e' s' cells',.cl e s cells=>e'=e∧s'=s∧cells'=cells∧∀ rows,(Cell.own rows∈cells∨Cell.fz rows∈cells)→∀ row,row∈rows→∀ x,x∈row→Pure x
  | _,_=>False
section
variable {P:Program} {σ σ':List Value} {w w':World} {F F':Nat→Prop} {aw:List Ob} {m:List (Nat × Nat)}
theorem renLM_rel:∀ {as' as₀:List AV},RenLM m as' as₀→∀ {vs:List Value},RelL σ w F as₀ vs→(∀ p,p∈m→σ'[p.1]?=σ[p.2]?)→RelL σ' w F as' vs
  | [],[],_,vs,hr,_=>by
    have:vs=[]:=List.eq_nil_of_length_eq_zero hr.1
    subst this;exact .nil
  | a'::as',a::as₀,h,vs,hr,hσ=>by
    match vs,hr with
    | [],hr=>exact absurd hr.1 (by simp)
    | v::vs,hr =>
      have h1:Rel σ w F a v:=hr.2 0 a v rfl rfl
      have h2:RelL σ w F as₀ vs:=⟨by simpa using hr.1,fun j a v ha hv=>hr.2 (j+1) a v (by simpa using ha) (by simpa using hv)⟩
      exact .cons (h.1 σ w F v h1 σ' hσ) (renLM_rel h.2 h2 hσ)
  | [],_::_,h,_,_,_=>h.elim
  | _::_,[],h,_,_,_=>h.elim
theorem renOM_rel {o' o:Ob} {v:Value} (h:RenOM m o' o) (hr:ORel σ w F o v) (hσ:∀ p,p∈m→σ'[p.1]?=σ[p.2]?):ORel σ' w F o' v:=by
  cases o' with
  | dead=>trivial
  | box cs' =>
    cases o with
    | box cs =>
      obtain ⟨g,vs,ty,rfl,hg,hc,h1,hf⟩:=hr
      exact ⟨g,vs,ty,rfl,hg,renLM_rel h hc hσ,h1,hf⟩
    | _=>exact h.elim
  | arr e' s' rows' =>
    cases o with
    | arr e s rows =>
      obtain ⟨rfl,rfl,rfl,hp⟩:=h
      obtain ⟨flat,ho,hfl,hf,A,n,c,rfl⟩:=hr
      exact ⟨flat,ho,⟨hfl.1,hfl.2.1,flatten_rel (fun row hrow x hx v hv=>hp row hrow x hx σ w F v hv σ') hfl.2.2⟩,hf,A,n,c,rfl⟩
    | _=>exact h.elim
  | mp ks' vs' =>
    cases o with
    | mp ks vs =>
      obtain ⟨g,es,clock,rfl,hg,hk,hv,hf⟩:=hr
      exact ⟨g,es,clock,rfl,hg,renLM_rel h.1 hk hσ,renLM_rel h.2 hv hσ,hf⟩
    | _=>exact h.elim
  | hd e' k' =>
    cases o with
    | hd e k =>
      obtain ⟨rfl,hk⟩:=h
      obtain ⟨us,g1,g2,g3,g4,g5⟩:=hr
      exact ⟨us,by rw [hσ _ hk];exact g1,g2,g3,g4,g5⟩
    | _=>exact h.elim
  | cl e' s' cells' =>
    cases o with
    | cl e s cells =>
      obtain ⟨rfl,rfl,rfl,hp⟩:=h
      obtain ⟨us,e1,hl1,hc,hd⟩:=hr
      exact ⟨us,e1,hl1,fun i c x h1 h2=>cell_rel (hc i c x h1 h2) (fun rows hrr=>hp rows (hrr.imp (fun (e:Cell.own rows=c)=>by rw [e];exact List.mem_of_getElem? h1) (fun (e:Cell.fz rows=c)=>by rw [e];exact List.mem_of_getElem? h1))),hd⟩
    | _=>exact h.elim
  | arrU e' s' rows' x'=>cases o<;>exact h.elim
theorem renOM_bk {o' o:Ob} {v:Value} {b:Nat} (h:RenOM m o' o) (hb:Bk o' v b):Bk o v b:=by
  cases o' with
  | dead=>exact hb.elim
  | cl e s cells =>
    cases o with
    | cl e' s' cells'=>obtain ⟨rfl,rfl,rfl,_⟩:=h;exact hb
    | _=>exact h.elim
  | _=>cases o<;>first | exact hb | exact h.elim
theorem renOM_live {o' o:Ob} (hr:RenOM m o' o) (hl:o'.live=true):o.live=true:=by
  cases o'<;>cases o<;>first | rfl | exact hr.elim | cases hl
theorem renO_live {ρ:List Nat} {o' o:Ob} (hr:RenO ρ o' o) (hl:o'.live=true):o.live=true:=by
  cases o'<;>cases o<;>first | rfl | exact hr.elim | cases hl
def backM (ρ:List Nat) (n0 n1:Nat):List (Nat × Nat):=(List.range n1).map fun k=>(if k<ρ.length then ρ.getD k 0 else n0+(k - ρ.length),k)
def BackW (m:List (Nat × Nat)) (ρ:List Nat) (aw aw1:List Ob):Nat→List Ob→Prop
  | _,[]=>True
  | j,o2::r=>((∃ k o1,(j,k)∈m∧aw1[k]?=some o1∧RenOM m o2 o1)∨(ρ.contains j=false∧aw[j]?=some o2))∧BackW m ρ aw aw1 (j+1) r
theorem backW_get {ρ:List Nat} {aw1:List Ob}:∀ {l:List Ob} {j i:Nat} {o2:Ob},BackW m ρ aw aw1 j l→l[i]?=some o2 →
    (∃ k o1,(j+i,k)∈m∧aw1[k]?=some o1∧RenOM m o2 o1)∨(ρ.contains (j+i)=false∧aw[j+i]?=some o2)
  | [],j,i,o2,_,h=>by simp at h
  | o::r,j,0,o2,hb,h=>by simp at h;subst h;exact hb.1
  | o::r,j,i+1,o2,hb,h=>by
    have:=backW_get (j:=j+1) (i:=i) hb.2 (by simpa using h)
    rw [show j+1+i=j+(i+1) by omega] at this
    exact this
theorem frame_call {ρ:List Nat} {aw0 aw1 aw2:List Ob} {σ0 σ1:List Value} (hs:Sim aw σ w F) (hnd:ρ.Nodup) (hW:RenW ρ aw ρ aw0) (hσ0:∀ (k id:Nat),ρ[k]?=some id→σ0[k]?=σ[id]?) (hl0:σ0.length=ρ.length)
    (hs0:Sim aw0 σ0 w F) (hd0:∀ b,Dof aw0 σ0 b→Dof aw σ b) (hs1:Sim aw1 σ1 w' F') (hm:Mv aw0 σ0 w F aw1 σ1 w' F')
    (hl:aw2.length+ρ.length=aw.length+aw1.length) (hB:BackW (backM ρ aw.length aw1.length) ρ aw aw1 0 aw2) :
    ∃ σ2,Sim aw2 σ2 w' F'∧Mv aw σ w F aw2 σ2 w' F'∧∀ p,p∈backM ρ aw.length aw1.length→σ2[p.1]?=σ1[p.2]?:=by
  have hρ1:ρ.length≤aw1.length:=by
    rw [← hs1.len]
    have hpre:=hm.pre
    by_cases h0:ρ.length=0
    · omega
    · have hlt:ρ.length - 1<σ0.length:=by omega
      have:=(List.getElem?_eq_some_iff.1 (hpre _ _ (List.getElem?_eq_getElem hlt))).1
      omega
  have hin:∀ (k id:Nat),ρ[k]?=some id→id<aw.length:=fun k id h=>by
    obtain ⟨_,hg⟩:=renW_get hW
    have hk:k<aw0.length:=by rw [← hs0.len,hl0];exact (List.getElem?_eq_some_iff.1 h).1
    obtain ⟨id',o,e1,e2,_⟩:=hg k _ (List.getElem?_eq_getElem hk)
    rw [h] at e1;cases e1
    exact (List.getElem?_eq_some_iff.1 e2).1
  refine ⟨σ++σ1.drop ρ.length,?_⟩
  have hmem:∀ j k,(j,k)∈backM ρ aw.length aw1.length ↔ (k<aw1.length∧j=if k<ρ.length then ρ.getD k 0 else aw.length+(k - ρ.length)):=fun j k=>by
    unfold backM
    simp only [List.mem_map,List.mem_range,Prod.mk.injEq]
    constructor
    · rintro ⟨k',h1,h2,rfl⟩;exact ⟨h1,h2.symm⟩
    · rintro ⟨h1,h2⟩;exact ⟨k,h1,h2.symm,rfl⟩
  have hσ2:∀ p,p∈backM ρ aw.length aw1.length→(σ++σ1.drop ρ.length)[p.1]?=σ1[p.2]?:=by
    rintro ⟨j,k⟩ hp
    obtain ⟨hk,rfl⟩:=(hmem j k).1 hp
    simp only
    split
    · rename_i hlt
      have hg:ρ[k]?=some (ρ.getD k 0):=by rw [List.getD_eq_getElem?_getD,List.getElem?_eq_getElem hlt];rfl
      have hid:=hin k _ hg
      rw [List.getElem?_append_left (by rw [hs.len];exact hid)]
      have h0:=hσ0 k _ hg
      have hlt0:k<σ0.length:=by omega
      rw [← h0,hm.pre k _ (List.getElem?_eq_getElem hlt0),List.getElem?_eq_getElem hlt0]
    · rw [List.getElem?_append_right (by rw [hs.len];omega),hs.len,List.getElem?_drop]
      congr 1;omega
  have apart:∀ (j:Nat) o v b,ρ.contains j=false→aw[j]?=some o→o.live=true→σ[j]?=some v→Bk o v b→¬ Dof aw0 σ0 b:=by
    rintro j o v b hj ho hlv hv hb ⟨k,o0,v0,hk,hl0',hv0,hb0⟩
    obtain ⟨_,hg⟩:=renW_get hW
    obtain ⟨id,o1,e1,e2,e3⟩:=hg k o0 hk
    have hv1:σ[id]?=some v0:=by rw [← hσ0 k id e1];exact hv0
    have hlv1:o1.live=true:=renO_live e3 hl0'
    refine hs.sep j id o o1 v v0 b ?_ ho e2 hlv hlv1 hv hv1 hb (renO_bk e3 hb0)
    rintro rfl
    have:ρ.contains j=true:=by simpa using List.mem_of_getElem? e1
    rw [hj] at this;cases this
  have own1:∀ (j k:Nat) o1 v b,(j,k)∈backM ρ aw.length aw1.length→aw1[k]?=some o1→o1.live=true→(σ++σ1.drop ρ.length)[j]?=some v→Bk o1 v b→Dof aw1 σ1 b:=fun j k o1 v b hp ho hlv hv hb=>by
    have:=hσ2 _ hp
    simp only at this
    exact ⟨k,o1,v,ho,hlv,by rw [← this];exact hv,hb⟩
  have live:∀ {o' o:Ob},RenOM (backM ρ aw.length aw1.length) o' o→o'.live=true→o.live=true:=fun hr hlv=>renOM_live hr hlv
  have inold:∀ (j:Nat) o v,aw[j]?=some o→(σ++σ1.drop ρ.length)[j]?=some v→σ[j]?=some v:=fun j o v ho hv=>by
    rwa [List.getElem?_append_left (by rw [hs.len];exact (List.getElem?_eq_some_iff.1 ho).1)] at hv
  have hFw:∀ b,F b→w'.heap[b]?=w.heap[b]?:=hm.same hs0
  refine ⟨⟨?_,fun j o2 v ho hv=>?_,fun j j' o o' v v' b hne ho ho' hlv hlv' hv hv' hb hb'=>?_,hs1.lt⟩,⟨hm.os,hm.tape,hm.output,hm.size,fun b hb hd=>hm.keep b hb (fun h=>hd (hd0 b h)),fun i v hv=>by rw [List.getElem?_append_left (List.getElem?_eq_some_iff.1 hv).1];exact hv,hm.sub,fun b hb=>(hm.sup b hb).imp (fun h=>h) (fun h=>h.imp (hd0 b) (fun h=>h)),fun b hb=>?_⟩,hσ2⟩
  · rw [List.length_append,List.length_drop,hs.len,hs1.len];omega
  · have:=backW_get hB ho
    rw [Nat.zero_add] at this
    rcases this with ⟨k,o1,hp,ho1,hr⟩ | ⟨hj,ho2⟩
    · have h1:=hσ2 _ hp
      simp only at h1
      exact renOM_rel hr (hs1.obj k o1 v ho1 (by rw [← h1];exact hv)) hσ2
    · have hv':=inold j o2 v ho2 hv
      refine (hs.obj j o2 v ho2 hv').mono (fun i v hv=>by rw [List.getElem?_append_left (List.getElem?_eq_some_iff.1 hv).1];exact hv) hm.sub hFw (fun hlv b hb=>?_)
      have hlt:=hs.lt_own ⟨j,o2,v,ho2,hlv,hv',hb⟩
      have hnd0:=apart j o2 v b hj ho2 hlv hv' hb
      refine ⟨hm.keep b hlt hnd0,fun hF'=>?_⟩
      rcases hm.sup b hF' with h | h | h
      · exact hs.free ⟨j,o2,v,ho2,hlv,hv',hb⟩ h
      · exact hnd0 h
      · omega
  · have c1:=backW_get hB ho
    have c2:=backW_get hB ho'
    rw [Nat.zero_add] at c1 c2
    rcases c1 with ⟨k,o1,hp,ho1,hr⟩ | ⟨hj,ho2⟩
    · rcases c2 with ⟨k',o1',hp',ho1',hr'⟩ | ⟨hj',ho2'⟩
      · have hkk:k≠k':=by
          rintro rfl
          have a1:=((hmem j k).1 hp).2
          have a2:=((hmem j' k).1 hp').2
          exact hne (a1.trans a2.symm)
        have e1:=hσ2 _ hp
        have e2:=hσ2 _ hp'
        simp only at e1 e2
        exact hs1.sep k k' o1 o1' v v' b hkk ho1 ho1' (live hr hlv) (live hr' hlv') (by rw [← e1];exact hv) (by rw [← e2];exact hv') (renOM_bk hr hb) (renOM_bk hr' hb')
      · have hv2:=inold j' o' v' ho2' hv'
        have hlt:=hs.lt_own ⟨j',o',v',ho2',hlv',hv2,hb'⟩
        rcases hm.own b (own1 j k o1 v b hp ho1 (live hr hlv) hv (renOM_bk hr hb)) with h | h
        · exact apart j' o' v' b hj' ho2' hlv' hv2 hb' h
        · omega
    · have hv1:=inold j o v ho2 hv
      have hlt:=hs.lt_own ⟨j,o,v,ho2,hlv,hv1,hb⟩
      rcases c2 with ⟨k',o1',hp',ho1',hr'⟩ | ⟨hj',ho2'⟩
      · rcases hm.own b (own1 j' k' o1' v' b hp' ho1' (live hr' hlv') hv' (renOM_bk hr' hb')) with h | h
        · exact apart j o v b hj ho2 hlv hv1 hb h
        · omega
      · exact hs.sep j j' o o' v v' b hne ho2 ho2' hlv hlv' hv1 (inold j' o' v' ho2' hv') hb hb'
  · obtain ⟨j,o2,v,ho2,hlv,hv,hb'⟩:=hb
    have c:=backW_get hB ho2
    rw [Nat.zero_add] at c
    rcases c with ⟨k,o1,hp,ho1,hr⟩ | ⟨hj,ho⟩
    · exact (hm.own b (own1 j k o1 v b hp ho1 (live hr hlv) hv (renOM_bk hr hb'))).imp (hd0 b) (fun h=>h)
    · exact .inl ⟨j,o2,v,ho,hlv,inold j o2 v ho hv,hb'⟩
end
section
variable {P:Program} {N n:Nat} {aw aw':List Ob} {l:List (Nat × AV)}
def FnX (P:Program) (f:FuncId) (args:List AV) (aw:List Ob) (v:AV) (aw':List Ob):Prop:=ACalls P f args aw fun r aw''=>r=v∧aw''=aw'
theorem FnX.of_fnO {f:FuncId} {args:List AV} {v:AV} {obs:List Ob} (h:FnO P f args v obs):FnX P f args [] v obs:=h
theorem Vja {d:Option Tmp} {ty:TypeId} {ps:String} {af:Array Edge} {g:Option (Nat × Bool)} {K2:AV→List Ob→Prop} {f:Operand} {args:Array Operand} {ts:Array TypeId} {h:FuncId} {caps ac as0:List AV} {aw0 aw1 aw2:List Ob} {v v':AV} {n0 n1:Nat} (ρ:List Nat) (hn0:aw.length=n0) (hn1:aw1.length=n1)
    (hf:evA n l f=.func h caps) (ha:args.toList.map (evA n l)++caps=ac) (hnd:ρ.Nodup) (hW:RenW ρ aw ρ aw0) (hA:RenL ρ as0 ac) (hC:FnX P h as0 aw0 v aw1) (hlen:aw2.length+ρ.length=n0+n1)
    (hv:RenM (backM ρ n0 n1) v' v) (hB:BackW (backM ρ n0 n1) ρ aw aw1 0 aw2) (hK:K2 v' aw2):OP P N ⟨d,.call ⟨.value f,args,ts⟩,ty,ps,af,g⟩ (mkA n l) aw K2 :=
  ⟨fun st h1 h2 σ w F a hc Kc Q hk=>by
    subst hn0 hn1
    have hfv:=hc.fr.ev f
    rw [Q1a,hf] at hfv
    generalize hvf:a.eval f=vf at hfv
    cases hfv with
    | func _ _ cvs hl hcs =>
      have hargs:RelL σ w F ac (args.toList.map a.eval++cvs):=by
        rw [← ha]
        have:=relL_map hc.fr args.toList
        rw [show args.toList.map (ev (mkA n l))=args.toList.map (evA n l) from List.map_congr_left fun x _=>Q1a n l x] at this
        exact this.append ⟨hl,hcs⟩
      obtain ⟨hlW,hgW⟩:=renW_get hW
      obtain ⟨σ0',hσ',hs0',hd0'⟩:=sim_ren hc.sim hnd hW
      have hl0:σ0'.length=ρ.length:=by rw [hs0'.len,hlW]
      have hr0:RelL σ0' w F as0 (args.toList.map a.eval++cvs):=renL_rel hA hargs hσ'
      have hrun:(execOp a.eval ⟨d,.call ⟨.value f,args,ts⟩,ty,ps,af,g⟩).run P w=.ok (.enter h (args.toList.map a.eval++cvs).toArray) w:=by
        have e:args.map a.eval++cvs.toArray=(args.toList.map a.eval++cvs).toArray:=by
          obtain ⟨l⟩:=args
          simp
        simp only [execOp,resolve,Deferred.ofValue,hvf,Sem.run_bind,Sem.run_pure,Result.andThen_ok,invoke,Array.empty_append,e,hC.1]
      unfold Oper.wp
      rw [hrun]
      refine (hC.2 w F σ0' _ hs0' hr0).mono ?_
      rintro e w' ⟨u,r,aw'',σ1,F',rfl,⟨rfl,rfl⟩,hs1,hrel,hm⟩
      obtain ⟨σ2,s2,m2,hσ2⟩:=frame_call hc.sim hnd hW hσ' hl0 hs0' hd0' hs1 hm hlen hB
      exact hk v' aw2 σ2 w' F' u hK (hc.step s2 m2) (hv σ1 w' F' u hrel σ2 hσ2)⟩
theorem Qua {m:List (Nat × Nat)} {a:AV} (h:Pure a):RenM m a a:=fun σ w F v hr σ' _=>h σ w F v hr σ'
theorem Vga {m:List (Nat × Nat)} {k id:Nat} (h:(k,id)∈m):RenM m (.ref k) (.ref id):=fun σ w F v hr σ' hσ=>by
  cases hr with
  | ref _ A n c hg=>exact .ref k A n c (by have:=hσ _ h;simp only at this;rw [this];exact hg)
theorem rm_agg {m:List (Nat × Nat)} {cs ds:List AV} (h:RenLM m cs ds):RenM m (.agg cs) (.agg ds):=fun σ w F v hr σ' hσ=>by
  cases hr with
  | agg _ vs hl h1 hc=>have:=renLM_rel h ⟨hl,hc⟩ hσ;exact .agg cs vs this.1 h1 this.2
theorem rm_tup {m:List (Nat × Nat)} {cs ds:List AV} (h:RenLM m cs ds):RenM m (.tup cs) (.tup ds):=fun σ w F v hr σ' hσ=>by
  cases hr with
  | tup _ vs hl hc=>have:=renLM_rel h ⟨hl,hc⟩ hσ;exact .tup cs vs this.1 this.2
theorem Zoa {m:List (Nat × Nat)} {cs ds:List AV} (h:RenLM m cs ds):RenOM m (.box cs) (.box ds):=h
theorem Zca {m:List (Nat × Nat)} {α:Type} {en:α→List AV} {xs:List α} {e s:Nat} (hp:∀ a x,x∈en a→Pure x):RenOM m (.arr e s (xs.map en)) (.arr e s (xs.map en)) :=
  ⟨rfl,rfl,rfl,fun row hr x hx=>by obtain ⟨a,_,rfl⟩:=List.mem_map.1 hr;exact hp a x hx⟩
theorem T.nilB {c:Code} {Q:Exit→List AV→List Ob→Prop} {fr:List AV} (id j e z:Nat) {cs cs':List AV} (ho:aw[id]?=some (.box cs)) (hj:cs[j]?=some .nils) (hc:cs.set j (.ref aw.length)=cs') (ha:aw.set id (.box cs')++[.arr e z []]=aw') (h:T P N c Q fr aw'):T P N c Q fr aw :=
  ⟨fun st h1 h2 σ w F a hcur=>by
    subst hc ha
    obtain ⟨s1,m1,r1⟩:=nil_push e z hcur.sim
    have hid:id<aw.length:=(List.getElem?_eq_some_iff.1 ho).1
    refine h.out st h1 h2 (σ++[.slice none 0 0]) w F a ⟨⟨?_,fun k o v hk hv=>?_,fun k k' o o' v v' g hne hk hk' hl hl' hv hv' hb hb'=>?_,s1.lt⟩,m1.aRel hcur.sim hcur.fr,hcur.mv.trans ⟨m1.os,m1.tape,m1.output,m1.size,m1.keep,m1.pre,m1.sub,m1.sup,fun b hb=>?_⟩⟩
    · have:=s1.len;simpa using this
    · rw [List.getElem?_append] at hk
      split at hk
      · rename_i hlt
        rw [List.length_set] at hlt
        rw [List.getElem?_set] at hk
        split at hk
        · rename_i e1
          subst e1
          cases hk
          have hob:=s1.obj id _ v (by rw [List.getElem?_append_left hid];exact ho) hv
          obtain ⟨g,vs,ty,rfl,hg,hr,h1c,hf⟩:=hob
          refine ⟨g,vs,ty,rfl,hg,?_,h1c,hf⟩
          obtain ⟨u,hu,hru⟩:=hr.get hj
          cases hru
          have:=hr.set j r1
          have e2:vs.toList.set j (.slice none 0 0)=vs.toList:=by
            obtain ⟨hlt2,hvs⟩:=List.getElem?_eq_some_iff.1 hu
            rw [← hvs];exact List.set_getElem_self hlt2
          rw [e2] at this
          exact this
        · exact s1.obj k o v (by rw [List.getElem?_append_left hlt];exact hk) hv
      · rename_i hge
        exact s1.obj k o v (by rw [List.getElem?_append_right (by simpa using hge)];simpa using hk) hv
    · have back:∀ (k:Nat) o,(aw.set id (.box (cs.set j (.ref aw.length)))++[.arr e z []])[k]?=some o→o.live=true→∃ o1,(aw++[.arr e z []])[k]?=some o1∧o1.live=true∧∀ v b,Bk o v b→Bk o1 v b:=fun k o hk hl=>by
        rw [List.getElem?_append] at hk ⊢
        rw [List.length_set] at hk
        split at hk
        · rename_i hlt
          rw [if_pos hlt]
          rw [List.getElem?_set] at hk
          split at hk
          · rename_i e1;subst e1;cases hk;exact ⟨_,ho,rfl,fun _ _ h=>h⟩
          · exact ⟨o,hk,hl,fun _ _ h=>h⟩
        · rename_i hge
          rw [if_neg hge];exact ⟨o,hk,hl,fun _ _ h=>h⟩
      obtain ⟨o1,e1,l1,z1⟩:=back k o hk hl
      obtain ⟨o2,e2,l2,z2⟩:=back k' o' hk' hl'
      exact s1.sep k k' o1 o2 v v' g hne e1 e2 l1 l2 hv hv' (z1 _ _ hb) (z2 _ _ hb')
    · obtain ⟨k,o,v,hk,hl,hv,hb⟩:=hb
      refine m1.own b ⟨k,?_⟩
      rw [List.getElem?_append] at hk
      rw [List.length_set] at hk
      split at hk
      · rename_i hlt
        rw [List.getElem?_set] at hk
        rw [List.getElem?_append_left hlt]
        split at hk
        · rename_i e1;subst e1;cases hk;exact ⟨_,v,ho,rfl,hv,hb⟩
        · exact ⟨o,v,hk,hl,hv,hb⟩
      · rename_i hge
        rw [List.getElem?_append_right (by omega)]
        exact ⟨o,v,hk,hl,hv,hb⟩⟩
theorem mv_push {σ:List Value} {w:World} {F:Nat→Prop} {k e s:Nat} {rows:List (List AV)} {v:Value} (hs:Sim aw σ w F) (ho:aw[k]?=some (.arr e s rows)) (hv:σ[k]?=some v) :
    Sim (aw.set k .dead++[.arr e s rows]) (σ++[v]) w F∧Mv aw σ w F (aw.set k .dead++[.arr e s rows]) (σ++[v]) w F:=by
  have hmono:∀ (j:Nat) o u,aw[j]?=some o→σ[j]?=some u→ORel (σ++[v]) w F o u:=fun j o u h1 h2 =>
    (hs.obj j o u h1 h2).mono (fun i x hx=>Yra hx) (fun _ h=>h) (fun _ _=>rfl) (fun hl b hb=>⟨rfl,hs.free ⟨j,o,u,h1,hl,h2,hb⟩⟩)
  have look:∀ (j:Nat) o u,(aw.set k .dead++[.arr e s rows])[j]?=some o→o.live=true→(σ++[v])[j]?=some u→∃ i,aw[i]?=some o∧σ[i]?=some u∧((i=j∧j≠k∧j<aw.length)∨(i=k∧j=aw.length)):=by
    intro j o u h1 hl h2
    rw [List.getElem?_append,List.length_set] at h1
    split at h1
    · rename_i hlt
      rw [List.getElem?_append_left (by rw [hs.len];exact hlt)] at h2
      rw [List.getElem?_set] at h1
      split at h1
      · split at h1
        · cases h1;cases hl
        · cases h1
      · rename_i hne
        exact ⟨j,h1,h2,.inl ⟨rfl,fun e=>hne e.symm,hlt⟩⟩
    · rename_i hge
      have hj:j=aw.length:=by
        have:=(List.getElem?_eq_some_iff.1 h1).1
        simp at this;omega
      subst hj
      rw [Nat.sub_self] at h1
      cases h1
      rw [List.getElem?_append_right (by rw [hs.len];exact Nat.le_refl _),hs.len,Nat.sub_self] at h2
      cases h2
      exact ⟨k,ho,hv,.inr ⟨rfl,rfl⟩⟩
  refine ⟨⟨by simp [hs.len],fun j o u h1 h2=>?_,fun j j' o o' u u' b hne h1 h1' hl hl' h2 h2' hb hb'=>?_,hs.lt⟩,⟨rfl,rfl,rfl,Nat.le_refl _,fun _ _ _=>rfl,fun i x hx=>Yra hx,fun _ h=>h,fun _ h=>.inl h,fun b hb=>?_⟩⟩
  · by_cases hl:o.live=true
    · obtain ⟨i,h3,h4,_⟩:=look j o u h1 hl h2
      exact hmono i o u h3 h4
    · cases o with
      | dead=>trivial
      | _=>exact absurd rfl hl
  · obtain ⟨i,h3,h4,c⟩:=look j o u h1 hl h2
    obtain ⟨i',h3',h4',c'⟩:=look j' o' u' h1' hl' h2'
    refine hs.sep i i' o o' u u' b ?_ h3 h3' hl hl' h4 h4' hb hb'
    rcases c with ⟨rfl,c1,c2⟩ | ⟨rfl,rfl⟩<;>rcases c' with ⟨rfl,c1',c2'⟩ | ⟨rfl,rfl⟩
    · exact hne
    · exact c1
    · exact fun e=>c1' e.symm
    · exact absurd rfl hne
  · obtain ⟨j,o,u,h1,hl,h2,hb⟩:=hb
    obtain ⟨i,h3,h4,_⟩:=look j o u h1 hl h2
    exact .inl ⟨i,o,u,h3,hl,h4,hb⟩
theorem T.mvS {c:Code} {Q:Exit→List AV→List Ob→Prop} (t id:Nat) {e s n0:Nat} {rows:List (List AV)} (hx:evA n l (.tmp t)=.ref id) (ho:aw[id]?=some (.arr e s rows)) (hn:aw.length=n0) (ha:aw.set id .dead++[.arr e s rows]=aw') (h:T P N c Q (mkA n ((t,.ref n0)::l)) aw'):T P N c Q (mkA n l) aw :=
  ⟨fun st h1 h2 σ w F a hcur=>by
    subst ha hn
    have hr:=hcur.fr.ev (.tmp t)
    rw [Q1a,hx] at hr
    generalize hv:a.eval (.tmp t)=v at hr
    cases hr with
    | ref _ A m c2 hg =>
      obtain ⟨s1,m1⟩:=mv_push hcur.sim ho hg
      refine h.out st h1 h2 _ w F a ⟨s1,?_,hcur.mv.trans m1⟩
      have hfr:=m1.aRel hcur.sim hcur.fr
      have hrn:Rel (σ++[.slice A m c2]) w F (.ref aw.length) (.slice A m c2):=.ref _ A m c2 (by rw [← hcur.sim.len];simp)
      have e1:a.tmps.getD t undef=.slice A m c2:=hv
      have hset:mkA n ((t,.ref aw.length)::l)=(mkA n l).set t (.ref aw.length):=(V3a n l (some t) _).symm
      rw [hset]
      refine ⟨?_,hfr.2⟩
      have hlen:=hfr.1.1
      by_cases ht:t<a.tmps.size
      · have:=hfr.1.set t hrn
        have e2:a.tmps.toList.set t (.slice A m c2)=a.tmps.toList:=by
          have e3:a.tmps.toList[t]?=some (.slice A m c2):=by
            have:a.tmps[t]?=some (.slice A m c2):=by
              rw [Array.getElem?_eq_getElem ht]
              rw [← e1];simp [ht]
            simpa using this
          obtain ⟨hlt2,hvs⟩:=List.getElem?_eq_some_iff.1 e3
          rw [← hvs];exact List.set_getElem_self hlt2
        rwa [e2] at this
      · have:(mkA n l).set t (.ref aw.length)=mkA n l:=List.set_eq_of_length_le (by rw [← hlen];simpa using Nat.le_of_not_lt ht)
        rw [this];exact hfr.1⟩
theorem T.mvB {c:Code} {Q:Exit→List AV→List Ob→Prop} {fr:List AV} (b j id:Nat) {e s n0:Nat} {rows:List (List AV)} {cs cs':List AV} (hb:aw[b]?=some (.box cs)) (hj:cs[j]?=some (.ref id)) (ho:aw[id]?=some (.arr e s rows)) (hn:aw.length=n0) (hc:cs.set j (.ref n0)=cs') (ha:(aw.set id .dead).set b (.box cs')++[.arr e s rows]=aw') (h:T P N c Q fr aw'):T P N c Q fr aw :=
  ⟨fun st h1 h2 σ w F a hcur=>by
    subst hc ha hn
    have hbl:b<aw.length:=(List.getElem?_eq_some_iff.1 hb).1
    have hbσ:∃ vb,σ[b]?=some vb:=⟨_,List.getElem?_eq_getElem (by rw [hcur.sim.len];exact hbl)⟩
    obtain ⟨vb,hvb⟩:=hbσ
    obtain ⟨g,vs,ty,rfl,hg,hcr,h1c,hf⟩:=hcur.sim.obj b _ vb hb hvb
    obtain ⟨u,hu,hru⟩:=hcr.get hj
    cases hru with
    | ref _ A m c2 hgσ =>
      obtain ⟨s1,m1⟩:=mv_push hcur.sim ho hgσ
      have hbid:b≠id:=by rintro rfl;rw [hb] at ho;cases ho
      have hb1:(aw.set id .dead++[.arr e s rows])[b]?=some (.box cs):=by
        rw [List.getElem?_append_left (by simpa using hbl),List.getElem?_set,if_neg (fun e=>hbid e.symm)];exact hb
      have hnew:ORel (σ++[.slice A m c2]) w F (.box (cs.set j (.ref aw.length))) (.pointer (some ⟨g,0,none⟩)):=by
        refine ⟨g,vs,ty,rfl,hg,?_,h1c,hf⟩
        have hcr1:=m1.relL hcur.sim hcr
        have:=hcr1.set j (Rel.ref (σ:=σ++[.slice A m c2]) (w:=w) (F:=F) aw.length A m c2 (by rw [← hcur.sim.len];simp))
        have e2:vs.toList.set j (.slice A m c2)=vs.toList:=by
          obtain ⟨hlt2,hvs⟩:=List.getElem?_eq_some_iff.1 hu
          rw [← hvs];exact List.set_getElem_self hlt2
        rwa [e2] at this
      have hvb1:(σ++[.slice A m c2])[b]?=some (.pointer (some ⟨g,0,none⟩)):=Yra hvb
      have hset:(aw.set id .dead).set b (.box (cs.set j (.ref aw.length)))++[Ob.arr e s rows]=(aw.set id .dead++[Ob.arr e s rows]).set b (.box (cs.set j (.ref aw.length))):=by
        rw [List.set_append_left _ _ (by simpa using hbl)]
      rw [hset] at h
      have s2:=s1.write (b0:=g) b hb1 rfl hvb1 rfl (fun _ _=>rfl) rfl _ hnew (fun _ h=>h)
      have m2:=Mv.write (w:=w) (w':=w) (F:=F) (b0:=g) b hb1 rfl hvb1 rfl rfl rfl rfl (fun _ _=>rfl) rfl (.box (cs.set j (.ref aw.length))) (fun _ h=>h)
      exact h.out st h1 h2 _ w F a ⟨s2,m2.aRel s1 (m1.aRel hcur.sim hcur.fr),(hcur.mv.trans m1).trans m2⟩⟩
def fz1 (id:Nat) (rows:List (List AV)):AV→AV
  | .ref k=>(match Nat.beq k id with | true=>.sl rows | false=>.ref k)
  | a=>a
def fz2 (id:Nat) (rows:List (List AV)):AV→AV
  | .agg cs=>.agg (cs.map (fz1 id rows))
  | a=>fz1 id rows a
def fzV (id:Nat) (rows:List (List AV)):AV→AV
  | .tup cs=>.tup (cs.map (fz2 id rows))
  | .func f cs=>.func f (cs.map (fz2 id rows))
  | a=>fz2 id rows a
def fzA (id:Nat) (rows:List (List AV)) (l:List (Nat × AV)):List (Nat × AV):=l.map fun p=>(p.1,fzV id rows p.2)
def fzOb (id:Nat) (rows:List (List AV)):Ob→Ob
  | .box cs=>.box (cs.map (fz2 id rows))
  | o=>o
section
variable {σ:List Value} {w:World} {F:Nat→Prop} {id:Nat} {rows:List (List AV)}
theorem fz1_rel (H:∀ v,Rel σ w F (.ref id) v→Rel σ w F (.sl rows) v) {a:AV} {v:Value} (h:Rel σ w F a v):Rel σ w F (fz1 id rows a) v:=by
  unfold fz1
  split
  · rename_i k
    split
    · rename_i hb
      obtain rfl:=Nat.eq_of_beq_eq_true hb
      exact H v h
    · exact h
  · exact h
theorem map_rel {f:AV→AV} (hf:∀ a v,Rel σ w F a v→Rel σ w F (f a) v) {cs:List AV} {vs:List Value} (h:RelL σ w F cs vs):RelL σ w F (cs.map f) vs:=by
  refine ⟨by simp [h.1],fun j a v ha hv=>?_⟩
  rw [List.getElem?_map,Option.map_eq_some_iff] at ha
  obtain ⟨b,hb,rfl⟩:=ha
  exact hf b v (h.2 j b v hb hv)
theorem fz2_rel (H:∀ v,Rel σ w F (.ref id) v→Rel σ w F (.sl rows) v) {a:AV} {v:Value} (h:Rel σ w F a v):Rel σ w F (fz2 id rows a) v:=by
  unfold fz2
  split
  · cases h with
    | agg _ vs hl h1 hc =>
      have:=map_rel (fun a v=>fz1_rel H) (⟨hl,hc⟩:RelL σ w F _ _)
      exact .agg _ vs this.1 h1 this.2
  · exact fz1_rel H h
theorem fzV_rel (H:∀ v,Rel σ w F (.ref id) v→Rel σ w F (.sl rows) v) {a:AV} {v:Value} (h:Rel σ w F a v):Rel σ w F (fzV id rows a) v:=by
  unfold fzV
  split
  · cases h with
    | tup _ vs hl hc =>
      have:=map_rel (fun a v=>fz2_rel H) (⟨hl,hc⟩:RelL σ w F _ _)
      exact .tup _ vs this.1 this.2
  · cases h with
    | func _ _ vs hl hc =>
      have:=map_rel (fun a v=>fz2_rel H) (⟨hl,hc⟩:RelL σ w F _ _)
      exact .func _ _ vs this.1 this.2
  · exact fz2_rel H h
theorem fz_sim (hs:Sim aw σ w F) (H:∀ v,Rel σ w F (.ref id) v→Rel σ w F (.sl rows) v):Sim (aw.map (fzOb id rows)) σ w F∧Mv aw σ w F (aw.map (fzOb id rows)) σ w F:=by
  have look:∀ (k:Nat) o,(aw.map (fzOb id rows))[k]?=some o→∃ o1,aw[k]?=some o1∧o=fzOb id rows o1∧(o.live=true→o1.live=true)∧∀ v b,Bk o v b→Bk o1 v b:=fun k o h=>by
    rw [List.getElem?_map,Option.map_eq_some_iff] at h
    obtain ⟨o1,h1,rfl⟩:=h
    exact ⟨o1,h1,rfl,fun hl=>by cases o1<;>first | rfl | exact hl,fun v b hb=>by cases o1<;>exact hb⟩
  refine ⟨⟨by simp [hs.len],fun k o v h1 h2=>?_,fun k k' o o' v v' b hne h1 h1' hl hl' h2 h2' hb hb'=>?_,hs.lt⟩,⟨rfl,rfl,rfl,Nat.le_refl _,fun _ _ _=>rfl,fun _ _ h=>h,fun _ h=>h,fun _ h=>.inl h,fun b hb=>?_⟩⟩
  · obtain ⟨o1,h3,rfl,_,_⟩:=look k o h1
    have:=hs.obj k o1 v h3 h2
    cases o1 with
    | box cs =>
      obtain ⟨g,vs,ty,rfl,hg,hr,h4,hf⟩:=this
      exact ⟨g,vs,ty,rfl,hg,map_rel (fun a v=>fz2_rel H) hr,h4,hf⟩
    | _=>exact this
  · obtain ⟨o1,h3,_,l1,z1⟩:=look k o h1
    obtain ⟨o1',h3',_,l1',z1'⟩:=look k' o' h1'
    exact hs.sep k k' o1 o1' v v' b hne h3 h3' (l1 hl) (l1' hl') h2 h2' (z1 _ _ hb) (z1' _ _ hb')
  · obtain ⟨k,o,v,h1,hl,h2,hb⟩:=hb
    obtain ⟨o1,h3,_,l1,z1⟩:=look k o h1
    exact .inl ⟨k,o1,v,h3,l1 hl,h2,z1 _ _ hb⟩
theorem lkA_map (f:AV→AV) (hf:f .any=.any):∀ (l:List (Nat × AV)) (t:Nat),lkA (l.map fun p=>(p.1,f p.2)) t=f (lkA l t)
  | [],t=>hf.symm
  | (s,v)::r,t=>by
    rw [List.map_cons,lkA_cons,lkA_cons]
    split
    · rfl
    · exact lkA_map f hf r t
theorem fz_cur {st:St} {a:Act} {e s:Nat} (hc:Cur st (mkA n l) aw σ w F a) (ho:aw[id]?=some (.arr e s rows)):∃ F',Cur st (mkA n (fzA id rows l)) ((aw.set id .dead).map (fzOb id rows)) σ w F' a:=by
  have hlt:id<σ.length:=by rw [hc.sim.len];exact (List.getElem?_eq_some_iff.1 ho).1
  have hv:=List.getElem?_eq_getElem hlt
  have s1:=hc.sim.drop id ho rfl hv
  have m1:Mv aw σ w F (aw.set id .dead) σ w _:=.drop id ho rfl hv
  obtain ⟨flat,hown,hfl,hf,A,m,c,hform⟩:=hc.sim.obj id _ _ ho hv
  have H:∀ v,Rel σ w (fun b=>F b∨Bk (.arr e s rows) σ[id] b) (.ref id) v→Rel σ w (fun b=>F b∨Bk (.arr e s rows) σ[id] b) (.sl rows) v:=fun v hr=>by
    cases hr with
    | ref _ A' m' c' h' =>
      have e1:σ[id]=.slice A' m' c':=by rw [hv] at h';exact Option.some.inj h'
      have:=arr_sl (F':=fun b=>F b∨Bk (.arr e s rows) σ[id] b) (fun _ h=>.inl h) hc.sim ho h' (fun b hb=>.inr (by rw [e1];exact hb))
      exact this
  have c1:=hc.step s1 m1
  obtain ⟨s2,m2⟩:=fz_sim (rows:=rows) s1 H
  have c2:=c1.step s2 m2
  refine ⟨_,s2,⟨⟨?_,fun j x v hx hv'=>?_⟩,c2.fr.2⟩,c2.mv⟩
  · rw [len_mkA];have:=c2.fr.1.1;rwa [len_mkA] at this
  · rw [get_mkA] at hx
    split at hx
    · rename_i hj
      cases hx
      unfold fzA
      rw [lkA_map _ rfl]
      exact fzV_rel H (c2.fr.1.2 j _ v (by rw [get_mkA,if_pos hj]) hv')
    · cases hx
end
theorem T.fz {c:Code} {Q:Exit→List AV→List Ob→Prop} {l':List (Nat × AV)} (id:Nat) {e s:Nat} {rows:List (List AV)} (ho:aw[id]?=some (.arr e s rows)) (hl:fzA id rows l=l') (ha:(aw.set id .dead).map (fzOb id rows)=aw') (h:T P N c Q (mkA n l') aw'):T P N c Q (mkA n l) aw :=
  ⟨fun st h1 h2 σ w F a hc=>by subst hl ha;obtain ⟨F',hc'⟩:=fz_cur hc ho;exact h.out st h1 h2 σ w F' a hc'⟩
theorem RS.fz {ops:Array Oper} {os:List Oper} {K:List AV→List Ob→Prop} {l':List (Nat × AV)} (id:Nat) {e s:Nat} {rows:List (List AV)} (ho:aw[id]?=some (.arr e s rows)) (hl:fzA id rows l=l') (ha:(aw.set id .dead).map (fzOb id rows)=aw') (h:RS P N ops os K (mkA n l') aw'):RS P N ops os K (mkA n l) aw :=
  ⟨fun st h1 h2 σ w F a hc=>by subst hl ha;obtain ⟨F',hc'⟩:=fz_cur hc ho;exact h.out st h1 h2 σ w F' a hc'⟩
theorem RA.fz {ops:Array Oper} {k:Nat} {li:Array Bool} {K:List AV→List Ob→Prop} {l':List (Nat × AV)} (id:Nat) {e s:Nat} {rows:List (List AV)} (ho:aw[id]?=some (.arr e s rows)) (hl:fzA id rows l=l') (ha:(aw.set id .dead).map (fzOb id rows)=aw') (h:RA P N ops k li K (mkA n l') aw'):RA P N ops k li K (mkA n l) aw :=
  ⟨fun st h1 h2 σ w F a hc=>by subst hl ha;obtain ⟨F',hc'⟩:=fz_cur hc ho;exact h.out st h1 h2 σ w F' a hc'⟩
theorem RO.fz {ops:Array Oper} {i:Nat} {K:List AV→List Ob→Prop} {l':List (Nat × AV)} (id:Nat) {e s:Nat} {rows:List (List AV)} (ho:aw[id]?=some (.arr e s rows)) (hl:fzA id rows l=l') (ha:(aw.set id .dead).map (fzOb id rows)=aw') (h:RO P N ops i K (mkA n l') aw'):RO P N ops i K (mkA n l) aw :=
  ⟨fun st h1 h2 σ w F a hc=>by subst hl ha;obtain ⟨F',hc'⟩:=fz_cur hc ho;exact h.out st h1 h2 σ w F' a hc'⟩
theorem ret_norm {M:Nat} {Q:AV→List Ob→Prop} {vs:List AV} {v:AV} {aw1:List Ob} (r:AV) (ρ:List Nat) (hr:normR aw (retAV vs)=(v,aw1)) (h1:ρ.Nodup) (h2:∀ k,k<M→ρ[k]?=some k) (hren:Ren ρ r v) (hw:RenW ρ aw1 ρ aw') (hQ:Q r aw'):Ret M Q aw vs :=
  ⟨[],true,r,aw',by
    simp only [nilify,if_true]
    rw [hr];exact ⟨ρ,h1,h2,hren,hw⟩,hQ⟩
end
end Go.Proofs.YtfbmoockopakjaaGreat
namespace Go.Proofs.YtfbmoockopakjaaGreat
def kix {κ:Type} [DecidableEq κ] (k:κ):List κ→Option Nat
  | []=>none
  | k'::r=>if k=k' then some 0 else (kix k r).map (· + 1)
def mget {κ ν:Type} [DecidableEq κ] (k:κ):List (κ × ν)→Option ν
  | []=>none
  | p::r=>if k=p.1 then some p.2 else mget k r
def mset {κ ν:Type} [DecidableEq κ] (k:κ) (v:ν):List (κ × ν)→List (κ × ν)
  | []=>[(k,v)]
  | p::r=>if k=p.1 then (k,v)::r else p::mset k v r
def cpy {α:Type} (xs:List α) (lo n:Nat) (ys:List α):List α:=xs.take lo++ys.take n++xs.drop (lo+min n ys.length)
def vwok (len:Nat) (i j:Int):Option Unit:=if 0≤i∧i≤j∧j≤len then some () else none
def clr {α:Type} (xs:List α) (lo n:Nat) (z:α):List α:=xs.take lo++List.replicate n z++xs.drop (lo+n)
noncomputable def allC {α:Type} (n:Nat) (f:Nat→Option α):Option α :=
  open Classical in if h:∃ r,∀ C,n≤C→f C=some r then some (Classical.choose h) else none
theorem allC_some {α:Type} {n:Nat} {f:Nat→Option α} {r:α} (h:allC n f=some r):∀ C,n≤C→f C=some r:=by
  unfold allC at h
  split at h
  · rename_i hx
    cases h
    exact Classical.choose_spec hx
  · cases h
theorem allC_of {α:Type} {n:Nat} {f:Nat→Option α} {r:α} (h:∀ C,n≤C→f C=some r):allC n f=some r:=by
  have hx:∃ r,∀ C,n≤C→f C=some r:=⟨r,h⟩
  have h1:=Classical.choose_spec hx n (Nat.le_refl _)
  rw [h n (Nat.le_refl _)] at h1
  unfold allC
  rw [dif_pos hx]
  exact h1.symm
def roomx (len C:Nat) (j:Int):Option Nat:=if 0<len∧(len:Int)≤j∧j≤C then some (j.toNat - len) else none
def cpyU {α:Type} (xs:List α) (x lo m lo2 m2:Nat):Option (List α):=if 0<m∧m≤m2∧lo≤xs.length∧lo+m=xs.length+x∧lo2+m=xs.length then some (xs.take lo++xs.drop lo2) else none
def growz {α:Type} (xs:List α) (n K:Nat) (m:Int) (z:α):Option (List α):=if n≤xs.length∧(K:Int)<n+m∧0<m∧n+m.toNat≤1099511627776 then some (xs.take n++List.replicate m.toNat z) else none
def ovok {α:Type} (ys:List α) (m:Nat):Option Unit:=if 0<ys.length∧0<m then some () else none
end Go.Proofs.YtfbmoockopakjaaGreat
namespace Go.Proofs.YtfbmoockopakjaaGreat
open Go.RowKit Go.Lib
set_option linter.unusedVariables false
set_option linter.unusedSimpArgs false
section
variable {P:Program} {N n:Nat} {aw aw':List Ob} {l:List (Nat × AV)}
theorem OP.of_ok {o:Oper} {fr:List AV} {K:AV→List Ob→Prop} (h:∀ σ w F a,ARel σ w F fr a→Sim aw σ w F→OpOk P aw σ w F (execOp a.eval o) K):OP P N o fr aw K :=
  ⟨fun st h1 h2 σ w F a hc Kc Q hk=>by
    obtain ⟨v,n,w',aw',σ',F',r,hrun,hn,hs,hm,hr,hK⟩:=h σ w F a hc.fr hc.sim
    unfold Oper.wp
    rw [hrun]
    rcases hn with rfl | ⟨rfl,rfl⟩
    · exact hk r aw' σ' w' F' v hK (hc.step hs hm) hr
    · exact hk r aw' σ' w' F' undef hK (hc.step hs hm) hr⟩
theorem app_zeros {σ:List Value} {w:World} {F:Nat→Prop} {t tn ty e:TypeId} {z:List AV} {kn kq:IntKind} (hu:P.underlying t=some (.slice e)) (htn:P.underlying tn=some (.int kn)) (hz:Q3a P e=some z) (hzl:z.length=P.cellsOf e) (h0:0<P.cellsOf e) (hby:P.bytesOf e≤128)
    {n m:Nat} {v:Value} {flat:List Value} (hown:w.ownsRow 0 e (P.cellsOf e) v n flat) (hm:0<m) (hlen:n+m≤1099511627776) :
    ∃ v' w' news,(Builtin.append_ #[t,tn] ty #[v,.int kq m]).run P w=.ok v' w'∧w'.ownsRow 0 e (P.cellsOf e) v' (n+m) (flat++news)∧w.grownBy w' v.ownBlock ∧
      (v'.ownBlock=v.ownBlock∨v'.ownBlock=some w.heap.size)∧RelL σ w F (List.replicate m z).flatten news∧(∀ u,u∈news→u.oneCell'=true)∧(∀ A q cp,v=.slice A q cp→cp<n+m→v'.ownBlock=some w.heap.size∧w.grownBy w' none):=by
  obtain ⟨i,zv,hi,hiz,hvl,hv1,hvr⟩:=zero_some hz
  have hsz:i.size=P.cellsOf e:=by simp [Program.cellsOf,hi]
  have hbb:i.bytes=P.bytesOf e:=by simp [Program.bytesOf,hi]
  rw [← hsz] at hown h0 hzl ⊢
  rw [← hbb] at hby
  have hzs:zv.cells.size=i.size:=by rw [← hzl];simpa using hvl
  have hinit:=init_rel (hvr σ w F) (by omega) m
  have hone:=one_made hv1 (by omega) (m*zv.cells.size)
  have hbytes:(n+m)*i.bytes≤140737488355328:=by
    have:(n+m)*i.bytes≤1099511627776*128:=Nat.mul_le_mul hlen hby
    omega
  have h63:n+m≤maxLen:=by simp only [maxLen];omega
  have hnl:(Builtin.zeroCells zv.cells m).toList.length=m*i.size:=by rw [Array.length_toList,size_zeroCells,hzs]
  have hfl:(flat++(Builtin.zeroCells zv.cells m).toList).length=(n+m)*i.size:=by rw [List.length_append,hown.1,hnl,Nat.add_mul]
  have hrel:RelL σ w F (List.replicate m z).flatten (Builtin.zeroCells zv.cells m).toList:=by
    have e1:m*z.length=m*zv.cells.size:=by rw [hzl,hzs]
    rw [e1] at hinit
    exact hinit
  have grown:∀ (old:Nat),old<n+m→∀ (row:Option Nat),
      (w.drew.alloc (.cells (flat.toArray++Builtin.zeroCells zv.cells m++Builtin.zeroCells zv.cells (grownCap w (n+m) old e - (n+m))) e)).ownsRow 0 e i.size
        (.slice (some ⟨w.heap.size,0,none⟩) (n+m) (grownCap w (n+m) old e)) (n+m) (flat++(Builtin.zeroCells zv.cells m).toList) ∧
      w.grownBy (w.drew.alloc (.cells (flat.toArray++Builtin.zeroCells zv.cells m++Builtin.zeroCells zv.cells (grownCap w (n+m) old e - (n+m))) e)) row:=by
    intro old ho row
    have hge:=grownCap_ge w (n+m) old e
    have hcm:grownCap w (n+m) old e≤maxLen:=grownCap_le_maxLen w (n+m) old e h63
    refine ⟨⟨hfl,.inr ⟨w.heap.size,_,_,rfl,Nat.zero_le _,heap_alloc_new w.drew _,hge,hcm,?_,?_⟩⟩,⟨rfl,rfl,rfl,by simp,fun k hk _=>Below.heap_alloc w.drew _ k hk⟩⟩
    · simp only [Array.size_append,List.size_toArray,size_zeroCells,hzs,hown.1,← Nat.add_mul]
      congr 1
      omega
    · simp only [Array.toList_append]
      rw [← hfl]
      exact List.take_left
  rcases hown.2 with ⟨rfl,rfl⟩ | ⟨g,cap,cur,rfl,hbg,hg,hnc,hcm,hcs,htake⟩
  · have hx:flat=[]:=List.eq_nil_of_length_eq_zero (by simpa using hown.1)
    subst hx
    have hr:=run_append_nil_zeros (P:=P) w t tn ty e i zv kq kn hu htn hi hiz m hm h0 (by omega) (by
      have:m*i.bytes≤140737488355328:=by simpa using hbytes
      omega)
    have hgr:=grown 0 (by omega) none
    simp only [Nat.zero_add,List.nil_append,Array.empty_append] at hgr ⊢
    exact ⟨_,_,_,hr,hgr.1,hgr.2,.inr rfl,hrel,hone,fun _ _ _ _ _=>⟨rfl,hgr.2⟩⟩
  · by_cases hroom:n+m≤cap
    · have hfit:n*i.size+(Builtin.zeroCells zv.cells m).toList.length≤cur.size:=by rw [hnl,hcs,← Nat.add_mul];exact Nat.mul_le_mul_right _ hroom
      have hst:=run_storeCells_at P g (n*i.size) e (Builtin.zeroCells zv.cells m).toList 0 cur w hg (by simpa using hfit) hone
      simp only [Nat.add_zero] at hst
      have hw:IntKind.i64.wrap (m:Int)=m:=by rw [IntKind.wrap_i64];omega
      have hneg:¬ ((m:Int)<0):=by omega
      have hns:¬ (m*i.size=0):=Nat.mul_ne_zero (by omega) (by omega)
      have h48i:¬ (281474976710656<(m:Int)*(i.bytes:Int)):=by
        rw [← Int.natCast_mul]
        have:m*i.bytes≤(n+m)*i.bytes:=Nat.mul_le_mul_right _ (by omega)
        omega
      have hr:(Builtin.append_ #[t,tn] ty #[.slice (some ⟨g,0,none⟩) n cap,.int kq m]).run P w=.ok (.slice (some ⟨g,0,none⟩) (n+m) cap)
          (w.setRow g (cur.toList.take (n*i.size)++(Builtin.zeroCells zv.cells m).toList++cur.toList.drop (n*i.size+(Builtin.zeroCells zv.cells m).toList.length)).toArray):=by
        simp [Builtin.append_,run_underlying hu,run_underlying htn,sizeOf,typeInfo,zeroValue,hi,hiz,asInt,asIntOf,hw,hneg,hns,h48i,hroom,Addr.add_lit,hst]
      refine ⟨_,_,_,hr,⟨hfl,.inr ⟨g,cap,_,rfl,hbg,setRow_heap w g cur _ e _ hg,hroom,hcm,?_,?_⟩⟩,⟨rfl,rfl,rfl,by simp,fun k _ hk=>setRow_other w g k _ (fun e=>hk (by simp [Value.ownBlock,e]))⟩,.inl rfl,hrel,hone,fun A q cp e h=>by cases e;omega⟩
      · simp only [List.size_toArray,List.length_append,List.length_take,List.length_drop,Array.length_toList]
        simp only [Array.length_toList] at hfit
        omega
      · rw [htake,← hfl]
        exact List.take_left
    · have holds:∀ j u,flat[j]?=some u→w.drew.cell? ((⟨g,0,none⟩:Addr).add j)=some u:=hown.cells (g:=g) rfl
      have hold:=run_firstCells_some (P:=P) w.drew i.size n ⟨g,0,none⟩ n cap flat hown.1 holds
      have hr:=run_append_grow_zeros (P:=P) w t tn ty e i zv kq kn hu htn hi hiz (some ⟨g,0,none⟩) n cap flat hold m hm h0 (by omega) (by omega) (by
        have:m*i.bytes≤(n+m)*i.bytes:=Nat.mul_le_mul_right _ (by omega)
        omega) (growslice_fits (by omega) hbytes)
      have hgr:=grown cap (by omega) (Value.ownBlock (.slice (some ⟨g,0,none⟩) n cap))
      exact ⟨_,_,_,hr,hgr.1,hgr.2,.inr rfl,hrel,hone,fun _ _ _ _ _=>⟨rfl,(grown cap (by omega) none).2⟩⟩
end
end Go.Proofs.YtfbmoockopakjaaGreat
namespace Go.Proofs.YtfbmoockopakjaaGreat
open Go.RowKit
set_option linter.unusedVariables false
set_option linter.unusedSimpArgs false
theorem kix_get {κ:Type} [DecidableEq κ] {k:κ}:∀ {ks:List κ} {i:Nat},kix k ks=some i→ks[i]?=some k
  | [],i,h=>by cases h
  | k'::r,i,h=>by
    unfold kix at h
    split at h
    · rename_i e;cases h;rw [e];rfl
    · rw [Option.map_eq_some_iff] at h
      obtain ⟨j,hj,rfl⟩:=h
      simpa using kix_get hj
theorem mget_kix {κ ν:Type} [DecidableEq κ] {k:κ}:∀ (xs:List (κ × ν)),mget k xs=(kix k (xs.map (·.1))).bind fun i=>(xs.map (·.2))[i]?
  | []=>rfl
  | p :: r=>by
    simp only [mget,List.map_cons,kix]
    split
    · rfl
    · rw [mget_kix r]
      cases kix k (r.map (·.1))<;>simp
theorem mset_some {κ ν:Type} [DecidableEq κ] {k:κ} {v:ν}:∀ {xs:List (κ × ν)} {i:Nat},kix k (xs.map (·.1))=some i→(mset k v xs).map (·.1)=xs.map (·.1)∧(mset k v xs).map (·.2)=(xs.map (·.2)).set i v
  | [],i,h=>by cases h
  | p :: r,i,h=>by
    simp only [List.map_cons,kix] at h
    simp only [mset]
    split at h
    · rename_i e;cases h;rw [if_pos e];simp [e]
    · rename_i e
      rw [if_neg e]
      rw [Option.map_eq_some_iff] at h
      obtain ⟨j,hj,rfl⟩:=h
      obtain ⟨h1,h2⟩:=mset_some (v:=v) hj
      simp [h1,h2]
theorem mset_none {κ ν:Type} [DecidableEq κ] {k:κ} {v:ν}:∀ {xs:List (κ × ν)},kix k (xs.map (·.1))=none→mset k v xs=xs++[(k,v)]
  | [],h=>rfl
  | p :: r,h=>by
    simp only [List.map_cons,kix] at h
    simp only [mset]
    split at h
    · cases h
    · rename_i e
      rw [if_neg e]
      rw [Option.map_eq_none_iff] at h
      rw [mset_none h];rfl
structure KeyT (P:Program) (kt:TypeId) {κ:Type} [DecidableEq κ] (ek:κ→AV):Prop where
  out:∃ d,P.underlying kt=some d∧(∀ (b:Bool) (k:κ) σ w F v,Rel σ w F (ek k) v→∀ w',(Instr.checkKey b 10000 kt v).run P w'=.ok () w') ∧
    (∀ (k k':κ) σ w F v v',Rel σ w F (ek k) v→Rel σ w F (ek k') v'→Instr.sameNow d v v'=some (decide (k=k'))∧(k=k'→Instr.sameBits 10000 v' v=true∧v'=v))
theorem chk_int {P:Program} {kt:TypeId} {q k:IntKind} (hu:P.underlying kt=some (.int q)) (b:Bool) (m:Nat) (x:Int) (w:World):(Instr.checkKey b (m+1) kt (.int k x)).run P w=.ok () w:=by
  simp [Instr.checkKey,run_underlying hu,Sem.run_bind]
theorem chk_str {P:Program} {kt:TypeId} (hu:P.underlying kt=some .string) (b:Bool) (m:Nat) (x:ByteArray) (w:World):(Instr.checkKey b (m+1) kt (.string x)).run P w=.ok () w:=by
  simp [Instr.checkKey,run_underlying hu,Sem.run_bind]
theorem bytes_beq (x y:List UInt8):(ByteArray.mk x.toArray==ByteArray.mk y.toArray)=decide (x=y):=by
  show (x.toArray==y.toArray)=decide (x=y)
  by_cases e:x=y
  · subst e;simp
  · simp [e]
theorem bits_int (m:Nat) (k:IntKind) (a:Int):Instr.sameBits m (.int k a) (.int k a)=true:=by cases m<;>simp [Instr.sameBits]
theorem bits_str (m:Nat) (a:List UInt8):Instr.sameBits m (.string ⟨a.toArray⟩) (.string ⟨a.toArray⟩)=true:=by cases m<;>simp [Instr.sameBits,bytes_beq]
theorem KeyT.int {P:Program} {kt:TypeId} {q:IntKind} (hu:P.underlying kt=some (.int q)):KeyT P kt (fun n:Int=>.int .i64 n):=by
  refine ⟨_,hu,fun b k σ w F v h w'=>?_,fun k k' σ w F v v' h h'=>?_⟩
  · cases h
    exact chk_int hu b 9999 k w'
  · cases h;cases h'
    refine ⟨by simp [Instr.sameNow];exact Bool.beq_eq_decide_eq k k',fun e=>?_⟩
    subst e
    exact ⟨bits_int _ _ _,rfl⟩
theorem KeyT.str {P:Program} {kt:TypeId} (hu:P.underlying kt=some .string):KeyT P kt (fun s:List UInt8=>.str s):=by
  refine ⟨_,hu,fun b k σ w F v h w'=>?_,fun k k' σ w F v v' h h'=>?_⟩
  · cases h
    exact chk_str hu b 9999 _ w'
  · cases h;cases h'
    refine ⟨by simp only [Instr.sameNow,bytes_beq],fun e=>?_⟩
    subst e
    exact ⟨bits_str _ _,rfl⟩
section
variable {P:Program} {N n:Nat} {aw aw':List Ob} {l:List (Nat × AV)} {σ:List Value} {w:World} {F:Nat→Prop}
def wput (w:World) (r:Nat) (o:Obj):World:={ w with heap:=w.heap.setIfInBounds r o }
theorem wput_same {w:World} {r:Nat} {o:Obj} (h:r<w.heap.size):(wput w r o).heap[r]?=some o:=by simp [wput,h]
theorem wput_other {w:World} {r k:Nat} {o:Obj} (h:k≠r):(wput w r o).heap[k]?=w.heap[k]?:=by simp [wput,Array.getElem?_setIfInBounds_ne (Ne.symm h)]
theorem wput_size {w:World} {r:Nat} {o:Obj}:(wput w r o).heap.size=w.heap.size:=by simp [wput]
theorem go_getMap {w:World} {r:Nat} {es:Array MapEntry} {clock:Nat} (hb:w.heap[r]?=some (.map es clock)):(getObj r).run P w=.ok (.map es clock) w:=by simp [getObj,Sem.run,hb]
theorem go_setMap {w:World} {r:Nat} {es:Array MapEntry} {clock:Nat} (o:Obj) (hb:w.heap[r]?=some (.map es clock)):(setObj r o).run P w=.ok () (wput w r o):=by simp [setObj,Sem.run,hb,wput]
theorem findNow_ok {κ:Type} [DecidableEq κ] {d:TypeDesc} {k:κ} {v:Value}:∀ (es:List MapEntry) (ks:List κ) (i0:Nat),es.length=ks.length →
    (∀ (j:Nat) k' e,ks[j]?=some k'→es[j]?=some e→Instr.sameNow d v e.key=some (decide (k=k'))) →
    Instr.findNow d v es i0=some ((kix k ks).bind fun i=>(es[i]?).map fun e=>(i0+i,e.val))
  | [],[],i0,_,_=>rfl
  | e :: es,k'::ks,i0,hl,h=>by
    have h0:=h 0 k' e rfl rfl
    simp only [Instr.findNow,h0,kix]
    by_cases hk:k=k'
    · simp [hk]
    · simp only [hk,decide_false,if_false]
      rw [findNow_ok es ks (i0+1) (by simpa using hl) (fun j k2 e2 h1 h2=>h (j+1) k2 e2 (by simpa using h1) (by simpa using h2))]
      cases kix k ks with
      | none=>rfl
      | some i=>simp [Nat.add_comm,Nat.add_left_comm,Nat.add_assoc]
  | [],_::_,_,hl,_=>by simp at hl
  | _::_,[],_,hl,_=>by simp at hl
theorem findKey_ok {κ:Type} [DecidableEq κ] {ek:κ→AV} {kt:TypeId} (hK:KeyT P kt ek) {k:κ} {ks:List κ} {es:Array MapEntry} {v:Value} (hr:RelL σ w F (ks.map ek) (es.toList.map (·.key))) (hv:Rel σ w F (ek k) v) (w':World) :
    (Instr.findKey kt v es.toList).run P w'=.ok ((kix k ks).bind fun i=>(es[i]?).map fun e=>(i,e.val)) w':=by
  obtain ⟨d,hu,hc,hs⟩:=hK.out
  have hl:es.toList.length=ks.length:=by simpa using hr.1
  have h:=findNow_ok (d:=d) (k:=k) (v:=v) es.toList ks 0 hl (fun j k' e h1 h2=>by
    refine (hs k k' σ w F v e.key hv (hr.2 j _ _ (by rw [List.getElem?_map,h1];rfl) (by rw [List.getElem?_map,h2];rfl))).1)
  simp only [Instr.findKey,Sem.run_bind,run_underlying hu,Result.andThen_ok,h,Sem.run_pure]
  congr 1
  cases kix k ks with
  | none=>rfl
  | some i=>simp
theorem val_at {vs:List AV} {es:Array MapEntry} (hv:RelL σ w F vs (es.toList.map (·.val))) {i:Nat} {a:AV} (h:vs[i]?=some a):∃ e,es[i]?=some e∧Rel σ w F a e.val:=by
  obtain ⟨u,hu,hr⟩:=hv.get h
  rw [List.getElem?_map,Option.map_eq_some_iff] at hu
  obtain ⟨e,he,rfl⟩:=hu
  exact ⟨e,by simpa using he,hr⟩
theorem mp_form {id:Nat} {ks vs:List AV} (hs:Sim aw σ w F) (ho:aw[id]?=some (.mp ks vs)) {r:Option Nat} (hσ:σ[id]?=some (.map r)) :
    ∃ g es clock,r=some g∧w.heap[g]?=some (.map es clock)∧RelL σ w F ks (es.toList.map (·.key))∧RelL σ w F vs (es.toList.map (·.val))∧¬ F g:=by
  obtain ⟨g,es,clock,e1,h1,h2,h3,h4⟩:=hs.obj id _ _ ho hσ
  injection e1 with e1
  exact ⟨g,es,clock,e1,h1,h2,h3,h4⟩
variable {d:Option Tmp} {ty:TypeId} {ps:String} {af:Array Edge} {g:Option (Nat × Bool)} {K2:AV→List Ob→Prop}
theorem o_makeMap {t:TypeId} {k:Nat} (hk:aw.length=k) (ha:aw++[.mp [] []]=aw') (h:K2 (.mpr k) aw'):OP P N ⟨d,.makeMap t none,ty,ps,af,g⟩ (mkA n l) aw K2 :=
  OP.of_ok (fun σ w F a har hs=>by
    subst hk ha
    have hk:∀ b,b<w.heap.size→(w.alloc (.map #[] 0)).heap[b]?=w.heap[b]?:=fun b hb=>Below.heap_alloc w _ b hb
    have hn:∀ b,Bk (.mp [] []) (.map (some w.heap.size)) b→w.heap.size≤b:=fun b hb=>by simp [Bk,blk] at hb;omega
    refine ⟨.map (some w.heap.size),_,w.alloc (.map #[] 0),_,σ++[.map (some w.heap.size)],F,_,?_,.inl rfl,hs.push (.mp [] []) _ hk (by simp) ⟨w.heap.size,#[],0,rfl,heap_alloc_new w _,.nil,.nil,fun hF=>?_⟩ hn,
      .push hs (.mp [] []) _ rfl rfl rfl hk (by simp) hn,.mpr _ (some w.heap.size) (by rw [← hs.len];simp),h⟩
    · simp [execOp,Instr.makeMap,Sem.run_bind]
    · have:=hs.lt _ hF;omega)
def pickA (vs:List AV) (az:AV):Option Nat→Option AV
  | some i=>vs[i]?
  | none=>some az
theorem o_lookup_av {κ:Type} [DecidableEq κ] {ek:κ→AV} {ks:List κ} {vs:List AV} {t kt et:TypeId} {x y:Operand} {id:Nat} {k:κ} {b:Bool} {z:Value} {az a:AV}
    (hm:P.underlying t=some (.map kt et)) (hK:KeyT P kt ek) (hz:(P.info? et).bind (·.zero)=some z) (hza:∀ σ w F,Rel σ w F az z) (hx:evA n l x=.mpr id) (hy:evA n l y=ek k) (ho:aw[id]?=some (.mp (ks.map ek) vs))
    (hr:pickA vs az (kix k ks)=some a)
    (h:K2 (if b=true then .tup [a,.bool (kix k ks).isSome] else a) aw):OP P N ⟨d,.lookup t x y b,ty,ps,af,g⟩ (mkA n l) aw K2 :=
  OP.of_ok (fun σ w F ac har hs=>by
    have ex:=har.ev x
    have ey:=har.ev y
    rw [Q1a,hx] at ex
    rw [Q1a,hy] at ey
    generalize hvx:ac.eval x=vx at ex
    generalize hvy:ac.eval y=vy at ey
    cases ex with
    | mpr _ r hσ =>
      obtain ⟨g0,es,clock,rfl,hg,hks,hvs,hF⟩:=mp_form hs ho hσ
      obtain ⟨dd,hu,hc,_⟩:=hK.out
      have hf:=findKey_ok hK hks ey w
      have hzr:(zeroValue et).run P w=.ok z w:=by
        rw [Option.bind_eq_some_iff] at hz
        obtain ⟨i,hi,hzi⟩:=hz
        exact run_zeroValue' hi hzi w
      have hchk:=hc es.isEmpty k σ w F vy ey w
      cases hkx:kix k ks with
      | none =>
        rw [hkx] at hf hr h
        change some az=some a at hr
        cases hr
        have hrun:(Instr.lookup t (.map (some g0)) vy b).run P w=.ok (if b=true then .tuple #[z,.bool false] else z) w:=by
          simp only [Instr.lookup,Sem.run_bind,run_underlying hm,Result.andThen_ok,go_getMap hg,Sem.run_pure,hchk,hf,Option.bind_none,hzr]
        refine ⟨if b=true then .tuple #[z,.bool false] else z,_,w,aw,σ,F,_,?_,.inl rfl,hs,.refl ..,?_,h⟩
        · simp only [execOp,hvx,hvy,Sem.run_bind,hrun,Result.andThen_ok,Sem.run_pure]
        · cases b with
          | true=>exact .tup [az,.bool false] [z,.bool false] rfl (fun j c u hc hu=>by
              match j with
              | 0=>simp at hc hu;subst hc hu;exact hza σ w F
              | 1=>simp at hc hu;subst hc hu;exact .bool _
              | j+2=>simp at hc)
          | false=>exact hza σ w F
      | some i =>
        rw [hkx] at hf hr h
        change vs[i]?=some a at hr
        obtain ⟨e,he,hrel⟩:=val_at hvs hr
        have hf':(Instr.findKey kt vy es.toList).run P w=.ok (some (i,e.val)) w:=by rw [hf];simp [he]
        have hrun:(Instr.lookup t (.map (some g0)) vy b).run P w=.ok (if b=true then .tuple #[e.val,.bool true] else e.val) w:=by
          simp only [Instr.lookup,Sem.run_bind,run_underlying hm,Result.andThen_ok,go_getMap hg,Sem.run_pure,hchk,hf']
        refine ⟨if b=true then .tuple #[e.val,.bool true] else e.val,_,w,aw,σ,F,_,?_,.inl rfl,hs,.refl ..,?_,h⟩
        · simp only [execOp,hvx,hvy,Sem.run_bind,hrun,Result.andThen_ok,Sem.run_pure]
        · cases b with
          | true=>exact .tup [a,.bool true] [e.val,.bool true] rfl (fun j c u hc hu=>by
              match j with
              | 0=>simp at hc hu;subst hc hu;exact hrel
              | 1=>simp at hc hu;subst hc hu;exact .bool _
              | j+2=>simp at hc)
          | false=>exact hrel)
theorem push_key {es:Array MapEntry} {ks:List AV} {e:MapEntry} {a:AV} (h:RelL σ w F ks (es.toList.map (·.key))) (hr:Rel σ w F a e.key):RelL σ w F (ks++[a]) ((es.push e).toList.map (·.key)):=by
  have:(es.push e).toList.map (·.key)=es.toList.map (·.key)++[e.key]:=by simp
  rw [this];exact h.append (.cons hr .nil)
theorem push_val {es:Array MapEntry} {ks:List AV} {e:MapEntry} {a:AV} (h:RelL σ w F ks (es.toList.map (·.val))) (hr:Rel σ w F a e.val):RelL σ w F (ks++[a]) ((es.push e).toList.map (·.val)):=by
  have:(es.push e).toList.map (·.val)=es.toList.map (·.val)++[e.val]:=by simp
  rw [this];exact h.append (.cons hr .nil)
theorem mp_write {id g0 clock c2:Nat} {es es':Array MapEntry} {ks vs ks' vs':List AV} (hs:Sim aw σ w F) (ho:aw[id]?=some (.mp ks vs)) (hσ:σ[id]?=some (.map (some g0))) (hg:w.heap[g0]?=some (.map es clock)) (hF:¬ F g0)
    (hk:RelL σ w F ks' (es'.toList.map (·.key))) (hv:RelL σ w F vs' (es'.toList.map (·.val))) :
    Sim (aw.set id (.mp ks' vs')) σ (wput w g0 (.map es' c2)) F∧Mv aw σ w F (aw.set id (.mp ks' vs')) σ (wput w g0 (.map es' c2)) F:=by
  have hlt:g0<w.heap.size:=(Array.getElem?_eq_some_iff.1 hg).1
  have hoth:∀ b,b≠g0→(wput w g0 (.map es' c2)).heap[b]?=w.heap[b]?:=fun b hb=>wput_other hb
  have hFw:∀ b,F b→(wput w g0 (.map es' c2)).heap[b]?=w.heap[b]?:=fun b hb=>hoth b (fun e=>hF (e▸hb))
  refine ⟨hs.write (b0:=g0) id ho rfl hσ rfl hoth wput_size (.mp ks' vs') ⟨g0,es',c2,rfl,wput_same hlt,hk.mono (fun _ _ e=>e) (fun _ e=>e) hFw,hv.mono (fun _ _ e=>e) (fun _ e=>e) hFw,hF⟩ (fun _ h=>h),
    Mv.write (w:=w) (w':=wput w g0 (.map es' c2)) (F:=F) (b0:=g0) id ho rfl hσ rfl rfl rfl rfl hoth wput_size (.mp ks' vs') (fun _ h=>h)⟩
theorem modify_key {es:Array MapEntry} {i:Nat} {e:MapEntry} (he:es[i]?=some e) (k v:Value) (hk:e.key=k):(es.modify i fun e=>{ e with key:=k,val:=v }).toList.map (·.key)=es.toList.map (·.key):=by
  apply List.ext_getElem?
  intro j
  rw [List.getElem?_map,List.getElem?_map,Array.getElem?_toList,Array.getElem?_toList,Array.getElem?_modify]
  by_cases h:i=j
  · subst h;simp [he,hk]
  · simp [h]
theorem modify_val {es:Array MapEntry} {i:Nat} {e:MapEntry} (he:es[i]?=some e) (k v:Value):(es.modify i fun e=>{ e with key:=k,val:=v }).toList.map (·.val)=(es.toList.map (·.val)).set i v:=by
  apply List.ext_getElem?
  intro j
  rw [List.getElem?_map,Array.getElem?_toList,Array.getElem?_modify,List.getElem?_set]
  by_cases h:i=j
  · subst h
    have hlt:i<es.size:=(Array.getElem?_eq_some_iff.1 he).1
    simp [he,hlt]
  · simp [h]
theorem mapUpdate_av {κ:Type} [DecidableEq κ] {ek:κ→AV} {ks:List κ} {vs:List AV} {t kt et:TypeId} {id:Nat} {k:κ} {a:AV} {r:Option Nat} {vy vz:Value}
    (hm:P.underlying t=some (.map kt et)) (hK:KeyT P kt ek) (hs:Sim aw σ w F) (ho:aw[id]?=some (.mp (ks.map ek) vs)) (hσ:σ[id]?=some (.map r)) (hy:Rel σ w F (ek k) vy) (hz:Rel σ w F a vz) :
    ∃ w',(Instr.mapUpdate t (.map r) vy vz).run P w=.ok () w' ∧
      (match kix k ks with
        | some i=>Sim (aw.set id (.mp (ks.map ek) (vs.set i a))) σ w' F∧Mv aw σ w F (aw.set id (.mp (ks.map ek) (vs.set i a))) σ w' F
        | none=>Sim (aw.set id (.mp ((ks++[k]).map ek) (vs++[a]))) σ w' F∧Mv aw σ w F (aw.set id (.mp ((ks++[k]).map ek) (vs++[a]))) σ w' F):=by
  obtain ⟨g0,es,clock,rfl,hg,hks,hvs,hF⟩:=mp_form hs ho hσ
  obtain ⟨dd,hu,hc,hsame⟩:=hK.out
  have hf:=findKey_ok hK hks hy w
  have hchk:=hc false k σ w F vy hy w
  have hput:∀ o:Obj,(setObj g0 o).run P w=.ok () (wput w g0 o):=fun o=>go_setMap o hg
  cases hkx:kix k ks with
  | none =>
    rw [hkx] at hf
    obtain ⟨h1,h2⟩:=mp_write (c2:=clock+1) hs ho hσ hg hF (push_key (e:={ key:=vy,val:=vz,born:=clock }) hks hy) (push_val (e:={ key:=vy,val:=vz,born:=clock }) hvs hz)
    refine ⟨wput w g0 (.map (es.push { key:=vy,val:=vz,born:=clock }) (clock+1)),?_,by simpa using h1,by simpa using h2⟩
    simp only [Instr.mapUpdate,Sem.run_bind,run_underlying hm,Result.andThen_ok,go_getMap hg,hchk,hf,Option.bind_none,hput]
  | some i =>
    rw [hkx] at hf
    have hik:=kix_get hkx
    have hiv:i<vs.length:=by
      have e1:=hks.1
      have e2:=hvs.1
      have:=(List.getElem?_eq_some_iff.1 hik).1
      simp at e1 e2;omega
    obtain ⟨e,he,_⟩:=val_at hvs (List.getElem?_eq_getElem hiv)
    have hrk:Rel σ w F (ek k) e.key:=hks.2 i _ _ (by rw [List.getElem?_map,hik];rfl) (by rw [List.getElem?_map,Array.getElem?_toList,he];rfl)
    obtain ⟨hb,hkeq⟩:=(hsame k k σ w F vy e.key hy hrk).2 rfl
    have hf':(Instr.findKey kt vy es.toList).run P w=.ok (some (i,e.val)) w:=by rw [hf];simp [he]
    have hstay:(Instr.keyThatStays e.key vy).run P w=.ok vy w:=by
      simp [Instr.keyThatStays,hb]
    obtain ⟨h1,h2⟩:=mp_write (es':=es.modify i fun e=>{ e with key:=vy,val:=vz }) (c2:=clock) (ks':=ks.map ek) (vs':=vs.set i a) hs ho hσ hg hF (by rw [modify_key he vy vz hkeq];exact hks) (by rw [modify_val he vy vz];exact hvs.set i hz)
    refine ⟨wput w g0 (.map (es.modify i fun e=>{ e with key:=vy,val:=vz }) clock),?_,h1,h2⟩
    simp only [Instr.mapUpdate,Sem.run_bind,run_underlying hm,Result.andThen_ok,go_getMap hg,hchk,hf',he,Option.map_some,Option.getD_some,hstay,hput]
theorem Qeb {κ:Type} [DecidableEq κ] {ek:κ→AV} {ks:List κ} {vs:List AV} {t kt et:TypeId} {op:Op} {x y z:Operand} {id:Nat} {k:κ} {a:AV} {o2:Ob}
    (hop:op=.mapUpdate t x y z∨op=.insert t x y z) (hm:P.underlying t=some (.map kt et)) (hK:KeyT P kt ek) (hx:evA n l x=.mpr id) (hy:evA n l y=ek k) (hz:evA n l z=a) (ho:aw[id]?=some (.mp (ks.map ek) vs))
    (hr:(match kix k ks with | some i=>Ob.mp (ks.map ek) (vs.set i a) | none=>.mp ((ks++[k]).map ek) (vs++[a]))=o2) (ha:aw.set id o2=aw') (h:K2 .any aw'):OP P N ⟨d,op,ty,ps,af,g⟩ (mkA n l) aw K2 :=
  OP.of_ok (fun σ w F ac har hs=>by
    subst ha
    have ex:=har.ev x
    have ey:=har.ev y
    have ez:=har.ev z
    rw [Q1a,hx] at ex
    rw [Q1a,hy] at ey
    rw [Q1a,hz] at ez
    generalize hvx:ac.eval x=vx at ex
    cases ex with
    | mpr _ r hσ =>
      obtain ⟨w',hrun,hm'⟩:=mapUpdate_av hm hK hs ho hσ ey ez
      have hexec:(execOp ac.eval ⟨d,op,ty,ps,af,g⟩).run P w=.ok .skip w':=by
        rcases hop with rfl | rfl<;>simp only [execOp,hvx,Sem.run_bind,hrun,Result.andThen_ok,Sem.run_pure]
      cases hkx:kix k ks with
      | none =>
        rw [hkx] at hr hm'
        subst hr
        exact ⟨undef,_,w',_,σ,F,.any,hexec,.inr ⟨rfl,rfl⟩,hm'.1,hm'.2,.any _,h⟩
      | some i =>
        rw [hkx] at hr hm'
        subst hr
        exact ⟨undef,_,w',_,σ,F,.any,hexec,.inr ⟨rfl,rfl⟩,hm'.1,hm'.2,.any _,h⟩)
variable {κ ν:Type} [DecidableEq κ] {ek:κ→AV} {ev:ν→AV} {xs:List (κ × ν)}
theorem o_lookup {t kt et:TypeId} {x y:Operand} {id:Nat} {k:κ} {z:Value} {z0:ν} (hm:P.underlying t=some (.map kt et)) (hK:KeyT P kt ek) (hz:(P.info? et).bind (·.zero)=some z) (hza:∀ σ w F,Rel σ w F (ev z0) z)
    (hx:evA n l x=.mpr id) (hy:evA n l y=ek k) (ho:aw[id]?=some (.mp ((xs.map (·.1)).map ek) ((xs.map (·.2)).map ev))) (h:K2 (ev ((mget k xs).getD z0)) aw):OP P N ⟨d,.lookup t x y false,ty,ps,af,g⟩ (mkA n l) aw K2:=by
  refine o_lookup_av (az:=ev z0) (a:=ev ((mget k xs).getD z0)) hm hK hz hza hx hy ho ?_ h
  rw [mget_kix]
  cases hk:kix k (xs.map (·.1)) with
  | none=>rfl
  | some i =>
    have hi:=(List.getElem?_eq_some_iff.1 (kix_get hk)).1
    have hi2:i<xs.length:=by simpa using hi
    simp [pickA,hi2]
theorem o_lookup_ok {t kt et:TypeId} {x y:Operand} {id:Nat} {k:κ} {z:Value} {z0:ν} (hm:P.underlying t=some (.map kt et)) (hK:KeyT P kt ek) (hz:(P.info? et).bind (·.zero)=some z) (hza:∀ σ w F,Rel σ w F (ev z0) z)
    (hx:evA n l x=.mpr id) (hy:evA n l y=ek k) (ho:aw[id]?=some (.mp ((xs.map (·.1)).map ek) ((xs.map (·.2)).map ev))) (h:K2 (.tup [ev ((mget k xs).getD z0),.bool (mget k xs).isSome]) aw):OP P N ⟨d,.lookup t x y true,ty,ps,af,g⟩ (mkA n l) aw K2:=by
  have key:pickA ((xs.map (·.2)).map ev) (ev z0) (kix k (xs.map (·.1)))=some (ev ((mget k xs).getD z0))∧(kix k (xs.map (·.1))).isSome=(mget k xs).isSome:=by
    rw [mget_kix]
    cases hk:kix k (xs.map (·.1)) with
    | none=>exact ⟨rfl,rfl⟩
    | some i =>
      have hi:=(List.getElem?_eq_some_iff.1 (kix_get hk)).1
      have hi2:i<xs.length:=by simpa using hi
      simp [pickA,hi2]
  exact o_lookup_av (az:=ev z0) (a:=ev ((mget k xs).getD z0)) hm hK hz hza hx hy ho key.1 (by rw [if_pos rfl,key.2];exact h)
theorem o_mapPut {t kt et:TypeId} {op:Op} {x y z:Operand} {id:Nat} {k:κ} {a:ν} (hop:op=.mapUpdate t x y z∨op=.insert t x y z) (hm:P.underlying t=some (.map kt et)) (hK:KeyT P kt ek)
    (hx:evA n l x=.mpr id) (hy:evA n l y=ek k) (hz:evA n l z=ev a) (ho:aw[id]?=some (.mp ((xs.map (·.1)).map ek) ((xs.map (·.2)).map ev)))
    (ha:aw.set id (.mp (((mset k a xs).map (·.1)).map ek) (((mset k a xs).map (·.2)).map ev))=aw') (h:K2 .any aw'):OP P N ⟨d,op,ty,ps,af,g⟩ (mkA n l) aw K2:=by
  refine Qeb hop hm hK hx hy hz ho ?_ ha h
  cases hk:kix k (xs.map (·.1)) with
  | none=>rw [mset_none hk];simp
  | some i =>
    obtain ⟨h1,h2⟩:=mset_some (v:=a) hk
    rw [h1,h2]
    simp [List.map_set]
theorem o_len_map {x:Operand} {t kt et:TypeId} {id:Nat} {ks vs:List AV} {m:Nat} (hm:P.underlying t=some (.map kt et)) (hx:evA n l x=.mpr id) (ho:aw[id]?=some (.mp ks vs)) (hl:ks.length=m) (h:K2 (.int .i64 m) aw) :
    OP P N ⟨d,.call ⟨.builtin .len,#[x],#[t]⟩,ty,ps,af,g⟩ (mkA n l) aw K2 :=
  OP.of_ok (fun σ w F ac har hs=>by
    have ex:=har.ev x
    rw [Q1a,hx] at ex
    generalize hvx:ac.eval x=vx at ex
    cases ex with
    | mpr _ r hσ =>
      obtain ⟨g0,es,clock,rfl,hg,hks,hvs,hF⟩:=mp_form hs ho hσ
      have e1:es.size=m:=by have:=hks.1;simp at this;omega
      refine ⟨.int .i64 m,_,w,aw,σ,F,_,?_,.inl rfl,hs,.refl ..,.int _ _,h⟩
      simp [execOp,resolve,invoke,builtin,Sem.run_bind,hvx,Builtin.len_,run_underlying hm,go_getMap hg,goInt,e1])
end
section
variable {P:Program} {aw aw':List Ob} {κ ν:Type} {ek:κ→AV} {ev:ν→AV} {xs:List (κ × ν)}
theorem renL_same {ρ:List Nat}:∀ {as₀:List AV},(∀ a,a∈as₀→Pure a)→RenL ρ as₀ as₀
  | [],_=>trivial
  | a::as₀,h=>⟨ren_pure (h a (.head _)),renL_same fun b hb=>h b (.tail _ hb)⟩
theorem rw_mp {ρ ids:List Nat} {id:Nat} {ys:List (κ × ν)} (h:aw[id]?=some (.mp ((ys.map (·.1)).map ek) ((ys.map (·.2)).map ev))) (hk:∀ k,Pure (ek k)) (hv:∀ v,Pure (ev v)) (hx:xs=ys) (t:RenW ρ aw ids aw') :
    RenW ρ aw (id::ids) (.mp ((xs.map (·.1)).map ek) ((xs.map (·.2)).map ev)::aw'):=by
  subst hx
  exact ⟨⟨_,h,renL_same fun a ha=>(by obtain ⟨k,_,rfl⟩:=List.mem_map.1 ha;exact hk k),renL_same fun a ha=>(by obtain ⟨k,_,rfl⟩:=List.mem_map.1 ha;exact hv k)⟩,t⟩
theorem Jja {ρ:List Nat} {k id:Nat} (h:ρ[k]?=some id):Ren ρ (.mpr k) (.mpr id):=fun σ w F v hr σ' hσ=>by
  cases hr with
  | mpr _ r hg=>exact .mpr k r (by rw [hσ k id h];exact hg)
end
abbrev kI (n:Int):AV:=.int .i64 n
theorem rel_agg {σ:List Value} {w:World} {F:Nat→Prop} {cs:List AV} {vs:List Value} (h:RelL σ w F cs vs) (h1:vs.all (·.oneCell')=true):Rel σ w F (.agg cs) (.agg vs.toArray) :=
  .agg cs vs h.1 (fun u hu=>List.all_eq_true.1 h1 u hu) h.2
theorem kix_nil {κ:Type} [DecidableEq κ] {k:κ}:kix k ([]:List κ)=none:=rfl
theorem kix_eq {κ:Type} [DecidableEq κ] {k k':κ} {r:List κ} (h:k=k'):kix k (k'::r)=some 0:=if_pos h
theorem Vpa {κ:Type} [DecidableEq κ] {k k':κ} {r:List κ} {o:Option Nat} (h:k≠k') (h2:kix k r=o):kix k (k'::r)=o.map (· + 1):=by rw [← h2];exact if_neg h
section
variable {P:Program} {N n:Nat} {aw aw':List Ob} {l:List (Nat × AV)} {d:Option Tmp} {ty:TypeId} {ps:String} {af:Array Edge} {g:Option (Nat × Bool)} {K2:AV→List Ob→Prop}
theorem Vra {κ:Type} [DecidableEq κ] {ek:κ→AV} {ks:List κ} {vs:List AV} {t kt et:TypeId} {x y:Operand} {id:Nat} {k:κ} {z:Value} {az a:AV} {r:Option Nat}
    (hm:P.underlying t=some (.map kt et)) (hK:KeyT P kt ek) (hz:(P.info? et).bind (·.zero)=some z) (hza:∀ σ w F,Rel σ w F az z) (hx:evA n l x=.mpr id) (hy:evA n l y=ek k) (ho:aw[id]?=some (.mp (ks.map ek) vs))
    (hk:kix k ks=r) (hr:pickA vs az r=some a) (h:K2 (.tup [a,.bool r.isSome]) aw):OP P N ⟨d,.lookup t x y true,ty,ps,af,g⟩ (mkA n l) aw K2:=by
  subst hk;exact o_lookup_av hm hK hz hza hx hy ho hr (by rw [if_pos rfl];exact h)
theorem o_len_mp {κ ν:Type} {ek:κ→AV} {ev:ν→AV} {xs:List (κ × ν)} {x:Operand} {t kt et:TypeId} {id:Nat} (hm:P.underlying t=some (.map kt et)) (hx:evA n l x=.mpr id)
    (ho:aw[id]?=some (.mp ((xs.map (·.1)).map ek) ((xs.map (·.2)).map ev))) (h:K2 (.int .i64 xs.length) aw):OP P N ⟨d,.call ⟨.builtin .len,#[x],#[t]⟩,ty,ps,af,g⟩ (mkA n l) aw K2 :=
  o_len_map hm hx ho (by simp) h
theorem T.join2 {x y1 y2 y:Code} {Q:Exit→List AV→List Ob→Prop} {fr:List AV} {Z:Type} (F:Z→List AV) (A:Z→List Ob) (S:Z→Prop) (h:∀ z,S z→T P N y Q (F z) (A z))
    (h2:(∀ z,S z→T P N y Q (F z) (A z))→T P N (.seq x (.seq y1 (.seq y2 y))) Q fr aw):T P N (.seq x (.seq y1 (.seq y2 y))) Q fr aw:=h2 h
theorem rn_ifc {ρ:List Nat} {t:TypeId} {a b:AV} (h:Ren ρ a b):Ren ρ (.ifc t a) (.ifc t b):=fun σ w F v hr σ' hσ=>by
  cases hr with
  | ifc _ _ u hu=>exact .ifc t a u (h σ w F u hu σ' hσ)
theorem o_mkIface {t:TypeId} {x:Operand} {dd:TypeDesc} {a:AV} (hu:P.underlying t=some dd) (hd:(match dd with | .interface _=>false | _=>true)=true) (hx:evA n l x=a) (h:K2 (.ifc t a) aw):OP P N ⟨d,.makeInterface t x,ty,ps,af,g⟩ (mkA n l) aw K2 :=
  OP.of_ok (fun σ w F ac har hs=>by
    have ex:=har.ev x
    rw [Q1a,hx] at ex
    refine ⟨.iface t (ac.eval x),_,w,aw,σ,F,_,?_,.inl rfl,hs,.refl ..,.ifc _ _ _ ex,h⟩
    cases dd<;>simp_all [execOp,Instr.makeInterface,Sem.run_bind,run_underlying hu])
theorem o_buildSliceN {t:TypeId} {len:Nat} {parts:Array (Nat × Operand)} {e c k:Nat} {z:List AV} {rows:List (List AV)} {vs vs2:List AV} (hS:SliceOf P t e c) (hz:Q3a P e=some z) (hl:Nat.ble (len*c) 16777216=true) (hv:parts.toList.map (fun p=>evA n l p.2)=vs) (hn:normL aw vs=(vs2,aw)) (hr:rowsOf P c (List.replicate len z) ((parts.toList.map (·.1)).zip vs2)=some rows) (hk:aw.length=k) (ha:aw++[.arr e c rows]=aw') (h:K2 (.ref k) aw'):OP P N ⟨d,.buildSlice t len parts,ty,ps,af,g⟩ (mkA n l) aw K2 :=
  OP.of_vc (by
    subst hk ha
    obtain ⟨z',hz1,hz2⟩:=hS.z
    rw [hz] at hz1;cases hz1
    show vcE P (mkA n l) aw (.buildSlice t len parts) K2
    simp only [vcE,hS.u,hz,hS.c]
    rw [show (parts.toList.map fun p=>ev (mkA n l) p.2)=vs from by rw [← hv];exact List.map_congr_left fun p _=>Q1a n l p.2,hn,hr]
    exact ⟨hz2,hS.p,Nat.le_of_ble_eq_true hl,h⟩)
end
end Go.Proofs.YtfbmoockopakjaaGreat
namespace Go.Proofs.YtfbmoockopakjaaGreat
open Go.RowKit Go.Lib
set_option linter.unusedVariables false
set_option linter.unusedSimpArgs false
section
variable {P:Program} {N n:Nat} {aw aw':List Ob} {l:List (Nat × AV)}
theorem Qob {size:Nat}:∀ (rows:List (List AV)) (j:Nat),(∀ row,row∈rows→row.length=size)→(rows.take j).flatten=rows.flatten.take (j*size)
  | [],j,_=>by simp
  | r::rows,0,_=>by simp
  | r::rows,j+1,h=>by
    have hr:=h r (by simp)
    have e:(j+1)*size=r.length+j*size:=by rw [Nat.add_mul];omega
    rw [List.take_succ_cons,List.flatten_cons,List.flatten_cons,Qob rows j (fun x hx=>h x (by simp [hx])),e,List.take_length_add_append]
theorem o_slice_own {α:Type} {en:α→List AV} {xs b:List α} {t:TypeId} {x y:Operand} {id e c k:Nat} {j:Int} {kq:IntKind} {d:Option Tmp} {ty:TypeId} {ps:String} {af:Array Edge} {g:Option (Nat × Bool)} {K2:AV→List Ob→Prop}
    (hS:SliceOf P t e c) (hx:evA n l x=.ref id) (hy:evA n l y=.int kq j) (ho:aw[id]?=some (.arr e c (xs.map en))) (hs':sub xs 0 j=some b) (hk:aw.length=k)
    (ha:aw.set id .dead++[.arr e c (b.map en)]=aw') (h:K2 (.ref k) aw'):OP P N ⟨d,.slice t x none (some y) none,ty,ps,af,g⟩ (mkA n l) aw K2 :=
  OP.of_ok (fun σ w F a har hs=>by
    unfold sub at hs';split at hs'
    · rename_i hc
      cases hs'
      subst hk ha
      have ex:=har.ev x
      rw [Q1a,hx] at ex
      generalize hvx:a.eval x=vx at ex
      cases ex with
      | ref _ A q cp hσ =>
        obtain ⟨flat,hown0,hfl,hf,_⟩:=hs.obj id _ _ ho hσ
        obtain ⟨ds,hd⟩:=Option.isSome_iff_exists.1 hS.s
        have hlen:(xs.map en).length=xs.length:=by simp
        have hq:q=xs.length∧q≤cp:=by
          rcases hown0.2 with ⟨h1,h2⟩ | ⟨g0,cap,cur,h1,_,_,h2,_⟩
          · cases h1;exact ⟨by omega,by omega⟩
          · cases h1;exact ⟨by omega,h2⟩
        have b:=fun w'=>run_bounds (P:=P) har (lo:=none) (hi:=some y) (b:=true) (len:=q) (cap:=cp) (kl:=.i64) (l:=0) rfl (by show ev (mkA n l) y=_;rw [Q1a,hy]) (by omega) hc.2.1 (by omega) hq.2 w'
        simp only [Option.map_none,Option.map_some] at b
        have hrun:(execOp a.eval ⟨d,.slice t x none (some y) none,ty,ps,af,g⟩).run P w=.ok (.value (.slice A j.toNat cp)) w:=by
          cases A with
          | none=>simp [execOp,hvx,Instr.sliceAt,Instr.slice,Sem.run_bind,run_underlying hS.u,b,J1a hd]
          | some A =>
            have h0:A.add 0=A:=by cases A;simp [Addr.add]
            simp [execOp,hvx,Instr.sliceAt,Instr.slice,Sem.run_bind,run_underlying hS.u,b,J1a hd,h0]
        have s3:=hs.lose id
        have hfree:∀ b,(Value.slice A q cp).ownBlock=some b→¬ F b∧¬ Dof (aw.set id .dead) σ b∧Dof aw σ b:=by
          intro b hb
          refine ⟨hf b hb,fun hd=>?_,⟨id,_,_,ho,rfl,hσ,(Bk.slice hb)⟩⟩
          obtain ⟨k,o1,v1,ho1,hl,hv1,hb1⟩:=hd
          rcases Jia ho1 with ⟨rfl,rfl,_⟩ | ⟨hne,h2⟩
          · simp [Ob.live] at hl
          · exact hs.sep k id o1 _ v1 _ b hne h2 ho hl rfl hv1 hσ hb1 ((Bk.slice hb))
        have hjl:j.toNat≤xs.length:=by omega
        have hcut:(j.toNat)*c≤xs.length*c:=Nat.mul_le_mul_right _ hjl
        have hown:w.ownsRow 0 e c (.slice A j.toNat cp) ((xs.map en).take j.toNat++[]).length (flat.take (j.toNat*c)++[]):=by
          rw [List.append_nil,List.append_nil,List.length_take,hlen,Nat.min_eq_left hjl]
          have h1:=hown0.1
          rw [hlen] at h1
          refine ⟨by rw [List.length_take,h1,Nat.min_eq_left hcut],?_⟩
          rcases hown0.2 with ⟨h2,h3⟩ | ⟨g0,cap,cur,h2,h3,h4,h5,h6,h7,h8⟩
          · cases h2
            rw [hlen] at h3
            have:j.toNat=0:=by omega
            exact .inl ⟨by rw [this],this⟩
          · cases h2
            rw [hlen] at h5 h8
            refine .inr ⟨g0,cp,cur,rfl,h3,h4,by omega,h6,h7,?_⟩
            rw [← h8,List.take_take,Nat.min_eq_left hcut]
        have hfl2:FlatRel σ w F c ((xs.map en).take j.toNat) (flat.take (j.toNat*c)) :=
          ⟨fun row hr=>hfl.1 row (List.mem_of_mem_take hr),fun u hu=>hfl.2.1 u (List.mem_of_mem_take hu),by rw [Qob _ _ hfl.1];exact hfl.2.2.take _⟩
        obtain ⟨s2,m2,r2⟩:=app_push (aw0:=aw) (vx:=.slice A q cp) (old:=(xs.map en).take j.toNat) (rows:=[]) (news:=[]) s3 (fun _ h=>h.set_dead) hfl2 (fun row hr=>by simp at hr) .nil (fun u hu=>by simp at hu) hown (World.grownBy.refl w _) (.inl (by cases A<;>rfl)) hfree
        rw [List.length_set] at r2
        have e2:(xs.map en).take j.toNat++[]=((xs.take j.toNat).drop (Int.toNat 0)).map en:=by simp
        rw [e2] at s2 m2
        exact ⟨_,_,w,_,_,F,_,hrun,.inl rfl,s2,m2,r2,h⟩
    · cases hs')
end
end Go.Proofs.YtfbmoockopakjaaGreat
namespace Go.Proofs.YtfbmoockopakjaaGreat
open Go.RowKit
set_option linter.unusedVariables false
set_option linter.unusedSimpArgs false
section
variable {P:Program} {N n:Nat} {aw aw':List Ob} {l:List (Nat × AV)} {σ:List Value} {w:World} {F:Nat→Prop}
structure IsV (σ:List Value) (id c lo n:Nat) (v:Value):Prop where
  out:∃ (N C K:Nat) (A B:Option Addr),σ[id]?=some (.slice B N C)∧v=.slice A n K∧lo+n≤C∧(0<n→∃ g,B=some ⟨g,0,none⟩∧A=some ⟨g,lo*c,none⟩)
structure Src (w:World) (c m:Nat) (flat:List Value) (v:Value):Prop where
  out:∃ (A:Option Addr) (K:Nat),v=.slice A m K∧flat.length=m*c∧(A=none→flat=[])∧∀ ad,A=some ad→∀ j u,flat[j]?=some u→w.cell? (ad.add j)=some u
theorem arr_len {id e c:Nat} {rows:List (List AV)} (hs:Sim aw σ w F) (ho:aw[id]?=some (.arr e c rows)) {A:Option Addr} {q cp:Nat} (hσ:σ[id]?=some (.slice A q cp)):q=rows.length∧q≤cp:=by
  obtain ⟨flat,hown,_⟩:=hs.obj id _ _ ho hσ
  rcases hown.2 with ⟨h1,h2⟩ | ⟨g,cap,cur,h1,_,_,h2,_⟩
  · cases h1;exact ⟨by omega,by omega⟩
  · cases h1;exact ⟨rfl,h2⟩
theorem isV_vw {id c lo m:Nat} {cap:Option Nat} {v:Value} (h:Rel σ w F (.vw id c lo m cap) v):IsV σ id c lo m v:=by
  cases h with
  | vw _ _ _ _ N C _ A B h hn hA hc _=>exact ⟨N,C,_,A,B,h,rfl,hn,hA⟩
theorem isV_ref {id e c:Nat} {rows:List (List AV)} {v:Value} (hs:Sim aw σ w F) (ho:aw[id]?=some (.arr e c rows)) (h:Rel σ w F (.ref id) v):IsV σ id c 0 rows.length v:=by
  cases h with
  | ref _ A q cp hσ =>
    obtain ⟨h1,h2⟩:=arr_len hs ho hσ
    subst h1
    obtain ⟨_,flat,_,_,hc⟩:=Jfb hs ho hσ
    refine ⟨_,cp,cp,A,A,hσ,rfl,by omega,fun h0=>?_⟩
    rcases hc with hc | ⟨g,cur,e1,_⟩
    · subst hc;simp at h0
    · exact ⟨g,e1,by simpa using e1⟩
theorem src_isV {id e c lo m:Nat} {rows:List (List AV)} {v:Value} (hs:Sim aw σ w F) (ho:aw[id]?=some (.arr e c rows)) (hv:IsV σ id c lo m v) (hlo:lo+m≤rows.length) :
    ∃ flat,Src w c m flat v∧RelL σ w F ((rows.drop lo).take m).flatten flat∧(∀ u,u∈flat→u.oneCell'=true)∧∀ row,row∈rows→row.length=c:=by
  obtain ⟨N0,C,K,A,B,hσ,rfl,hn,hA⟩:=hv.out
  obtain ⟨h1,flat,hown,hfl,hc⟩:=Jfb hs ho hσ
  have hfr:(((rows.drop lo).take m).flatten)=((rows.flatten.drop (lo*c)).take (m*c)):=by
    rw [Qob _ _ (fun row hr=>hfl.1 row (List.mem_of_mem_drop hr))]
    congr 1
    have:∀ (k:Nat) (l:List (List AV)),(∀ row,row∈l→row.length=c)→(l.drop k).flatten=l.flatten.drop (k*c):=by
      intro k
      induction k with
      | zero=>intro l _;simp
      | succ k ih =>
        intro l hl
        cases l with
        | nil=>simp
        | cons x l =>
          rw [List.drop_succ_cons,ih l (fun row hr=>hl row (List.mem_cons_of_mem _ hr)),List.flatten_cons,Nat.add_mul,Nat.one_mul,← hl x List.mem_cons_self,Nat.add_comm (k*x.length),← List.drop_drop,List.drop_left]
    exact this lo rows hfl.1
  refine ⟨(flat.drop (lo*c)).take (m*c),⟨A,K,rfl,?_,fun hA0=>?_,fun ad had j u hj=>?_⟩,?_,fun u hu=>hfl.2.1 u (List.mem_of_mem_drop (List.mem_of_mem_take hu)),hfl.1⟩
  · have h2:=hown.1
    have:lo*c+m*c≤N0*c:=by rw [← Nat.add_mul];exact Nat.mul_le_mul_right _ (by omega)
    rw [List.length_take,List.length_drop];omega
  · by_cases hm:m=0
    · subst hm;simp
    · obtain ⟨g,_,e2⟩:=hA (by omega)
      rw [hA0] at e2;cases e2
  · have hj':j<m*c:=by
      have:=(List.getElem?_eq_some_iff.1 hj).1
      rw [List.length_take] at this;omega
    by_cases hm:m=0
    · subst hm;simp at hj'
    · obtain ⟨g,e1,e2⟩:=hA (by omega)
      rw [had] at e2;cases e2
      rcases hc with hc | ⟨g',cur,e3,_⟩
      · subst hc;simp at hlo;omega
      · rw [e1] at e3;cases e3
        rw [e1] at hown
        rw [List.getElem?_take,if_pos hj',List.getElem?_drop] at hj
        have:=hown.cells (g:=g) rfl (lo*c+j) u hj
        rw [Q6b] at this
        rw [show (⟨g,lo*c,none⟩:Addr).add j=⟨g,lo*c+j,none⟩ from by unfold Addr.add;split<;>simp_all]
        exact this
  · rw [hfr];exact hfl.2.2.sub _ _
theorem src_sl {c:Nat} {rows:List (List AV)} {v:Value} (h:Rel σ w F (.sl rows) v) (hrow:∀ row,row∈rows→row.length=c) :
    ∃ flat,Src w c rows.length flat v∧RelL σ w F rows.flatten flat∧(∀ u,u∈flat→u.oneCell'=true):=by
  cases h with
  | slNil=>exact ⟨[],⟨none,0,rfl,by simp,fun _=>rfl,fun ad h=>by cases h⟩,.nil,fun u hu=>by simp at hu⟩
  | sl _ size ad cp u hF hn hm hr1 hone hcell hrel =>
    by_cases hne:rows=[]
    · subst hne
      exact ⟨[],⟨some ad,cp,rfl,by simp,fun _=>rfl,fun _ _ j u hj=>by simp at hj⟩,.nil,fun u hu=>by simp at hu⟩
    · have hsize:size=c:=by
        obtain ⟨r,rs,rfl⟩:=List.exists_cons_of_ne_nil hne
        exact (hr1 r (by simp)).symm.trans (hrow r (by simp))
      subst hsize
      have hlen:rows.flatten.length=rows.length*size:=by
        have:∀ l:List (List AV),(∀ row,row∈l→row.length=size)→l.flatten.length=l.length*size:=by
          intro l
          induction l with
          | nil=>simp
          | cons x l ih =>
            intro hx
            rw [List.flatten_cons,List.length_append,ih (fun row hr=>hx row (List.mem_cons_of_mem _ hr)),hx x List.mem_cons_self,List.length_cons,Nat.add_mul];omega
        exact this rows hr1
      by_cases h0:size=0
      · subst h0
        refine ⟨[],⟨some ad,cp,rfl,by simp,(fun _=>rfl),(fun _ _ j u hj=>by simp at hj)⟩,?_,fun u hu=>by simp at hu⟩
        have:rows.flatten=[]:=List.eq_nil_of_length_eq_zero (by simpa using hlen)
        rw [this];exact .nil
      · have idx:∀ k,k<rows.length*size→k / size<rows.length∧k % size<size∧k / size*size+k % size=k:=fun k hk =>
          ⟨Nat.div_lt_of_lt_mul (by rw [Nat.mul_comm];exact hk),Nat.mod_lt _ (by omega),by rw [Nat.mul_comm];exact Nat.div_add_mod k _⟩
        have hget:∀ (k:Nat) x,((List.range (rows.length*size)).map fun k=>u (k / size) (k % size))[k]?=some x→k<rows.length*size∧x=u (k / size) (k % size):=fun k x hx=>by
          rw [List.getElem?_map,Option.map_eq_some_iff] at hx
          obtain ⟨m,hm1,rfl⟩:=hx
          obtain ⟨hlt,e1⟩:=List.getElem?_eq_some_iff.1 hm1
          simp at hlt e1
          subst e1
          exact ⟨hlt,rfl⟩
        refine ⟨(List.range (rows.length*size)).map fun k=>u (k / size) (k % size),⟨some ad,cp,rfl,by simp,fun h=>(by cases h),fun ad' e j x hj=>?_⟩,⟨by simp [hlen],fun j x y hx hy=>?_⟩,fun x hx=>?_⟩
        · cases e
          obtain ⟨h1,rfl⟩:=hget j x hj
          obtain ⟨h2,h3,h4⟩:=idx j h1
          have:=hcell _ _ h2 h3
          rwa [h4] at this
        · obtain ⟨h1,rfl⟩:=hget j y hy
          obtain ⟨h2,h3,h4⟩:=idx j h1
          have hf:=flatten_get hr1 (j / size) (j % size) rows[j / size] (List.getElem?_eq_getElem h2) h3
          rw [h4,hx] at hf
          exact hrel _ _ _ _ (List.getElem?_eq_getElem h2) hf.symm
        · obtain ⟨k,hk⟩:=List.getElem?_of_mem hx
          obtain ⟨h1,rfl⟩:=hget k x hk
          obtain ⟨h2,h3,_⟩:=idx k h1
          exact hone _ _ h2 h3
theorem store_rows {id e c lo k:Nat} {rows news:List (List AV)} {B:Option Addr} {N0 C g:Nat} {vs:List Value} (hs:Sim aw σ w F) (ho:aw[id]?=some (.arr e c rows)) (hσ:σ[id]?=some (.slice (some ⟨g,0,none⟩) N0 C))
    (hk:news.length=k) (hlo:lo+k≤rows.length) (hrow:∀ row,row∈news→row.length=c) (hvl:vs.length=k*c) (hr:RelL σ w F news.flatten vs) (h1:∀ u,u∈vs→u.oneCell'=true) :
    ∃ w',(storeCells ⟨g,lo*c,none⟩ vs).run P w=.ok () w'∧Sim (aw.set id (.arr e c (rows.take lo++news++rows.drop (lo+k)))) σ w' F∧Mv aw σ w F (aw.set id (.arr e c (rows.take lo++news++rows.drop (lo+k)))) σ w' F:=by
  obtain ⟨hn,flat,hown,hfl,hc⟩:=Jfb hs ho hσ
  have hdrop:∀ (k:Nat) (l:List (List AV)),(∀ row,row∈l→row.length=c)→(l.drop k).flatten=l.flatten.drop (k*c):=by
    intro k
    induction k with
    | zero=>intro l _;simp
    | succ k ih =>
      intro l hl
      cases l with
      | nil=>simp
      | cons x l =>
        rw [List.drop_succ_cons,ih l (fun row hr=>hl row (List.mem_cons_of_mem _ hr)),List.flatten_cons,Nat.add_mul,Nat.one_mul,← hl x List.mem_cons_self,Nat.add_comm (k*x.length),← List.drop_drop,List.drop_left]
  rcases hc with hc | ⟨g',cur,e1,hF,hg,hnc,h2,h3,h4⟩
  · subst hc
    have h0:k=0:=by simp at hlo;omega
    have hl0:lo=0:=by simp at hlo;omega
    subst h0 hl0
    have hv0:vs=[]:=List.eq_nil_of_length_eq_zero (by simpa using hvl)
    have hn0:news=[]:=List.eq_nil_of_length_eq_zero hk
    subst hv0 hn0
    have hset:aw.set id (.arr e c (([]:List (List AV)).take 0++[]++([]:List (List AV)).drop (0+0)))=aw:=by
      obtain ⟨hlt,hvs⟩:=List.getElem?_eq_some_iff.1 ho
      have:aw.set id aw[id]=aw:=List.set_getElem_self hlt
      rw [hvs] at this;simpa using this
    rw [hset]
    exact ⟨w,by simp [storeCells],hs,.refl ..⟩
  · cases e1
    have hin:lo*c+k*c≤N0*c:=by rw [← Nat.add_mul];exact Nat.mul_le_mul_right _ (by omega)
    have hcap:N0*c≤cur.size:=by rw [h3];exact Nat.mul_le_mul_right _ hnc
    have hst:=run_storeCells_at P g (lo*c) e vs 0 cur w hg (by omega) h1
    simp only [Nat.add_zero] at hst
    have hkk:∀ b,b≠g→(w.setRow g (cur.toList.take (lo*c)++vs++cur.toList.drop (lo*c+vs.length)).toArray).heap[b]?=w.heap[b]?:=fun b hb=>setRow_other w g b _ hb
    have hflat:flat.length=N0*c:=hown.1
    have hlen2:(rows.take lo++news++rows.drop (lo+k)).length=N0:=by simp;omega
    have hORel:ORel σ (w.setRow g (cur.toList.take (lo*c)++vs++cur.toList.drop (lo*c+vs.length)).toArray) F (.arr e c (rows.take lo++news++rows.drop (lo+k))) (.slice (some ⟨g,0,none⟩) N0 C):=by
      refine ⟨flat.take (lo*c)++vs++flat.drop (lo*c+vs.length),⟨?_,.inr ⟨g,C,_,by rw [hlen2],Nat.zero_le _,setRow_heap w g cur _ e (0,0) hg,by rw [hlen2];exact hnc,h2,?_,?_⟩⟩,⟨fun row hr=>?_,fun u hu=>?_,?_⟩,fun g2 hg2=>?_,_,_,_,rfl⟩
      · rw [hlen2];simp only [List.length_append,List.length_take,List.length_drop];omega
      · simp only [List.size_toArray,List.length_append,List.length_take,List.length_drop,Array.length_toList]
        omega
      · rw [hlen2]
        simp only [List.toList_toArray]
        have h5:=take_spliceV cur.toList vs (lo*c) (N0*c) (by omega) (by simpa using hcap)
        simp only [Yha] at h5
        rw [h5,h4]
      · rcases List.mem_append.1 hr with hr | hr
        · rcases List.mem_append.1 hr with hr | hr
          · exact hfl.1 row (List.mem_of_mem_take hr)
          · exact hrow row hr
        · exact hfl.1 row (List.mem_of_mem_drop hr)
      · rcases List.mem_append.1 hu with hu | hu
        · rcases List.mem_append.1 hu with hu | hu
          · exact hfl.2.1 u (List.mem_of_mem_take hu)
          · exact h1 u hu
        · exact hfl.2.1 u (List.mem_of_mem_drop hu)
      · rw [List.flatten_append,List.flatten_append,Qob _ _ hfl.1,hdrop _ _ hfl.1]
        rw [show lo*c+vs.length=(lo+k)*c from by rw [hvl,Nat.add_mul]] at hkk ⊢
        have hd2:RelL σ w F (rows.flatten.drop ((lo+k)*c)) (flat.drop ((lo+k)*c)):=by
          refine ⟨by simp [hfl.2.2.1],fun j a v ha hv=>?_⟩
          rw [List.getElem?_drop] at ha hv
          exact hfl.2.2.2 _ a v ha hv
        exact (((hfl.2.2.take _).append hr).append hd2).mono (fun _ _ e=>e) (fun _ e=>e) (fun b hb=>hkk b (fun e=>hF (e▸hb)))
      · simp [Value.ownBlock] at hg2;subst hg2;exact hF
    exact ⟨_,hst,hs.write (b0:=g) id ho rfl hσ rfl hkk (by simp) _ hORel (fun _ h=>h),Mv.write (w:=w) (w':=w.setRow g _) (F:=F) (b0:=g) id ho rfl hσ rfl rfl rfl rfl hkk (by simp) _ (fun _ h=>h)⟩
theorem copy_run {t ts ty e c id lo m k:Nat} {rows news:List (List AV)} {vd vs:Value} {flat:List Value} (hu:P.underlying t=some (.slice e)) (hc:P.cellsOf e=c) (hsm:(P.underlying e).isSome=true) (hs:Sim aw σ w F) (ho:aw[id]?=some (.arr e c rows))
    (hd:IsV σ id c lo m vd) (hsrc:Src w c news.length flat vs) (hr:RelL σ w F news.flatten flat) (h1:∀ u,u∈flat→u.oneCell'=true) (hrow:∀ row,row∈news→row.length=c) (hk:min m news.length=k) (hlo:lo+k≤rows.length) :
    ∃ w',(Builtin.copy_ #[t,ts] ty #[vd,vs]).run P w=.ok (goInt k) w'∧Sim (aw.set id (.arr e c (rows.take lo++news.take k++rows.drop (lo+k)))) σ w' F∧Mv aw σ w F (aw.set id (.arr e c (rows.take lo++news.take k++rows.drop (lo+k)))) σ w' F:=by
  obtain ⟨N0,C,K,A,B,hσ,rfl,hn,hA⟩:=hd.out
  obtain ⟨A2,K2,rfl,hfl,hnone,hcell⟩:=hsrc.out
  obtain ⟨ds,hds⟩:=Option.isSome_iff_exists.1 hsm
  have hmin:Nat.min news.length m=k:=by rw [← hk];exact Nat.min_comm _ _
  have htk:k*c≤flat.length:=by rw [hfl];exact Nat.mul_le_mul_right _ (by omega)
  have hfirst:(Builtin.firstCells c k (.slice A2 news.length K2)).run P w=.ok (flat.take (k*c)).toArray w:=by
    cases A2 with
    | none=>rw [hnone rfl];simp [Builtin.firstCells]
    | some ad=>exact run_firstCells_some w c k ad news.length K2 (flat.take (k*c)) (by rw [List.length_take];omega) (fun j u hj=>by
        rw [List.getElem?_take] at hj
        split at hj
        · exact hcell ad rfl j u hj
        · cases hj)
  have hsz:=J1a hds
  rw [hc] at hsz
  have hset:aw.set id (.arr e c (rows.take lo++([]:List (List AV))++rows.drop (lo+0)))=aw:=by
    obtain ⟨hlt,hvs⟩:=List.getElem?_eq_some_iff.1 ho
    have:aw.set id aw[id]=aw:=List.set_getElem_self hlt
    rw [hvs] at this;simpa using this
  by_cases h0:k=0
  · subst h0
    simp only [List.take_zero]
    rw [hset]
    refine ⟨w,?_,hs,.refl ..⟩
    have he:(flat.take (0*c)).toArray=#[]:=by simp
    rw [he] at hfirst
    cases A with
    | none=>simp [Builtin.copy_,Sem.run_bind,run_underlying hu,Builtin.lenOf,hmin,hsz,hfirst]
    | some a=>simp [Builtin.copy_,Sem.run_bind,run_underlying hu,Builtin.lenOf,hmin,hsz,hfirst,storeCells]
  · obtain ⟨g,rfl,rfl⟩:=hA (by omega)
    have hrt:RelL σ w F (news.take k).flatten (flat.take (k*c)):=by rw [Qob _ _ hrow];exact hr.take _
    obtain ⟨w',hst,s2,m2⟩:=store_rows (P:=P) (B:=none) (news:=news.take k) (vs:=flat.take (k*c)) (lo:=lo) (k:=k) hs ho hσ (by simp;omega) hlo (fun row hr=>hrow row (List.mem_of_mem_take hr)) (by rw [List.length_take];omega) hrt (fun u hu=>h1 u (List.mem_of_mem_take hu))
    refine ⟨w',?_,s2,m2⟩
    simp [Builtin.copy_,Sem.run_bind,run_underlying hu,Builtin.lenOf,hmin,hsz,hfirst,hst]
variable {d:Option Tmp} {ty:TypeId} {ps:String} {af:Array Edge} {g:Option (Nat × Bool)} {K2:AV→List Ob→Prop} {α:Type} {en:α→List AV} {xs ys:List α}
theorem map_evA (lo:Option Operand):lo.map (ev (mkA n l))=lo.map (evA n l):=by cases lo<;>simp [Q1a]
theorem Qyb {t:TypeId} {x:Operand} {lo hi:Option Operand} {id e c:Nat} {i j:Int} {k k':IntKind} {u:Unit} (hS:SliceOf P t e c) (hx:evA n l x=.ref id) (ho:aw[id]?=some (.arr e c (xs.map en)))
    (hl:(lo.map (evA n l)).getD (.int .i64 0)=.int k i) (hh:(hi.map (evA n l)).getD (.int .i64 xs.length)=.int k' j) (hv:vwok xs.length i j=some u) (h:K2 (.vw id c i.toNat (j.toNat - i.toNat) none) aw) :
    OP P N ⟨d,.slice t x lo hi none,ty,ps,af,g⟩ (mkA n l) aw K2 :=
  OP.of_ok (fun σ w F a har hs=>by
    unfold vwok at hv;split at hv
    · rename_i hc
      have ex:=har.ev x
      rw [Q1a,hx] at ex
      generalize hvx:a.eval x=vx at ex
      cases ex with
      | ref _ A q cp hσ =>
        obtain ⟨h1,h2⟩:=arr_len hs ho hσ
        rw [List.length_map] at h1
        subst h1
        obtain ⟨ds,hd⟩:=Option.isSome_iff_exists.1 hS.s
        have hsz:=J1a hd
        rw [hS.c] at hsz
        have b:=fun w'=>run_bounds (P:=P) har (lo:=lo) (hi:=hi) (b:=true) (len:=xs.length) (cap:=cp) (by rw [map_evA];exact hl) (by rw [map_evA];exact hh) hc.1 hc.2.1 hc.2.2 h2 w'
        have hfm:∃ g,xs≠[]→A=some ⟨g,0,none⟩:=by
          obtain ⟨_,_,_,_,hc2⟩:=Jfb hs ho hσ
          rcases hc2 with hc2 | ⟨g,cur,e1,_⟩
          · exact ⟨0,fun h=>absurd (List.map_eq_nil_iff.1 hc2) h⟩
          · exact ⟨g,fun _=>e1⟩
        obtain ⟨g0,hg0⟩:=hfm
        refine ⟨.slice (if cp=i.toNat then A else A.map (·.add (i.toNat*c))) (j.toNat - i.toNat) (cp - i.toNat),_,w,aw,σ,F,_,?_,.inl rfl,hs,.refl ..,?_,h⟩
        · simp [execOp,hvx,Instr.sliceAt,Instr.slice,Sem.run_bind,run_underlying hS.u,b,hsz]
        · refine .vw id c _ _ _ cp none _ A hσ (by omega) (fun hpos=>?_) (fun k hk=>by cases hk) ?_
          · have hne:xs≠[]:=by rintro rfl;simp at hc;omega
            refine ⟨g0,hg0 hne,?_⟩
            have:¬ cp=i.toNat:=by omega
            rw [if_neg this,hg0 hne,Option.map_some,Q6b]
          · intro h0
            rw [h0]
            split
            · rfl
            · cases A with
              | none=>rfl
              | some A=>cases A;simp [Addr.add]
    · cases hv)
theorem o_copy_gen {t ts e c id lo m k:Nat} {x y:Operand} {rows news:List (List AV)} {ax ay:AV} (hS:SliceOf P t e c) (hx:evA n l x=ax) (hy:evA n l y=ay) (ho:aw[id]?=some (.arr e c rows))
    (hd:∀ σ w F v,Sim aw σ w F→Rel σ w F ax v→IsV σ id c lo m v)
    (hsrc:∀ σ w F v,Sim aw σ w F→Rel σ w F ay v→∃ flat,Src w c news.length flat v∧RelL σ w F news.flatten flat∧(∀ u,u∈flat→u.oneCell'=true)) (hrow:∀ row,row∈news→row.length=c)
    (hk:min m news.length=k) (hlo:lo+k≤rows.length) (ha:aw.set id (.arr e c (rows.take lo++news.take k++rows.drop (lo+k)))=aw') (h:K2 (.int .i64 k) aw') :
    OP P N ⟨d,.call ⟨.builtin .copy,#[x,y],#[t,ts]⟩,ty,ps,af,g⟩ (mkA n l) aw K2 :=
  OP.of_ok (fun σ w F a har hs=>by
    subst ha
    have ex:=har.ev x
    have ey:=har.ev y
    rw [Q1a,hx] at ex
    rw [Q1a,hy] at ey
    obtain ⟨flat,h1,h2,h3⟩:=hsrc σ w F _ hs ey
    obtain ⟨w',hrun,s2,m2⟩:=copy_run (P:=P) (t:=t) (ts:=ts) (ty:=ty) hS.u hS.c hS.s hs ho (hd σ w F _ hs ex) h1 h2 h3 hrow hk hlo
    refine ⟨goInt k,_,w',_,σ,F,_,?_,.inl rfl,s2,m2,.int _ _,h⟩
    simp [execOp,resolve,invoke,builtin,Sem.run_bind,hrun])
theorem cpy_map (lo m:Nat):(cpy xs lo m ys).map en=(xs.map en).take lo++(ys.map en).take (min m ys.length)++(xs.map en).drop (lo+min m ys.length):=by
  unfold cpy
  have:ys.take m=ys.take (min m ys.length):=by
    by_cases h:m≤ys.length
    · rw [Nat.min_eq_left h]
    · rw [Nat.min_eq_right (by omega),List.take_of_length_le (by omega),List.take_length]
  rw [List.map_append,List.map_append,List.map_take,List.map_drop,this,List.map_take]
theorem o_copy_rs {t ts e c id:Nat} {x y:Operand} (hS:SliceOf P t e c) (hen:∀ a,(en a).length=c) (hx:evA n l x=.ref id) (hy:evA n l y=.sl (ys.map en)) (ho:aw[id]?=some (.arr e c (xs.map en)))
    (ha:aw.set id (.arr e c ((cpy xs 0 xs.length ys).map en))=aw') (h:K2 (.int .i64 (min xs.length ys.length:Nat)) aw'):OP P N ⟨d,.call ⟨.builtin .copy,#[x,y],#[t,ts]⟩,ty,ps,af,g⟩ (mkA n l) aw K2:=by
  have hrow:∀ row,row∈ys.map en→row.length=c:=fun row hr=>by obtain ⟨a,_,rfl⟩:=List.mem_map.1 hr;exact hen a
  rw [cpy_map] at ha
  exact o_copy_gen (lo:=0) (m:=xs.length) (news:=ys.map en) (k:=min xs.length ys.length) hS hx hy ho (fun σ w F v hs hr=>by have:=isV_ref hs ho hr;rwa [List.length_map] at this) (fun σ w F v _ hr=>src_sl hr hrow) hrow (by simp) (by simp;omega) ha h
theorem o_copy_vv {t ts e c id lo m lo2 m2:Nat} {x y:Operand} {cap cap2:Option Nat} {u u2:Unit} (hS:SliceOf P t e c) (hen:∀ a,(en a).length=c) (hx:evA n l x=.vw id c lo m cap) (hy:evA n l y=.vw id c lo2 m2 cap2) (ho:aw[id]?=some (.arr e c (xs.map en)))
    (hv:vwok xs.length lo ((lo:Int)+m)=some u) (hv2:vwok xs.length lo2 ((lo2:Int)+m2)=some u2) (ha:aw.set id (.arr e c ((cpy xs lo m ((xs.drop lo2).take m2)).map en))=aw') (h:K2 (.int .i64 (min m m2:Nat)) aw'):OP P N ⟨d,.call ⟨.builtin .copy,#[x,y],#[t,ts]⟩,ty,ps,af,g⟩ (mkA n l) aw K2:=by
  unfold vwok at hv hv2
  split at hv<;>split at hv2
  · rename_i hc hc2
    have hl2:((xs.drop lo2).take m2).length=m2:=by rw [List.length_take,List.length_drop];omega
    have hrow:∀ row,row∈((xs.drop lo2).take m2).map en→row.length=c:=fun row hr=>by obtain ⟨a,_,rfl⟩:=List.mem_map.1 hr;exact hen a
    rw [cpy_map,hl2] at ha
    refine o_copy_gen (news:=((xs.drop lo2).take m2).map en) (k:=min m m2) hS hx hy ho (fun σ w F v _ hr=>isV_vw hr) (fun σ w F v hs hr=>?_) hrow (by rw [List.length_map,hl2]) (by simp;omega) ha h
    obtain ⟨flat,h1,h2,h3,_⟩:=src_isV hs ho (isV_vw hr) (by simp;omega)
    rw [List.length_map,hl2]
    rw [← List.map_drop,← List.map_take] at h2
    exact ⟨flat,h1,h2,h3⟩
  · cases hv2
  · cases hv
  · cases hv
theorem o_clear_vw {t e c id lo m:Nat} {x:Operand} {z0:α} {cap:Option Nat} {u:Unit} (hS:SliceOf P t e c) (hz:Q3a P e=some (en z0)) (hen:∀ a,(en a).length=c) (hx:evA n l x=.vw id c lo m cap) (ho:aw[id]?=some (.arr e c (xs.map en)))
    (hv:vwok xs.length lo ((lo:Int)+m)=some u) (ha:aw.set id (.arr e c ((clr xs lo m z0).map en))=aw') (h:K2 (.tup []) aw'):OP P N ⟨d,.call ⟨.builtin .clear,#[x],#[t]⟩,ty,ps,af,g⟩ (mkA n l) aw K2 :=
  OP.of_ok (fun σ w F a har hs=>by
    subst ha
    unfold vwok at hv;split at hv
    · rename_i hc
      have ex:=har.ev x
      rw [Q1a,hx] at ex
      obtain ⟨N0,C,K,A,B,hσ,hval,hn,hA⟩:=(isV_vw ex).out
      obtain ⟨i,zv,hi,hiz,hzl,hz1,hzr⟩:=zero_some hz
      have hrel:=init_rel (hzr σ w F) (by rw [hen];exact hS.p) m
      have hcm:(clr xs lo m z0).map en=(xs.map en).take lo++List.replicate m (en z0)++(xs.map en).drop (lo+m):=by
        unfold clr;simp [List.map_take,List.map_drop]
      rw [hcm] at h
      by_cases h0:m=0
      · subst h0
        have hset:aw.set id (.arr e c ((xs.map en).take lo++List.replicate 0 (en z0)++(xs.map en).drop (lo+0)))=aw:=by
          obtain ⟨hlt,hvs⟩:=List.getElem?_eq_some_iff.1 ho
          have:aw.set id aw[id]=aw:=List.set_getElem_self hlt
          rw [hvs] at this;simpa using this
        rw [hset] at h
        refine ⟨.tuple #[],_,w,aw,σ,F,_,?_,.inl rfl,hs,.refl ..,Jcb,h⟩
        cases A<;>simp [execOp,resolve,invoke,builtin,Sem.run_bind,hval,Builtin.clear_,run_underlying hS.u]
      · obtain ⟨g0,rfl,rfl⟩:=hA (by omega)
        have hzs:zv.cells.size=c:=by rw [← hen z0];simpa using hzl
        have hcells:(Builtin.zeroCells zv.cells m).toList=(madeCells zv.cells (m*c)).toList:=by
          simp [Builtin.zeroCells,madeCells,hzs]
        rw [hen] at hrel
        obtain ⟨w',hst,s2,m2⟩:=store_rows (P:=P) (B:=none) (news:=List.replicate m (en z0)) (vs:=(Builtin.zeroCells zv.cells m).toList) (lo:=lo) (k:=m) hs ho hσ (by simp) (by simp;omega) (fun row hr=>by rw [List.eq_of_mem_replicate hr];exact hen z0) (by simp [size_zeroCells,hzs]) (by rw [hcells];exact hrel) (fun u hu=>by rw [hcells] at hu;exact one_made hz1 (by rw [hzs];exact hS.p) _ u hu)
        refine ⟨.tuple #[],_,w',_,σ,F,_,?_,.inl rfl,s2,m2,Jcb,h⟩
        have hzr':=run_zeroValue' (P:=P) hi hiz w
        have hm0:m≠0:=h0
        cases m with
        | zero=>exact absurd rfl h0
        | succ m=>simp [execOp,resolve,invoke,builtin,Sem.run_bind,hval,Builtin.clear_,run_underlying hS.u,hzr',hst]
    · cases hv)
theorem v_len_vw {t e c id lo m:Nat} {x:Operand} {cap:Option Nat} (hS:SliceOf P t e c) (hx:evA n l x=.vw id c lo m cap) (h:K2 (.int .i64 m) aw):OP P N ⟨d,.call ⟨.builtin .len,#[x],#[t]⟩,ty,ps,af,g⟩ (mkA n l) aw K2 :=
  OP.of_ok (fun σ w F a har hs=>by
    have ex:=har.ev x
    rw [Q1a,hx] at ex
    generalize hvx:a.eval x=vx at ex
    cases ex with
    | vw _ _ _ _ N0 C _ A B hσ hn hA hc _ =>
      refine ⟨.int .i64 m,_,w,aw,σ,F,_,?_,.inl rfl,hs,.refl ..,.int _ _,h⟩
      simp [execOp,resolve,invoke,builtin,Sem.run_bind,hvx,Builtin.len_,run_underlying hS.u,goInt])
end
end Go.Proofs.YtfbmoockopakjaaGreat
namespace Go.Proofs.YtfbmoockopakjaaGreat
open Go.RowKit Go.Lib
set_option linter.unusedVariables false
set_option linter.unusedSimpArgs false
section
variable {P:Program} {N n:Nat} {aw aw':List Ob} {l:List (Nat × AV)} {σ:List Value} {w:World} {F:Nat→Prop}
theorem aRel_re {t:Nat} {r:AV} {v:Value} {a:Act} (h:ARel σ w F (mkA n l) a) (hv:a.eval (.tmp t)=v) (hr:Rel σ w F r v):ARel σ w F (mkA n ((t,r)::l)) a:=by
  have e1:a.tmps.getD t undef=v:=hv
  have hset:mkA n ((t,r)::l)=(mkA n l).set t r:=(V3a n l (some t) r).symm
  rw [hset]
  refine ⟨?_,h.2⟩
  by_cases ht:t<a.tmps.size
  · have:=h.1.set t hr
    have e2:a.tmps.toList.set t v=a.tmps.toList:=by
      have e3:a.tmps.toList[t]?=some v:=by
        have:a.tmps[t]?=some v:=by
          rw [Array.getElem?_eq_getElem ht]
          rw [← e1];simp [ht]
        simpa using this
      obtain ⟨hlt2,hvs⟩:=List.getElem?_eq_some_iff.1 e3
      rw [← hvs];exact List.set_getElem_self hlt2
    rwa [e2] at this
  · have hlen:=h.1.1
    have:(mkA n l).set t r=mkA n l:=List.set_eq_of_length_le (by rw [← hlen];simpa using Nat.le_of_not_lt ht)
    rw [this];exact h.1
theorem T.expose {code:Code} {Q:Exit→List AV→List Ob→Prop} (t id:Nat) {e c:Nat} {rows:List (List AV)} (hx:evA n l (.tmp t)=.ref id) (ho:aw[id]?=some (.arr e c rows))
    (h:∀ C:Nat,rows.length≤C→T P N code Q (mkA n ((t,.vw id c 0 rows.length (some C))::l)) aw):T P N code Q (mkA n l) aw :=
  ⟨fun st h1 h2 σ w F a hcur=>by
    have hr:=hcur.fr.ev (.tmp t)
    rw [Q1a,hx] at hr
    generalize hv:a.eval (.tmp t)=v at hr
    cases hr with
    | ref _ A m C hg =>
      obtain ⟨hm,hmc⟩:=arr_len hcur.sim ho hg
      subst hm
      refine (h C hmc).out st h1 h2 σ w F a ⟨hcur.sim,aRel_re hcur.fr hv ?_,hcur.mv⟩
      refine Rel.vw (σ:=σ) (w:=w) (F:=F) id c 0 rows.length rows.length C (some C) A A hg (by omega) (fun hpos=>?_) (fun k hk=>by cases hk;rfl) (fun _=>rfl)
      obtain ⟨_,_,_,_,hc2⟩:=Jfb hcur.sim ho hg
      rcases hc2 with hc2 | ⟨g,cur,e1,_⟩
      · rw [hc2] at hpos;simp at hpos
      · exact ⟨g,e1,by simpa using e1⟩⟩
theorem T.exposeM {α:Type} {en:α→List AV} {xs:List α} {code:Code} {Q:Exit→List AV→List Ob→Prop} (t id:Nat) {e c:Nat} (hx:evA n l (.tmp t)=.ref id) (ho:aw[id]?=some (.arr e c (xs.map en)))
    (h:∀ C:Nat,xs.length≤C→T P N code Q (mkA n ((t,.vw id c 0 xs.length (some C))::l)) aw):T P N code Q (mkA n l) aw :=
  T.expose t id hx ho (fun C hC=>by rw [List.length_map] at hC ⊢;exact h C hC)
theorem unvw {id e c m:Nat} {rows:List (List AV)} {C:Nat} {v:Value} (hs:Sim aw σ w F) (ho:aw[id]?=some (.arr e c rows)) (hr:Rel σ w F (.vw id c 0 m (some C)) v) (hm:m=rows.length):Rel σ w F (.ref id) v:=by
  cases hr with
  | vw _ _ _ _ N0 C0 _ A B hσ hn hA hc hz =>
    obtain ⟨h1,_⟩:=arr_len hs ho hσ
    have h2:=hz rfl
    subst h2
    refine .ref id A m (C0 - 0) ?_
    rw [hσ,h1,hm,Nat.sub_zero]
variable {d:Option Tmp} {ty:TypeId} {ps:String} {af:Array Edge} {g:Option (Nat × Bool)} {K2:AV→List Ob→Prop} {α:Type} {en:α→List AV} {xs ys:List α}
theorem o_cap_vw {t e c id lo m K:Nat} {x:Operand} (hS:SliceOf P t e c) (hx:evA n l x=.vw id c lo m (some K)) (h:K2 (.int .i64 K) aw):OP P N ⟨d,.call ⟨.builtin .cap,#[x],#[t]⟩,ty,ps,af,g⟩ (mkA n l) aw K2 :=
  OP.of_ok (fun σ w F a har hs=>by
    have ex:=har.ev x
    rw [Q1a,hx] at ex
    generalize hvx:a.eval x=vx at ex
    cases ex with
    | vw _ _ _ _ N0 C _ A B hσ hn hA hc hz =>
      have hk:=hc K rfl
      have e1:C - lo=K:=by omega
      refine ⟨.int .i64 K,_,w,aw,σ,F,_,?_,.inl rfl,hs,.refl ..,.int _ _,h⟩
      simp [execOp,resolve,invoke,builtin,Sem.run_bind,hvx,Builtin.cap_,run_underlying hS.u,goInt,e1])
theorem o_slice_vc {t:TypeId} {x:Operand} {lo hi:Option Operand} {id e c l0 n0 K:Nat} {i j:Int} {k k':IntKind} {u:Unit} (hS:SliceOf P t e c) (hx:evA n l x=.vw id c l0 n0 (some K))
    (hl:(lo.map (evA n l)).getD (.int .i64 0)=.int k i) (hh:(hi.map (evA n l)).getD (.int .i64 n0)=.int k' j) (hv:vwok n0 i j=some u) (h:K2 (.vw id c (l0+i.toNat) (j.toNat - i.toNat) (some (K - i.toNat))) aw) :
    OP P N ⟨d,.slice t x lo hi none,ty,ps,af,g⟩ (mkA n l) aw K2 :=
  OP.of_ok (fun σ w F a har hs=>by
    unfold vwok at hv;split at hv
    · rename_i hc
      have ex:=har.ev x
      rw [Q1a,hx] at ex
      generalize hvx:a.eval x=vx at ex
      cases ex with
      | vw _ _ _ _ N0 C _ A B hσ hn hA hcK hz =>
        have hK:=hcK K rfl
        obtain ⟨ds,hd⟩:=Option.isSome_iff_exists.1 hS.s
        have hsz:=J1a hd
        rw [hS.c] at hsz
        have b:=fun w'=>run_bounds (P:=P) har (lo:=lo) (hi:=hi) (b:=true) (len:=n0) (cap:=C - l0) (by rw [map_evA];exact hl) (by rw [map_evA];exact hh) hc.1 hc.2.1 hc.2.2 (by omega) w'
        have e2:C - l0 - i.toNat=C - (l0+i.toNat):=by omega
        refine ⟨.slice (if C - l0=i.toNat then A else A.map (·.add (i.toNat*c))) (j.toNat - i.toNat) (C - (l0+i.toNat)),_,w,aw,σ,F,_,?_,.inl rfl,hs,.refl ..,?_,h⟩
        · simp [execOp,hvx,Instr.sliceAt,Instr.slice,Sem.run_bind,run_underlying hS.u,b,hsz,e2]
        · refine .vw id c _ _ N0 C (some (K - i.toNat)) _ B hσ (by omega) (fun hpos=>?_) (fun k hk=>by cases hk;omega) (fun h0=>?_)
          · obtain ⟨g0,e3,e4⟩:=hA (by omega)
            refine ⟨g0,e3,?_⟩
            have:¬ C - l0=i.toNat:=by omega
            rw [if_neg this,e4,Option.map_some]
            congr 1
            have:(l0+i.toNat)*c=l0*c+i.toNat*c:=Nat.add_mul ..
            unfold Addr.add;split<;>simp_all
          · have h1:i.toNat=0:=by omega
            rw [← hz (by omega),h1]
            split
            · rfl
            · cases A with
              | none=>rfl
              | some A=>cases A;simp [Addr.add]
    · cases hv)
theorem o_slice_vh {t:TypeId} {x hi:Operand} {id e c l0 n0 K:Nat} {j:Int} {k':IntKind} {u:Unit} (hS:SliceOf P t e c) (hx:evA n l x=.vw id c l0 n0 (some K)) (hh:evA n l hi=.int k' j) (hv:vwok n0 0 j=some u)
    (h:K2 (.vw id c l0 j.toNat (some K)) aw):OP P N ⟨d,.slice t x none (some hi) none,ty,ps,af,g⟩ (mkA n l) aw K2 :=
  o_slice_vc (i:=0) (k:=.i64) hS hx rfl hh hv (by simpa using h)
theorem lose_push {k:Nat} {o o':Ob} {v v':Value} (hs:Sim aw σ w F) (ho:aw[k]?=some o) (hl:o.live=true) (hv:σ[k]?=some v) (hO:ORel (σ++[v']) w F o' v') (hsub:∀ b,Bk o' v' b→Bk o v b) :
    Sim (aw.set k .dead++[o']) (σ++[v']) w F∧Mv aw σ w F (aw.set k .dead++[o']) (σ++[v']) w F:=by
  have s3:=hs.lose k
  refine ⟨s3.push2 o' v' (fun _ _=>rfl) (Nat.le_refl _) hO (fun b hb hd=>?_),⟨rfl,rfl,rfl,Nat.le_refl _,fun _ _ _=>rfl,fun i v hv=>Yra hv,fun _ h=>h,fun _ h=>.inl h,fun b hb=>.inl ?_⟩⟩
  · obtain ⟨j,o1,v1,ho1,hl1,hv1,hb1⟩:=hd
    rcases Jia ho1 with ⟨rfl,rfl,_⟩ | ⟨hne,h2⟩
    · simp [Ob.live] at hl1
    · exact hs.sep j k o1 _ v1 _ b hne h2 ho hl1 hl hv1 hv hb1 (hsub b hb)
  · obtain ⟨j,o1,v1,ho1,hl1,hv1,hb1⟩:=hb
    rcases get_app ho1 with h2 | ⟨rfl,rfl⟩
    · have hlt:=(List.getElem?_eq_some_iff.1 h2).1
      rw [List.getElem?_append_left (by rw [s3.len];exact hlt)] at hv1
      rcases Jia h2 with ⟨rfl,rfl,_⟩ | ⟨hne,h3⟩
      · simp [Ob.live] at hl1
      · exact ⟨j,o1,v1,h3,hl1,hv1,hb1⟩
    · rw [← s3.len] at hv1
      simp at hv1
      subst hv1
      exact ⟨k,o,v,ho,hl,hv,hsub b hb1⟩
theorem run_boundsU {fr:List AV} {a:Act} (ha:ARel σ w F fr a) {y:Operand} {len cap:Nat} {kh:IntKind} {h:Int} (eh:ev fr y=.int kh h) (h0:0≤h) (h2:h≤cap) (w':World) :
    (Instr.sliceBounds true len cap none (some (a.eval y)) none).run P w'=.ok (0,h.toNat,cap) w':=by
  have e:a.eval y=.int kh h:=by
    have hz:=ha.ev y
    rw [eh] at hz
    generalize a.eval y=vz at hz ⊢
    cases hz
    rfl
  have b1:∀ code w',(Instr.sliceBound (.int kh h) cap code).run P w'=.ok h.toNat w':=fun code w'=>run_sliceBound (P:=P) w' kh h cap code (by omega) (by omega)
  simp [Instr.sliceBounds,Sem.run_bind,e,b1]
theorem o_room {t:TypeId} {x1 hi:Operand} {id e c k x C m0:Nat} {j:Int} {kq:IntKind} (hS:SliceOf P t e c) (hx:evA n l x1=.vw id c 0 m0 (some C)) (hm:m0=xs.length) (hy:evA n l hi=.int kq j) (ho:aw[id]?=some (.arr e c (xs.map en)))
    (hr:roomx xs.length C j=some x) (hk:aw.length=k) (ha:aw.set id .dead++[.arrU e c (xs.map en) x]=aw') (h:K2 (.ref k) aw'):OP P N ⟨d,.slice t x1 none (some hi) none,ty,ps,af,g⟩ (mkA n l) aw K2 :=
  OP.of_ok (fun σ w F a har hs=>by
    unfold roomx at hr;split at hr
    · rename_i hc
      cases hr
      subst hk ha hm
      have ex:=har.ev x1
      rw [Q1a,hx] at ex
      generalize hvx:a.eval x1=vx at ex
      cases ex with
      | vw _ _ _ _ N0 C0 _ A B hσ hn hA hcK hz =>
        have hCC:C0=C:=by have:=hcK C rfl;omega
        have hAB:=hz rfl
        subst hAB hCC
        obtain ⟨hN,flat,hown,hfl,hcase⟩:=Jfb hs ho hσ
        rw [List.length_map] at hN
        subst hN
        obtain ⟨ds,hd⟩:=Option.isSome_iff_exists.1 hS.s
        obtain ⟨g0,e3,_⟩:=hA hc.1
        subst e3
        have hF:¬ F g0:=by
          obtain ⟨_,_,_,hf,_⟩:=hs.obj id _ _ ho hσ
          exact hf g0 rfl
        have b:=fun w'=>run_boundsU (P:=P) har (y:=hi) (len:=xs.length) (cap:=C0 - 0) (by rw [Q1a,hy]) (by omega) (by omega) w'
        have h0:(⟨g0,0,none⟩:Addr).add 0=⟨g0,0,none⟩:=by simp [Addr.add]
        have hrun:(execOp a.eval ⟨d,.slice t x1 none (some hi) none,ty,ps,af,g⟩).run P w=.ok (.value (.slice (some ⟨g0,0,none⟩) j.toNat C0)) w:=by
          simp only [Nat.sub_zero] at b hvx
          simp [execOp,hvx,Instr.sliceAt,Instr.slice,Sem.run_bind,run_underlying hS.u,b,J1a hd,h0]
        have hjj:(xs.map en).length+(j.toNat - xs.length)=j.toNat:=by rw [List.length_map];omega
        obtain ⟨s2,m2⟩:=lose_push (v':=.slice (some ⟨g0,0,none⟩) j.toNat C0) (o':=.arrU e c (xs.map en) (j.toNat - xs.length)) hs ho rfl hσ
          ⟨g0,C0,flat,by rw [hjj],by rw [hjj];omega,by rw [List.length_map];exact hown,hfl.mono (fun _ _ e=>Yra e) (fun _ e=>e) (fun _ _=>rfl),hF⟩ (fun _ h=>h)
        refine ⟨_,_,w,_,_,F,_,hrun,.inl rfl,s2,m2,?_,h⟩
        exact .ref _ _ _ _ (by rw [← hs.len];simp)
    · cases hr)
theorem u_form {id e c x:Nat} {rows:List (List AV)} {A:Option Addr} {q cp:Nat} (hs:Sim aw σ w F) (ho:aw[id]?=some (.arrU e c rows x)) (hσ:σ[id]?=some (.slice A q cp)) :
    q=rows.length+x∧q≤cp∧∃ g flat cur,A=some ⟨g,0,none⟩∧¬ F g∧w.heap[g]?=some (.cells cur e (0,0))∧cp≤maxLen∧cur.size=cp*c∧cur.toList.take (rows.length*c)=flat∧flat.length=rows.length*c∧FlatRel σ w F c rows flat:=by
  obtain ⟨g,C,flat,e1,h1,hown,hfl,hF⟩:=hs.obj id _ _ ho hσ
  cases e1
  rcases hown.2 with ⟨h2,_⟩ | ⟨g',cap,cur,h2,_,hg,h3,h4,h5,h6⟩
  · cases h2
  · cases h2
    exact ⟨rfl,h1,g,flat,cur,rfl,hF,hg,h4,h5,h6,hown.1,hfl⟩
theorem o_slice_U {t:TypeId} {x1:Operand} {lo hi:Option Operand} {id e c x:Nat} {i j:Int} {k k':IntKind} {u:Unit} (hS:SliceOf P t e c) (hx:evA n l x1=.ref id) (ho:aw[id]?=some (.arrU e c (xs.map en) x))
    (hl:(lo.map (evA n l)).getD (.int .i64 0)=.int k i) (hh:(hi.map (evA n l)).getD (.int .i64 (xs.length+x:Nat))=.int k' j) (hv:vwok (xs.length+x) i j=some u) (h:K2 (.vw id c i.toNat (j.toNat - i.toNat) none) aw) :
    OP P N ⟨d,.slice t x1 lo hi none,ty,ps,af,g⟩ (mkA n l) aw K2 :=
  OP.of_ok (fun σ w F a har hs=>by
    unfold vwok at hv;split at hv
    · rename_i hc
      have ex:=har.ev x1
      rw [Q1a,hx] at ex
      generalize hvx:a.eval x1=vx at ex
      cases ex with
      | ref _ A q cp hσ =>
        obtain ⟨h1,h2,g0,flat,cur,rfl,_⟩:=u_form hs ho hσ
        rw [List.length_map] at h1
        subst h1
        obtain ⟨ds,hd⟩:=Option.isSome_iff_exists.1 hS.s
        have hsz:=J1a hd
        rw [hS.c] at hsz
        have b:=fun w'=>run_bounds (P:=P) har (lo:=lo) (hi:=hi) (b:=true) (len:=xs.length+x) (cap:=cp) (by rw [map_evA];exact hl) (by rw [map_evA];exact hh) hc.1 hc.2.1 hc.2.2 h2 w'
        refine ⟨.slice (if cp=i.toNat then some ⟨g0,0,none⟩ else (some ⟨g0,0,none⟩:Option Addr).map (·.add (i.toNat*c))) (j.toNat - i.toNat) (cp - i.toNat),_,w,aw,σ,F,_,?_,.inl rfl,hs,.refl ..,?_,h⟩
        · simp [execOp,hvx,Instr.sliceAt,Instr.slice,Sem.run_bind,run_underlying hS.u,b,hsz]
        · refine .vw id c _ _ _ cp none _ _ hσ (by omega) (fun hpos=>⟨g0,rfl,?_⟩) (fun k hk=>by cases hk) (fun h0=>?_)
          · have:¬ cp=i.toNat:=by omega
            rw [if_neg this,Option.map_some,Q6b]
          · rw [h0];split<;>simp [Addr.add]
    · cases hv)
theorem flatten_drop {c:Nat}:∀ (k:Nat) (l:List (List AV)),(∀ row,row∈l→row.length=c)→(l.drop k).flatten=l.flatten.drop (k*c):=by
  intro k
  induction k with
  | zero=>intro l _;simp
  | succ k ih =>
    intro l hl
    cases l with
    | nil=>simp
    | cons x l =>
      rw [List.drop_succ_cons,ih l (fun row hr=>hl row (List.mem_cons_of_mem _ hr)),List.flatten_cons,Nat.add_mul,Nat.one_mul,← hl x List.mem_cons_self,Nat.add_comm (k*x.length),← List.drop_drop,List.drop_left]
theorem o_copy_U {t ts e c id x lo m lo2 m2:Nat} {x1 y:Operand} {cap cap2:Option Nat} {r:List α} (hS:SliceOf P t e c) (hen:∀ a,(en a).length=c) (hx:evA n l x1=.vw id c lo m cap) (hy:evA n l y=.vw id c lo2 m2 cap2) (ho:aw[id]?=some (.arrU e c (xs.map en) x))
    (hr:cpyU xs x lo m lo2 m2=some r) (ha:aw.set id (.arr e c (r.map en))=aw') (h:K2 (.int .i64 m) aw'):OP P N ⟨d,.call ⟨.builtin .copy,#[x1,y],#[t,ts]⟩,ty,ps,af,g⟩ (mkA n l) aw K2 :=
  OP.of_ok (fun σ w F a har hs=>by
    unfold cpyU at hr;split at hr
    · rename_i hc
      obtain ⟨c1,c2,c3,c4,c5⟩:=hc
      cases hr
      subst ha
      have ex:=har.ev x1
      have ey:=har.ev y
      rw [Q1a,hx] at ex
      rw [Q1a,hy] at ey
      generalize hvx:a.eval x1=vx at ex
      generalize hvy:a.eval y=vy at ey
      cases ex with
      | vw _ _ _ _ N0 C _ A B hσ hn hA _ _ =>
      cases ey with
      | vw _ _ _ _ N1 C1 _ A1 B1 hσ1 hn1 hA1 _ _ =>
      rw [hσ] at hσ1
      cases hσ1
      obtain ⟨hq,hqc,g0,flat,cur,e0,hF,hg,hcm,hsz,htk,hfll,hfl⟩:=u_form hs ho hσ
      subst e0
      obtain ⟨g1,e1,rfl⟩:=hA c1
      cases e1
      obtain ⟨g1,e1,rfl⟩:=hA1 (by omega)
      cases e1
      rw [List.length_map] at hq htk hfll
      obtain ⟨ds,hds⟩:=Option.isSome_iff_exists.1 hS.s
      have hsize:=J1a hds
      rw [hS.c] at hsize
      have hrow:∀ row,row∈xs.map en→row.length=c:=hfl.1
      have hvl:(flat.drop (lo2*c)).length=m*c:=by
        rw [List.length_drop,hfll,← c5,Nat.add_mul];omega
      have hfirst:(Builtin.firstCells c m (.slice (some ⟨g0,lo2*c,none⟩) m2 (C - lo2))).run P w=.ok (flat.drop (lo2*c)).toArray w :=
        run_firstCells_some w c m ⟨g0,lo2*c,none⟩ m2 (C - lo2) (flat.drop (lo2*c)) hvl (fun j u hj=>by
          rw [List.getElem?_drop] at hj
          have hlt:lo2*c+j<xs.length*c:=by rw [← hfll];exact (List.getElem?_eq_some_iff.1 hj).1
          rw [← htk,List.getElem?_take,if_pos hlt] at hj
          rw [show (⟨g0,lo2*c,none⟩:Addr).add j=⟨g0,lo2*c+j,none⟩ from by unfold Addr.add;split<;>simp_all,cell_of_row w g0 _ cur e (0,0) hg]
          simpa using hj)
      have hone:∀ u,u∈flat.drop (lo2*c)→u.oneCell'=true:=fun u hu=>hfl.2.1 u (List.mem_of_mem_drop hu)
      have hcap:lo*c+m*c≤cur.size:=by rw [hsz,← Nat.add_mul];exact Nat.mul_le_mul_right _ (by omega)
      have hst:=run_storeCells_at P g0 (lo*c) e (flat.drop (lo2*c)) 0 cur w hg (by omega) hone
      simp only [Nat.add_zero] at hst
      have hmin:Nat.min m2 m=m:=Nat.min_eq_right c2
      have hrun:(Builtin.copy_ #[t,ts] ty #[.slice (some ⟨g0,lo*c,none⟩) m (C - lo),.slice (some ⟨g0,lo2*c,none⟩) m2 (C - lo2)]).run P w=.ok (goInt m) (w.setRow g0 (cur.toList.take (lo*c)++flat.drop (lo2*c)++cur.toList.drop (lo*c+(flat.drop (lo2*c)).length)).toArray):=by
        simp [Builtin.copy_,Sem.run_bind,run_underlying hS.u,Builtin.lenOf,hmin,hsize,hfirst,hst]
      have hkk:∀ b,b≠g0→(w.setRow g0 (cur.toList.take (lo*c)++flat.drop (lo2*c)++cur.toList.drop (lo*c+(flat.drop (lo2*c)).length)).toArray).heap[b]?=w.heap[b]?:=fun b hb=>setRow_other w g0 b _ hb
      have hlen2:((xs.take lo++xs.drop lo2).map en).length=N0:=by simp;omega
      have e5:cur.toList.take (lo*c)=flat.take (lo*c):=by rw [← htk,List.take_take,Nat.min_eq_left (Nat.mul_le_mul_right _ c3)]
      have hll:(flat.take (lo*c)++flat.drop (lo2*c)).length=N0*c:=by
        have:lo*c≤xs.length*c:=Nat.mul_le_mul_right _ c3
        rw [List.length_append,hvl,List.length_take,hfll,Nat.min_eq_left this,← Nat.add_mul]
        congr 1;omega
      have hORel:ORel σ (w.setRow g0 (cur.toList.take (lo*c)++flat.drop (lo2*c)++cur.toList.drop (lo*c+(flat.drop (lo2*c)).length)).toArray) F (.arr e c ((xs.take lo++xs.drop lo2).map en)) (.slice (some ⟨g0,0,none⟩) N0 C):=by
        refine ⟨flat.take (lo*c)++flat.drop (lo2*c),⟨by rw [hlen2];exact hll,.inr ⟨g0,C,_,by rw [hlen2],Nat.zero_le _,setRow_heap w g0 cur _ e (0,0) hg,by rw [hlen2];exact hqc,hcm,?_,?_⟩⟩,⟨fun row hr=>?_,fun u hu=>?_,?_⟩,fun g2 hg2=>?_,_,_,_,rfl⟩
        · simp only [List.size_toArray,List.length_append,List.length_take,List.length_drop,Array.length_toList] at hvl ⊢
          omega
        · rw [hlen2]
          simp only [List.toList_toArray]
          rw [e5]
          exact List.take_left' hll
        · obtain ⟨a,_,rfl⟩:=List.mem_map.1 hr
          exact hen a
        · rcases List.mem_append.1 hu with hu | hu
          · exact hfl.2.1 u (List.mem_of_mem_take hu)
          · exact hone u hu
        · rw [List.map_append,List.map_take,List.map_drop,List.flatten_append,Qob _ _ hrow,flatten_drop _ _ hrow]
          have hd2:RelL σ w F ((xs.map en).flatten.drop (lo2*c)) (flat.drop (lo2*c)):=by
            refine ⟨by simp [hfl.2.2.1],fun j a v ha hv=>?_⟩
            rw [List.getElem?_drop] at ha hv
            exact hfl.2.2.2 _ a v ha hv
          exact ((hfl.2.2.take _).append hd2).mono (fun _ _ e=>e) (fun _ e=>e) (fun b hb=>hkk b (fun e=>hF (e▸hb)))
        · simp [Value.ownBlock] at hg2;subst hg2;exact hF
      refine ⟨goInt m,_,_,_,σ,F,_,?_,.inl rfl,hs.write (b0:=g0) id ho rfl hσ rfl hkk (by simp) _ hORel (fun _ h=>h),Mv.write (w:=w) (w':=w.setRow g0 _) (F:=F) (b0:=g0) id ho rfl hσ rfl rfl rfl rfl hkk (by simp) _ (fun _ h=>h),.int _ _,h⟩
      simp [execOp,resolve,invoke,builtin,Sem.run_bind,hvx,hvy,hrun]
    · cases hr)
theorem o_copy_vr {t ts e c id lo m id2:Nat} {x y:Operand} {cap:Option Nat} {u:Unit} (hS:SliceOf P t e c) (hen:∀ a,(en a).length=c) (hx:evA n l x=.vw id c lo m cap) (hy:evA n l y=.ref id2) (ho:aw[id]?=some (.arr e c (xs.map en))) (ho2:aw[id2]?=some (.arr e c (ys.map en)))
    (hv:vwok xs.length lo ((lo:Int)+m)=some u) (ha:aw.set id (.arr e c ((cpy xs lo m ys).map en))=aw') (h:K2 (.int .i64 (min m ys.length:Nat)) aw'):OP P N ⟨d,.call ⟨.builtin .copy,#[x,y],#[t,ts]⟩,ty,ps,af,g⟩ (mkA n l) aw K2:=by
  unfold vwok at hv;split at hv
  · rename_i hc
    have hrow:∀ row,row∈ys.map en→row.length=c:=fun row hr=>by obtain ⟨a,_,rfl⟩:=List.mem_map.1 hr;exact hen a
    rw [cpy_map] at ha
    refine o_copy_gen (news:=ys.map en) (k:=min m ys.length) hS hx hy ho (fun σ w F v _ hr=>isV_vw hr) (fun σ w F v hs hr=>?_) hrow (by simp) (by simp;omega) ha h
    obtain ⟨flat,h1,h2,h3,_⟩:=src_isV hs ho2 (isV_ref hs ho2 hr) (by omega)
    rw [List.drop_zero,List.take_length] at h2
    exact ⟨flat,h1,h2,h3⟩
  · cases hv
theorem o_copy_v2 {t ts e c id lo m id2 lo2 m2:Nat} {x y:Operand} {cap cap2:Option Nat} {u u2:Unit} (hS:SliceOf P t e c) (hen:∀ a,(en a).length=c) (hx:evA n l x=.vw id c lo m cap) (hy:evA n l y=.vw id2 c lo2 m2 cap2) (ho:aw[id]?=some (.arr e c (xs.map en))) (ho2:aw[id2]?=some (.arr e c (ys.map en)))
    (hv:vwok xs.length lo ((lo:Int)+m)=some u) (hv2:vwok ys.length lo2 ((lo2:Int)+m2)=some u2) (ha:aw.set id (.arr e c ((cpy xs lo m ((ys.drop lo2).take m2)).map en))=aw') (h:K2 (.int .i64 (min m m2:Nat)) aw'):OP P N ⟨d,.call ⟨.builtin .copy,#[x,y],#[t,ts]⟩,ty,ps,af,g⟩ (mkA n l) aw K2:=by
  unfold vwok at hv hv2
  split at hv<;>split at hv2
  · rename_i hc hc2
    have hl2:((ys.drop lo2).take m2).length=m2:=by rw [List.length_take,List.length_drop];omega
    have hrow:∀ row,row∈((ys.drop lo2).take m2).map en→row.length=c:=fun row hr=>by obtain ⟨a,_,rfl⟩:=List.mem_map.1 hr;exact hen a
    rw [cpy_map,hl2] at ha
    refine o_copy_gen (news:=((ys.drop lo2).take m2).map en) (k:=min m m2) hS hx hy ho (fun σ w F v _ hr=>isV_vw hr) (fun σ w F v hs hr=>?_) hrow (by rw [List.length_map,hl2]) (by simp;omega) ha h
    obtain ⟨flat,h1,h2,h3,_⟩:=src_isV hs ho2 (isV_vw hr) (by simp;omega)
    rw [List.length_map,hl2]
    rw [← List.map_drop,← List.map_take] at h2
    exact ⟨flat,h1,h2,h3⟩
  · cases hv2
  · cases hv
  · cases hv
theorem o_app_vz {z0:α} {r:List α} {t tn:TypeId} {x y:Operand} {id e c k m0 K:Nat} {m:Int} {kn kq:IntKind} (hS:SliceOf P t e c) (htn:P.underlying tn=some (.int kn)) (hz:Q3a P e=some (en z0)) (hen:∀ a,(en a).length=c)
    (hx:evA n l x=.vw id c 0 m0 (some K)) (hy:evA n l y=.int kq m) (ho:aw[id]?=some (.arr e c (xs.map en))) (hr:growz xs m0 K m z0=some r) (hk:aw.length=k) (ha:aw++[.arr e c (r.map en)]=aw') (h:K2 (.ref k) aw') :
    OP P N ⟨d,.call ⟨.builtin .append,#[x,y],#[t,tn]⟩,ty,ps,af,g⟩ (mkA n l) aw K2 :=
  OP.of_ok (fun σ w F a har hs=>by
    unfold growz at hr;split at hr
    · rename_i hc
      cases hr
      subst hk ha
      have ex:=har.ev x
      have ey:=har.ev y
      rw [Q1a,hx] at ex
      rw [Q1a,hy] at ey
      generalize hvx:a.eval x=vx at ex
      generalize hvy:a.eval y=vy at ey
      cases ey
      cases ex with
      | vw _ _ _ _ N0 C _ A B hσ hn hA hcK hzz =>
        have hAB:=hzz rfl
        subst hAB
        have hKC:K=C:=by have:=hcK K rfl;omega
        subst hKC
        obtain ⟨hN,flat,hown0,hfl,hcase⟩:=Jfb hs ho hσ
        rw [List.length_map] at hN
        subst hN
        have hcut:m0*c≤xs.length*c:=Nat.mul_le_mul_right _ hc.1
        have hcc:=hS.c
        have hownp:w.ownsRow 0 e (P.cellsOf e) (.slice A m0 (K - 0)) m0 (flat.take (m0*c)):=by
          rw [hcc]
          refine ⟨by rw [List.length_take,hown0.1,Nat.min_eq_left hcut],?_⟩
          rcases hown0.2 with ⟨h2,h3⟩ | ⟨g0,cap,cur,h2,h3,h4,h5,h6,h7,h8⟩
          · injection h2 with h5 h6 h7
            have hm0:m0=0:=by omega
            exact .inl ⟨by simp [h5,hm0,h7],hm0⟩
          · cases h2
            refine .inr ⟨g0,K,cur,rfl,h3,h4,by omega,h6,h7,?_⟩
            rw [← h8,List.take_take,Nat.min_eq_left hcut]
        have hlen:m0+m.toNat≤1099511627776:=hc.2.2.2
        obtain ⟨v',w',news,hrun,hown,hg,hat,hr,h1,hbig⟩:=app_zeros (σ:=σ) (F:=F) (ty:=ty) (kq:=kq) hS.u htn hz (by rw [hen,hcc]) (by rw [hcc];exact hS.p) hS.b hownp (m:=m.toNat) (by omega) hlen
        rw [Int.toNat_of_nonneg (by omega)] at hrun
        rw [hcc] at hown
        obtain ⟨hnew,hg0⟩:=hbig A m0 (K - 0) rfl (by omega)
        have hrow:∀ row,row∈List.replicate m.toNat (en z0)→row.length=c:=fun row hm=>by rw [List.eq_of_mem_replicate hm,hen]
        have hfl2:FlatRel σ w F c ((xs.map en).take m0) (flat.take (m0*c)) :=
          ⟨fun row hr=>hfl.1 row (List.mem_of_mem_take hr),fun u hu=>hfl.2.1 u (List.mem_of_mem_take hu),by rw [Qob _ _ hfl.1];exact hfl.2.2.take _⟩
        have hl2:m0+m.toNat=((xs.map en).take m0++List.replicate m.toNat (en z0)).length:=by simp;omega
        rw [hl2] at hown
        obtain ⟨s2,m2,r2⟩:=app_push (aw0:=aw) (vx:=.slice none 0 0) hs (fun _ h=>h) hfl2 hrow hr h1 hown hg0 (.inr hnew) (fun b hb=>by simp [Value.ownBlock] at hb)
        have e2:(xs.map en).take m0++List.replicate m.toNat (en z0)=(xs.take m0++List.replicate m.toNat z0).map en:=by simp
        rw [e2] at s2 m2
        refine ⟨v',_,w',_,_,F,_,?_,.inl rfl,s2,m2,r2,h⟩
        simp only [Nat.sub_zero] at hrun hvx
        simp [execOp,resolve,invoke,builtin,Sem.run_bind,hvx,hvy,hrun]
    · cases hr)
theorem o_app_vw {r:List α} {id e c k m0 C t tx:Nat} {y:Operand} {aw1:List Ob} (hS:SliceOf P t e c) (hen:∀ a,(en a).length=c) (hx:evA n l (.tmp tx)=.vw id c 0 m0 (some C)) (hm:m0=xs.length) (ho0:aw[id]?=some (.arr e c (xs.map en))) (hlt:Nat.blt tx n=true)
    (hy:norm aw (evA n ((tx,.ref id)::l) y)=(.sl (ys.map en),aw1)) (ho:aw1[id]?=some (.arr e c (xs.map en))) (hr:app xs ys=some r) (hk:aw1.length=k) (ha:aw1.set id .dead++[.arr e c (r.map en)]=aw') (h:K2 (.ref k) aw') :
    OP P N ⟨d,.call ⟨.builtin .append,#[.tmp tx,y],#[t,t]⟩,ty,ps,af,g⟩ (mkA n l) aw K2 :=
  OP.of_ok (fun σ w F a har hs=>by
    unfold app at hr;split at hr
    · rename_i hc
      cases hr
      subst hk ha
      have ex:=har.ev (.tmp tx)
      rw [Q1a,hx] at ex
      have har2:=aRel_re har rfl (unvw hs ho0 ex (by rw [List.length_map];exact hm))
      obtain ⟨z',hz1,hz2⟩:=hS.z
      have hx2:evA n ((tx,.ref id)::l) (.tmp tx)=.ref id:=by
        show (match Nat.blt tx n with | true=>lkA ((tx,.ref id)::l) tx | false=>.any)=_
        rw [hlt]
        show lkA ((tx,.ref id)::l) tx=_
        rw [lkA_cons,if_pos rfl]
      refine e_append har2 hs (args:=#[.tmp tx,y]) (ats:=#[t,t]) ?_ _ rfl
      simp only [vcApp,hS.u,hz1,Q1a,hx2,hy,hS.c,List.length_map,ho]
      exact ⟨trivial,trivial,trivial,hz2,hS.p,fun row hr=>by obtain ⟨a,_,rfl⟩:=List.mem_map.1 hr;exact hen a,hc,hS.b,by rw [← List.map_append];exact h⟩
    · cases hr)
theorem T.nilA {code:Code} {Q:Exit→List AV→List Ob→Prop} (t j e z:Nat) {cs cs':List AV} (hx:evA n l (.tmp t)=.agg cs) (hj:cs[j]?=some .nils) (hc:cs.set j (.ref aw.length)=cs') (ha:aw++[.arr e z []]=aw') (h:T P N code Q (mkA n ((t,.agg cs')::l)) aw'):T P N code Q (mkA n l) aw :=
  ⟨fun st h1 h2 σ w F a hcur=>by
    subst hc ha
    obtain ⟨s1,m1,r1⟩:=nil_push e z hcur.sim
    have hr:=hcur.fr.ev (.tmp t)
    rw [Q1a,hx] at hr
    generalize hv:a.eval (.tmp t)=v at hr
    have hr1:=m1.rel hcur.sim hr
    have hr2:Rel (σ++[.slice none 0 0]) w F (.agg (cs.set j (.ref aw.length))) v:=by
      cases hr1 with
      | agg _ vs hl h1c hcc =>
        refine .agg _ vs (by simpa using hl) h1c (fun i x u hx hu=>?_)
        rw [List.getElem?_set] at hx
        split at hx
        · rename_i e1
          subst e1
          split at hx
          · cases hx
            have:=hcc j .nils u hj hu
            cases this
            exact r1
          · cases hx
        · exact hcc i x u hx hu
    exact h.out st h1 h2 _ w F a ⟨s1,aRel_re (m1.aRel hcur.sim hcur.fr) hv hr2,hcur.mv.trans m1⟩⟩
theorem sim_obW {id:Nat} {o o':Ob} (hs:Sim aw σ w F) (ho:aw[id]?=some o) (hl:o.live=true) (hO:∀ v,σ[id]?=some v→ORel σ w F o v→ORel σ w F o' v) (hB:∀ v b,Bk o' v b→Bk o v b):Sim (aw.set id o') σ w F∧Mv aw σ w F (aw.set id o') σ w F:=by
  have un:∀ (k:Nat) o1,(aw.set id o')[k]?=some o1→o1.live=true→∃ o2,aw[k]?=some o2∧o2.live=true∧∀ v b,Bk o1 v b→Bk o2 v b:=fun k o1 h1 hl1=>by
    rcases Jia h1 with ⟨rfl,rfl,_⟩ | ⟨_,h2⟩
    · exact ⟨o,ho,hl,hB⟩
    · exact ⟨o1,h2,hl1,fun _ _ h=>h⟩
  refine ⟨⟨by simp [hs.len],fun k o1 v1 ho1 hv1=>?_,fun k k' o1 o2 v1 v2 g hne ho1 ho2 hl1 hl2 hv1 hv2 hb1 hb2=>?_,hs.lt⟩,⟨rfl,rfl,rfl,Nat.le_refl _,fun _ _ _=>rfl,fun _ _ h=>h,fun _ h=>h,fun _ h=>.inl h,fun b hb=>.inl ?_⟩⟩
  · rcases Jia ho1 with ⟨rfl,rfl,_⟩ | ⟨_,h2⟩
    · exact hO v1 hv1 (hs.obj _ _ v1 ho hv1)
    · exact hs.obj k o1 v1 h2 hv1
  · obtain ⟨p1,e1,l1,b1⟩:=un k o1 ho1 hl1
    obtain ⟨p2,e2,l2,b2⟩:=un k' o2 ho2 hl2
    exact hs.sep k k' p1 p2 v1 v2 g hne e1 e2 l1 l2 hv1 hv2 (b1 _ _ hb1) (b2 _ _ hb2)
  · obtain ⟨k,o1,v1,ho1,hl1,hv1,hb1⟩:=hb
    obtain ⟨p1,e1,l1,b1⟩:=un k o1 ho1 hl1
    exact ⟨k,p1,v1,e1,l1,hv1,b1 _ _ hb1⟩
def nilW:List AV→List AV→Prop
  | [],[]=>True
  | a::as₀,b::bs=>(b=a∨a=.nils∧b=.sl [])∧nilW as₀ bs
  | _,_=>False
theorem nilW_len:∀ {as₀ bs:List AV},nilW as₀ bs→as₀.length=bs.length
  | [],[],_=>rfl
  | a::as₀,b::bs,h=>by simp [nilW_len h.2]
  | [],_::_,h=>h.elim
  | _::_,[],h=>h.elim
theorem nilW_app:∀ {as₀ bs cs ds:List AV},nilW as₀ bs→nilW cs ds→nilW (as₀++cs) (bs++ds)
  | [],[],_,_,_,k=>k
  | a::as₀,b::bs,_,_,h,k=>⟨h.1,nilW_app h.2 k⟩
  | [],_::_,_,_,h,_=>h.elim
  | _::_,[],_,_,h,_=>h.elim
theorem nilW_rel {as₀ bs:List AV} {vs:List Value} (h:nilW as₀ bs) (hr:RelL σ w F as₀ vs):RelL σ w F bs vs:=by
  have key:∀ {as₀ bs:List AV},nilW as₀ bs→∀ (j:Nat) a b,as₀[j]?=some a→bs[j]?=some b→b=a∨a=.nils∧b=.sl []:=by
    intro as₀
    induction as₀ with
    | nil=>intro bs _ j a b ha;simp at ha
    | cons x as₀ ih =>
      intro bs h j a b ha hb
      cases bs with
      | nil=>exact h.elim
      | cons y bs =>
        cases j with
        | zero=>simp at ha hb;subst ha hb;exact h.1
        | succ j=>exact ih h.2 j a b (by simpa using ha) (by simpa using hb)
  refine ⟨by rw [hr.1,nilW_len h],fun j b v hb hv=>?_⟩
  have hj:j<as₀.length:=by rw [nilW_len h];exact (List.getElem?_eq_some_iff.1 hb).1
  have ha:as₀[j]?=some as₀[j]:=List.getElem?_eq_getElem hj
  have hav:=hr.2 j _ v ha hv
  rcases key h j _ b ha hb with e | ⟨e1,e2⟩
  · rw [e];exact hav
  · rw [e1] at hav
    cases hav
    rw [e2];exact .slNil
theorem nilW_rep {z z2:List AV} (h:nilW z z2):∀ m:Nat,nilW (List.replicate m z).flatten (List.replicate m z2).flatten
  | 0=>trivial
  | m+1=>by rw [List.replicate_succ,List.replicate_succ,List.flatten_cons,List.flatten_cons];exact nilW_app h (nilW_rep h m)
theorem o_mkN {t e c k:Nat} {x y:Operand} {k1 k2:IntKind} {i:Int} {z:List AV} {zr:α} (hS:SliceOf P t e c) (hz:Q3a P e=some z) (hw:nilW z (en zr)) (hx:evA n l x=.int k1 i) (hy:evA n l y=.int k2 i) (hm:mk i zr=some xs) (hk:aw.length=k) (ha:aw++[.arr e c (xs.map en)]=aw') (h:K2 (.ref k) aw') :
    OP P N ⟨d,.makeSlice t x y,ty,ps,af,g⟩ (mkA n l) aw K2:=by
  unfold mk at hm;split at hm
  · rename_i hc
    cases hm
    subst hk ha
    have base:OP P N ⟨d,.makeSlice t x y,ty,ps,af,g⟩ (mkA n l) aw fun r aw1=>r=.ref aw.length∧aw1=aw++[.arr e c (List.replicate i.toNat z)]:=OP.of_vc (by
      obtain ⟨z',hz1,hz2⟩:=hS.z
      rw [hz] at hz1;cases hz1
      rw [vo_makeSlice,hS.u];simp only [Q1a,hx,hy,hz]
      refine ⟨by rw [hS.c,hz2],by rw [hS.c];exact hS.p,hc.1,Int.le_refl _,.inr trivial,?_,by unfold maxLen;omega,by rw [hS.c];exact ⟨trivial,rfl⟩⟩
      have h1:i.toNat≤1099511627776:=by omega
      exact Nat.le_trans (Nat.mul_le_mul hS.b h1) (by decide))
    refine ⟨fun st h1 h2 σ w F a hcur Kc Q hK=>base.out st h1 h2 σ w F a hcur Kc Q ?_⟩
    rintro r aw1 σ' w' F' v ⟨rfl,rfl⟩ hc2 hr
    have hget:(aw++[Ob.arr e c (List.replicate i.toNat z)])[aw.length]?=some (.arr e c (List.replicate i.toNat z)):=by simp
    obtain ⟨s3,m3⟩:=sim_obW (o':=.arr e c ((List.replicate i.toNat zr).map en)) hc2.sim hget rfl (fun v _ hO=>by
      obtain ⟨flat,hown,hfl,hf,hform⟩:=hO
      have hlen:(List.replicate i.toNat z).length=((List.replicate i.toNat zr).map en).length:=by simp
      refine ⟨flat,by rw [← hlen];exact hown,⟨fun row hrow=>?_,hfl.2.1,?_⟩,hf,hform⟩
      · obtain ⟨a',ha',rfl⟩:=List.mem_map.1 hrow
        have hi:0<i.toNat:=by
          rcases Nat.eq_zero_or_pos i.toNat with e0 | e0
          · rw [e0] at ha';simp at ha'
          · exact e0
        rw [List.eq_of_mem_replicate ha',← nilW_len hw]
        exact hfl.1 z (by rw [List.mem_replicate];exact ⟨by omega,rfl⟩)
      · rw [List.map_replicate]
        exact nilW_rel (nilW_rep hw i.toNat) hfl.2.2) (fun _ _ h=>h)
    have hset:(aw++[Ob.arr e c (List.replicate i.toNat z)]).set aw.length (.arr e c ((List.replicate i.toNat zr).map en))=aw++[.arr e c ((List.replicate i.toNat zr).map en)]:=by
      rw [List.set_append_right _ _ (Nat.le_refl _),Nat.sub_self];rfl
    rw [hset] at s3 m3
    exact hK (.ref aw.length) _ σ' w' F' v h (hc2.step s3 m3) (m3.rel hc2.sim hr)
  · cases hm
theorem o_overlaps {f:FuncId} {fn:Func} {tS tR e c i1 i2 lo m x:Nat} {cap:Option Nat} {x1 y:Operand} {ts:Array TypeId} {u:Unit} (hf:P.funcs[f]?=some fn) (hname:(fn.name == "runtime.NumGoroutine")=false) (hb:fn.body.isNone=true) (hn:Extern.findNext fn=none)
    (he:Extern.find fn=some (Extern.SlicesOverlaps.overlaps #[tS,tS] #[tR])) (hS:SliceOf P tS e c) (hx:evA n l x1=.ref i1) (hy:evA n l y=.vw i2 c lo m cap) (h1:aw[i1]?=some (.arr e c (ys.map en))) (h2:aw[i2]?=some (.arrU e c (xs.map en) x)) (hr:ovok ys m=some u) (h:K2 (.bool false) aw) :
    OP P N ⟨d,.call ⟨.value (.func f),#[x1,y],ts⟩,ty,ps,af,g⟩ (mkA n l) aw K2 :=
  OP.of_ok (fun σ w F a har hs=>by
    unfold ovok at hr;split at hr
    · rename_i hc
      have ex:=har.ev x1
      have ey:=har.ev y
      rw [Q1a,hx] at ex
      rw [Q1a,hy] at ey
      generalize hvx:a.eval x1=vx at ex
      generalize hvy:a.eval y=vy at ey
      cases ex with
      | ref _ A q cp hσ =>
      cases ey with
      | vw _ _ _ _ N0 C _ A' B hσ2 hn2 hA _ _ =>
        obtain ⟨g2,e3,e4⟩:=hA hc.2
        subst e3 e4
        obtain ⟨hq,_,_,_,hcase⟩:=Jfb hs h1 hσ
        obtain ⟨hq2,hqc,g0,flat,cur,e0,hF,hg,hcm,hsz,_⟩:=u_form hs h2 hσ2
        cases e0
        rcases hcase with hcase | ⟨g1,cur1,e1,hF1,hg1,_⟩
        · have:ys=[]:=List.map_eq_nil_iff.1 hcase
          subst this;simp at hc
        · subst e1
          have hne:g1≠g2:=by
            rintro rfl
            have hi:i1≠i2:=by rintro rfl;rw [h1] at h2;cases h2
            exact hs.sep i1 i2 _ _ _ _ g1 hi h1 h2 rfl rfl hσ hσ2 rfl rfl
          obtain ⟨ds,hd⟩:=Option.isSome_iff_exists.1 hS.s
          have hsize:=fun w=>J1a (P:=P) (w:=w) hd
          have hk0:cur.size≠0:=by
            rw [hsz]
            exact Nat.mul_ne_zero (by omega) (by have:=hS.p;omega)
          have hov:=Lib.run_overlaps_apart (P:=P) w tS tR e hS.u _ hsize ⟨g1,0,none⟩ ⟨g2,lo*c,none⟩ q cp m (C - lo) hne e e cur1.size cur.size (by simp [World.shape?,hg1]) (by simp [World.shape?,hg]) hk0 (by simp [World.frozen?,hg1]) (by simp [World.frozen?,hg1])
          have hcall:=run_callFunc_extern hf hname hb hn he #[.slice (some ⟨g1,0,none⟩) q cp,.slice (some ⟨g2,lo*c,none⟩) m (C - lo)] w
          rw [hov] at hcall
          refine ⟨.bool false,_,w,aw,σ,F,_,?_,.inl rfl,hs,.refl ..,.bool _,h⟩
          have hvf:a.eval (.func f)=.func (.func f) #[] #[]:=rfl
          have e9:#[x1,y].map a.eval++#[]=#[.slice (some ⟨g1,0,none⟩) q cp,.slice (some ⟨g2,lo*c,none⟩) m (C - lo)]:=by simp [hvx,hvy]
          simp only [execOp,resolve,Deferred.ofValue,hvf,Sem.run_bind,Sem.run_pure,Result.andThen_ok,invoke,Array.empty_append,e9,hcall]
    · cases hr)
end
end Go.Proofs.YtfbmoockopakjaaGreat
namespace Go.Proofs.YtfbmoockopakjaaGreat
open Go.RowKit
set_option linter.unusedVariables false
set_option linter.unusedSimpArgs false
abbrev iI (n:Int):AV:=.int .i64 n
abbrev sL {α:Type} (en:α→List AV) (xs:List α):AV:=.sl (List.map en xs)
abbrev aR {α:Type} (e c:Nat) (en:α→List AV) (xs:List α):Ob:=.arr e c (List.map en xs)
section
variable {P:Program} {N n:Nat} {aw aw':List Ob} {l:List (Nat × AV)} {ops:Array Oper} {os:List Oper} {K:List AV→List Ob→Prop} {o:Oper} {d:Option Tmp} {x:Operand} {ty:TypeId} {ps:String} {af:Array Edge}
theorem sm (v:AV) (hx:evA n l x=v) (h:RS P N ops os K (mkA n (putA l d v)) aw):RS P N ops (⟨d,.move x,ty,ps,af,none⟩::os) K (mkA n l) aw:=RS.op rfl (OP.q rfl (v_move hx h))
theorem sn {j t:Nat} {want b:Bool} (hbw:b=!want) (h:RS P N ops os K (mkA n (putA l o.dst (.tup []))) aw) (hg:o.guard=some (j,want):=by rfl) (ht:(ops[j]?).bind (·.dst)=some t:=by rfl) (hb:evA n l (.tmp t)=.bool b:=by rfl) :
    RS P N ops (o::os) K (mkA n l) aw:=RS.no hg ht hb hbw h
theorem su {j t:Nat} {want:Bool} (h:RS P N ops os K (mkA n (putA l o.dst (.tup []))) aw) (hg:o.guard=some (j,want):=by rfl) (ht:(ops[j]?).bind (·.dst)=some t:=by rfl) (hb:evA n l (.tmp t)=.tup []:=by rfl) :
    RS P N ops (o::os) K (mkA n l) aw:=RS.nou hg ht hb h
def SubA:List (Nat × AV)→List (Nat × AV)→Prop
  | [],_=>True
  | (s,v)::r,l=>lkA l s=v∧SubA r l
theorem subA_lk:∀ {l' l:List (Nat × AV)},SubA l' l→∀ t,lkA l' t=.any∨lkA l' t=lkA l t
  | [],l,_,t=>.inl rfl
  | (s,v)::r,l,h,t=>by
    rw [lkA_cons]
    by_cases e:s=t
    · subst e;rw [if_pos rfl];exact .inr h.1.symm
    · rw [if_neg e];exact subA_lk h.2 t
theorem cur_sub {l':List (Nat × AV)} {st:St} {σ:List Value} {w:World} {F:Nat→Prop} {a:Act} (h:SubA l' l) (hc:Cur st (mkA n l) aw σ w F a):Cur st (mkA n l') aw σ w F a:=by
  refine ⟨hc.sim,⟨⟨?_,fun j x v hx hv=>?_⟩,hc.fr.2⟩,hc.mv⟩
  · have:=hc.fr.1.1
    rw [len_mkA] at this ⊢
    exact this
  · rw [get_mkA] at hx
    split at hx
    · rename_i hj
      cases hx
      rcases subA_lk h j with e | e
      · rw [e];exact .any _
      · rw [e];exact hc.fr.1.2 j _ v (by rw [get_mkA,if_pos hj]) hv
    · cases hx
theorem RA.sub {l':List (Nat × AV)} {k:Nat} {li:Array Bool} (h:RA P N ops k li K (mkA n l') aw) (hs:SubA l' l):RA P N ops k li K (mkA n l) aw:=⟨fun st h1 h2 σ w F a hc=>h.out st h1 h2 σ w F a (cur_sub hs hc)⟩
theorem T.sub {l':List (Nat × AV)} {c:Code} {Q:Exit→List AV→List Ob→Prop} (h:T P N c Q (mkA n l') aw) (hs:SubA l' l):T P N c Q (mkA n l) aw:=⟨fun st h1 h2 σ w F a hc=>h.out st h1 h2 σ w F a (cur_sub hs hc)⟩
section
variable {k:Nat} {li li':Array Bool} {fr fr':List AV}
theorem ra1 (i1:Nat) (h1:RO P N ops i1 (RA P N ops k (li.setIfInBounds i1 true) K) fr aw) (hr:Region.ready .any ops li=[i1]:=by decide +kernel):RA P N ops (k+1) li K fr aw:=RA.a1 hr rfl h1
theorem ra2 (i1 i2:Nat) (h1:RO P N ops i1 (RA P N ops k (li.setIfInBounds i1 true) K) fr aw) (h2:RO P N ops i2 (RA P N ops k (li.setIfInBounds i2 true) K) fr aw) (hr:Region.ready .any ops li=[i1,i2]:=by decide +kernel):RA P N ops (k+1) li K fr aw:=RA.a2 hr rfl rfl h1 h2
theorem ra3 (i1 i2 i3:Nat) (h1:RO P N ops i1 (RA P N ops k (li.setIfInBounds i1 true) K) fr aw) (h2:RO P N ops i2 (RA P N ops k (li.setIfInBounds i2 true) K) fr aw) (h3:RO P N ops i3 (RA P N ops k (li.setIfInBounds i3 true) K) fr aw)
    (hr:Region.ready .any ops li=[i1,i2,i3]:=by decide +kernel):RA P N ops (k+1) li K fr aw:=RA.a3 hr rfl rfl rfl h1 h2 h3
theorem ra4 (i1 i2 i3 i4:Nat) (h1:RO P N ops i1 (RA P N ops k (li.setIfInBounds i1 true) K) fr aw) (h2:RO P N ops i2 (RA P N ops k (li.setIfInBounds i2 true) K) fr aw) (h3:RO P N ops i3 (RA P N ops k (li.setIfInBounds i3 true) K) fr aw)
    (h4:RO P N ops i4 (RA P N ops k (li.setIfInBounds i4 true) K) fr aw) (hr:Region.ready .any ops li=[i1,i2,i3,i4]:=by decide +kernel):RA P N ops (k+1) li K fr aw:=RA.a4 hr rfl rfl rfl rfl h1 h2 h3 h4
end
theorem bz:(∀ b,(true || b)=true)∧(∀ b,(b || true)=true)∧(∀ b,(false || b)=b)∧(∀ b,(b || false)=b)∧(∀ b,(true && b)=b)∧(∀ b,(b && true)=b)∧(∀ b,(false && b)=false)∧(∀ b,(b && false)=false)∧(!true)=false∧(!false)=true:=by
  refine ⟨?_,?_,?_,?_,?_,?_,?_,?_,rfl,rfl⟩<;>intro b<;>cases b<;>rfl
theorem it {α:Type} (a b:α):(if true=true then a else b)=a:=rfl
class RetI (Q:Exit→List AV→List Ob→Prop) (R:outParam (List AV→List Ob→Prop)):Prop where
  out:∀ fr aw,R fr aw→Q .ret fr aw
instance {fn:Func} {M:Nat} {Q:AV→List Ob→Prop}:RetI (retQ P fn M Q) (fun fr aw=>vcRes P fr aw fn.results.toList (Ret M Q aw)):=⟨fun _ _ h=>h⟩
instance {K:List AV→List Ob→Prop} {Q:Exit→List AV→List Ob→Prop} {R:List AV→List Ob→Prop} [h:RetI Q R]:RetI (thenA K Q) R:=⟨h.out⟩
instance {id:Nat} {Q:Exit→List AV→List Ob→Prop} {R:List AV→List Ob→Prop} [h:RetI Q R]:RetI (inBlockA id Q) R:=⟨h.out⟩
instance {α β:Type} {M:Nat} {v:α ⊕ β} {F:α→List AV} {A:α→List Ob} {Q:Exit→List AV→List Ob→Prop} {R:List AV→List Ob→Prop} [h:RetI Q R]:RetI (LQ M v F A Q) R:=⟨h.out⟩
theorem T.rt {Q:Exit→List AV→List Ob→Prop} {R:List AV→List Ob→Prop} {fr:List AV} [hq:RetI Q R] (h:R fr aw):T P N .ret Q fr aw:=T.ret (hq.out fr aw h)
class PureC (a:AV):Prop where
  out:Pure a
class EnP {α:Type} (en:α→List AV):Prop where
  out:∀ a x,x∈en a→Pure x
instance {k:IntKind} {i:Int}:PureC (.int k i):=⟨Qea _ _⟩
instance {b:Bool}:PureC (.bool b):=⟨Vfa _⟩
instance {s:List UInt8}:PureC (.str s):=⟨pure_str _⟩
instance:PureC .nils:=⟨pure_nils⟩
instance:PureC .nilf:=⟨pure_nilf⟩
instance {α:Type} {en:α→List AV} {xs:List α} [h:EnP en]:PureC (.sl (xs.map en)):=⟨Qpa h.out _⟩
class PureCs (cs:List AV):Prop where
  out:∀ a,a∈cs→Pure a
instance:PureCs []:=⟨fun a h=>by cases h⟩
instance {a:AV} {cs:List AV} [h:PureC a] [t:PureCs cs]:PureCs (a::cs):=⟨fun b hb=>by cases hb with | head=>exact h.out | tail _ hb=>exact t.out b hb⟩
instance {cs:List AV} [h:PureCs cs]:PureC (.agg cs):=⟨pure_agg _ h.out⟩
instance {cs:List AV} [h:PureCs cs]:PureC (.tup cs):=⟨pure_tup _ h.out⟩
theorem rw_bs {ρ ids:List Nat} {id:Nat} (cs:List AV) [h:PureCs cs] (ho:aw[id]?=some (.box cs)) (t:RenW ρ aw ids aw'):RenW ρ aw (id::ids) (.box cs::aw'):=Jsa ho (renL_same h.out) t
theorem rw_ar {α:Type} {en:α→List AV} {xs ys:List α} {ρ ids:List Nat} {id e s:Nat} [h:EnP en] (ho:aw[id]?=some (.arr e s (ys.map en))) (hx:xs=ys) (t:RenW ρ aw ids aw'):RenW ρ aw (id::ids) (.arr e s (xs.map en)::aw'):=Z2a ho h.out hx t
theorem rn_s {α:Type} {en:α→List AV} {xs ys:List α} {ρ:List Nat} [hp:EnP en] (h:xs=ys):Ren ρ (.sl (xs.map en)) (.sl (ys.map en)):=rn_sl hp.out h
end
end Go.Proofs.YtfbmoockopakjaaGreat
namespace Go.Proofs.YtfbmoockopakjaaGreat
open Go.RowKit
set_option linter.unusedVariables false
namespace RK
def Over (w w':World):Prop:=∀ r,r<w.heap.size→w'.heap[r]?=w.heap[r]?
theorem Over.rfl' (w:World):Over w w:=fun _ _=>rfl
theorem Over.size {w w':World} (h:Over w w'):w.heap.size≤w'.heap.size:=by
  rcases Nat.eq_zero_or_pos w.heap.size with h0 | h0
  · omega
  · have:=h (w.heap.size - 1) (by omega)
    have hl:w.heap.size - 1<w.heap.size:=by omega
    rw [Array.getElem?_eq_getElem hl] at this
    have:=(Array.getElem?_eq_some_iff.1 this).1
    omega
theorem Over.trans {a b c:World} (h:Over a b) (k:Over b c):Over a c:=fun r hr =>
  (k r (Nat.lt_of_lt_of_le hr h.size)).trans (h r hr)
inductive Keeps {α:Type}:Sem α→Prop
  | pure (a:α):Keeps (.pure a)
  | load (m:Go.Mode) (a:Addr) (k:Value→Sem α):(∀ v,Keeps (k v))→Keeps (.load m a k)
  | new (o:Obj) (k:Nat→Sem α):(∀ r,Keeps (k r))→Keeps (.new o k)
  | shape (r:Nat) (k:Option (TypeId × Nat)→Sem α):(∀ x,Keeps (k x))→Keeps (.shape r k)
  | frozen (a:Addr) (k:Bool→Sem α):(∀ x,Keeps (k x))→Keeps (.frozen a k)
  | getObj (r:Nat) (k:Obj→Sem α):(∀ x,Keeps (k x))→Keeps (.getObj r k)
  | choose (q:Question) (k:Nat→Sem α):(∀ x,Keeps (k x))→Keeps (.choose q k)
  | program (k:Program→Sem α):(∀ x,Keeps (k x))→Keeps (.program k)
  | mark (m:Mark) (k:Sem α):Keeps k→Keeps (.mark m k)
  | halt (h:Halt):Keeps (.halt h)
theorem Keeps.bind {α β:Type} {s:Sem α} (h:Keeps s) {f:α→Sem β} (hf:∀ a,Keeps (f a)):Keeps (s.bind f):=by
  induction h with
  | pure a=>exact hf a
  | load m a k _ ih=>exact .load m a _ fun v=>ih v
  | new o k _ ih=>exact .new o _ fun v=>ih v
  | shape r k _ ih=>exact .shape r _ fun v=>ih v
  | frozen a k _ ih=>exact .frozen a _ fun v=>ih v
  | getObj r k _ ih=>exact .getObj r _ fun v=>ih v
  | choose q k _ ih=>exact .choose q _ fun v=>ih v
  | program k _ ih=>exact .program _ fun v=>ih v
  | mark m k _ ih=>exact .mark m _ ih
  | halt h=>exact .halt h
theorem Keeps.run {α:Type} {s:Sem α} (h:Keeps s) (P:Program):∀ (w:World) (x:α) (w':World),s.run P w=.ok x w'→Over w w':=by
  induction h with
  | pure a=>intro w x w' e;simp only [Sem.run,Result.ok.injEq] at e;rw [← e.2];exact .rfl' w
  | load m a k _ ih =>
    intro w x w' e
    simp only [Sem.run] at e
    split at e
    · exact ih _ _ _ _ e
    · split at e
      · exact ih _ _ _ _ e
      · cases e
  | new o k _ ih =>
    intro w x w' e
    simp only [Sem.run] at e
    refine Over.trans (fun r hr=>?_) (ih _ _ _ _ e)
    simp [Array.getElem?_push,Nat.ne_of_lt hr]
  | shape r k _ ih=>intro w x w' e;exact ih _ _ _ _ e
  | frozen a k _ ih=>intro w x w' e;exact ih _ _ _ _ e
  | getObj r k _ ih =>
    intro w x w' e
    simp only [Sem.run] at e
    split at e
    · cases e
    · exact ih _ _ _ _ e
    · cases e
  | choose q k _ ih =>
    intro w x w' e
    simp only [Sem.run] at e
    split at e
    · exact ih _ _ _ _ e
    · exact fun r hr=>ih _ _ _ _ e r hr
  | program k _ ih=>intro w x w' e;exact ih _ _ _ _ e
  | mark m k _ ih=>intro w x w' e;exact ih _ _ _ e
  | halt h=>intro w x w' e;simp only [Sem.run] at e;cases e
theorem Keeps.mb {α β:Type} {s:Sem α} (h:Keeps s) {f:α→Sem β} (hf:∀ a,Keeps (f a)):Keeps (s >>= f):=h.bind hf
theorem Keeps.fm {α β:Type} {s:Sem α} (h:Keeps s) {f:α→β}:Keeps (Functor.map f s):=h.bind fun a=>.pure _
theorem Job {α:Type} (a:α):Keeps (Pure.pure a:Sem α):=.pure a
theorem k_stuck {α:Type} (s:String):Keeps (stuck s:Sem α):=.halt _
theorem k_unsup {α:Type} (u:Unsupported):Keeps (unsupported u:Sem α):=.halt _
theorem k_load (a:Addr) (m:Go.Mode):Keeps (Go.load a m):=.load _ _ _ fun _=>.pure _
theorem k_prog:Keeps Go.program:=.program _ fun _=>.pure _
theorem k_newObj (o:Obj):Keeps (newObj o):=.new _ _ fun _=>.pure _
theorem k_shape (r:Nat):Keeps (Go.shape r):=.shape _ _ fun _=>.pure _
theorem k_choose (q:Question):Keeps (Go.choose q):=.choose _ _ fun _=>.pure _
theorem k_typeInfo (t:TypeId):Keeps (typeInfo t):=by unfold typeInfo;repeat (first | exact Job _ | exact k_stuck _ | exact k_unsup _ | exact k_load _ _ | exact k_prog | exact k_newObj _ | exact k_shape _ | exact k_choose _ | assumption | exact Keeps.pure _ | exact Keeps.halt _ | (refine Keeps.mb ?_ fun _=>?_) | (refine Keeps.fm ?_) | (refine Keeps.bind ?_ fun _=>?_) | split)
theorem Y4a (t:TypeId):Keeps (underlying t):=by unfold underlying;repeat (first | exact Job _ | exact k_stuck _ | exact k_unsup _ | exact k_load _ _ | exact k_prog | exact k_newObj _ | exact k_shape _ | exact k_choose _ | assumption | exact Keeps.pure _ | exact Keeps.halt _ | (refine Keeps.mb ?_ fun _=>?_) | (refine Keeps.fm ?_) | (refine Keeps.bind ?_ fun _=>?_) | split)
theorem k_sizeOf (t:TypeId):Keeps (sizeOf t):=(k_typeInfo t).mb fun _=>Job _
theorem k_zero (t:TypeId):Keeps (zeroValue t):=by unfold zeroValue;refine (k_typeInfo t).mb fun _=>?_;repeat (first | exact Job _ | exact k_stuck _ | exact k_unsup _ | exact k_load _ _ | exact k_prog | exact k_newObj _ | exact k_shape _ | exact k_choose _ | assumption | exact Keeps.pure _ | exact Keeps.halt _ | (refine Keeps.mb ?_ fun _=>?_) | (refine Keeps.fm ?_) | (refine Keeps.bind ?_ fun _=>?_) | split)
theorem k_isAgg (t:TypeId):Keeps (isAgg t):=by unfold isAgg;refine (Y4a t).mb fun _=>?_;repeat (first | exact Job _ | exact k_stuck _ | exact k_unsup _ | exact k_load _ _ | exact k_prog | exact k_newObj _ | exact k_shape _ | exact k_choose _ | assumption | exact Keeps.pure _ | exact Keeps.halt _ | (refine Keeps.mb ?_ fun _=>?_) | (refine Keeps.fm ?_) | (refine Keeps.bind ?_ fun _=>?_) | split)
theorem k_cells (a:Addr):∀ (n i:Nat) (acc:Array Value),Keeps (loadCellsFrom a i n acc):=by
  intro n
  induction n with
  | zero=>intro i acc;exact Job _
  | succ n ih=>intro i acc;exact (k_load _ _).mb fun _=>ih _ _
theorem k_loadVar (t:TypeId) (a:Addr):Keeps (loadVar t a):=by
  unfold loadVar loadCells
  refine (k_isAgg t).mb fun _=>?_
  split
  · exact (k_sizeOf t).mb fun _=>(k_cells _ _ _ _).mb fun _=>Job _
  · exact k_load _ _
theorem k_sure (v:Value):Keeps (Instr.sureAddr v):=by unfold Instr.sureAddr;split<;>(first | exact Job _ | exact k_stuck _ | exact k_unsup _ | exact k_load _ _ | exact k_prog | exact k_newObj _ | exact k_shape _ | exact k_choose _ | assumption | exact Keeps.pure _ | exact Keeps.halt _ | (refine Keeps.mb ?_ fun _=>?_) | (refine Keeps.fm ?_) | (refine Keeps.bind ?_ fun _=>?_) | split)
theorem k_loadAt (t:TypeId) (v:Value):Keeps (Instr.loadAt t v):=(k_sure v).mb fun _=>k_loadVar _ _
theorem k_newRow (t:TypeId) (vs:Array Value):Keeps (newRow t vs):=(k_newObj _).mb fun _=>Job _
theorem k_box (t:TypeId) (v:Value):Keeps (Instr.box t v):=(k_newRow _ _).mb fun _=>Job _
theorem k_alloc (t:TypeId):Keeps (Instr.alloc t true (.tuple #[])):=by
  unfold Instr.alloc
  exact (k_zero t).mb fun _=>(k_newRow _ _).mb fun _=>Job _
theorem k_asIntOf (v:Value):Keeps (asIntOf v):=by unfold asIntOf;split<;>(first | exact Job _ | exact k_stuck _ | exact k_unsup _ | exact k_load _ _ | exact k_prog | exact k_newObj _ | exact k_shape _ | exact k_choose _ | exact Y4a _ | exact k_sizeOf _ | exact k_zero _ | exact k_sure _ | exact k_newRow _ _ | assumption | exact Keeps.pure _ | exact Keeps.halt _ | (refine Keeps.mb ?_ fun _=>?_) | (refine Keeps.fm ?_) | (refine Keeps.bind ?_ fun _=>?_) | dsimp only | split)
theorem k_panic {α:Type} (v:Value):Keeps (goPanic v:Sem α):=.halt _
theorem k_bounds {α:Type} (k:IntKind) (x y:Int) (c:BoundsCode):Keeps (boundsPanic k x y c:Sem α):=by
  unfold boundsPanic
  dsimp only
  split
  · refine Keeps.mb (Keeps.fm (k_choose _)) fun _=>?_
    unfold runtimePanic
    exact k_prog.mb fun _=>k_panic _
  · refine Keeps.mb (Job _) fun _=>?_
    unfold runtimePanic
    exact k_prog.mb fun _=>k_panic _
theorem k_indexAt (t:TypeId) (x i:Value):Keeps (Instr.indexAt t x i):=by
  unfold Instr.indexAt
  refine (k_asIntOf i).mb fun _=>?_
  dsimp only
  refine (Y4a t).mb fun _=>?_
  repeat (first | exact k_bounds _ _ _ _ | (first | exact Job _ | exact k_stuck _ | exact k_unsup _ | exact k_load _ _ | exact k_prog | exact k_newObj _ | exact k_shape _ | exact k_choose _ | exact Y4a _ | exact k_sizeOf _ | exact k_zero _ | exact k_sure _ | exact k_newRow _ _ | assumption | exact Keeps.pure _ | exact Keeps.halt _ | (refine Keeps.mb ?_ fun _=>?_) | (refine Keeps.fm ?_) | (refine Keeps.bind ?_ fun _=>?_) | dsimp only | split))
theorem k_buildSlice (t:TypeId) (len:Nat) (ps:Array (Nat × Value)):Keeps (Instr.buildSlice t len ps):=by
  unfold Instr.buildSlice
  repeat (first | exact Job _ | exact k_stuck _ | exact k_unsup _ | exact k_load _ _ | exact k_prog | exact k_newObj _ | exact k_shape _ | exact k_choose _ | exact Y4a _ | exact k_sizeOf _ | exact k_zero _ | exact k_sure _ | exact k_newRow _ _ | assumption | exact Keeps.pure _ | exact Keeps.halt _ | (refine Keeps.mb ?_ fun _=>?_) | (refine Keeps.fm ?_) | (refine Keeps.bind ?_ fun _=>?_) | dsimp only | split)
theorem k_mapM {α β:Type} (f:α→Sem β) (hf:∀ a,Keeps (f a)) (xs:Array α):Keeps (xs.mapM f):=by
  rw [Array.mapM_eq_mapM_toList]
  refine Keeps.fm ?_
  generalize xs.toList=l
  induction l with
  | nil=>exact Job _
  | cons a l ih=>rw [List.mapM_cons];exact (hf a).mb fun _=>ih.mb fun _=>Job _
theorem k_build (t:TypeId) (ps:Array (Nat × Value)):Keeps (Instr.build t ps):=by
  unfold Instr.build
  refine (k_zero t).mb fun _=>(Y4a t).mb fun _=>?_
  split
  · refine Keeps.mb (k_mapM _ (fun f=>(k_sizeOf _).mb fun _=>Job _) _) fun _=>?_
    repeat (first | exact Job _ | exact k_stuck _ | exact k_unsup _ | exact k_load _ _ | exact k_prog | exact k_newObj _ | exact k_shape _ | exact k_choose _ | exact Y4a _ | exact k_sizeOf _ | exact k_zero _ | exact k_sure _ | exact k_newRow _ _ | assumption | exact Keeps.pure _ | exact Keeps.halt _ | (refine Keeps.mb ?_ fun _=>?_) | (refine Keeps.fm ?_) | (refine Keeps.bind ?_ fun _=>?_) | dsimp only | split)
  · repeat (first | exact Job _ | exact k_stuck _ | exact k_unsup _ | exact k_load _ _ | exact k_prog | exact k_newObj _ | exact k_shape _ | exact k_choose _ | exact Y4a _ | exact k_sizeOf _ | exact k_zero _ | exact k_sure _ | exact k_newRow _ _ | assumption | exact Keeps.pure _ | exact Keeps.halt _ | (refine Keeps.mb ?_ fun _=>?_) | (refine Keeps.fm ?_) | (refine Keeps.bind ?_ fun _=>?_) | dsimp only | split)
  · exact k_stuck _
def Tame (o:Oper):Prop:=∀ ρ,∃ s:Sem Value,Keeps s∧execOp ρ o=s.bind fun x=>.pure (.value x)
theorem Keeps.val {s:Sem Value} (h:Keeps s) (P:Program):∀ (w:World) (n:Next) (w':World),
    (s.bind fun x=>.pure (.value x)).run P w=.ok n w'→∃ x,n=.value x:=by
  induction h with
  | pure a=>intro w n w' e;simp only [Sem.bind,Sem.run,Result.ok.injEq] at e;exact ⟨a,e.1.symm⟩
  | load m a k _ ih =>
    intro w n w' e
    simp only [Sem.bind,Sem.run] at e
    split at e
    · exact ih _ _ _ _ e
    · split at e
      · exact ih _ _ _ _ e
      · cases e
  | new o k _ ih=>intro w n w' e;exact ih _ _ _ _ e
  | shape r k _ ih=>intro w n w' e;exact ih _ _ _ _ e
  | frozen a k _ ih=>intro w n w' e;exact ih _ _ _ _ e
  | getObj r k _ ih =>
    intro w n w' e
    simp only [Sem.bind,Sem.run] at e
    split at e
    · cases e
    · exact ih _ _ _ _ e
    · cases e
  | choose q k _ ih =>
    intro w n w' e
    simp only [Sem.bind,Sem.run] at e
    split at e
    · exact ih _ _ _ _ e
    · exact ih _ _ _ _ e
  | program k _ ih=>intro w n w' e;exact ih _ _ _ _ e
  | mark m k _ ih=>intro w n w' e;exact ih _ _ _ e
  | halt h=>intro w n w' e;simp only [Sem.bind,Sem.run] at e;cases e
theorem Tame.run {o:Oper} (h:Tame o) {P:Program} {ρ:Operand→Value} {w w':World} {n:Next} (e:(execOp ρ o).run P w=.ok n w') :
    (∃ x,n=.value x)∧Over w w':=by
  obtain ⟨s,hk,hs⟩:=h ρ
  rw [hs] at e
  exact ⟨hk.val P _ _ _ e,(hk.bind fun _=>.pure _).run P _ _ _ e⟩
theorem tame_load {o:Oper} {t:TypeId} {x:Operand} (h:o.op=.load t x):Tame o:=fun ρ=>⟨_,k_loadAt t (ρ x),by unfold execOp;rw [h];rfl⟩
theorem tame_alloc {o:Oper} {t:TypeId} (h:o.op=.alloc t):Tame o:=fun ρ=>⟨_,k_alloc t,by unfold execOp;rw [h];rfl⟩
theorem tame_box {o:Oper} {t:TypeId} {x:Operand} (h:o.op=.box t x):Tame o:=fun ρ=>⟨_,k_box t (ρ x),by unfold execOp;rw [h];rfl⟩
theorem tame_index {o:Oper} {t:TypeId} {x y:Operand} (h:o.op=.indexAddr t x y):Tame o:=fun ρ=>⟨_,k_indexAt t (ρ x) (ρ y),by unfold execOp;rw [h];rfl⟩
theorem tame_build {o:Oper} {t:TypeId} {ps:Array (Nat × Operand)} (h:o.op=.build t ps):Tame o:=fun ρ=>⟨_,k_build t _,by unfold execOp;rw [h];rfl⟩
theorem tame_buildSlice {o:Oper} {t:TypeId} {k:Nat} {ps:Array (Nat × Operand)} (h:o.op=.buildSlice t k ps):Tame o:=fun ρ=>⟨_,k_buildSlice t k _,by unfold execOp;rw [h];rfl⟩
theorem tame_move {o:Oper} {x:Operand} (h:o.op=.move x):Tame o:=fun ρ=>⟨_,.pure (ρ x),by unfold execOp;rw [h];rfl⟩
section
variable {P:Program} {md:Region.Mode} {ops:Array Oper} {Q:Exit→Act→World→Prop}
def YieldsO (P:Program) (ops:Array Oper) (o:Oper) (v:Value) (a:Act) (w:World):Prop :=
  (Region.wanted o (yielded ops a.tmps)=true∧∀ w',Over w w'→(execOp a.eval o).run P w'=.ok (.value v) w') ∨
  (Region.wanted o (yielded ops a.tmps)=false∧v=undef)
theorem YieldsO.wpOp {i:Nat} {o:Oper} {v:Value} {a:Act} {w:World} (hi:ops[i]?=some o) (hy:YieldsO P ops o v a w)
    {K:Act→World→Prop} (h:K (a.put o.dst v) w):Go.wpOp P ops Q i K a w:=by
  unfold Go.wpOp
  simp only [hi]
  rcases hy with ⟨hw,hv⟩ | ⟨hw,rfl⟩
  · simp only [hw,if_true,Oper.wp,hv w (.rfl' w),Oper.upon];exact .inl h
  · simp only [hw,Bool.false_eq_true,if_false];exact h
theorem YieldsO.of_same {o:Oper} {v:Value} {a a':Act} {w w':World} (hy:YieldsO P ops o v a w) (hww:Over w w') (he:execOp a'.eval o=execOp a.eval o)
    (hw:Region.wanted o (yielded ops a'.tmps)=Region.wanted o (yielded ops a.tmps)):YieldsO P ops o v a' w':=by
  unfold YieldsO at *
  rw [he,hw]
  exact hy.imp (fun h=>⟨h.1,fun w2 h2=>h.2 w2 (hww.trans h2)⟩) id
theorem wpOp_putT {j:Nat} {oi oj:Oper} {v:Value} (hj:ops[j]?=some oj) (hap:oi.apart ops oj=true) (ht:Tame oj)
    (hsi:∀ cs b,oi.op≠.select cs b) (hsj:∀ cs b,oj.op≠.select cs b)
    (hQ:∀ c a w,Q (.panic c) (a.put oi.dst v) w→Q (.panic c) a w) {K:Act→World→Prop} {a:Act} {w:World}
    (hy:YieldsO P ops oi v a w) (h:wpOp P ops Q j K (a.put oi.dst v) w) :
    wpOp P ops Q j (fun a' w'=>YieldsO P ops oi v a' w'∧K (a'.put oi.dst v) w') a w:=by
  obtain ⟨h1,h2,h3⟩:=Oper.apart_spec hap
  have keep:∀ u w',Over w w'→YieldsO P ops oi v (a.put oj.dst u) w':=fun u w' hw =>
    hy.of_same hw (execOp_put oi hsi a oj.dst u h3) (wanted_put oi a oj.dst u h3)
  unfold wpOp at *
  simp only [hj] at *
  rw [wanted_put oj a oi.dst v h1] at h
  split
  · rename_i hw
    simp only [hw,if_true] at h
    rcases h with h | ⟨hasks,hlets⟩
    case inr=>exact .inr ⟨by unfold Oper.asks at *;rw [execOp_put oj hsj a oi.dst v h1] at hasks;exact hasks,hlets⟩
    refine .inl ?_
    unfold Oper.wp at *
    rw [execOp_put oj hsj a oi.dst v h1] at h
    have hr:=fun n w'=>ht.run (P:=P) (ρ:=a.eval) (w:=w) (w':=w') (n:=n)
    generalize (execOp a.eval oj).run P w=r at *
    cases r with
    | ok n w' =>
      obtain ⟨⟨u,rfl⟩,hov⟩:=hr n w' rfl
      simp only [Oper.upon] at h ⊢
      exact ⟨keep u w' hov,by rw [← Act.put_comm a v u h2];exact h⟩
    | halt x w' =>
      cases x<;>simp only [Oper.upon] at h ⊢
      case panic u=>exact hQ _ _ _ h
  · rename_i hw
    simp only [hw] at h
    exact ⟨keep _ w (.rfl' w),by rw [← Act.put_comm a v undef h2];exact h⟩
theorem wpAny_load (D:Nat→Bool) {i:Nat} {oi:Oper} {v:Value} (hi:ops[i]?=some oi) (hsel:∀ (j:Nat) (o:Oper) cs b,ops[j]?=some o→o.op≠.select cs b)
    (hQ:∀ c a w,Q (.panic c) (a.put oi.dst v) w→Q (.panic c) a w) (hDi:D i=true)
    (hD:∀ j oj,ops[j]?=some oj→D j=true→j≠i→∃ e∈oj.after,Region.binds md e=true∧D e.on=true) :
    ∀ (fuel:Nat) (listed:Array Bool) (a:Act) (w:World),
      (∀ j oj,ops[j]?=some oj→D j=false→listed.getD j true=false→oi.apart ops oj=true∧Tame oj) →
      (∀ j,D j=true→listed.getD j false=false) →
      i∈Region.ready md ops listed→YieldsO P ops oi v a w →
      wpAny P md ops Q fuel (listed.setIfInBounds i true) (a.put oi.dst v) w→wpAny P md ops Q (fuel+1) listed a w:=by
  intro fuel
  induction fuel with
  | zero =>
    intro listed a w _ _ hr hy H
    refine ⟨fun h=>(by rw [h] at hr;cases hr),fun j hj=>?_⟩
    by_cases hji:j=i
    · subst hji;exact hy.wpOp hi H
    · have:=ready_mono hj hji
      rw [H.1] at this
      cases this
  | succ fuel ih =>
    intro listed a w hfree hdl hr hy H
    refine ⟨fun h=>(by rw [h] at hr;cases hr),fun j hj=>?_⟩
    by_cases hji:j=i
    · subst hji;exact hy.wpOp hi H
    · have h1:=H.2 j (ready_mono hj hji)
      obtain ⟨hjun,oj,hoj,hall⟩:=mem_ready.1 hj
      have hDj:D j=false:=by
        cases hd:D j with
        | false=>rfl
        | true =>
          obtain ⟨e,he,hb,hde⟩:=hD j oj hoj hd hji
          have:=hall e he hb
          rw [hdl _ hde] at this;cases this
      obtain ⟨hap,ht⟩:=hfree j oj hoj hDj hjun
      have h2:=wpOp_putT hoj hap ht (fun cs b=>hsel i oi cs b hi) (fun cs b=>hsel j oj cs b hoj) hQ hy h1
      have hfree':∀ k ok,ops[k]?=some ok→D k=false→(listed.setIfInBounds j true).getD k true=false→oi.apart ops ok=true∧Tame ok:=fun k ok hk hdk hun=>by
        refine hfree k ok hk hdk ?_
        by_cases hjk:j=k
        · subst hjk;exact hjun
        · rw [getD_set_ne true hjk] at hun;exact hun
      have hdl':∀ k,D k=true→(listed.setIfInBounds j true).getD k false=false:=fun k hk=>by
        by_cases hjk:j=k
        · subst hjk;rw [hk] at hDj;cases hDj
        · rw [getD_set_ne false hjk];exact hdl k hk
      refine wpOp_mono (fun a' w' h3=>ih (listed.setIfInBounds j true) a' w' hfree' hdl' (ready_mono hr (Ne.symm hji)) h3.1 ?_) h2
      rw [Array.setIfInBounds_comm _ _ hji]
      exact h3.2
end
theorem agr_over {aw:List Ob} {σ:List Value} {w w':World} {F:Nat→Prop} (hs:Sim aw σ w F) (h:Over w w'):Agr aw σ w F w':=by
  rintro b (hb | ⟨k,cs,v,h1,h2,h3⟩)
  · exact h b (hs.lt b hb)
  · exact h b (hs.lt_own ⟨k,_,v,h1,rfl,h2,h3⟩)
section
variable {P:Program} {fr:List AV} {aw:List Ob}
theorem oper_over {st:St} {σ:List Value} {w:World} {F:Nat→Prop} {a:Act} {o:Oper} {K:AV→Prop} (hc:Cur st fr aw σ w F a) (h:vcQ P fr aw o.op K):∃ v r,(∀ w',Over w w'→(execOp a.eval o).run P w'=.ok (.value v) w')∧Rel σ w F r v∧K r:=by
  obtain ⟨v,r,h1,h2,h3⟩:=vcQ_ok hc.fr hc.sim o h
  exact ⟨v,r,fun w' hw=>h1 w' (agr_over hc.sim hw),h2,h3⟩
def tameOp:Op→Bool
  | .load .. | .alloc .. | .box .. | .move .. | .indexAddr .. | .build .. | .buildSlice ..=>true
  | _=>false
theorem tame_of {o:Oper} (h:tameOp o.op=true):Tame o:=by
  cases e:o.op<;>rw [e] at h<;>first | (cases h;done) | exact tame_load e | exact tame_alloc e | exact tame_box e | exact tame_move e | exact tame_index e | exact tame_build e | exact tame_buildSlice e
def loadFree (ops:Array Oper) (li:Array Bool) (D:List Nat) (i:Nat):Bool :=
  match ops[i]? with
  | none=>false
  | some oi =>
    D.contains i && D.all (fun j=>li.getD j false==false && (j==i || match ops[j]? with
      | some oj=>oj.after.any fun e=>Region.binds .any e && D.contains e.on
      | none=>true)) &&
    (List.range ops.size).all fun j=>D.contains j || li.getD j true || match ops[j]? with
      | some oj=>oi.apart ops oj && tameOp oj.op
      | none=>true
theorem wpAny_takeLoad {ops:Array Oper} {Q:Exit→Act→World→Prop} (D:List Nat) {i:Nat} {oi:Oper} {v:Value} {fuel:Nat} {li:Array Bool} {a:Act} {w:World} (hi:ops[i]?=some oi)
    (hs:Region.noSelect ops=true) (hf:loadFree ops li D i=true) (hr:(Region.ready .any ops li).contains i=true)
    (hQ:∀ c a w,Q (.panic c) (a.put oi.dst v) w→Q (.panic c) a w) (hy:YieldsO P ops oi v a w)
    (h:wpAny P .any ops Q fuel (li.setIfInBounds i true) (a.put oi.dst v) w):wpAny P .any ops Q (fuel+1) li a w:=by
  simp only [loadFree,hi,Bool.and_eq_true,List.all_eq_true] at hf
  obtain ⟨⟨h1,h2⟩,h3⟩:=hf
  refine wpAny_load (fun j=>D.contains j) hi (Region.noSelect_spec hs) hQ h1 ?_ fuel li a w ?_ ?_ (by simpa using hr) hy h
  · intro j oj hj hd hji
    have:=(h2 j (by simpa using hd)).2
    simp only [hj,Bool.or_eq_true,beq_iff_eq] at this
    rcases this with this | this
    · exact absurd this hji
    · obtain ⟨k,hk,he⟩:=Array.any_eq_true.1 this
      simp only [Bool.and_eq_true] at he
      exact ⟨_,Array.getElem_mem hk,he.1,he.2⟩
  · intro j oj hj hd hl
    have:=h3 j (by simpa using (Array.getElem?_eq_some_iff.1 hj).1)
    simp only [hd,hl,hj,Bool.false_or,Bool.and_eq_true] at this
    exact ⟨this.1,tame_of this.2⟩
  · intro j hd
    have:=(h2 j (by simpa using hd)).1
    simpa using this
end
end RK
section
variable {P:Program} {N n:Nat} {aw:List Ob} {l:List (Nat × AV)}
end
class ExI (Q:Exit→List AV→List Ob→Prop) (e:Exit) (R:outParam (List AV→List Ob→Prop)):Prop where
  out:∀ fr aw,R fr aw→Q e fr aw
section
variable {P:Program}
instance {fn:Func} {M:Nat} {Q:AV→List Ob→Prop}:ExI (retQ P fn M Q) .normal (fun fr aw=>vcRes P fr aw fn.results.toList (Ret M Q aw)):=⟨fun _ _ h=>h⟩
instance {id:Nat} {K:List AV→List Ob→Prop} {Q:Exit→List AV→List Ob→Prop} {R:List AV→List Ob→Prop} [h:ExI Q (.exit id) R]:ExI (thenA K Q) (.exit id) R:=⟨h.out⟩
instance {id:Nat} {Q:Exit→List AV→List Ob→Prop} {R:List AV→List Ob→Prop} [h:ExI Q .normal R]:ExI (inBlockA id Q) (.exit id) R:=⟨fun fr aw hr=>by
  show (if id=id then Q .normal fr aw else Q (.exit id) fr aw)
  rw [if_pos rfl];exact h.out fr aw hr⟩
instance {α β:Type} {id M:Nat} {v:α ⊕ β} {F:α→List AV} {A:α→List Ob} {Q:Exit→List AV→List Ob→Prop} {R:List AV→List Ob→Prop} [h:ExI Q (.exit id) R]:ExI (LQ M v F A Q) (.exit id) R:=⟨h.out⟩
theorem exN {Q:Exit→List AV→List Ob→Prop} {e:Exit} {R:List AV→List Ob→Prop} {fr:List AV} {aw:List Ob} [hq:ExI Q e R] (h:R fr aw):Q e fr aw:=hq.out fr aw h
end
end Go.Proofs.YtfbmoockopakjaaGreat
namespace Go.Proofs.YtfbmoockopakjaaGreat
open Go.RowKit
set_option linter.unusedVariables false
set_option linter.unusedSimpArgs false
section
variable {P:Program} {N n:Nat} {aw aw':List Ob} {l:List (Nat × AV)} {σ:List Value} {w:World} {F:Nat→Prop}
theorem Sim.repl (h:Sim aw σ w F) (id:Nat) {o:Ob} {v:Value} (ho:aw[id]?=some o) (hl:o.live=true) (hv:σ[id]?=some v) (o':Ob) (ho':ORel σ w F o' v) (hsub:∀ b,Bk o' v b→Bk o v b):Sim (aw.set id o') σ w F:=by
  refine ⟨by simp [h.len],fun k o1 v1 ho1 hv1=>?_,fun k k' o1 o2 v1 v2 g hne ho1 ho2 hl1 hl2 hv1 hv2 hb1 hb2=>?_,h.lt⟩
  · rcases Jia ho1 with ⟨rfl,rfl,_⟩ | ⟨hne,h1⟩
    · rw [hv] at hv1;cases hv1;exact ho'
    · exact h.obj k o1 v1 h1 hv1
  · have un:∀ (k:Nat) o1 v1,(aw.set id o')[k]?=some o1→o1.live=true→σ[k]?=some v1→∃ o2,aw[k]?=some o2∧o2.live=true∧∀ b,Bk o1 v1 b→Bk o2 v1 b:=fun k o1 v1 h1 hl1 hv1=>by
      rcases Jia h1 with ⟨rfl,rfl,_⟩ | ⟨_,h2⟩
      · rw [hv] at hv1;cases hv1;exact ⟨o,ho,hl,hsub⟩
      · exact ⟨o1,h2,hl1,fun _ h=>h⟩
    obtain ⟨p1,q1,r1,z1⟩:=un k o1 v1 ho1 hl1 hv1
    obtain ⟨p2,q2,r2,z2⟩:=un k' o2 v2 ho2 hl2 hv2
    exact h.sep k k' p1 p2 v1 v2 g hne q1 q2 r1 r2 hv1 hv2 (z1 _ hb1) (z2 _ hb2)
theorem Dof.repl {id:Nat} {o o':Ob} {v:Value} (ho:aw[id]?=some o) (hl:o.live=true) (hv:σ[id]?=some v) (hsub:∀ b,Bk o' v b→Bk o v b) {b:Nat} (hb:Dof (aw.set id o') σ b):Dof aw σ b:=by
  obtain ⟨k,o1,v1,ho1,hl1,hv1,hb1⟩:=hb
  rcases Jia ho1 with ⟨rfl,rfl,_⟩ | ⟨_,h2⟩
  · rw [hv] at hv1;cases hv1;exact ⟨_,o,v,ho,hl,hv,hsub b hb1⟩
  · exact ⟨k,o1,v1,h2,hl1,hv1,hb1⟩
theorem Mv.repl (id:Nat) {o o':Ob} {v:Value} (ho:aw[id]?=some o) (hl:o.live=true) (hv:σ[id]?=some v) (hsub:∀ b,Bk o' v b→Bk o v b):Mv aw σ w F (aw.set id o') σ w F :=
  ⟨rfl,rfl,rfl,Nat.le_refl _,fun _ _ _=>rfl,fun _ _ h=>h,fun _ h=>h,fun _ h=>.inl h,fun _ hb=>.inl (Dof.repl ho hl hv hsub hb)⟩
theorem Mv.lose (id:Nat):Mv aw σ w F (aw.set id .dead) σ w F :=
  ⟨rfl,rfl,rfl,Nat.le_refl _,fun _ _ _=>rfl,fun _ _ h=>h,fun _ h=>h,fun _ h=>.inl h,fun _ hb=>.inl hb.set_dead⟩
theorem Sim.take (h:Sim aw σ w F) (o:Ob) (v:Value) (ho:ORel (σ++[v]) w F o v) (hn:∀ b,Bk o v b→¬ Dof aw σ b):Sim (aw++[o]) (σ++[v]) w F :=
  h.push2 o v (fun _ _=>rfl) (Nat.le_refl _) ho hn
theorem Mv.take {aw0:List Ob} {σ0:List Value} (h:Sim aw σ w F) (m:Mv aw0 σ0 w F aw σ w F) (o:Ob) (v:Value) (hb:∀ b,Bk o v b→Dof aw0 σ0 b):Mv aw0 σ0 w F (aw++[o]) (σ++[v]) w F:=by
  refine ⟨rfl,rfl,rfl,Nat.le_refl _,fun _ _ _=>rfl,fun i u hu=>Yra (m.pre i u hu),fun _ h=>h,fun _ h=>.inl h,fun b hb1=>?_⟩
  obtain ⟨k,o1,v1,ho1,hl,hv1,hb2⟩:=hb1
  rcases get_app ho1 with h1 | ⟨rfl,rfl⟩
  · have hlt:=(List.getElem?_eq_some_iff.1 h1).1
    rw [List.getElem?_append_left (by rw [h.len];exact hlt)] at hv1
    exact m.own b ⟨k,o1,v1,h1,hl,hv1,hb2⟩
  · rw [← h.len] at hv1
    simp at hv1
    subst hv1
    exact .inl (hb b hb2)
theorem cellRel_app {e2 size:Nat} {c:Cell} {x v:Value} (h:CellRel σ w F e2 size c x):CellRel (σ++[v]) w F e2 size c x:=by
  cases c with
  | own rows =>
    obtain ⟨flat,h1,h2,h3,h4⟩:=h
    exact ⟨flat,h1,⟨h2.1,h2.2.1,h2.2.2.mono (fun i x hx=>Yra hx) (fun _ h=>h) (fun _ _=>rfl)⟩,h3,h4⟩
  | fz rows=>exact Rel.mono (fun i x hx=>Yra hx) (fun _ h=>h) (fun _ _=>rfl) h
  | hole=>trivial
theorem cst_flat:∀ us:List Value,(us.map fun u=>([.cst u]:List AV)).flatten=us.map AV.cst
  | []=>rfl
  | u::us=>by simp [cst_flat us]
theorem hd_form (hs:Sim aw σ w F) {id e k:Nat} (ho:aw[id]?=some (.hd e k)) {v:Value} (hv:σ[id]?=some v):∃ us:List Value,σ[k]?=some (.tuple us.toArray)∧(∀ u,u∈us→u.oneCell'=true) ∧
    Sim (aw.set id (.arr e 1 (us.map fun u=>[.cst u]))) σ w F∧Mv aw σ w F (aw.set id (.arr e 1 (us.map fun u=>[.cst u]))) σ w F:=by
  obtain ⟨us,h1,h2,⟨a,m,c,rfl⟩,h3,h4⟩:=hs.obj id _ v ho hv
  have hsub:∀ b,Bk (.arr e 1 (us.map fun u=>[.cst u])) (.slice a m c) b→Bk (.hd e k) (.slice a m c) b:=fun b hb=>hb
  refine ⟨us,h1,h3,hs.repl id ho rfl hv _ ⟨us,?_,⟨fun row hr=>?_,h3,?_⟩,h4,a,m,c,rfl⟩ hsub,.repl id ho rfl hv hsub⟩
  · rw [List.length_map];exact h2
  · obtain ⟨u,_,rfl⟩:=List.mem_map.1 hr;rfl
  · rw [cst_flat]
    refine ⟨by simp,fun j x u hx hu=>?_⟩
    rw [List.getElem?_map,hu] at hx
    cases hx
    exact .cst u
theorem hd_of (hs:Sim aw σ w F) {id e k:Nat} {us:List Value} (hk:σ[k]?=some (.tuple us.toArray)) {rows:List (List AV)} (ho:aw[id]?=some (.arr e 1 rows)) {v:Value} (hv:σ[id]?=some v) (hus:∀ flat,FlatRel σ w F 1 rows flat→flat=us):Sim (aw.set id (.hd e k)) σ w F∧Mv aw σ w F (aw.set id (.hd e k)) σ w F:=by
  obtain ⟨flat,h1,h2,h3,a,m,c,rfl⟩:=hs.obj id _ v ho hv
  have:=hus flat h2
  subst this
  have hsub:∀ b,Bk (.hd e k) (.slice a m c) b→Bk (.arr e 1 rows) (.slice a m c) b:=fun b hb=>hb
  have hlen:flat.length=rows.length:=by have:=h1.1;omega
  exact ⟨hs.repl id ho rfl hv _ ⟨flat,hk,by rw [hlen];exact h1,⟨a,m,c,rfl⟩,h2.2.1,h3⟩ hsub,.repl id ho rfl hv hsub⟩
theorem flat_one {rows:List (List AV)} {flat:List Value} (h:FlatRel σ w F 1 rows flat):flat.length=rows.length∧∀ (i:Nat) row u,rows[i]?=some row→flat[i]?=some u→∃ a,row=[a]∧Rel σ w F a u:=by
  obtain ⟨h1,_,h2⟩:=h
  have hf:∀ (R:List (List AV)),(∀ row,row∈R→row.length=1)→R.flatten.length=R.length∧∀ (i:Nat) row,R[i]?=some row→∃ a,row=[a]∧R.flatten[i]?=some a:=by
    intro R
    induction R with
    | nil=>intro _;exact ⟨rfl,fun i row h=>by simp at h⟩
    | cons r R ih =>
      intro h
      obtain ⟨e1,e2⟩:=ih fun row hr=>h row (List.mem_cons_of_mem _ hr)
      obtain ⟨a,ha⟩:=List.length_eq_one_iff.1 (h r List.mem_cons_self)
      subst ha
      refine ⟨by simp [e1],fun i row hi=>?_⟩
      cases i with
      | zero=>simp at hi;subst hi;exact ⟨a,rfl,by simp⟩
      | succ i=>obtain ⟨b,b1,b2⟩:=e2 i row (by simpa using hi);exact ⟨b,b1,by simpa using b2⟩
  obtain ⟨e1,e2⟩:=hf rows h1
  refine ⟨by rw [h2.1,e1],fun i row u hi hu=>?_⟩
  obtain ⟨a,b1,b2⟩:=e2 i row hi
  exact ⟨a,b1,h2.2 i a u b2 hu⟩
theorem cl_out (hs:Sim aw σ w F) {k i e c:Nat} {cells:List Cell} {rows:List (List AV)} {us:List Value} {x:Value} (ho:aw[k]?=some (.cl e c cells)) (hk:σ[k]?=some (.tuple us.toArray)) (hi:cells[i]?=some (.own rows)) (hx:us[i]?=some x) :
    Sim (aw.set k (.cl e c (cells.set i .hole))++[.arr e c rows]) (σ++[x]) w F∧Mv aw σ w F (aw.set k (.cl e c (cells.set i .hole))++[.arr e c rows]) (σ++[x]) w F:=by
  obtain ⟨us',e1,hl,hc,hd⟩:=hs.obj k _ _ ho hk
  have:=tup_inj e1
  subst this
  have hsub:∀ b,Bk (.cl e c (cells.set i .hole)) (.tuple us.toArray) b→Bk (.cl e c cells) (.tuple us.toArray) b:=fun b hb=>by
    obtain ⟨us',e1,j,rows',y,h1,h2,h3⟩:=hb
    rcases Jia h1 with ⟨_,h4,_⟩ | ⟨_,h4⟩
    · cases h4
    · exact ⟨us',e1,j,rows',y,h4,h2,h3⟩
  have hO:ORel σ w F (.cl e c (cells.set i .hole)) (.tuple us.toArray):=by
    refine ⟨us,rfl,by simpa using hl,fun j c' y h1 h2=>?_,fun j j' r r' y y' g hne h1 h2 h3 h4 h5 h6=>?_⟩
    · rcases Jia h1 with ⟨_,h4,_⟩ | ⟨_,h4⟩
      · subst h4;trivial
      · exact hc j c' y h4 h2
    · rcases Jia h1 with ⟨_,e,_⟩ | ⟨_,e⟩
      · cases e
      · rcases Jia h2 with ⟨_,e',_⟩ | ⟨_,e'⟩
        · cases e'
        · exact hd j j' r r' y y' g hne e e' h3 h4 h5 h6
  have s1:=hs.repl k ho rfl hk _ hO hsub
  have m1:Mv aw σ w F (aw.set k (.cl e c (cells.set i .hole))) σ w F:=.repl k ho rfl hk hsub
  obtain ⟨flat,f1,f2,f3,f4⟩:=hc i _ x hi hx
  have hown:∀ b,Bk (.arr e c rows) x b→Bk (.cl e c cells) (.tuple us.toArray) b:=fun b hb=>by
    obtain ⟨a,m,cc,rfl⟩:=f4
    exact ⟨us,rfl,i,rows,_,hi,hx,hb.slice_inv⟩
  refine ⟨s1.take _ x ⟨flat,f1,⟨f2.1,f2.2.1,f2.2.2.mono (fun i x hx=>Yra hx) (fun _ h=>h) (fun _ _=>rfl)⟩,f3,f4⟩ (fun b hb hdf=>?_),.take s1 m1 _ x fun b hb=>⟨k,_,_,ho,rfl,hk,hown b hb⟩⟩
  obtain ⟨j,o1,v1,ho1,hl1,hv1,hb1⟩:=hdf
  rcases Jia ho1 with ⟨rfl,rfl,_⟩ | ⟨hne,h2⟩
  · rw [hk] at hv1;cases hv1
    obtain ⟨us',e2,j,rows',y,g1,g2,g3⟩:=hb1
    have:=tup_inj e2
    subst this
    rcases Jia g1 with ⟨_,e,_⟩ | ⟨hji,e⟩
    · cases e
    · obtain ⟨a,m,cc,rfl⟩:=f4
      exact hd j i rows' rows y _ b hji e hi g2 hx g3 hb.slice_inv
  · exact hs.sep j k o1 _ v1 _ b hne h2 ho hl1 rfl hv1 hk hb1 (hown b hb)
theorem cl_fz (hs:Sim aw σ w F) {k i e c:Nat} {cells:List Cell} {rows:List (List AV)} {us:List Value} {x:Value} (ho:aw[k]?=some (.cl e c cells)) (hk:σ[k]?=some (.tuple us.toArray)) (hx:us[i]?=some x) (hr:Rel σ w F (.sl rows) x) :
    Sim (aw.set k (.cl e c (cells.set i (.fz rows)))) σ w F∧Mv aw σ w F (aw.set k (.cl e c (cells.set i (.fz rows)))) σ w F:=by
  obtain ⟨us',e1,hl,hc,hd⟩:=hs.obj k _ _ ho hk
  have:=tup_inj e1
  subst this
  have hsub:∀ b,Bk (.cl e c (cells.set i (.fz rows))) (.tuple us.toArray) b→Bk (.cl e c cells) (.tuple us.toArray) b:=fun b hb=>by
    obtain ⟨us',e1,j,rows',y,h1,h2,h3⟩:=hb
    rcases Jia h1 with ⟨_,h4,_⟩ | ⟨_,h4⟩
    · cases h4
    · exact ⟨us',e1,j,rows',y,h4,h2,h3⟩
  refine ⟨hs.repl k ho rfl hk _ ⟨us,rfl,by simpa using hl,fun j c' y h1 h2=>?_,fun j j' r r' y y' g hne h1 h2 h3 h4 h5 h6=>?_⟩ hsub,.repl k ho rfl hk hsub⟩
  · rcases Jia h1 with ⟨rfl,h4,_⟩ | ⟨_,h4⟩
    · subst h4;rw [hx] at h2;cases h2;exact hr
    · exact hc j c' y h4 h2
  · rcases Jia h1 with ⟨_,e,_⟩ | ⟨_,e⟩
    · cases e
    · rcases Jia h2 with ⟨_,e',_⟩ | ⟨_,e'⟩
      · cases e'
      · exact hd j j' r r' y y' g hne e e' h3 h4 h5 h6
end
end Go.Proofs.YtfbmoockopakjaaGreat
namespace Go.Proofs.YtfbmoockopakjaaGreat
open Go.RowKit
set_option linter.unusedVariables false
set_option linter.unusedSimpArgs false
def cel {α:Type} (en:α→List AV) (p:Bool × List α):Cell:=match p.1 with
  | true=>.fz (p.2.map en)
  | false=>.own (p.2.map en)
abbrev cL {α:Type} (en:α→List AV) (xs:List (Bool × List α)):List Cell:=xs.map (cel en)
section
variable {P:Program} {N n:Nat} {aw aw':List Ob} {l:List (Nat × AV)} {σ:List Value} {w:World} {F:Nat→Prop}
variable {d:Option Tmp} {ty:TypeId} {ps:String} {af:Array Edge} {g:Option (Nat × Bool)} {K2:AV→List Ob→Prop} {α:Type} {en:α→List AV}
theorem set_same {β:Type} {l:List β} {k:Nat} {a:β} (h:l[k]?=some a):l.set k a=l:=by
  obtain ⟨hlt,rfl⟩:=List.getElem?_eq_some_iff.1 h
  exact List.set_getElem_self hlt
theorem cl_len (hs:Sim aw σ w F) {k e c:Nat} {cells:List Cell} {us:List Value} (ho:aw[k]?=some (.cl e c cells)) (hk:σ[k]?=some (.tuple us.toArray)):us.length=cells.length:=by
  obtain ⟨us',e1,h,_⟩:=hs.obj k _ _ ho hk
  rw [tup_inj e1];exact h
theorem o_index_hd {t e e2 c id k m:Nat} {x y:Operand} {kk:IntKind} {i:Int} {cells:List Cell} (hS:SliceOf P t e 1) (hx:evA n l x=.ref id) (hy:evA n l y=.int kk i) (ho:aw[id]?=some (.hd e k)) (hc:aw[k]?=some (.cl e2 c cells)) (hm:ixN cells i=some m) (h:K2 (.aptr id 1 m 0) aw) :
    OP P N ⟨d,.indexAddr t x y,ty,ps,af,g⟩ (mkA n l) aw K2 :=
  OP.of_ok (fun σ w F a har hs=>by
    have ex:=har.ev x
    rw [Q1a,hx] at ex
    generalize hvx:a.eval x=vx at ex
    cases ex with
    | ref _ A q cp hσ =>
      obtain ⟨us,h1,h2,s1,m1⟩:=hd_form hs ho hσ
      have hlen:=cl_len hs hc h1
      have hid:id<aw.length:=(List.getElem?_eq_some_iff.1 ho).1
      have ho1:(aw.set id (.arr e 1 (us.map fun u=>[.cst u])))[id]?=some (.arr e 1 (us.map fun u=>[.cst u])):=by rw [List.getElem?_set,if_pos rfl,if_pos hid]
      have hi:0≤i∧i<cells.length∧m=i.toNat:=by
        unfold ixN at hm;split at hm
        · rename_i hh;cases hm;exact ⟨hh.1,hh.2,rfl⟩
        · cases hm
      have hq:=v_index_ref (K:=fun r=>r=.aptr id 1 m 0) hS hx hy ho1 rfl hi.1 (by rw [List.length_map,hlen];exact hi.2.1) (by rw [hi.2.2])
      obtain ⟨v,r,hrun,hrel,rfl⟩:=vcQ_ok har s1 (⟨d,.indexAddr t x y,ty,ps,af,g⟩:Oper) hq
      exact ⟨v,_,w,aw,σ,F,_,hrun w (fun _ _=>rfl),.inl rfl,hs,.refl ..,hrel,h⟩)
theorem o_load_hd {t e e2 c id k m:Nat} {x:Operand} {cells:List Cell} {cl:Cell} (hk:kindT P t=some false) (hx:evA n l x=.aptr id 1 m 0) (ho:aw[id]?=some (.hd e k)) (hc:aw[k]?=some (.cl e2 c cells)) (hm:cells[m]?=some cl) (hh:∀ rows,cl=.own rows∨cl=.fz rows→True) (hn:cl≠.hole) (h:K2 (.iref k m) aw) :
    OP P N ⟨d,.load t x,ty,ps,af,g⟩ (mkA n l) aw K2 :=
  OP.of_ok (fun σ w F a har hs=>by
    have ex:=har.ev x
    rw [Q1a,hx] at ex
    generalize hvx:a.eval x=vx at ex
    cases ex with
    | aptr _ _ _ _ gb q cp hσ =>
      obtain ⟨us,h1,h2,s1,m1⟩:=hd_form hs ho hσ
      have hlen:=cl_len hs hc h1
      have hml:=(List.getElem?_eq_some_iff.1 hm).1
      have hid:id<aw.length:=(List.getElem?_eq_some_iff.1 ho).1
      have ho1:(aw.set id (.arr e 1 (us.map fun u=>[.cst u])))[id]?=some (.arr e 1 (us.map fun u=>[.cst u])):=by rw [List.getElem?_set,if_pos rfl,if_pos hid]
      have hum:us[m]?=some us[m]:=List.getElem?_eq_getElem (by omega)
      have hv:vcE P (mkA n l) (aw.set id (.arr e 1 (us.map fun u=>[.cst u]))) (.load t x) (fun r _=>r=.cst us[m]):=by
        show (match ev (mkA n l) x with | .aptr id size i off=>(match (aw.set _ _)[id]? with | some (.arr _ size' rows)=>size'=size∧i<rows.length∧∀ row,rows[i]?=some row→Zxa P t row off fun r=>_ | _=>False) | _=>False)
        rw [Q1a,hx]
        simp only [ho1]
        refine ⟨trivial,by rw [List.length_map];omega,fun row hrow=>?_⟩
        rw [List.getElem?_map,hum] at hrow
        cases hrow
        unfold Zxa
        rw [hk]
        rfl
      obtain ⟨v,r,hrun,hrel,rfl⟩:=e_load' har s1 hv ⟨d,.load t x,ty,ps,af,g⟩ rfl
      generalize hum2:us[m]=u at hrel hum
      cases hrel with
      | cst =>
        obtain ⟨us',e1,_,hcr,_⟩:=hs.obj k _ _ hc h1
        have:=tup_inj e1
        subst this
        have hcm:=hcr m _ v hm hum
        have hsl:∃ A q cp,v=.slice A q cp:=by
          cases cl with
          | own rows=>exact hcm.choose_spec.2.2.2
          | fz rows =>
            have:Rel σ w F (.sl rows) v:=hcm
            cases this with
            | slNil=>exact ⟨_,_,_,rfl⟩
            | sl=>exact ⟨_,_,_,rfl⟩
          | hole=>exact absurd rfl hn
        obtain ⟨A,q',cp',rfl⟩:=hsl
        exact ⟨_,_,w,aw,σ,F,_,hrun,.inl rfl,hs,.refl ..,.iref k m A q' cp' _ h1 (by simpa using hum),h⟩)
theorem iref_len (hs:Sim aw σ w F) {k m e c:Nat} {cells:List Cell} (hc:aw[k]?=some (.cl e c cells)) {rows:List (List AV)} (hm:cells[m]?=some (.own rows)∨cells[m]?=some (.fz rows)) {v:Value} (hr:Rel σ w F (.iref k m) v):∃ A cp us,v=.slice A rows.length cp∧σ[k]?=some (.tuple us)∧us.toList[m]?=some v:=by
  cases hr with
  | iref _ _ A q cp vs h1 h2 =>
    obtain ⟨us',e1,_,hcr,_⟩:=hs.obj k _ _ hc h1
    have e2:vs=us'.toArray:=by injection e1
    subst e2
    have h3:us'[m]?=some (.slice A q cp):=by simpa using h2
    have hq:q=rows.length:=by
      rcases hm with hm | hm
      · obtain ⟨flat,g1,_⟩:=hcr m _ _ hm h3
        rcases g1.2 with ⟨e3,e4⟩ | ⟨gg,cap,cur,e3,_⟩
        · injection e3 with _ e5;omega
        · injection e3
      · have:=hcr m _ _ hm h3
        have:Rel σ w F (.sl rows) (.slice A q cp):=this
        cases this with
        | slNil=>rfl
        | sl=>rfl
    subst hq
    exact ⟨A,cp,_,rfl,h1,by simpa using h3⟩
theorem o_len_iref {t e e2 c k m:Nat} {x:Operand} {xs:List (Bool × List α)} {p:Bool × List α} (hS:SliceOf P t e2 c) (hx:evA n l x=.iref k m) (hc:aw[k]?=some (.cl e c (cL en xs))) (hm:xs[m]?=some p) (h:K2 (.int .i64 p.2.length) aw) :
    OP P N ⟨d,.call ⟨.builtin .len,#[x],#[t]⟩,ty,ps,af,g⟩ (mkA n l) aw K2 :=
  OP.of_ok (fun σ w F a har hs=>by
    have ex:=har.ev x
    rw [Q1a,hx] at ex
    generalize hvx:a.eval x=vx at ex
    have hcm:(cL en xs)[m]?=some (.own (p.2.map en))∨(cL en xs)[m]?=some (.fz (p.2.map en)):=by
      rw [List.getElem?_map,hm]
      obtain ⟨b,q⟩:=p
      cases b
      · exact .inl rfl
      · exact .inr rfl
    obtain ⟨A,cp,us,rfl,_⟩:=iref_len hs hc hcm ex
    refine ⟨.int .i64 p.2.length,_,w,aw,σ,F,_,?_,.inl rfl,hs,.refl ..,.int _ _,h⟩
    simp [execOp,resolve,invoke,builtin,Sem.run_bind,hvx,Builtin.len_,run_underlying hS.u,goInt])
theorem fzc_cur {st:St} {a:Act} {t k m e c:Nat} {xs:List (Bool × List α)} {p:Bool × List α} (hcur:Cur st (mkA n l) aw σ w F a) (hx:evA n l (.tmp t)=.iref k m) (hc:aw[k]?=some (.cl e c (cL en xs))) (hm:xs[m]?=some p) :
    ∃ σ' F',Cur st (mkA n ((t,.sl (p.2.map en))::l)) (aw.set k (.cl e c (cL en (xs.set m (true,p.2))))++[.dead]) σ' w F' a:=by
  have hs:=hcur.sim
  have ex:=hcur.fr.ev (.tmp t)
  rw [Q1a,hx] at ex
  generalize hvx:a.eval (.tmp t)=vx at ex
  obtain ⟨b,q⟩:=p
  have hml:=(List.getElem?_eq_some_iff.1 hm).1
  have hcell:(cL en xs)[m]?=some (cel en (b,q)):=by rw [List.getElem?_map,hm];rfl
  have hcm:(cL en xs)[m]?=some (.own (q.map en))∨(cL en xs)[m]?=some (.fz (q.map en)):=by
    rw [hcell];cases b
    · exact .inl rfl
    · exact .inr rfl
  obtain ⟨A,cp,vs,rfl,h1,h2⟩:=iref_len hs hc hcm ex
  have hk1:σ[k]?=some (.tuple vs.toList.toArray):=by simpa using h1
  have hkl:k<aw.length:=(List.getElem?_eq_some_iff.1 hc).1
  have hset:cL en (xs.set m (true,q))=(cL en xs).set m (.fz (q.map en)):=by rw [cL,List.map_set];rfl
  cases b with
  | true =>
    obtain ⟨us',e1,_,hcr,_⟩:=hs.obj k _ _ hc hk1
    have:=tup_inj e1
    subst this
    have hr:Rel σ w F (.sl (q.map en)) (.slice A (q.map en).length cp):=hcr m _ _ hcell h2
    have e:aw.set k (.cl e c (cL en (xs.set m (true,q))))=aw:=by
      rw [hset]
      have:(cL en xs).set m (.fz (q.map en))=cL en xs:=set_same hcell
      rw [this]
      exact set_same hc
    rw [e]
    refine ⟨σ++[undef],F,⟨hs.take .dead undef trivial (fun b hb=>hb.elim),?_,hcur.mv.trans (.take hs (.refl ..) .dead undef (fun b hb=>hb.elim))⟩⟩
    have hmv:Mv aw σ w F (aw++[.dead]) (σ++[undef]) w F:=.take hs (.refl ..) .dead undef (fun b hb=>hb.elim)
    exact aRel_re (hmv.aRel hs hcur.fr) hvx (hmv.rel hs hr)
  | false =>
    obtain ⟨s1,m1⟩:=cl_out hs hc hk1 (show (cL en xs)[m]?=some (.own (q.map en)) by rw [hcell];rfl) h2
    have hlen:σ.length=aw.length:=hs.len
    have ho1:(aw.set k (.cl e c ((cL en xs).set m .hole))++[.arr e c (q.map en)])[aw.length]?=some (.arr e c (q.map en)):=by
      rw [List.getElem?_append_right (by simp)];simp
    have hσ1:(σ++[Value.slice A (q.map en).length cp])[aw.length]?=some (.slice A (q.map en).length cp):=by
      rw [← hlen];simp
    have s2:=s1.drop aw.length ho1 rfl hσ1
    have m2:=Mv.drop (w:=w) (F:=F) aw.length ho1 rfl hσ1
    have hr:Rel (σ++[Value.slice A (q.map en).length cp]) w (fun b=>F b∨Bk (Ob.arr e c (q.map en)) (.slice A (q.map en).length cp) b) (.sl (q.map en)) (.slice A (q.map en).length cp):=arr_sl (fun _ h=>.inl h) s1 ho1 hσ1 (fun b hb=>.inr hb)
    have e2:(aw.set k (Ob.cl e c ((cL en xs).set m .hole))++[Ob.arr e c (q.map en)]).set aw.length .dead=aw.set k (.cl e c ((cL en xs).set m .hole))++[.dead]:=by
      rw [List.set_append_right _ _ (by simp)];simp
    rw [e2] at s2 m2
    have ho3:(aw.set k (.cl e c ((cL en xs).set m .hole))++[.dead])[k]?=some (.cl e c ((cL en xs).set m .hole)):=by
      rw [List.getElem?_append_left (by simpa using hkl),List.getElem?_set,if_pos rfl,if_pos hkl]
    have hk3:(σ++[Value.slice A (q.map en).length cp])[k]?=some (.tuple vs.toList.toArray):=Yra hk1
    obtain ⟨s3,m3⟩:=cl_fz (i:=m) s2 ho3 hk3 h2 hr
    have e3:(aw.set k (Ob.cl e c ((cL en xs).set m .hole))++[Ob.dead]).set k (.cl e c (((cL en xs).set m .hole).set m (.fz (q.map en))))=aw.set k (.cl e c (cL en (xs.set m (true,q))))++[.dead]:=by
      rw [List.set_append_left _ _ (by simpa using hkl),List.set_set,List.set_set,hset]
    rw [e3] at s3 m3
    have hmv:=(m1.trans m2).trans m3
    exact ⟨_,_,s3,aRel_re (hmv.aRel hs hcur.fr) hvx hr,hcur.mv.trans hmv⟩
theorem T.fzc {code:Code} {Q:Exit→List AV→List Ob→Prop} (t k m:Nat) {e c:Nat} {xs:List (Bool × List α)} {p:Bool × List α} (hx:evA n l (.tmp t)=.iref k m) (hc:aw[k]?=some (.cl e c (cL en xs))) (hm:xs[m]?=some p) (ha:aw.set k (.cl e c (cL en (xs.set m (true,p.2))))++[.dead]=aw') (h:T P N code Q (mkA n ((t,.sl (p.2.map en))::l)) aw'):T P N code Q (mkA n l) aw :=
  ⟨fun st h1 h2 σ w F a hcur=>by subst ha;obtain ⟨σ',F',hc'⟩:=fzc_cur hcur hx hc hm;exact h.out st h1 h2 σ' w F' a hc'⟩
theorem RS.fzc {ops:Array Oper} {os:List Oper} {K:List AV→List Ob→Prop} (t k m:Nat) {e c:Nat} {xs:List (Bool × List α)} {p:Bool × List α} (hx:evA n l (.tmp t)=.iref k m) (hc:aw[k]?=some (.cl e c (cL en xs))) (hm:xs[m]?=some p) (ha:aw.set k (.cl e c (cL en (xs.set m (true,p.2))))++[.dead]=aw') (h:RS P N ops os K (mkA n ((t,.sl (p.2.map en))::l)) aw'):RS P N ops os K (mkA n l) aw :=
  ⟨fun st h1 h2 σ w F a hcur=>by subst ha;obtain ⟨σ',F',hc'⟩:=fzc_cur hcur hx hc hm;exact h.out st h1 h2 σ' w F' a hc'⟩
theorem RA.fzc {ops:Array Oper} {kk:Nat} {li:Array Bool} {K:List AV→List Ob→Prop} (t k m:Nat) {e c:Nat} {xs:List (Bool × List α)} {p:Bool × List α} (hx:evA n l (.tmp t)=.iref k m) (hc:aw[k]?=some (.cl e c (cL en xs))) (hm:xs[m]?=some p) (ha:aw.set k (.cl e c (cL en (xs.set m (true,p.2))))++[.dead]=aw') (h:RA P N ops kk li K (mkA n ((t,.sl (p.2.map en))::l)) aw'):RA P N ops kk li K (mkA n l) aw :=
  ⟨fun st h1 h2 σ w F a hcur=>by subst ha;obtain ⟨σ',F',hc'⟩:=fzc_cur hcur hx hc hm;exact h.out st h1 h2 σ' w F' a hc'⟩
theorem RO.fzc {ops:Array Oper} {i:Nat} {K:List AV→List Ob→Prop} (t k m:Nat) {e c:Nat} {xs:List (Bool × List α)} {p:Bool × List α} (hx:evA n l (.tmp t)=.iref k m) (hc:aw[k]?=some (.cl e c (cL en xs))) (hm:xs[m]?=some p) (ha:aw.set k (.cl e c (cL en (xs.set m (true,p.2))))++[.dead]=aw') (h:RO P N ops i K (mkA n ((t,.sl (p.2.map en))::l)) aw'):RO P N ops i K (mkA n l) aw :=
  ⟨fun st h1 h2 σ w F a hcur=>by subst ha;obtain ⟨σ',F',hc'⟩:=fzc_cur hcur hx hc hm;exact h.out st h1 h2 σ' w F' a hc'⟩
end
end Go.Proofs.YtfbmoockopakjaaGreat
namespace Go.Proofs.YtfbmoockopakjaaGreat
open Go.RowKit
set_option linter.unusedVariables false
set_option linter.unusedSimpArgs false
section
variable {P:Program} {N n:Nat} {aw aw':List Ob} {l:List (Nat × AV)} {σ:List Value} {w:World} {F:Nat→Prop}
variable {d:Option Tmp} {ty:TypeId} {ps:String} {af:Array Edge} {g:Option (Nat × Bool)} {K2:AV→List Ob→Prop} {α:Type} {en:α→List AV}
def cR (us:List Value):List (List AV):=us.map fun u=>[.cst u]
theorem cst_inv {us flat:List Value} (h:FlatRel σ w F 1 (cR us) flat):flat=us:=by
  obtain ⟨e1,e2⟩:=flat_one h
  have hl:flat.length=us.length:=by rw [e1];simp [cR]
  refine List.ext_getElem hl fun i h1 h2=>?_
  obtain ⟨a,b1,b2⟩:=e2 i [.cst us[i]] flat[i] (by simp [cR,List.getElem?_eq_getElem h2]) (List.getElem?_eq_getElem h1)
  injection b1 with b3
  subst b3
  generalize hv:flat[i]=v at b2
  generalize us[i]=u at b2
  cases b2
  rfl
theorem σ_of (hs:Sim aw σ w F) {id:Nat} {o:Ob} (ho:aw[id]?=some o):∃ v,σ[id]?=some v:=by
  have:=(List.getElem?_eq_some_iff.1 ho).1
  exact ⟨_,List.getElem?_eq_getElem (by rw [hs.len];exact this)⟩
theorem hd_back (hs:Sim aw σ w F) {id e k:Nat} {us:List Value} (hk:σ[k]?=some (.tuple us.toArray)) (ho:aw[id]?=some (.arr e 1 (cR us))):Sim (aw.set id (.hd e k)) σ w F∧Mv aw σ w F (aw.set id (.hd e k)) σ w F:=by
  obtain ⟨v,hv⟩:=σ_of hs ho
  exact hd_of hs hk ho hv fun flat h=>cst_inv h
theorem cl_new {aw1:List Ob} (s1:Sim aw1 σ w F) (m1:Mv aw σ w F aw1 σ w F) (hs:Sim aw σ w F) (D:Nat→Prop)
    (hD:∀ b,Dof aw1 σ b→∃ j o v,¬ D j∧aw[j]?=some o∧o.live=true∧σ[j]?=some v∧Bk o v b)
    {e c:Nat} {cells:List Cell} {us:List Value} (hl:us.length=cells.length)
    (hc:∀ (i:Nat) cl x,cells[i]?=some cl→us[i]?=some x→CellRel σ w F e c cl x)
    (hb:∀ (i:Nat) rows x b,cells[i]?=some (.own rows)→us[i]?=some x→x.ownBlock=some b→∃ j o v,D j∧aw[j]?=some o∧o.live=true∧σ[j]?=some v∧Bk o v b)
    (hd:∀ (i j:Nat) rows rows' x y g,i≠j→cells[i]?=some (.own rows)→cells[j]?=some (.own rows')→us[i]?=some x→us[j]?=some y→x.ownBlock=some g→y.ownBlock=some g→False) :
    Sim (aw1++[.cl e c cells]) (σ++[.tuple us.toArray]) w F∧Mv aw σ w F (aw1++[.cl e c cells]) (σ++[.tuple us.toArray]) w F:=by
  have key:∀ b,Bk (.cl e c cells) (.tuple us.toArray) b→∃ j o v,D j∧aw[j]?=some o∧o.live=true∧σ[j]?=some v∧Bk o v b:=fun b h=>by
    obtain ⟨us',e1,i,rows,x,h2,h3,h4⟩:=h
    have:=tup_inj e1
    subst this
    exact hb i rows x b h2 h3 h4
  refine ⟨s1.take _ _ ⟨us,rfl,hl,fun i cl x h1 h2=>cellRel_app (hc i cl x h1 h2),hd⟩ (fun b h hdf=>?_),.take s1 m1 _ _ fun b h=>?_⟩
  · obtain ⟨j,o,v,d1,d2,d3,d4,d5⟩:=key b h
    obtain ⟨j',o',v',e1,e2,e3,e4,e5⟩:=hD b hdf
    exact hs.sep j j' o o' v v' b (fun e=>e1 (e▸d1)) d2 e2 d3 e3 d4 e4 d5 e5
  · obtain ⟨j,o,v,_,d2,d3,d4,d5⟩:=key b h
    exact ⟨j,o,v,d2,d3,d4,d5⟩
theorem dof2 {k q b:Nat} (h:Dof ((aw.set k .dead).set q .dead) σ b):∃ j o v,¬ (j=k∨j=q)∧aw[j]?=some o∧o.live=true∧σ[j]?=some v∧Bk o v b:=by
  obtain ⟨j,o,v,h1,h2,h3,h4⟩:=h
  rcases Jia h1 with ⟨_,rfl,_⟩ | ⟨hq,h5⟩
  · simp [Ob.live] at h2
  rcases Jia h5 with ⟨_,rfl,_⟩ | ⟨hk,h6⟩
  · simp [Ob.live] at h2
  · exact ⟨j,o,v,fun e=>e.elim hk hq,h6,h2,h3,h4⟩
theorem arr_cell (hs:Sim aw σ w F) {q e c:Nat} {rows:List (List AV)} {x:Value} (hq:aw[q]?=some (.arr e c rows)) (hx:σ[q]?=some x):CellRel σ w F e c (.own rows) x∧∀ b,x.ownBlock=some b→Bk (.arr e c rows) x b:=by
  have h:=hs.obj q _ x hq hx
  obtain ⟨flat,h1,h2,h3,a,m,cc,rfl⟩:=h
  exact ⟨⟨flat,h1,h2,h3,a,m,cc,rfl⟩,fun b hb=>.slice hb⟩
theorem cl_cells (hs:Sim aw σ w F) {k e c:Nat} {cells:List Cell} {us:List Value} (ho:aw[k]?=some (.cl e c cells)) (hk:σ[k]?=some (.tuple us.toArray)) :
    us.length=cells.length∧(∀ (i:Nat) cl x,cells[i]?=some cl→us[i]?=some x→CellRel σ w F e c cl x) ∧
    (∀ (i j:Nat) rows rows' x y g,i≠j→cells[i]?=some (.own rows)→cells[j]?=some (.own rows')→us[i]?=some x→us[j]?=some y→x.ownBlock=some g→y.ownBlock=some g→False) ∧
    (∀ (i:Nat) rows x b,cells[i]?=some (.own rows)→us[i]?=some x→x.ownBlock=some b→Bk (.cl e c cells) (.tuple us.toArray) b):=by
  obtain ⟨us',e1,h1,h2,h3⟩:=hs.obj k _ _ ho hk
  have:=tup_inj e1
  subst this
  exact ⟨h1,h2,h3,fun i rows x b a1 a2 a3=>⟨us,rfl,i,rows,x,a1,a2,a3⟩⟩
theorem cl_put (hs:Sim aw σ w F) {k q m e c:Nat} {cells:List Cell} {rows:List (List AV)} {us:List Value} {x:Value} (ho:aw[k]?=some (.cl e c cells)) (hk:σ[k]?=some (.tuple us.toArray)) (hq:aw[q]?=some (.arr e c rows)) (hx:σ[q]?=some x) :
    Sim ((aw.set k .dead).set q .dead++[.cl e c (cells.set m (.own rows))]) (σ++[.tuple (us.set m x).toArray]) w F∧Mv aw σ w F ((aw.set k .dead).set q .dead++[.cl e c (cells.set m (.own rows))]) (σ++[.tuple (us.set m x).toArray]) w F:=by
  obtain ⟨hl,hc,hd,hb⟩:=cl_cells hs ho hk
  obtain ⟨qc,qb⟩:=arr_cell hs hq hx
  have hkq:k≠q:=by rintro rfl;rw [ho] at hq;cases hq
  refine cl_new ((hs.lose k).lose q) ((Mv.lose k).trans (Mv.lose q)) hs (fun j=>j=k∨j=q) (fun b h=>dof2 h) (by simpa using hl) (fun i cl y h1 h2=>?_) (fun i r y b h1 h2 h3=>?_) (fun i j r r' y y' g hne h1 h2 h3 h4 h5 h6=>?_)
  · rcases Jia h1 with ⟨rfl,rfl,_⟩ | ⟨hi,h3⟩
    · rcases Jia h2 with ⟨_,rfl,_⟩ | ⟨hj,_⟩
      · exact qc
      · exact absurd rfl hj
    · rcases Jia h2 with ⟨rfl,_,_⟩ | ⟨_,h4⟩
      · exact absurd rfl hi
      · exact hc i cl y h3 h4
  · rcases Jia h1 with ⟨rfl,e1,_⟩ | ⟨hi,h4⟩
    · rcases Jia h2 with ⟨_,rfl,_⟩ | ⟨hj,_⟩
      · exact ⟨q,_,_,.inr rfl,hq,rfl,hx,qb b h3⟩
      · exact absurd rfl hj
    · rcases Jia h2 with ⟨rfl,_,_⟩ | ⟨_,h5⟩
      · exact absurd rfl hi
      · exact ⟨k,_,_,.inl rfl,ho,rfl,hk,hb i r y b h4 h5 h3⟩
  · rcases Jia h1 with ⟨rfl,e1,_⟩ | ⟨hi,a1⟩
    · rcases Jia h2 with ⟨rfl,_,_⟩ | ⟨hj,a2⟩
      · exact hne rfl
      · rcases Jia h3 with ⟨_,rfl,_⟩ | ⟨hh,_⟩
        · rcases Jia h4 with ⟨rfl,_,_⟩ | ⟨_,b4⟩
          · exact hj rfl
          · exact hs.sep q k _ _ _ _ g (Ne.symm hkq) hq ho rfl rfl hx hk (qb g h5) (hb j r' y' g a2 b4 h6)
        · exact absurd rfl hh
    · rcases Jia h3 with ⟨rfl,_,_⟩ | ⟨_,b3⟩
      · exact absurd rfl hi
      rcases Jia h2 with ⟨rfl,e2,_⟩ | ⟨hj,a2⟩
      · rcases Jia h4 with ⟨_,rfl,_⟩ | ⟨hh,_⟩
        · exact hs.sep k q _ _ _ _ g hkq ho hq rfl rfl hk hx (hb i r y g a1 b3 h5) (qb g h6)
        · exact absurd rfl hh
      · rcases Jia h4 with ⟨rfl,_,_⟩ | ⟨_,b4⟩
        · exact absurd rfl hj
        · exact hd i j r r' y y' g hne a1 a2 b3 b4 h5 h6
theorem cl_putfz (hs:Sim aw σ w F) {k m e c:Nat} {cells:List Cell} {rows:List (List AV)} {us:List Value} {x:Value} (ho:aw[k]?=some (.cl e c cells)) (hk:σ[k]?=some (.tuple us.toArray)) (hx:Rel σ w F (.sl rows) x) :
    Sim ((aw.set k .dead).set k .dead++[.cl e c (cells.set m (.fz rows))]) (σ++[.tuple (us.set m x).toArray]) w F∧Mv aw σ w F ((aw.set k .dead).set k .dead++[.cl e c (cells.set m (.fz rows))]) (σ++[.tuple (us.set m x).toArray]) w F:=by
  obtain ⟨hl,hc,hd,hb⟩:=cl_cells hs ho hk
  have un:∀ (i:Nat) r y,(cells.set m (.fz rows))[i]?=some (.own r)→(us.set m x)[i]?=some y→cells[i]?=some (.own r)∧us[i]?=some y:=fun i r y h1 h2=>by
    rcases Jia h1 with ⟨_,e1,_⟩ | ⟨hi,a1⟩
    · cases e1
    · rcases Jia h2 with ⟨rfl,_,_⟩ | ⟨_,a2⟩
      · exact absurd rfl hi
      · exact ⟨a1,a2⟩
  refine cl_new ((hs.lose k).lose k) ((Mv.lose k).trans (Mv.lose k)) hs (fun j=>j=k∨j=k) (fun b h=>dof2 h) (by simpa using hl) (fun i cl y h1 h2=>?_) (fun i r y b h1 h2 h3=>?_) (fun i j r r' y y' g hne h1 h2 h3 h4 h5 h6=>?_)
  · rcases Jia h1 with ⟨rfl,rfl,_⟩ | ⟨hi,h3⟩
    · rcases Jia h2 with ⟨_,rfl,_⟩ | ⟨hj,_⟩
      · exact hx
      · exact absurd rfl hj
    · rcases Jia h2 with ⟨rfl,_,_⟩ | ⟨_,h4⟩
      · exact absurd rfl hi
      · exact hc i cl y h3 h4
  · obtain ⟨a1,a2⟩:=un i r y h1 h2
    exact ⟨k,_,_,.inl rfl,ho,rfl,hk,hb i r y b a1 a2 h3⟩
  · obtain ⟨a1,a3⟩:=un i r y h1 h3
    obtain ⟨a2,a4⟩:=un j r' y' h2 h4
    exact hd i j r r' y y' g hne a1 a2 a3 a4 h5 h6
theorem cl_app (hs:Sim aw σ w F) {k q e c:Nat} {cells cells2:List Cell} {us us2:List Value} (hkq:k≠q) (ho:aw[k]?=some (.cl e c cells)) (hk:σ[k]?=some (.tuple us.toArray)) (ho2:aw[q]?=some (.cl e c cells2)) (hk2:σ[q]?=some (.tuple us2.toArray)) :
    Sim ((aw.set k .dead).set q .dead++[.cl e c (cells++cells2)]) (σ++[.tuple (us++us2).toArray]) w F∧Mv aw σ w F ((aw.set k .dead).set q .dead++[.cl e c (cells++cells2)]) (σ++[.tuple (us++us2).toArray]) w F:=by
  obtain ⟨hl,hc,hd,hb⟩:=cl_cells hs ho hk
  obtain ⟨hl2,hc2,hd2,hb2⟩:=cl_cells hs ho2 hk2
  have un:∀ (i:Nat) cl x,(cells++cells2)[i]?=some cl→(us++us2)[i]?=some x→(i<us.length∧cells[i]?=some cl∧us[i]?=some x)∨(¬ i<us.length∧cells2[i - us.length]?=some cl∧us2[i - us.length]?=some x):=fun i cl x h1 h2=>by
    rw [List.getElem?_append] at h1 h2
    rw [← hl] at h1
    by_cases hi:i<us.length
    · rw [if_pos hi] at h1 h2;exact .inl ⟨hi,h1,h2⟩
    · rw [if_neg hi] at h1 h2;exact .inr ⟨hi,h1,h2⟩
  refine cl_new ((hs.lose k).lose q) ((Mv.lose k).trans (Mv.lose q)) hs (fun j=>j=k∨j=q) (fun b h=>dof2 h) (by simp [hl,hl2]) (fun i cl y h1 h2=>?_) (fun i r y b h1 h2 h3=>?_) (fun i j r r' y y' g hne h1 h2 h3 h4 h5 h6=>?_)
  · rcases un i cl y h1 h2 with ⟨_,a1,a2⟩ | ⟨_,a1,a2⟩
    · exact hc i cl y a1 a2
    · exact hc2 _ cl y a1 a2
  · rcases un i _ y h1 h2 with ⟨_,a1,a2⟩ | ⟨_,a1,a2⟩
    · exact ⟨k,_,_,.inl rfl,ho,rfl,hk,hb i r y b a1 a2 h3⟩
    · exact ⟨q,_,_,.inr rfl,ho2,rfl,hk2,hb2 _ r y b a1 a2 h3⟩
  · rcases un i _ y h1 h3 with ⟨hi,a1,a3⟩ | ⟨hi,a1,a3⟩
    · rcases un j _ y' h2 h4 with ⟨hj,a2,a4⟩ | ⟨hj,a2,a4⟩
      · exact hd i j r r' y y' g hne a1 a2 a3 a4 h5 h6
      · exact hs.sep k q _ _ _ _ g hkq ho ho2 rfl rfl hk hk2 (hb i r y g a1 a3 h5) (hb2 _ r' y' g a2 a4 h6)
    · rcases un j _ y' h2 h4 with ⟨hj,a2,a4⟩ | ⟨hj,a2,a4⟩
      · exact hs.sep q k _ _ _ _ g (Ne.symm hkq) ho2 ho rfl rfl hk2 hk (hb2 _ r y g a1 a3 h5) (hb j r' y' g a2 a4 h6)
      · exact hd2 _ _ r r' y y' g (by omega) a1 a2 a3 a4 h5 h6
theorem cl_one (hs:Sim aw σ w F) {q e c:Nat} {rows:List (List AV)} {x:Value} (hq:aw[q]?=some (.arr e c rows)) (hx:σ[q]?=some x) :
    Sim ((aw.set q .dead).set q .dead++[.cl e c [.own rows]]) (σ++[.tuple [x].toArray]) w F∧Mv aw σ w F ((aw.set q .dead).set q .dead++[.cl e c [.own rows]]) (σ++[.tuple [x].toArray]) w F:=by
  obtain ⟨qc,qb⟩:=arr_cell hs hq hx
  refine cl_new ((hs.lose q).lose q) ((Mv.lose q).trans (Mv.lose q)) hs (fun j=>j=q∨j=q) (fun b h=>dof2 h) rfl (fun i cl y h1 h2=>?_) (fun i r y b h1 h2 h3=>?_) (fun i j r r' y y' g hne h1 h2 h3 h4 h5 h6=>?_)
  · cases i with
    | zero=>simp at h1 h2;subst h1;subst h2;exact qc
    | succ i=>simp at h1
  · cases i with
    | zero=>simp at h1 h2;subst h1;subst h2;exact ⟨q,_,_,.inl rfl,hq,rfl,hx,qb b h3⟩
    | succ i=>simp at h1
  · cases i with
    | zero=>cases j with
      | zero=>exact hne rfl
      | succ j=>simp at h2
    | succ i=>simp at h1
theorem cl_nil (hs:Sim aw σ w F) (e c m:Nat) :
    Sim (aw++[.cl e c (List.replicate m (.own []))]) (σ++[.tuple (List.replicate m (Value.slice none 0 0)).toArray]) w F∧Mv aw σ w F (aw++[.cl e c (List.replicate m (.own []))]) (σ++[.tuple (List.replicate m (Value.slice none 0 0)).toArray]) w F:=by
  have rep:∀ {β:Type} (i:Nat) (a b:β),(List.replicate m a)[i]?=some b→b=a:=fun i a b h=>by
    exact List.eq_of_mem_replicate (List.mem_of_getElem? h)
  refine cl_new hs (.refl ..) hs (fun _=>False) (fun b h=>by obtain ⟨j,o,v,h⟩:=h;exact ⟨j,o,v,fun e=>e,h⟩) (by simp) (fun i cl y h1 h2=>?_) (fun i r y b h1 h2 h3=>?_) (fun i j r r' y y' g hne h1 h2 h3 h4 h5 h6=>?_)
  · rw [rep i _ _ h1,rep i _ _ h2]
    exact ⟨[],⟨by simp,.inl ⟨rfl,rfl⟩⟩,⟨fun row h=>by simp at h,fun u h=>by simp at h,.nil⟩,fun g h=>by simp [Value.ownBlock] at h,_,_,_,rfl⟩
  · rw [rep i _ _ h2] at h3;simp [Value.ownBlock] at h3
  · rw [rep i _ _ h3] at h5;simp [Value.ownBlock] at h5
end
end Go.Proofs.YtfbmoockopakjaaGreat
namespace Go.Proofs.YtfbmoockopakjaaGreat
section
variable {α:Type}
def atc (xs:List (Bool × List α)) (m:Nat):Option (List α):=(xs[m]?).map (·.2)
def owc (xs:List (Bool × List α)) (m:Nat):Option (List α):=match xs[m]? with | some (false,r)=>some r | _=>none
def fzd (xs:List (Bool × List α)) (m:Nat) (r:List α):List (Bool × List α):=xs.set m (true,r)
def own (xs:List (Bool × List α)) (m:Nat) (r:List α):List (Bool × List α):=xs.set m (false,r)
theorem atc_some {xs:List (Bool × List α)} {m:Nat} {r:List α} (h:atc xs m=some r):∃ b,xs[m]?=some (b,r):=by
  unfold atc at h
  cases hx:xs[m]? with
  | none=>rw [hx] at h;cases h
  | some p=>rw [hx] at h;cases h;exact ⟨p.1,rfl⟩
theorem owc_some {xs:List (Bool × List α)} {m:Nat} {r:List α} (h:owc xs m=some r):xs[m]?=some (false,r):=by
  unfold owc at h
  split at h
  · rename_i e;cases h;exact e
  · cases h
theorem atc_lt {xs:List (Bool × List α)} {m:Nat} {r:List α} (h:atc xs m=some r):m<xs.length:=by
  obtain ⟨b,hb⟩:=atc_some h
  exact (List.getElem?_eq_some_iff.1 hb).1
theorem ixf {xs:List (Bool × List α)} {i:Int} {m k:Nat} {r:List α} (h:ixN xs i=some m):ixN (fzd xs k r) i=some m:=by
  unfold ixN fzd at *
  rw [List.length_set];exact h
theorem atf {xs:List (Bool × List α)} {j m:Nat} {q r:List α} (h:atc xs j=some q) (hr:atc xs m=some r):atc (fzd xs m r) j=some q:=by
  unfold atc fzd at *
  rw [List.getElem?_set]
  by_cases e:m=j
  · subst e
    rw [h] at hr
    cases hr
    have hl:m<xs.length:=atc_lt (r:=q) h
    rw [if_pos rfl,if_pos hl];rfl
  · rw [if_neg e];exact h
end
end Go.Proofs.YtfbmoockopakjaaGreat
namespace Go.Proofs.YtfbmoockopakjaaGreat
open Go.RowKit
set_option linter.unusedVariables false
set_option linter.unusedSimpArgs false
section
variable {P:Program} {N n:Nat} {aw aw':List Ob} {l:List (Nat × AV)} {σ:List Value} {w:World} {F:Nat→Prop}
variable {d:Option Tmp} {ty:TypeId} {ps:String} {af:Array Edge} {g:Option (Nat × Bool)} {K2:AV→List Ob→Prop} {α:Type} {en:α→List AV}
abbrev cH (en:α→List AV) (xs:List (Bool × List α)) (m:Nat):List Cell:=(cL en xs).set m .hole
theorem cl_l {xs:List (Bool × List α)}:(cL en xs).length=xs.length:=by simp [cL]
theorem cl_lh {xs:List (Bool × List α)} {m:Nat}:(cH en xs m).length=xs.length:=by simp [cH,cL]
theorem cl_s {xs:List (Bool × List α)} {m:Nat} {r:List α}:(cL en xs).set m (.own (r.map en))=cL en (own xs m r):=by unfold own;rw [cL,cL,List.map_set];rfl
theorem cl_sh {xs:List (Bool × List α)} {m:Nat} {r:List α}:(cH en xs m).set m (.own (r.map en))=cL en (own xs m r):=by rw [cH,List.set_set];exact cl_s
theorem cl_f {xs:List (Bool × List α)} {m:Nat} {r:List α}:(cL en xs).set m (.fz (r.map en))=cL en (fzd xs m r):=by unfold fzd;rw [cL,cL,List.map_set];rfl
theorem ixN_len {β γ:Type} {xs:List β} {ys:List γ} {i:Int} {m:Nat} (hl:ys.length=xs.length) (h:ixN xs i=some m):ixN ys i=some m:=by
  unfold ixN at h ⊢;rw [hl];exact h
theorem Zla {t e e2 c id k m:Nat} {x y:Operand} {kk:IntKind} {i:Int} {cells:List Cell} {xs:List (Bool × List α)} (hS:SliceOf P t e 1) (hx:evA n l x=.ref id) (hy:evA n l y=.int kk i) (ho:aw[id]?=some (.hd e k)) (hc:aw[k]?=some (.cl e2 c cells)) (hl:cells.length=xs.length) (hm:ixN xs i=some m) (h:K2 (.aptr id 1 m 0) aw) :
    OP P N ⟨d,.indexAddr t x y,ty,ps,af,g⟩ (mkA n l) aw K2:=o_index_hd hS hx hy ho hc (ixN_len hl hm) h
theorem Zya {t e e2 c id k m:Nat} {x:Operand} {r:List α} {xs:List (Bool × List α)} (hk:kindT P t=some false) (hx:evA n l x=.aptr id 1 m 0) (ho:aw[id]?=some (.hd e k)) (hc:aw[k]?=some (.cl e2 c (cL en xs))) (hm:atc xs m=some r) (h:K2 (.iref k m) aw) :
    OP P N ⟨d,.load t x,ty,ps,af,g⟩ (mkA n l) aw K2:=by
  have hlt:=atc_lt hm
  have h1:(cL en xs)[m]?=some (cel en xs[m]):=by rw [List.getElem?_map,List.getElem?_eq_getElem hlt];rfl
  exact o_load_hd hk hx ho hc h1 (fun _ _=>trivial) (by unfold cel;split<;>intro h<;>cases h) h
theorem o_ln_hd {t e2 c k m:Nat} {e:Nat} {x:Operand} {xs:List (Bool × List α)} {r:List α} (hS:SliceOf P t e2 c) (hx:evA n l x=.iref k m) (hc:aw[k]?=some (.cl e c (cL en xs))) (hm:atc xs m=some r) (h:K2 (.int .i64 r.length) aw) :
    OP P N ⟨d,.call ⟨.builtin .len,#[x],#[t]⟩,ty,ps,af,g⟩ (mkA n l) aw K2:=by
  obtain ⟨b,hb⟩:=atc_some hm
  exact o_len_iref hS hx hc hb h
theorem outc_cur {st:St} {a:Act} {t k m e c:Nat} {xs:List (Bool × List α)} {r:List α} (hcur:Cur st (mkA n l) aw σ w F a) (hx:evA n l (.tmp t)=.iref k m) (hc:aw[k]?=some (.cl e c (cL en xs))) (hm:owc xs m=some r) :
    ∃ σ' F',Cur st (mkA n ((t,.ref aw.length)::l)) (aw.set k (.cl e c (cH en xs m))++[.arr e c (r.map en)]) σ' w F' a:=by
  have hs:=hcur.sim
  have ex:=hcur.fr.ev (.tmp t)
  rw [Q1a,hx] at ex
  generalize hvx:a.eval (.tmp t)=vx at ex
  have hcell:(cL en xs)[m]?=some (.own (r.map en)):=by rw [List.getElem?_map,owc_some hm];rfl
  obtain ⟨A,cp,vs,rfl,h1,h2⟩:=iref_len hs hc (.inl hcell) ex
  have hk1:σ[k]?=some (.tuple vs.toList.toArray):=by simpa using h1
  obtain ⟨s1,m1⟩:=cl_out hs hc hk1 hcell h2
  exact ⟨_,_,s1,aRel_re (m1.aRel hs hcur.fr) hvx (.ref aw.length A _ cp (by rw [← hs.len];simp)),hcur.mv.trans m1⟩
theorem T.outc {code:Code} {Q:Exit→List AV→List Ob→Prop} (t k m:Nat) {e c:Nat} {xs:List (Bool × List α)} {r:List α} (hx:evA n l (.tmp t)=.iref k m) (hc:aw[k]?=some (.cl e c (cL en xs))) (hm:owc xs m=some r) {q:Nat} (hq:aw.length=q) (ha:aw.set k (.cl e c (cH en xs m))++[.arr e c (r.map en)]=aw') (h:T P N code Q (mkA n ((t,.ref q)::l)) aw'):T P N code Q (mkA n l) aw :=
  ⟨fun st h1 h2 σ w F a hcur=>by subst ha hq;obtain ⟨σ',F',hc'⟩:=outc_cur hcur hx hc hm;exact h.out st h1 h2 σ' w F' a hc'⟩
theorem RS.outc {ops:Array Oper} {os:List Oper} {K:List AV→List Ob→Prop} (t k m:Nat) {e c:Nat} {xs:List (Bool × List α)} {r:List α} (hx:evA n l (.tmp t)=.iref k m) (hc:aw[k]?=some (.cl e c (cL en xs))) (hm:owc xs m=some r) {q:Nat} (hq:aw.length=q) (ha:aw.set k (.cl e c (cH en xs m))++[.arr e c (r.map en)]=aw') (h:RS P N ops os K (mkA n ((t,.ref q)::l)) aw'):RS P N ops os K (mkA n l) aw :=
  ⟨fun st h1 h2 σ w F a hcur=>by subst ha hq;obtain ⟨σ',F',hc'⟩:=outc_cur hcur hx hc hm;exact h.out st h1 h2 σ' w F' a hc'⟩
theorem RA.outc {ops:Array Oper} {kk:Nat} {li:Array Bool} {K:List AV→List Ob→Prop} (t k m:Nat) {e c:Nat} {xs:List (Bool × List α)} {r:List α} (hx:evA n l (.tmp t)=.iref k m) (hc:aw[k]?=some (.cl e c (cL en xs))) (hm:owc xs m=some r) {q:Nat} (hq:aw.length=q) (ha:aw.set k (.cl e c (cH en xs m))++[.arr e c (r.map en)]=aw') (h:RA P N ops kk li K (mkA n ((t,.ref q)::l)) aw'):RA P N ops kk li K (mkA n l) aw :=
  ⟨fun st h1 h2 σ w F a hcur=>by subst ha hq;obtain ⟨σ',F',hc'⟩:=outc_cur hcur hx hc hm;exact h.out st h1 h2 σ' w F' a hc'⟩
theorem RO.outc {ops:Array Oper} {i:Nat} {K:List AV→List Ob→Prop} (t k m:Nat) {e c:Nat} {xs:List (Bool × List α)} {r:List α} (hx:evA n l (.tmp t)=.iref k m) (hc:aw[k]?=some (.cl e c (cL en xs))) (hm:owc xs m=some r) {q:Nat} (hq:aw.length=q) (ha:aw.set k (.cl e c (cH en xs m))++[.arr e c (r.map en)]=aw') (h:RO P N ops i K (mkA n ((t,.ref q)::l)) aw'):RO P N ops i K (mkA n l) aw :=
  ⟨fun st h1 h2 σ w F a hcur=>by subst ha hq;obtain ⟨σ',F',hc'⟩:=outc_cur hcur hx hc hm;exact h.out st h1 h2 σ' w F' a hc'⟩
theorem T.fzi {code:Code} {Q:Exit→List AV→List Ob→Prop} (t k m:Nat) {e c:Nat} {xs:List (Bool × List α)} {r:List α} (hx:evA n l (.tmp t)=.iref k m) (hc:aw[k]?=some (.cl e c (cL en xs))) (hm:atc xs m=some r) (ha:aw.set k (.cl e c (cL en (fzd xs m r)))++[.dead]=aw') (h:T P N code Q (mkA n ((t,.sl (r.map en))::l)) aw'):T P N code Q (mkA n l) aw:=by
  obtain ⟨b,hb⟩:=atc_some hm
  exact T.fzc t k m hx hc hb ha h
theorem RS.fzi {ops:Array Oper} {os:List Oper} {K:List AV→List Ob→Prop} (t k m:Nat) {e c:Nat} {xs:List (Bool × List α)} {r:List α} (hx:evA n l (.tmp t)=.iref k m) (hc:aw[k]?=some (.cl e c (cL en xs))) (hm:atc xs m=some r) (ha:aw.set k (.cl e c (cL en (fzd xs m r)))++[.dead]=aw') (h:RS P N ops os K (mkA n ((t,.sl (r.map en))::l)) aw'):RS P N ops os K (mkA n l) aw:=by
  obtain ⟨b,hb⟩:=atc_some hm
  exact RS.fzc t k m hx hc hb ha h
theorem RA.fzi {ops:Array Oper} {kk:Nat} {li:Array Bool} {K:List AV→List Ob→Prop} (t k m:Nat) {e c:Nat} {xs:List (Bool × List α)} {r:List α} (hx:evA n l (.tmp t)=.iref k m) (hc:aw[k]?=some (.cl e c (cL en xs))) (hm:atc xs m=some r) (ha:aw.set k (.cl e c (cL en (fzd xs m r)))++[.dead]=aw') (h:RA P N ops kk li K (mkA n ((t,.sl (r.map en))::l)) aw'):RA P N ops kk li K (mkA n l) aw:=by
  obtain ⟨b,hb⟩:=atc_some hm
  exact RA.fzc t k m hx hc hb ha h
theorem RO.fzi {ops:Array Oper} {i:Nat} {K:List AV→List Ob→Prop} (t k m:Nat) {e c:Nat} {xs:List (Bool × List α)} {r:List α} (hx:evA n l (.tmp t)=.iref k m) (hc:aw[k]?=some (.cl e c (cL en xs))) (hm:atc xs m=some r) (ha:aw.set k (.cl e c (cL en (fzd xs m r)))++[.dead]=aw') (h:RO P N ops i K (mkA n ((t,.sl (r.map en))::l)) aw'):RO P N ops i K (mkA n l) aw:=by
  obtain ⟨b,hb⟩:=atc_some hm
  exact RO.fzc t k m hx hc hb ha h
theorem set_id4 {aw:List Ob} {id k q:Nat} {A B C:Ob} {z h:Ob} (hid:id<aw.length) (h1:id≠k) (h2:id≠q):(((aw.set id A).set k B).set q C++[z]).set id h=((aw.set id h).set k B).set q C++[z]:=by
  rw [List.set_append_left _ _ (by simpa using hid),List.set_comm _ _ (Ne.symm h2),List.set_comm _ _ (Ne.symm h1),List.set_set]
theorem cR_set {us:List Value} {m:Nat} {u:Value}:(cR us).set m [.cst u]=cR (us.set m u):=by unfold cR;rw [List.map_set]
theorem store_hd {a:Act} {t e e2 c id k m ty:Nat} {x:Operand} {cells:List Cell} {v:Value} (hs:Sim aw σ w F) (har:ARel σ w F (mkA n ((ty,.cst v)::l)) a) (hv:v.oneCell'=true) (ht:P.cellsOf t=1) (hu:(P.underlying t).isSome=true) (hx:evA n ((ty,.cst v)::l) x=.aptr id 1 m 0) (hy:evA n ((ty,.cst v)::l) (.tmp ty)=.cst v) (ho:aw[id]?=some (.hd e k)) (hc:aw[k]?=some (.cl e2 c cells)) (hm:m<cells.length) (o:Oper) (hop:o.op=.store t x (.tmp ty)) :
    ∃ (us:List Value) (w':World) (σ':List Value) (F':Nat→Prop) (nx:_) (vv:Value),σ[k]?=some (.tuple us.toArray)∧(execOp a.eval o).run P w=.ok nx w'∧(nx=.value vv∨(nx=.skip∧vv=undef))∧Sim (aw.set id (.arr e 1 (cR (us.set m v)))) σ' w' F'∧Mv aw σ w F (aw.set id (.arr e 1 (cR (us.set m v)))) σ' w' F':=by
  have ex:=har.ev x
  rw [Q1a,hx] at ex
  generalize hvx:a.eval x=vx at ex
  cases ex with
  | aptr _ _ _ _ gb q cp hσ =>
    obtain ⟨us,h1,h2,s1,m1⟩:=hd_form hs ho hσ
    have hlen:=cl_len hs hc h1
    have hid:id<aw.length:=(List.getElem?_eq_some_iff.1 ho).1
    have ho1:(aw.set id (.arr e 1 (us.map fun u=>[.cst u])))[id]?=some (.arr e 1 (us.map fun u=>[.cst u])):=by rw [List.getElem?_set,if_pos rfl,if_pos hid]
    have hcv:(AV.cst v).cells=some [.cst v]:=by show (if v.oneCell'=true then some [AV.cst v] else none)=_;rw [if_pos hv]
    have hvc:vcE P (mkA n ((ty,.cst v)::l)) (aw.set id (.arr e 1 (us.map fun u=>[.cst u]))) (.store t x (.tmp ty)) (fun r aw2=>aw2=aw.set id (.arr e 1 (cR (us.set m v)))):=by
      simp only [vcE,Q1a,hx,hy,hcv,ho1]
      refine ⟨hu,trivial,by rw [ht];rfl,by rw [List.length_map];omega,Nat.le_refl _,fun row hrow=>?_⟩
      rw [List.getElem?_map] at hrow
      cases hum:us[m]? with
      | none=>rw [hum] at hrow;cases hrow
      | some u =>
        rw [hum] at hrow;cases hrow
        rw [List.set_set]
        show aw.set id (.arr e 1 ((cR us).set m [.cst v]))=_
        rw [cR_set]
    obtain ⟨vv,nx,w',aw2,σ',F',r,hrun,hn,s2,m2,_,rfl⟩:=e_store har s1 hvc o hop
    exact ⟨us,w',σ',F',nx,vv,h1,hrun,hn,s2,m1.trans m2⟩
theorem get_set_ne {aw:List Ob} {id k:Nat} {A o:Ob} (h:aw[k]?=some o) (hne:id≠k):(aw.set id A)[k]?=some o:=by rw [List.getElem?_set,if_neg hne];exact h
theorem o_st_hd {t e e2 c id k m q y kn:Nat} {x:Operand} {cells cells':List Cell} {rows:List (List AV)} (ht:P.cellsOf t=1) (hu:(P.underlying t).isSome=true) (hx:∀ v,evA n ((y,.cst v)::l) x=.aptr id 1 m 0) (hyv:∀ v,evA n ((y,.cst v)::l) (.tmp y)=.cst v) (hy:evA n l (.tmp y)=.ref q) (ho:aw[id]?=some (.hd e k)) (hc:aw[k]?=some (.cl e2 c cells)) (hq:aw[q]?=some (.arr e2 c rows)) {xs0:List (Bool × List α)} {r0:List α} (hl0:cells.length=xs0.length) (hm0:atc xs0 m=some r0) (hset:cells.set m (.own rows)=cells') (hk:aw.length=kn) (ha:((aw.set id (.hd e kn)).set k .dead).set q .dead++[.cl e2 c cells']=aw') (h:K2 .any aw') :
    OP P N ⟨d,.store t x (.tmp y),ty,ps,af,g⟩ (mkA n l) aw K2 :=
  OP.of_ok (fun σ w F a har hs=>by
    subst ha hk hset
    have hm:m<cells.length:=by rw [hl0];exact atc_lt hm0
    have ey:=har.ev (.tmp y)
    rw [Q1a,hy] at ey
    generalize hvy:a.eval (.tmp y)=vy at ey
    cases ey with
    | ref _ A qn cp hσq =>
      obtain ⟨us,w',σ',F',nx,vv,h1,hrun,hn,s2,m2⟩:=store_hd hs (aRel_re har hvy (.cst _)) rfl ht hu (hx _) (hyv _) ho hc hm ⟨d,.store t x (.tmp y),ty,ps,af,g⟩ rfl
      have hid:id<aw.length:=(List.getElem?_eq_some_iff.1 ho).1
      have hik:id≠k:=by rintro rfl;rw [ho] at hc;cases hc
      have hiq:id≠q:=by rintro rfl;rw [ho] at hq;cases hq
      obtain ⟨s3,m3⟩:=cl_put (m:=m) s2 (get_set_ne hc hik) (m2.pre _ _ h1) (get_set_ne hq hiq) (m2.pre _ _ hσq)
      have hlen:σ'.length=aw.length:=by rw [s2.len,List.length_set]
      obtain ⟨s4,m4⟩:=hd_back (id:=id) (e:=e) (k:=aw.length) s3 (by rw [← hlen];exact List.getElem?_concat_length) (by
        rw [List.getElem?_append_left (by simpa using hid),List.getElem?_set,if_neg (Ne.symm hiq),List.getElem?_set,if_neg (Ne.symm hik),List.getElem?_set,if_pos rfl,if_pos hid])
      rw [set_id4 hid hik hiq] at s4 m4
      exact ⟨vv,nx,w',_,_,F',.any,hrun,hn,s4,m2.trans (m3.trans m4),.any _,h⟩)
theorem o_st_hdf {t e e2 c id k m y kn:Nat} {x:Operand} {cells cells':List Cell} {rows:List (List AV)} (ht:P.cellsOf t=1) (hu:(P.underlying t).isSome=true) (hx:∀ v,evA n ((y,.cst v)::l) x=.aptr id 1 m 0) (hyv:∀ v,evA n ((y,.cst v)::l) (.tmp y)=.cst v) (hy:evA n l (.tmp y)=.sl rows) (ho:aw[id]?=some (.hd e k)) (hc:aw[k]?=some (.cl e2 c cells)) {xs0:List (Bool × List α)} {r0:List α} (hl0:cells.length=xs0.length) (hm0:atc xs0 m=some r0) (hset:cells.set m (.fz rows)=cells') (hk:aw.length=kn) (ha:(aw.set id (.hd e kn)).set k .dead++[.cl e2 c cells']=aw') (h:K2 .any aw') :
    OP P N ⟨d,.store t x (.tmp y),ty,ps,af,g⟩ (mkA n l) aw K2 :=
  OP.of_ok (fun σ w F a har hs=>by
    subst ha hk hset
    have hm:m<cells.length:=by rw [hl0];exact atc_lt hm0
    have ey:=har.ev (.tmp y)
    rw [Q1a,hy] at ey
    generalize hvy:a.eval (.tmp y)=vy at ey
    have hone:vy.oneCell'=true:=by cases ey<;>rfl
    obtain ⟨us,w',σ',F',nx,vv,h1,hrun,hn,s2,m2⟩:=store_hd hs (aRel_re har hvy (.cst _)) hone ht hu (hx _) (hyv _) ho hc hm ⟨d,.store t x (.tmp y),ty,ps,af,g⟩ rfl
    have hid:id<aw.length:=(List.getElem?_eq_some_iff.1 ho).1
    have hik:id≠k:=by rintro rfl;rw [ho] at hc;cases hc
    obtain ⟨s3,m3⟩:=cl_putfz (m:=m) s2 (get_set_ne hc hik) (m2.pre _ _ h1) (m2.rel hs ey)
    have hlen:σ'.length=aw.length:=by rw [s2.len,List.length_set]
    obtain ⟨s4,m4⟩:=hd_back (id:=id) (e:=e) (k:=aw.length) s3 (by rw [← hlen];exact List.getElem?_concat_length) (by
      rw [List.getElem?_append_left (by simpa using hid),List.getElem?_set,if_neg (Ne.symm hik),List.getElem?_set,if_neg (Ne.symm hik),List.getElem?_set,if_pos rfl,if_pos hid])
    rw [set_id4 hid hik hik] at s4 m4
    simp only [List.set_set] at s4 m3 m4
    exact ⟨vv,nx,w',_,_,F',.any,hrun,hn,s4,m2.trans (m3.trans m4),.any _,h⟩)
theorem nil_hd (hs:Sim aw σ w F) {id e e2 c m:Nat} (ho:aw[id]?=some (.arr e 1 (List.replicate m [.nils]))) :
    Sim (aw.set id (.hd e aw.length)++[.cl e2 c (cL en (List.replicate m (false,([]:List α))))]) (σ++[.tuple (List.replicate m (Value.slice none 0 0)).toArray]) w F∧Mv aw σ w F (aw.set id (.hd e aw.length)++[.cl e2 c (cL en (List.replicate m (false,([]:List α))))]) (σ++[.tuple (List.replicate m (Value.slice none 0 0)).toArray]) w F:=by
  have hid:id<aw.length:=(List.getElem?_eq_some_iff.1 ho).1
  have e1:cL en (List.replicate m (false,([]:List α)))=List.replicate m (.own []):=by rw [cL,List.map_replicate];rfl
  rw [e1]
  obtain ⟨s1,m1⟩:=cl_nil hs e2 c m
  obtain ⟨v,hv⟩:=σ_of hs ho
  have ho1:(aw++[Ob.cl e2 c (List.replicate m (.own []))])[id]?=some (.arr e 1 (List.replicate m [.nils])):=by rw [List.getElem?_append_left hid];exact ho
  obtain ⟨s2,m2⟩:=hd_of (e:=e) (k:=aw.length) (us:=List.replicate m (Value.slice none 0 0)) s1 (by rw [← hs.len];simp) ho1 (Yra hv) (fun flat hfl=>by
    obtain ⟨l1,l2⟩:=flat_one hfl
    refine List.ext_getElem (by rw [l1];simp) fun i h1 h2=>?_
    have hi:i<m:=by simpa using h2
    obtain ⟨a,b1,b2⟩:=l2 i [.nils] flat[i] (by rw [List.getElem?_replicate,if_pos hi]) (List.getElem?_eq_getElem h1)
    injection b1 with b3
    subst b3
    rw [List.getElem_replicate]
    generalize hf:flat[i]=u at b2
    cases b2
    rfl)
  rw [List.set_append_left _ _ hid] at s2 m2
  exact ⟨s2,m1.trans m2⟩
theorem o_mk_hd {t e e2 c k kn:Nat} {x y:Operand} {k1 k2:IntKind} {i:Int} {xs:List (Bool × List α)} (hS:SliceOf P t e 1) (hz:Q3a P e=some [.nils]) (hx:evA n l x=.int k1 i) (hy:evA n l y=.int k2 i) (hm:mk i (false,([]:List α))=some xs) (hk:aw.length=k) (hk2:aw.length+1=kn) (ha:aw++[.hd e kn,.cl e2 c (cL en xs)]=aw') (h:K2 (.ref k) aw') :
    OP P N ⟨d,.makeSlice t x y,ty,ps,af,g⟩ (mkA n l) aw K2 :=
  OP.of_ok (fun σ w F a har hs=>by
    subst ha hk hk2
    unfold mk at hm;split at hm
    · rename_i hc
      cases hm
      have hv:vcE P (mkA n l) aw (.makeSlice t x y) (fun r aw2=>r=.ref aw.length∧aw2=aw++[.arr e 1 (List.replicate i.toNat [.nils])]):=by
        simp only [vcE,hS.u,Q1a,hx,hy,hz]
        refine ⟨by rw [hS.c];rfl,by rw [hS.c];exact hS.p,hc.1,Int.le_refl _,.inr trivial,?_,by unfold maxLen;omega,by rw [hS.c];exact ⟨trivial,rfl⟩⟩
        have h1:i.toNat≤1099511627776:=by omega
        exact Nat.le_trans (Nat.mul_le_mul hS.b h1) (by decide)
      obtain ⟨vv,nx,w',aw2,σ',F',r,hrun,hn,s2,m2,hr,rfl,rfl⟩:=e_makeSlice har hs hv ⟨d,.makeSlice t x y,ty,ps,af,g⟩ rfl
      obtain ⟨s3,m3⟩:=nil_hd (en:=en) (e:=e) (e2:=e2) (c:=c) (m:=i.toNat) (id:=aw.length) s2 (by simp)
      rw [List.set_append_right _ _ (Nat.le_refl _)] at s3 m3
      simp only [Nat.sub_self,List.set_cons_zero,List.append_assoc,List.length_append,List.length_cons,List.length_nil,Nat.zero_add] at s3 m3
      exact ⟨vv,nx,w',_,_,F',_,hrun,hn,s3,m2.trans m3,m3.rel s2 hr,h⟩
    · cases hm)
theorem T.mkhd {code:Code} {Q:Exit→List AV→List Ob→Prop} {fr:List AV} (id e2 c:Nat) (en:α→List AV) {e kn:Nat} (ho:aw[id]?=some (.arr e 1 [])) (hk:aw.length=kn) (ha:aw.set id (.hd e kn)++[.cl e2 c (cL en ([]:List (Bool × List α)))]=aw') (h:T P N code Q fr aw'):T P N code Q fr aw :=
  ⟨fun st h1 h2 σ w F a hcur=>by
    subst ha hk
    obtain ⟨s1,m1⟩:=nil_hd (en:=en) (e2:=e2) (c:=c) (m:=0) hcur.sim ho
    exact h.out st h1 h2 _ w F a (hcur.step s1 m1)⟩
theorem o_bd_hd {t e e2 c q y k kn:Nat} {xs:List α} (hS:SliceOf P t e 1) (hy:evA n l (.tmp y)=.ref q) (hyv:∀ v,evA n ((y,.cst v)::l) (.tmp y)=.cst v) (hq:aw[q]?=some (.arr e2 c (xs.map en))) (hk:aw.length=k) (hk2:aw.length+1=kn) (ha:aw.set q .dead++[.hd e kn,.cl e2 c (cL en [(false,xs)])]=aw') (h:K2 (.ref k) aw') :
    OP P N ⟨d,.buildSlice t 1 #[(0,.tmp y)],ty,ps,af,g⟩ (mkA n l) aw K2 :=
  OP.of_ok (fun σ w F a har hs=>by
    subst ha hk hk2
    have ey:=har.ev (.tmp y)
    rw [Q1a,hy] at ey
    generalize hvy:a.eval (.tmp y)=vy at ey
    cases ey with
    | ref _ A qn cp hσq =>
      have har1:=aRel_re har hvy (.cst _)
      obtain ⟨z,hz,hzl⟩:=hS.z
      have hv:vcE P (mkA n ((y,.cst (.slice A qn cp))::l)) aw (.buildSlice t 1 #[(0,.tmp y)]) (fun r aw2=>r=.ref aw.length∧aw2=aw++[.arr e 1 (cR [.slice A qn cp])]):=by
        simp only [vcE,hS.u,hz]
        refine ⟨by rw [hS.c,hzl],by rw [hS.c];exact Nat.one_pos,by rw [hS.c];decide,?_⟩
        have e1:normL aw ((#[((0:Nat),Operand.tmp y)]:Array (Nat × Operand)).toList.map fun p=>ev (mkA n ((y,.cst (.slice A qn cp))::l)) p.2)=([.cst (.slice A qn cp)],aw):=by
          simp [normL,Q1a,hyv,norm,norm0]
        rw [e1]
        obtain ⟨z0,rfl⟩:=List.length_eq_one_iff.1 hzl
        have e2:rowsOf P (P.cellsOf e) (List.replicate 1 [z0]) (((#[((0:Nat),Operand.tmp y)]:Array (Nat × Operand)).toList.map (·.1)).zip [AV.cst (.slice A qn cp)])=some (cR [.slice A qn cp]):=by
          rw [hS.c]
          simp [rowsOf,AV.cells,Value.oneCell',cR,splice]
        simp only [e2]
        rw [hS.c]
        exact ⟨trivial,rfl⟩
      obtain ⟨vv,nx,w',aw2,σ',F',r,hrun,hn,s2,m2,hr,rfl,rfl⟩:=e_buildSlice har1 hs hv ⟨d,.buildSlice t 1 #[(0,.tmp y)],ty,ps,af,g⟩ rfl
      have hql:q<aw.length:=(List.getElem?_eq_some_iff.1 hq).1
      have hq2:(aw++[Ob.arr e 1 (cR [.slice A qn cp])])[q]?=some (.arr e2 c (xs.map en)):=by rw [List.getElem?_append_left hql];exact hq
      obtain ⟨s3,m3⟩:=cl_one s2 hq2 (m2.pre _ _ hσq)
      have hlen:σ'.length=aw.length+1:=by rw [s2.len];simp
      obtain ⟨s4,m4⟩:=hd_back (id:=aw.length) (e:=e) (k:=aw.length+1) (us:=[.slice A qn cp]) s3 (by rw [← hlen];simp) (by
        rw [List.getElem?_append_left (by simp),List.set_set,List.getElem?_set,if_neg (by omega)];simp)
      have e3:((((aw++[Ob.arr e 1 (cR [Value.slice A qn cp])]).set q .dead).set q .dead)++[Ob.cl e2 c [.own (xs.map en)]]).set aw.length (.hd e (aw.length+1))=aw.set q .dead++[.hd e (aw.length+1),.cl e2 c (cL en [(false,xs)])]:=by
        rw [List.set_set,List.set_append_left _ _ hql,List.append_assoc,List.set_append_right _ _ (by simp)]
        simp [cL,cel]
      rw [e3] at s4 m4
      exact ⟨vv,nx,w',_,_,F',_,hrun,hn,s4,m2.trans (m3.trans m4),(m3.trans m4).rel s2 hr,h⟩)
theorem o_ap_hd {t e e2 c id id2 k k2 q kn:Nat} {x y:Operand} {xs ys r:List (Bool × List α)} (hS:SliceOf P t e 1) (hx:evA n l x=.ref id) (hy:evA n l y=.ref id2) (ho:aw[id]?=some (.hd e k)) (hc:aw[k]?=some (.cl e2 c (cL en xs))) (ho2:aw[id2]?=some (.hd e k2)) (hc2:aw[k2]?=some (.cl e2 c (cL en ys))) (hid:(id==id2)=false) (hkk:(k==k2)=false) (hr:app xs ys=some r) (hq:aw.length=q) (hk:aw.length+1=kn) (ha:(((aw.set id .dead).set id2 .dead).set k .dead).set k2 .dead++[.hd e kn,.cl e2 c (cL en r)]=aw') (h:K2 (.ref q) aw') :
    OP P N ⟨d,.call ⟨.builtin .append,#[x,y],#[t,t]⟩,ty,ps,af,g⟩ (mkA n l) aw K2 :=
  OP.of_ok (fun σ w F a har hs=>by
    subst ha hk hq
    have ex:=har.ev x
    rw [Q1a,hx] at ex
    have ey:=har.ev y
    rw [Q1a,hy] at ey
    generalize hvx:a.eval x=vx at ex
    generalize hvy:a.eval y=vy at ey
    cases ex with
    | ref _ A qn cp hσ =>
    cases ey with
    | ref _ B qn2 cp2 hσ2 =>
      have hid':id≠id2:=by simpa using hid
      have hkk':k≠k2:=by simpa using hkk
      have hik:∀ {a b:Nat} {e k e2 c:Nat} {cs:List Cell},aw[a]?=some (.hd e k)→aw[b]?=some (.cl e2 c cs)→a≠b:=fun h1 h2=>by rintro rfl;rw [h1] at h2;cases h2
      have l1:id<aw.length:=(List.getElem?_eq_some_iff.1 ho).1
      have l2:id2<aw.length:=(List.getElem?_eq_some_iff.1 ho2).1
      obtain ⟨us,h1,_,s1,m1⟩:=hd_form hs ho hσ
      obtain ⟨us2,h2,_,s2,m2⟩:=hd_form s1 (id:=id2) (e:=e) (k:=k2) (by rw [List.getElem?_set,if_neg hid'];exact ho2) hσ2
      have hl1:=cl_len hs hc h1
      have hl2:=cl_len hs hc2 h2
      have m12:=m1.trans m2
      unfold app at hr
      split at hr
      · rename_i hfit
        cases hr
        obtain ⟨z,hz,hzl⟩:=hS.z
        have hv:vcApp P (mkA n l) ((aw.set id (.arr e 1 (cR us))).set id2 (.arr e 1 (cR us2))) [x,y] [t,t] (fun r aw2=>r=.ref aw.length∧aw2=(((aw.set id (.arr e 1 (cR us))).set id2 (.arr e 1 (cR us2))).set id2 .dead).set id .dead++[.arr e 1 (cR (us++us2))]):=by
          have g2:((aw.set id (.arr e 1 (cR us))).set id2 (.arr e 1 (cR us2)))[id2]?=some (.arr e 1 (cR us2)):=by rw [List.getElem?_set,if_pos rfl,if_pos (by simpa using l2)]
          have hnorm:norm ((aw.set id (.arr e 1 (cR us))).set id2 (.arr e 1 (cR us2))) (.ref id2)=(.sl (cR us2),((aw.set id (.arr e 1 (cR us))).set id2 (.arr e 1 (cR us2))).set id2 .dead):=by
            simp only [norm,norm0,g2]
          have g1:(((aw.set id (.arr e 1 (cR us))).set id2 (.arr e 1 (cR us2))).set id2 .dead)[id]?=some (.arr e 1 (cR us)):=by
            rw [List.getElem?_set,if_neg (Ne.symm hid'),List.getElem?_set,if_neg (Ne.symm hid'),List.getElem?_set,if_pos rfl,if_pos l1]
          simp only [vcApp,hS.u,hz,Q1a,hx,hy,hnorm,g1]
          refine ⟨trivial,trivial,hS.c.symm,by rw [hS.c,hzl],by rw [hS.c];exact Nat.one_pos,fun row hrow=>?_,?_,hS.b,?_,?_⟩
          · unfold cR at hrow
            obtain ⟨u,_,rfl⟩:=List.mem_map.1 hrow
            rw [hS.c];rfl
          · have e1:(cR us).length=xs.length:=by simp [cR,hl1]
            have e2:(cR us2).length=ys.length:=by simp [cR,hl2]
            rw [e1,e2];exact hfit
          · simp
          · rw [hS.c];simp [cR]
        obtain ⟨vv,nx,w',aw2,σ',F',r,hrun,hn,s3,m3,hr,rfl,rfl⟩:=e_append (args:=#[x,y]) (ats:=#[t,t]) (m12.aRel hs har) s2 hv ⟨d,.call ⟨.builtin .append,#[x,y],#[t,t]⟩,ty,ps,af,g⟩ rfl
        have gk:∀ {b:Nat} {e2 c:Nat} {cs:List Cell},aw[b]?=some (.cl e2 c cs)→((((aw.set id (.arr e 1 (cR us))).set id2 (.arr e 1 (cR us2))).set id2 .dead).set id .dead++[.arr e 1 (cR (us++us2))])[b]?=some (.cl e2 c cs):=fun {b _ _ _} hb=>by
          have lb:=(List.getElem?_eq_some_iff.1 hb).1
          rw [List.getElem?_append_left (by simpa using lb),List.getElem?_set,if_neg (hik ho hb),List.getElem?_set,if_neg (hik ho2 hb),List.getElem?_set,if_neg (hik ho2 hb),List.getElem?_set,if_neg (hik ho hb)]
          exact hb
        obtain ⟨s4,m4⟩:=cl_app s3 hkk' (gk hc) (m3.pre _ _ h1) (gk hc2) (m3.pre _ _ h2)
        have hlen:σ'.length=aw.length+1:=by rw [s3.len];simp
        have lk:=(List.getElem?_eq_some_iff.1 hc).1
        have lk2:=(List.getElem?_eq_some_iff.1 hc2).1
        obtain ⟨s5,m5⟩:=hd_back (id:=aw.length) (e:=e) (k:=aw.length+1) (us:=us++us2) s4 (by rw [← hlen];simp) (by
          rw [List.getElem?_append_left (by simp),List.getElem?_set,if_neg (by omega),List.getElem?_set,if_neg (by omega),List.getElem?_append_right (by simp)];simp)
        have e3:(((((((aw.set id (Ob.arr e 1 (cR us))).set id2 (Ob.arr e 1 (cR us2))).set id2 .dead).set id .dead++[Ob.arr e 1 (cR (us++us2))]).set k .dead).set k2 .dead)++[Ob.cl e2 c (cL en xs++cL en ys)]).set aw.length (.hd e (aw.length+1))=(((aw.set id .dead).set id2 .dead).set k .dead).set k2 .dead++[.hd e (aw.length+1),.cl e2 c (cL en (xs++ys))]:=by
          rw [List.set_set,List.set_comm (l:=aw.set id (Ob.arr e 1 (cR us))) Ob.dead Ob.dead (Ne.symm hid'),List.set_set,List.set_append_left _ _ (by simp),List.set_append_left _ _ (by simpa using lk),List.set_append_left _ _ (by simpa using lk2),List.set_append_right _ _ (by simp)]
          simp [cL]
        rw [e3] at s5 m5
        exact ⟨vv,nx,w',_,_,F',_,hrun,hn,s5,m12.trans (m3.trans (m4.trans m5)),(m4.trans m5).rel s3 hr,h⟩
      · cases hr)
theorem own_sl {F':Nat→Prop} (hFF:∀ b,F b→F' b) {e size c nn:Nat} {A:Option Addr} {rows:List (List AV)} {flat:List Value} (hown:w.ownsRow 0 e size (.slice A nn c) rows.length flat) (hfl:FlatRel σ w F size rows flat)
    (hF:∀ b,(Value.slice A nn c).ownBlock=some b→F' b):Rel σ w F' (.sl rows) (.slice A nn c):=by
  rcases hown.2 with ⟨e1,e2⟩ | ⟨gg,cap,cur,e1,h0,hg,h1,h2,h3,h4⟩
  · have:rows=[]:=List.eq_nil_of_length_eq_zero e2
    subst this
    rw [e1];exact .slNil
  · injection e1 with e3 e4 e5
    subst e3;subst e4;subst e5
    have key:∀ i j:Nat,i<rows.length→j<size→∃ x u,(rows[i]?.bind (·[j]?))=some x∧flat[i*size+j]?=some u∧Rel σ w F x u∧u.oneCell'=true:=fun i j hi hj=>by
      obtain ⟨hl,hrow⟩:=arr_row hfl (List.getElem?_eq_getElem hi)
      obtain ⟨u,a1,a2,a3⟩:=hrow j _ (List.getElem?_eq_getElem (by omega))
      exact ⟨_,u,by rw [List.getElem?_eq_getElem hi];exact List.getElem?_eq_getElem (by omega),a1,a2,a3⟩
    refine .sl rows size ⟨gg,0,none⟩ c (fun i j=>flat.getD (i*size+j) undef) (fun _=>hF gg rfl) h1 h2 hfl.1 (fun i j hi hj=>?_) (fun i j hi hj=>?_) (fun i row j x hi hx=>?_)
    · obtain ⟨x,u,_,a1,_,a3⟩:=key i j hi hj
      rw [List.getD_eq_getElem?_getD,a1];exact a3
    · obtain ⟨x,u,_,a1,_,_⟩:=key i j hi hj
      rw [Q6b,cell_of_row w gg _ cur e (0,0) hg,List.getD_eq_getElem?_getD,a1]
      rw [← h4,List.getElem?_take] at a1
      split at a1
      · simpa using a1
      · cases a1
    · obtain ⟨hl,hrow⟩:=arr_row hfl hi
      obtain ⟨u,a1,a2,_⟩:=hrow j x hx
      rw [List.getD_eq_getElem?_getD,a1]
      exact a2.mono (fun _ _ e=>e) hFF (fun _ _=>rfl)
def slR (en:α→List AV) (r:List α):List AV:=[.sl (r.map en)]
theorem thaw_sim (hs:Sim aw σ w F) {id k e e2 c:Nat} {xs:List (Bool × List α)} (ho:aw[id]?=some (.hd e k)) (hc:aw[k]?=some (.cl e2 c (cL en xs))) :
    ∃ F',Sim ((aw.set id (.arr e 1 ((xs.map (·.2)).map (slR en)))).set k .dead) σ w F'∧Mv aw σ w F ((aw.set id (.arr e 1 ((xs.map (·.2)).map (slR en)))).set k .dead) σ w F':=by
  obtain ⟨v,hv⟩:=σ_of hs ho
  obtain ⟨us,h1,h2,s1,m1⟩:=hd_form hs ho hv
  have hid:id<aw.length:=(List.getElem?_eq_some_iff.1 ho).1
  have hik:id≠k:=by rintro rfl;rw [ho] at hc;cases hc
  obtain ⟨hl,hcr,_,hb⟩:=cl_cells hs hc h1
  have hc1:=get_set_ne (A:=.arr e 1 (us.map fun u=>[.cst u])) hc hik
  have s2:=s1.drop k hc1 rfl h1
  have m2:=Mv.drop (w:=w) (F:=F) k hc1 rfl h1
  refine ⟨fun b=>F b∨Bk (.cl e2 c (cL en xs)) (.tuple us.toArray) b,?_⟩
  have ho2:((aw.set id (.arr e 1 (us.map fun u=>[AV.cst u]))).set k .dead)[id]?=some (.arr e 1 (us.map fun u=>[.cst u])):=by
    rw [List.getElem?_set,if_neg (Ne.symm hik),List.getElem?_set,if_pos rfl,if_pos hid]
  obtain ⟨flat,g1,g2,g3,a,nn,cc,rfl⟩:=s2.obj id _ v ho2 hv
  have hfl:=cst_inv g2
  subst hfl
  have hxl:flat.length=xs.length:=by rw [hl];simp [cL]
  have hO : ORel σ w (fun b=>F b∨Bk (.cl e2 c (cL en xs)) (.tuple flat.toArray) b) (.arr e 1 ((xs.map (·.2)).map (slR en))) (.slice a nn cc):=by
    refine ⟨flat,?_,⟨fun row hr=>?_,h2,?_⟩,g3,a,nn,cc,rfl⟩
    · rw [List.length_map,List.length_map,← hxl]
      rw [List.length_map] at g1
      exact g1
    · obtain ⟨r,_,rfl⟩:=List.mem_map.1 hr;rfl
    · have e1:((xs.map (·.2)).map (slR en)).flatten=(xs.map (·.2)).map (fun r=>AV.sl (r.map en)):=by
        generalize xs.map (·.2)=ys
        induction ys with
        | nil=>rfl
        | cons y ys ih=>simp [slR] at ih ⊢;exact ih
      rw [e1]
      refine ⟨by simp [hxl],fun j x u hx hu=>?_⟩
      rw [List.getElem?_map,List.getElem?_map] at hx
      cases hxj:xs[j]? with
      | none=>rw [hxj] at hx;cases hx
      | some p =>
        rw [hxj] at hx
        cases hx
        obtain ⟨b,r⟩:=p
        have hcell:(cL en xs)[j]?=some (cel en (b,r)):=by rw [List.getElem?_map,hxj];rfl
        have hrel:=hcr j _ u hcell hu
        cases b with
        | true=>exact Rel.mono (fun _ _ h=>h) (fun _ h=>.inl h) (fun _ _=>rfl) hrel
        | false =>
          have hrel:CellRel σ w F e2 c (.own (r.map en)) u:=hrel
          obtain ⟨fl,k1,k2,k3,a',n',c',rfl⟩:=hrel
          exact own_sl (fun _ h=>.inl h) k1 k2 (fun b hb1=>.inr (hb j _ _ b hcell hu hb1))
  have s3:=s2.repl id ho2 rfl hv _ hO (fun b h=>h)
  have m3:Mv ((aw.set id (.arr e 1 (flat.map fun u=>[AV.cst u]))).set k .dead) σ w (fun b=>F b∨Bk (.cl e2 c (cL en xs)) (.tuple flat.toArray) b) (((aw.set id (.arr e 1 (flat.map fun u=>[AV.cst u]))).set k .dead).set id (.arr e 1 ((xs.map (·.2)).map (slR en)))) σ w (fun b=>F b∨Bk (.cl e2 c (cL en xs)) (.tuple flat.toArray) b):=.repl id ho2 rfl hv (fun b h=>h)
  have e2:((aw.set id (.arr e 1 (flat.map fun u=>[AV.cst u]))).set k .dead).set id (.arr e 1 ((xs.map (·.2)).map (slR en)))=(aw.set id (.arr e 1 ((xs.map (·.2)).map (slR en)))).set k .dead:=by
    rw [List.set_comm _ _ (Ne.symm hik),List.set_set]
  rw [e2] at s3 m3
  exact ⟨s3,m1.trans (m2.trans m3)⟩
theorem T.thaw {code:Code} {Q:Exit→List AV→List Ob→Prop} {fr:List AV} (id k:Nat) {e e2 c:Nat} {xs:List (Bool × List α)} (ho:aw[id]?=some (.hd e k)) (hc:aw[k]?=some (.cl e2 c (cL en xs))) (ha:(aw.set id (.arr e 1 ((xs.map (·.2)).map (slR en)))).set k .dead=aw') (h:T P N code Q fr aw'):T P N code Q fr aw :=
  ⟨fun st h1 h2 σ w F a hcur=>by subst ha;obtain ⟨F',s1,m1⟩:=thaw_sim hcur.sim ho hc;exact h.out st h1 h2 σ w F' a (hcur.step s1 m1)⟩
theorem RS.thaw {ops:Array Oper} {os:List Oper} {K:List AV→List Ob→Prop} {fr:List AV} (id k:Nat) {e e2 c:Nat} {xs:List (Bool × List α)} (ho:aw[id]?=some (.hd e k)) (hc:aw[k]?=some (.cl e2 c (cL en xs))) (ha:(aw.set id (.arr e 1 ((xs.map (·.2)).map (slR en)))).set k .dead=aw') (h:RS P N ops os K fr aw'):RS P N ops os K fr aw :=
  ⟨fun st h1 h2 σ w F a hcur=>by subst ha;obtain ⟨F',s1,m1⟩:=thaw_sim hcur.sim ho hc;exact h.out st h1 h2 σ w F' a (hcur.step s1 m1)⟩
theorem RA.thaw {ops:Array Oper} {kk:Nat} {li:Array Bool} {K:List AV→List Ob→Prop} {fr:List AV} (id k:Nat) {e e2 c:Nat} {xs:List (Bool × List α)} (ho:aw[id]?=some (.hd e k)) (hc:aw[k]?=some (.cl e2 c (cL en xs))) (ha:(aw.set id (.arr e 1 ((xs.map (·.2)).map (slR en)))).set k .dead=aw') (h:RA P N ops kk li K fr aw'):RA P N ops kk li K fr aw :=
  ⟨fun st h1 h2 σ w F a hcur=>by subst ha;obtain ⟨F',s1,m1⟩:=thaw_sim hcur.sim ho hc;exact h.out st h1 h2 σ w F' a (hcur.step s1 m1)⟩
theorem RO.thaw {ops:Array Oper} {i:Nat} {K:List AV→List Ob→Prop} {fr:List AV} (id k:Nat) {e e2 c:Nat} {xs:List (Bool × List α)} (ho:aw[id]?=some (.hd e k)) (hc:aw[k]?=some (.cl e2 c (cL en xs))) (ha:(aw.set id (.arr e 1 ((xs.map (·.2)).map (slR en)))).set k .dead=aw') (h:RO P N ops i K fr aw'):RO P N ops i K fr aw :=
  ⟨fun st h1 h2 σ w F a hcur=>by subst ha;obtain ⟨F',s1,m1⟩:=thaw_sim hcur.sim ho hc;exact h.out st h1 h2 σ w F' a (hcur.step s1 m1)⟩
theorem rw_hd {ρ ids:List Nat} {id e k k':Nat} (h:aw[id]?=some (.hd e k)) (hk:ρ[k']?=some k) (t:RenW ρ aw ids aw'):RenW ρ aw (id::ids) (.hd e k'::aw'):=⟨⟨_,h,rfl,hk⟩,t⟩
theorem cel_pure [he:EnP en] {xs:List (Bool × List α)} {rows:List (List AV)} (h:Cell.own rows∈cL en xs∨Cell.fz rows∈cL en xs):∀ row,row∈rows→∀ x,x∈row→Pure x:=by
  have key:∀ c,c∈cL en xs→(c=.own rows∨c=.fz rows)→∀ row,row∈rows→∀ x,x∈row→Pure x:=fun c hc he2 row hr x hx=>by
    obtain ⟨⟨b,r⟩,_,rfl⟩:=List.mem_map.1 hc
    have:rows=r.map en:=by
      cases b<;>rcases he2 with h | h<;>first | (injection h with h;exact h.symm) | cases h
    subst this
    obtain ⟨a,_,rfl⟩:=List.mem_map.1 hr
    exact he.out a x hx
  exact h.elim (fun h=>key _ h (.inl rfl)) (fun h=>key _ h (.inr rfl))
theorem rw_cl {ρ ids:List Nat} {id e s:Nat} {xs ys:List (Bool × List α)} [he:EnP en] (h:aw[id]?=some (.cl e s (cL en ys))) (hx:xs=ys) (t:RenW ρ aw ids aw'):RenW ρ aw (id::ids) (.cl e s (cL en xs)::aw'):=by
  subst hx
  exact ⟨⟨_,h,rfl,rfl,rfl,fun rows hr=>cel_pure hr⟩,t⟩
theorem rom_hd {m:List (Nat × Nat)} {e k k':Nat} (h:(k',k)∈m):RenOM m (.hd e k') (.hd e k):=⟨rfl,h⟩
theorem rom_cl {m:List (Nat × Nat)} {e s:Nat} {xs:List (Bool × List α)} [he:EnP en]:RenOM m (.cl e s (cL en xs)) (.cl e s (cL en xs)):=⟨rfl,rfl,rfl,fun rows hr=>cel_pure hr⟩
end
end Go.Proofs.YtfbmoockopakjaaGreat
namespace Go.Proofs.YtfbmoockopakjaaGreat
open Go.RowKit
set_option maxRecDepth 100000
theorem Ty.c1:Tryz.prog.cellsOf 1=1:=by kernel_rfl
theorem Ty.b1:Tryz.prog.bytesOf 1=8:=by kernel_rfl
theorem Ty.k1:kindT Tryz.prog 1=some false:=by kernel_rfl
theorem Ty.z1:Q3a Tryz.prog 1=some [.nilf]:=by kernel_rfl
theorem Ty.c2:Tryz.prog.cellsOf 2=1:=by kernel_rfl
theorem Ty.b2:Tryz.prog.bytesOf 2=8:=by kernel_rfl
theorem Ty.k2:kindT Tryz.prog 2=some false:=by kernel_rfl
theorem Ty.z2:Q3a Tryz.prog 2=some [.int .i64 0]:=by kernel_rfl
theorem Ty.c3:Tryz.prog.cellsOf 3=1:=by kernel_rfl
theorem Ty.b3:Tryz.prog.bytesOf 3=8:=by kernel_rfl
theorem Ty.k3:kindT Tryz.prog 3=some false:=by kernel_rfl
theorem Ty.z3:Q3a Tryz.prog 3=some [.int .i64 0]:=by kernel_rfl
theorem Ty.c4:Tryz.prog.cellsOf 4=1:=by kernel_rfl
theorem Ty.b4:Tryz.prog.bytesOf 4=1:=by kernel_rfl
theorem Ty.k4:kindT Tryz.prog 4=some false:=by kernel_rfl
theorem Ty.z4:Q3a Tryz.prog 4=some [.bool false]:=by kernel_rfl
theorem Ty.c5:Tryz.prog.cellsOf 5=1:=by kernel_rfl
theorem Ty.z5:Q3a Tryz.prog 5=some [.int .u8 0]:=by kernel_rfl
theorem Ty.c6:Tryz.prog.cellsOf 6=1:=by kernel_rfl
theorem Ty.c7:Tryz.prog.cellsOf 7=4:=by kernel_rfl
theorem Ty.p7:Yfa Tryz.prog 7=some [(0,1),(1,1),(2,1),(3,1)]:=by kernel_rfl
theorem Ty.p8:Yfa Tryz.prog 8=some [(0,1),(1,1),(2,1),(3,1)]:=by kernel_rfl
theorem Ty.c9:Tryz.prog.cellsOf 9=1:=by kernel_rfl
theorem Ty.z9:Q3a Tryz.prog 9=some [.str []]:=by kernel_rfl
theorem Ty.c11:Tryz.prog.cellsOf 11=1:=by kernel_rfl
theorem Ty.z12:Q3a Tryz.prog 12=some [.int .u64 0]:=by kernel_rfl
theorem Ty.c13:Tryz.prog.cellsOf 13=2:=by kernel_rfl
theorem Ty.c14:Tryz.prog.cellsOf 14=2:=by kernel_rfl
theorem Ty.z14:Q3a Tryz.prog 14=some [.str [],.int .u64 0]:=by kernel_rfl
theorem Ty.z15:Q3a Tryz.prog 15=some [.nilp]:=by kernel_rfl
theorem Ty.z16:Q3a Tryz.prog 16=some [.nilp]:=by kernel_rfl
theorem Ty.c17:Tryz.prog.cellsOf 17=1:=by kernel_rfl
theorem Ty.z17:Q3a Tryz.prog 17=some [.nilp]:=by kernel_rfl
theorem Ty.c19:Tryz.prog.cellsOf 19=1:=by kernel_rfl
theorem Ty.c20:Tryz.prog.cellsOf 20=1:=by kernel_rfl
theorem Ty.z20:Q3a Tryz.prog 20=some [.nili]:=by kernel_rfl
theorem Ty.c22:Tryz.prog.cellsOf 22=1:=by kernel_rfl
theorem Ty.k22:kindT Tryz.prog 22=some false:=by kernel_rfl
theorem Ty.z22:Q3a Tryz.prog 22=some [.nils]:=by kernel_rfl
theorem Ty.c23:Tryz.prog.cellsOf 23=3:=by kernel_rfl
theorem Ty.k23:kindT Tryz.prog 23=some true:=by kernel_rfl
theorem Ty.z23:Q3a Tryz.prog 23=some [.nils,.int .i64 0,.int .i64 0]:=by kernel_rfl
theorem Ty.p23:Yfa Tryz.prog 23=some [(0,1),(1,1),(2,1)]:=by kernel_rfl
theorem Ty.c24:Tryz.prog.cellsOf 24=3:=by kernel_rfl
theorem Ty.k24:kindT Tryz.prog 24=some true:=by kernel_rfl
theorem Ty.z24:Q3a Tryz.prog 24=some [.nils,.int .i64 0,.int .i64 0]:=by kernel_rfl
theorem Ty.p24:Yfa Tryz.prog 24=some [(0,1),(1,1),(2,1)]:=by kernel_rfl
theorem Ty.c25:Tryz.prog.cellsOf 25=1:=by kernel_rfl
theorem Ty.k25:kindT Tryz.prog 25=some false:=by kernel_rfl
theorem Ty.z25:Q3a Tryz.prog 25=some [.nils]:=by kernel_rfl
theorem Ty.c26:Tryz.prog.cellsOf 26=1:=by kernel_rfl
theorem Ty.b26:Tryz.prog.bytesOf 26=24:=by kernel_rfl
theorem Ty.k26:kindT Tryz.prog 26=some false:=by kernel_rfl
theorem Ty.z26:Q3a Tryz.prog 26=some [.nils]:=by kernel_rfl
theorem Ty.c27:Tryz.prog.cellsOf 27=1:=by kernel_rfl
theorem Ty.k27:kindT Tryz.prog 27=some false:=by kernel_rfl
theorem Ty.z27:Q3a Tryz.prog 27=some [.nils]:=by kernel_rfl
theorem Ty.c28:Tryz.prog.cellsOf 28=1:=by kernel_rfl
theorem Ty.k28:kindT Tryz.prog 28=some false:=by kernel_rfl
theorem Ty.z28:Q3a Tryz.prog 28=some [.nils]:=by kernel_rfl
theorem Ty.c29:Tryz.prog.cellsOf 29=1:=by kernel_rfl
theorem Ty.b29:Tryz.prog.bytesOf 29=24:=by kernel_rfl
theorem Ty.k29:kindT Tryz.prog 29=some false:=by kernel_rfl
theorem Ty.z29:Q3a Tryz.prog 29=some [.nils]:=by kernel_rfl
theorem Ty.z30:Q3a Tryz.prog 30=some [.nils,.nils,.nils,.nils,.nils]:=by kernel_rfl
theorem Ty.c31:Tryz.prog.cellsOf 31=5:=by kernel_rfl
theorem Ty.k31:kindT Tryz.prog 31=some true:=by kernel_rfl
theorem Ty.z31:Q3a Tryz.prog 31=some [.nils,.nils,.nils,.nils,.nils]:=by kernel_rfl
theorem Ty.p31:Yfa Tryz.prog 31=some [(0,1),(1,1),(2,1),(3,1),(4,1)]:=by kernel_rfl
theorem Ty.c32:Tryz.prog.cellsOf 32=1:=by kernel_rfl
theorem Ty.k32:kindT Tryz.prog 32=some false:=by kernel_rfl
theorem Ty.z32:Q3a Tryz.prog 32=some [.int .i64 0]:=by kernel_rfl
theorem Ty.z34:Q3a Tryz.prog 34=some [.nilf]:=by kernel_rfl
theorem Ty.z35:Q3a Tryz.prog 35=some [.nilf]:=by kernel_rfl
theorem Ty.z37:Q3a Tryz.prog 37=some [.nilf]:=by kernel_rfl
theorem Ty.z38:Q3a Tryz.prog 38=some [.nilf]:=by kernel_rfl
theorem Ty.z41:Q3a Tryz.prog 41=some [.nilf]:=by kernel_rfl
theorem Ty.z44:Q3a Tryz.prog 44=some [.nilf]:=by kernel_rfl
theorem Ty.z49:Q3a Tryz.prog 49=some [.nilf]:=by kernel_rfl
theorem Ty.c51:Tryz.prog.cellsOf 51=2:=by kernel_rfl
theorem Ty.b51:Tryz.prog.bytesOf 51=16:=by kernel_rfl
theorem Ty.k51:kindT Tryz.prog 51=some true:=by kernel_rfl
theorem Ty.z51:Q3a Tryz.prog 51=some [.int .i64 0,.int .i64 0]:=by kernel_rfl
theorem Ty.p51:Yfa Tryz.prog 51=some [(0,1),(1,1)]:=by kernel_rfl
theorem Ty.c52:Tryz.prog.cellsOf 52=1:=by kernel_rfl
theorem Ty.k52:kindT Tryz.prog 52=some false:=by kernel_rfl
theorem Ty.z52:Q3a Tryz.prog 52=some [.nilf]:=by kernel_rfl
theorem Ty.z53:Q3a Tryz.prog 53=some [.nilf]:=by kernel_rfl
theorem Ty.c54:Tryz.prog.cellsOf 54=1:=by kernel_rfl
theorem Ty.k54:kindT Tryz.prog 54=some false:=by kernel_rfl
theorem Ty.z54:Q3a Tryz.prog 54=some [.nilf]:=by kernel_rfl
theorem Ty.c57:Tryz.prog.cellsOf 57=4:=by kernel_rfl
theorem Ty.b57:Tryz.prog.bytesOf 57=64:=by kernel_rfl
theorem Ty.k57:kindT Tryz.prog 57=some true:=by kernel_rfl
theorem Ty.z57:Q3a Tryz.prog 57=some [.int .i64 0,.int .i64 0,.nils,.nils]:=by kernel_rfl
theorem Ty.p57:Yfa Tryz.prog 57=some [(0,1),(1,1),(2,1),(3,1)]:=by kernel_rfl
theorem Ty.z60:Q3a Tryz.prog 60=some [.nilf]:=by kernel_rfl
theorem Ty.z64:Q3a Tryz.prog 64=some [.nilf]:=by kernel_rfl
theorem Ty.c66:Tryz.prog.cellsOf 66=1:=by kernel_rfl
theorem Ty.k66:kindT Tryz.prog 66=some false:=by kernel_rfl
theorem Ty.z66:Q3a Tryz.prog 66=some [.nilf]:=by kernel_rfl
theorem Ty.z67:Q3a Tryz.prog 67=some [.nilf]:=by kernel_rfl
theorem Ty.c68:Tryz.prog.cellsOf 68=1:=by kernel_rfl
theorem Ty.k68:kindT Tryz.prog 68=some false:=by kernel_rfl
theorem Ty.z68:Q3a Tryz.prog 68=some [.nilp]:=by kernel_rfl
theorem Ty.c72:Tryz.prog.cellsOf 72=3:=by kernel_rfl
theorem Ty.b72:Tryz.prog.bytesOf 72=24:=by kernel_rfl
theorem Ty.k72:kindT Tryz.prog 72=some true:=by kernel_rfl
theorem Ty.z72:Q3a Tryz.prog 72=some [.int .i64 0,.int .i64 0,.int .i64 0]:=by kernel_rfl
theorem Ty.p72:Yfa Tryz.prog 72=some [(0,1),(1,1),(2,1)]:=by kernel_rfl
theorem Ty.z75:Q3a Tryz.prog 75=some [.nilf]:=by kernel_rfl
theorem Ty.c76:Tryz.prog.cellsOf 76=1:=by kernel_rfl
theorem Ty.k76:kindT Tryz.prog 76=some false:=by kernel_rfl
theorem Ty.z76:Q3a Tryz.prog 76=some [.nilf]:=by kernel_rfl
theorem Ty.c77:Tryz.prog.cellsOf 77=2:=by kernel_rfl
theorem Ty.b77:Tryz.prog.bytesOf 77=16:=by kernel_rfl
theorem Ty.k77:kindT Tryz.prog 77=some true:=by kernel_rfl
theorem Ty.z77:Q3a Tryz.prog 77=some [.int .i64 0,.int .i64 0]:=by kernel_rfl
theorem Ty.p77:Yfa Tryz.prog 77=some [(0,1),(1,1)]:=by kernel_rfl
theorem Ty.c78:Tryz.prog.cellsOf 78=1:=by kernel_rfl
theorem Ty.k78:kindT Tryz.prog 78=some false:=by kernel_rfl
theorem Ty.z78:Q3a Tryz.prog 78=some [.nilf]:=by kernel_rfl
theorem Ty.c79:Tryz.prog.cellsOf 79=1:=by kernel_rfl
theorem Ty.k79:kindT Tryz.prog 79=some false:=by kernel_rfl
theorem Ty.z79:Q3a Tryz.prog 79=some [.nilf]:=by kernel_rfl
theorem Ty.z80:Q3a Tryz.prog 80=some [.nilf]:=by kernel_rfl
theorem Ty.c82:Tryz.prog.cellsOf 82=1:=by kernel_rfl
theorem Ty.k82:kindT Tryz.prog 82=some false:=by kernel_rfl
theorem Ty.z82:Q3a Tryz.prog 82=some [.nils]:=by kernel_rfl
theorem Ty.c84:Tryz.prog.cellsOf 84=3:=by kernel_rfl
theorem Ty.b84:Tryz.prog.bytesOf 84=40:=by kernel_rfl
theorem Ty.k84:kindT Tryz.prog 84=some true:=by kernel_rfl
theorem Ty.z84:Q3a Tryz.prog 84=some [.int .i64 0,.nils,.int .i64 0]:=by kernel_rfl
theorem Ty.p84:Yfa Tryz.prog 84=some [(0,1),(1,1),(2,1)]:=by kernel_rfl
theorem Ty.c97:Tryz.prog.cellsOf 97=2:=by kernel_rfl
theorem Ty.b97:Tryz.prog.bytesOf 97=16:=by kernel_rfl
theorem Ty.k97:kindT Tryz.prog 97=some true:=by kernel_rfl
theorem Ty.z97:Q3a Tryz.prog 97=some [.int .i64 0,.int .i64 0]:=by kernel_rfl
theorem Ty.p97:Yfa Tryz.prog 97=some [(0,1),(1,1)]:=by kernel_rfl
theorem Ty.c120:Tryz.prog.cellsOf 120=1:=by kernel_rfl
theorem Ty.k120:kindT Tryz.prog 120=some false:=by kernel_rfl
theorem Ty.z120:Q3a Tryz.prog 120=some [.nilf]:=by kernel_rfl
theorem Ty.c122:Tryz.prog.cellsOf 122=2:=by kernel_rfl
theorem Ty.k122:kindT Tryz.prog 122=some true:=by kernel_rfl
theorem Ty.z122:Q3a Tryz.prog 122=some [.nilf,.nilf]:=by kernel_rfl
theorem Ty.p122:Yfa Tryz.prog 122=some [(0,1),(1,1)]:=by kernel_rfl
theorem Ty.c130:Tryz.prog.cellsOf 130=1:=by kernel_rfl
theorem Ty.k130:kindT Tryz.prog 130=some false:=by kernel_rfl
theorem Ty.z130:Q3a Tryz.prog 130=some [.nils]:=by kernel_rfl
theorem Ty.c153:Tryz.prog.cellsOf 153=1:=by kernel_rfl
theorem Ty.k153:kindT Tryz.prog 153=some false:=by kernel_rfl
theorem Ty.z153:Q3a Tryz.prog 153=some [.int .u64 0]:=by kernel_rfl
theorem Ty.c157:Tryz.prog.cellsOf 157=1:=by kernel_rfl
theorem Ty.k157:kindT Tryz.prog 157=some false:=by kernel_rfl
theorem Ty.z157:Q3a Tryz.prog 157=some [.nilf]:=by kernel_rfl
theorem Ty.c158:Tryz.prog.cellsOf 158=4:=by kernel_rfl
theorem Ty.k158:kindT Tryz.prog 158=some true:=by kernel_rfl
theorem Ty.z158:Q3a Tryz.prog 158=some [.nilf,.nilf,.nilf,.nilf]:=by kernel_rfl
theorem Ty.p158:Yfa Tryz.prog 158=some [(0,1),(1,1),(2,1),(3,1)]:=by kernel_rfl
theorem Ty.c160:Tryz.prog.cellsOf 160=1:=by kernel_rfl
theorem Ty.k160:kindT Tryz.prog 160=some false:=by kernel_rfl
theorem Ty.z160:Q3a Tryz.prog 160=some [.nils]:=by kernel_rfl
theorem Ty.c164:Tryz.prog.cellsOf 164=2:=by kernel_rfl
theorem Ty.b164:Tryz.prog.bytesOf 164=16:=by kernel_rfl
theorem Ty.k164:kindT Tryz.prog 164=some true:=by kernel_rfl
theorem Ty.z164:Q3a Tryz.prog 164=some [.int .i64 0,.int .i64 0]:=by kernel_rfl
theorem Ty.p164:Yfa Tryz.prog 164=some [(0,1),(1,1)]:=by kernel_rfl
theorem Ty.c171:Tryz.prog.cellsOf 171=1:=by kernel_rfl
theorem Ty.k171:kindT Tryz.prog 171=some false:=by kernel_rfl
theorem Ty.z171:Q3a Tryz.prog 171=some [.int .u64 0]:=by kernel_rfl
theorem Ty.w3:(Tryz.prog.info? 3).bind (·.zero)=some (.int .i64 0):=by kernel_rfl
theorem Ty.w122:(Tryz.prog.info? 122).bind (·.zero)=some (.agg #[.nilFunc,.nilFunc]):=by kernel_rfl
theorem Ty.i1:(Tryz.prog.underlying 1).isSome=true:=by rw [Tryz.underlying1];rfl
theorem Ty.i2:(Tryz.prog.underlying 2).isSome=true:=by rw [Tryz.underlying2];rfl
theorem Ty.i3:(Tryz.prog.underlying 3).isSome=true:=by rw [Tryz.underlying3];rfl
theorem Ty.i4:(Tryz.prog.underlying 4).isSome=true:=by rw [Tryz.underlying4];rfl
theorem Ty.i5:(Tryz.prog.underlying 5).isSome=true:=by rw [Tryz.underlying5];rfl
theorem Ty.i8:(Tryz.prog.underlying 8).isSome=true:=by rw [Tryz.underlying8];rfl
theorem Ty.i9:(Tryz.prog.underlying 9).isSome=true:=by rw [Tryz.underlying9];rfl
theorem Ty.i12:(Tryz.prog.underlying 12).isSome=true:=by rw [Tryz.underlying12];rfl
theorem Ty.i16:(Tryz.prog.underlying 16).isSome=true:=by rw [Tryz.underlying16];rfl
theorem Ty.i17:(Tryz.prog.underlying 17).isSome=true:=by rw [Tryz.underlying17];rfl
theorem Ty.i20:(Tryz.prog.underlying 20).isSome=true:=by rw [Tryz.underlying20];rfl
theorem Ty.i22:(Tryz.prog.underlying 22).isSome=true:=by rw [Tryz.underlying22];rfl
theorem Ty.i23:(Tryz.prog.underlying 23).isSome=true:=by rw [Tryz.underlying23];rfl
theorem Ty.i24:(Tryz.prog.underlying 24).isSome=true:=by rw [Tryz.underlying24];rfl
theorem Ty.i25:(Tryz.prog.underlying 25).isSome=true:=by rw [Tryz.underlying25];rfl
theorem Ty.i26:(Tryz.prog.underlying 26).isSome=true:=by rw [Tryz.underlying26];rfl
theorem Ty.i27:(Tryz.prog.underlying 27).isSome=true:=by rw [Tryz.underlying27];rfl
theorem Ty.i28:(Tryz.prog.underlying 28).isSome=true:=by rw [Tryz.underlying28];rfl
theorem Ty.i29:(Tryz.prog.underlying 29).isSome=true:=by rw [Tryz.underlying29];rfl
theorem Ty.i31:(Tryz.prog.underlying 31).isSome=true:=by rw [Tryz.underlying31];rfl
theorem Ty.i32:(Tryz.prog.underlying 32).isSome=true:=by rw [Tryz.underlying32];rfl
theorem Ty.i35:(Tryz.prog.underlying 35).isSome=true:=by rw [Tryz.underlying35];rfl
theorem Ty.i37:(Tryz.prog.underlying 37).isSome=true:=by rw [Tryz.underlying37];rfl
theorem Ty.i41:(Tryz.prog.underlying 41).isSome=true:=by rw [Tryz.underlying41];rfl
theorem Ty.i44:(Tryz.prog.underlying 44).isSome=true:=by rw [Tryz.underlying44];rfl
theorem Ty.i49:(Tryz.prog.underlying 49).isSome=true:=by rw [Tryz.underlying49];rfl
theorem Ty.i51:(Tryz.prog.underlying 51).isSome=true:=by rw [Tryz.underlying51];rfl
theorem Ty.i52:(Tryz.prog.underlying 52).isSome=true:=by rw [Tryz.underlying52];rfl
theorem Ty.i53:(Tryz.prog.underlying 53).isSome=true:=by rw [Tryz.underlying53];rfl
theorem Ty.i54:(Tryz.prog.underlying 54).isSome=true:=by rw [Tryz.underlying54];rfl
theorem Ty.i57:(Tryz.prog.underlying 57).isSome=true:=by rw [Tryz.underlying57];rfl
theorem Ty.i60:(Tryz.prog.underlying 60).isSome=true:=by rw [Tryz.underlying60];rfl
theorem Ty.i64:(Tryz.prog.underlying 64).isSome=true:=by rw [Tryz.underlying64];rfl
theorem Ty.i66:(Tryz.prog.underlying 66).isSome=true:=by rw [Tryz.underlying66];rfl
theorem Ty.i67:(Tryz.prog.underlying 67).isSome=true:=by rw [Tryz.underlying67];rfl
theorem Ty.i68:(Tryz.prog.underlying 68).isSome=true:=by rw [Tryz.underlying68];rfl
theorem Ty.i72:(Tryz.prog.underlying 72).isSome=true:=by rw [Tryz.underlying72];rfl
theorem Ty.i75:(Tryz.prog.underlying 75).isSome=true:=by rw [Tryz.underlying75];rfl
theorem Ty.i76:(Tryz.prog.underlying 76).isSome=true:=by rw [Tryz.underlying76];rfl
theorem Ty.i77:(Tryz.prog.underlying 77).isSome=true:=by rw [Tryz.underlying77];rfl
theorem Ty.i78:(Tryz.prog.underlying 78).isSome=true:=by rw [Tryz.underlying78];rfl
theorem Ty.i79:(Tryz.prog.underlying 79).isSome=true:=by rw [Tryz.underlying79];rfl
theorem Ty.i80:(Tryz.prog.underlying 80).isSome=true:=by rw [Tryz.underlying80];rfl
theorem Ty.i82:(Tryz.prog.underlying 82).isSome=true:=by rw [Tryz.underlying82];rfl
theorem Ty.i84:(Tryz.prog.underlying 84).isSome=true:=by rw [Tryz.underlying84];rfl
theorem Ty.i97:(Tryz.prog.underlying 97).isSome=true:=by rw [Tryz.underlying97];rfl
theorem Ty.i120:(Tryz.prog.underlying 120).isSome=true:=by rw [Tryz.underlying120];rfl
theorem Ty.i122:(Tryz.prog.underlying 122).isSome=true:=by rw [Tryz.underlying122];rfl
theorem Ty.i130:(Tryz.prog.underlying 130).isSome=true:=by rw [Tryz.underlying130];rfl
theorem Ty.i153:(Tryz.prog.underlying 153).isSome=true:=by rw [Tryz.underlying153];rfl
theorem Ty.i157:(Tryz.prog.underlying 157).isSome=true:=by rw [Tryz.underlying157];rfl
theorem Ty.i158:(Tryz.prog.underlying 158).isSome=true:=by rw [Tryz.underlying158];rfl
theorem Ty.i160:(Tryz.prog.underlying 160).isSome=true:=by rw [Tryz.underlying160];rfl
theorem Ty.i164:(Tryz.prog.underlying 164).isSome=true:=by rw [Tryz.underlying164];rfl
theorem Ty.i171:(Tryz.prog.underlying 171).isSome=true:=by rw [Tryz.underlying171];rfl
theorem Ty.s22:SliceOf Tryz.prog 22 57 4:=⟨Tryz.underlying22,Ty.c57,Ty.i57,by decide,by rw [Ty.b57];decide,_,Ty.z57,rfl⟩
theorem Ty.f23_0:FieldAt Tryz.prog 23 0 22 0:=⟨⟨_,_,Tryz.underlying23,rfl,rfl,rfl,by rw [Ty.c22];decide,Ty.i22⟩⟩
theorem Ty.f23_1:FieldAt Tryz.prog 23 1 3 1:=⟨⟨_,_,Tryz.underlying23,rfl,rfl,rfl,by rw [Ty.c3];decide,Ty.i3⟩⟩
theorem Ty.f23_2:FieldAt Tryz.prog 23 2 3 2:=⟨⟨_,_,Tryz.underlying23,rfl,rfl,rfl,by rw [Ty.c3];decide,Ty.i3⟩⟩
theorem Ty.f24_0:FieldAt Tryz.prog 24 0 22 0:=⟨⟨_,_,Tryz.underlying24,rfl,rfl,rfl,by rw [Ty.c22];decide,Ty.i22⟩⟩
theorem Ty.f24_1:FieldAt Tryz.prog 24 1 3 1:=⟨⟨_,_,Tryz.underlying24,rfl,rfl,rfl,by rw [Ty.c3];decide,Ty.i3⟩⟩
theorem Ty.f24_2:FieldAt Tryz.prog 24 2 3 2:=⟨⟨_,_,Tryz.underlying24,rfl,rfl,rfl,by rw [Ty.c3];decide,Ty.i3⟩⟩
theorem Ty.s25:SliceOf Tryz.prog 25 29 1:=⟨Tryz.underlying25,Ty.c29,Ty.i29,by decide,by rw [Ty.b29];decide,_,Ty.z29,rfl⟩
theorem Ty.s26:SliceOf Tryz.prog 26 3 1:=⟨Tryz.underlying26,Ty.c3,Ty.i3,by decide,by rw [Ty.b3];decide,_,Ty.z3,rfl⟩
theorem Ty.s27:SliceOf Tryz.prog 27 84 3:=⟨Tryz.underlying27,Ty.c84,Ty.i84,by decide,by rw [Ty.b84];decide,_,Ty.z84,rfl⟩
theorem Ty.s28:SliceOf Tryz.prog 28 77 2:=⟨Tryz.underlying28,Ty.c77,Ty.i77,by decide,by rw [Ty.b77];decide,_,Ty.z77,rfl⟩
theorem Ty.s29:SliceOf Tryz.prog 29 72 3:=⟨Tryz.underlying29,Ty.c72,Ty.i72,by decide,by rw [Ty.b72];decide,_,Ty.z72,rfl⟩
theorem Ty.f31_0:FieldAt Tryz.prog 31 0 26 0:=⟨⟨_,_,Tryz.underlying31,rfl,rfl,rfl,by rw [Ty.c26];decide,Ty.i26⟩⟩
theorem Ty.f31_1:FieldAt Tryz.prog 31 1 25 1:=⟨⟨_,_,Tryz.underlying31,rfl,rfl,rfl,by rw [Ty.c25];decide,Ty.i25⟩⟩
theorem Ty.f31_2:FieldAt Tryz.prog 31 2 27 2:=⟨⟨_,_,Tryz.underlying31,rfl,rfl,rfl,by rw [Ty.c27];decide,Ty.i27⟩⟩
theorem Ty.f31_3:FieldAt Tryz.prog 31 3 28 3:=⟨⟨_,_,Tryz.underlying31,rfl,rfl,rfl,by rw [Ty.c28];decide,Ty.i28⟩⟩
theorem Ty.f31_4:FieldAt Tryz.prog 31 4 29 4:=⟨⟨_,_,Tryz.underlying31,rfl,rfl,rfl,by rw [Ty.c29];decide,Ty.i29⟩⟩
theorem Ty.s45:SliceOf Tryz.prog 45 51 2:=⟨Tryz.underlying45,Ty.c51,Ty.i51,by decide,by rw [Ty.b51];decide,_,Ty.z51,rfl⟩
theorem Ty.f51_0:FieldAt Tryz.prog 51 0 3 0:=⟨⟨_,_,Tryz.underlying51,rfl,rfl,rfl,by rw [Ty.c3];decide,Ty.i3⟩⟩
theorem Ty.f51_1:FieldAt Tryz.prog 51 1 3 1:=⟨⟨_,_,Tryz.underlying51,rfl,rfl,rfl,by rw [Ty.c3];decide,Ty.i3⟩⟩
theorem Ty.q51:StructEq Tryz.prog 51 [1,1]:=structEq_of (by kernel_rfl) Tryz.underlying51 (by kernel_rfl) ⟨by decide,rfl,Tryz.underlying3,by decide,rfl,Tryz.underlying3,trivial⟩
theorem Ty.f57_0:FieldAt Tryz.prog 57 0 3 0:=⟨⟨_,_,Tryz.underlying57,rfl,rfl,rfl,by rw [Ty.c3];decide,Ty.i3⟩⟩
theorem Ty.f57_1:FieldAt Tryz.prog 57 1 3 1:=⟨⟨_,_,Tryz.underlying57,rfl,rfl,rfl,by rw [Ty.c3];decide,Ty.i3⟩⟩
theorem Ty.f57_2:FieldAt Tryz.prog 57 2 26 2:=⟨⟨_,_,Tryz.underlying57,rfl,rfl,rfl,by rw [Ty.c26];decide,Ty.i26⟩⟩
theorem Ty.f57_3:FieldAt Tryz.prog 57 3 26 3:=⟨⟨_,_,Tryz.underlying57,rfl,rfl,rfl,by rw [Ty.c26];decide,Ty.i26⟩⟩
theorem Ty.f72_0:FieldAt Tryz.prog 72 0 3 0:=⟨⟨_,_,Tryz.underlying72,rfl,rfl,rfl,by rw [Ty.c3];decide,Ty.i3⟩⟩
theorem Ty.f72_1:FieldAt Tryz.prog 72 1 3 1:=⟨⟨_,_,Tryz.underlying72,rfl,rfl,rfl,by rw [Ty.c3];decide,Ty.i3⟩⟩
theorem Ty.f72_2:FieldAt Tryz.prog 72 2 3 2:=⟨⟨_,_,Tryz.underlying72,rfl,rfl,rfl,by rw [Ty.c3];decide,Ty.i3⟩⟩
theorem Ty.f77_0:FieldAt Tryz.prog 77 0 3 0:=⟨⟨_,_,Tryz.underlying77,rfl,rfl,rfl,by rw [Ty.c3];decide,Ty.i3⟩⟩
theorem Ty.f77_1:FieldAt Tryz.prog 77 1 3 1:=⟨⟨_,_,Tryz.underlying77,rfl,rfl,rfl,by rw [Ty.c3];decide,Ty.i3⟩⟩
theorem Ty.s82:SliceOf Tryz.prog 82 97 2:=⟨Tryz.underlying82,Ty.c97,Ty.i97,by decide,by rw [Ty.b97];decide,_,Ty.z97,rfl⟩
theorem Ty.f84_0:FieldAt Tryz.prog 84 0 3 0:=⟨⟨_,_,Tryz.underlying84,rfl,rfl,rfl,by rw [Ty.c3];decide,Ty.i3⟩⟩
theorem Ty.f84_1:FieldAt Tryz.prog 84 1 82 1:=⟨⟨_,_,Tryz.underlying84,rfl,rfl,rfl,by rw [Ty.c82];decide,Ty.i82⟩⟩
theorem Ty.f84_2:FieldAt Tryz.prog 84 2 3 2:=⟨⟨_,_,Tryz.underlying84,rfl,rfl,rfl,by rw [Ty.c3];decide,Ty.i3⟩⟩
theorem Ty.f97_0:FieldAt Tryz.prog 97 0 3 0:=⟨⟨_,_,Tryz.underlying97,rfl,rfl,rfl,by rw [Ty.c3];decide,Ty.i3⟩⟩
theorem Ty.f97_1:FieldAt Tryz.prog 97 1 3 1:=⟨⟨_,_,Tryz.underlying97,rfl,rfl,rfl,by rw [Ty.c3];decide,Ty.i3⟩⟩
theorem Ty.s106:SliceOf Tryz.prog 106 26 1:=⟨Tryz.underlying106,Ty.c26,Ty.i26,by decide,by rw [Ty.b26];decide,_,Ty.z26,rfl⟩
theorem Ty.f122_0:FieldAt Tryz.prog 122 0 120 0:=⟨⟨_,_,Tryz.underlying122,rfl,rfl,rfl,by rw [Ty.c120];decide,Ty.i120⟩⟩
theorem Ty.f122_1:FieldAt Tryz.prog 122 1 120 1:=⟨⟨_,_,Tryz.underlying122,rfl,rfl,rfl,by rw [Ty.c120];decide,Ty.i120⟩⟩
theorem Ty.s130:SliceOf Tryz.prog 130 4 1:=⟨Tryz.underlying130,Ty.c4,Ty.i4,by decide,by rw [Ty.b4];decide,_,Ty.z4,rfl⟩
theorem Ty.s160:SliceOf Tryz.prog 160 164 2:=⟨Tryz.underlying160,Ty.c164,Ty.i164,by decide,by rw [Ty.b164];decide,_,Ty.z164,rfl⟩
theorem Ty.f164_0:FieldAt Tryz.prog 164 0 3 0:=⟨⟨_,_,Tryz.underlying164,rfl,rfl,rfl,by rw [Ty.c3];decide,Ty.i3⟩⟩
theorem Ty.f164_1:FieldAt Tryz.prog 164 1 3 1:=⟨⟨_,_,Tryz.underlying164,rfl,rfl,rfl,by rw [Ty.c3];decide,Ty.i3⟩⟩
end Go.Proofs.YtfbmoockopakjaaGreat
namespace Go.Proofs.YtfbmoockopakjaaGreat
open Go.RowKit
set_option linter.unusedVariables false
set_option linter.unusedSimpArgs false
theorem mixed:Tryz.prog.follows .mixedOrders=true:=by kernel_rfl
def encI (n:Int):List AV:=[.int .i64 n]
def encS (s:List UInt8):List AV:=[.str s]
end Go.Proofs.YtfbmoockopakjaaGreat
namespace Go.Proofs.YtfbmoockopakjaaGreat
structure Item where
  (Key Val Dep:Int)
deriving DecidableEq
structure Node where
  (Kind A:Int)
  (In Out:List Int)
deriving DecidableEq
structure Net where
  Nodes:List Node
  (Rings Room:Int)
deriving DecidableEq
structure Keyed where
  (Key N:Int)
deriving DecidableEq
structure Memory where
  Sum:Int
  Keys:List Keyed
  Dep:Int
deriving DecidableEq
structure Choice where
  (Node Lane:Int)
deriving DecidableEq
structure State where
  At:List Int
  Rings:List (List Item)
  Memory:List Memory
  Choices:List Choice
  Out:List Item
deriving DecidableEq
structure Move where
  (Node Lane:Int)
deriving DecidableEq
structure Write where
  At:Int
  Bytes:List UInt8
deriving DecidableEq
structure Disk where
  Sectors:List (List UInt8)
  Wait:List Write
deriving DecidableEq
structure Shop where
  N:Net
  Items:List (List Item)
  S:State
  D:Disk
  (Logged Safe Epoch Laid Next:Int)
  Told:List Item
  Down:Bool
deriving DecidableEq
structure Happening where
  (Kind N:Int)
deriving DecidableEq
structure Ends where
  (src dst:Int)
deriving DecidableEq
end Go.Proofs.YtfbmoockopakjaaGreat
namespace Go.Proofs.YtfbmoockopakjaaGreat
open Go.RowKit
set_option linter.unusedVariables false
set_option linter.unusedSimpArgs false
def enc8 (n:Int):List AV:=[.int .u8 n]
def encU (n:Int):List AV:=[.int .u64 n]
def encB (b:Bool):List AV:=[.bool b]
def encL {α:Type} (en:α→List AV) (l:List α):List AV:=[.sl (l.map en)]
def Qaa (a:Item):List AV:=[.int .i64 a.Key,.int .i64 a.Val,.int .i64 a.Dep]
def Qja (a:Node):List AV:=[.int .i64 a.Kind,.int .i64 a.A,.sl (a.In.map encI),.sl (a.Out.map encI)]
def Qma (a:Net):List AV:=[.sl (a.Nodes.map Qja),.int .i64 a.Rings,.int .i64 a.Room]
def Qka (a:Keyed):List AV:=[.int .i64 a.Key,.int .i64 a.N]
def Qca (a:Memory):List AV:=[.int .i64 a.Sum,.sl (a.Keys.map Qka),.int .i64 a.Dep]
def Qba (a:Choice):List AV:=[.int .i64 a.Node,.int .i64 a.Lane]
def Qra (a:State):List AV:=[.sl (a.At.map encI),.sl (a.Rings.map (encL Qaa)),.sl (a.Memory.map Qca),.sl (a.Choices.map Qba),.sl (a.Out.map Qaa)]
def Qta (a:Move):List AV:=[.int .i64 a.Node,.int .i64 a.Lane]
def encWrite (a:Write):List AV:=[.int .i64 a.At,.str a.Bytes]
def encDisk (a:Disk):List AV:=[.sl (a.Sectors.map encS),.sl (a.Wait.map encWrite)]
def encShop (a:Shop):List AV:=[.sl (a.N.Nodes.map Qja),.int .i64 a.N.Rings,.int .i64 a.N.Room,.sl (a.Items.map (encL Qaa)),.sl (a.S.At.map encI),.sl (a.S.Rings.map (encL Qaa)),.sl (a.S.Memory.map Qca),.sl (a.S.Choices.map Qba),.sl (a.S.Out.map Qaa),.sl (a.D.Sectors.map encS),.sl (a.D.Wait.map encWrite),.int .i64 a.Logged,.int .i64 a.Safe,.int .i64 a.Epoch,.int .i64 a.Laid,.int .i64 a.Next,.sl (a.Told.map Qaa),.bool a.Down]
def Qvb (a:Happening):List AV:=[.int .i64 a.Kind,.int .i64 a.N]
def Q4a (a:Ends):List AV:=[.int .i64 a.src,.int .i64 a.dst]
theorem Yga:∀ a x,x∈encI a→Pure x:=fun a=>Zea (ls:=encI a) ⟨Qea _ _,trivial⟩
theorem enc8_p:∀ a x,x∈enc8 a→Pure x:=fun a=>Zea (ls:=enc8 a) ⟨Qea _ _,trivial⟩
theorem encU_p:∀ a x,x∈encU a→Pure x:=fun a=>Zea (ls:=encU a) ⟨Qea _ _,trivial⟩
theorem encB_p:∀ a x,x∈encB a→Pure x:=fun a=>Zea (ls:=encB a) ⟨Vfa _,trivial⟩
theorem encS_p:∀ a x,x∈encS a→Pure x:=fun a=>Zea (ls:=encS a) ⟨pure_str _,trivial⟩
theorem Y8a {α:Type} {en:α→List AV} (h:∀ a x,x∈en a→Pure x):∀ a x,x∈encL en a→Pure x:=fun a=>Zea (ls:=encL en a) ⟨Qpa h _,trivial⟩
theorem Q0a:∀ a x,x∈Qaa a→Pure x:=fun a=>Zea (ls:=Qaa a) ⟨Qea _ _,Qea _ _,Qea _ _,trivial⟩
theorem Qsb:∀ a x,x∈Qja a→Pure x:=fun a=>Zea (ls:=Qja a) ⟨Qea _ _,Qea _ _,Qpa Yga _,Qpa Yga _,trivial⟩
theorem encNet_p:∀ a x,x∈Qma a→Pure x:=fun a=>Zea (ls:=Qma a) ⟨Qpa Qsb _,Qea _ _,Qea _ _,trivial⟩
theorem V9a:∀ a x,x∈Qka a→Pure x:=fun a=>Zea (ls:=Qka a) ⟨Qea _ _,Qea _ _,trivial⟩
theorem Q9a:∀ a x,x∈Qca a→Pure x:=fun a=>Zea (ls:=Qca a) ⟨Qea _ _,Qpa V9a _,Qea _ _,trivial⟩
theorem Q5a:∀ a x,x∈Qba a→Pure x:=fun a=>Zea (ls:=Qba a) ⟨Qea _ _,Qea _ _,trivial⟩
theorem encState_p:∀ a x,x∈Qra a→Pure x:=fun a=>Zea (ls:=Qra a) ⟨Qpa Yga _,Qpa (Y8a Q0a) _,Qpa Q9a _,Qpa Q5a _,Qpa Q0a _,trivial⟩
theorem encMove_p:∀ a x,x∈Qta a→Pure x:=fun a=>Zea (ls:=Qta a) ⟨Qea _ _,Qea _ _,trivial⟩
theorem encWrite_p:∀ a x,x∈encWrite a→Pure x:=fun a=>Zea (ls:=encWrite a) ⟨Qea _ _,pure_str _,trivial⟩
theorem encDisk_p:∀ a x,x∈encDisk a→Pure x:=fun a=>Zea (ls:=encDisk a) ⟨Qpa encS_p _,Qpa encWrite_p _,trivial⟩
theorem encShop_p:∀ a x,x∈encShop a→Pure x:=fun a=>Zea (ls:=encShop a) ⟨Qpa Qsb _,Qea _ _,Qea _ _,Qpa (Y8a Q0a) _,Qpa Yga _,Qpa (Y8a Q0a) _,Qpa Q9a _,Qpa Q5a _,Qpa Q0a _,Qpa encS_p _,Qpa encWrite_p _,Qea _ _,Qea _ _,Qea _ _,Qea _ _,Qea _ _,Qpa Q0a _,Vfa _,trivial⟩
theorem encHappening_p:∀ a x,x∈Qvb a→Pure x:=fun a=>Zea (ls:=Qvb a) ⟨Qea _ _,Qea _ _,trivial⟩
theorem encEnds_p:∀ a x,x∈Q4a a→Pure x:=fun a=>Zea (ls:=Q4a a) ⟨Qea _ _,Qea _ _,trivial⟩
theorem encMove_eq (x y:Move):eqCells (Qta x) (Qta y)=some (x==y):=by
  cases x;cases y
  simp only [Qta,eqCells,Option.map_some,Option.some.injEq]
  rw [Bool.eq_iff_iff]
  simp
instance:EnP encI:=⟨Yga⟩
instance:EnP enc8:=⟨enc8_p⟩
instance:EnP encU:=⟨encU_p⟩
instance:EnP encB:=⟨encB_p⟩
instance:EnP encS:=⟨encS_p⟩
instance:EnP Qaa:=⟨Q0a⟩
instance:EnP Qja:=⟨Qsb⟩
instance:EnP Qma:=⟨encNet_p⟩
instance:EnP Qka:=⟨V9a⟩
instance:EnP Qca:=⟨Q9a⟩
instance:EnP Qba:=⟨Q5a⟩
instance:EnP Qra:=⟨encState_p⟩
instance:EnP Qta:=⟨encMove_p⟩
instance:EnP encWrite:=⟨encWrite_p⟩
instance:EnP encDisk:=⟨encDisk_p⟩
instance:EnP encShop:=⟨encShop_p⟩
instance:EnP Qvb:=⟨encHappening_p⟩
instance:EnP Q4a:=⟨encEnds_p⟩
instance {α:Type} {en:α→List AV} [h:EnP en]:EnP (encL en):=⟨Y8a h.out⟩
theorem Qha (b:Bool):b=true∨b=false:=by cases b<;>simp
end Go.Proofs.YtfbmoockopakjaaGreat
namespace Go.Proofs.YtfbmoockopakjaaGreat
instance:Inhabited Keyed:=⟨⟨0,0⟩⟩
def ltK (a b:Keyed):Bool:=decide (a.Key<b.Key)
noncomputable def sortK (xs:List Keyed):Option (List Keyed):=if xs.length≤1 then some xs else if xs.length≤12 then some (Sort.insertionSort ltK xs.toArray 0 xs.toArray.size).toList else none
end Go.Proofs.YtfbmoockopakjaaGreat
