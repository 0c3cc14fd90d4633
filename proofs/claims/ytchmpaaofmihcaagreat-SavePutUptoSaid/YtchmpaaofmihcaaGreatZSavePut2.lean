/-
  Part 2 of the proof of savePutLaw.proved: the code computes these functions, and the law holds of them, with no condition beyond the statement's own; put together by a program of ours (wip/decl.py) out of texts of ours.
-/
import Derived.Test.YtchmpaaofmihcaaGreatZSavePut1
namespace Go.Proofs.YtchmpaaofmihcaaGreat
open Go.RowKit
set_option linter.unusedVariables false
set_option linter.unusedSimpArgs false
def RenM (m:List (Nat × Nat)) (a' a:AV):Prop:=∀ σ w F v,Rel σ w F a v→∀ σ':List Value,(∀ p,p∈m→σ'[p.1]?=σ[p.2]?)→Rel σ' w F a' v
def RenLM (m:List (Nat × Nat)):List AV→List AV→Prop
  | [],[]=>True
  | a'::as',a::as₀=>RenM m a' a∧RenLM m as' as₀
  | _,_=>False
def RenOM (m:List (Nat × Nat)):Ob→Ob→Prop
  | .dead,_=>True
  | .box cs',.box cs=>RenLM m cs' cs
  | .boxB t' cs',.boxB t cs=>t'=t∧RenLM m cs' cs
  | .arr e' s' rows',.arr e s rows=>e'=e∧s'=s∧rows'=rows∧∀ row,row∈rows→∀ x,x∈row→Pure x
  | .mp ks' vs',.mp ks vs=>RenLM m ks' ks∧RenLM m vs' vs
  | .hd e' k',.hd e k=>e'=e∧(k',k)∈m
  | .cl e' s' cells',.cl e s cells=>e'=e∧s'=s∧cells'=cells∧∀ rows,(Cell.own rows∈cells∨Cell.fz rows∈cells)→∀ row,row∈rows→∀ x,x∈row→Pure x
  | _,_=>False
section
variable {P:Program} {σ σ':List Value} {w w':World} {F F':Nat→Prop} {aw:List Ob} {m:List (Nat × Nat)}
theorem renLM_rel:∀ {as' as₀:List AV},RenLM m as' as₀→∀ {vs:List Value},RelL σ w F as₀ vs→(∀ p,p∈m→σ'[p.1]?=σ[p.2]?)→RelL σ' w F as' vs
  | [],[],_,vs,hr,_=>by
    have:vs=[]:=List.eq_nil_of_length_eq_zero hr.1
    subst this;exact .nil
  | a'::as',a::as₀,h,vs,hr,hσ=>by
    match vs,hr with
    | [],hr=>exact absurd hr.1 (by simp)
    | v::vs,hr =>
      have h1:Rel σ w F a v:=hr.2 0 a v rfl rfl
      have h2:RelL σ w F as₀ vs:=⟨by simpa using hr.1,fun j a v ha hv=>hr.2 (j+1) a v (by simpa using ha) (by simpa using hv)⟩
      exact .cons (h.1 σ w F v h1 σ' hσ) (renLM_rel h.2 h2 hσ)
  | [],_::_,h,_,_,_=>h.elim
  | _::_,[],h,_,_,_=>h.elim
theorem renOM_rel {o' o:Ob} {v:Value} (h:RenOM m o' o) (hr:ORel σ w F o v) (hσ:∀ p,p∈m→σ'[p.1]?=σ[p.2]?):ORel σ' w F o' v:=by
  cases o' with
  | dead=>trivial
  | box cs' =>
    cases o with
    | box cs =>
      obtain ⟨g,vs,ty,rfl,hg,hc,h1,hf⟩:=hr
      exact ⟨g,vs,ty,rfl,hg,renLM_rel h hc hσ,h1,hf⟩
    | _=>exact h.elim
  | arr e' s' rows' =>
    cases o with
    | arr e s rows =>
      obtain ⟨rfl,rfl,rfl,hp⟩:=h
      obtain ⟨flat,ho,hfl,hf,A,n,c,rfl⟩:=hr
      exact ⟨flat,ho,⟨hfl.1,hfl.2.1,flatten_rel (fun row hrow x hx v hv=>hp row hrow x hx σ w F v hv σ') hfl.2.2⟩,hf,A,n,c,rfl⟩
    | _=>exact h.elim
  | mp ks' vs' =>
    cases o with
    | mp ks vs =>
      obtain ⟨g,es,clock,rfl,hg,hk,hv,hf⟩:=hr
      exact ⟨g,es,clock,rfl,hg,renLM_rel h.1 hk hσ,renLM_rel h.2 hv hσ,hf⟩
    | _=>exact h.elim
  | hd e' k' =>
    cases o with
    | hd e k =>
      obtain ⟨rfl,hk⟩:=h
      obtain ⟨us,g1,g2,g3,g4,g5⟩:=hr
      exact ⟨us,by rw [hσ _ hk];exact g1,g2,g3,g4,g5⟩
    | _=>exact h.elim
  | cl e' s' cells' =>
    cases o with
    | cl e s cells =>
      obtain ⟨rfl,rfl,rfl,hp⟩:=h
      obtain ⟨us,e1,hl1,hc,hd⟩:=hr
      exact ⟨us,e1,hl1,fun i c x h1 h2=>cell_rel (hc i c x h1 h2) (fun rows hrr=>hp rows (hrr.imp (fun (e:Cell.own rows=c)=>by rw [e];exact List.mem_of_getElem? h1) (fun (e:Cell.fz rows=c)=>by rw [e];exact List.mem_of_getElem? h1))),hd⟩
    | _=>exact h.elim
  | arrU e' s' rows' x'=>cases o<;>exact h.elim
  | boxB t' cs' =>
    cases o with
    | boxB t cs =>
      obtain ⟨rfl,h⟩:=h
      obtain ⟨g,vs,e1,hg1,hr1,h11,hf⟩:=hr
      exact ⟨g,vs,e1,hg1,renLM_rel h hr1 hσ,h11,hf⟩
    | _=>exact h.elim
theorem renOM_bk {o' o:Ob} {v:Value} {b:Nat} (h:RenOM m o' o) (hb:Bk o' v b):Bk o v b:=by
  cases o' with
  | dead=>exact hb.elim
  | cl e s cells =>
    cases o with
    | cl e' s' cells'=>obtain ⟨rfl,rfl,rfl,_⟩:=h;exact hb
    | _=>exact h.elim
  | _=>cases o<;>first | exact hb | exact h.elim
theorem renOM_live {o' o:Ob} (hr:RenOM m o' o) (hl:o'.live=true):o.live=true:=by
  cases o'<;>cases o<;>first | rfl | exact hr.elim | cases hl
theorem renO_live {ρ:List Nat} {o' o:Ob} (hr:RenO ρ o' o) (hl:o'.live=true):o.live=true:=by
  cases o'<;>cases o<;>first | rfl | exact hr.elim | cases hl
def backM (ρ:List Nat) (n0 n1:Nat):List (Nat × Nat):=(List.range n1).map fun k=>(if k<ρ.length then ρ.getD k 0 else n0+(k - ρ.length),k)
def BackW (m:List (Nat × Nat)) (ρ:List Nat) (aw aw1:List Ob):Nat→List Ob→Prop
  | _,[]=>True
  | j,o2::r=>((∃ k o1,(j,k)∈m∧aw1[k]?=some o1∧RenOM m o2 o1)∨(ρ.contains j=false∧aw[j]?=some o2))∧BackW m ρ aw aw1 (j+1) r
theorem backW_get {ρ:List Nat} {aw1:List Ob}:∀ {l:List Ob} {j i:Nat} {o2:Ob},BackW m ρ aw aw1 j l→l[i]?=some o2 →
    (∃ k o1,(j+i,k)∈m∧aw1[k]?=some o1∧RenOM m o2 o1)∨(ρ.contains (j+i)=false∧aw[j+i]?=some o2)
  | [],j,i,o2,_,h=>by simp at h
  | o::r,j,0,o2,hb,h=>by simp at h;subst h;exact hb.1
  | o::r,j,i+1,o2,hb,h=>by
    have:=backW_get (j:=j+1) (i:=i) hb.2 (by simpa using h)
    rw [show j+1+i=j+(i+1) by omega] at this
    exact this
theorem frame_call {ρ:List Nat} {aw0 aw1 aw2:List Ob} {σ0 σ1:List Value} (hs:Sim aw σ w F) (hnd:ρ.Nodup) (hW:RenW ρ aw ρ aw0) (hσ0:∀ (k id:Nat),ρ[k]?=some id→σ0[k]?=σ[id]?) (hl0:σ0.length=ρ.length)
    (hs0:Sim aw0 σ0 w F) (hd0:∀ b,Dof aw0 σ0 b→Dof aw σ b) (hs1:Sim aw1 σ1 w' F') (hm:Mv aw0 σ0 w F aw1 σ1 w' F')
    (hl:aw2.length+ρ.length=aw.length+aw1.length) (hB:BackW (backM ρ aw.length aw1.length) ρ aw aw1 0 aw2) :
    ∃ σ2,Sim aw2 σ2 w' F'∧Mv aw σ w F aw2 σ2 w' F'∧∀ p,p∈backM ρ aw.length aw1.length→σ2[p.1]?=σ1[p.2]?:=by
  have hρ1:ρ.length≤aw1.length:=by
    rw [← hs1.len]
    have hpre:=hm.pre
    by_cases h0:ρ.length=0
    · omega
    · have hlt:ρ.length - 1<σ0.length:=by omega
      have:=(List.getElem?_eq_some_iff.1 (hpre _ _ (List.getElem?_eq_getElem hlt))).1
      omega
  have hin:∀ (k id:Nat),ρ[k]?=some id→id<aw.length:=fun k id h=>by
    obtain ⟨_,hg⟩:=renW_get hW
    have hk:k<aw0.length:=by rw [← hs0.len,hl0];exact (List.getElem?_eq_some_iff.1 h).1
    obtain ⟨id',o,e1,e2,_⟩:=hg k _ (List.getElem?_eq_getElem hk)
    rw [h] at e1;cases e1
    exact (List.getElem?_eq_some_iff.1 e2).1
  refine ⟨σ++σ1.drop ρ.length,?_⟩
  have hmem:∀ j k,(j,k)∈backM ρ aw.length aw1.length ↔ (k<aw1.length∧j=if k<ρ.length then ρ.getD k 0 else aw.length+(k - ρ.length)):=fun j k=>by
    unfold backM
    simp only [List.mem_map,List.mem_range,Prod.mk.injEq]
    constructor
    · rintro ⟨k',h1,h2,rfl⟩;exact ⟨h1,h2.symm⟩
    · rintro ⟨h1,h2⟩;exact ⟨k,h1,h2.symm,rfl⟩
  have hσ2:∀ p,p∈backM ρ aw.length aw1.length→(σ++σ1.drop ρ.length)[p.1]?=σ1[p.2]?:=by
    rintro ⟨j,k⟩ hp
    obtain ⟨hk,rfl⟩:=(hmem j k).1 hp
    simp only
    split
    · rename_i hlt
      have hg:ρ[k]?=some (ρ.getD k 0):=by rw [List.getD_eq_getElem?_getD,List.getElem?_eq_getElem hlt];rfl
      have hid:=hin k _ hg
      rw [List.getElem?_append_left (by rw [hs.len];exact hid)]
      have h0:=hσ0 k _ hg
      have hlt0:k<σ0.length:=by omega
      rw [← h0,hm.pre k _ (List.getElem?_eq_getElem hlt0),List.getElem?_eq_getElem hlt0]
    · rw [List.getElem?_append_right (by rw [hs.len];omega),hs.len,List.getElem?_drop]
      congr 1;omega
  have apart:∀ (j:Nat) o v b,ρ.contains j=false→aw[j]?=some o→o.live=true→σ[j]?=some v→Bk o v b→¬ Dof aw0 σ0 b:=by
    rintro j o v b hj ho hlv hv hb ⟨k,o0,v0,hk,hl0',hv0,hb0⟩
    obtain ⟨_,hg⟩:=renW_get hW
    obtain ⟨id,o1,e1,e2,e3⟩:=hg k o0 hk
    have hv1:σ[id]?=some v0:=by rw [← hσ0 k id e1];exact hv0
    have hlv1:o1.live=true:=renO_live e3 hl0'
    refine hs.sep j id o o1 v v0 b ?_ ho e2 hlv hlv1 hv hv1 hb (renO_bk e3 hb0)
    rintro rfl
    have:ρ.contains j=true:=by simpa using List.mem_of_getElem? e1
    rw [hj] at this;cases this
  have own1:∀ (j k:Nat) o1 v b,(j,k)∈backM ρ aw.length aw1.length→aw1[k]?=some o1→o1.live=true→(σ++σ1.drop ρ.length)[j]?=some v→Bk o1 v b→Dof aw1 σ1 b:=fun j k o1 v b hp ho hlv hv hb=>by
    have:=hσ2 _ hp
    simp only at this
    exact ⟨k,o1,v,ho,hlv,by rw [← this];exact hv,hb⟩
  have live:∀ {o' o:Ob},RenOM (backM ρ aw.length aw1.length) o' o→o'.live=true→o.live=true:=fun hr hlv=>renOM_live hr hlv
  have inold:∀ (j:Nat) o v,aw[j]?=some o→(σ++σ1.drop ρ.length)[j]?=some v→σ[j]?=some v:=fun j o v ho hv=>by
    rwa [List.getElem?_append_left (by rw [hs.len];exact (List.getElem?_eq_some_iff.1 ho).1)] at hv
  have hFw:∀ b,F b→w'.heap[b]?=w.heap[b]?:=hm.same hs0
  refine ⟨⟨?_,fun j o2 v ho hv=>?_,fun j j' o o' v v' b hne ho ho' hlv hlv' hv hv' hb hb'=>?_,hs1.lt⟩,⟨hm.os,hm.tape,hm.output,hm.size,fun b hb hd=>hm.keep b hb (fun h=>hd (hd0 b h)),fun i v hv=>by rw [List.getElem?_append_left (List.getElem?_eq_some_iff.1 hv).1];exact hv,hm.sub,fun b hb=>(hm.sup b hb).imp (fun h=>h) (fun h=>h.imp (hd0 b) (fun h=>h)),fun b hb=>?_⟩,hσ2⟩
  · rw [List.length_append,List.length_drop,hs.len,hs1.len];omega
  · have:=backW_get hB ho
    rw [Nat.zero_add] at this
    rcases this with ⟨k,o1,hp,ho1,hr⟩ | ⟨hj,ho2⟩
    · have h1:=hσ2 _ hp
      simp only at h1
      exact renOM_rel hr (hs1.obj k o1 v ho1 (by rw [← h1];exact hv)) hσ2
    · have hv':=inold j o2 v ho2 hv
      refine (hs.obj j o2 v ho2 hv').mono (fun i v hv=>by rw [List.getElem?_append_left (List.getElem?_eq_some_iff.1 hv).1];exact hv) hm.sub hFw (fun hlv b hb=>?_)
      have hlt:=hs.lt_own ⟨j,o2,v,ho2,hlv,hv',hb⟩
      have hnd0:=apart j o2 v b hj ho2 hlv hv' hb
      refine ⟨hm.keep b hlt hnd0,fun hF'=>?_⟩
      rcases hm.sup b hF' with h | h | h
      · exact hs.free ⟨j,o2,v,ho2,hlv,hv',hb⟩ h
      · exact hnd0 h
      · omega
  · have c1:=backW_get hB ho
    have c2:=backW_get hB ho'
    rw [Nat.zero_add] at c1 c2
    rcases c1 with ⟨k,o1,hp,ho1,hr⟩ | ⟨hj,ho2⟩
    · rcases c2 with ⟨k',o1',hp',ho1',hr'⟩ | ⟨hj',ho2'⟩
      · have hkk:k≠k':=by
          rintro rfl
          have a1:=((hmem j k).1 hp).2
          have a2:=((hmem j' k).1 hp').2
          exact hne (a1.trans a2.symm)
        have e1:=hσ2 _ hp
        have e2:=hσ2 _ hp'
        simp only at e1 e2
        exact hs1.sep k k' o1 o1' v v' b hkk ho1 ho1' (live hr hlv) (live hr' hlv') (by rw [← e1];exact hv) (by rw [← e2];exact hv') (renOM_bk hr hb) (renOM_bk hr' hb')
      · have hv2:=inold j' o' v' ho2' hv'
        have hlt:=hs.lt_own ⟨j',o',v',ho2',hlv',hv2,hb'⟩
        rcases hm.own b (own1 j k o1 v b hp ho1 (live hr hlv) hv (renOM_bk hr hb)) with h | h
        · exact apart j' o' v' b hj' ho2' hlv' hv2 hb' h
        · omega
    · have hv1:=inold j o v ho2 hv
      have hlt:=hs.lt_own ⟨j,o,v,ho2,hlv,hv1,hb⟩
      rcases c2 with ⟨k',o1',hp',ho1',hr'⟩ | ⟨hj',ho2'⟩
      · rcases hm.own b (own1 j' k' o1' v' b hp' ho1' (live hr' hlv') hv' (renOM_bk hr' hb')) with h | h
        · exact apart j o v b hj ho2 hlv hv1 hb h
        · omega
      · exact hs.sep j j' o o' v v' b hne ho2 ho2' hlv hlv' hv1 (inold j' o' v' ho2' hv') hb hb'
  · obtain ⟨j,o2,v,ho2,hlv,hv,hb'⟩:=hb
    have c:=backW_get hB ho2
    rw [Nat.zero_add] at c
    rcases c with ⟨k,o1,hp,ho1,hr⟩ | ⟨hj,ho⟩
    · exact (hm.own b (own1 j k o1 v b hp ho1 (live hr hlv) hv (renOM_bk hr hb'))).imp (hd0 b) (fun h=>h)
    · exact .inl ⟨j,o2,v,ho,hlv,inold j o2 v ho hv,hb'⟩
end
section
variable {P:Program} {N n:Nat} {aw aw':List Ob} {l:List (Nat × AV)}
def FnX (P:Program) (f:FuncId) (args:List AV) (aw:List Ob) (v:AV) (aw':List Ob):Prop:=ACalls P f args aw fun r aw''=>r=v∧aw''=aw'
theorem FnX.of_fnO {f:FuncId} {args:List AV} {v:AV} {obs:List Ob} (h:FnO P f args v obs):FnX P f args [] v obs:=h
theorem Q5a {d:Option Tmp} {ty:TypeId} {ps:String} {af:Array Edge} {g:Option (Nat × Bool)} {K2:AV→List Ob→Prop} {f:Operand} {args:Array Operand} {ts:Array TypeId} {h:FuncId} {caps ac as0:List AV} {aw0 aw1 aw2:List Ob} {v v':AV} {n0 n1:Nat} (ρ:List Nat) (hn0:aw.length=n0) (hn1:aw1.length=n1)
    (hf:evA n l f=.func h caps) (ha:args.toList.map (evA n l)++caps=ac) (hnd:ρ.Nodup) (hW:RenW ρ aw ρ aw0) (hA:RenL ρ as0 ac) (hC:FnX P h as0 aw0 v aw1) (hlen:aw2.length+ρ.length=n0+n1)
    (hv:RenM (backM ρ n0 n1) v' v) (hB:BackW (backM ρ n0 n1) ρ aw aw1 0 aw2) (hK:K2 v' aw2):OP P N ⟨d,.call ⟨.value f,args,ts⟩,ty,ps,af,g⟩ (mkA n l) aw K2 :=
  ⟨fun st h1 h2 σ w F a hc Kc Q hk=>by
    subst hn0 hn1
    have hfv:=hc.fr.ev f
    rw [Q4a,hf] at hfv
    generalize hvf:a.eval f=vf at hfv
    cases hfv with
    | func _ _ cvs hl hcs =>
      have hargs:RelL σ w F ac (args.toList.map a.eval++cvs):=by
        rw [← ha]
        have:=relL_map hc.fr args.toList
        rw [show args.toList.map (ev (mkA n l))=args.toList.map (evA n l) from List.map_congr_left fun x _=>Q4a n l x] at this
        exact this.append ⟨hl,hcs⟩
      obtain ⟨hlW,hgW⟩:=renW_get hW
      obtain ⟨σ0',hσ',hs0',hd0'⟩:=sim_ren hc.sim hnd hW
      have hl0:σ0'.length=ρ.length:=by rw [hs0'.len,hlW]
      have hr0:RelL σ0' w F as0 (args.toList.map a.eval++cvs):=Qzb hA hargs hσ'
      have hrun:(execOp a.eval ⟨d,.call ⟨.value f,args,ts⟩,ty,ps,af,g⟩).run P w=.ok (.enter h (args.toList.map a.eval++cvs).toArray) w:=by
        have e:args.map a.eval++cvs.toArray=(args.toList.map a.eval++cvs).toArray:=by
          obtain ⟨l⟩:=args
          simp
        simp only [execOp,resolve,Deferred.ofValue,hvf,Sem.run_bind,Sem.run_pure,Result.andThen_ok,invoke,Array.empty_append,e,hC.1]
      unfold Oper.wp
      rw [hrun]
      refine (hC.2 w F σ0' _ hs0' hr0).mono ?_
      rintro e w' ⟨u,r,aw'',σ1,F',rfl,⟨rfl,rfl⟩,hs1,hrel,hm⟩
      obtain ⟨σ2,s2,m2,hσ2⟩:=frame_call hc.sim hnd hW hσ' hl0 hs0' hd0' hs1 hm hlen hB
      exact hk v' aw2 σ2 w' F' u hK (hc.step s2 m2) (hv σ1 w' F' u hrel σ2 hσ2)⟩
theorem o_callFb {d:Option Tmp} {ty:TypeId} {ps:String} {af:Array Edge} {g:Option (Nat × Bool)} {K2:AV→List Ob→Prop} {f:Operand} {args:Array Operand} {ts:Array TypeId} {h:FuncId} {caps ac as0:List AV} {aw0 aw1 aw2:List Ob} {v v':AV} {n0 n1:Nat} (ρ:List Nat) (hn0:aw.length=n0) (hn1:aw1.length=n1)
    (hf:evA n l f=.bnd h caps) (ha:caps++args.toList.map (evA n l)=ac) (hnd:ρ.Nodup) (hW:RenW ρ aw ρ aw0) (hA:RenL ρ as0 ac) (hC:FnX P h as0 aw0 v aw1) (hlen:aw2.length+ρ.length=n0+n1)
    (hv:RenM (backM ρ n0 n1) v' v) (hB:BackW (backM ρ n0 n1) ρ aw aw1 0 aw2) (hK:K2 v' aw2):OP P N ⟨d,.call ⟨.value f,args,ts⟩,ty,ps,af,g⟩ (mkA n l) aw K2 :=
  ⟨fun st h1 h2 σ w F a hc Kc Q hk=>by
    subst hn0 hn1
    have hfv:=hc.fr.ev f
    rw [Q4a,hf] at hfv
    generalize hvf:a.eval f=vf at hfv
    cases hfv with
    | bnd _ _ cvs hl hcs =>
      have hargs:RelL σ w F ac (cvs++args.toList.map a.eval):=by
        rw [← ha]
        have:=relL_map hc.fr args.toList
        rw [show args.toList.map (ev (mkA n l))=args.toList.map (evA n l) from List.map_congr_left fun x _=>Q4a n l x] at this
        exact RelL.append ⟨hl,hcs⟩ this
      obtain ⟨hlW,hgW⟩:=renW_get hW
      obtain ⟨σ0',hσ',hs0',hd0'⟩:=sim_ren hc.sim hnd hW
      have hl0:σ0'.length=ρ.length:=by rw [hs0'.len,hlW]
      have hr0:RelL σ0' w F as0 (cvs++args.toList.map a.eval):=Qzb hA hargs hσ'
      have hrun:(execOp a.eval ⟨d,.call ⟨.value f,args,ts⟩,ty,ps,af,g⟩).run P w=.ok (.enter h (cvs++args.toList.map a.eval).toArray) w:=by
        have e:cvs.toArray++args.map a.eval++#[]=(cvs++args.toList.map a.eval).toArray:=by
          obtain ⟨l⟩:=args
          simp
        simp only [execOp,resolve,Deferred.ofValue,hvf,Sem.run_bind,Sem.run_pure,Result.andThen_ok,invoke,e,hC.1]
      unfold Oper.wp
      rw [hrun]
      refine (hC.2 w F σ0' _ hs0' hr0).mono ?_
      rintro e w' ⟨u,r,aw'',σ1,F',rfl,⟨rfl,rfl⟩,hs1,hrel,hm⟩
      obtain ⟨σ2,s2,m2,hσ2⟩:=frame_call hc.sim hnd hW hσ' hl0 hs0' hd0' hs1 hm hlen hB
      exact hk v' aw2 σ2 w' F' u hK (hc.step s2 m2) (hv σ1 w' F' u hrel σ2 hσ2)⟩
theorem Qia {m:List (Nat × Nat)} {a:AV} (h:Pure a):RenM m a a:=fun σ w F v hr σ' _=>h σ w F v hr σ'
theorem J1a {m:List (Nat × Nat)} {k id:Nat} (h:(k,id)∈m):RenM m (.ref k) (.ref id):=fun σ w F v hr σ' hσ=>by
  cases hr with
  | ref _ A n c hg=>exact .ref k A n c (by have:=hσ _ h;simp only at this;rw [this];exact hg)
theorem rm_ptr {m:List (Nat × Nat)} {k id off:Nat} (h:(k,id)∈m):RenM m (.ptr k off) (.ptr id off):=fun σ w F v hr σ' hσ=>by
  cases hr with
  | ptr _ _ g hg=>exact .ptr k off g (by have:=hσ _ h;simp only at this;rw [this];exact hg)
theorem rm_agg {m:List (Nat × Nat)} {cs ds:List AV} (h:RenLM m cs ds):RenM m (.agg cs) (.agg ds):=fun σ w F v hr σ' hσ=>by
  cases hr with
  | agg _ vs hl h1 hc=>have:=renLM_rel h ⟨hl,hc⟩ hσ;exact .agg cs vs this.1 h1 this.2
theorem Qjb {m:List (Nat × Nat)} {cs ds:List AV} (h:RenLM m cs ds):RenM m (.tup cs) (.tup ds):=fun σ w F v hr σ' hσ=>by
  cases hr with
  | tup _ vs hl hc=>have:=renLM_rel h ⟨hl,hc⟩ hσ;exact .tup cs vs this.1 this.2
theorem Jba {m:List (Nat × Nat)} {cs ds:List AV} (h:RenLM m cs ds):RenOM m (.box cs) (.box ds):=h
theorem Jia {m:List (Nat × Nat)} {α:Type} {en:α→List AV} {xs:List α} {e s:Nat} (hp:∀ a x,x∈en a→Pure x):RenOM m (.arr e s (xs.map en)) (.arr e s (xs.map en)) :=
  ⟨rfl,rfl,rfl,fun row hr x hx=>by obtain ⟨a,_,rfl⟩:=List.mem_map.1 hr;exact hp a x hx⟩
theorem T.nilB {c:Code} {Q:Exit→List AV→List Ob→Prop} {fr:List AV} (id j e z:Nat) {cs cs':List AV} (ho:aw[id]?=some (.box cs)) (hj:cs[j]?=some .nils) (hc:cs.set j (.ref aw.length)=cs') (ha:aw.set id (.box cs')++[.arr e z []]=aw') (h:T P N c Q fr aw'):T P N c Q fr aw :=
  ⟨fun st h1 h2 σ w F a hcur=>by
    subst hc ha
    obtain ⟨s1,m1,r1⟩:=nil_push e z hcur.sim
    have hid:id<aw.length:=(List.getElem?_eq_some_iff.1 ho).1
    refine h.out st h1 h2 (σ++[.slice none 0 0]) w F a ⟨⟨?_,fun k o v hk hv=>?_,fun k k' o o' v v' g hne hk hk' hl hl' hv hv' hb hb'=>?_,s1.lt⟩,m1.aRel hcur.sim hcur.fr,hcur.mv.trans ⟨m1.os,m1.tape,m1.output,m1.size,m1.keep,m1.pre,m1.sub,m1.sup,fun b hb=>?_⟩,hcur.ds⟩
    · have:=s1.len;simpa using this
    · rw [List.getElem?_append] at hk
      split at hk
      · rename_i hlt
        rw [List.length_set] at hlt
        rw [List.getElem?_set] at hk
        split at hk
        · rename_i e1
          subst e1
          cases hk
          have hob:=s1.obj id _ v (by rw [List.getElem?_append_left hid];exact ho) hv
          obtain ⟨g,vs,ty,rfl,hg,hr,h1c,hf⟩:=hob
          refine ⟨g,vs,ty,rfl,hg,?_,h1c,hf⟩
          obtain ⟨u,hu,hru⟩:=hr.get hj
          cases hru
          have:=hr.set j r1
          have e2:vs.toList.set j (.slice none 0 0)=vs.toList:=by
            obtain ⟨hlt2,hvs⟩:=List.getElem?_eq_some_iff.1 hu
            rw [← hvs];exact List.set_getElem_self hlt2
          rw [e2] at this
          exact this
        · exact s1.obj k o v (by rw [List.getElem?_append_left hlt];exact hk) hv
      · rename_i hge
        exact s1.obj k o v (by rw [List.getElem?_append_right (by simpa using hge)];simpa using hk) hv
    · have back:∀ (k:Nat) o,(aw.set id (.box (cs.set j (.ref aw.length)))++[.arr e z []])[k]?=some o→o.live=true→∃ o1,(aw++[.arr e z []])[k]?=some o1∧o1.live=true∧∀ v b,Bk o v b→Bk o1 v b:=fun k o hk hl=>by
        rw [List.getElem?_append] at hk ⊢
        rw [List.length_set] at hk
        split at hk
        · rename_i hlt
          rw [if_pos hlt]
          rw [List.getElem?_set] at hk
          split at hk
          · rename_i e1;subst e1;cases hk;exact ⟨_,ho,rfl,fun _ _ h=>h⟩
          · exact ⟨o,hk,hl,fun _ _ h=>h⟩
        · rename_i hge
          rw [if_neg hge];exact ⟨o,hk,hl,fun _ _ h=>h⟩
      obtain ⟨o1,e1,l1,z1⟩:=back k o hk hl
      obtain ⟨o2,e2,l2,z2⟩:=back k' o' hk' hl'
      exact s1.sep k k' o1 o2 v v' g hne e1 e2 l1 l2 hv hv' (z1 _ _ hb) (z2 _ _ hb')
    · obtain ⟨k,o,v,hk,hl,hv,hb⟩:=hb
      refine m1.own b ⟨k,?_⟩
      rw [List.getElem?_append] at hk
      rw [List.length_set] at hk
      split at hk
      · rename_i hlt
        rw [List.getElem?_set] at hk
        rw [List.getElem?_append_left hlt]
        split at hk
        · rename_i e1;subst e1;cases hk;exact ⟨_,v,ho,rfl,hv,hb⟩
        · exact ⟨o,v,hk,hl,hv,hb⟩
      · rename_i hge
        rw [List.getElem?_append_right (by omega)]
        exact ⟨o,v,hk,hl,hv,hb⟩⟩
theorem mv_push {σ:List Value} {w:World} {F:Nat→Prop} {k e s:Nat} {rows:List (List AV)} {v:Value} (hs:Sim aw σ w F) (ho:aw[k]?=some (.arr e s rows)) (hv:σ[k]?=some v) :
    Sim (aw.set k .dead++[.arr e s rows]) (σ++[v]) w F∧Mv aw σ w F (aw.set k .dead++[.arr e s rows]) (σ++[v]) w F:=by
  have hmono:∀ (j:Nat) o u,aw[j]?=some o→σ[j]?=some u→ORel (σ++[v]) w F o u:=fun j o u h1 h2 =>
    (hs.obj j o u h1 h2).mono (fun i x hx=>Qsb hx) (fun _ h=>h) (fun _ _=>rfl) (fun hl b hb=>⟨rfl,hs.free ⟨j,o,u,h1,hl,h2,hb⟩⟩)
  have look:∀ (j:Nat) o u,(aw.set k .dead++[.arr e s rows])[j]?=some o→o.live=true→(σ++[v])[j]?=some u→∃ i,aw[i]?=some o∧σ[i]?=some u∧((i=j∧j≠k∧j<aw.length)∨(i=k∧j=aw.length)):=by
    intro j o u h1 hl h2
    rw [List.getElem?_append,List.length_set] at h1
    split at h1
    · rename_i hlt
      rw [List.getElem?_append_left (by rw [hs.len];exact hlt)] at h2
      rw [List.getElem?_set] at h1
      split at h1
      · split at h1
        · cases h1;cases hl
        · cases h1
      · rename_i hne
        exact ⟨j,h1,h2,.inl ⟨rfl,fun e=>hne e.symm,hlt⟩⟩
    · rename_i hge
      have hj:j=aw.length:=by
        have:=(List.getElem?_eq_some_iff.1 h1).1
        simp at this;omega
      subst hj
      rw [Nat.sub_self] at h1
      cases h1
      rw [List.getElem?_append_right (by rw [hs.len];exact Nat.le_refl _),hs.len,Nat.sub_self] at h2
      cases h2
      exact ⟨k,ho,hv,.inr ⟨rfl,rfl⟩⟩
  refine ⟨⟨by simp [hs.len],fun j o u h1 h2=>?_,fun j j' o o' u u' b hne h1 h1' hl hl' h2 h2' hb hb'=>?_,hs.lt⟩,⟨rfl,rfl,rfl,Nat.le_refl _,fun _ _ _=>rfl,fun i x hx=>Qsb hx,fun _ h=>h,fun _ h=>.inl h,fun b hb=>?_⟩⟩
  · by_cases hl:o.live=true
    · obtain ⟨i,h3,h4,_⟩:=look j o u h1 hl h2
      exact hmono i o u h3 h4
    · cases o with
      | dead=>trivial
      | _=>exact absurd rfl hl
  · obtain ⟨i,h3,h4,c⟩:=look j o u h1 hl h2
    obtain ⟨i',h3',h4',c'⟩:=look j' o' u' h1' hl' h2'
    refine hs.sep i i' o o' u u' b ?_ h3 h3' hl hl' h4 h4' hb hb'
    rcases c with ⟨rfl,c1,c2⟩ | ⟨rfl,rfl⟩<;>rcases c' with ⟨rfl,c1',c2'⟩ | ⟨rfl,rfl⟩
    · exact hne
    · exact c1
    · exact fun e=>c1' e.symm
    · exact absurd rfl hne
  · obtain ⟨j,o,u,h1,hl,h2,hb⟩:=hb
    obtain ⟨i,h3,h4,_⟩:=look j o u h1 hl h2
    exact .inl ⟨i,o,u,h3,hl,h4,hb⟩
theorem T.mvS {c:Code} {Q:Exit→List AV→List Ob→Prop} (t id:Nat) {e s n0:Nat} {rows:List (List AV)} (hx:evA n l (.tmp t)=.ref id) (ho:aw[id]?=some (.arr e s rows)) (hn:aw.length=n0) (ha:aw.set id .dead++[.arr e s rows]=aw') (h:T P N c Q (mkA n ((t,.ref n0)::l)) aw'):T P N c Q (mkA n l) aw :=
  ⟨fun st h1 h2 σ w F a hcur=>by
    subst ha hn
    have hr:=hcur.fr.ev (.tmp t)
    rw [Q4a,hx] at hr
    generalize hv:a.eval (.tmp t)=v at hr
    cases hr with
    | ref _ A m c2 hg =>
      obtain ⟨s1,m1⟩:=mv_push hcur.sim ho hg
      refine h.out st h1 h2 _ w F a ⟨s1,?_,hcur.mv.trans m1,hcur.ds⟩
      have hfr:=m1.aRel hcur.sim hcur.fr
      have hrn:Rel (σ++[.slice A m c2]) w F (.ref aw.length) (.slice A m c2):=.ref _ A m c2 (by rw [← hcur.sim.len];simp)
      have e1:a.tmps.getD t undef=.slice A m c2:=hv
      have hset:mkA n ((t,.ref aw.length)::l)=(mkA n l).set t (.ref aw.length):=(V1a n l (some t) _).symm
      rw [hset]
      refine ⟨?_,hfr.2⟩
      have hlen:=hfr.1.1
      by_cases ht:t<a.tmps.size
      · have:=hfr.1.set t hrn
        have e2:a.tmps.toList.set t (.slice A m c2)=a.tmps.toList:=by
          have e3:a.tmps.toList[t]?=some (.slice A m c2):=by
            have:a.tmps[t]?=some (.slice A m c2):=by
              rw [Array.getElem?_eq_getElem ht]
              rw [← e1];simp [ht]
            simpa using this
          obtain ⟨hlt2,hvs⟩:=List.getElem?_eq_some_iff.1 e3
          rw [← hvs];exact List.set_getElem_self hlt2
        rwa [e2] at this
      · have:(mkA n l).set t (.ref aw.length)=mkA n l:=List.set_eq_of_length_le (by rw [← hlen];simpa using Nat.le_of_not_lt ht)
        rw [this];exact hfr.1⟩
theorem T.mvB {c:Code} {Q:Exit→List AV→List Ob→Prop} {fr:List AV} (b j id:Nat) {e s n0:Nat} {rows:List (List AV)} {cs cs':List AV} (hb:aw[b]?=some (.box cs)) (hj:cs[j]?=some (.ref id)) (ho:aw[id]?=some (.arr e s rows)) (hn:aw.length=n0) (hc:cs.set j (.ref n0)=cs') (ha:(aw.set id .dead).set b (.box cs')++[.arr e s rows]=aw') (h:T P N c Q fr aw'):T P N c Q fr aw :=
  ⟨fun st h1 h2 σ w F a hcur=>by
    subst hc ha hn
    have hbl:b<aw.length:=(List.getElem?_eq_some_iff.1 hb).1
    have hbσ:∃ vb,σ[b]?=some vb:=⟨_,List.getElem?_eq_getElem (by rw [hcur.sim.len];exact hbl)⟩
    obtain ⟨vb,hvb⟩:=hbσ
    obtain ⟨g,vs,ty,rfl,hg,hcr,h1c,hf⟩:=hcur.sim.obj b _ vb hb hvb
    obtain ⟨u,hu,hru⟩:=hcr.get hj
    cases hru with
    | ref _ A m c2 hgσ =>
      obtain ⟨s1,m1⟩:=mv_push hcur.sim ho hgσ
      have hbid:b≠id:=by rintro rfl;rw [hb] at ho;cases ho
      have hb1:(aw.set id .dead++[.arr e s rows])[b]?=some (.box cs):=by
        rw [List.getElem?_append_left (by simpa using hbl),List.getElem?_set,if_neg (fun e=>hbid e.symm)];exact hb
      have hnew:ORel (σ++[.slice A m c2]) w F (.box (cs.set j (.ref aw.length))) (.pointer (some ⟨g,0,none⟩)):=by
        refine ⟨g,vs,ty,rfl,hg,?_,h1c,hf⟩
        have hcr1:=m1.relL hcur.sim hcr
        have:=hcr1.set j (Rel.ref (σ:=σ++[.slice A m c2]) (w:=w) (F:=F) aw.length A m c2 (by rw [← hcur.sim.len];simp))
        have e2:vs.toList.set j (.slice A m c2)=vs.toList:=by
          obtain ⟨hlt2,hvs⟩:=List.getElem?_eq_some_iff.1 hu
          rw [← hvs];exact List.set_getElem_self hlt2
        rwa [e2] at this
      have hvb1:(σ++[.slice A m c2])[b]?=some (.pointer (some ⟨g,0,none⟩)):=Qsb hvb
      have hset:(aw.set id .dead).set b (.box (cs.set j (.ref aw.length)))++[Ob.arr e s rows]=(aw.set id .dead++[Ob.arr e s rows]).set b (.box (cs.set j (.ref aw.length))):=by
        rw [List.set_append_left _ _ (by simpa using hbl)]
      rw [hset] at h
      have s2:=s1.write (b0:=g) b hb1 rfl hvb1 rfl (fun _ _=>rfl) rfl _ hnew (fun _ h=>h)
      have m2:=Mv.write (w:=w) (w':=w) (F:=F) (b0:=g) b hb1 rfl hvb1 rfl rfl rfl rfl (fun _ _=>rfl) rfl (.box (cs.set j (.ref aw.length))) (fun _ h=>h)
      exact h.out st h1 h2 _ w F a ⟨s2,m2.aRel s1 (m1.aRel hcur.sim hcur.fr),(hcur.mv.trans m1).trans m2,hcur.ds⟩⟩
def fz1 (id:Nat) (rows:List (List AV)):AV→AV
  | .ref k=>(match Nat.beq k id with | true=>.sl rows | false=>.ref k)
  | a=>a
def fz2 (id:Nat) (rows:List (List AV)):AV→AV
  | .agg cs=>.agg (cs.map (fz1 id rows))
  | a=>fz1 id rows a
def fzV (id:Nat) (rows:List (List AV)):AV→AV
  | .tup cs=>.tup (cs.map (fz2 id rows))
  | .func f cs=>.func f (cs.map (fz2 id rows))
  | a=>fz2 id rows a
def fzA (id:Nat) (rows:List (List AV)) (l:List (Nat × AV)):List (Nat × AV):=l.map fun p=>(p.1,fzV id rows p.2)
def fzOb (id:Nat) (rows:List (List AV)):Ob→Ob
  | .box cs=>.box (cs.map (fz2 id rows))
  | o=>o
section
variable {σ:List Value} {w:World} {F:Nat→Prop} {id:Nat} {rows:List (List AV)}
theorem fz1_rel (H:∀ v,Rel σ w F (.ref id) v→Rel σ w F (.sl rows) v) {a:AV} {v:Value} (h:Rel σ w F a v):Rel σ w F (fz1 id rows a) v:=by
  unfold fz1
  split
  · rename_i k
    split
    · rename_i hb
      obtain rfl:=Nat.eq_of_beq_eq_true hb
      exact H v h
    · exact h
  · exact h
theorem map_rel {f:AV→AV} (hf:∀ a v,Rel σ w F a v→Rel σ w F (f a) v) {cs:List AV} {vs:List Value} (h:RelL σ w F cs vs):RelL σ w F (cs.map f) vs:=by
  refine ⟨by simp [h.1],fun j a v ha hv=>?_⟩
  rw [List.getElem?_map,Option.map_eq_some_iff] at ha
  obtain ⟨b,hb,rfl⟩:=ha
  exact hf b v (h.2 j b v hb hv)
theorem fz2_rel (H:∀ v,Rel σ w F (.ref id) v→Rel σ w F (.sl rows) v) {a:AV} {v:Value} (h:Rel σ w F a v):Rel σ w F (fz2 id rows a) v:=by
  unfold fz2
  split
  · cases h with
    | agg _ vs hl h1 hc =>
      have:=map_rel (fun a v=>fz1_rel H) (⟨hl,hc⟩:RelL σ w F _ _)
      exact .agg _ vs this.1 h1 this.2
  · exact fz1_rel H h
theorem fzV_rel (H:∀ v,Rel σ w F (.ref id) v→Rel σ w F (.sl rows) v) {a:AV} {v:Value} (h:Rel σ w F a v):Rel σ w F (fzV id rows a) v:=by
  unfold fzV
  split
  · cases h with
    | tup _ vs hl hc =>
      have:=map_rel (fun a v=>fz2_rel H) (⟨hl,hc⟩:RelL σ w F _ _)
      exact .tup _ vs this.1 this.2
  · cases h with
    | func _ _ vs hl hc =>
      have:=map_rel (fun a v=>fz2_rel H) (⟨hl,hc⟩:RelL σ w F _ _)
      exact .func _ _ vs this.1 this.2
  · exact fz2_rel H h
theorem fz_sim (hs:Sim aw σ w F) (H:∀ v,Rel σ w F (.ref id) v→Rel σ w F (.sl rows) v):Sim (aw.map (fzOb id rows)) σ w F∧Mv aw σ w F (aw.map (fzOb id rows)) σ w F:=by
  have look:∀ (k:Nat) o,(aw.map (fzOb id rows))[k]?=some o→∃ o1,aw[k]?=some o1∧o=fzOb id rows o1∧(o.live=true→o1.live=true)∧∀ v b,Bk o v b→Bk o1 v b:=fun k o h=>by
    rw [List.getElem?_map,Option.map_eq_some_iff] at h
    obtain ⟨o1,h1,rfl⟩:=h
    exact ⟨o1,h1,rfl,fun hl=>by cases o1<;>first | rfl | exact hl,fun v b hb=>by cases o1<;>exact hb⟩
  refine ⟨⟨by simp [hs.len],fun k o v h1 h2=>?_,fun k k' o o' v v' b hne h1 h1' hl hl' h2 h2' hb hb'=>?_,hs.lt⟩,⟨rfl,rfl,rfl,Nat.le_refl _,fun _ _ _=>rfl,fun _ _ h=>h,fun _ h=>h,fun _ h=>.inl h,fun b hb=>?_⟩⟩
  · obtain ⟨o1,h3,rfl,_,_⟩:=look k o h1
    have:=hs.obj k o1 v h3 h2
    cases o1 with
    | box cs =>
      obtain ⟨g,vs,ty,rfl,hg,hr,h4,hf⟩:=this
      exact ⟨g,vs,ty,rfl,hg,map_rel (fun a v=>fz2_rel H) hr,h4,hf⟩
    | _=>exact this
  · obtain ⟨o1,h3,_,l1,z1⟩:=look k o h1
    obtain ⟨o1',h3',_,l1',z1'⟩:=look k' o' h1'
    exact hs.sep k k' o1 o1' v v' b hne h3 h3' (l1 hl) (l1' hl') h2 h2' (z1 _ _ hb) (z1' _ _ hb')
  · obtain ⟨k,o,v,h1,hl,h2,hb⟩:=hb
    obtain ⟨o1,h3,_,l1,z1⟩:=look k o h1
    exact .inl ⟨k,o1,v,h3,l1 hl,h2,z1 _ _ hb⟩
theorem lkA_map (f:AV→AV) (hf:f .any=.any):∀ (l:List (Nat × AV)) (t:Nat),lkA (l.map fun p=>(p.1,f p.2)) t=f (lkA l t)
  | [],t=>hf.symm
  | (s,v)::r,t=>by
    rw [List.map_cons,lkA_cons,lkA_cons]
    split
    · rfl
    · exact lkA_map f hf r t
theorem fz_cur {st:St} {a:Act} {e s:Nat} (hc:Cur st (mkA n l) aw σ w F a) (ho:aw[id]?=some (.arr e s rows)):∃ F',Cur st (mkA n (fzA id rows l)) ((aw.set id .dead).map (fzOb id rows)) σ w F' a:=by
  have hlt:id<σ.length:=by rw [hc.sim.len];exact (List.getElem?_eq_some_iff.1 ho).1
  have hv:=List.getElem?_eq_getElem hlt
  have s1:=hc.sim.drop id ho rfl hv
  have m1:Mv aw σ w F (aw.set id .dead) σ w _:=.drop id ho rfl hv
  obtain ⟨flat,hown,hfl,hf,A,m,c,hform⟩:=hc.sim.obj id _ _ ho hv
  have H:∀ v,Rel σ w (fun b=>F b∨Bk (.arr e s rows) σ[id] b) (.ref id) v→Rel σ w (fun b=>F b∨Bk (.arr e s rows) σ[id] b) (.sl rows) v:=fun v hr=>by
    cases hr with
    | ref _ A' m' c' h' =>
      have e1:σ[id]=.slice A' m' c':=by rw [hv] at h';exact Option.some.inj h'
      have:=arr_sl (F':=fun b=>F b∨Bk (.arr e s rows) σ[id] b) (fun _ h=>.inl h) hc.sim ho h' (fun b hb=>.inr (by rw [e1];exact hb))
      exact this
  have c1:=hc.step s1 m1
  obtain ⟨s2,m2⟩:=fz_sim (rows:=rows) s1 H
  have c2:=c1.step s2 m2
  refine ⟨_,s2,⟨⟨?_,fun j x v hx hv'=>?_⟩,c2.fr.2⟩,c2.mv,c2.ds⟩
  · rw [len_mkA];have:=c2.fr.1.1;rwa [len_mkA] at this
  · rw [get_mkA] at hx
    split at hx
    · rename_i hj
      cases hx
      unfold fzA
      rw [lkA_map _ rfl]
      exact fzV_rel H (c2.fr.1.2 j _ v (by rw [get_mkA,if_pos hj]) hv')
    · cases hx
end
theorem T.fz {c:Code} {Q:Exit→List AV→List Ob→Prop} {l':List (Nat × AV)} (id:Nat) {e s:Nat} {rows:List (List AV)} (ho:aw[id]?=some (.arr e s rows)) (hl:fzA id rows l=l') (ha:(aw.set id .dead).map (fzOb id rows)=aw') (h:T P N c Q (mkA n l') aw'):T P N c Q (mkA n l) aw :=
  ⟨fun st h1 h2 σ w F a hc=>by subst hl ha;obtain ⟨F',hc'⟩:=fz_cur hc ho;exact h.out st h1 h2 σ w F' a hc'⟩
theorem RS.fz {ops:Array Oper} {os:List Oper} {K:List AV→List Ob→Prop} {l':List (Nat × AV)} (id:Nat) {e s:Nat} {rows:List (List AV)} (ho:aw[id]?=some (.arr e s rows)) (hl:fzA id rows l=l') (ha:(aw.set id .dead).map (fzOb id rows)=aw') (h:RS P N ops os K (mkA n l') aw'):RS P N ops os K (mkA n l) aw :=
  ⟨fun st h1 h2 σ w F a hc=>by subst hl ha;obtain ⟨F',hc'⟩:=fz_cur hc ho;exact h.out st h1 h2 σ w F' a hc'⟩
theorem RA.fz {ops:Array Oper} {k:Nat} {li:Array Bool} {K:List AV→List Ob→Prop} {l':List (Nat × AV)} (id:Nat) {e s:Nat} {rows:List (List AV)} (ho:aw[id]?=some (.arr e s rows)) (hl:fzA id rows l=l') (ha:(aw.set id .dead).map (fzOb id rows)=aw') (h:RA P N ops k li K (mkA n l') aw'):RA P N ops k li K (mkA n l) aw :=
  ⟨fun st h1 h2 σ w F a hc=>by subst hl ha;obtain ⟨F',hc'⟩:=fz_cur hc ho;exact h.out st h1 h2 σ w F' a hc'⟩
theorem RO.fz {ops:Array Oper} {i:Nat} {K:List AV→List Ob→Prop} {l':List (Nat × AV)} (id:Nat) {e s:Nat} {rows:List (List AV)} (ho:aw[id]?=some (.arr e s rows)) (hl:fzA id rows l=l') (ha:(aw.set id .dead).map (fzOb id rows)=aw') (h:RO P N ops i K (mkA n l') aw'):RO P N ops i K (mkA n l) aw :=
  ⟨fun st h1 h2 σ w F a hc=>by subst hl ha;obtain ⟨F',hc'⟩:=fz_cur hc ho;exact h.out st h1 h2 σ w F' a hc'⟩
theorem ret_norm {M:Nat} {Q:AV→List Ob→Prop} {vs:List AV} {v:AV} {aw1:List Ob} (r:AV) (ρ:List Nat) (hr:normR aw (retAV vs)=(v,aw1)) (h1:ρ.Nodup) (h2:∀ k,k<M→ρ[k]?=some k) (hren:Ren ρ r v) (hw:RenW ρ aw1 ρ aw') (hQ:Q r aw'):Ret M Q aw vs :=
  ⟨[],true,r,aw',by
    simp only [nilify,if_true]
    rw [hr];exact ⟨ρ,h1,h2,hren,hw⟩,hQ⟩
end
end Go.Proofs.YtchmpaaofmihcaaGreat
namespace Go.Proofs.YtchmpaaofmihcaaGreat
def appz {α:Type} (xs:List α) (m:Int) (z:α):Option (List α):=if 0<m∧xs.length+m.toNat≤1099511627776 then some (xs++List.replicate m.toNat z) else none
def mget {κ ν:Type} [DecidableEq κ] (k:κ):List (κ × ν)→Option ν
  | []=>none
  | p::r=>if k=p.1 then some p.2 else mget k r
def mset {κ ν:Type} [DecidableEq κ] (k:κ) (v:ν):List (κ × ν)→List (κ × ν)
  | []=>[(k,v)]
  | p::r=>if k=p.1 then (k,v)::r else p::mset k v r
def cpy {α:Type} (xs:List α) (lo n:Nat) (ys:List α):List α:=xs.take lo++ys.take n++xs.drop (lo+min n ys.length)
def vwok (len:Nat) (i j:Int):Option Unit:=if 0≤i∧i≤j∧j≤len then some () else none
noncomputable def allC {α:Type} (n:Nat) (f:Nat→Option α):Option α :=
  open Classical in if h:∃ r,∀ C,n≤C→f C=some r then some (Classical.choose h) else none
theorem allC_some {α:Type} {n:Nat} {f:Nat→Option α} {r:α} (h:allC n f=some r):∀ C,n≤C→f C=some r:=by
  unfold allC at h
  split at h
  · rename_i hx
    cases h
    exact Classical.choose_spec hx
  · cases h
theorem allC_of {α:Type} {n:Nat} {f:Nat→Option α} {r:α} (h:∀ C,n≤C→f C=some r):allC n f=some r:=by
  have hx:∃ r,∀ C,n≤C→f C=some r:=⟨r,h⟩
  have h1:=Classical.choose_spec hx n (Nat.le_refl _)
  rw [h n (Nat.le_refl _)] at h1
  unfold allC
  rw [dif_pos hx]
  exact h1.symm
def roomx (len C:Nat) (j:Int):Option Nat:=if 0<len∧(len:Int)≤j∧j≤C then some (j.toNat - len) else none
def cpyU {α:Type} (xs:List α) (x lo m lo2 m2:Nat):Option (List α):=if 0<m∧m≤m2∧lo≤xs.length∧lo+m=xs.length+x∧lo2+m=xs.length then some (xs.take lo++xs.drop lo2) else none
def growz {α:Type} (xs:List α) (n K:Nat) (m:Int) (z:α):Option (List α):=if n≤xs.length∧(K:Int)<n+m∧0<m∧n+m.toNat≤1099511627776 then some (xs.take n++List.replicate m.toNat z) else none
def ovok {α:Type} (ys:List α) (m:Nat):Option Unit:=if 0<ys.length∧0<m then some () else none
end Go.Proofs.YtchmpaaofmihcaaGreat
namespace Go.Proofs.YtchmpaaofmihcaaGreat
open Go.RowKit Go.Lib
set_option linter.unusedVariables false
set_option linter.unusedSimpArgs false
section
variable {P:Program} {N n:Nat} {aw aw':List Ob} {l:List (Nat × AV)}
theorem OP.of_ok {o:Oper} {fr:List AV} {K:AV→List Ob→Prop} (h:∀ σ w F a,ARel σ w F fr a→Sim aw σ w F→OpOk P aw σ w F (execOp a.eval o) K):OP P N o fr aw K :=
  ⟨fun st h1 h2 σ w F a hc Kc Q hk=>by
    obtain ⟨v,n,w',aw',σ',F',r,hrun,hn,hs,hm,hr,hK⟩:=h σ w F a hc.fr hc.sim
    unfold Oper.wp
    rw [hrun]
    rcases hn with rfl | ⟨rfl,rfl⟩
    · exact hk r aw' σ' w' F' v hK (hc.step hs hm) hr
    · exact hk r aw' σ' w' F' undef hK (hc.step hs hm) hr⟩
theorem app_zeros {σ:List Value} {w:World} {F:Nat→Prop} {t tn ty e:TypeId} {z:List AV} {kn kq:IntKind} (hu:P.underlying t=some (.slice e)) (htn:P.underlying tn=some (.int kn)) (hz:Q7a P e=some z) (hzl:z.length=P.cellsOf e) (h0:0<P.cellsOf e) (hby:P.bytesOf e≤128)
    {n m:Nat} {v:Value} {flat:List Value} (hown:w.ownsRow 0 e (P.cellsOf e) v n flat) (hm:0<m) (hlen:n+m≤1099511627776) :
    ∃ v' w' news,(Builtin.append_ #[t,tn] ty #[v,.int kq m]).run P w=.ok v' w'∧w'.ownsRow 0 e (P.cellsOf e) v' (n+m) (flat++news)∧w.grownBy w' v.ownBlock ∧
      (v'.ownBlock=v.ownBlock∨v'.ownBlock=some w.heap.size)∧RelL σ w F (List.replicate m z).flatten news∧(∀ u,u∈news→u.oneCell'=true)∧(∀ A q cp,v=.slice A q cp→cp<n+m→v'.ownBlock=some w.heap.size∧w.grownBy w' none):=by
  obtain ⟨i,zv,hi,hiz,hvl,hv1,hvr⟩:=zero_some hz
  have hsz:i.size=P.cellsOf e:=by simp [Program.cellsOf,hi]
  have hbb:i.bytes=P.bytesOf e:=by simp [Program.bytesOf,hi]
  rw [← hsz] at hown h0 hzl ⊢
  rw [← hbb] at hby
  have hzs:zv.cells.size=i.size:=by rw [← hzl];simpa using hvl
  have hinit:=init_rel (hvr σ w F) (by omega) m
  have hone:=one_made hv1 (by omega) (m*zv.cells.size)
  have hbytes:(n+m)*i.bytes≤140737488355328:=by
    have:(n+m)*i.bytes≤1099511627776*128:=Nat.mul_le_mul hlen hby
    omega
  have h63:n+m≤maxLen:=by simp only [maxLen];omega
  have hnl:(Builtin.zeroCells zv.cells m).toList.length=m*i.size:=by rw [Array.length_toList,size_zeroCells,hzs]
  have hfl:(flat++(Builtin.zeroCells zv.cells m).toList).length=(n+m)*i.size:=by rw [List.length_append,hown.1,hnl,Nat.add_mul]
  have hrel:RelL σ w F (List.replicate m z).flatten (Builtin.zeroCells zv.cells m).toList:=by
    have e1:m*z.length=m*zv.cells.size:=by rw [hzl,hzs]
    rw [e1] at hinit
    exact hinit
  have grown:∀ (old:Nat),old<n+m→∀ (row:Option Nat),
      (w.drew.alloc (.cells (flat.toArray++Builtin.zeroCells zv.cells m++Builtin.zeroCells zv.cells (grownCap w (n+m) old e - (n+m))) e)).ownsRow 0 e i.size
        (.slice (some ⟨w.heap.size,0,none⟩) (n+m) (grownCap w (n+m) old e)) (n+m) (flat++(Builtin.zeroCells zv.cells m).toList) ∧
      w.grownBy (w.drew.alloc (.cells (flat.toArray++Builtin.zeroCells zv.cells m++Builtin.zeroCells zv.cells (grownCap w (n+m) old e - (n+m))) e)) row:=by
    intro old ho row
    have hge:=grownCap_ge w (n+m) old e
    have hcm:grownCap w (n+m) old e≤maxLen:=grownCap_le_maxLen w (n+m) old e h63
    refine ⟨⟨hfl,.inr ⟨w.heap.size,_,_,rfl,Nat.zero_le _,heap_alloc_new w.drew _,hge,hcm,?_,?_⟩⟩,⟨rfl,rfl,rfl,by simp,fun k hk _=>Below.heap_alloc w.drew _ k hk⟩⟩
    · simp only [Array.size_append,List.size_toArray,size_zeroCells,hzs,hown.1,← Nat.add_mul]
      congr 1
      omega
    · simp only [Array.toList_append]
      rw [← hfl]
      exact List.take_left
  rcases hown.2 with ⟨rfl,rfl⟩ | ⟨g,cap,cur,rfl,hbg,hg,hnc,hcm,hcs,htake⟩
  · have hx:flat=[]:=List.eq_nil_of_length_eq_zero (by simpa using hown.1)
    subst hx
    have hr:=run_append_nil_zeros (P:=P) w t tn ty e i zv kq kn hu htn hi hiz m hm h0 (by omega) (by
      have:m*i.bytes≤140737488355328:=by simpa using hbytes
      omega)
    have hgr:=grown 0 (by omega) none
    simp only [Nat.zero_add,List.nil_append,Array.empty_append] at hgr ⊢
    exact ⟨_,_,_,hr,hgr.1,hgr.2,.inr rfl,hrel,hone,fun _ _ _ _ _=>⟨rfl,hgr.2⟩⟩
  · by_cases hroom:n+m≤cap
    · have hfit:n*i.size+(Builtin.zeroCells zv.cells m).toList.length≤cur.size:=by rw [hnl,hcs,← Nat.add_mul];exact Nat.mul_le_mul_right _ hroom
      have hst:=run_storeCells_at P g (n*i.size) e (Builtin.zeroCells zv.cells m).toList 0 cur w hg (by simpa using hfit) hone
      simp only [Nat.add_zero] at hst
      have hw:IntKind.i64.wrap (m:Int)=m:=by rw [IntKind.wrap_i64];omega
      have hneg:¬ ((m:Int)<0):=by omega
      have hns:¬ (m*i.size=0):=Nat.mul_ne_zero (by omega) (by omega)
      have h48i:¬ (281474976710656<(m:Int)*(i.bytes:Int)):=by
        rw [← Int.natCast_mul]
        have:m*i.bytes≤(n+m)*i.bytes:=Nat.mul_le_mul_right _ (by omega)
        omega
      have hr:(Builtin.append_ #[t,tn] ty #[.slice (some ⟨g,0,none⟩) n cap,.int kq m]).run P w=.ok (.slice (some ⟨g,0,none⟩) (n+m) cap)
          (w.setRow g (cur.toList.take (n*i.size)++(Builtin.zeroCells zv.cells m).toList++cur.toList.drop (n*i.size+(Builtin.zeroCells zv.cells m).toList.length)).toArray):=by
        simp [Builtin.append_,run_underlying hu,run_underlying htn,sizeOf,typeInfo,zeroValue,hi,hiz,asInt,asIntOf,hw,hneg,hns,h48i,hroom,Addr.add_lit,hst]
      refine ⟨_,_,_,hr,⟨hfl,.inr ⟨g,cap,_,rfl,hbg,setRow_heap w g cur _ e _ hg,hroom,hcm,?_,?_⟩⟩,⟨rfl,rfl,rfl,by simp,fun k _ hk=>setRow_other w g k _ (fun e=>hk (by simp [Value.ownBlock,e]))⟩,.inl rfl,hrel,hone,fun A q cp e h=>by cases e;omega⟩
      · simp only [List.size_toArray,List.length_append,List.length_take,List.length_drop,Array.length_toList]
        simp only [Array.length_toList] at hfit
        omega
      · rw [htake,← hfl]
        exact List.take_left
    · have holds:∀ j u,flat[j]?=some u→w.drew.cell? ((⟨g,0,none⟩:Addr).add j)=some u:=hown.cells (g:=g) rfl
      have hold:=run_firstCells_some (P:=P) w.drew i.size n ⟨g,0,none⟩ n cap flat hown.1 holds
      have hr:=run_append_grow_zeros (P:=P) w t tn ty e i zv kq kn hu htn hi hiz (some ⟨g,0,none⟩) n cap flat hold m hm h0 (by omega) (by omega) (by
        have:m*i.bytes≤(n+m)*i.bytes:=Nat.mul_le_mul_right _ (by omega)
        omega) (growslice_fits (by omega) hbytes)
      have hgr:=grown cap (by omega) (Value.ownBlock (.slice (some ⟨g,0,none⟩) n cap))
      exact ⟨_,_,_,hr,hgr.1,hgr.2,.inr rfl,hrel,hone,fun _ _ _ _ _=>⟨rfl,(grown cap (by omega) none).2⟩⟩
theorem o_app_z {α:Type} {en:α→List AV} {z0:α} {xs r:List α} {t tn:TypeId} {x y:Operand} {id e c k:Nat} {m:Int} {kn kq:IntKind} {d:Option Tmp} {ty:TypeId} {ps:String} {af:Array Edge} {g:Option (Nat × Bool)} {K2:AV→List Ob→Prop}
    (hS:SliceOf P t e c) (htn:P.underlying tn=some (.int kn)) (hz:Q7a P e=some (en z0)) (hen:∀ a,(en a).length=c) (hx:evA n l x=.ref id) (hy:evA n l y=.int kq m) (ho:aw[id]?=some (.arr e c (xs.map en))) (hr:appz xs m z0=some r) (hk:aw.length=k)
    (ha:aw.set id .dead++[.arr e c (r.map en)]=aw') (h:K2 (.ref k) aw'):OP P N ⟨d,.call ⟨.builtin .append,#[x,y],#[t,tn]⟩,ty,ps,af,g⟩ (mkA n l) aw K2 :=
  OP.of_ok (fun σ w F a har hs=>by
    unfold appz at hr;split at hr
    · rename_i hc
      cases hr
      subst hk ha
      have ex:=har.ev x
      have ey:=har.ev y
      rw [Q4a,hx] at ex
      rw [Q4a,hy] at ey
      generalize hvx:a.eval x=vx at ex
      generalize hvy:a.eval y=vy at ey
      cases ey
      cases ex with
      | ref _ A q cp hσ =>
        obtain ⟨flat,hown0,hfl,hf,_⟩:=hs.obj id _ _ ho hσ
        have hcc:=hS.c
        have hlen:(xs.map en).length+m.toNat≤1099511627776:=by simpa using hc.2
        have hown1:w.ownsRow 0 e (P.cellsOf e) (.slice A q cp) (xs.map en).length flat:=by rw [hcc];exact hown0
        obtain ⟨v',w',news,hrun,hown,hg,hat,hr,h1,_⟩:=app_zeros (σ:=σ) (F:=F) (ty:=ty) (kq:=kq) hS.u htn hz (by rw [hen,hcc]) (by rw [hcc];exact hS.p) hS.b hown1 (m:=m.toNat) (by omega) hlen
        rw [Int.toNat_of_nonneg (by omega)] at hrun
        rw [hcc] at hown
        have s3:=hs.lose id
        have hfree:∀ b,(Value.slice A q cp).ownBlock=some b→¬ F b∧¬ Dof (aw.set id .dead) σ b∧Dof aw σ b:=by
          intro b hb
          refine ⟨hf b hb,fun hd=>?_,⟨id,_,_,ho,rfl,hσ,(Bk.slice hb)⟩⟩
          obtain ⟨k,o1,v1,ho1,hl,hv1,hb1⟩:=hd
          rcases Qeb ho1 with ⟨rfl,rfl,_⟩ | ⟨hne,h2⟩
          · simp [Ob.live] at hl
          · exact hs.sep k id o1 _ v1 _ b hne h2 ho hl rfl hv1 hσ hb1 ((Bk.slice hb))
        have hrow:∀ row,row∈List.replicate m.toNat (en z0)→row.length=c:=fun row hm=>by rw [List.eq_of_mem_replicate hm,hen]
        have hl2:(xs.map en).length+m.toNat=(xs.map en++List.replicate m.toNat (en z0)).length:=by simp
        rw [hl2] at hown
        obtain ⟨s2,m2,r2⟩:=app_push (aw0:=aw) (vx:=.slice A q cp) s3 (fun _ h=>h.set_dead) hfl hrow hr h1 hown hg hat hfree
        rw [List.length_set] at r2
        have e2:xs.map en++List.replicate m.toNat (en z0)=(xs++List.replicate m.toNat z0).map en:=by simp
        rw [e2] at s2 m2
        refine ⟨v',_,w',_,_,F,_,?_,.inl rfl,s2,m2,r2,h⟩
        simp [execOp,resolve,invoke,builtin,Sem.run_bind,hvx,hvy,hrun]
    · cases hr)
end
end Go.Proofs.YtchmpaaofmihcaaGreat
namespace Go.Proofs.YtchmpaaofmihcaaGreat
open Go.RowKit
set_option linter.unusedVariables false
set_option linter.unusedSimpArgs false
structure KeyT (P:Program) (kt:TypeId) {κ:Type} [DecidableEq κ] (ek:κ→AV):Prop where
  out:∃ d,P.underlying kt=some d∧(∀ (b:Bool) (k:κ) σ w F v,Rel σ w F (ek k) v→∀ w',(Instr.checkKey b 10000 kt v).run P w'=.ok () w') ∧
    (∀ (k k':κ) σ w F v v',Rel σ w F (ek k) v→Rel σ w F (ek k') v'→Instr.sameNow d v v'=some (decide (k=k'))∧(k=k'→Instr.sameBits 10000 v' v=true∧v'=v))
theorem chk_int {P:Program} {kt:TypeId} {q k:IntKind} (hu:P.underlying kt=some (.int q)) (b:Bool) (m:Nat) (x:Int) (w:World):(Instr.checkKey b (m+1) kt (.int k x)).run P w=.ok () w:=by
  simp [Instr.checkKey,run_underlying hu,Sem.run_bind]
theorem chk_str {P:Program} {kt:TypeId} (hu:P.underlying kt=some .string) (b:Bool) (m:Nat) (x:ByteArray) (w:World):(Instr.checkKey b (m+1) kt (.string x)).run P w=.ok () w:=by
  simp [Instr.checkKey,run_underlying hu,Sem.run_bind]
theorem bytes_beq (x y:List UInt8):(ByteArray.mk x.toArray==ByteArray.mk y.toArray)=decide (x=y):=by
  show (x.toArray==y.toArray)=decide (x=y)
  by_cases e:x=y
  · subst e;simp
  · simp [e]
theorem bits_int (m:Nat) (k:IntKind) (a:Int):Instr.sameBits m (.int k a) (.int k a)=true:=by cases m<;>simp [Instr.sameBits]
theorem bits_str (m:Nat) (a:List UInt8):Instr.sameBits m (.string ⟨a.toArray⟩) (.string ⟨a.toArray⟩)=true:=by cases m<;>simp [Instr.sameBits,bytes_beq]
theorem KeyT.int {P:Program} {kt:TypeId} {q:IntKind} (hu:P.underlying kt=some (.int q)):KeyT P kt (fun n:Int=>.int .i64 n):=by
  refine ⟨_,hu,fun b k σ w F v h w'=>?_,fun k k' σ w F v v' h h'=>?_⟩
  · cases h
    exact chk_int hu b 9999 k w'
  · cases h;cases h'
    refine ⟨by simp [Instr.sameNow];exact Bool.beq_eq_decide_eq k k',fun e=>?_⟩
    subst e
    exact ⟨bits_int _ _ _,rfl⟩
theorem KeyT.str {P:Program} {kt:TypeId} (hu:P.underlying kt=some .string):KeyT P kt (fun s:List UInt8=>.str s):=by
  refine ⟨_,hu,fun b k σ w F v h w'=>?_,fun k k' σ w F v v' h h'=>?_⟩
  · cases h
    exact chk_str hu b 9999 _ w'
  · cases h;cases h'
    refine ⟨by simp only [Instr.sameNow,bytes_beq],fun e=>?_⟩
    subst e
    exact ⟨bits_str _ _,rfl⟩
section
variable {P:Program} {N n:Nat} {aw aw':List Ob} {l:List (Nat × AV)} {σ:List Value} {w:World} {F:Nat→Prop}
variable {d:Option Tmp} {ty:TypeId} {ps:String} {af:Array Edge} {g:Option (Nat × Bool)} {K2:AV→List Ob→Prop}
variable {κ ν:Type} [DecidableEq κ] {ek:κ→AV} {ev:ν→AV} {xs:List (κ × ν)}
end
section
variable {P:Program} {aw aw':List Ob} {κ ν:Type} {ek:κ→AV} {ev:ν→AV} {xs:List (κ × ν)}
theorem renL_same {ρ:List Nat}:∀ {as₀:List AV},(∀ a,a∈as₀→Pure a)→RenL ρ as₀ as₀
  | [],_=>trivial
  | a::as₀,h=>⟨ren_pure (h a (.head _)),renL_same fun b hb=>h b (.tail _ hb)⟩
theorem rn_np {ρ:List Nat} {k id:Nat} (h:ρ[k]?=some id):Ren ρ (.np k) (.np id):=fun σ w F v hr σ' hσ=>by
  cases hr with
  | np0 _=>exact .np0 k
  | npS _ g hg=>exact .npS k g (by rw [hσ k id h];exact hg)
theorem rm_np {m:List (Nat × Nat)} {k id:Nat} (h:(k,id)∈m):RenM m (.np k) (.np id):=fun σ w F v hr σ' hσ=>by
  cases hr with
  | np0 _=>exact .np0 k
  | npS _ g hg=>exact .npS k g (by have:=hσ _ h;simp only at this;rw [this];exact hg)
theorem rn_mpr {ρ:List Nat} {k id:Nat} (h:ρ[k]?=some id):Ren ρ (.mpr k) (.mpr id):=fun σ w F v hr σ' hσ=>by
  cases hr with
  | mpr _ r hg=>exact .mpr k r (by rw [hσ k id h];exact hg)
end
section
variable {P:Program} {N n:Nat} {aw aw':List Ob} {l:List (Nat × AV)} {d:Option Tmp} {ty:TypeId} {ps:String} {af:Array Edge} {g:Option (Nat × Bool)} {K2:AV→List Ob→Prop}
theorem o_buildSliceN {t:TypeId} {len:Nat} {parts:Array (Nat × Operand)} {e c k:Nat} {z:List AV} {rows:List (List AV)} {vs vs2:List AV} (hS:SliceOf P t e c) (hz:Q7a P e=some z) (hl:Nat.ble (len*c) 16777216=true) (hv:parts.toList.map (fun p=>evA n l p.2)=vs) (hn:normL aw vs=(vs2,aw)) (hr:rowsOf P c (List.replicate len z) ((parts.toList.map (·.1)).zip vs2)=some rows) (hk:aw.length=k) (ha:aw++[.arr e c rows]=aw') (h:K2 (.ref k) aw'):OP P N ⟨d,.buildSlice t len parts,ty,ps,af,g⟩ (mkA n l) aw K2 :=
  OP.of_vc (by
    subst hk ha
    obtain ⟨z',hz1,hz2⟩:=hS.z
    rw [hz] at hz1;cases hz1
    show vcE P (mkA n l) aw (.buildSlice t len parts) K2
    simp only [vcE,hS.u,hz,hS.c]
    rw [show (parts.toList.map fun p=>ev (mkA n l) p.2)=vs from by rw [← hv];exact List.map_congr_left fun p _=>Q4a n l p.2,hn,hr]
    exact ⟨hz2,hS.p,Nat.le_of_ble_eq_true hl,h⟩)
end
end Go.Proofs.YtchmpaaofmihcaaGreat
namespace Go.Proofs.YtchmpaaofmihcaaGreat
open Go.RowKit Go.Lib
set_option linter.unusedVariables false
set_option linter.unusedSimpArgs false
section
variable {P:Program} {N n:Nat} {aw aw':List Ob} {l:List (Nat × AV)}
theorem Jvb {size:Nat}:∀ (rows:List (List AV)) (j:Nat),(∀ row,row∈rows→row.length=size)→(rows.take j).flatten=rows.flatten.take (j*size)
  | [],j,_=>by simp
  | r::rows,0,_=>by simp
  | r::rows,j+1,h=>by
    have hr:=h r (by simp)
    have e:(j+1)*size=r.length+j*size:=by rw [Nat.add_mul];omega
    rw [List.take_succ_cons,List.flatten_cons,List.flatten_cons,Jvb rows j (fun x hx=>h x (by simp [hx])),e,List.take_length_add_append]
end
end Go.Proofs.YtchmpaaofmihcaaGreat
namespace Go.Proofs.YtchmpaaofmihcaaGreat
open Go.RowKit
set_option linter.unusedVariables false
set_option linter.unusedSimpArgs false
section
variable {P:Program} {N n:Nat} {aw aw':List Ob} {l:List (Nat × AV)} {σ:List Value} {w:World} {F:Nat→Prop}
structure IsV (σ:List Value) (id c lo n:Nat) (v:Value):Prop where
  out:∃ (N C K:Nat) (A B:Option Addr),σ[id]?=some (.slice B N C)∧v=.slice A n K∧lo+n≤C∧(0<n→∃ g,B=some ⟨g,0,none⟩∧A=some ⟨g,lo*c,none⟩)
structure Src (w:World) (c m:Nat) (flat:List Value) (v:Value):Prop where
  out:∃ (A:Option Addr) (K:Nat),v=.slice A m K∧flat.length=m*c∧(A=none→flat=[])∧∀ ad,A=some ad→∀ j u,flat[j]?=some u→w.cell? (ad.add j)=some u
theorem arr_len {id e c:Nat} {rows:List (List AV)} (hs:Sim aw σ w F) (ho:aw[id]?=some (.arr e c rows)) {A:Option Addr} {q cp:Nat} (hσ:σ[id]?=some (.slice A q cp)):q=rows.length∧q≤cp:=by
  obtain ⟨flat,hown,_⟩:=hs.obj id _ _ ho hσ
  rcases hown.2 with ⟨h1,h2⟩ | ⟨g,cap,cur,h1,_,_,h2,_⟩
  · cases h1;exact ⟨by omega,by omega⟩
  · cases h1;exact ⟨rfl,h2⟩
theorem isV_vw {id c lo m:Nat} {cap:Option Nat} {v:Value} (h:Rel σ w F (.vw id c lo m cap) v):IsV σ id c lo m v:=by
  cases h with
  | vw _ _ _ _ N C _ A B h hn hA hc _=>exact ⟨N,C,_,A,B,h,rfl,hn,hA⟩
theorem isV_ref {id e c:Nat} {rows:List (List AV)} {v:Value} (hs:Sim aw σ w F) (ho:aw[id]?=some (.arr e c rows)) (h:Rel σ w F (.ref id) v):IsV σ id c 0 rows.length v:=by
  cases h with
  | ref _ A q cp hσ =>
    obtain ⟨h1,h2⟩:=arr_len hs ho hσ
    subst h1
    obtain ⟨_,flat,_,_,hc⟩:=Jfb hs ho hσ
    refine ⟨_,cp,cp,A,A,hσ,rfl,by omega,fun h0=>?_⟩
    rcases hc with hc | ⟨g,cur,e1,_⟩
    · subst hc;simp at h0
    · exact ⟨g,e1,by simpa using e1⟩
theorem src_isV {id e c lo m:Nat} {rows:List (List AV)} {v:Value} (hs:Sim aw σ w F) (ho:aw[id]?=some (.arr e c rows)) (hv:IsV σ id c lo m v) (hlo:lo+m≤rows.length) :
    ∃ flat,Src w c m flat v∧RelL σ w F ((rows.drop lo).take m).flatten flat∧(∀ u,u∈flat→u.oneCell'=true)∧∀ row,row∈rows→row.length=c:=by
  obtain ⟨N0,C,K,A,B,hσ,rfl,hn,hA⟩:=hv.out
  obtain ⟨h1,flat,hown,hfl,hc⟩:=Jfb hs ho hσ
  have hfr:(((rows.drop lo).take m).flatten)=((rows.flatten.drop (lo*c)).take (m*c)):=by
    rw [Jvb _ _ (fun row hr=>hfl.1 row (List.mem_of_mem_drop hr))]
    congr 1
    have:∀ (k:Nat) (l:List (List AV)),(∀ row,row∈l→row.length=c)→(l.drop k).flatten=l.flatten.drop (k*c):=by
      intro k
      induction k with
      | zero=>intro l _;simp
      | succ k ih =>
        intro l hl
        cases l with
        | nil=>simp
        | cons x l =>
          rw [List.drop_succ_cons,ih l (fun row hr=>hl row (List.mem_cons_of_mem _ hr)),List.flatten_cons,Nat.add_mul,Nat.one_mul,← hl x List.mem_cons_self,Nat.add_comm (k*x.length),← List.drop_drop,List.drop_left]
    exact this lo rows hfl.1
  refine ⟨(flat.drop (lo*c)).take (m*c),⟨A,K,rfl,?_,fun hA0=>?_,fun ad had j u hj=>?_⟩,?_,fun u hu=>hfl.2.1 u (List.mem_of_mem_drop (List.mem_of_mem_take hu)),hfl.1⟩
  · have h2:=hown.1
    have:lo*c+m*c≤N0*c:=by rw [← Nat.add_mul];exact Nat.mul_le_mul_right _ (by omega)
    rw [List.length_take,List.length_drop];omega
  · by_cases hm:m=0
    · subst hm;simp
    · obtain ⟨g,_,e2⟩:=hA (by omega)
      rw [hA0] at e2;cases e2
  · have hj':j<m*c:=by
      have:=(List.getElem?_eq_some_iff.1 hj).1
      rw [List.length_take] at this;omega
    by_cases hm:m=0
    · subst hm;simp at hj'
    · obtain ⟨g,e1,e2⟩:=hA (by omega)
      rw [had] at e2;cases e2
      rcases hc with hc | ⟨g',cur,e3,_⟩
      · subst hc;simp at hlo;omega
      · rw [e1] at e3;cases e3
        rw [e1] at hown
        rw [List.getElem?_take,if_pos hj',List.getElem?_drop] at hj
        have:=hown.cells (g:=g) rfl (lo*c+j) u hj
        rw [Jkb] at this
        rw [show (⟨g,lo*c,none⟩:Addr).add j=⟨g,lo*c+j,none⟩ from by unfold Addr.add;split<;>simp_all]
        exact this
  · rw [hfr];exact hfl.2.2.sub _ _
theorem src_sl {c:Nat} {rows:List (List AV)} {v:Value} (h:Rel σ w F (.sl rows) v) (hrow:∀ row,row∈rows→row.length=c) :
    ∃ flat,Src w c rows.length flat v∧RelL σ w F rows.flatten flat∧(∀ u,u∈flat→u.oneCell'=true):=by
  cases h with
  | slNil=>exact ⟨[],⟨none,0,rfl,by simp,fun _=>rfl,fun ad h=>by cases h⟩,.nil,fun u hu=>by simp at hu⟩
  | sl _ size ad cp u hF hn hm hr1 hone hcell hrel =>
    by_cases hne:rows=[]
    · subst hne
      exact ⟨[],⟨some ad,cp,rfl,by simp,fun _=>rfl,fun _ _ j u hj=>by simp at hj⟩,.nil,fun u hu=>by simp at hu⟩
    · have hsize:size=c:=by
        obtain ⟨r,rs,rfl⟩:=List.exists_cons_of_ne_nil hne
        exact (hr1 r (by simp)).symm.trans (hrow r (by simp))
      subst hsize
      have hlen:rows.flatten.length=rows.length*size:=by
        have:∀ l:List (List AV),(∀ row,row∈l→row.length=size)→l.flatten.length=l.length*size:=by
          intro l
          induction l with
          | nil=>simp
          | cons x l ih =>
            intro hx
            rw [List.flatten_cons,List.length_append,ih (fun row hr=>hx row (List.mem_cons_of_mem _ hr)),hx x List.mem_cons_self,List.length_cons,Nat.add_mul];omega
        exact this rows hr1
      by_cases h0:size=0
      · subst h0
        refine ⟨[],⟨some ad,cp,rfl,by simp,(fun _=>rfl),(fun _ _ j u hj=>by simp at hj)⟩,?_,fun u hu=>by simp at hu⟩
        have:rows.flatten=[]:=List.eq_nil_of_length_eq_zero (by simpa using hlen)
        rw [this];exact .nil
      · have idx:∀ k,k<rows.length*size→k / size<rows.length∧k % size<size∧k / size*size+k % size=k:=fun k hk =>
          ⟨Nat.div_lt_of_lt_mul (by rw [Nat.mul_comm];exact hk),Nat.mod_lt _ (by omega),by rw [Nat.mul_comm];exact Nat.div_add_mod k _⟩
        have hget:∀ (k:Nat) x,((List.range (rows.length*size)).map fun k=>u (k / size) (k % size))[k]?=some x→k<rows.length*size∧x=u (k / size) (k % size):=fun k x hx=>by
          rw [List.getElem?_map,Option.map_eq_some_iff] at hx
          obtain ⟨m,hm1,rfl⟩:=hx
          obtain ⟨hlt,e1⟩:=List.getElem?_eq_some_iff.1 hm1
          simp at hlt e1
          subst e1
          exact ⟨hlt,rfl⟩
        refine ⟨(List.range (rows.length*size)).map fun k=>u (k / size) (k % size),⟨some ad,cp,rfl,by simp,fun h=>(by cases h),fun ad' e j x hj=>?_⟩,⟨by simp [hlen],fun j x y hx hy=>?_⟩,fun x hx=>?_⟩
        · cases e
          obtain ⟨h1,rfl⟩:=hget j x hj
          obtain ⟨h2,h3,h4⟩:=idx j h1
          have:=hcell _ _ h2 h3
          rwa [h4] at this
        · obtain ⟨h1,rfl⟩:=hget j y hy
          obtain ⟨h2,h3,h4⟩:=idx j h1
          have hf:=flatten_get hr1 (j / size) (j % size) rows[j / size] (List.getElem?_eq_getElem h2) h3
          rw [h4,hx] at hf
          exact hrel _ _ _ _ (List.getElem?_eq_getElem h2) hf.symm
        · obtain ⟨k,hk⟩:=List.getElem?_of_mem hx
          obtain ⟨h1,rfl⟩:=hget k x hk
          obtain ⟨h2,h3,_⟩:=idx k h1
          exact hone _ _ h2 h3
theorem store_rows {id e c lo k:Nat} {rows news:List (List AV)} {B:Option Addr} {N0 C g:Nat} {vs:List Value} (hs:Sim aw σ w F) (ho:aw[id]?=some (.arr e c rows)) (hσ:σ[id]?=some (.slice (some ⟨g,0,none⟩) N0 C))
    (hk:news.length=k) (hlo:lo+k≤rows.length) (hrow:∀ row,row∈news→row.length=c) (hvl:vs.length=k*c) (hr:RelL σ w F news.flatten vs) (h1:∀ u,u∈vs→u.oneCell'=true) :
    ∃ w',(storeCells ⟨g,lo*c,none⟩ vs).run P w=.ok () w'∧Sim (aw.set id (.arr e c (rows.take lo++news++rows.drop (lo+k)))) σ w' F∧Mv aw σ w F (aw.set id (.arr e c (rows.take lo++news++rows.drop (lo+k)))) σ w' F:=by
  obtain ⟨hn,flat,hown,hfl,hc⟩:=Jfb hs ho hσ
  have hdrop:∀ (k:Nat) (l:List (List AV)),(∀ row,row∈l→row.length=c)→(l.drop k).flatten=l.flatten.drop (k*c):=by
    intro k
    induction k with
    | zero=>intro l _;simp
    | succ k ih =>
      intro l hl
      cases l with
      | nil=>simp
      | cons x l =>
        rw [List.drop_succ_cons,ih l (fun row hr=>hl row (List.mem_cons_of_mem _ hr)),List.flatten_cons,Nat.add_mul,Nat.one_mul,← hl x List.mem_cons_self,Nat.add_comm (k*x.length),← List.drop_drop,List.drop_left]
  rcases hc with hc | ⟨g',cur,e1,hF,hg,hnc,h2,h3,h4⟩
  · subst hc
    have h0:k=0:=by simp at hlo;omega
    have hl0:lo=0:=by simp at hlo;omega
    subst h0 hl0
    have hv0:vs=[]:=List.eq_nil_of_length_eq_zero (by simpa using hvl)
    have hn0:news=[]:=List.eq_nil_of_length_eq_zero hk
    subst hv0 hn0
    have hset:aw.set id (.arr e c (([]:List (List AV)).take 0++[]++([]:List (List AV)).drop (0+0)))=aw:=by
      obtain ⟨hlt,hvs⟩:=List.getElem?_eq_some_iff.1 ho
      have:aw.set id aw[id]=aw:=List.set_getElem_self hlt
      rw [hvs] at this;simpa using this
    rw [hset]
    exact ⟨w,by simp [storeCells],hs,.refl ..⟩
  · cases e1
    have hin:lo*c+k*c≤N0*c:=by rw [← Nat.add_mul];exact Nat.mul_le_mul_right _ (by omega)
    have hcap:N0*c≤cur.size:=by rw [h3];exact Nat.mul_le_mul_right _ hnc
    have hst:=run_storeCells_at P g (lo*c) e vs 0 cur w hg (by omega) h1
    simp only [Nat.add_zero] at hst
    have hkk:∀ b,b≠g→(w.setRow g (cur.toList.take (lo*c)++vs++cur.toList.drop (lo*c+vs.length)).toArray).heap[b]?=w.heap[b]?:=fun b hb=>setRow_other w g b _ hb
    have hflat:flat.length=N0*c:=hown.1
    have hlen2:(rows.take lo++news++rows.drop (lo+k)).length=N0:=by simp;omega
    have hORel:ORel σ (w.setRow g (cur.toList.take (lo*c)++vs++cur.toList.drop (lo*c+vs.length)).toArray) F (.arr e c (rows.take lo++news++rows.drop (lo+k))) (.slice (some ⟨g,0,none⟩) N0 C):=by
      refine ⟨flat.take (lo*c)++vs++flat.drop (lo*c+vs.length),⟨?_,.inr ⟨g,C,_,by rw [hlen2],Nat.zero_le _,setRow_heap w g cur _ e (0,0) hg,by rw [hlen2];exact hnc,h2,?_,?_⟩⟩,⟨fun row hr=>?_,fun u hu=>?_,?_⟩,fun g2 hg2=>?_,_,_,_,rfl⟩
      · rw [hlen2];simp only [List.length_append,List.length_take,List.length_drop];omega
      · simp only [List.size_toArray,List.length_append,List.length_take,List.length_drop,Array.length_toList]
        omega
      · rw [hlen2]
        simp only [List.toList_toArray]
        have h5:=take_spliceV cur.toList vs (lo*c) (N0*c) (by omega) (by simpa using hcap)
        simp only [Vna] at h5
        rw [h5,h4]
      · rcases List.mem_append.1 hr with hr | hr
        · rcases List.mem_append.1 hr with hr | hr
          · exact hfl.1 row (List.mem_of_mem_take hr)
          · exact hrow row hr
        · exact hfl.1 row (List.mem_of_mem_drop hr)
      · rcases List.mem_append.1 hu with hu | hu
        · rcases List.mem_append.1 hu with hu | hu
          · exact hfl.2.1 u (List.mem_of_mem_take hu)
          · exact h1 u hu
        · exact hfl.2.1 u (List.mem_of_mem_drop hu)
      · rw [List.flatten_append,List.flatten_append,Jvb _ _ hfl.1,hdrop _ _ hfl.1]
        rw [show lo*c+vs.length=(lo+k)*c from by rw [hvl,Nat.add_mul]] at hkk ⊢
        have hd2:RelL σ w F (rows.flatten.drop ((lo+k)*c)) (flat.drop ((lo+k)*c)):=by
          refine ⟨by simp [hfl.2.2.1],fun j a v ha hv=>?_⟩
          rw [List.getElem?_drop] at ha hv
          exact hfl.2.2.2 _ a v ha hv
        exact (((hfl.2.2.take _).append hr).append hd2).mono (fun _ _ e=>e) (fun _ e=>e) (fun b hb=>hkk b (fun e=>hF (e▸hb)))
      · simp [Value.ownBlock] at hg2;subst hg2;exact hF
    exact ⟨_,hst,hs.write (b0:=g) id ho rfl hσ rfl hkk (by simp) _ hORel (fun _ h=>h),Mv.write (w:=w) (w':=w.setRow g _) (F:=F) (b0:=g) id ho rfl hσ rfl rfl rfl rfl hkk (by simp) _ (fun _ h=>h)⟩
theorem copy_run {t ts ty e c id lo m k:Nat} {rows news:List (List AV)} {vd vs:Value} {flat:List Value} (hu:P.underlying t=some (.slice e)) (hc:P.cellsOf e=c) (hsm:(P.underlying e).isSome=true) (hs:Sim aw σ w F) (ho:aw[id]?=some (.arr e c rows))
    (hd:IsV σ id c lo m vd) (hsrc:Src w c news.length flat vs) (hr:RelL σ w F news.flatten flat) (h1:∀ u,u∈flat→u.oneCell'=true) (hrow:∀ row,row∈news→row.length=c) (hk:min m news.length=k) (hlo:lo+k≤rows.length) :
    ∃ w',(Builtin.copy_ #[t,ts] ty #[vd,vs]).run P w=.ok (goInt k) w'∧Sim (aw.set id (.arr e c (rows.take lo++news.take k++rows.drop (lo+k)))) σ w' F∧Mv aw σ w F (aw.set id (.arr e c (rows.take lo++news.take k++rows.drop (lo+k)))) σ w' F:=by
  obtain ⟨N0,C,K,A,B,hσ,rfl,hn,hA⟩:=hd.out
  obtain ⟨A2,K2,rfl,hfl,hnone,hcell⟩:=hsrc.out
  obtain ⟨ds,hds⟩:=Option.isSome_iff_exists.1 hsm
  have hmin:Nat.min news.length m=k:=by rw [← hk];exact Nat.min_comm _ _
  have htk:k*c≤flat.length:=by rw [hfl];exact Nat.mul_le_mul_right _ (by omega)
  have hfirst:(Builtin.firstCells c k (.slice A2 news.length K2)).run P w=.ok (flat.take (k*c)).toArray w:=by
    cases A2 with
    | none=>rw [hnone rfl];simp [Builtin.firstCells]
    | some ad=>exact run_firstCells_some w c k ad news.length K2 (flat.take (k*c)) (by rw [List.length_take];omega) (fun j u hj=>by
        rw [List.getElem?_take] at hj
        split at hj
        · exact hcell ad rfl j u hj
        · cases hj)
  have hsz:=J7a hds
  rw [hc] at hsz
  have hset:aw.set id (.arr e c (rows.take lo++([]:List (List AV))++rows.drop (lo+0)))=aw:=by
    obtain ⟨hlt,hvs⟩:=List.getElem?_eq_some_iff.1 ho
    have:aw.set id aw[id]=aw:=List.set_getElem_self hlt
    rw [hvs] at this;simpa using this
  by_cases h0:k=0
  · subst h0
    simp only [List.take_zero]
    rw [hset]
    refine ⟨w,?_,hs,.refl ..⟩
    have he:(flat.take (0*c)).toArray=#[]:=by simp
    rw [he] at hfirst
    cases A with
    | none=>simp [Builtin.copy_,Sem.run_bind,run_underlying hu,Builtin.lenOf,hmin,hsz,hfirst]
    | some a=>simp [Builtin.copy_,Sem.run_bind,run_underlying hu,Builtin.lenOf,hmin,hsz,hfirst,storeCells]
  · obtain ⟨g,rfl,rfl⟩:=hA (by omega)
    have hrt:RelL σ w F (news.take k).flatten (flat.take (k*c)):=by rw [Jvb _ _ hrow];exact hr.take _
    obtain ⟨w',hst,s2,m2⟩:=store_rows (P:=P) (B:=none) (news:=news.take k) (vs:=flat.take (k*c)) (lo:=lo) (k:=k) hs ho hσ (by simp;omega) hlo (fun row hr=>hrow row (List.mem_of_mem_take hr)) (by rw [List.length_take];omega) hrt (fun u hu=>h1 u (List.mem_of_mem_take hu))
    refine ⟨w',?_,s2,m2⟩
    simp [Builtin.copy_,Sem.run_bind,run_underlying hu,Builtin.lenOf,hmin,hsz,hfirst,hst]
variable {d:Option Tmp} {ty:TypeId} {ps:String} {af:Array Edge} {g:Option (Nat × Bool)} {K2:AV→List Ob→Prop} {α:Type} {en:α→List AV} {xs ys:List α}
theorem map_evA (lo:Option Operand):lo.map (ev (mkA n l))=lo.map (evA n l):=by cases lo<;>simp [Q4a]
theorem Jub {t:TypeId} {x:Operand} {lo hi:Option Operand} {id e c:Nat} {i j:Int} {k k':IntKind} {u:Unit} (hS:SliceOf P t e c) (hx:evA n l x=.ref id) (ho:aw[id]?=some (.arr e c (xs.map en)))
    (hl:(lo.map (evA n l)).getD (.int .i64 0)=.int k i) (hh:(hi.map (evA n l)).getD (.int .i64 xs.length)=.int k' j) (hv:vwok xs.length i j=some u) (h:K2 (.vw id c i.toNat (j.toNat - i.toNat) none) aw) :
    OP P N ⟨d,.slice t x lo hi none,ty,ps,af,g⟩ (mkA n l) aw K2 :=
  OP.of_ok (fun σ w F a har hs=>by
    unfold vwok at hv;split at hv
    · rename_i hc
      have ex:=har.ev x
      rw [Q4a,hx] at ex
      generalize hvx:a.eval x=vx at ex
      cases ex with
      | ref _ A q cp hσ =>
        obtain ⟨h1,h2⟩:=arr_len hs ho hσ
        rw [List.length_map] at h1
        subst h1
        obtain ⟨ds,hd⟩:=Option.isSome_iff_exists.1 hS.s
        have hsz:=J7a hd
        rw [hS.c] at hsz
        have b:=fun w'=>run_bounds (P:=P) har (lo:=lo) (hi:=hi) (b:=true) (len:=xs.length) (cap:=cp) (by rw [map_evA];exact hl) (by rw [map_evA];exact hh) hc.1 hc.2.1 hc.2.2 h2 w'
        have hfm:∃ g,xs≠[]→A=some ⟨g,0,none⟩:=by
          obtain ⟨_,_,_,_,hc2⟩:=Jfb hs ho hσ
          rcases hc2 with hc2 | ⟨g,cur,e1,_⟩
          · exact ⟨0,fun h=>absurd (List.map_eq_nil_iff.1 hc2) h⟩
          · exact ⟨g,fun _=>e1⟩
        obtain ⟨g0,hg0⟩:=hfm
        refine ⟨.slice (if cp=i.toNat then A else A.map (·.add (i.toNat*c))) (j.toNat - i.toNat) (cp - i.toNat),_,w,aw,σ,F,_,?_,.inl rfl,hs,.refl ..,?_,h⟩
        · simp [execOp,hvx,Instr.sliceAt,Instr.slice,Sem.run_bind,run_underlying hS.u,b,hsz]
        · refine .vw id c _ _ _ cp none _ A hσ (by omega) (fun hpos=>?_) (fun k hk=>by cases hk) ?_
          · have hne:xs≠[]:=by rintro rfl;simp at hc;omega
            refine ⟨g0,hg0 hne,?_⟩
            have:¬ cp=i.toNat:=by omega
            rw [if_neg this,hg0 hne,Option.map_some,Jkb]
          · intro h0
            rw [h0]
            split
            · rfl
            · cases A with
              | none=>rfl
              | some A=>cases A;simp [Addr.add]
    · cases hv)
theorem o_copy_gen {t ts e c id lo m k:Nat} {x y:Operand} {rows news:List (List AV)} {ax ay:AV} (hS:SliceOf P t e c) (hx:evA n l x=ax) (hy:evA n l y=ay) (ho:aw[id]?=some (.arr e c rows))
    (hd:∀ σ w F v,Sim aw σ w F→Rel σ w F ax v→IsV σ id c lo m v)
    (hsrc:∀ σ w F v,Sim aw σ w F→Rel σ w F ay v→∃ flat,Src w c news.length flat v∧RelL σ w F news.flatten flat∧(∀ u,u∈flat→u.oneCell'=true)) (hrow:∀ row,row∈news→row.length=c)
    (hk:min m news.length=k) (hlo:lo+k≤rows.length) (ha:aw.set id (.arr e c (rows.take lo++news.take k++rows.drop (lo+k)))=aw') (h:K2 (.int .i64 k) aw') :
    OP P N ⟨d,.call ⟨.builtin .copy,#[x,y],#[t,ts]⟩,ty,ps,af,g⟩ (mkA n l) aw K2 :=
  OP.of_ok (fun σ w F a har hs=>by
    subst ha
    have ex:=har.ev x
    have ey:=har.ev y
    rw [Q4a,hx] at ex
    rw [Q4a,hy] at ey
    obtain ⟨flat,h1,h2,h3⟩:=hsrc σ w F _ hs ey
    obtain ⟨w',hrun,s2,m2⟩:=copy_run (P:=P) (t:=t) (ts:=ts) (ty:=ty) hS.u hS.c hS.s hs ho (hd σ w F _ hs ex) h1 h2 h3 hrow hk hlo
    refine ⟨goInt k,_,w',_,σ,F,_,?_,.inl rfl,s2,m2,.int _ _,h⟩
    simp [execOp,resolve,invoke,builtin,Sem.run_bind,hrun])
theorem cpy_map (lo m:Nat):(cpy xs lo m ys).map en=(xs.map en).take lo++(ys.map en).take (min m ys.length)++(xs.map en).drop (lo+min m ys.length):=by
  unfold cpy
  have:ys.take m=ys.take (min m ys.length):=by
    by_cases h:m≤ys.length
    · rw [Nat.min_eq_left h]
    · rw [Nat.min_eq_right (by omega),List.take_of_length_le (by omega),List.take_length]
  rw [List.map_append,List.map_append,List.map_take,List.map_drop,this,List.map_take]
theorem o_copy_rs {t ts e c id:Nat} {x y:Operand} (hS:SliceOf P t e c) (hen:∀ a,(en a).length=c) (hx:evA n l x=.ref id) (hy:evA n l y=.sl (ys.map en)) (ho:aw[id]?=some (.arr e c (xs.map en)))
    (ha:aw.set id (.arr e c ((cpy xs 0 xs.length ys).map en))=aw') (h:K2 (.int .i64 (min xs.length ys.length:Nat)) aw'):OP P N ⟨d,.call ⟨.builtin .copy,#[x,y],#[t,ts]⟩,ty,ps,af,g⟩ (mkA n l) aw K2:=by
  have hrow:∀ row,row∈ys.map en→row.length=c:=fun row hr=>by obtain ⟨a,_,rfl⟩:=List.mem_map.1 hr;exact hen a
  rw [cpy_map] at ha
  exact o_copy_gen (lo:=0) (m:=xs.length) (news:=ys.map en) (k:=min xs.length ys.length) hS hx hy ho (fun σ w F v hs hr=>by have:=isV_ref hs ho hr;rwa [List.length_map] at this) (fun σ w F v _ hr=>src_sl hr hrow) hrow (by simp) (by simp;omega) ha h
theorem o_copy_vv {t ts e c id lo m lo2 m2:Nat} {x y:Operand} {cap cap2:Option Nat} {u u2:Unit} (hS:SliceOf P t e c) (hen:∀ a,(en a).length=c) (hx:evA n l x=.vw id c lo m cap) (hy:evA n l y=.vw id c lo2 m2 cap2) (ho:aw[id]?=some (.arr e c (xs.map en)))
    (hv:vwok xs.length lo ((lo:Int)+m)=some u) (hv2:vwok xs.length lo2 ((lo2:Int)+m2)=some u2) (ha:aw.set id (.arr e c ((cpy xs lo m ((xs.drop lo2).take m2)).map en))=aw') (h:K2 (.int .i64 (min m m2:Nat)) aw'):OP P N ⟨d,.call ⟨.builtin .copy,#[x,y],#[t,ts]⟩,ty,ps,af,g⟩ (mkA n l) aw K2:=by
  unfold vwok at hv hv2
  split at hv<;>split at hv2
  · rename_i hc hc2
    have hl2:((xs.drop lo2).take m2).length=m2:=by rw [List.length_take,List.length_drop];omega
    have hrow:∀ row,row∈((xs.drop lo2).take m2).map en→row.length=c:=fun row hr=>by obtain ⟨a,_,rfl⟩:=List.mem_map.1 hr;exact hen a
    rw [cpy_map,hl2] at ha
    refine o_copy_gen (news:=((xs.drop lo2).take m2).map en) (k:=min m m2) hS hx hy ho (fun σ w F v _ hr=>isV_vw hr) (fun σ w F v hs hr=>?_) hrow (by rw [List.length_map,hl2]) (by simp;omega) ha h
    obtain ⟨flat,h1,h2,h3,_⟩:=src_isV hs ho (isV_vw hr) (by simp;omega)
    rw [List.length_map,hl2]
    rw [← List.map_drop,← List.map_take] at h2
    exact ⟨flat,h1,h2,h3⟩
  · cases hv2
  · cases hv
  · cases hv
theorem v_len_vw {t e c id lo m:Nat} {x:Operand} {cap:Option Nat} (hS:SliceOf P t e c) (hx:evA n l x=.vw id c lo m cap) (h:K2 (.int .i64 m) aw):OP P N ⟨d,.call ⟨.builtin .len,#[x],#[t]⟩,ty,ps,af,g⟩ (mkA n l) aw K2 :=
  OP.of_ok (fun σ w F a har hs=>by
    have ex:=har.ev x
    rw [Q4a,hx] at ex
    generalize hvx:a.eval x=vx at ex
    cases ex with
    | vw _ _ _ _ N0 C _ A B hσ hn hA hc _ =>
      refine ⟨.int .i64 m,_,w,aw,σ,F,_,?_,.inl rfl,hs,.refl ..,.int _ _,h⟩
      simp [execOp,resolve,invoke,builtin,Sem.run_bind,hvx,Builtin.len_,run_underlying hS.u,goInt])
end
end Go.Proofs.YtchmpaaofmihcaaGreat
namespace Go.Proofs.YtchmpaaofmihcaaGreat
open Go.RowKit Go.Lib
set_option linter.unusedVariables false
set_option linter.unusedSimpArgs false
section
variable {P:Program} {N n:Nat} {aw aw':List Ob} {l:List (Nat × AV)} {σ:List Value} {w:World} {F:Nat→Prop}
theorem aRel_re {t:Nat} {r:AV} {v:Value} {a:Act} (h:ARel σ w F (mkA n l) a) (hv:a.eval (.tmp t)=v) (hr:Rel σ w F r v):ARel σ w F (mkA n ((t,r)::l)) a:=by
  have e1:a.tmps.getD t undef=v:=hv
  have hset:mkA n ((t,r)::l)=(mkA n l).set t r:=(V1a n l (some t) r).symm
  rw [hset]
  refine ⟨?_,h.2⟩
  by_cases ht:t<a.tmps.size
  · have:=h.1.set t hr
    have e2:a.tmps.toList.set t v=a.tmps.toList:=by
      have e3:a.tmps.toList[t]?=some v:=by
        have:a.tmps[t]?=some v:=by
          rw [Array.getElem?_eq_getElem ht]
          rw [← e1];simp [ht]
        simpa using this
      obtain ⟨hlt2,hvs⟩:=List.getElem?_eq_some_iff.1 e3
      rw [← hvs];exact List.set_getElem_self hlt2
    rwa [e2] at this
  · have hlen:=h.1.1
    have:(mkA n l).set t r=mkA n l:=List.set_eq_of_length_le (by rw [← hlen];simpa using Nat.le_of_not_lt ht)
    rw [this];exact h.1
theorem T.expose {code:Code} {Q:Exit→List AV→List Ob→Prop} (t id:Nat) {e c:Nat} {rows:List (List AV)} (hx:evA n l (.tmp t)=.ref id) (ho:aw[id]?=some (.arr e c rows))
    (h:∀ C:Nat,rows.length≤C→T P N code Q (mkA n ((t,.vw id c 0 rows.length (some C))::l)) aw):T P N code Q (mkA n l) aw :=
  ⟨fun st h1 h2 σ w F a hcur=>by
    have hr:=hcur.fr.ev (.tmp t)
    rw [Q4a,hx] at hr
    generalize hv:a.eval (.tmp t)=v at hr
    cases hr with
    | ref _ A m C hg =>
      obtain ⟨hm,hmc⟩:=arr_len hcur.sim ho hg
      subst hm
      refine (h C hmc).out st h1 h2 σ w F a ⟨hcur.sim,aRel_re hcur.fr hv ?_,hcur.mv,hcur.ds⟩
      refine Rel.vw (σ:=σ) (w:=w) (F:=F) id c 0 rows.length rows.length C (some C) A A hg (by omega) (fun hpos=>?_) (fun k hk=>by cases hk;rfl) (fun _=>rfl)
      obtain ⟨_,_,_,_,hc2⟩:=Jfb hcur.sim ho hg
      rcases hc2 with hc2 | ⟨g,cur,e1,_⟩
      · rw [hc2] at hpos;simp at hpos
      · exact ⟨g,e1,by simpa using e1⟩⟩
theorem T.exposeM {α:Type} {en:α→List AV} {xs:List α} {code:Code} {Q:Exit→List AV→List Ob→Prop} (t id:Nat) {e c:Nat} (hx:evA n l (.tmp t)=.ref id) (ho:aw[id]?=some (.arr e c (xs.map en)))
    (h:∀ C:Nat,xs.length≤C→T P N code Q (mkA n ((t,.vw id c 0 xs.length (some C))::l)) aw):T P N code Q (mkA n l) aw :=
  T.expose t id hx ho (fun C hC=>by rw [List.length_map] at hC ⊢;exact h C hC)
theorem unvw {id e c m:Nat} {rows:List (List AV)} {C:Nat} {v:Value} (hs:Sim aw σ w F) (ho:aw[id]?=some (.arr e c rows)) (hr:Rel σ w F (.vw id c 0 m (some C)) v) (hm:m=rows.length):Rel σ w F (.ref id) v:=by
  cases hr with
  | vw _ _ _ _ N0 C0 _ A B hσ hn hA hc hz =>
    obtain ⟨h1,_⟩:=arr_len hs ho hσ
    have h2:=hz rfl
    subst h2
    refine .ref id A m (C0 - 0) ?_
    rw [hσ,h1,hm,Nat.sub_zero]
variable {d:Option Tmp} {ty:TypeId} {ps:String} {af:Array Edge} {g:Option (Nat × Bool)} {K2:AV→List Ob→Prop} {α:Type} {en:α→List AV} {xs ys:List α}
theorem o_cap_vw {t e c id lo m K:Nat} {x:Operand} (hS:SliceOf P t e c) (hx:evA n l x=.vw id c lo m (some K)) (h:K2 (.int .i64 K) aw):OP P N ⟨d,.call ⟨.builtin .cap,#[x],#[t]⟩,ty,ps,af,g⟩ (mkA n l) aw K2 :=
  OP.of_ok (fun σ w F a har hs=>by
    have ex:=har.ev x
    rw [Q4a,hx] at ex
    generalize hvx:a.eval x=vx at ex
    cases ex with
    | vw _ _ _ _ N0 C _ A B hσ hn hA hc hz =>
      have hk:=hc K rfl
      have e1:C - lo=K:=by omega
      refine ⟨.int .i64 K,_,w,aw,σ,F,_,?_,.inl rfl,hs,.refl ..,.int _ _,h⟩
      simp [execOp,resolve,invoke,builtin,Sem.run_bind,hvx,Builtin.cap_,run_underlying hS.u,goInt,e1])
theorem o_slice_vc {t:TypeId} {x:Operand} {lo hi:Option Operand} {id e c l0 n0 K:Nat} {i j:Int} {k k':IntKind} {u:Unit} (hS:SliceOf P t e c) (hx:evA n l x=.vw id c l0 n0 (some K))
    (hl:(lo.map (evA n l)).getD (.int .i64 0)=.int k i) (hh:(hi.map (evA n l)).getD (.int .i64 n0)=.int k' j) (hv:vwok n0 i j=some u) (h:K2 (.vw id c (l0+i.toNat) (j.toNat - i.toNat) (some (K - i.toNat))) aw) :
    OP P N ⟨d,.slice t x lo hi none,ty,ps,af,g⟩ (mkA n l) aw K2 :=
  OP.of_ok (fun σ w F a har hs=>by
    unfold vwok at hv;split at hv
    · rename_i hc
      have ex:=har.ev x
      rw [Q4a,hx] at ex
      generalize hvx:a.eval x=vx at ex
      cases ex with
      | vw _ _ _ _ N0 C _ A B hσ hn hA hcK hz =>
        have hK:=hcK K rfl
        obtain ⟨ds,hd⟩:=Option.isSome_iff_exists.1 hS.s
        have hsz:=J7a hd
        rw [hS.c] at hsz
        have b:=fun w'=>run_bounds (P:=P) har (lo:=lo) (hi:=hi) (b:=true) (len:=n0) (cap:=C - l0) (by rw [map_evA];exact hl) (by rw [map_evA];exact hh) hc.1 hc.2.1 hc.2.2 (by omega) w'
        have e2:C - l0 - i.toNat=C - (l0+i.toNat):=by omega
        refine ⟨.slice (if C - l0=i.toNat then A else A.map (·.add (i.toNat*c))) (j.toNat - i.toNat) (C - (l0+i.toNat)),_,w,aw,σ,F,_,?_,.inl rfl,hs,.refl ..,?_,h⟩
        · simp [execOp,hvx,Instr.sliceAt,Instr.slice,Sem.run_bind,run_underlying hS.u,b,hsz,e2]
        · refine .vw id c _ _ N0 C (some (K - i.toNat)) _ B hσ (by omega) (fun hpos=>?_) (fun k hk=>by cases hk;omega) (fun h0=>?_)
          · obtain ⟨g0,e3,e4⟩:=hA (by omega)
            refine ⟨g0,e3,?_⟩
            have:¬ C - l0=i.toNat:=by omega
            rw [if_neg this,e4,Option.map_some]
            congr 1
            have:(l0+i.toNat)*c=l0*c+i.toNat*c:=Nat.add_mul ..
            unfold Addr.add;split<;>simp_all
          · have h1:i.toNat=0:=by omega
            rw [← hz (by omega),h1]
            split
            · rfl
            · cases A with
              | none=>rfl
              | some A=>cases A;simp [Addr.add]
    · cases hv)
theorem o_slice_vh {t:TypeId} {x hi:Operand} {id e c l0 n0 K:Nat} {j:Int} {k':IntKind} {u:Unit} (hS:SliceOf P t e c) (hx:evA n l x=.vw id c l0 n0 (some K)) (hh:evA n l hi=.int k' j) (hv:vwok n0 0 j=some u)
    (h:K2 (.vw id c l0 j.toNat (some K)) aw):OP P N ⟨d,.slice t x none (some hi) none,ty,ps,af,g⟩ (mkA n l) aw K2 :=
  o_slice_vc (i:=0) (k:=.i64) hS hx rfl hh hv (by simpa using h)
theorem lose_push {k:Nat} {o o':Ob} {v v':Value} (hs:Sim aw σ w F) (ho:aw[k]?=some o) (hl:o.live=true) (hv:σ[k]?=some v) (hO:ORel (σ++[v']) w F o' v') (hsub:∀ b,Bk o' v' b→Bk o v b) :
    Sim (aw.set k .dead++[o']) (σ++[v']) w F∧Mv aw σ w F (aw.set k .dead++[o']) (σ++[v']) w F:=by
  have s3:=hs.lose k
  refine ⟨s3.push2 o' v' (fun _ _=>rfl) (Nat.le_refl _) hO (fun b hb hd=>?_),⟨rfl,rfl,rfl,Nat.le_refl _,fun _ _ _=>rfl,fun i v hv=>Qsb hv,fun _ h=>h,fun _ h=>.inl h,fun b hb=>.inl ?_⟩⟩
  · obtain ⟨j,o1,v1,ho1,hl1,hv1,hb1⟩:=hd
    rcases Qeb ho1 with ⟨rfl,rfl,_⟩ | ⟨hne,h2⟩
    · simp [Ob.live] at hl1
    · exact hs.sep j k o1 _ v1 _ b hne h2 ho hl1 hl hv1 hv hb1 (hsub b hb)
  · obtain ⟨j,o1,v1,ho1,hl1,hv1,hb1⟩:=hb
    rcases get_app ho1 with h2 | ⟨rfl,rfl⟩
    · have hlt:=(List.getElem?_eq_some_iff.1 h2).1
      rw [List.getElem?_append_left (by rw [s3.len];exact hlt)] at hv1
      rcases Qeb h2 with ⟨rfl,rfl,_⟩ | ⟨hne,h3⟩
      · simp [Ob.live] at hl1
      · exact ⟨j,o1,v1,h3,hl1,hv1,hb1⟩
    · rw [← s3.len] at hv1
      simp at hv1
      subst hv1
      exact ⟨k,o,v,ho,hl,hv,hsub b hb1⟩
theorem run_boundsU {fr:List AV} {a:Act} (ha:ARel σ w F fr a) {y:Operand} {len cap:Nat} {kh:IntKind} {h:Int} (eh:ev fr y=.int kh h) (h0:0≤h) (h2:h≤cap) (w':World) :
    (Instr.sliceBounds true len cap none (some (a.eval y)) none).run P w'=.ok (0,h.toNat,cap) w':=by
  have e:a.eval y=.int kh h:=by
    have hz:=ha.ev y
    rw [eh] at hz
    generalize a.eval y=vz at hz ⊢
    cases hz
    rfl
  have b1:∀ code w',(Instr.sliceBound (.int kh h) cap code).run P w'=.ok h.toNat w':=fun code w'=>run_sliceBound (P:=P) w' kh h cap code (by omega) (by omega)
  simp [Instr.sliceBounds,Sem.run_bind,e,b1]
theorem o_room {t:TypeId} {x1 hi:Operand} {id e c k x C m0:Nat} {j:Int} {kq:IntKind} (hS:SliceOf P t e c) (hx:evA n l x1=.vw id c 0 m0 (some C)) (hm:m0=xs.length) (hy:evA n l hi=.int kq j) (ho:aw[id]?=some (.arr e c (xs.map en)))
    (hr:roomx xs.length C j=some x) (hk:aw.length=k) (ha:aw.set id .dead++[.arrU e c (xs.map en) x]=aw') (h:K2 (.ref k) aw'):OP P N ⟨d,.slice t x1 none (some hi) none,ty,ps,af,g⟩ (mkA n l) aw K2 :=
  OP.of_ok (fun σ w F a har hs=>by
    unfold roomx at hr;split at hr
    · rename_i hc
      cases hr
      subst hk ha hm
      have ex:=har.ev x1
      rw [Q4a,hx] at ex
      generalize hvx:a.eval x1=vx at ex
      cases ex with
      | vw _ _ _ _ N0 C0 _ A B hσ hn hA hcK hz =>
        have hCC:C0=C:=by have:=hcK C rfl;omega
        have hAB:=hz rfl
        subst hAB hCC
        obtain ⟨hN,flat,hown,hfl,hcase⟩:=Jfb hs ho hσ
        rw [List.length_map] at hN
        subst hN
        obtain ⟨ds,hd⟩:=Option.isSome_iff_exists.1 hS.s
        obtain ⟨g0,e3,_⟩:=hA hc.1
        subst e3
        have hF:¬ F g0:=by
          obtain ⟨_,_,_,hf,_⟩:=hs.obj id _ _ ho hσ
          exact hf g0 rfl
        have b:=fun w'=>run_boundsU (P:=P) har (y:=hi) (len:=xs.length) (cap:=C0 - 0) (by rw [Q4a,hy]) (by omega) (by omega) w'
        have h0:(⟨g0,0,none⟩:Addr).add 0=⟨g0,0,none⟩:=by simp [Addr.add]
        have hrun:(execOp a.eval ⟨d,.slice t x1 none (some hi) none,ty,ps,af,g⟩).run P w=.ok (.value (.slice (some ⟨g0,0,none⟩) j.toNat C0)) w:=by
          simp only [Nat.sub_zero] at b hvx
          simp [execOp,hvx,Instr.sliceAt,Instr.slice,Sem.run_bind,run_underlying hS.u,b,J7a hd,h0]
        have hjj:(xs.map en).length+(j.toNat - xs.length)=j.toNat:=by rw [List.length_map];omega
        obtain ⟨s2,m2⟩:=lose_push (v':=.slice (some ⟨g0,0,none⟩) j.toNat C0) (o':=.arrU e c (xs.map en) (j.toNat - xs.length)) hs ho rfl hσ
          ⟨g0,C0,flat,by rw [hjj],by rw [hjj];omega,by rw [List.length_map];exact hown,hfl.mono (fun _ _ e=>Qsb e) (fun _ e=>e) (fun _ _=>rfl),hF⟩ (fun _ h=>h)
        refine ⟨_,_,w,_,_,F,_,hrun,.inl rfl,s2,m2,?_,h⟩
        exact .ref _ _ _ _ (by rw [← hs.len];simp)
    · cases hr)
theorem u_form {id e c x:Nat} {rows:List (List AV)} {A:Option Addr} {q cp:Nat} (hs:Sim aw σ w F) (ho:aw[id]?=some (.arrU e c rows x)) (hσ:σ[id]?=some (.slice A q cp)) :
    q=rows.length+x∧q≤cp∧∃ g flat cur,A=some ⟨g,0,none⟩∧¬ F g∧w.heap[g]?=some (.cells cur e (0,0))∧cp≤maxLen∧cur.size=cp*c∧cur.toList.take (rows.length*c)=flat∧flat.length=rows.length*c∧FlatRel σ w F c rows flat:=by
  obtain ⟨g,C,flat,e1,h1,hown,hfl,hF⟩:=hs.obj id _ _ ho hσ
  cases e1
  rcases hown.2 with ⟨h2,_⟩ | ⟨g',cap,cur,h2,_,hg,h3,h4,h5,h6⟩
  · cases h2
  · cases h2
    exact ⟨rfl,h1,g,flat,cur,rfl,hF,hg,h4,h5,h6,hown.1,hfl⟩
theorem o_slice_U {t:TypeId} {x1:Operand} {lo hi:Option Operand} {id e c x:Nat} {i j:Int} {k k':IntKind} {u:Unit} (hS:SliceOf P t e c) (hx:evA n l x1=.ref id) (ho:aw[id]?=some (.arrU e c (xs.map en) x))
    (hl:(lo.map (evA n l)).getD (.int .i64 0)=.int k i) (hh:(hi.map (evA n l)).getD (.int .i64 (xs.length+x:Nat))=.int k' j) (hv:vwok (xs.length+x) i j=some u) (h:K2 (.vw id c i.toNat (j.toNat - i.toNat) none) aw) :
    OP P N ⟨d,.slice t x1 lo hi none,ty,ps,af,g⟩ (mkA n l) aw K2 :=
  OP.of_ok (fun σ w F a har hs=>by
    unfold vwok at hv;split at hv
    · rename_i hc
      have ex:=har.ev x1
      rw [Q4a,hx] at ex
      generalize hvx:a.eval x1=vx at ex
      cases ex with
      | ref _ A q cp hσ =>
        obtain ⟨h1,h2,g0,flat,cur,rfl,_⟩:=u_form hs ho hσ
        rw [List.length_map] at h1
        subst h1
        obtain ⟨ds,hd⟩:=Option.isSome_iff_exists.1 hS.s
        have hsz:=J7a hd
        rw [hS.c] at hsz
        have b:=fun w'=>run_bounds (P:=P) har (lo:=lo) (hi:=hi) (b:=true) (len:=xs.length+x) (cap:=cp) (by rw [map_evA];exact hl) (by rw [map_evA];exact hh) hc.1 hc.2.1 hc.2.2 h2 w'
        refine ⟨.slice (if cp=i.toNat then some ⟨g0,0,none⟩ else (some ⟨g0,0,none⟩:Option Addr).map (·.add (i.toNat*c))) (j.toNat - i.toNat) (cp - i.toNat),_,w,aw,σ,F,_,?_,.inl rfl,hs,.refl ..,?_,h⟩
        · simp [execOp,hvx,Instr.sliceAt,Instr.slice,Sem.run_bind,run_underlying hS.u,b,hsz]
        · refine .vw id c _ _ _ cp none _ _ hσ (by omega) (fun hpos=>⟨g0,rfl,?_⟩) (fun k hk=>by cases hk) (fun h0=>?_)
          · have:¬ cp=i.toNat:=by omega
            rw [if_neg this,Option.map_some,Jkb]
          · rw [h0];split<;>simp [Addr.add]
    · cases hv)
theorem flatten_drop {c:Nat}:∀ (k:Nat) (l:List (List AV)),(∀ row,row∈l→row.length=c)→(l.drop k).flatten=l.flatten.drop (k*c):=by
  intro k
  induction k with
  | zero=>intro l _;simp
  | succ k ih =>
    intro l hl
    cases l with
    | nil=>simp
    | cons x l =>
      rw [List.drop_succ_cons,ih l (fun row hr=>hl row (List.mem_cons_of_mem _ hr)),List.flatten_cons,Nat.add_mul,Nat.one_mul,← hl x List.mem_cons_self,Nat.add_comm (k*x.length),← List.drop_drop,List.drop_left]
theorem o_copy_U {t ts e c id x lo m lo2 m2:Nat} {x1 y:Operand} {cap cap2:Option Nat} {r:List α} (hS:SliceOf P t e c) (hen:∀ a,(en a).length=c) (hx:evA n l x1=.vw id c lo m cap) (hy:evA n l y=.vw id c lo2 m2 cap2) (ho:aw[id]?=some (.arrU e c (xs.map en) x))
    (hr:cpyU xs x lo m lo2 m2=some r) (ha:aw.set id (.arr e c (r.map en))=aw') (h:K2 (.int .i64 m) aw'):OP P N ⟨d,.call ⟨.builtin .copy,#[x1,y],#[t,ts]⟩,ty,ps,af,g⟩ (mkA n l) aw K2 :=
  OP.of_ok (fun σ w F a har hs=>by
    unfold cpyU at hr;split at hr
    · rename_i hc
      obtain ⟨c1,c2,c3,c4,c5⟩:=hc
      cases hr
      subst ha
      have ex:=har.ev x1
      have ey:=har.ev y
      rw [Q4a,hx] at ex
      rw [Q4a,hy] at ey
      generalize hvx:a.eval x1=vx at ex
      generalize hvy:a.eval y=vy at ey
      cases ex with
      | vw _ _ _ _ N0 C _ A B hσ hn hA _ _ =>
      cases ey with
      | vw _ _ _ _ N1 C1 _ A1 B1 hσ1 hn1 hA1 _ _ =>
      rw [hσ] at hσ1
      cases hσ1
      obtain ⟨hq,hqc,g0,flat,cur,e0,hF,hg,hcm,hsz,htk,hfll,hfl⟩:=u_form hs ho hσ
      subst e0
      obtain ⟨g1,e1,rfl⟩:=hA c1
      cases e1
      obtain ⟨g1,e1,rfl⟩:=hA1 (by omega)
      cases e1
      rw [List.length_map] at hq htk hfll
      obtain ⟨ds,hds⟩:=Option.isSome_iff_exists.1 hS.s
      have hsize:=J7a hds
      rw [hS.c] at hsize
      have hrow:∀ row,row∈xs.map en→row.length=c:=hfl.1
      have hvl:(flat.drop (lo2*c)).length=m*c:=by
        rw [List.length_drop,hfll,← c5,Nat.add_mul];omega
      have hfirst:(Builtin.firstCells c m (.slice (some ⟨g0,lo2*c,none⟩) m2 (C - lo2))).run P w=.ok (flat.drop (lo2*c)).toArray w :=
        run_firstCells_some w c m ⟨g0,lo2*c,none⟩ m2 (C - lo2) (flat.drop (lo2*c)) hvl (fun j u hj=>by
          rw [List.getElem?_drop] at hj
          have hlt:lo2*c+j<xs.length*c:=by rw [← hfll];exact (List.getElem?_eq_some_iff.1 hj).1
          rw [← htk,List.getElem?_take,if_pos hlt] at hj
          rw [show (⟨g0,lo2*c,none⟩:Addr).add j=⟨g0,lo2*c+j,none⟩ from by unfold Addr.add;split<;>simp_all,cell_of_row w g0 _ cur e (0,0) hg]
          simpa using hj)
      have hone:∀ u,u∈flat.drop (lo2*c)→u.oneCell'=true:=fun u hu=>hfl.2.1 u (List.mem_of_mem_drop hu)
      have hcap:lo*c+m*c≤cur.size:=by rw [hsz,← Nat.add_mul];exact Nat.mul_le_mul_right _ (by omega)
      have hst:=run_storeCells_at P g0 (lo*c) e (flat.drop (lo2*c)) 0 cur w hg (by omega) hone
      simp only [Nat.add_zero] at hst
      have hmin:Nat.min m2 m=m:=Nat.min_eq_right c2
      have hrun:(Builtin.copy_ #[t,ts] ty #[.slice (some ⟨g0,lo*c,none⟩) m (C - lo),.slice (some ⟨g0,lo2*c,none⟩) m2 (C - lo2)]).run P w=.ok (goInt m) (w.setRow g0 (cur.toList.take (lo*c)++flat.drop (lo2*c)++cur.toList.drop (lo*c+(flat.drop (lo2*c)).length)).toArray):=by
        simp [Builtin.copy_,Sem.run_bind,run_underlying hS.u,Builtin.lenOf,hmin,hsize,hfirst,hst]
      have hkk:∀ b,b≠g0→(w.setRow g0 (cur.toList.take (lo*c)++flat.drop (lo2*c)++cur.toList.drop (lo*c+(flat.drop (lo2*c)).length)).toArray).heap[b]?=w.heap[b]?:=fun b hb=>setRow_other w g0 b _ hb
      have hlen2:((xs.take lo++xs.drop lo2).map en).length=N0:=by simp;omega
      have e5:cur.toList.take (lo*c)=flat.take (lo*c):=by rw [← htk,List.take_take,Nat.min_eq_left (Nat.mul_le_mul_right _ c3)]
      have hll:(flat.take (lo*c)++flat.drop (lo2*c)).length=N0*c:=by
        have:lo*c≤xs.length*c:=Nat.mul_le_mul_right _ c3
        rw [List.length_append,hvl,List.length_take,hfll,Nat.min_eq_left this,← Nat.add_mul]
        congr 1;omega
      have hORel:ORel σ (w.setRow g0 (cur.toList.take (lo*c)++flat.drop (lo2*c)++cur.toList.drop (lo*c+(flat.drop (lo2*c)).length)).toArray) F (.arr e c ((xs.take lo++xs.drop lo2).map en)) (.slice (some ⟨g0,0,none⟩) N0 C):=by
        refine ⟨flat.take (lo*c)++flat.drop (lo2*c),⟨by rw [hlen2];exact hll,.inr ⟨g0,C,_,by rw [hlen2],Nat.zero_le _,setRow_heap w g0 cur _ e (0,0) hg,by rw [hlen2];exact hqc,hcm,?_,?_⟩⟩,⟨fun row hr=>?_,fun u hu=>?_,?_⟩,fun g2 hg2=>?_,_,_,_,rfl⟩
        · simp only [List.size_toArray,List.length_append,List.length_take,List.length_drop,Array.length_toList] at hvl ⊢
          omega
        · rw [hlen2]
          simp only [List.toList_toArray]
          rw [e5]
          exact List.take_left' hll
        · obtain ⟨a,_,rfl⟩:=List.mem_map.1 hr
          exact hen a
        · rcases List.mem_append.1 hu with hu | hu
          · exact hfl.2.1 u (List.mem_of_mem_take hu)
          · exact hone u hu
        · rw [List.map_append,List.map_take,List.map_drop,List.flatten_append,Jvb _ _ hrow,flatten_drop _ _ hrow]
          have hd2:RelL σ w F ((xs.map en).flatten.drop (lo2*c)) (flat.drop (lo2*c)):=by
            refine ⟨by simp [hfl.2.2.1],fun j a v ha hv=>?_⟩
            rw [List.getElem?_drop] at ha hv
            exact hfl.2.2.2 _ a v ha hv
          exact ((hfl.2.2.take _).append hd2).mono (fun _ _ e=>e) (fun _ e=>e) (fun b hb=>hkk b (fun e=>hF (e▸hb)))
        · simp [Value.ownBlock] at hg2;subst hg2;exact hF
      refine ⟨goInt m,_,_,_,σ,F,_,?_,.inl rfl,hs.write (b0:=g0) id ho rfl hσ rfl hkk (by simp) _ hORel (fun _ h=>h),Mv.write (w:=w) (w':=w.setRow g0 _) (F:=F) (b0:=g0) id ho rfl hσ rfl rfl rfl rfl hkk (by simp) _ (fun _ h=>h),.int _ _,h⟩
      simp [execOp,resolve,invoke,builtin,Sem.run_bind,hvx,hvy,hrun]
    · cases hr)
theorem o_copy_vr {t ts e c id lo m id2:Nat} {x y:Operand} {cap:Option Nat} {u:Unit} (hS:SliceOf P t e c) (hen:∀ a,(en a).length=c) (hx:evA n l x=.vw id c lo m cap) (hy:evA n l y=.ref id2) (ho:aw[id]?=some (.arr e c (xs.map en))) (ho2:aw[id2]?=some (.arr e c (ys.map en)))
    (hv:vwok xs.length lo ((lo:Int)+m)=some u) (ha:aw.set id (.arr e c ((cpy xs lo m ys).map en))=aw') (h:K2 (.int .i64 (min m ys.length:Nat)) aw'):OP P N ⟨d,.call ⟨.builtin .copy,#[x,y],#[t,ts]⟩,ty,ps,af,g⟩ (mkA n l) aw K2:=by
  unfold vwok at hv;split at hv
  · rename_i hc
    have hrow:∀ row,row∈ys.map en→row.length=c:=fun row hr=>by obtain ⟨a,_,rfl⟩:=List.mem_map.1 hr;exact hen a
    rw [cpy_map] at ha
    refine o_copy_gen (news:=ys.map en) (k:=min m ys.length) hS hx hy ho (fun σ w F v _ hr=>isV_vw hr) (fun σ w F v hs hr=>?_) hrow (by simp) (by simp;omega) ha h
    obtain ⟨flat,h1,h2,h3,_⟩:=src_isV hs ho2 (isV_ref hs ho2 hr) (by omega)
    rw [List.drop_zero,List.take_length] at h2
    exact ⟨flat,h1,h2,h3⟩
  · cases hv
theorem o_copy_v2 {t ts e c id lo m id2 lo2 m2:Nat} {x y:Operand} {cap cap2:Option Nat} {u u2:Unit} (hS:SliceOf P t e c) (hen:∀ a,(en a).length=c) (hx:evA n l x=.vw id c lo m cap) (hy:evA n l y=.vw id2 c lo2 m2 cap2) (ho:aw[id]?=some (.arr e c (xs.map en))) (ho2:aw[id2]?=some (.arr e c (ys.map en)))
    (hv:vwok xs.length lo ((lo:Int)+m)=some u) (hv2:vwok ys.length lo2 ((lo2:Int)+m2)=some u2) (ha:aw.set id (.arr e c ((cpy xs lo m ((ys.drop lo2).take m2)).map en))=aw') (h:K2 (.int .i64 (min m m2:Nat)) aw'):OP P N ⟨d,.call ⟨.builtin .copy,#[x,y],#[t,ts]⟩,ty,ps,af,g⟩ (mkA n l) aw K2:=by
  unfold vwok at hv hv2
  split at hv<;>split at hv2
  · rename_i hc hc2
    have hl2:((ys.drop lo2).take m2).length=m2:=by rw [List.length_take,List.length_drop];omega
    have hrow:∀ row,row∈((ys.drop lo2).take m2).map en→row.length=c:=fun row hr=>by obtain ⟨a,_,rfl⟩:=List.mem_map.1 hr;exact hen a
    rw [cpy_map,hl2] at ha
    refine o_copy_gen (news:=((ys.drop lo2).take m2).map en) (k:=min m m2) hS hx hy ho (fun σ w F v _ hr=>isV_vw hr) (fun σ w F v hs hr=>?_) hrow (by rw [List.length_map,hl2]) (by simp;omega) ha h
    obtain ⟨flat,h1,h2,h3,_⟩:=src_isV hs ho2 (isV_vw hr) (by simp;omega)
    rw [List.length_map,hl2]
    rw [← List.map_drop,← List.map_take] at h2
    exact ⟨flat,h1,h2,h3⟩
  · cases hv2
  · cases hv
  · cases hv
theorem o_app_vz {z0:α} {r:List α} {t tn:TypeId} {x y:Operand} {id e c k m0 K:Nat} {m:Int} {kn kq:IntKind} (hS:SliceOf P t e c) (htn:P.underlying tn=some (.int kn)) (hz:Q7a P e=some (en z0)) (hen:∀ a,(en a).length=c)
    (hx:evA n l x=.vw id c 0 m0 (some K)) (hy:evA n l y=.int kq m) (ho:aw[id]?=some (.arr e c (xs.map en))) (hr:growz xs m0 K m z0=some r) (hk:aw.length=k) (ha:aw++[.arr e c (r.map en)]=aw') (h:K2 (.ref k) aw') :
    OP P N ⟨d,.call ⟨.builtin .append,#[x,y],#[t,tn]⟩,ty,ps,af,g⟩ (mkA n l) aw K2 :=
  OP.of_ok (fun σ w F a har hs=>by
    unfold growz at hr;split at hr
    · rename_i hc
      cases hr
      subst hk ha
      have ex:=har.ev x
      have ey:=har.ev y
      rw [Q4a,hx] at ex
      rw [Q4a,hy] at ey
      generalize hvx:a.eval x=vx at ex
      generalize hvy:a.eval y=vy at ey
      cases ey
      cases ex with
      | vw _ _ _ _ N0 C _ A B hσ hn hA hcK hzz =>
        have hAB:=hzz rfl
        subst hAB
        have hKC:K=C:=by have:=hcK K rfl;omega
        subst hKC
        obtain ⟨hN,flat,hown0,hfl,hcase⟩:=Jfb hs ho hσ
        rw [List.length_map] at hN
        subst hN
        have hcut:m0*c≤xs.length*c:=Nat.mul_le_mul_right _ hc.1
        have hcc:=hS.c
        have hownp:w.ownsRow 0 e (P.cellsOf e) (.slice A m0 (K - 0)) m0 (flat.take (m0*c)):=by
          rw [hcc]
          refine ⟨by rw [List.length_take,hown0.1,Nat.min_eq_left hcut],?_⟩
          rcases hown0.2 with ⟨h2,h3⟩ | ⟨g0,cap,cur,h2,h3,h4,h5,h6,h7,h8⟩
          · injection h2 with h5 h6 h7
            have hm0:m0=0:=by omega
            exact .inl ⟨by simp [h5,hm0,h7],hm0⟩
          · cases h2
            refine .inr ⟨g0,K,cur,rfl,h3,h4,by omega,h6,h7,?_⟩
            rw [← h8,List.take_take,Nat.min_eq_left hcut]
        have hlen:m0+m.toNat≤1099511627776:=hc.2.2.2
        obtain ⟨v',w',news,hrun,hown,hg,hat,hr,h1,hbig⟩:=app_zeros (σ:=σ) (F:=F) (ty:=ty) (kq:=kq) hS.u htn hz (by rw [hen,hcc]) (by rw [hcc];exact hS.p) hS.b hownp (m:=m.toNat) (by omega) hlen
        rw [Int.toNat_of_nonneg (by omega)] at hrun
        rw [hcc] at hown
        obtain ⟨hnew,hg0⟩:=hbig A m0 (K - 0) rfl (by omega)
        have hrow:∀ row,row∈List.replicate m.toNat (en z0)→row.length=c:=fun row hm=>by rw [List.eq_of_mem_replicate hm,hen]
        have hfl2:FlatRel σ w F c ((xs.map en).take m0) (flat.take (m0*c)) :=
          ⟨fun row hr=>hfl.1 row (List.mem_of_mem_take hr),fun u hu=>hfl.2.1 u (List.mem_of_mem_take hu),by rw [Jvb _ _ hfl.1];exact hfl.2.2.take _⟩
        have hl2:m0+m.toNat=((xs.map en).take m0++List.replicate m.toNat (en z0)).length:=by simp;omega
        rw [hl2] at hown
        obtain ⟨s2,m2,r2⟩:=app_push (aw0:=aw) (vx:=.slice none 0 0) hs (fun _ h=>h) hfl2 hrow hr h1 hown hg0 (.inr hnew) (fun b hb=>by simp [Value.ownBlock] at hb)
        have e2:(xs.map en).take m0++List.replicate m.toNat (en z0)=(xs.take m0++List.replicate m.toNat z0).map en:=by simp
        rw [e2] at s2 m2
        refine ⟨v',_,w',_,_,F,_,?_,.inl rfl,s2,m2,r2,h⟩
        simp only [Nat.sub_zero] at hrun hvx
        simp [execOp,resolve,invoke,builtin,Sem.run_bind,hvx,hvy,hrun]
    · cases hr)
theorem o_app_vw {r:List α} {id e c k m0 C t tx:Nat} {y:Operand} {aw1:List Ob} (hS:SliceOf P t e c) (hen:∀ a,(en a).length=c) (hx:evA n l (.tmp tx)=.vw id c 0 m0 (some C)) (hm:m0=xs.length) (ho0:aw[id]?=some (.arr e c (xs.map en))) (hlt:Nat.blt tx n=true)
    (hy:norm aw (evA n ((tx,.ref id)::l) y)=(.sl (ys.map en),aw1)) (ho:aw1[id]?=some (.arr e c (xs.map en))) (hr:app xs ys=some r) (hk:aw1.length=k) (ha:aw1.set id .dead++[.arr e c (r.map en)]=aw') (h:K2 (.ref k) aw') :
    OP P N ⟨d,.call ⟨.builtin .append,#[.tmp tx,y],#[t,t]⟩,ty,ps,af,g⟩ (mkA n l) aw K2 :=
  OP.of_ok (fun σ w F a har hs=>by
    unfold app at hr;split at hr
    · rename_i hc
      cases hr
      subst hk ha
      have ex:=har.ev (.tmp tx)
      rw [Q4a,hx] at ex
      have har2:=aRel_re har rfl (unvw hs ho0 ex (by rw [List.length_map];exact hm))
      obtain ⟨z',hz1,hz2⟩:=hS.z
      have hx2:evA n ((tx,.ref id)::l) (.tmp tx)=.ref id:=by
        show (match Nat.blt tx n with | true=>lkA ((tx,.ref id)::l) tx | false=>.any)=_
        rw [hlt]
        show lkA ((tx,.ref id)::l) tx=_
        rw [lkA_cons,if_pos rfl]
      refine e_append har2 hs (args:=#[.tmp tx,y]) (ats:=#[t,t]) ?_ _ rfl
      simp only [vcApp,hS.u,hz1,Q4a,hx2,hy,hS.c,List.length_map,ho]
      exact ⟨trivial,trivial,trivial,hz2,hS.p,fun row hr=>by obtain ⟨a,_,rfl⟩:=List.mem_map.1 hr;exact hen a,hc,hS.b,by rw [← List.map_append];exact h⟩
    · cases hr)
theorem T.nilA {code:Code} {Q:Exit→List AV→List Ob→Prop} (t j e z:Nat) {cs cs':List AV} (hx:evA n l (.tmp t)=.agg cs) (hj:cs[j]?=some .nils) (hc:cs.set j (.ref aw.length)=cs') (ha:aw++[.arr e z []]=aw') (h:T P N code Q (mkA n ((t,.agg cs')::l)) aw'):T P N code Q (mkA n l) aw :=
  ⟨fun st h1 h2 σ w F a hcur=>by
    subst hc ha
    obtain ⟨s1,m1,r1⟩:=nil_push e z hcur.sim
    have hr:=hcur.fr.ev (.tmp t)
    rw [Q4a,hx] at hr
    generalize hv:a.eval (.tmp t)=v at hr
    have hr1:=m1.rel hcur.sim hr
    have hr2:Rel (σ++[.slice none 0 0]) w F (.agg (cs.set j (.ref aw.length))) v:=by
      cases hr1 with
      | agg _ vs hl h1c hcc =>
        refine .agg _ vs (by simpa using hl) h1c (fun i x u hx hu=>?_)
        rw [List.getElem?_set] at hx
        split at hx
        · rename_i e1
          subst e1
          split at hx
          · cases hx
            have:=hcc j .nils u hj hu
            cases this
            exact r1
          · cases hx
        · exact hcc i x u hx hu
    exact h.out st h1 h2 _ w F a ⟨s1,aRel_re (m1.aRel hcur.sim hcur.fr) hv hr2,hcur.mv.trans m1,hcur.ds⟩⟩
theorem sim_obW {id:Nat} {o o':Ob} (hs:Sim aw σ w F) (ho:aw[id]?=some o) (hl:o.live=true) (hO:∀ v,σ[id]?=some v→ORel σ w F o v→ORel σ w F o' v) (hB:∀ v b,Bk o' v b→Bk o v b):Sim (aw.set id o') σ w F∧Mv aw σ w F (aw.set id o') σ w F:=by
  have un:∀ (k:Nat) o1,(aw.set id o')[k]?=some o1→o1.live=true→∃ o2,aw[k]?=some o2∧o2.live=true∧∀ v b,Bk o1 v b→Bk o2 v b:=fun k o1 h1 hl1=>by
    rcases Qeb h1 with ⟨rfl,rfl,_⟩ | ⟨_,h2⟩
    · exact ⟨o,ho,hl,hB⟩
    · exact ⟨o1,h2,hl1,fun _ _ h=>h⟩
  refine ⟨⟨by simp [hs.len],fun k o1 v1 ho1 hv1=>?_,fun k k' o1 o2 v1 v2 g hne ho1 ho2 hl1 hl2 hv1 hv2 hb1 hb2=>?_,hs.lt⟩,⟨rfl,rfl,rfl,Nat.le_refl _,fun _ _ _=>rfl,fun _ _ h=>h,fun _ h=>h,fun _ h=>.inl h,fun b hb=>.inl ?_⟩⟩
  · rcases Qeb ho1 with ⟨rfl,rfl,_⟩ | ⟨_,h2⟩
    · exact hO v1 hv1 (hs.obj _ _ v1 ho hv1)
    · exact hs.obj k o1 v1 h2 hv1
  · obtain ⟨p1,e1,l1,b1⟩:=un k o1 ho1 hl1
    obtain ⟨p2,e2,l2,b2⟩:=un k' o2 ho2 hl2
    exact hs.sep k k' p1 p2 v1 v2 g hne e1 e2 l1 l2 hv1 hv2 (b1 _ _ hb1) (b2 _ _ hb2)
  · obtain ⟨k,o1,v1,ho1,hl1,hv1,hb1⟩:=hb
    obtain ⟨p1,e1,l1,b1⟩:=un k o1 ho1 hl1
    exact ⟨k,p1,v1,e1,l1,hv1,b1 _ _ hb1⟩
def nilW:List AV→List AV→Prop
  | [],[]=>True
  | a::as₀,b::bs=>(b=a∨a=.nils∧b=.sl [])∧nilW as₀ bs
  | _,_=>False
theorem nilW_len:∀ {as₀ bs:List AV},nilW as₀ bs→as₀.length=bs.length
  | [],[],_=>rfl
  | a::as₀,b::bs,h=>by simp [nilW_len h.2]
  | [],_::_,h=>h.elim
  | _::_,[],h=>h.elim
theorem nilW_app:∀ {as₀ bs cs ds:List AV},nilW as₀ bs→nilW cs ds→nilW (as₀++cs) (bs++ds)
  | [],[],_,_,_,k=>k
  | a::as₀,b::bs,_,_,h,k=>⟨h.1,nilW_app h.2 k⟩
  | [],_::_,_,_,h,_=>h.elim
  | _::_,[],_,_,h,_=>h.elim
theorem nilW_rel {as₀ bs:List AV} {vs:List Value} (h:nilW as₀ bs) (hr:RelL σ w F as₀ vs):RelL σ w F bs vs:=by
  have key:∀ {as₀ bs:List AV},nilW as₀ bs→∀ (j:Nat) a b,as₀[j]?=some a→bs[j]?=some b→b=a∨a=.nils∧b=.sl []:=by
    intro as₀
    induction as₀ with
    | nil=>intro bs _ j a b ha;simp at ha
    | cons x as₀ ih =>
      intro bs h j a b ha hb
      cases bs with
      | nil=>exact h.elim
      | cons y bs =>
        cases j with
        | zero=>simp at ha hb;subst ha hb;exact h.1
        | succ j=>exact ih h.2 j a b (by simpa using ha) (by simpa using hb)
  refine ⟨by rw [hr.1,nilW_len h],fun j b v hb hv=>?_⟩
  have hj:j<as₀.length:=by rw [nilW_len h];exact (List.getElem?_eq_some_iff.1 hb).1
  have ha:as₀[j]?=some as₀[j]:=List.getElem?_eq_getElem hj
  have hav:=hr.2 j _ v ha hv
  rcases key h j _ b ha hb with e | ⟨e1,e2⟩
  · rw [e];exact hav
  · rw [e1] at hav
    cases hav
    rw [e2];exact .slNil
theorem nilW_rep {z z2:List AV} (h:nilW z z2):∀ m:Nat,nilW (List.replicate m z).flatten (List.replicate m z2).flatten
  | 0=>trivial
  | m+1=>by rw [List.replicate_succ,List.replicate_succ,List.flatten_cons,List.flatten_cons];exact nilW_app h (nilW_rep h m)
theorem o_mkN {t e c k:Nat} {x y:Operand} {k1 k2:IntKind} {i:Int} {z:List AV} {zr:α} (hS:SliceOf P t e c) (hz:Q7a P e=some z) (hw:nilW z (en zr)) (hx:evA n l x=.int k1 i) (hy:evA n l y=.int k2 i) (hm:mk i zr=some xs) (hk:aw.length=k) (ha:aw++[.arr e c (xs.map en)]=aw') (h:K2 (.ref k) aw') :
    OP P N ⟨d,.makeSlice t x y,ty,ps,af,g⟩ (mkA n l) aw K2:=by
  unfold mk at hm;split at hm
  · rename_i hc
    cases hm
    subst hk ha
    have base:OP P N ⟨d,.makeSlice t x y,ty,ps,af,g⟩ (mkA n l) aw fun r aw1=>r=.ref aw.length∧aw1=aw++[.arr e c (List.replicate i.toNat z)]:=OP.of_vc (by
      obtain ⟨z',hz1,hz2⟩:=hS.z
      rw [hz] at hz1;cases hz1
      rw [vo_makeSlice,hS.u];simp only [Q4a,hx,hy,hz]
      refine ⟨by rw [hS.c,hz2],by rw [hS.c];exact hS.p,hc.1,Int.le_refl _,.inr trivial,?_,by unfold maxLen;omega,by rw [hS.c];exact ⟨trivial,rfl⟩⟩
      have h1:i.toNat≤1099511627776:=by omega
      exact Nat.le_trans (Nat.mul_le_mul hS.b h1) (by decide))
    refine ⟨fun st h1 h2 σ w F a hcur Kc Q hK=>base.out st h1 h2 σ w F a hcur Kc Q ?_⟩
    rintro r aw1 σ' w' F' v ⟨rfl,rfl⟩ hc2 hr
    have hget:(aw++[Ob.arr e c (List.replicate i.toNat z)])[aw.length]?=some (.arr e c (List.replicate i.toNat z)):=by simp
    obtain ⟨s3,m3⟩:=sim_obW (o':=.arr e c ((List.replicate i.toNat zr).map en)) hc2.sim hget rfl (fun v _ hO=>by
      obtain ⟨flat,hown,hfl,hf,hform⟩:=hO
      have hlen:(List.replicate i.toNat z).length=((List.replicate i.toNat zr).map en).length:=by simp
      refine ⟨flat,by rw [← hlen];exact hown,⟨fun row hrow=>?_,hfl.2.1,?_⟩,hf,hform⟩
      · obtain ⟨a',ha',rfl⟩:=List.mem_map.1 hrow
        have hi:0<i.toNat:=by
          rcases Nat.eq_zero_or_pos i.toNat with e0 | e0
          · rw [e0] at ha';simp at ha'
          · exact e0
        rw [List.eq_of_mem_replicate ha',← nilW_len hw]
        exact hfl.1 z (by rw [List.mem_replicate];exact ⟨by omega,rfl⟩)
      · rw [List.map_replicate]
        exact nilW_rel (nilW_rep hw i.toNat) hfl.2.2) (fun _ _ h=>h)
    have hset:(aw++[Ob.arr e c (List.replicate i.toNat z)]).set aw.length (.arr e c ((List.replicate i.toNat zr).map en))=aw++[.arr e c ((List.replicate i.toNat zr).map en)]:=by
      rw [List.set_append_right _ _ (Nat.le_refl _),Nat.sub_self];rfl
    rw [hset] at s3 m3
    exact hK (.ref aw.length) _ σ' w' F' v h (hc2.step s3 m3) (m3.rel hc2.sim hr)
  · cases hm
theorem o_overlaps {f:FuncId} {fn:Func} {tS tR e c i1 i2 lo m x:Nat} {cap:Option Nat} {x1 y:Operand} {ts:Array TypeId} {u:Unit} (hf:P.funcs[f]?=some fn) (hname:(fn.name == "runtime.NumGoroutine")=false) (hb:fn.body.isNone=true) (hn:Extern.findNext fn=none)
    (he:Extern.find fn=some (Extern.SlicesOverlaps.overlaps #[tS,tS] #[tR])) (hS:SliceOf P tS e c) (hx:evA n l x1=.ref i1) (hy:evA n l y=.vw i2 c lo m cap) (h1:aw[i1]?=some (.arr e c (ys.map en))) (h2:aw[i2]?=some (.arrU e c (xs.map en) x)) (hr:ovok ys m=some u) (h:K2 (.bool false) aw) :
    OP P N ⟨d,.call ⟨.value (.func f),#[x1,y],ts⟩,ty,ps,af,g⟩ (mkA n l) aw K2 :=
  OP.of_ok (fun σ w F a har hs=>by
    unfold ovok at hr;split at hr
    · rename_i hc
      have ex:=har.ev x1
      have ey:=har.ev y
      rw [Q4a,hx] at ex
      rw [Q4a,hy] at ey
      generalize hvx:a.eval x1=vx at ex
      generalize hvy:a.eval y=vy at ey
      cases ex with
      | ref _ A q cp hσ =>
      cases ey with
      | vw _ _ _ _ N0 C _ A' B hσ2 hn2 hA _ _ =>
        obtain ⟨g2,e3,e4⟩:=hA hc.2
        subst e3 e4
        obtain ⟨hq,_,_,_,hcase⟩:=Jfb hs h1 hσ
        obtain ⟨hq2,hqc,g0,flat,cur,e0,hF,hg,hcm,hsz,_⟩:=u_form hs h2 hσ2
        cases e0
        rcases hcase with hcase | ⟨g1,cur1,e1,hF1,hg1,_⟩
        · have:ys=[]:=List.map_eq_nil_iff.1 hcase
          subst this;simp at hc
        · subst e1
          have hne:g1≠g2:=by
            rintro rfl
            have hi:i1≠i2:=by rintro rfl;rw [h1] at h2;cases h2
            exact hs.sep i1 i2 _ _ _ _ g1 hi h1 h2 rfl rfl hσ hσ2 rfl rfl
          obtain ⟨ds,hd⟩:=Option.isSome_iff_exists.1 hS.s
          have hsize:=fun w=>J7a (P:=P) (w:=w) hd
          have hk0:cur.size≠0:=by
            rw [hsz]
            exact Nat.mul_ne_zero (by omega) (by have:=hS.p;omega)
          have hov:=Lib.run_overlaps_apart (P:=P) w tS tR e hS.u _ hsize ⟨g1,0,none⟩ ⟨g2,lo*c,none⟩ q cp m (C - lo) hne e e cur1.size cur.size (by simp [World.shape?,hg1]) (by simp [World.shape?,hg]) hk0 (by simp [World.frozen?,hg1]) (by simp [World.frozen?,hg1])
          have hcall:=run_callFunc_extern hf hname hb hn he #[.slice (some ⟨g1,0,none⟩) q cp,.slice (some ⟨g2,lo*c,none⟩) m (C - lo)] w
          rw [hov] at hcall
          refine ⟨.bool false,_,w,aw,σ,F,_,?_,.inl rfl,hs,.refl ..,.bool _,h⟩
          have hvf:a.eval (.func f)=.func (.func f) #[] #[]:=rfl
          have e9:#[x1,y].map a.eval++#[]=#[.slice (some ⟨g1,0,none⟩) q cp,.slice (some ⟨g2,lo*c,none⟩) m (C - lo)]:=by simp [hvx,hvy]
          simp only [execOp,resolve,Deferred.ofValue,hvf,Sem.run_bind,Sem.run_pure,Result.andThen_ok,invoke,Array.empty_append,e9,hcall]
    · cases hr)
end
end Go.Proofs.YtchmpaaofmihcaaGreat
namespace Go.Proofs.YtchmpaaofmihcaaGreat
open Go.RowKit
set_option linter.unusedVariables false
set_option linter.unusedSimpArgs false
abbrev iI (n:Int):AV:=.int .i64 n
abbrev sL {α:Type} (en:α→List AV) (xs:List α):AV:=.sl (List.map en xs)
abbrev aR {α:Type} (e c:Nat) (en:α→List AV) (xs:List α):Ob:=.arr e c (List.map en xs)
section
variable {P:Program} {N n:Nat} {aw aw':List Ob} {l:List (Nat × AV)} {ops:Array Oper} {os:List Oper} {K:List AV→List Ob→Prop} {o:Oper} {d:Option Tmp} {x:Operand} {ty:TypeId} {ps:String} {af:Array Edge}
theorem sn {j t:Nat} {want b:Bool} (hbw:b=!want) (h:RS P N ops os K (mkA n (putA l o.dst (.tup []))) aw) (hg:o.guard=some (j,want):=by rfl) (ht:(ops[j]?).bind (·.dst)=some t:=by rfl) (hb:evA n l (.tmp t)=.bool b:=by rfl) :
    RS P N ops (o::os) K (mkA n l) aw:=RS.no hg ht hb hbw h
theorem su {j t:Nat} {want:Bool} (h:RS P N ops os K (mkA n (putA l o.dst (.tup []))) aw) (hg:o.guard=some (j,want):=by rfl) (ht:(ops[j]?).bind (·.dst)=some t:=by rfl) (hb:evA n l (.tmp t)=.tup []:=by rfl) :
    RS P N ops (o::os) K (mkA n l) aw:=RS.nou hg ht hb h
def SubA:List (Nat × AV)→List (Nat × AV)→Prop
  | [],_=>True
  | (s,v)::r,l=>lkA l s=v∧SubA r l
theorem subA_lk:∀ {l' l:List (Nat × AV)},SubA l' l→∀ t,lkA l' t=.any∨lkA l' t=lkA l t
  | [],l,_,t=>.inl rfl
  | (s,v)::r,l,h,t=>by
    rw [lkA_cons]
    by_cases e:s=t
    · subst e;rw [if_pos rfl];exact .inr h.1.symm
    · rw [if_neg e];exact subA_lk h.2 t
theorem cur_sub {l':List (Nat × AV)} {st:St} {σ:List Value} {w:World} {F:Nat→Prop} {a:Act} (h:SubA l' l) (hc:Cur st (mkA n l) aw σ w F a):Cur st (mkA n l') aw σ w F a:=by
  refine ⟨hc.sim,⟨⟨?_,fun j x v hx hv=>?_⟩,hc.fr.2⟩,hc.mv,hc.ds⟩
  · have:=hc.fr.1.1
    rw [len_mkA] at this ⊢
    exact this
  · rw [get_mkA] at hx
    split at hx
    · rename_i hj
      cases hx
      rcases subA_lk h j with e | e
      · rw [e];exact .any _
      · rw [e];exact hc.fr.1.2 j _ v (by rw [get_mkA,if_pos hj]) hv
    · cases hx
theorem RA.sub {l':List (Nat × AV)} {k:Nat} {li:Array Bool} (h:RA P N ops k li K (mkA n l') aw) (hs:SubA l' l):RA P N ops k li K (mkA n l) aw:=⟨fun st h1 h2 σ w F a hc=>h.out st h1 h2 σ w F a (cur_sub hs hc)⟩
theorem T.sub {l':List (Nat × AV)} {c:Code} {Q:Exit→List AV→List Ob→Prop} (h:T P N c Q (mkA n l') aw) (hs:SubA l' l):T P N c Q (mkA n l) aw:=⟨fun st h1 h2 σ w F a hc=>h.out st h1 h2 σ w F a (cur_sub hs hc)⟩
section
variable {k:Nat} {li li':Array Bool} {fr fr':List AV}
theorem ra1 (i1:Nat) (h1:RO P N ops i1 (RA P N ops k (li.setIfInBounds i1 true) K) fr aw) (hr:Region.ready .any ops li=[i1]:=by decide +kernel):RA P N ops (k+1) li K fr aw:=RA.a1 hr rfl h1
theorem ra2 (i1 i2:Nat) (h1:RO P N ops i1 (RA P N ops k (li.setIfInBounds i1 true) K) fr aw) (h2:RO P N ops i2 (RA P N ops k (li.setIfInBounds i2 true) K) fr aw) (hr:Region.ready .any ops li=[i1,i2]:=by decide +kernel):RA P N ops (k+1) li K fr aw:=RA.a2 hr rfl rfl h1 h2
theorem ra3 (i1 i2 i3:Nat) (h1:RO P N ops i1 (RA P N ops k (li.setIfInBounds i1 true) K) fr aw) (h2:RO P N ops i2 (RA P N ops k (li.setIfInBounds i2 true) K) fr aw) (h3:RO P N ops i3 (RA P N ops k (li.setIfInBounds i3 true) K) fr aw)
    (hr:Region.ready .any ops li=[i1,i2,i3]:=by decide +kernel):RA P N ops (k+1) li K fr aw:=RA.a3 hr rfl rfl rfl h1 h2 h3
theorem ra4 (i1 i2 i3 i4:Nat) (h1:RO P N ops i1 (RA P N ops k (li.setIfInBounds i1 true) K) fr aw) (h2:RO P N ops i2 (RA P N ops k (li.setIfInBounds i2 true) K) fr aw) (h3:RO P N ops i3 (RA P N ops k (li.setIfInBounds i3 true) K) fr aw)
    (h4:RO P N ops i4 (RA P N ops k (li.setIfInBounds i4 true) K) fr aw) (hr:Region.ready .any ops li=[i1,i2,i3,i4]:=by decide +kernel):RA P N ops (k+1) li K fr aw:=RA.a4 hr rfl rfl rfl rfl h1 h2 h3 h4
end
theorem bz:(∀ b,(true || b)=true)∧(∀ b,(b || true)=true)∧(∀ b,(false || b)=b)∧(∀ b,(b || false)=b)∧(∀ b,(true && b)=b)∧(∀ b,(b && true)=b)∧(∀ b,(false && b)=false)∧(∀ b,(b && false)=false)∧(!true)=false∧(!false)=true:=by
  refine ⟨?_,?_,?_,?_,?_,?_,?_,?_,rfl,rfl⟩<;>intro b<;>cases b<;>rfl
theorem it {α:Type} (a b:α):(if true=true then a else b)=a:=rfl
class RetI (Q:Exit→List AV→List Ob→Prop) (R:outParam (List AV→List Ob→Prop)):Prop where
  out:∀ fr aw,R fr aw→Q .ret fr aw
instance {fn:Func} {M:Nat} {Q:AV→List Ob→Prop}:RetI (retQ P fn M Q) (fun fr aw=>vcRes P fr aw fn.results.toList (Ret M Q aw)):=⟨fun _ _ h=>h⟩
instance {K:List AV→List Ob→Prop} {Q:Exit→List AV→List Ob→Prop} {R:List AV→List Ob→Prop} [h:RetI Q R]:RetI (thenA K Q) R:=⟨h.out⟩
instance {id:Nat} {Q:Exit→List AV→List Ob→Prop} {R:List AV→List Ob→Prop} [h:RetI Q R]:RetI (inBlockA id Q) R:=⟨h.out⟩
instance {α β:Type} {M:Nat} {v:α ⊕ β} {F:α→List AV} {A:α→List Ob} {Q:Exit→List AV→List Ob→Prop} {R:List AV→List Ob→Prop} [h:RetI Q R]:RetI (LQ M v F A Q) R:=⟨h.out⟩
theorem T.rt {Q:Exit→List AV→List Ob→Prop} {R:List AV→List Ob→Prop} {fr:List AV} [hq:RetI Q R] (h:R fr aw):T P N .ret Q fr aw:=T.ret (hq.out fr aw h)
class PureC (a:AV):Prop where
  out:Pure a
class EnP {α:Type} (en:α→List AV):Prop where
  out:∀ a x,x∈en a→Pure x
instance {k:IntKind} {i:Int}:PureC (.int k i):=⟨Qua _ _⟩
instance {b:Bool}:PureC (.bool b):=⟨Vza _⟩
instance {s:List UInt8}:PureC (.str s):=⟨Jha _⟩
instance:PureC .nils:=⟨pure_nils⟩
instance:PureC .nilf:=⟨pure_nilf⟩
instance {α:Type} {en:α→List AV} {xs:List α} [h:EnP en]:PureC (.sl (xs.map en)):=⟨Qwa h.out _⟩
class PureCs (cs:List AV):Prop where
  out:∀ a,a∈cs→Pure a
instance:PureCs []:=⟨fun a h=>by cases h⟩
instance {a:AV} {cs:List AV} [h:PureC a] [t:PureCs cs]:PureCs (a::cs):=⟨fun b hb=>by cases hb with | head=>exact h.out | tail _ hb=>exact t.out b hb⟩
instance {cs:List AV} [h:PureCs cs]:PureC (.agg cs):=⟨pure_agg _ h.out⟩
instance {cs:List AV} [h:PureCs cs]:PureC (.tup cs):=⟨pure_tup _ h.out⟩
theorem rw_bs {ρ ids:List Nat} {id:Nat} (cs:List AV) [h:PureCs cs] (ho:aw[id]?=some (.box cs)) (t:RenW ρ aw ids aw'):RenW ρ aw (id::ids) (.box cs::aw'):=Jfa ho (renL_same h.out) t
theorem rw_ar {α:Type} {en:α→List AV} {xs ys:List α} {ρ ids:List Nat} {id e s:Nat} [h:EnP en] (ho:aw[id]?=some (.arr e s (ys.map en))) (hx:xs=ys) (t:RenW ρ aw ids aw'):RenW ρ aw (id::ids) (.arr e s (xs.map en)::aw'):=Jza ho h.out hx t
theorem rn_s {α:Type} {en:α→List AV} {xs ys:List α} {ρ:List Nat} [hp:EnP en] (h:xs=ys):Ren ρ (.sl (xs.map en)) (.sl (ys.map en)):=rn_sl hp.out h
end
end Go.Proofs.YtchmpaaofmihcaaGreat
namespace Go.Proofs.YtchmpaaofmihcaaGreat
open Go.RowKit
set_option linter.unusedVariables false
namespace RK
def Over (w w':World):Prop:=∀ r,r<w.heap.size→w'.heap[r]?=w.heap[r]?
theorem Over.rfl' (w:World):Over w w:=fun _ _=>rfl
theorem Over.size {w w':World} (h:Over w w'):w.heap.size≤w'.heap.size:=by
  rcases Nat.eq_zero_or_pos w.heap.size with h0 | h0
  · omega
  · have:=h (w.heap.size - 1) (by omega)
    have hl:w.heap.size - 1<w.heap.size:=by omega
    rw [Array.getElem?_eq_getElem hl] at this
    have:=(Array.getElem?_eq_some_iff.1 this).1
    omega
theorem Over.trans {a b c:World} (h:Over a b) (k:Over b c):Over a c:=fun r hr =>
  (k r (Nat.lt_of_lt_of_le hr h.size)).trans (h r hr)
inductive Keeps {α:Type}:Sem α→Prop
  | pure (a:α):Keeps (.pure a)
  | load (m:Go.Mode) (a:Addr) (k:Value→Sem α):(∀ v,Keeps (k v))→Keeps (.load m a k)
  | new (o:Obj) (k:Nat→Sem α):(∀ r,Keeps (k r))→Keeps (.new o k)
  | shape (r:Nat) (k:Option (TypeId × Nat)→Sem α):(∀ x,Keeps (k x))→Keeps (.shape r k)
  | frozen (a:Addr) (k:Bool→Sem α):(∀ x,Keeps (k x))→Keeps (.frozen a k)
  | getObj (r:Nat) (k:Obj→Sem α):(∀ x,Keeps (k x))→Keeps (.getObj r k)
  | choose (q:Question) (k:Nat→Sem α):(∀ x,Keeps (k x))→Keeps (.choose q k)
  | program (k:Program→Sem α):(∀ x,Keeps (k x))→Keeps (.program k)
  | mark (m:Mark) (k:Sem α):Keeps k→Keeps (.mark m k)
  | halt (h:Halt):Keeps (.halt h)
theorem Keeps.bind {α β:Type} {s:Sem α} (h:Keeps s) {f:α→Sem β} (hf:∀ a,Keeps (f a)):Keeps (s.bind f):=by
  induction h with
  | pure a=>exact hf a
  | load m a k _ ih=>exact .load m a _ fun v=>ih v
  | new o k _ ih=>exact .new o _ fun v=>ih v
  | shape r k _ ih=>exact .shape r _ fun v=>ih v
  | frozen a k _ ih=>exact .frozen a _ fun v=>ih v
  | getObj r k _ ih=>exact .getObj r _ fun v=>ih v
  | choose q k _ ih=>exact .choose q _ fun v=>ih v
  | program k _ ih=>exact .program _ fun v=>ih v
  | mark m k _ ih=>exact .mark m _ ih
  | halt h=>exact .halt h
theorem Keeps.run {α:Type} {s:Sem α} (h:Keeps s) (P:Program):∀ (w:World) (x:α) (w':World),s.run P w=.ok x w'→Over w w':=by
  induction h with
  | pure a=>intro w x w' e;simp only [Sem.run,Result.ok.injEq] at e;rw [← e.2];exact .rfl' w
  | load m a k _ ih =>
    intro w x w' e
    simp only [Sem.run] at e
    split at e
    · exact ih _ _ _ _ e
    · split at e
      · exact ih _ _ _ _ e
      · cases e
  | new o k _ ih =>
    intro w x w' e
    simp only [Sem.run] at e
    refine Over.trans (fun r hr=>?_) (ih _ _ _ _ e)
    simp [Array.getElem?_push,Nat.ne_of_lt hr]
  | shape r k _ ih=>intro w x w' e;exact ih _ _ _ _ e
  | frozen a k _ ih=>intro w x w' e;exact ih _ _ _ _ e
  | getObj r k _ ih =>
    intro w x w' e
    simp only [Sem.run] at e
    split at e
    · cases e
    · exact ih _ _ _ _ e
    · cases e
  | choose q k _ ih =>
    intro w x w' e
    simp only [Sem.run] at e
    split at e
    · exact ih _ _ _ _ e
    · exact fun r hr=>ih _ _ _ _ e r hr
  | program k _ ih=>intro w x w' e;exact ih _ _ _ _ e
  | mark m k _ ih=>intro w x w' e;exact ih _ _ _ e
  | halt h=>intro w x w' e;simp only [Sem.run] at e;cases e
theorem Keeps.mb {α β:Type} {s:Sem α} (h:Keeps s) {f:α→Sem β} (hf:∀ a,Keeps (f a)):Keeps (s >>= f):=h.bind hf
theorem Keeps.fm {α β:Type} {s:Sem α} (h:Keeps s) {f:α→β}:Keeps (Functor.map f s):=h.bind fun a=>.pure _
theorem Jwb {α:Type} (a:α):Keeps (Pure.pure a:Sem α):=.pure a
theorem k_stuck {α:Type} (s:String):Keeps (stuck s:Sem α):=.halt _
theorem k_unsup {α:Type} (u:Unsupported):Keeps (unsupported u:Sem α):=.halt _
theorem k_load (a:Addr) (m:Go.Mode):Keeps (Go.load a m):=.load _ _ _ fun _=>.pure _
theorem k_prog:Keeps Go.program:=.program _ fun _=>.pure _
theorem k_newObj (o:Obj):Keeps (newObj o):=.new _ _ fun _=>.pure _
theorem k_shape (r:Nat):Keeps (Go.shape r):=.shape _ _ fun _=>.pure _
theorem k_choose (q:Question):Keeps (Go.choose q):=.choose _ _ fun _=>.pure _
theorem k_typeInfo (t:TypeId):Keeps (typeInfo t):=by unfold typeInfo;repeat (first | exact Jwb _ | exact k_stuck _ | exact k_unsup _ | exact k_load _ _ | exact k_prog | exact k_newObj _ | exact k_shape _ | exact k_choose _ | assumption | exact Keeps.pure _ | exact Keeps.halt _ | (refine Keeps.mb ?_ fun _=>?_) | (refine Keeps.fm ?_) | (refine Keeps.bind ?_ fun _=>?_) | split)
theorem Y1a (t:TypeId):Keeps (underlying t):=by unfold underlying;repeat (first | exact Jwb _ | exact k_stuck _ | exact k_unsup _ | exact k_load _ _ | exact k_prog | exact k_newObj _ | exact k_shape _ | exact k_choose _ | assumption | exact Keeps.pure _ | exact Keeps.halt _ | (refine Keeps.mb ?_ fun _=>?_) | (refine Keeps.fm ?_) | (refine Keeps.bind ?_ fun _=>?_) | split)
theorem k_sizeOf (t:TypeId):Keeps (sizeOf t):=(k_typeInfo t).mb fun _=>Jwb _
theorem k_zero (t:TypeId):Keeps (zeroValue t):=by unfold zeroValue;refine (k_typeInfo t).mb fun _=>?_;repeat (first | exact Jwb _ | exact k_stuck _ | exact k_unsup _ | exact k_load _ _ | exact k_prog | exact k_newObj _ | exact k_shape _ | exact k_choose _ | assumption | exact Keeps.pure _ | exact Keeps.halt _ | (refine Keeps.mb ?_ fun _=>?_) | (refine Keeps.fm ?_) | (refine Keeps.bind ?_ fun _=>?_) | split)
theorem k_isAgg (t:TypeId):Keeps (isAgg t):=by unfold isAgg;refine (Y1a t).mb fun _=>?_;repeat (first | exact Jwb _ | exact k_stuck _ | exact k_unsup _ | exact k_load _ _ | exact k_prog | exact k_newObj _ | exact k_shape _ | exact k_choose _ | assumption | exact Keeps.pure _ | exact Keeps.halt _ | (refine Keeps.mb ?_ fun _=>?_) | (refine Keeps.fm ?_) | (refine Keeps.bind ?_ fun _=>?_) | split)
theorem k_cells (a:Addr):∀ (n i:Nat) (acc:Array Value),Keeps (loadCellsFrom a i n acc):=by
  intro n
  induction n with
  | zero=>intro i acc;exact Jwb _
  | succ n ih=>intro i acc;exact (k_load _ _).mb fun _=>ih _ _
theorem k_loadVar (t:TypeId) (a:Addr):Keeps (loadVar t a):=by
  unfold loadVar loadCells
  refine (k_isAgg t).mb fun _=>?_
  split
  · exact (k_sizeOf t).mb fun _=>(k_cells _ _ _ _).mb fun _=>Jwb _
  · exact k_load _ _
theorem k_sure (v:Value):Keeps (Instr.sureAddr v):=by unfold Instr.sureAddr;split<;>(first | exact Jwb _ | exact k_stuck _ | exact k_unsup _ | exact k_load _ _ | exact k_prog | exact k_newObj _ | exact k_shape _ | exact k_choose _ | assumption | exact Keeps.pure _ | exact Keeps.halt _ | (refine Keeps.mb ?_ fun _=>?_) | (refine Keeps.fm ?_) | (refine Keeps.bind ?_ fun _=>?_) | split)
theorem k_loadAt (t:TypeId) (v:Value):Keeps (Instr.loadAt t v):=(k_sure v).mb fun _=>k_loadVar _ _
theorem k_newRow (t:TypeId) (vs:Array Value):Keeps (newRow t vs):=(k_newObj _).mb fun _=>Jwb _
theorem k_box (t:TypeId) (v:Value):Keeps (Instr.box t v):=(k_newRow _ _).mb fun _=>Jwb _
theorem k_alloc (t:TypeId):Keeps (Instr.alloc t true (.tuple #[])):=by
  unfold Instr.alloc
  exact (k_zero t).mb fun _=>(k_newRow _ _).mb fun _=>Jwb _
theorem k_asIntOf (v:Value):Keeps (asIntOf v):=by unfold asIntOf;split<;>(first | exact Jwb _ | exact k_stuck _ | exact k_unsup _ | exact k_load _ _ | exact k_prog | exact k_newObj _ | exact k_shape _ | exact k_choose _ | exact Y1a _ | exact k_sizeOf _ | exact k_zero _ | exact k_sure _ | exact k_newRow _ _ | assumption | exact Keeps.pure _ | exact Keeps.halt _ | (refine Keeps.mb ?_ fun _=>?_) | (refine Keeps.fm ?_) | (refine Keeps.bind ?_ fun _=>?_) | dsimp only | split)
theorem k_panic {α:Type} (v:Value):Keeps (goPanic v:Sem α):=.halt _
theorem k_bounds {α:Type} (k:IntKind) (x y:Int) (c:BoundsCode):Keeps (boundsPanic k x y c:Sem α):=by
  unfold boundsPanic
  dsimp only
  split
  · refine Keeps.mb (Keeps.fm (k_choose _)) fun _=>?_
    unfold runtimePanic
    exact k_prog.mb fun _=>k_panic _
  · refine Keeps.mb (Jwb _) fun _=>?_
    unfold runtimePanic
    exact k_prog.mb fun _=>k_panic _
theorem k_indexAt (t:TypeId) (x i:Value):Keeps (Instr.indexAt t x i):=by
  unfold Instr.indexAt
  refine (k_asIntOf i).mb fun _=>?_
  dsimp only
  refine (Y1a t).mb fun _=>?_
  repeat (first | exact k_bounds _ _ _ _ | (first | exact Jwb _ | exact k_stuck _ | exact k_unsup _ | exact k_load _ _ | exact k_prog | exact k_newObj _ | exact k_shape _ | exact k_choose _ | exact Y1a _ | exact k_sizeOf _ | exact k_zero _ | exact k_sure _ | exact k_newRow _ _ | assumption | exact Keeps.pure _ | exact Keeps.halt _ | (refine Keeps.mb ?_ fun _=>?_) | (refine Keeps.fm ?_) | (refine Keeps.bind ?_ fun _=>?_) | dsimp only | split))
theorem k_buildSlice (t:TypeId) (len:Nat) (ps:Array (Nat × Value)):Keeps (Instr.buildSlice t len ps):=by
  unfold Instr.buildSlice
  repeat (first | exact Jwb _ | exact k_stuck _ | exact k_unsup _ | exact k_load _ _ | exact k_prog | exact k_newObj _ | exact k_shape _ | exact k_choose _ | exact Y1a _ | exact k_sizeOf _ | exact k_zero _ | exact k_sure _ | exact k_newRow _ _ | assumption | exact Keeps.pure _ | exact Keeps.halt _ | (refine Keeps.mb ?_ fun _=>?_) | (refine Keeps.fm ?_) | (refine Keeps.bind ?_ fun _=>?_) | dsimp only | split)
theorem k_mapM {α β:Type} (f:α→Sem β) (hf:∀ a,Keeps (f a)) (xs:Array α):Keeps (xs.mapM f):=by
  rw [Array.mapM_eq_mapM_toList]
  refine Keeps.fm ?_
  generalize xs.toList=l
  induction l with
  | nil=>exact Jwb _
  | cons a l ih=>rw [List.mapM_cons];exact (hf a).mb fun _=>ih.mb fun _=>Jwb _
theorem k_build (t:TypeId) (ps:Array (Nat × Value)):Keeps (Instr.build t ps):=by
  unfold Instr.build
  refine (k_zero t).mb fun _=>(Y1a t).mb fun _=>?_
  split
  · refine Keeps.mb (k_mapM _ (fun f=>(k_sizeOf _).mb fun _=>Jwb _) _) fun _=>?_
    repeat (first | exact Jwb _ | exact k_stuck _ | exact k_unsup _ | exact k_load _ _ | exact k_prog | exact k_newObj _ | exact k_shape _ | exact k_choose _ | exact Y1a _ | exact k_sizeOf _ | exact k_zero _ | exact k_sure _ | exact k_newRow _ _ | assumption | exact Keeps.pure _ | exact Keeps.halt _ | (refine Keeps.mb ?_ fun _=>?_) | (refine Keeps.fm ?_) | (refine Keeps.bind ?_ fun _=>?_) | dsimp only | split)
  · repeat (first | exact Jwb _ | exact k_stuck _ | exact k_unsup _ | exact k_load _ _ | exact k_prog | exact k_newObj _ | exact k_shape _ | exact k_choose _ | exact Y1a _ | exact k_sizeOf _ | exact k_zero _ | exact k_sure _ | exact k_newRow _ _ | assumption | exact Keeps.pure _ | exact Keeps.halt _ | (refine Keeps.mb ?_ fun _=>?_) | (refine Keeps.fm ?_) | (refine Keeps.bind ?_ fun _=>?_) | dsimp only | split)
  · exact k_stuck _
def Tame (o:Oper):Prop:=∀ ρ,∃ s:Sem Value,Keeps s∧execOp ρ o=s.bind fun x=>.pure (.value x)
theorem Keeps.val {s:Sem Value} (h:Keeps s) (P:Program):∀ (w:World) (n:Next) (w':World),
    (s.bind fun x=>.pure (.value x)).run P w=.ok n w'→∃ x,n=.value x:=by
  induction h with
  | pure a=>intro w n w' e;simp only [Sem.bind,Sem.run,Result.ok.injEq] at e;exact ⟨a,e.1.symm⟩
  | load m a k _ ih =>
    intro w n w' e
    simp only [Sem.bind,Sem.run] at e
    split at e
    · exact ih _ _ _ _ e
    · split at e
      · exact ih _ _ _ _ e
      · cases e
  | new o k _ ih=>intro w n w' e;exact ih _ _ _ _ e
  | shape r k _ ih=>intro w n w' e;exact ih _ _ _ _ e
  | frozen a k _ ih=>intro w n w' e;exact ih _ _ _ _ e
  | getObj r k _ ih =>
    intro w n w' e
    simp only [Sem.bind,Sem.run] at e
    split at e
    · cases e
    · exact ih _ _ _ _ e
    · cases e
  | choose q k _ ih =>
    intro w n w' e
    simp only [Sem.bind,Sem.run] at e
    split at e
    · exact ih _ _ _ _ e
    · exact ih _ _ _ _ e
  | program k _ ih=>intro w n w' e;exact ih _ _ _ _ e
  | mark m k _ ih=>intro w n w' e;exact ih _ _ _ e
  | halt h=>intro w n w' e;simp only [Sem.bind,Sem.run] at e;cases e
theorem Tame.run {o:Oper} (h:Tame o) {P:Program} {ρ:Operand→Value} {w w':World} {n:Next} (e:(execOp ρ o).run P w=.ok n w') :
    (∃ x,n=.value x)∧Over w w':=by
  obtain ⟨s,hk,hs⟩:=h ρ
  rw [hs] at e
  exact ⟨hk.val P _ _ _ e,(hk.bind fun _=>.pure _).run P _ _ _ e⟩
theorem tame_load {o:Oper} {t:TypeId} {x:Operand} (h:o.op=.load t x):Tame o:=fun ρ=>⟨_,k_loadAt t (ρ x),by unfold execOp;rw [h];rfl⟩
theorem tame_alloc {o:Oper} {t:TypeId} (h:o.op=.alloc t):Tame o:=fun ρ=>⟨_,k_alloc t,by unfold execOp;rw [h];rfl⟩
theorem tame_box {o:Oper} {t:TypeId} {x:Operand} (h:o.op=.box t x):Tame o:=fun ρ=>⟨_,k_box t (ρ x),by unfold execOp;rw [h];rfl⟩
theorem tame_index {o:Oper} {t:TypeId} {x y:Operand} (h:o.op=.indexAddr t x y):Tame o:=fun ρ=>⟨_,k_indexAt t (ρ x) (ρ y),by unfold execOp;rw [h];rfl⟩
theorem tame_build {o:Oper} {t:TypeId} {ps:Array (Nat × Operand)} (h:o.op=.build t ps):Tame o:=fun ρ=>⟨_,k_build t _,by unfold execOp;rw [h];rfl⟩
theorem tame_buildSlice {o:Oper} {t:TypeId} {k:Nat} {ps:Array (Nat × Operand)} (h:o.op=.buildSlice t k ps):Tame o:=fun ρ=>⟨_,k_buildSlice t k _,by unfold execOp;rw [h];rfl⟩
theorem tame_move {o:Oper} {x:Operand} (h:o.op=.move x):Tame o:=fun ρ=>⟨_,.pure (ρ x),by unfold execOp;rw [h];rfl⟩
section
variable {P:Program} {md:Region.Mode} {ops:Array Oper} {Q:Exit→Act→World→Prop}
def YieldsO (P:Program) (ops:Array Oper) (o:Oper) (v:Value) (a:Act) (w:World):Prop :=
  (Region.wanted o (yielded ops a.tmps)=true∧∀ w',Over w w'→(execOp a.eval o).run P w'=.ok (.value v) w') ∨
  (Region.wanted o (yielded ops a.tmps)=false∧v=undef)
theorem YieldsO.wpOp {i:Nat} {o:Oper} {v:Value} {a:Act} {w:World} (hi:ops[i]?=some o) (hy:YieldsO P ops o v a w)
    {K:Act→World→Prop} (h:K (a.put o.dst v) w):Go.wpOp P ops Q i K a w:=by
  unfold Go.wpOp
  simp only [hi]
  rcases hy with ⟨hw,hv⟩ | ⟨hw,rfl⟩
  · simp only [hw,if_true,Oper.wp,hv w (.rfl' w),Oper.upon];exact .inl h
  · simp only [hw,Bool.false_eq_true,if_false];exact h
theorem YieldsO.of_same {o:Oper} {v:Value} {a a':Act} {w w':World} (hy:YieldsO P ops o v a w) (hww:Over w w') (he:execOp a'.eval o=execOp a.eval o)
    (hw:Region.wanted o (yielded ops a'.tmps)=Region.wanted o (yielded ops a.tmps)):YieldsO P ops o v a' w':=by
  unfold YieldsO at *
  rw [he,hw]
  exact hy.imp (fun h=>⟨h.1,fun w2 h2=>h.2 w2 (hww.trans h2)⟩) id
theorem wpOp_putT {j:Nat} {oi oj:Oper} {v:Value} (hj:ops[j]?=some oj) (hap:oi.apart ops oj=true) (ht:Tame oj)
    (hsi:∀ cs b,oi.op≠.select cs b) (hsj:∀ cs b,oj.op≠.select cs b)
    (hQ:∀ c a w,Q (.panic c) (a.put oi.dst v) w→Q (.panic c) a w) {K:Act→World→Prop} {a:Act} {w:World}
    (hy:YieldsO P ops oi v a w) (h:wpOp P ops Q j K (a.put oi.dst v) w) :
    wpOp P ops Q j (fun a' w'=>YieldsO P ops oi v a' w'∧K (a'.put oi.dst v) w') a w:=by
  obtain ⟨h1,h2,h3⟩:=Oper.apart_spec hap
  have keep:∀ u w',Over w w'→YieldsO P ops oi v (a.put oj.dst u) w':=fun u w' hw =>
    hy.of_same hw (execOp_put oi hsi a oj.dst u h3) (wanted_put oi a oj.dst u h3)
  unfold wpOp at *
  simp only [hj] at *
  rw [wanted_put oj a oi.dst v h1] at h
  split
  · rename_i hw
    simp only [hw,if_true] at h
    rcases h with h | ⟨hasks,hlets⟩
    case inr=>exact .inr ⟨by unfold Oper.asks at *;rw [execOp_put oj hsj a oi.dst v h1] at hasks;exact hasks,hlets⟩
    refine .inl ?_
    unfold Oper.wp at *
    rw [execOp_put oj hsj a oi.dst v h1] at h
    have hr:=fun n w'=>ht.run (P:=P) (ρ:=a.eval) (w:=w) (w':=w') (n:=n)
    generalize (execOp a.eval oj).run P w=r at *
    cases r with
    | ok n w' =>
      obtain ⟨⟨u,rfl⟩,hov⟩:=hr n w' rfl
      simp only [Oper.upon] at h ⊢
      exact ⟨keep u w' hov,by rw [← Act.put_comm a v u h2];exact h⟩
    | halt x w' =>
      cases x<;>simp only [Oper.upon] at h ⊢
      case panic u=>exact hQ _ _ _ h
  · rename_i hw
    simp only [hw] at h
    exact ⟨keep _ w (.rfl' w),by rw [← Act.put_comm a v undef h2];exact h⟩
theorem wpAny_load (D:Nat→Bool) {i:Nat} {oi:Oper} {v:Value} (hi:ops[i]?=some oi) (hsel:∀ (j:Nat) (o:Oper) cs b,ops[j]?=some o→o.op≠.select cs b)
    (hQ:∀ c a w,Q (.panic c) (a.put oi.dst v) w→Q (.panic c) a w) (hDi:D i=true)
    (hD:∀ j oj,ops[j]?=some oj→D j=true→j≠i→∃ e∈oj.after,Region.binds md e=true∧D e.on=true) :
    ∀ (fuel:Nat) (listed:Array Bool) (a:Act) (w:World),
      (∀ j oj,ops[j]?=some oj→D j=false→listed.getD j true=false→oi.apart ops oj=true∧Tame oj) →
      (∀ j,D j=true→listed.getD j false=false) →
      i∈Region.ready md ops listed→YieldsO P ops oi v a w →
      wpAny P md ops Q fuel (listed.setIfInBounds i true) (a.put oi.dst v) w→wpAny P md ops Q (fuel+1) listed a w:=by
  intro fuel
  induction fuel with
  | zero =>
    intro listed a w _ _ hr hy H
    refine ⟨fun h=>(by rw [h] at hr;cases hr),fun j hj=>?_⟩
    by_cases hji:j=i
    · subst hji;exact hy.wpOp hi H
    · have:=ready_mono hj hji
      rw [H.1] at this
      cases this
  | succ fuel ih =>
    intro listed a w hfree hdl hr hy H
    refine ⟨fun h=>(by rw [h] at hr;cases hr),fun j hj=>?_⟩
    by_cases hji:j=i
    · subst hji;exact hy.wpOp hi H
    · have h1:=H.2 j (ready_mono hj hji)
      obtain ⟨hjun,oj,hoj,hall⟩:=mem_ready.1 hj
      have hDj:D j=false:=by
        cases hd:D j with
        | false=>rfl
        | true =>
          obtain ⟨e,he,hb,hde⟩:=hD j oj hoj hd hji
          have:=hall e he hb
          rw [hdl _ hde] at this;cases this
      obtain ⟨hap,ht⟩:=hfree j oj hoj hDj hjun
      have h2:=wpOp_putT hoj hap ht (fun cs b=>hsel i oi cs b hi) (fun cs b=>hsel j oj cs b hoj) hQ hy h1
      have hfree':∀ k ok,ops[k]?=some ok→D k=false→(listed.setIfInBounds j true).getD k true=false→oi.apart ops ok=true∧Tame ok:=fun k ok hk hdk hun=>by
        refine hfree k ok hk hdk ?_
        by_cases hjk:j=k
        · subst hjk;exact hjun
        · rw [getD_set_ne true hjk] at hun;exact hun
      have hdl':∀ k,D k=true→(listed.setIfInBounds j true).getD k false=false:=fun k hk=>by
        by_cases hjk:j=k
        · subst hjk;rw [hk] at hDj;cases hDj
        · rw [getD_set_ne false hjk];exact hdl k hk
      refine wpOp_mono (fun a' w' h3=>ih (listed.setIfInBounds j true) a' w' hfree' hdl' (ready_mono hr (Ne.symm hji)) h3.1 ?_) h2
      rw [Array.setIfInBounds_comm _ _ hji]
      exact h3.2
end
theorem agr_over {aw:List Ob} {σ:List Value} {w w':World} {F:Nat→Prop} (hs:Sim aw σ w F) (h:Over w w'):Agr aw σ w F w':=by
  rintro b (hb | ⟨k,cs,v,h1,h2,h3⟩)
  · exact h b (hs.lt b hb)
  · exact h b (hs.lt_own ⟨k,_,v,h1,rfl,h2,h3⟩)
section
variable {P:Program} {fr:List AV} {aw:List Ob}
theorem oper_over {st:St} {σ:List Value} {w:World} {F:Nat→Prop} {a:Act} {o:Oper} {K:AV→Prop} (hc:Cur st fr aw σ w F a) (h:vcQ P fr aw o.op K):∃ v r,(∀ w',Over w w'→(execOp a.eval o).run P w'=.ok (.value v) w')∧Rel σ w F r v∧K r:=by
  obtain ⟨v,r,h1,h2,h3⟩:=vcQ_ok hc.fr hc.sim o h
  exact ⟨v,r,fun w' hw=>h1 w' (agr_over hc.sim hw),h2,h3⟩
def tameOp:Op→Bool
  | .load .. | .alloc .. | .box .. | .move .. | .indexAddr .. | .build .. | .buildSlice ..=>true
  | _=>false
theorem tame_of {o:Oper} (h:tameOp o.op=true):Tame o:=by
  cases e:o.op<;>rw [e] at h<;>first | (cases h;done) | exact tame_load e | exact tame_alloc e | exact tame_box e | exact tame_move e | exact tame_index e | exact tame_build e | exact tame_buildSlice e
def loadFree (ops:Array Oper) (li:Array Bool) (D:List Nat) (i:Nat):Bool :=
  match ops[i]? with
  | none=>false
  | some oi =>
    D.contains i && D.all (fun j=>li.getD j false==false && (j==i || match ops[j]? with
      | some oj=>oj.after.any fun e=>Region.binds .any e && D.contains e.on
      | none=>true)) &&
    (List.range ops.size).all fun j=>D.contains j || li.getD j true || match ops[j]? with
      | some oj=>oi.apart ops oj && tameOp oj.op
      | none=>true
theorem wpAny_takeLoad {ops:Array Oper} {Q:Exit→Act→World→Prop} (D:List Nat) {i:Nat} {oi:Oper} {v:Value} {fuel:Nat} {li:Array Bool} {a:Act} {w:World} (hi:ops[i]?=some oi)
    (hs:Region.noSelect ops=true) (hf:loadFree ops li D i=true) (hr:(Region.ready .any ops li).contains i=true)
    (hQ:∀ c a w,Q (.panic c) (a.put oi.dst v) w→Q (.panic c) a w) (hy:YieldsO P ops oi v a w)
    (h:wpAny P .any ops Q fuel (li.setIfInBounds i true) (a.put oi.dst v) w):wpAny P .any ops Q (fuel+1) li a w:=by
  simp only [loadFree,hi,Bool.and_eq_true,List.all_eq_true] at hf
  obtain ⟨⟨h1,h2⟩,h3⟩:=hf
  refine wpAny_load (fun j=>D.contains j) hi (Region.noSelect_spec hs) hQ h1 ?_ fuel li a w ?_ ?_ (by simpa using hr) hy h
  · intro j oj hj hd hji
    have:=(h2 j (by simpa using hd)).2
    simp only [hj,Bool.or_eq_true,beq_iff_eq] at this
    rcases this with this | this
    · exact absurd this hji
    · obtain ⟨k,hk,he⟩:=Array.any_eq_true.1 this
      simp only [Bool.and_eq_true] at he
      exact ⟨_,Array.getElem_mem hk,he.1,he.2⟩
  · intro j oj hj hd hl
    have:=h3 j (by simpa using (Array.getElem?_eq_some_iff.1 hj).1)
    simp only [hd,hl,hj,Bool.false_or,Bool.and_eq_true] at this
    exact ⟨this.1,tame_of this.2⟩
  · intro j hd
    have:=(h2 j (by simpa using hd)).1
    simpa using this
end
end RK
section
variable {P:Program} {N n:Nat} {aw:List Ob} {l:List (Nat × AV)}
end
class ExI (Q:Exit→List AV→List Ob→Prop) (e:Exit) (R:outParam (List AV→List Ob→Prop)):Prop where
  out:∀ fr aw,R fr aw→Q e fr aw
section
variable {P:Program}
instance {fn:Func} {M:Nat} {Q:AV→List Ob→Prop}:ExI (retQ P fn M Q) .normal (fun fr aw=>vcRes P fr aw fn.results.toList (Ret M Q aw)):=⟨fun _ _ h=>h⟩
instance {id:Nat} {K:List AV→List Ob→Prop} {Q:Exit→List AV→List Ob→Prop} {R:List AV→List Ob→Prop} [h:ExI Q (.exit id) R]:ExI (thenA K Q) (.exit id) R:=⟨h.out⟩
instance {id:Nat} {Q:Exit→List AV→List Ob→Prop} {R:List AV→List Ob→Prop} [h:ExI Q .normal R]:ExI (inBlockA id Q) (.exit id) R:=⟨fun fr aw hr=>by
  show (if id=id then Q .normal fr aw else Q (.exit id) fr aw)
  rw [if_pos rfl];exact h.out fr aw hr⟩
instance {α β:Type} {id M:Nat} {v:α ⊕ β} {F:α→List AV} {A:α→List Ob} {Q:Exit→List AV→List Ob→Prop} {R:List AV→List Ob→Prop} [h:ExI Q (.exit id) R]:ExI (LQ M v F A Q) (.exit id) R:=⟨h.out⟩
theorem exN {Q:Exit→List AV→List Ob→Prop} {e:Exit} {R:List AV→List Ob→Prop} {fr:List AV} {aw:List Ob} [hq:ExI Q e R] (h:R fr aw):Q e fr aw:=hq.out fr aw h
end
end Go.Proofs.YtchmpaaofmihcaaGreat
namespace Go.Proofs.YtchmpaaofmihcaaGreat
open Go.RowKit
set_option maxRecDepth 100000
theorem Ty.c1:Tryz.prog.cellsOf 1=1:=by kernel_rfl
theorem Ty.b1:Tryz.prog.bytesOf 1=8:=by kernel_rfl
theorem Ty.k1:kindT Tryz.prog 1=some false:=by kernel_rfl
theorem Ty.z1:Q7a Tryz.prog 1=some [.nilf]:=by kernel_rfl
theorem Ty.c2:Tryz.prog.cellsOf 2=1:=by kernel_rfl
theorem Ty.b2:Tryz.prog.bytesOf 2=8:=by kernel_rfl
theorem Ty.k2:kindT Tryz.prog 2=some false:=by kernel_rfl
theorem Ty.z2:Q7a Tryz.prog 2=some [.int .i64 0]:=by kernel_rfl
theorem Ty.c3:Tryz.prog.cellsOf 3=1:=by kernel_rfl
theorem Ty.b3:Tryz.prog.bytesOf 3=8:=by kernel_rfl
theorem Ty.k3:kindT Tryz.prog 3=some false:=by kernel_rfl
theorem Ty.z3:Q7a Tryz.prog 3=some [.int .i64 0]:=by kernel_rfl
theorem Ty.c4:Tryz.prog.cellsOf 4=1:=by kernel_rfl
theorem Ty.b4:Tryz.prog.bytesOf 4=1:=by kernel_rfl
theorem Ty.k4:kindT Tryz.prog 4=some false:=by kernel_rfl
theorem Ty.z4:Q7a Tryz.prog 4=some [.bool false]:=by kernel_rfl
theorem Ty.c5:Tryz.prog.cellsOf 5=1:=by kernel_rfl
theorem Ty.b5:Tryz.prog.bytesOf 5=1:=by kernel_rfl
theorem Ty.k5:kindT Tryz.prog 5=some false:=by kernel_rfl
theorem Ty.z5:Q7a Tryz.prog 5=some [.int .u8 0]:=by kernel_rfl
theorem Ty.c6:Tryz.prog.cellsOf 6=1:=by kernel_rfl
theorem Ty.c7:Tryz.prog.cellsOf 7=4:=by kernel_rfl
theorem Ty.k7:kindT Tryz.prog 7=some true:=by kernel_rfl
theorem Ty.z7:Q7a Tryz.prog 7=some [.int .i64 0,.int .i64 0,.bool false,.int .u8 0]:=by kernel_rfl
theorem Ty.p7:Zpa Tryz.prog 7=some [(0,1),(1,1),(2,1),(3,1)]:=by kernel_rfl
theorem Ty.c8:Tryz.prog.cellsOf 8=4:=by kernel_rfl
theorem Ty.k8:kindT Tryz.prog 8=some true:=by kernel_rfl
theorem Ty.z8:Q7a Tryz.prog 8=some [.int .i64 0,.int .i64 0,.bool false,.int .u8 0]:=by kernel_rfl
theorem Ty.p8:Zpa Tryz.prog 8=some [(0,1),(1,1),(2,1),(3,1)]:=by kernel_rfl
theorem Ty.c9:Tryz.prog.cellsOf 9=1:=by kernel_rfl
theorem Ty.b9:Tryz.prog.bytesOf 9=16:=by kernel_rfl
theorem Ty.k9:kindT Tryz.prog 9=some false:=by kernel_rfl
theorem Ty.z9:Q7a Tryz.prog 9=some [.str []]:=by kernel_rfl
theorem Ty.c10:Tryz.prog.cellsOf 10=1:=by kernel_rfl
theorem Ty.k10:kindT Tryz.prog 10=some false:=by kernel_rfl
theorem Ty.z10:Q7a Tryz.prog 10=some [.str []]:=by kernel_rfl
theorem Ty.c11:Tryz.prog.cellsOf 11=1:=by kernel_rfl
theorem Ty.z11:Q7a Tryz.prog 11=some [.str []]:=by kernel_rfl
theorem Ty.c12:Tryz.prog.cellsOf 12=1:=by kernel_rfl
theorem Ty.k12:kindT Tryz.prog 12=some false:=by kernel_rfl
theorem Ty.z12:Q7a Tryz.prog 12=some [.int .u64 0]:=by kernel_rfl
theorem Ty.c13:Tryz.prog.cellsOf 13=2:=by kernel_rfl
theorem Ty.c14:Tryz.prog.cellsOf 14=2:=by kernel_rfl
theorem Ty.k14:kindT Tryz.prog 14=some true:=by kernel_rfl
theorem Ty.z14:Q7a Tryz.prog 14=some [.str [],.int .u64 0]:=by kernel_rfl
theorem Ty.p14:Zpa Tryz.prog 14=some [(0,1),(1,1)]:=by kernel_rfl
theorem Ty.z15:Q7a Tryz.prog 15=some [.nilp]:=by kernel_rfl
theorem Ty.c16:Tryz.prog.cellsOf 16=1:=by kernel_rfl
theorem Ty.k16:kindT Tryz.prog 16=some false:=by kernel_rfl
theorem Ty.z16:Q7a Tryz.prog 16=some [.nilp]:=by kernel_rfl
theorem Ty.c17:Tryz.prog.cellsOf 17=1:=by kernel_rfl
theorem Ty.z17:Q7a Tryz.prog 17=some [.nilp]:=by kernel_rfl
theorem Ty.c18:Tryz.prog.cellsOf 18=1:=by kernel_rfl
theorem Ty.k18:kindT Tryz.prog 18=some true:=by kernel_rfl
theorem Ty.z18:Q7a Tryz.prog 18=some [.nilp]:=by kernel_rfl
theorem Ty.p18:Zpa Tryz.prog 18=some [(0,1)]:=by kernel_rfl
theorem Ty.c19:Tryz.prog.cellsOf 19=1:=by kernel_rfl
theorem Ty.k19:kindT Tryz.prog 19=some true:=by kernel_rfl
theorem Ty.z19:Q7a Tryz.prog 19=some [.nilp]:=by kernel_rfl
theorem Ty.p19:Zpa Tryz.prog 19=some [(0,1)]:=by kernel_rfl
theorem Ty.c21:Tryz.prog.cellsOf 21=1:=by kernel_rfl
theorem Ty.c22:Tryz.prog.cellsOf 22=1:=by kernel_rfl
theorem Ty.k22:kindT Tryz.prog 22=some false:=by kernel_rfl
theorem Ty.z22:Q7a Tryz.prog 22=some [.nils]:=by kernel_rfl
theorem Ty.c23:Tryz.prog.cellsOf 23=1:=by kernel_rfl
theorem Ty.k23:kindT Tryz.prog 23=some false:=by kernel_rfl
theorem Ty.z23:Q7a Tryz.prog 23=some [.nils]:=by kernel_rfl
theorem Ty.c24:Tryz.prog.cellsOf 24=2:=by kernel_rfl
theorem Ty.k24:kindT Tryz.prog 24=some true:=by kernel_rfl
theorem Ty.z24:Q7a Tryz.prog 24=some [.nils,.nils]:=by kernel_rfl
theorem Ty.p24:Zpa Tryz.prog 24=some [(0,1),(1,1)]:=by kernel_rfl
theorem Ty.c25:Tryz.prog.cellsOf 25=2:=by kernel_rfl
theorem Ty.k25:kindT Tryz.prog 25=some true:=by kernel_rfl
theorem Ty.z25:Q7a Tryz.prog 25=some [.nils,.nils]:=by kernel_rfl
theorem Ty.p25:Zpa Tryz.prog 25=some [(0,1),(1,1)]:=by kernel_rfl
theorem Ty.c26:Tryz.prog.cellsOf 26=1:=by kernel_rfl
theorem Ty.k26:kindT Tryz.prog 26=some false:=by kernel_rfl
theorem Ty.z26:Q7a Tryz.prog 26=some [.int .i64 0]:=by kernel_rfl
theorem Ty.c28:Tryz.prog.cellsOf 28=1:=by kernel_rfl
theorem Ty.k28:kindT Tryz.prog 28=some false:=by kernel_rfl
theorem Ty.z28:Q7a Tryz.prog 28=some [.nilf]:=by kernel_rfl
theorem Ty.c30:Tryz.prog.cellsOf 30=1:=by kernel_rfl
theorem Ty.c32:Tryz.prog.cellsOf 32=1:=by kernel_rfl
theorem Ty.c34:Tryz.prog.cellsOf 34=2:=by kernel_rfl
theorem Ty.b34:Tryz.prog.bytesOf 34=24:=by kernel_rfl
theorem Ty.k34:kindT Tryz.prog 34=some true:=by kernel_rfl
theorem Ty.z34:Q7a Tryz.prog 34=some [.int .i64 0,.str []]:=by kernel_rfl
theorem Ty.p34:Zpa Tryz.prog 34=some [(0,1),(1,1)]:=by kernel_rfl
theorem Ty.c35:Tryz.prog.cellsOf 35=1:=by kernel_rfl
theorem Ty.k35:kindT Tryz.prog 35=some false:=by kernel_rfl
theorem Ty.z35:Q7a Tryz.prog 35=some [.nils]:=by kernel_rfl
theorem Ty.c38:Tryz.prog.cellsOf 38=1:=by kernel_rfl
theorem Ty.k38:kindT Tryz.prog 38=some false:=by kernel_rfl
theorem Ty.z38:Q7a Tryz.prog 38=some [.nilf]:=by kernel_rfl
theorem Ty.c44:Tryz.prog.cellsOf 44=1:=by kernel_rfl
theorem Ty.k44:kindT Tryz.prog 44=some false:=by kernel_rfl
theorem Ty.z44:Q7a Tryz.prog 44=some [.nilf]:=by kernel_rfl
theorem Ty.c45:Tryz.prog.cellsOf 45=1:=by kernel_rfl
theorem Ty.k45:kindT Tryz.prog 45=some false:=by kernel_rfl
theorem Ty.z45:Q7a Tryz.prog 45=some [.nils]:=by kernel_rfl
theorem Ty.c47:Tryz.prog.cellsOf 47=3:=by kernel_rfl
theorem Ty.k47:kindT Tryz.prog 47=some true:=by kernel_rfl
theorem Ty.z47:Q7a Tryz.prog 47=some [.nils,.int .i64 0,.int .i64 0]:=by kernel_rfl
theorem Ty.p47:Zpa Tryz.prog 47=some [(0,1),(1,1),(2,1)]:=by kernel_rfl
theorem Ty.c48:Tryz.prog.cellsOf 48=1:=by kernel_rfl
theorem Ty.k48:kindT Tryz.prog 48=some false:=by kernel_rfl
theorem Ty.z48:Q7a Tryz.prog 48=some [.nils]:=by kernel_rfl
theorem Ty.c49:Tryz.prog.cellsOf 49=1:=by kernel_rfl
theorem Ty.k49:kindT Tryz.prog 49=some false:=by kernel_rfl
theorem Ty.z49:Q7a Tryz.prog 49=some [.nils]:=by kernel_rfl
theorem Ty.c50:Tryz.prog.cellsOf 50=1:=by kernel_rfl
theorem Ty.k50:kindT Tryz.prog 50=some false:=by kernel_rfl
theorem Ty.z50:Q7a Tryz.prog 50=some [.nils]:=by kernel_rfl
theorem Ty.c51:Tryz.prog.cellsOf 51=1:=by kernel_rfl
theorem Ty.k51:kindT Tryz.prog 51=some false:=by kernel_rfl
theorem Ty.z51:Q7a Tryz.prog 51=some [.nils]:=by kernel_rfl
theorem Ty.c52:Tryz.prog.cellsOf 52=1:=by kernel_rfl
theorem Ty.b52:Tryz.prog.bytesOf 52=24:=by kernel_rfl
theorem Ty.k52:kindT Tryz.prog 52=some false:=by kernel_rfl
theorem Ty.z52:Q7a Tryz.prog 52=some [.nils]:=by kernel_rfl
theorem Ty.c54:Tryz.prog.cellsOf 54=5:=by kernel_rfl
theorem Ty.k54:kindT Tryz.prog 54=some true:=by kernel_rfl
theorem Ty.z54:Q7a Tryz.prog 54=some [.nils,.nils,.nils,.nils,.nils]:=by kernel_rfl
theorem Ty.p54:Zpa Tryz.prog 54=some [(0,1),(1,1),(2,1),(3,1),(4,1)]:=by kernel_rfl
theorem Ty.c64:Tryz.prog.cellsOf 64=1:=by kernel_rfl
theorem Ty.k64:kindT Tryz.prog 64=some false:=by kernel_rfl
theorem Ty.z64:Q7a Tryz.prog 64=some [.nilf]:=by kernel_rfl
theorem Ty.c67:Tryz.prog.cellsOf 67=1:=by kernel_rfl
theorem Ty.k67:kindT Tryz.prog 67=some false:=by kernel_rfl
theorem Ty.z67:Q7a Tryz.prog 67=some [.nilf]:=by kernel_rfl
theorem Ty.c68:Tryz.prog.cellsOf 68=1:=by kernel_rfl
theorem Ty.k68:kindT Tryz.prog 68=some false:=by kernel_rfl
theorem Ty.z68:Q7a Tryz.prog 68=some [.nilf]:=by kernel_rfl
theorem Ty.c69:Tryz.prog.cellsOf 69=1:=by kernel_rfl
theorem Ty.k69:kindT Tryz.prog 69=some false:=by kernel_rfl
theorem Ty.z69:Q7a Tryz.prog 69=some [.nilf]:=by kernel_rfl
theorem Ty.c74:Tryz.prog.cellsOf 74=1:=by kernel_rfl
theorem Ty.k74:kindT Tryz.prog 74=some false:=by kernel_rfl
theorem Ty.z74:Q7a Tryz.prog 74=some [.nilf]:=by kernel_rfl
theorem Ty.c79:Tryz.prog.cellsOf 79=1:=by kernel_rfl
theorem Ty.k79:kindT Tryz.prog 79=some false:=by kernel_rfl
theorem Ty.z79:Q7a Tryz.prog 79=some [.nilf]:=by kernel_rfl
theorem Ty.c81:Tryz.prog.cellsOf 81=1:=by kernel_rfl
theorem Ty.c83:Tryz.prog.cellsOf 83=2:=by kernel_rfl
theorem Ty.k83:kindT Tryz.prog 83=some true:=by kernel_rfl
theorem Ty.z83:Q7a Tryz.prog 83=some [.nilp,.nils]:=by kernel_rfl
theorem Ty.p83:Zpa Tryz.prog 83=some [(0,1),(1,1)]:=by kernel_rfl
theorem Ty.c85:Tryz.prog.cellsOf 85=2:=by kernel_rfl
theorem Ty.k85:kindT Tryz.prog 85=some true:=by kernel_rfl
theorem Ty.z85:Q7a Tryz.prog 85=some [.nilp,.nils]:=by kernel_rfl
theorem Ty.p85:Zpa Tryz.prog 85=some [(0,2)]:=by kernel_rfl
theorem Ty.c88:Tryz.prog.cellsOf 88=1:=by kernel_rfl
theorem Ty.k88:kindT Tryz.prog 88=some false:=by kernel_rfl
theorem Ty.z88:Q7a Tryz.prog 88=some [.nils]:=by kernel_rfl
theorem Ty.c90:Tryz.prog.cellsOf 90=3:=by kernel_rfl
theorem Ty.b90:Tryz.prog.bytesOf 90=40:=by kernel_rfl
theorem Ty.k90:kindT Tryz.prog 90=some true:=by kernel_rfl
theorem Ty.z90:Q7a Tryz.prog 90=some [.int .i64 0,.nils,.int .i64 0]:=by kernel_rfl
theorem Ty.p90:Zpa Tryz.prog 90=some [(0,1),(1,1),(2,1)]:=by kernel_rfl
theorem Ty.c92:Tryz.prog.cellsOf 92=2:=by kernel_rfl
theorem Ty.b92:Tryz.prog.bytesOf 92=16:=by kernel_rfl
theorem Ty.k92:kindT Tryz.prog 92=some true:=by kernel_rfl
theorem Ty.z92:Q7a Tryz.prog 92=some [.int .i64 0,.int .i64 0]:=by kernel_rfl
theorem Ty.p92:Zpa Tryz.prog 92=some [(0,1),(1,1)]:=by kernel_rfl
theorem Ty.c94:Tryz.prog.cellsOf 94=2:=by kernel_rfl
theorem Ty.b94:Tryz.prog.bytesOf 94=16:=by kernel_rfl
theorem Ty.k94:kindT Tryz.prog 94=some true:=by kernel_rfl
theorem Ty.z94:Q7a Tryz.prog 94=some [.int .i64 0,.int .i64 0]:=by kernel_rfl
theorem Ty.p94:Zpa Tryz.prog 94=some [(0,1),(1,1)]:=by kernel_rfl
theorem Ty.c99:Tryz.prog.cellsOf 99=1:=by kernel_rfl
theorem Ty.k99:kindT Tryz.prog 99=some false:=by kernel_rfl
theorem Ty.z99:Q7a Tryz.prog 99=some [.nilp]:=by kernel_rfl
theorem Ty.c100:Tryz.prog.cellsOf 100=1:=by kernel_rfl
theorem Ty.k100:kindT Tryz.prog 100=some true:=by kernel_rfl
theorem Ty.z100:Q7a Tryz.prog 100=some [.str []]:=by kernel_rfl
theorem Ty.p100:Zpa Tryz.prog 100=some [(0,1)]:=by kernel_rfl
theorem Ty.c101:Tryz.prog.cellsOf 101=1:=by kernel_rfl
theorem Ty.k101:kindT Tryz.prog 101=some true:=by kernel_rfl
theorem Ty.z101:Q7a Tryz.prog 101=some [.str []]:=by kernel_rfl
theorem Ty.p101:Zpa Tryz.prog 101=some [(0,1)]:=by kernel_rfl
theorem Ty.c102:Tryz.prog.cellsOf 102=1:=by kernel_rfl
theorem Ty.k102:kindT Tryz.prog 102=some false:=by kernel_rfl
theorem Ty.z102:Q7a Tryz.prog 102=some [.nilf]:=by kernel_rfl
theorem Ty.c115:Tryz.prog.cellsOf 115=3:=by kernel_rfl
theorem Ty.b115:Tryz.prog.bytesOf 115=24:=by kernel_rfl
theorem Ty.k115:kindT Tryz.prog 115=some true:=by kernel_rfl
theorem Ty.z115:Q7a Tryz.prog 115=some [.int .i64 0,.int .i64 0,.int .i64 0]:=by kernel_rfl
theorem Ty.p115:Zpa Tryz.prog 115=some [(0,1),(1,1),(2,1)]:=by kernel_rfl
theorem Ty.c118:Tryz.prog.cellsOf 118=4:=by kernel_rfl
theorem Ty.b118:Tryz.prog.bytesOf 118=64:=by kernel_rfl
theorem Ty.k118:kindT Tryz.prog 118=some true:=by kernel_rfl
theorem Ty.z118:Q7a Tryz.prog 118=some [.int .i64 0,.int .i64 0,.nils,.nils]:=by kernel_rfl
theorem Ty.p118:Zpa Tryz.prog 118=some [(0,1),(1,1),(2,1),(3,1)]:=by kernel_rfl
theorem Ty.c128:Tryz.prog.cellsOf 128=1:=by kernel_rfl
theorem Ty.k128:kindT Tryz.prog 128=some false:=by kernel_rfl
theorem Ty.z128:Q7a Tryz.prog 128=some [.int .u64 0]:=by kernel_rfl
theorem Ty.c135:Tryz.prog.cellsOf 135=2:=by kernel_rfl
theorem Ty.b135:Tryz.prog.bytesOf 135=16:=by kernel_rfl
theorem Ty.k135:kindT Tryz.prog 135=some true:=by kernel_rfl
theorem Ty.z135:Q7a Tryz.prog 135=some [.int .i64 0,.int .i64 0]:=by kernel_rfl
theorem Ty.p135:Zpa Tryz.prog 135=some [(0,1),(1,1)]:=by kernel_rfl
theorem Ty.c140:Tryz.prog.cellsOf 140=1:=by kernel_rfl
theorem Ty.k140:kindT Tryz.prog 140=some false:=by kernel_rfl
theorem Ty.z140:Q7a Tryz.prog 140=some [.int .u64 0]:=by kernel_rfl
theorem Ty.c146:Tryz.prog.cellsOf 146=1:=by kernel_rfl
theorem Ty.k146:kindT Tryz.prog 146=some false:=by kernel_rfl
theorem Ty.z146:Q7a Tryz.prog 146=some [.nils]:=by kernel_rfl
theorem Ty.c182:Tryz.prog.cellsOf 182=1:=by kernel_rfl
theorem Ty.k182:kindT Tryz.prog 182=some false:=by kernel_rfl
theorem Ty.z182:Q7a Tryz.prog 182=some [.nils]:=by kernel_rfl
theorem Ty.c186:Tryz.prog.cellsOf 186=2:=by kernel_rfl
theorem Ty.b186:Tryz.prog.bytesOf 186=16:=by kernel_rfl
theorem Ty.k186:kindT Tryz.prog 186=some true:=by kernel_rfl
theorem Ty.z186:Q7a Tryz.prog 186=some [.int .i64 0,.int .i64 0]:=by kernel_rfl
theorem Ty.p186:Zpa Tryz.prog 186=some [(0,1),(1,1)]:=by kernel_rfl
theorem Ty.c189:Tryz.prog.cellsOf 189=1:=by kernel_rfl
theorem Ty.k189:kindT Tryz.prog 189=some false:=by kernel_rfl
theorem Ty.z189:Q7a Tryz.prog 189=some [.nilf]:=by kernel_rfl
theorem Ty.c190:Tryz.prog.cellsOf 190=4:=by kernel_rfl
theorem Ty.k190:kindT Tryz.prog 190=some true:=by kernel_rfl
theorem Ty.z190:Q7a Tryz.prog 190=some [.nilf,.nilf,.nilf,.nilf]:=by kernel_rfl
theorem Ty.p190:Zpa Tryz.prog 190=some [(0,1),(1,1),(2,1),(3,1)]:=by kernel_rfl
theorem Ty.w3:(Tryz.prog.info? 3).bind (·.zero)=some (.int .i64 0):=by kernel_rfl
theorem Ty.i1:(Tryz.prog.underlying 1).isSome=true:=by rw [Tryz.underlying1];rfl
theorem Ty.i2:(Tryz.prog.underlying 2).isSome=true:=by rw [Tryz.underlying2];rfl
theorem Ty.i3:(Tryz.prog.underlying 3).isSome=true:=by rw [Tryz.underlying3];rfl
theorem Ty.i4:(Tryz.prog.underlying 4).isSome=true:=by rw [Tryz.underlying4];rfl
theorem Ty.i5:(Tryz.prog.underlying 5).isSome=true:=by rw [Tryz.underlying5];rfl
theorem Ty.i6:(Tryz.prog.underlying 6).isSome=true:=by rw [Tryz.underlying6];rfl
theorem Ty.i7:(Tryz.prog.underlying 7).isSome=true:=by rw [Tryz.underlying7];rfl
theorem Ty.i8:(Tryz.prog.underlying 8).isSome=true:=by rw [Tryz.underlying8];rfl
theorem Ty.i9:(Tryz.prog.underlying 9).isSome=true:=by rw [Tryz.underlying9];rfl
theorem Ty.i10:(Tryz.prog.underlying 10).isSome=true:=by rw [Tryz.underlying10];rfl
theorem Ty.i12:(Tryz.prog.underlying 12).isSome=true:=by rw [Tryz.underlying12];rfl
theorem Ty.i14:(Tryz.prog.underlying 14).isSome=true:=by rw [Tryz.underlying14];rfl
theorem Ty.i16:(Tryz.prog.underlying 16).isSome=true:=by rw [Tryz.underlying16];rfl
theorem Ty.i17:(Tryz.prog.underlying 17).isSome=true:=by rw [Tryz.underlying17];rfl
theorem Ty.i18:(Tryz.prog.underlying 18).isSome=true:=by rw [Tryz.underlying18];rfl
theorem Ty.i19:(Tryz.prog.underlying 19).isSome=true:=by rw [Tryz.underlying19];rfl
theorem Ty.i22:(Tryz.prog.underlying 22).isSome=true:=by rw [Tryz.underlying22];rfl
theorem Ty.i23:(Tryz.prog.underlying 23).isSome=true:=by rw [Tryz.underlying23];rfl
theorem Ty.i24:(Tryz.prog.underlying 24).isSome=true:=by rw [Tryz.underlying24];rfl
theorem Ty.i25:(Tryz.prog.underlying 25).isSome=true:=by rw [Tryz.underlying25];rfl
theorem Ty.i26:(Tryz.prog.underlying 26).isSome=true:=by rw [Tryz.underlying26];rfl
theorem Ty.i28:(Tryz.prog.underlying 28).isSome=true:=by rw [Tryz.underlying28];rfl
theorem Ty.i32:(Tryz.prog.underlying 32).isSome=true:=by rw [Tryz.underlying32];rfl
theorem Ty.i34:(Tryz.prog.underlying 34).isSome=true:=by rw [Tryz.underlying34];rfl
theorem Ty.i35:(Tryz.prog.underlying 35).isSome=true:=by rw [Tryz.underlying35];rfl
theorem Ty.i38:(Tryz.prog.underlying 38).isSome=true:=by rw [Tryz.underlying38];rfl
theorem Ty.i44:(Tryz.prog.underlying 44).isSome=true:=by rw [Tryz.underlying44];rfl
theorem Ty.i45:(Tryz.prog.underlying 45).isSome=true:=by rw [Tryz.underlying45];rfl
theorem Ty.i47:(Tryz.prog.underlying 47).isSome=true:=by rw [Tryz.underlying47];rfl
theorem Ty.i48:(Tryz.prog.underlying 48).isSome=true:=by rw [Tryz.underlying48];rfl
theorem Ty.i49:(Tryz.prog.underlying 49).isSome=true:=by rw [Tryz.underlying49];rfl
theorem Ty.i50:(Tryz.prog.underlying 50).isSome=true:=by rw [Tryz.underlying50];rfl
theorem Ty.i51:(Tryz.prog.underlying 51).isSome=true:=by rw [Tryz.underlying51];rfl
theorem Ty.i52:(Tryz.prog.underlying 52).isSome=true:=by rw [Tryz.underlying52];rfl
theorem Ty.i54:(Tryz.prog.underlying 54).isSome=true:=by rw [Tryz.underlying54];rfl
theorem Ty.i64:(Tryz.prog.underlying 64).isSome=true:=by rw [Tryz.underlying64];rfl
theorem Ty.i67:(Tryz.prog.underlying 67).isSome=true:=by rw [Tryz.underlying67];rfl
theorem Ty.i68:(Tryz.prog.underlying 68).isSome=true:=by rw [Tryz.underlying68];rfl
theorem Ty.i69:(Tryz.prog.underlying 69).isSome=true:=by rw [Tryz.underlying69];rfl
theorem Ty.i74:(Tryz.prog.underlying 74).isSome=true:=by rw [Tryz.underlying74];rfl
theorem Ty.i79:(Tryz.prog.underlying 79).isSome=true:=by rw [Tryz.underlying79];rfl
theorem Ty.i81:(Tryz.prog.underlying 81).isSome=true:=by rw [Tryz.underlying81];rfl
theorem Ty.i83:(Tryz.prog.underlying 83).isSome=true:=by rw [Tryz.underlying83];rfl
theorem Ty.i85:(Tryz.prog.underlying 85).isSome=true:=by rw [Tryz.underlying85];rfl
theorem Ty.i88:(Tryz.prog.underlying 88).isSome=true:=by rw [Tryz.underlying88];rfl
theorem Ty.i90:(Tryz.prog.underlying 90).isSome=true:=by rw [Tryz.underlying90];rfl
theorem Ty.i92:(Tryz.prog.underlying 92).isSome=true:=by rw [Tryz.underlying92];rfl
theorem Ty.i94:(Tryz.prog.underlying 94).isSome=true:=by rw [Tryz.underlying94];rfl
theorem Ty.i99:(Tryz.prog.underlying 99).isSome=true:=by rw [Tryz.underlying99];rfl
theorem Ty.i100:(Tryz.prog.underlying 100).isSome=true:=by rw [Tryz.underlying100];rfl
theorem Ty.i101:(Tryz.prog.underlying 101).isSome=true:=by rw [Tryz.underlying101];rfl
theorem Ty.i102:(Tryz.prog.underlying 102).isSome=true:=by rw [Tryz.underlying102];rfl
theorem Ty.i115:(Tryz.prog.underlying 115).isSome=true:=by rw [Tryz.underlying115];rfl
theorem Ty.i118:(Tryz.prog.underlying 118).isSome=true:=by rw [Tryz.underlying118];rfl
theorem Ty.i128:(Tryz.prog.underlying 128).isSome=true:=by rw [Tryz.underlying128];rfl
theorem Ty.i135:(Tryz.prog.underlying 135).isSome=true:=by rw [Tryz.underlying135];rfl
theorem Ty.i140:(Tryz.prog.underlying 140).isSome=true:=by rw [Tryz.underlying140];rfl
theorem Ty.i146:(Tryz.prog.underlying 146).isSome=true:=by rw [Tryz.underlying146];rfl
theorem Ty.i182:(Tryz.prog.underlying 182).isSome=true:=by rw [Tryz.underlying182];rfl
theorem Ty.i186:(Tryz.prog.underlying 186).isSome=true:=by rw [Tryz.underlying186];rfl
theorem Ty.i189:(Tryz.prog.underlying 189).isSome=true:=by rw [Tryz.underlying189];rfl
theorem Ty.i190:(Tryz.prog.underlying 190).isSome=true:=by rw [Tryz.underlying190];rfl
theorem Ty.f7_0:FieldAt Tryz.prog 7 0 2 0:=⟨⟨_,_,Tryz.underlying7,rfl,rfl,rfl,by rw [Ty.c2];decide,Ty.i2⟩⟩
theorem Ty.f7_1:FieldAt Tryz.prog 7 1 3 1:=⟨⟨_,_,Tryz.underlying7,rfl,rfl,rfl,by rw [Ty.c3];decide,Ty.i3⟩⟩
theorem Ty.f7_2:FieldAt Tryz.prog 7 2 4 2:=⟨⟨_,_,Tryz.underlying7,rfl,rfl,rfl,by rw [Ty.c4];decide,Ty.i4⟩⟩
theorem Ty.f7_3:FieldAt Tryz.prog 7 3 6 3:=⟨⟨_,_,Tryz.underlying7,rfl,rfl,rfl,by rw [Ty.c6];decide,Ty.i6⟩⟩
theorem Ty.f8_0:FieldAt Tryz.prog 8 0 2 0:=⟨⟨_,_,Tryz.underlying8,rfl,rfl,rfl,by rw [Ty.c2];decide,Ty.i2⟩⟩
theorem Ty.f8_1:FieldAt Tryz.prog 8 1 3 1:=⟨⟨_,_,Tryz.underlying8,rfl,rfl,rfl,by rw [Ty.c3];decide,Ty.i3⟩⟩
theorem Ty.f8_2:FieldAt Tryz.prog 8 2 4 2:=⟨⟨_,_,Tryz.underlying8,rfl,rfl,rfl,by rw [Ty.c4];decide,Ty.i4⟩⟩
theorem Ty.f8_3:FieldAt Tryz.prog 8 3 6 3:=⟨⟨_,_,Tryz.underlying8,rfl,rfl,rfl,by rw [Ty.c6];decide,Ty.i6⟩⟩
theorem Ty.f14_0:FieldAt Tryz.prog 14 0 9 0:=⟨⟨_,_,Tryz.underlying14,rfl,rfl,rfl,by rw [Ty.c9];decide,Ty.i9⟩⟩
theorem Ty.f14_1:FieldAt Tryz.prog 14 1 12 1:=⟨⟨_,_,Tryz.underlying14,rfl,rfl,rfl,by rw [Ty.c12];decide,Ty.i12⟩⟩
theorem Ty.f18_0:FieldAt Tryz.prog 18 0 17 0:=⟨⟨_,_,Tryz.underlying18,rfl,rfl,rfl,by rw [Ty.c17];decide,Ty.i17⟩⟩
theorem Ty.f19_0:FieldAt Tryz.prog 19 0 17 0:=⟨⟨_,_,Tryz.underlying19,rfl,rfl,rfl,by rw [Ty.c17];decide,Ty.i17⟩⟩
theorem Ty.s22:SliceOf Tryz.prog 22 9 1:=⟨Tryz.underlying22,Ty.c9,Ty.i9,by decide,by rw [Ty.b9];decide,_,Ty.z9,rfl⟩
theorem Ty.s23:SliceOf Tryz.prog 23 34 2:=⟨Tryz.underlying23,Ty.c34,Ty.i34,by decide,by rw [Ty.b34];decide,_,Ty.z34,rfl⟩
theorem Ty.f24_0:FieldAt Tryz.prog 24 0 22 0:=⟨⟨_,_,Tryz.underlying24,rfl,rfl,rfl,by rw [Ty.c22];decide,Ty.i22⟩⟩
theorem Ty.f24_1:FieldAt Tryz.prog 24 1 23 1:=⟨⟨_,_,Tryz.underlying24,rfl,rfl,rfl,by rw [Ty.c23];decide,Ty.i23⟩⟩
theorem Ty.f25_0:FieldAt Tryz.prog 25 0 22 0:=⟨⟨_,_,Tryz.underlying25,rfl,rfl,rfl,by rw [Ty.c22];decide,Ty.i22⟩⟩
theorem Ty.f25_1:FieldAt Tryz.prog 25 1 23 1:=⟨⟨_,_,Tryz.underlying25,rfl,rfl,rfl,by rw [Ty.c23];decide,Ty.i23⟩⟩
theorem Ty.f34_0:FieldAt Tryz.prog 34 0 3 0:=⟨⟨_,_,Tryz.underlying34,rfl,rfl,rfl,by rw [Ty.c3];decide,Ty.i3⟩⟩
theorem Ty.f34_1:FieldAt Tryz.prog 34 1 9 1:=⟨⟨_,_,Tryz.underlying34,rfl,rfl,rfl,by rw [Ty.c9];decide,Ty.i9⟩⟩
theorem Ty.q34:StructEq Tryz.prog 34 [1,2]:=structEq_of (by kernel_rfl) Tryz.underlying34 (by kernel_rfl) ⟨by decide,rfl,Tryz.underlying3,by decide,rfl,Tryz.underlying9,trivial⟩
theorem Ty.s35:SliceOf Tryz.prog 35 5 1:=⟨Tryz.underlying35,Ty.c5,Ty.i5,by decide,by rw [Ty.b5];decide,_,Ty.z5,rfl⟩
theorem Ty.s45:SliceOf Tryz.prog 45 118 4:=⟨Tryz.underlying45,Ty.c118,Ty.i118,by decide,by rw [Ty.b118];decide,_,Ty.z118,rfl⟩
theorem Ty.f47_0:FieldAt Tryz.prog 47 0 45 0:=⟨⟨_,_,Tryz.underlying47,rfl,rfl,rfl,by rw [Ty.c45];decide,Ty.i45⟩⟩
theorem Ty.f47_1:FieldAt Tryz.prog 47 1 3 1:=⟨⟨_,_,Tryz.underlying47,rfl,rfl,rfl,by rw [Ty.c3];decide,Ty.i3⟩⟩
theorem Ty.f47_2:FieldAt Tryz.prog 47 2 3 2:=⟨⟨_,_,Tryz.underlying47,rfl,rfl,rfl,by rw [Ty.c3];decide,Ty.i3⟩⟩
theorem Ty.s48:SliceOf Tryz.prog 48 52 1:=⟨Tryz.underlying48,Ty.c52,Ty.i52,by decide,by rw [Ty.b52];decide,_,Ty.z52,rfl⟩
theorem Ty.s49:SliceOf Tryz.prog 49 3 1:=⟨Tryz.underlying49,Ty.c3,Ty.i3,by decide,by rw [Ty.b3];decide,_,Ty.z3,rfl⟩
theorem Ty.s50:SliceOf Tryz.prog 50 90 3:=⟨Tryz.underlying50,Ty.c90,Ty.i90,by decide,by rw [Ty.b90];decide,_,Ty.z90,rfl⟩
theorem Ty.s51:SliceOf Tryz.prog 51 94 2:=⟨Tryz.underlying51,Ty.c94,Ty.i94,by decide,by rw [Ty.b94];decide,_,Ty.z94,rfl⟩
theorem Ty.s52:SliceOf Tryz.prog 52 115 3:=⟨Tryz.underlying52,Ty.c115,Ty.i115,by decide,by rw [Ty.b115];decide,_,Ty.z115,rfl⟩
theorem Ty.f54_0:FieldAt Tryz.prog 54 0 49 0:=⟨⟨_,_,Tryz.underlying54,rfl,rfl,rfl,by rw [Ty.c49];decide,Ty.i49⟩⟩
theorem Ty.f54_1:FieldAt Tryz.prog 54 1 48 1:=⟨⟨_,_,Tryz.underlying54,rfl,rfl,rfl,by rw [Ty.c48];decide,Ty.i48⟩⟩
theorem Ty.f54_2:FieldAt Tryz.prog 54 2 50 2:=⟨⟨_,_,Tryz.underlying54,rfl,rfl,rfl,by rw [Ty.c50];decide,Ty.i50⟩⟩
theorem Ty.f54_3:FieldAt Tryz.prog 54 3 51 3:=⟨⟨_,_,Tryz.underlying54,rfl,rfl,rfl,by rw [Ty.c51];decide,Ty.i51⟩⟩
theorem Ty.f54_4:FieldAt Tryz.prog 54 4 52 4:=⟨⟨_,_,Tryz.underlying54,rfl,rfl,rfl,by rw [Ty.c52];decide,Ty.i52⟩⟩
theorem Ty.f83_0:FieldAt Tryz.prog 83 0 81 0:=⟨⟨_,_,Tryz.underlying83,rfl,rfl,rfl,by rw [Ty.c81];decide,Ty.i81⟩⟩
theorem Ty.f83_1:FieldAt Tryz.prog 83 1 35 1:=⟨⟨_,_,Tryz.underlying83,rfl,rfl,rfl,by rw [Ty.c35];decide,Ty.i35⟩⟩
theorem Ty.f85_0:FieldAt Tryz.prog 85 0 83 0:=⟨⟨_,_,Tryz.underlying85,rfl,rfl,rfl,by rw [Ty.c83];decide,Ty.i83⟩⟩
theorem Ty.s88:SliceOf Tryz.prog 88 92 2:=⟨Tryz.underlying88,Ty.c92,Ty.i92,by decide,by rw [Ty.b92];decide,_,Ty.z92,rfl⟩
theorem Ty.f90_0:FieldAt Tryz.prog 90 0 3 0:=⟨⟨_,_,Tryz.underlying90,rfl,rfl,rfl,by rw [Ty.c3];decide,Ty.i3⟩⟩
theorem Ty.f90_1:FieldAt Tryz.prog 90 1 88 1:=⟨⟨_,_,Tryz.underlying90,rfl,rfl,rfl,by rw [Ty.c88];decide,Ty.i88⟩⟩
theorem Ty.f90_2:FieldAt Tryz.prog 90 2 3 2:=⟨⟨_,_,Tryz.underlying90,rfl,rfl,rfl,by rw [Ty.c3];decide,Ty.i3⟩⟩
theorem Ty.f92_0:FieldAt Tryz.prog 92 0 3 0:=⟨⟨_,_,Tryz.underlying92,rfl,rfl,rfl,by rw [Ty.c3];decide,Ty.i3⟩⟩
theorem Ty.f92_1:FieldAt Tryz.prog 92 1 3 1:=⟨⟨_,_,Tryz.underlying92,rfl,rfl,rfl,by rw [Ty.c3];decide,Ty.i3⟩⟩
theorem Ty.q92:StructEq Tryz.prog 92 [1,1]:=structEq_of (by kernel_rfl) Tryz.underlying92 (by kernel_rfl) ⟨by decide,rfl,Tryz.underlying3,by decide,rfl,Tryz.underlying3,trivial⟩
theorem Ty.f94_0:FieldAt Tryz.prog 94 0 3 0:=⟨⟨_,_,Tryz.underlying94,rfl,rfl,rfl,by rw [Ty.c3];decide,Ty.i3⟩⟩
theorem Ty.f94_1:FieldAt Tryz.prog 94 1 3 1:=⟨⟨_,_,Tryz.underlying94,rfl,rfl,rfl,by rw [Ty.c3];decide,Ty.i3⟩⟩
theorem Ty.q94:StructEq Tryz.prog 94 [1,1]:=structEq_of (by kernel_rfl) Tryz.underlying94 (by kernel_rfl) ⟨by decide,rfl,Tryz.underlying3,by decide,rfl,Tryz.underlying3,trivial⟩
theorem Ty.f100_0:FieldAt Tryz.prog 100 0 9 0:=⟨⟨_,_,Tryz.underlying100,rfl,rfl,rfl,by rw [Ty.c9];decide,Ty.i9⟩⟩
theorem Ty.f101_0:FieldAt Tryz.prog 101 0 9 0:=⟨⟨_,_,Tryz.underlying101,rfl,rfl,rfl,by rw [Ty.c9];decide,Ty.i9⟩⟩
theorem Ty.f115_0:FieldAt Tryz.prog 115 0 3 0:=⟨⟨_,_,Tryz.underlying115,rfl,rfl,rfl,by rw [Ty.c3];decide,Ty.i3⟩⟩
theorem Ty.f115_1:FieldAt Tryz.prog 115 1 3 1:=⟨⟨_,_,Tryz.underlying115,rfl,rfl,rfl,by rw [Ty.c3];decide,Ty.i3⟩⟩
theorem Ty.f115_2:FieldAt Tryz.prog 115 2 3 2:=⟨⟨_,_,Tryz.underlying115,rfl,rfl,rfl,by rw [Ty.c3];decide,Ty.i3⟩⟩
theorem Ty.q115:StructEq Tryz.prog 115 [1,1,1]:=structEq_of (by kernel_rfl) Tryz.underlying115 (by kernel_rfl) ⟨by decide,rfl,Tryz.underlying3,by decide,rfl,Tryz.underlying3,by decide,rfl,Tryz.underlying3,trivial⟩
theorem Ty.f118_0:FieldAt Tryz.prog 118 0 3 0:=⟨⟨_,_,Tryz.underlying118,rfl,rfl,rfl,by rw [Ty.c3];decide,Ty.i3⟩⟩
theorem Ty.f118_1:FieldAt Tryz.prog 118 1 3 1:=⟨⟨_,_,Tryz.underlying118,rfl,rfl,rfl,by rw [Ty.c3];decide,Ty.i3⟩⟩
theorem Ty.f118_2:FieldAt Tryz.prog 118 2 49 2:=⟨⟨_,_,Tryz.underlying118,rfl,rfl,rfl,by rw [Ty.c49];decide,Ty.i49⟩⟩
theorem Ty.f118_3:FieldAt Tryz.prog 118 3 49 3:=⟨⟨_,_,Tryz.underlying118,rfl,rfl,rfl,by rw [Ty.c49];decide,Ty.i49⟩⟩
theorem Ty.s131:SliceOf Tryz.prog 131 135 2:=⟨Tryz.underlying131,Ty.c135,Ty.i135,by decide,by rw [Ty.b135];decide,_,Ty.z135,rfl⟩
theorem Ty.f135_0:FieldAt Tryz.prog 135 0 3 0:=⟨⟨_,_,Tryz.underlying135,rfl,rfl,rfl,by rw [Ty.c3];decide,Ty.i3⟩⟩
theorem Ty.f135_1:FieldAt Tryz.prog 135 1 3 1:=⟨⟨_,_,Tryz.underlying135,rfl,rfl,rfl,by rw [Ty.c3];decide,Ty.i3⟩⟩
theorem Ty.s146:SliceOf Tryz.prog 146 4 1:=⟨Tryz.underlying146,Ty.c4,Ty.i4,by decide,by rw [Ty.b4];decide,_,Ty.z4,rfl⟩
theorem Ty.s182:SliceOf Tryz.prog 182 186 2:=⟨Tryz.underlying182,Ty.c186,Ty.i186,by decide,by rw [Ty.b186];decide,_,Ty.z186,rfl⟩
theorem Ty.f186_0:FieldAt Tryz.prog 186 0 3 0:=⟨⟨_,_,Tryz.underlying186,rfl,rfl,rfl,by rw [Ty.c3];decide,Ty.i3⟩⟩
theorem Ty.f186_1:FieldAt Tryz.prog 186 1 3 1:=⟨⟨_,_,Tryz.underlying186,rfl,rfl,rfl,by rw [Ty.c3];decide,Ty.i3⟩⟩
end Go.Proofs.YtchmpaaofmihcaaGreat
namespace Go.Proofs.YtchmpaaofmihcaaGreat
open Go.RowKit
set_option linter.unusedVariables false
set_option linter.unusedSimpArgs false
theorem mixed:Tryz.prog.follows .mixedOrders=true:=by kernel_rfl
def encI (n:Int):List AV:=[.int .i64 n]
def encS (s:List UInt8):List AV:=[.str s]
end Go.Proofs.YtchmpaaofmihcaaGreat
namespace Go.Proofs.YtchmpaaofmihcaaGreat
structure Item where
  (Key Val Dep:Int)
deriving DecidableEq
structure Node where
  (Kind A:Int)
  (In Out:List Int)
deriving DecidableEq
structure Net where
  Nodes:List Node
  (Rings Room:Int)
deriving DecidableEq
structure Keyed where
  (Key N:Int)
deriving DecidableEq
structure Memory where
  Sum:Int
  Keys:List Keyed
  Dep:Int
deriving DecidableEq
structure Choice where
  (Node Lane:Int)
deriving DecidableEq
structure State where
  At:List Int
  Rings:List (List Item)
  Memory:List Memory
  Choices:List Choice
  Out:List Item
deriving DecidableEq
structure Move where
  (Node Lane:Int)
deriving DecidableEq
structure Write where
  At:Int
  Bytes:List UInt8
deriving DecidableEq
structure Disk where
  Sectors:List (List UInt8)
  Wait:List Write
deriving DecidableEq
structure Shop where
  N:Net
  Items:List (List Item)
  S:State
  D:Disk
  (Logged Safe Epoch Laid Next:Int)
  Told:List Item
  Down:Bool
deriving DecidableEq
structure Happening where
  (Kind N:Int)
deriving DecidableEq
structure Ends where
  (src dst:Int)
deriving DecidableEq
end Go.Proofs.YtchmpaaofmihcaaGreat
namespace Go.Proofs.YtchmpaaofmihcaaGreat
open Go.RowKit
set_option linter.unusedVariables false
set_option linter.unusedSimpArgs false
def enc8 (n:Int):List AV:=[.int .u8 n]
def encU (n:Int):List AV:=[.int .u64 n]
def encB (b:Bool):List AV:=[.bool b]
def encL {α:Type} (en:α→List AV) (l:List α):List AV:=[.sl (l.map en)]
def Qaa (a:Item):List AV:=[.int .i64 a.Key,.int .i64 a.Val,.int .i64 a.Dep]
def Jea (a:Node):List AV:=[.int .i64 a.Kind,.int .i64 a.A,.sl (a.In.map encI),.sl (a.Out.map encI)]
def Jda (a:Net):List AV:=[.sl (a.Nodes.map Jea),.int .i64 a.Rings,.int .i64 a.Room]
def Qla (a:Keyed):List AV:=[.int .i64 a.Key,.int .i64 a.N]
def Qba (a:Memory):List AV:=[.int .i64 a.Sum,.sl (a.Keys.map Qla),.int .i64 a.Dep]
def Qea (a:Choice):List AV:=[.int .i64 a.Node,.int .i64 a.Lane]
def Qta (a:State):List AV:=[.sl (a.At.map encI),.sl (a.Rings.map (encL Qaa)),.sl (a.Memory.map Qba),.sl (a.Choices.map Qea),.sl (a.Out.map Qaa)]
def Zia (a:Move):List AV:=[.int .i64 a.Node,.int .i64 a.Lane]
def Q6a (a:Write):List AV:=[.int .i64 a.At,.str a.Bytes]
def Q9a (a:Disk):List AV:=[.sl (a.Sectors.map encS),.sl (a.Wait.map Q6a)]
def encShop (a:Shop):List AV:=[.sl (a.N.Nodes.map Jea),.int .i64 a.N.Rings,.int .i64 a.N.Room,.sl (a.Items.map (encL Qaa)),.sl (a.S.At.map encI),.sl (a.S.Rings.map (encL Qaa)),.sl (a.S.Memory.map Qba),.sl (a.S.Choices.map Qea),.sl (a.S.Out.map Qaa),.sl (a.D.Sectors.map encS),.sl (a.D.Wait.map Q6a),.int .i64 a.Logged,.int .i64 a.Safe,.int .i64 a.Epoch,.int .i64 a.Laid,.int .i64 a.Next,.sl (a.Told.map Qaa),.bool a.Down]
def Qmb (a:Happening):List AV:=[.int .i64 a.Kind,.int .i64 a.N]
def Jaa (a:Ends):List AV:=[.int .i64 a.src,.int .i64 a.dst]
theorem encI_p:∀ a x,x∈encI a→Pure x:=fun a=>Zba (ls:=encI a) ⟨Qua _ _,trivial⟩
theorem Zda:∀ a x,x∈enc8 a→Pure x:=fun a=>Zba (ls:=enc8 a) ⟨Qua _ _,trivial⟩
theorem encU_p:∀ a x,x∈encU a→Pure x:=fun a=>Zba (ls:=encU a) ⟨Qua _ _,trivial⟩
theorem encB_p:∀ a x,x∈encB a→Pure x:=fun a=>Zba (ls:=encB a) ⟨Vza _,trivial⟩
theorem encS_p:∀ a x,x∈encS a→Pure x:=fun a=>Zba (ls:=encS a) ⟨Jha _,trivial⟩
theorem encL_p {α:Type} {en:α→List AV} (h:∀ a x,x∈en a→Pure x):∀ a x,x∈encL en a→Pure x:=fun a=>Zba (ls:=encL en a) ⟨Qwa h _,trivial⟩
theorem Jca:∀ a x,x∈Qaa a→Pure x:=fun a=>Zba (ls:=Qaa a) ⟨Qua _ _,Qua _ _,Qua _ _,trivial⟩
theorem encNode_p:∀ a x,x∈Jea a→Pure x:=fun a=>Zba (ls:=Jea a) ⟨Qua _ _,Qua _ _,Qwa encI_p _,Qwa encI_p _,trivial⟩
theorem encNet_p:∀ a x,x∈Jda a→Pure x:=fun a=>Zba (ls:=Jda a) ⟨Qwa encNode_p _,Qua _ _,Qua _ _,trivial⟩
theorem Yua:∀ a x,x∈Qla a→Pure x:=fun a=>Zba (ls:=Qla a) ⟨Qua _ _,Qua _ _,trivial⟩
theorem J9a:∀ a x,x∈Qba a→Pure x:=fun a=>Zba (ls:=Qba a) ⟨Qua _ _,Qwa Yua _,Qua _ _,trivial⟩
theorem J8a:∀ a x,x∈Qea a→Pure x:=fun a=>Zba (ls:=Qea a) ⟨Qua _ _,Qua _ _,trivial⟩
theorem encState_p:∀ a x,x∈Qta a→Pure x:=fun a=>Zba (ls:=Qta a) ⟨Qwa encI_p _,Qwa (encL_p Jca) _,Qwa J9a _,Qwa J8a _,Qwa Jca _,trivial⟩
theorem encMove_p:∀ a x,x∈Zia a→Pure x:=fun a=>Zba (ls:=Zia a) ⟨Qua _ _,Qua _ _,trivial⟩
theorem Jtb:∀ a x,x∈Q6a a→Pure x:=fun a=>Zba (ls:=Q6a a) ⟨Qua _ _,Jha _,trivial⟩
theorem encDisk_p:∀ a x,x∈Q9a a→Pure x:=fun a=>Zba (ls:=Q9a a) ⟨Qwa encS_p _,Qwa Jtb _,trivial⟩
theorem encShop_p:∀ a x,x∈encShop a→Pure x:=fun a=>Zba (ls:=encShop a) ⟨Qwa encNode_p _,Qua _ _,Qua _ _,Qwa (encL_p Jca) _,Qwa encI_p _,Qwa (encL_p Jca) _,Qwa J9a _,Qwa J8a _,Qwa Jca _,Qwa encS_p _,Qwa Jtb _,Qua _ _,Qua _ _,Qua _ _,Qua _ _,Qua _ _,Qwa Jca _,Vza _,trivial⟩
theorem encHappening_p:∀ a x,x∈Qmb a→Pure x:=fun a=>Zba (ls:=Qmb a) ⟨Qua _ _,Qua _ _,trivial⟩
theorem encEnds_p:∀ a x,x∈Jaa a→Pure x:=fun a=>Zba (ls:=Jaa a) ⟨Qua _ _,Qua _ _,trivial⟩
theorem encItem_eq (x y:Item):Qcb (Qaa x) (Qaa y)=some (x==y):=by
  cases x;cases y
  simp only [Qaa,Qcb,Option.map_some,Option.some.injEq]
  rw [Bool.eq_iff_iff]
  simp
theorem encKeyed_eq (x y:Keyed):Qcb (Qla x) (Qla y)=some (x==y):=by
  cases x;cases y
  simp only [Qla,Qcb,Option.map_some,Option.some.injEq]
  rw [Bool.eq_iff_iff]
  simp
theorem encChoice_eq (x y:Choice):Qcb (Qea x) (Qea y)=some (x==y):=by
  cases x;cases y
  simp only [Qea,Qcb,Option.map_some,Option.some.injEq]
  rw [Bool.eq_iff_iff]
  simp
theorem encWrite_eq (x y:Write):Qcb (Q6a x) (Q6a y)=some (x==y):=by
  cases x;cases y
  simp only [Q6a,Qcb,Option.map_some,Option.some.injEq]
  rw [Bool.eq_iff_iff]
  simp
instance:EnP encI:=⟨encI_p⟩
instance:EnP enc8:=⟨Zda⟩
instance:EnP encU:=⟨encU_p⟩
instance:EnP encB:=⟨encB_p⟩
instance:EnP encS:=⟨encS_p⟩
instance:EnP Qaa:=⟨Jca⟩
instance:EnP Jea:=⟨encNode_p⟩
instance:EnP Jda:=⟨encNet_p⟩
instance:EnP Qla:=⟨Yua⟩
instance:EnP Qba:=⟨J9a⟩
instance:EnP Qea:=⟨J8a⟩
instance:EnP Qta:=⟨encState_p⟩
instance:EnP Zia:=⟨encMove_p⟩
instance:EnP Q6a:=⟨Jtb⟩
instance:EnP Q9a:=⟨encDisk_p⟩
instance:EnP encShop:=⟨encShop_p⟩
instance:EnP Qmb:=⟨encHappening_p⟩
instance:EnP Jaa:=⟨encEnds_p⟩
instance {α:Type} {en:α→List AV} [h:EnP en]:EnP (encL en):=⟨encL_p h.out⟩
theorem Qca (b:Bool):b=true∨b=false:=by cases b<;>simp
end Go.Proofs.YtchmpaaofmihcaaGreat
namespace Go.Proofs.YtchmpaaofmihcaaGreat
section
variable {α:Type}
def own (xs:List (Bool × List α)) (m:Nat) (r:List α):List (Bool × List α):=xs.set m (false,r)
end
end Go.Proofs.YtchmpaaofmihcaaGreat
namespace Go.Proofs.YtchmpaaofmihcaaGreat
def bldS (xs:List Int):Option (List UInt8):=if xs≠[]∧∀ x,x∈xs→0≤x∧x<256 then some (toStr xs) else none
end Go.Proofs.YtchmpaaofmihcaaGreat
namespace Go.Proofs.YtchmpaaofmihcaaGreat
set_option linter.unusedVariables false
set_option maxRecDepth 100000
noncomputable def Vla (p0:Disk) (s5:Int):Option (Int ⊕ Int) :=
  (if (decide (s5<((p0.Wait).length:Int)))=true then (Option.bind (idx p0.Wait s5) fun x7=>(if ((decide (x7.At<0)) || decide (x7.At ≥ 200))=true then (Option.map Sum.inr (some 3)) else (if (decide (((x7.Bytes).length:Int) > 64))=true then (Option.map Sum.inr (some 2)) else (some (.inl (IntKind.i64.wrap (s5+1))))))) else (Option.map Sum.inr (some 0)))
noncomputable def Z8a (p0:Disk) (s2:Int):Option (Int ⊕ Int) :=
  (if (decide (s2<((p0.Sectors).length:Int)))=true then (Option.bind (idx p0.Sectors s2) fun x4=>(if (decide (((x4).length:Int) > 64))=true then (Option.map Sum.inr (some 2)) else (some (.inl (IntKind.i64.wrap (s2+1)))))) else (Option.map Sum.inr (iter (fun ss_21:Int=>Vla p0 ss_21) 0)))
noncomputable def Yea (p0:Disk):Option Int :=
  (if ((decide (((p0.Sectors).length:Int) > 200)) || decide (((p0.Wait).length:Int) > 300))=true then (some 2) else (iter (fun ss_7:Int=>Z8a p0 ss_7) 0))
noncomputable def Yza (s2:Int) (s7:Int) (s8:Int):Option ((Int × Int) ⊕ ((Int × Int) ⊕ Int)) :=
  (if (decide (s8<8))=true then (Option.bind (shl .i64 s7 1) fun x10=>(if ((ibits .and .i64 x10 65536) != 0)=true then (some (.inl (ibits .xor .i64 x10 69665,IntKind.i64.wrap (s8+1)))) else (some (.inl (x10,IntKind.i64.wrap (s8+1)))))) else (Option.map Sum.inr (some (.inl (s7,IntKind.i64.wrap (s2+1))))))
noncomputable def Y4a (p0:List UInt8) (s1:Int) (s2:Int):Option ((Int × Int) ⊕ Int) :=
  (if (decide (s2<((p0).length:Int)))=true then (Option.bind (idx p0 s2) fun x5=>(Option.bind (shl .i64 (IntKind.i64.wrap (x5.toNat:Int)) 8) fun x6=>(iter (fun ss_28:Int × Int=>Yza s2 ss_28.1 ss_28.2) (ibits .xor .i64 s1 x6,0)))) else (Option.map Sum.inr (some s1)))
noncomputable def frame_sum (p0:List UInt8):Option Int :=
  (iter (fun ss_21:Int × Int=>Y4a p0 ss_21.1 ss_21.2) (65535,0))
noncomputable def frame_Put (p0:List UInt8):Option ((List UInt8) × Int) :=
  (if (p0==[])=true then (some ([],4)) else (if (decide (((p0).length:Int) > 60))=true then (some ([],2)) else (Option.bind (cat (toStr [IntKind.u8.wrap ((p0).length:Int)]) p0) fun x3=>(Option.bind (frame_sum x3) fun x4=>(Option.bind (cat (toStr [IntKind.u8.wrap ((p0).length:Int)]) p0) fun x8=>(Option.bind (shr .i64 x4 8) fun x9=>(Option.bind (cat x8 (toStr [IntKind.u8.wrap x9,IntKind.u8.wrap x4])) fun x10=>(some (x10,0)))))))))
def Vja (p0:List (List UInt8)):Option (List (List UInt8)):=app [] p0
def Vra (p0:List Write):Option (List Write):=app [] p0
noncomputable def disk_Write (p0:Disk) (p1:Int) (p2:List UInt8):Option (Disk × Int) :=
  (Option.bind (Yea p0) fun x2=>(if (x2 != 0)=true then (some ((⟨[],[]⟩:Disk),x2)) else (if ((decide (p1<0)) || decide (p1 ≥ 200))=true then (some ((⟨[],[]⟩:Disk),3)) else (if (decide (((p2).length:Int) > 64))=true then (some ((⟨[],[]⟩:Disk),2)) else (if (((p0.Wait).length:Int)==300)=true then (some ((⟨[],[]⟩:Disk),8)) else (Option.bind (Vja p0.Sectors) fun x7=>(Option.bind (Vra p0.Wait) fun x8=>(Option.bind (app x8 [(⟨p1,p2⟩:Write)]) fun x9=>(some ((⟨x7,x9⟩:Disk),0))))))))))
noncomputable def Jib (p1:Int) (s6:Int) (s7:List (List UInt8)) (s8:List Write) (z11:List UInt8):Option ((Int × (List (List UInt8)) × (List Write)) ⊕ (Disk × Int)) :=
  (Option.bind (frame_Put z11) fun x13=>(Option.bind (disk_Write (⟨s7,s8⟩:Disk) (IntKind.i64.wrap ((IntKind.i64.wrap (p1*60))+s6)) x13.1) fun x15=>(if (x15.2 != 0)=true then (Option.map Sum.inr (some ((⟨[],[]⟩:Disk),x15.2))) else (some (.inl (IntKind.i64.wrap (s6 - 1),x15.1.Sectors,x15.1.Wait))))))
noncomputable def Jmb (p1:Int) (p2:Int) (p3:List UInt8) (x5:Int) (s6:Int) (s7:List (List UInt8)) (s8:List Write):Option ((Int × (List (List UInt8)) × (List Write)) ⊕ (Disk × Int)) :=
  (if (decide (s6 ≥ 0))=true then (if (decide (s6 > 0))=true then (Option.bind (sub p3 (IntKind.i64.wrap ((IntKind.i64.wrap (s6 - 1))*50)) (if ((p3).length:Int)<(IntKind.i64.wrap (s6*50)) then ((p3).length:Int) else (IntKind.i64.wrap (s6*50)))) fun x9=>(Option.bind (cat (toStr [IntKind.u8.wrap p2,IntKind.u8.wrap s6,IntKind.u8.wrap x5]) x9) fun x10=>(Jib p1 s6 s7 s8 x10))) else (Jib p1 s6 s7 s8 (toStr [IntKind.u8.wrap p2,IntKind.u8.wrap s6,IntKind.u8.wrap x5]))) else (Option.map Sum.inr (some ((⟨s7,s8⟩:Disk),0))))
noncomputable def save_Put (p0:Disk) (p1:Int) (p2:Int) (p3:List UInt8):Option (Disk × Int) :=
  (Option.bind (Yea p0) fun x2=>(if (x2 != 0)=true then (some ((⟨[],[]⟩:Disk),x2)) else (if ((decide (p1<0)) || ((decide (p1 > 1)) || ((decide (p2<0)) || decide (p2 > 200))))=true then (some ((⟨[],[]⟩:Disk),3)) else (Option.bind (quo .i64 (IntKind.i64.wrap ((IntKind.i64.wrap (((p3).length:Int)+50)) - 1)) 50) fun x5=>(if (decide (x5 ≥ 60))=true then (some ((⟨[],[]⟩:Disk),8)) else (iter (fun ss_17:Int × (List (List UInt8)) × (List Write)=>Jmb p1 p2 p3 x5 ss_17.1 ss_17.2.1 ss_17.2.2) (x5,p0.Sectors,p0.Wait)))))))
noncomputable def Vma (p0:Disk) (s5:Int):Option (Int ⊕ Int) :=
  (if (decide (s5<((p0.Wait).length:Int)))=true then (Option.bind (idx p0.Wait s5) fun x7=>(if ((decide (x7.At<0)) || decide (x7.At > 199))=true then (Option.map Sum.inr (some 3)) else (if (decide (((x7.Bytes).length:Int) > 64))=true then (Option.map Sum.inr (some 2)) else (some (.inl (IntKind.i64.wrap (s5+1))))))) else (Option.map Sum.inr (some 0)))
noncomputable def Vqa (p0:Disk) (s2:Int):Option (Int ⊕ Int) :=
  (if (decide (s2<((p0.Sectors).length:Int)))=true then (Option.bind (idx p0.Sectors s2) fun x4=>(if (decide (((x4).length:Int) > 64))=true then (Option.map Sum.inr (some 2)) else (some (.inl (IntKind.i64.wrap (s2+1)))))) else (Option.map Sum.inr (iter (fun ss_21:Int=>Vma p0 ss_21) 0)))
noncomputable def Yka (p0:Disk):Option Int :=
  (if ((decide (((p0.Sectors).length:Int) > 200)) || decide (((p0.Wait).length:Int) > 300))=true then (some 2) else (iter (fun ss_7:Int=>Vqa p0 ss_7) 0))
noncomputable def Yga:Option Net :=
  (some (⟨[(⟨1,0,[],[0]⟩:Node),(⟨1,1,[],[1]⟩:Node),(⟨6,0,[0,1],[2]⟩:Node),(⟨8,0,[2],[]⟩:Node)],3,1⟩:Net))
noncomputable def crosslaw_item (p0:Int) (p1:Int):Option Item :=
  (some (⟨p0,p1,0⟩:Item))
noncomputable def Jsb:Option (List (List Item)) :=
  (Option.bind (crosslaw_item (1:Int) (1:Int)) fun x3=>(Option.bind (crosslaw_item (2:Int) (2:Int)) fun x4=>(some [[x3],[x4]])))
noncomputable def math_bits_Mul64 (p0:Int) (p1:Int):Option (Int × Int) :=
  (Option.bind (shr .u64 p0 32) fun x2=>(Option.bind (shr .u64 p1 32) fun x4=>(Option.bind (shr .u64 (IntKind.u64.wrap ((ibits .and .u64 p0 4294967295)*(ibits .and .u64 p1 4294967295))) 32) fun x6=>(Option.bind (shr .u64 (IntKind.u64.wrap ((IntKind.u64.wrap (x2*(ibits .and .u64 p1 4294967295)))+x6)) 32) fun x8=>(Option.bind (shr .u64 (IntKind.u64.wrap ((ibits .and .u64 (IntKind.u64.wrap ((IntKind.u64.wrap (x2*(ibits .and .u64 p1 4294967295)))+x6)) 4294967295)+(IntKind.u64.wrap ((ibits .and .u64 p0 4294967295)*x4)))) 32) fun x10=>(some (IntKind.u64.wrap ((IntKind.u64.wrap ((IntKind.u64.wrap (x2*x4))+x8))+x10),IntKind.u64.wrap (p0*p1))))))))
noncomputable def math_bits_Mul (p0:Int) (p1:Int):Option (Int × Int) :=
  (Option.bind (math_bits_Mul64 p0 p1) fun x2=>(some (x2.1,x2.2)))
noncomputable def Jya  (s6:Int) (s7:List Ends):Option ((Int × (List Ends)) ⊕ (List Ends)) :=
  (if (decide (s6<((s7).length:Int)))=true then (Option.bind (vwok (s7).length s6 ((s7).length:Int)) fun x8=>(Option.bind (vwok (s7).length 0 s6) fun x9=>(Option.bind (vwok (s7).length ((s6).toNat:Nat) (((s6).toNat:Nat)+(((((s7).length:Int)).toNat - (s6).toNat):Nat))) fun x10=>(Option.bind (vwok (s7).length (((0:Int)).toNat:Nat) ((((0:Int)).toNat:Nat)+(((s6).toNat - ((0:Int)).toNat):Nat))) fun x11=>(some (.inl (IntKind.i64.wrap (s6+((min ((((s7).length:Int)).toNat - (s6).toNat) ((s6).toNat - ((0:Int)).toNat):Nat):Int)),(cpy s7 ((s6).toNat) ((((s7).length:Int)).toNat - (s6).toNat) ((s7.drop (((0:Int)).toNat)).take ((s6).toNat - ((0:Int)).toNat)))))))))) else (Option.map Sum.inr (some s7)))
noncomputable def Yoa (p0:List Ends) (p1:Int):Option (List Ends) :=
  (if (decide (p1<0))=true then (none) else (Option.bind (math_bits_Mul (IntKind.u64.wrap ((p0).length:Int)) (IntKind.u64.wrap p1)) fun x2=>(if ((decide (x2.1 > 0)) || decide (x2.2 > 9223372036854775807))=true then (none) else (Option.bind (mk (IntKind.i64.wrap x2.2) (⟨0,0⟩:Ends)) fun x5=>(iter (fun ss_8:Int × (List Ends)=>Jya ss_8.1 ss_8.2) (((min (x5).length (p0).length:Nat):Int),(cpy x5 0 (x5).length p0)))))))
noncomputable def Jqb (p0:Int) (z2:Bool):Option (Int × Int × Bool) :=
  (if z2=true then (some (1,(-1),true)) else (if (p0==6)=true then (some ((-1),1,true)) else (if (p0==8)=true then (some (1,0,true)) else (some (0,0,false)))))
noncomputable def Qrb (p0:Int) (z1:Bool):Option (Int × Int × Bool) :=
  (if z1=true then (some (1,1,true)) else (if (p0==5)=true then (Jqb p0 (p0==5)) else (Jqb p0 (p0==7))))
noncomputable def net_arity (p0:Int):Option (Int × Int × Bool) :=
  (if (p0==1)=true then (some (0,1,true)) else (if (p0==2)=true then (Qrb p0 (p0==2)) else (if (p0==3)=true then (Qrb p0 (p0==3)) else (Qrb p0 (p0==4)))))
noncomputable def net_fits (p0:Int) (p1:Int):Option Bool :=
  (some ((p0==p1) || ((decide (p1<0)) && decide (p0 > 0))))
noncomputable def Qib (p0:Net) (s6:Int) (x9:Node) (z15:Int) (s27:Int) (s28:List Ends):Option ((Int × (List Ends)) ⊕ ((Int × Int × (List Ends)) ⊕ ((List Ends) × Int))) :=
  (if (decide (s27<((x9.Out).length:Int)))=true then (Option.bind (idx x9.Out s27) fun x30=>(if ((decide (x30<0)) || decide (x30 ≥ p0.Rings))=true then (Option.map Sum.inr (Option.map Sum.inr (some ([],3)))) else (Option.bind (ixN s28 x30) fun x34=>(Option.bind ((s28)[x34]?) fun x35=>(if (decide (x35.src ≥ 0))=true then (Option.map Sum.inr (Option.map Sum.inr (some ([],6)))) else (Option.bind (ixN s28 x30) fun x36=>(Option.bind ((s28)[x36]?) fun x37=>(some (.inl (IntKind.i64.wrap (s27+1),(List.set s28 x36 (⟨s6,x37.dst⟩:Ends)))))))))))) else (Option.map Sum.inr (some (.inl (z15,IntKind.i64.wrap (s6+1),s28)))))
noncomputable def Qkb (p0:Net) (s6:Int) (x9:Node) (z15:Int) (s16:Int) (s17:List Ends):Option ((Int × (List Ends)) ⊕ ((Int × Int × (List Ends)) ⊕ ((List Ends) × Int))) :=
  (if (decide (s16<((x9.In).length:Int)))=true then (Option.bind (idx x9.In s16) fun x19=>(if ((decide (x19<0)) || decide (x19 ≥ p0.Rings))=true then (Option.map Sum.inr (Option.map Sum.inr (some ([],3)))) else (Option.bind (ixN s17 x19) fun x23=>(Option.bind ((s17)[x23]?) fun x24=>(if (decide (x24.dst ≥ 0))=true then (Option.map Sum.inr (Option.map Sum.inr (some ([],6)))) else (Option.bind (ixN s17 x19) fun x25=>(Option.bind ((s17)[x25]?) fun x26=>(some (.inl (IntKind.i64.wrap (s16+1),(List.set s17 x25 (⟨x26.src,s6⟩:Ends)))))))))))) else (Option.map Sum.inr (iter (fun ss_178:Int × (List Ends)=>Qib p0 s6 x9 z15 ss_178.1 ss_178.2) (0,s17))))
noncomputable def Job (p0:Net) (s6:Int) (s7:List Ends) (x9:Node) (z15:Int):Option ((Int × Int × (List Ends)) ⊕ ((List Ends) × Int)) :=
  (iter (fun ss_159:Int × (List Ends)=>Qkb p0 s6 x9 z15 ss_159.1 ss_159.2) (0,s7))
noncomputable def Jlb (s5:Int) (s7:List Ends) (s38:Int):Option (Int ⊕ ((List Ends) × Int)) :=
  (if (decide (s38<((s7).length:Int)))=true then (Option.bind (ixN s7 s38) fun x41=>(Option.bind ((s7)[x41]?) fun x42=>(if ((decide (x42.src<0)) || decide (x42.dst<0))=true then (Option.map Sum.inr (some ([],9))) else (some (.inl (IntKind.i64.wrap (s38+1))))))) else (Option.map Sum.inr (if (s5 != 1)=true then (some ([],4)) else (some (s7,0)))))
noncomputable def Qqb (p0:Net) (s5:Int) (s6:Int) (s7:List Ends):Option ((Int × Int × (List Ends)) ⊕ ((List Ends) × Int)) :=
  (if (decide (s6<((p0.Nodes).length:Int)))=true then (Option.bind (idx p0.Nodes s6) fun x9=>(Option.bind (net_arity x9.Kind) fun x11=>(if (!x11.2.2)=true then (Option.map Sum.inr (some ([],5))) else (Option.bind (net_fits ((x9.In).length:Int) x11.1) fun x12=>(Option.bind (if (!x12)=true then (some true) else (Option.bind (net_fits ((x9.Out).length:Int) x11.2.1) fun x13=>(some (!x13)))) fun c14=>(if c14=true then (Option.map Sum.inr (some ([],4))) else (if ((decide (x9.A<0)) || (if (x9.Kind==1)=true then ((decide (x9.A ≥ 4)) || (if (x9.Kind==2)=true then ((decide (x9.A > 3)) || ((x9.Kind != 1) && ((x9.Kind != 2) && x9.A != 0))) else ((x9.Kind != 1) && ((x9.Kind != 2) && x9.A != 0)))) else (if (x9.Kind==2)=true then ((decide (x9.A > 3)) || ((x9.Kind != 1) && ((x9.Kind != 2) && x9.A != 0))) else ((x9.Kind != 1) && ((x9.Kind != 2) && x9.A != 0)))))=true then (Option.map Sum.inr (some ([],3))) else (if (x9.Kind==8)=true then (Job p0 s6 s7 x9 (IntKind.i64.wrap (s5+1))) else (Job p0 s6 s7 x9 s5))))))))) else (Option.map Sum.inr (iter (fun ss_197:Int=>Jlb s5 s7 ss_197) 0)))
noncomputable def net_look (p0:Net):Option ((List Ends) × Int) :=
  (if ((decide (((p0.Nodes).length:Int)<1)) || ((decide (((p0.Nodes).length:Int) > 12)) || ((decide (p0.Rings<0)) || decide (p0.Rings > 16))))=true then (some ([],2)) else (if ((decide (p0.Room<1)) || decide (p0.Room > 6))=true then (some ([],3)) else (Option.bind (Yoa ([(⟨(-1),(-1)⟩:Ends)]:List Ends) p0.Rings) fun x4=>(iter (fun ss_123:Int × Int × (List Ends)=>Qqb p0 ss_123.1 ss_123.2.1 ss_123.2.2) (0,0,x4)))))
noncomputable def Ysa (p0:Int) (p1:List Bool) (p2:List Ends):Option Bool :=
  (Option.bind (ixN p2 p0) fun x5=>(Option.bind ((p2)[x5]?) fun x6=>(Option.bind (ixN p1 x6.src) fun x7=>(Option.bind ((p1)[x7]?) fun x8=>(some (!x8))))))
noncomputable def Jta (p0:List Int) (p1:List Bool) (p2:List Ends) (s1:Int):Option (Int ⊕ Int) :=
  (if (decide (s1<((p0).length:Int)))=true then (Option.bind (idx p0 s1) fun x4=>(Option.bind (Ysa x4 p1 p2) fun x5=>(if x5=true then (Option.map Sum.inr (some s1)) else (some (.inl (IntKind.i64.wrap (s1+1))))))) else (Option.map Sum.inr (some (-1))))
noncomputable def Vda (p0:List Int) (p1:List Bool) (p2:List Ends):Option Int :=
  (iter (fun ss_5:Int=>Jta p0 p1 p2 ss_5) 0)
noncomputable def Jra (p0:List Int) (p1:List Bool) (p2:List Ends):Option Bool :=
  (Option.bind (Vda p0 p1 p2) fun x2=>(some (decide (x2 ≥ 0))))
noncomputable def Qtb (s5:List Int) (s6:List Bool) (z14:Int):Option (((List Int) × (List Bool)) ⊕ ((List Int) × Int)) :=
  (if (decide (z14<0))=true then (Option.map Sum.inr (some ([],7))) else (Option.bind (ixN s6 z14) fun x17=>(Option.bind ((s6)[x17]?) fun x18=>(Option.bind (app s5 [z14]) fun x19=>(some (.inl (x19,(List.set s6 x17 true))))))))
noncomputable def Y3a (p0:Net) (x2:(List Ends) × Int) (s5:List Int) (s6:List Bool) (s7:Int):Option (Int ⊕ (((List Int) × (List Bool)) ⊕ ((List Int) × Int))) :=
  (if (decide (s7<((p0.Nodes).length:Int)))=true then (Option.bind (idx p0.Nodes s7) fun x9=>(Option.bind (ixN s6 s7) fun x10=>(Option.bind ((s6)[x10]?) fun x11=>(Option.bind (if (!x11)=true then (Option.bind (Jra x9.In s6 x2.1) fun x12=>(some (!x12))) else (some false)) fun c13=>(if c13=true then (Option.map Sum.inr (Qtb s5 s6 s7)) else (some (.inl (IntKind.i64.wrap (s7+1))))))))) else (Option.map Sum.inr (Qtb s5 s6 (-1))))
noncomputable def Y0a (p0:Net) (x2:(List Ends) × Int) (s5:List Int) (s6:List Bool):Option (((List Int) × (List Bool)) ⊕ ((List Int) × Int)) :=
  (if (decide (((s5).length:Int)<((p0.Nodes).length:Int)))=true then (iter (fun ss_102:Int=>Y3a p0 x2 s5 s6 ss_102) 0) else (Option.map Sum.inr (some (s5,0))))
noncomputable def net_Order (p0:Net):Option ((List Int) × Int) :=
  (Option.bind (net_look p0) fun x2=>(if (x2.2 != 0)=true then (some ([],x2.2)) else (Option.bind (mk ((p0.Nodes).length:Int) false) fun x4=>(iter (fun ss_72:(List Int) × (List Bool)=>Y0a p0 x2 ss_72.1 ss_72.2) ([],x4)))))
noncomputable def net_Check (p0:Net):Option Int :=
  (Option.bind (net_Order p0) fun x2=>(some x2.2))
noncomputable def Qab (s3:Int) (x5:List Item) (s6:Int):Option (Int ⊕ (Int ⊕ Int)) :=
  (if (decide (s6<((x5).length:Int)))=true then (Option.bind (idx x5 s6) fun x8=>(if (x8.Dep != 0)=true then (Option.map Sum.inr (Option.map Sum.inr (some 4))) else (some (.inl (IntKind.i64.wrap (s6+1)))))) else (Option.map Sum.inr (some (.inl (IntKind.i64.wrap (s3+1))))))
noncomputable def V3a (p0:Net) (p1:List (List Item)) (s11:Int) (s12:List Bool):Option ((Int × (List Bool)) ⊕ Int) :=
  (if (decide (s11<((p0.Nodes).length:Int)))=true then (Option.bind (idx p0.Nodes s11) fun x14=>(if (x14.Kind != 1)=true then (some (.inl (IntKind.i64.wrap (s11+1),s12))) else (if (decide (x14.A ≥ ((p1).length:Int)))=true then (Option.map Sum.inr (some 5)) else (Option.bind (ixN s12 x14.A) fun x17=>(Option.bind ((s12)[x17]?) fun x18=>(if x18=true then (Option.map Sum.inr (some 6)) else (Option.bind (ixN s12 x14.A) fun x19=>(Option.bind ((s12)[x19]?) fun x20=>(some (.inl (IntKind.i64.wrap (s11+1),(List.set s12 x19 true)))))))))))) else (Option.map Sum.inr (some 0)))
noncomputable def Qbb (p0:Net) (p1:List (List Item)) (s3:Int):Option (Int ⊕ Int) :=
  (if (decide (s3<((p1).length:Int)))=true then (Option.bind (idx p1 s3) fun x5=>(if (decide (((x5).length:Int) > 20))=true then (Option.map Sum.inr (some 2)) else (iter (fun ss_36:Int=>Qab s3 x5 ss_36) 0))) else (Option.map Sum.inr (Option.bind (mk ((p1).length:Int) false) fun x10=>(iter (fun ss_52:Int × (List Bool)=>V3a p0 p1 ss_52.1 ss_52.2) (0,x10)))))
noncomputable def Qob (p0:Net) (p1:List (List Item)):Option Int :=
  (Option.bind (net_Check p0) fun x2=>(if (x2 != 0)=true then (some x2) else (if (decide (((p1).length:Int) > 4))=true then (some 2) else (iter (fun ss_27:Int=>Qbb p0 p1 ss_27) 0))))
noncomputable def move_start (p0:Net) (p1:List (List Item)):Option State :=
  (Option.bind (mk ((p1).length:Int) 0) fun x4=>(Option.bind (mk p0.Rings ([]:List Item)) fun x5=>(Option.bind (mk ((p0.Nodes).length:Int) (⟨0,[],0⟩:Memory)) fun x6=>(some (⟨x4,x5,x6,[],[]⟩:State)))))
noncomputable def move_Start (p0:Net) (p1:List (List Item)):Option (State × Int) :=
  (Option.bind (Qob p0 p1) fun x2=>(if (x2 != 0)=true then (some ((⟨[],[],[],[],[]⟩:State),x2)) else (Option.bind (move_start p0 p1) fun x4=>(some (x4,0)))))
noncomputable def move_head (p0:Net) (p1:List (List Item)) (p2:State) (p3:Move):Option (Item × Bool) :=
  (Option.bind (idx p0.Nodes p3.Node) fun x2=>(if (x2.Kind==1)=true then (Option.bind (idx p2.At x2.A) fun x5=>(Option.bind (idx p1 x2.A) fun x6=>(if (x5==((x6).length:Int))=true then (some ((⟨0,0,0⟩:Item),false)) else (Option.bind (idx p1 x2.A) fun x10=>(Option.bind (idx p2.At x2.A) fun x11=>(Option.bind (idx x10 x11) fun x12=>(some (x12,true)))))))) else (Option.bind (idx x2.In p3.Lane) fun x15=>(Option.bind (idx p2.Rings x15) fun x16=>(if (((x16).length:Int)==0)=true then (some ((⟨0,0,0⟩:Item),false)) else (Option.bind (idx x16 0) fun x18=>(some (x18,true))))))))
noncomputable def stage_Lane (p0:Item) (p1:Int):Option (Int × Int) :=
  (if ((decide (p1<1)) || decide (p1 > 16))=true then (some (0,3)) else (Option.bind (rem p0.Key p1) fun x4=>(Option.bind (rem (IntKind.i64.wrap (x4+p1)) p1) fun x5=>(some (x5,0)))))
noncomputable def move_outs (p0:Node) (p1:Item):Option (List Int) :=
  (if (p0.Kind != 7)=true then (some p0.Out) else (Option.bind (stage_Lane p1 ((p0.Out).length:Int)) fun x2=>(Option.bind (sub p0.Out x2.1 (IntKind.i64.wrap (x2.1+1))) fun x4=>(some x4))))
noncomputable def Jhb (p0:Int) (p1:List Int) (p2:List (List Item)) (p3:List Memory) (p4:List Choice) (p5:List Item) (p6:List Node) (p7:Int) (p8:Int):Option Bool :=
  (Option.bind (idx p2 p0) fun x2=>(some (decide (((x2).length:Int) ≥ p8))))
noncomputable def J5a (p0:List Int) (p1:List Int) (p2:List (List Item)) (p3:List Memory) (p4:List Choice) (p5:List Item) (p6:List Node) (p7:Int) (p8:Int) (s1:Int):Option (Int ⊕ Int) :=
  (if (decide (s1<((p0).length:Int)))=true then (Option.bind (idx p0 s1) fun x4=>(Option.bind (Jhb x4 p1 p2 p3 p4 p5 p6 p7 p8) fun x5=>(if x5=true then (Option.map Sum.inr (some s1)) else (some (.inl (IntKind.i64.wrap (s1+1))))))) else (Option.map Sum.inr (some (-1))))
noncomputable def Vca (p0:List Int) (p1:List Int) (p2:List (List Item)) (p3:List Memory) (p4:List Choice) (p5:List Item) (p6:List Node) (p7:Int) (p8:Int):Option Int :=
  (iter (fun ss_5:Int=>J5a p0 p1 p2 p3 p4 p5 p6 p7 p8 ss_5) 0)
noncomputable def J6a (p0:List Int) (p1:List Int) (p2:List (List Item)) (p3:List Memory) (p4:List Choice) (p5:List Item) (p6:List Node) (p7:Int) (p8:Int):Option Bool :=
  (Option.bind (Vca p0 p1 p2 p3 p4 p5 p6 p7 p8) fun x2=>(some (decide (x2 ≥ 0))))
noncomputable def Z3a (p0:Memory) (s1:Int):Option (Int ⊕ Int) :=
  (if (decide (s1<((p0.Keys).length:Int)))=true then (Option.bind (idx p0.Keys s1) fun x3=>(Option.bind (if (decide (x3.N<1))=true then (some true) else (if (decide (s1 > 0))=true then (Option.bind (idx p0.Keys (IntKind.i64.wrap (s1 - 1))) fun x4=>(some (decide (x4.Key ≥ x3.Key)))) else (some false))) fun c5=>(if c5=true then (Option.map Sum.inr (some 4)) else (some (.inl (IntKind.i64.wrap (s1+1))))))) else (Option.map Sum.inr (if (decide (p0.Dep<0))=true then (some 3) else (some 0))))
noncomputable def Qlb (p0:Memory):Option Int :=
  (if (decide (((p0.Keys).length:Int) > 6))=true then (some 2) else (iter (fun ss_16:Int=>Z3a p0 ss_16) 0))
def Qgb (p0:List Keyed):Option (List Keyed):=app [] p0
noncomputable def stage_Copy (p0:Memory):Option Memory :=
  (Option.bind (Qgb p0.Keys) fun x2=>(some (⟨p0.Sum,x2,p0.Dep⟩:Memory)))
noncomputable def stage_mapped_1 (p0:Item):Option Int :=
  (some (IntKind.i64.wrap (p0.Val+1)))
noncomputable def stage_mapped_2 (p0:Item):Option Int :=
  (some (IntKind.i64.wrap (2*p0.Val)))
noncomputable def stage_mapped_3 (p0:Item):Option Int :=
  (some (IntKind.i64.wrap (0 - p0.Val)))
noncomputable def stage_mapped_4 (p0:Item):Option Int :=
  (some (IntKind.i64.wrap (p0.Val+p0.Key)))
noncomputable def stage_mapped (p0:Int) (p1:Item):Option Item :=
  (Option.bind (if (p0==0)=true then (Option.bind (stage_mapped_1 p1) fun x1=>(some x1)) else (if (p0==1)=true then (Option.bind (stage_mapped_2 p1) fun x2=>(some x2)) else (if (p0==2)=true then (Option.bind (stage_mapped_3 p1) fun x3=>(some x3)) else (Option.bind (isAt p0 3) fun x4=>(Option.bind (stage_mapped_4 p1) fun x5=>(some x5)))))) fun c6=>(some (⟨p1.Key,c6,p1.Dep⟩:Item)))
noncomputable def Jrb (p0:Keyed) (p1:Int):Option Int :=
  (if (decide (p0.Key<p1))=true then (some (-1)) else (if (decide (p0.Key > p1))=true then (some 1) else (some 0)))
noncomputable def Jla (p0:List Keyed) (p1:Int) (s1:Int) (s2:Int):Option ((Int × Int) ⊕ (Int × Bool)) :=
  (if (decide (s1<s2))=true then (Option.bind (shr .u64 (IntKind.u64.wrap (IntKind.i64.wrap (s1+s2))) 1) fun x4=>(Option.bind (idx p0 (IntKind.i64.wrap x4)) fun x7=>(Option.bind (Jrb x7 p1) fun x8=>(if (decide (x8<0))=true then (some (.inl (IntKind.i64.wrap ((IntKind.i64.wrap x4)+1),s2))) else (some (.inl (s1,IntKind.i64.wrap x4))))))) else (Option.map Sum.inr (Option.bind (if (decide (s1<((p0).length:Int)))=true then (Option.bind (idx p0 s1) fun x9=>(Option.bind (Jrb x9 p1) fun x10=>(some (x10==0)))) else (some false)) fun c11=>(some (s1,c11)))))
noncomputable def Jqa (p0:List Keyed) (p1:Int):Option (Int × Bool) :=
  (iter (fun ss_5:Int × Int=>Jla p0 p1 ss_5.1 ss_5.2) (0,((p0).length:Int)))
noncomputable def V7a (p0:Int) (p1:List Keyed) (p2:List Keyed) (C:Nat):Option (List Keyed) :=
  (Option.bind (vwok ((p1).length) p0 (((p1).length:Nat):Int)) fun x2=>(if (((p2).length:Int)==0)=true then (none) else (if (p0==(((p1).length:Nat):Int))=true then (Option.bind (app p1 p2) fun x4=>(some x4)) else (if (decide ((IntKind.i64.wrap ((((p1).length:Nat):Int)+((p2).length:Int))) > ((C:Nat):Int)))=true then (Option.bind (vwok ((p1).length) 0 p0) fun x7=>(Option.bind (growz p1 ((p0).toNat) C (IntKind.i64.wrap ((IntKind.i64.wrap ((((p1).length:Nat):Int)+((p2).length:Int))) - p0)) (⟨0,0⟩:Keyed)) fun x8=>(Option.bind (vwok (x8).length p0 ((x8).length:Int)) fun x11=>(Option.bind (vwok (x8).length ((p0).toNat:Nat) (((p0).toNat:Nat)+(((((x8).length:Int)).toNat - (p0).toNat):Nat))) fun x12=>(Option.bind (vwok ((cpy x8 ((p0).toNat) ((((x8).length:Int)).toNat - (p0).toNat) p2)).length (IntKind.i64.wrap (p0+((p2).length:Int))) (((cpy x8 ((p0).toNat) ((((x8).length:Int)).toNat - (p0).toNat) p2)).length:Int)) fun x17=>(Option.bind (vwok ((p1).length) p0 (((p1).length:Nat):Int)) fun x18=>(Option.bind (vwok ((cpy x8 ((p0).toNat) ((((x8).length:Int)).toNat - (p0).toNat) p2)).length ((IntKind.i64.wrap (p0+((p2).length:Int))).toNat:Nat) (((IntKind.i64.wrap (p0+((p2).length:Int))).toNat:Nat)+((((((cpy x8 ((p0).toNat) ((((x8).length:Int)).toNat - (p0).toNat) p2)).length:Int)).toNat - (IntKind.i64.wrap (p0+((p2).length:Int))).toNat):Nat))) fun x19=>(Option.bind (vwok (p1).length ((0+(p0).toNat):Nat) (((0+(p0).toNat):Nat)+((((((p1).length:Nat):Int)).toNat - (p0).toNat):Nat))) fun x20=>(some (cpy (cpy x8 ((p0).toNat) ((((x8).length:Int)).toNat - (p0).toNat) p2) ((IntKind.i64.wrap (p0+((p2).length:Int))).toNat) (((((cpy x8 ((p0).toNat) ((((x8).length:Int)).toNat - (p0).toNat) p2)).length:Int)).toNat - (IntKind.i64.wrap (p0+((p2).length:Int))).toNat) ((p1.drop (0+(p0).toNat)).take (((((p1).length:Nat):Int)).toNat - (p0).toNat)))))))))))) else (Option.bind (roomx (p1).length C (IntKind.i64.wrap ((((p1).length:Nat):Int)+((p2).length:Int)))) fun x22=>(Option.bind (vwok ((p1).length+x22) (IntKind.i64.wrap (p0+((p2).length:Int))) ((((p1).length+x22):Nat):Int)) fun x25=>(Option.bind (ovok p2 ((((((p1).length+x22):Nat):Int)).toNat - (IntKind.i64.wrap (p0+((p2).length:Int))).toNat)) fun x26=>(Option.bind (vwok ((p1).length+x22) (IntKind.i64.wrap (p0+((p2).length:Int))) ((((p1).length+x22):Nat):Int)) fun x30=>(Option.bind (vwok ((p1).length+x22) p0 ((((p1).length+x22):Nat):Int)) fun x31=>(Option.bind (cpyU p1 x22 ((IntKind.i64.wrap (p0+((p2).length:Int))).toNat) ((((((p1).length+x22):Nat):Int)).toNat - (IntKind.i64.wrap (p0+((p2).length:Int))).toNat) ((p0).toNat) ((((((p1).length+x22):Nat):Int)).toNat - (p0).toNat)) fun x32=>(Option.bind (vwok (x32).length p0 ((x32).length:Int)) fun x35=>(Option.bind (vwok (x32).length ((p0).toNat:Nat) (((p0).toNat:Nat)+(((((x32).length:Int)).toNat - (p0).toNat):Nat))) fun x36=>(some (cpy x32 ((p0).toNat) ((((x32).length:Int)).toNat - (p0).toNat) p2))))))))))))))
noncomputable def Zra (p0:Int) (p1:List Keyed) (p2:List Keyed):Option (List Keyed):=allC (p1).length (fun C=>V7a p0 p1 p2 C)
noncomputable def Y6a (p3:Item) (x4:Memory) (x9:Int × Bool) (z12:List Keyed):Option (Memory × Item × Int) :=
  (Option.bind (ixN z12 x9.1) fun x17=>(Option.bind ((z12)[x17]?) fun x18=>(Option.bind (ixN z12 x9.1) fun x19=>(Option.bind ((z12)[x19]?) fun x20=>(Option.bind (ixN (List.set z12 x19 (⟨x20.Key,IntKind.i64.wrap (x18.N+1)⟩:Keyed)) x9.1) fun x23=>(Option.bind (((List.set z12 x19 (⟨x20.Key,IntKind.i64.wrap (x18.N+1)⟩:Keyed)))[x23]?) fun x24=>(some ((⟨x4.Sum,(List.set z12 x19 (⟨x20.Key,IntKind.i64.wrap (x18.N+1)⟩:Keyed)),(if p3.Dep > x4.Dep then p3.Dep else x4.Dep)⟩:Memory),(⟨p3.Key,x24.N,(if p3.Dep > x4.Dep then p3.Dep else x4.Dep)⟩:Item),0))))))))
noncomputable def Q2b (p0:Int) (p1:Int) (p2:Memory) (p3:Item):Option (Memory × Item × Int) :=
  (Option.bind (Qlb p2) fun x2=>(if (x2 != 0)=true then (some ((⟨0,[],0⟩:Memory),(⟨0,0,0⟩:Item),x2)) else (if (decide (p3.Dep<0))=true then (some ((⟨0,[],0⟩:Memory),(⟨0,0,0⟩:Item),3)) else (Option.bind (stage_Copy p2) fun x4=>(if (p0==2)=true then (if ((decide (p1<0)) || decide (p1 > 3))=true then (some ((⟨0,[],0⟩:Memory),(⟨0,0,0⟩:Item),3)) else (Option.bind (stage_mapped p1 p3) fun x7=>(some (x4,x7,0)))) else (if (p0==3)=true then (some ((⟨IntKind.i64.wrap (x4.Sum+p3.Val),x4.Keys,(if p3.Dep > x4.Dep then p3.Dep else x4.Dep)⟩:Memory),(⟨p3.Key,IntKind.i64.wrap (x4.Sum+p3.Val),(if p3.Dep > x4.Dep then p3.Dep else x4.Dep)⟩:Item),0)) else (if (p0==4)=true then (Option.bind (Jqa x4.Keys p3.Key) fun x9=>(if ((!x9.2) && ((x4.Keys).length:Int)==6)=true then (some ((⟨x4.Sum,x4.Keys,(if p3.Dep > x4.Dep then p3.Dep else x4.Dep)⟩:Memory),(⟨p3.Key,0,(if p3.Dep > x4.Dep then p3.Dep else x4.Dep)⟩:Item),0)) else (if (!x9.2)=true then (Option.bind (Zra x9.1 x4.Keys ([(⟨p3.Key,0⟩:Keyed)]:List Keyed)) fun x11=>(Y6a p3 x4 x9 x11)) else (Y6a p3 x4 x9 x4.Keys)))) else (if (p0==1)=true then (if (p0==1)=true then (some (x4,p3,0)) else (some ((⟨0,[],0⟩:Memory),(⟨0,0,0⟩:Item),5))) else (if (p0==5)=true then (if (p0==5)=true then (some (x4,p3,0)) else (some ((⟨0,[],0⟩:Memory),(⟨0,0,0⟩:Item),5))) else (if (p0==6)=true then (if (p0==6)=true then (some (x4,p3,0)) else (some ((⟨0,[],0⟩:Memory),(⟨0,0,0⟩:Item),5))) else (if (p0==7)=true then (if (p0==7)=true then (some (x4,p3,0)) else (some ((⟨0,[],0⟩:Memory),(⟨0,0,0⟩:Item),5))) else (if (p0==8)=true then (some (x4,p3,0)) else (some ((⟨0,[],0⟩:Memory),(⟨0,0,0⟩:Item),5))))))))))))))
noncomputable def move_can (p0:Net) (p1:List (List Item)) (p2:State) (p3:Move):Option Bool :=
  (Option.bind (idx p0.Nodes p3.Node) fun x2=>(Option.bind (move_head p0 p1 p2 p3) fun x4=>(Option.bind (if (!x4.2)=true then (some true) else (Option.bind (move_outs x2 x4.1) fun x5=>(Option.bind (J6a x5 p2.At p2.Rings p2.Memory p2.Choices p2.Out p0.Nodes p0.Rings p0.Room) fun x6=>(some x6)))) fun c7=>(if c7=true then (some false) else (if (if (x2.Kind==6)=true then ((((p2.Choices).length:Int)==500) || ((x2.Kind==8) && ((p2.Out).length:Int)==2000)) else ((x2.Kind==8) && ((p2.Out).length:Int)==2000))=true then (some false) else (Option.bind (idx p2.Memory p3.Node) fun x11=>(Option.bind (Q2b x2.Kind x2.A x11 x4.1) fun x12=>(some (x12.2.2==0)))))))))
noncomputable def Z7a (p0:Net) (p1:List (List Item)) (s1:Int) (p2:State) (z5:Int) (s6:Int) (s7:List Move):Option ((Int × (List Move)) ⊕ ((Int × (List Move)) ⊕ (List Move))) :=
  (if (decide (s6<z5))=true then (Option.bind (move_can p0 p1 p2 (⟨s1,s6⟩:Move)) fun x9=>(if x9=true then (Option.bind (app s7 [(⟨s1,s6⟩:Move)]) fun x10=>(some (.inl (IntKind.i64.wrap (s6+1),x10)))) else (some (.inl (IntKind.i64.wrap (s6+1),s7))))) else (Option.map Sum.inr (some (.inl (IntKind.i64.wrap (s1+1),s7)))))
noncomputable def Qyb (p0:Net) (p1:List (List Item)) (s1:Int) (p2:State) (s2:List Move) (z5:Int):Option ((Int × (List Move)) ⊕ (List Move)) :=
  (iter (fun ss_36:Int × (List Move)=>Z7a p0 p1 s1 p2 z5 ss_36.1 ss_36.2) (0,s2))
noncomputable def Yja (p0:Net) (p1:List (List Item)) (p2:State) (s1:Int) (s2:List Move):Option ((Int × (List Move)) ⊕ (List Move)) :=
  (if (decide (s1<((p0.Nodes).length:Int)))=true then (Option.bind (idx p0.Nodes s1) fun x4=>(if (x4.Kind==6)=true then (Qyb p0 p1 s1 p2 s2 ((x4.In).length:Int)) else (Qyb p0 p1 s1 p2 s2 1))) else (Option.map Sum.inr (some s2)))
noncomputable def move_ready (p0:Net) (p1:List (List Item)) (p2:State):Option (List Move) :=
  (iter (fun ss_27:Int × (List Move)=>Yja p0 p1 p2 ss_27.1 ss_27.2) (0,[]))
def V6a (p0:List Item):Option (List Item):=app [] p0
noncomputable def ring_Take (p0:List Item):Option (Item × (List Item) × Int) :=
  (if (decide (((p0).length:Int) > 6))=true then (some ((⟨0,0,0⟩:Item),[],2)) else (if (((p0).length:Int)==0)=true then (some ((⟨0,0,0⟩:Item),[],9)) else (Option.bind (idx p0 0) fun x4=>(Option.bind (sub p0 1 ((p0).length:Int)) fun x5=>(Option.bind (V6a x5) fun x6=>(some (x4,x6,0)))))))
noncomputable def ring_Put (p0:List Item) (p1:Int) (p2:Item):Option ((List Item) × Int) :=
  (if ((decide (p1<1)) || decide (p1 > 6))=true then (some ([],3)) else (if (decide (((p0).length:Int) > p1))=true then (some ([],2)) else (if (((p0).length:Int)==p1)=true then (some ([],8)) else (Option.bind (V6a p0) fun x4=>(Option.bind (app x4 [p2]) fun x5=>(some (x5,0)))))))
noncomputable def Vba (p0:Net) (p5:List Memory) (z16:List Int) (x19:List Int) (z23:List Choice) (x31:Memory × Item × Int) (x32:Nat) (z35:List Item) (s36:Int) (s37:List (List Item)):Option ((Int × (List (List Item))) ⊕ ((List Int) × (List (List Item)) × (List Memory) × (List Choice) × (List Item))) :=
  (if (decide (s36<((x19).length:Int)))=true then (Option.bind (idx x19 s36) fun x39=>(Option.bind (ixN s37 x39) fun x40=>(Option.bind ((s37)[x40]?) fun x41=>(Option.bind (ring_Put x41 p0.Room x31.2.1) fun x42=>(Option.bind (ixN s37 x39) fun x43=>(Option.bind ((s37)[x43]?) fun x44=>(some (.inl (IntKind.i64.wrap (s36+1),(List.set s37 x43 x42.1)))))))))) else (Option.map Sum.inr (some (z16,s37,(List.set p5 x32 x31.1),z23,z35))))
noncomputable def Yha (p0:Net) (p5:List Memory) (z16:List Int) (z17:List (List Item)) (x19:List Int) (z23:List Choice) (x31:Memory × Item × Int) (x32:Nat) (z35:List Item):Option ((List Int) × (List (List Item)) × (List Memory) × (List Choice) × (List Item)) :=
  (iter (fun ss_38:Int × (List (List Item))=>Vba p0 p5 z16 x19 z23 x31 x32 z35 ss_38.1 ss_38.2) (0,z17))
noncomputable def Vva (p0:Net) (p2:Move) (x2:Node) (x4:Item × Bool) (p5:List Memory) (p7:List Item) (z16:List Int) (z17:List (List Item)) (x19:List Int) (z22:Int) (z23:List Choice):Option ((List Int) × (List (List Item)) × (List Memory) × (List Choice) × (List Item)) :=
  (Option.bind (ixN p5 p2.Node) fun x29=>(Option.bind ((p5)[x29]?) fun x30=>(Option.bind (Q2b x2.Kind x2.A x30 (⟨x4.1.Key,x4.1.Val,z22⟩:Item)) fun x31=>(Option.bind (ixN p5 p2.Node) fun x32=>(Option.bind ((p5)[x32]?) fun x33=>(if (x2.Kind==8)=true then (Option.bind (app p7 [x31.2.1]) fun x34=>(Yha p0 p5 z16 z17 x19 z23 x31 x32 x34)) else (Yha p0 p5 z16 z17 x19 z23 x31 x32 p7)))))))
noncomputable def Vwa (p0:Net) (p2:Move) (x2:Node) (x4:Item × Bool) (p5:List Memory) (p6:List Choice) (p7:List Item) (z16:List Int) (z17:List (List Item)):Option ((List Int) × (List (List Item)) × (List Memory) × (List Choice) × (List Item)) :=
  (Option.bind (move_outs x2 x4.1) fun x19=>(if (x2.Kind==6)=true then (Option.bind (app p6 [(⟨p2.Node,p2.Lane⟩:Choice)]) fun x21=>(Vva p0 p2 x2 x4 p5 p7 z16 z17 x19 ((x21).length:Int) x21)) else (Vva p0 p2 x2 x4 p5 p7 z16 z17 x19 x4.1.Dep p6)))
noncomputable def Q1b (p0:Net) (p1:List (List Item)) (p2:Move) (p3:List Int) (p4:List (List Item)) (p5:List Memory) (p6:List Choice) (p7:List Item):Option ((List Int) × (List (List Item)) × (List Memory) × (List Choice) × (List Item)) :=
  (Option.bind (idx p0.Nodes p2.Node) fun x2=>(Option.bind (move_head p0 p1 (⟨p3,p4,p5,p6,p7⟩:State) p2) fun x4=>(if (x2.Kind==1)=true then (Option.bind (ixN p3 x2.A) fun x5=>(Option.bind ((p3)[x5]?) fun x6=>(Option.bind (ixN p3 x2.A) fun x7=>(Option.bind ((p3)[x7]?) fun x8=>(Vwa p0 p2 x2 x4 p5 p6 p7 (List.set p3 x7 (IntKind.i64.wrap (x6+1))) p4))))) else (Option.bind (idx x2.In p2.Lane) fun x9=>(Option.bind (idx x2.In p2.Lane) fun x10=>(Option.bind (ixN p4 x10) fun x11=>(Option.bind ((p4)[x11]?) fun x12=>(Option.bind (ring_Take x12) fun x13=>(Option.bind (ixN p4 x9) fun x14=>(Option.bind ((p4)[x14]?) fun x15=>(Vwa p0 p2 x2 x4 p5 p6 p7 p3 (List.set p4 x14 x13.2.1))))))))))))
noncomputable def V4a (p0:Net) (p1:List (List Item)) (p2:List Int) (s3:Int) (s4:List Int) (s5:List (List Item)) (s6:List Memory) (s7:List Choice) (s8:List Item):Option ((Int × (List Int) × (List (List Item)) × (List Memory) × (List Choice) × (List Item)) ⊕ (State × Int)) :=
  (if (decide (s3<((p2).length:Int)))=true then (Option.bind (idx p2 s3) fun x10=>(Option.bind (move_ready p0 p1 (⟨s4,s5,s6,s7,s8⟩:State)) fun x12=>(if (((x12).length:Int)==0)=true then (Option.map Sum.inr (some ((⟨s4,s5,s6,s7,s8⟩:State),0))) else (Option.bind (rem x10 ((x12).length:Int)) fun x13=>(Option.bind (rem (IntKind.i64.wrap (x13+((x12).length:Int))) ((x12).length:Int)) fun x14=>(Option.bind (ixN x12 x14) fun x15=>(Option.bind ((x12)[x15]?) fun x16=>(Option.bind (Q1b p0 p1 x16 s4 s5 s6 s7 s8) fun x17=>(some (.inl (IntKind.i64.wrap (s3+1),x17.1,x17.2.1,x17.2.2.1,x17.2.2.2.1,x17.2.2.2.2))))))))))) else (Option.map Sum.inr (some ((⟨s4,s5,s6,s7,s8⟩:State),0))))
noncomputable def move_Play (p0:Net) (p1:List (List Item)) (p2:List Int):Option (State × Int) :=
  (Option.bind (move_Start p0 p1) fun x2=>(if (x2.2 != 0)=true then (some ((⟨[],[],[],[],[]⟩:State),x2.2)) else (if (decide (((p2).length:Int) > 2000))=true then (some ((⟨[],[],[],[],[]⟩:State),2)) else (iter (fun ss_7:Int × (List Int) × (List (List Item)) × (List Memory) × (List Choice) × (List Item)=>V4a p0 p1 p2 ss_7.1 ss_7.2.1 ss_7.2.2.1 ss_7.2.2.2.1 ss_7.2.2.2.2.1 ss_7.2.2.2.2.2) (0,x2.1.At,x2.1.Rings,x2.1.Memory,x2.1.Choices,x2.1.Out)))))
noncomputable def Yqa (p0:Item) (p1:List Int) (p2:List (List Item)) (p3:List Memory) (p4:List Choice) (p5:List Item):Option Bool :=
  (some ((decide (p0.Dep<0)) || decide (p0.Dep > ((p4).length:Int))))
noncomputable def J0a (p0:List Item) (p1:List Int) (p2:List (List Item)) (p3:List Memory) (p4:List Choice) (p5:List Item) (s1:Int):Option (Int ⊕ Int) :=
  (if (decide (s1<((p0).length:Int)))=true then (Option.bind (idx p0 s1) fun x4=>(Option.bind (Yqa x4 p1 p2 p3 p4 p5) fun x5=>(if x5=true then (Option.map Sum.inr (some s1)) else (some (.inl (IntKind.i64.wrap (s1+1))))))) else (Option.map Sum.inr (some (-1))))
noncomputable def Z6a (p0:List Item) (p1:List Int) (p2:List (List Item)) (p3:List Memory) (p4:List Choice) (p5:List Item):Option Int :=
  (iter (fun ss_5:Int=>J0a p0 p1 p2 p3 p4 p5 ss_5) 0)
noncomputable def Zoa (p0:List Item) (p1:List Int) (p2:List (List Item)) (p3:List Memory) (p4:List Choice) (p5:List Item):Option Bool :=
  (Option.bind (Z6a p0 p1 p2 p3 p4 p5) fun x2=>(some (decide (x2 ≥ 0))))
noncomputable def Vta (p0:List Item) (p1:List Int) (p2:List (List Item)) (p3:List Memory) (p4:List Choice) (p5:List Item):Option Bool :=
  (Option.bind (Zoa p0 p1 p2 p3 p4 p5) fun x2=>(some (!x2)))
noncomputable def move_choice (p0:Net) (p1:Choice):Option Bool :=
  (Option.bind (if (decide (p1.Node ≥ 0))=true then (if (decide (p1.Node<((p0.Nodes).length:Int)))=true then (Option.bind (idx p0.Nodes p1.Node) fun x1=>(if (x1.Kind==6)=true then (if (decide (p1.Lane ≥ 0))=true then (Option.bind (idx p0.Nodes p1.Node) fun x2=>(some (decide (p1.Lane<((x2.In).length:Int))))) else (some false)) else (some false))) else (some false)) else (some false)) fun c3=>(some c3))
noncomputable def Q6b (p0:Net) (p2:State) (s20:Int):Option (Int ⊕ Int) :=
  (if (decide (s20<((p2.Choices).length:Int)))=true then (Option.bind (idx p2.Choices s20) fun x22=>(Option.bind (move_choice p0 x22) fun x24=>(if (!x24)=true then (Option.map Sum.inr (some 5)) else (some (.inl (IntKind.i64.wrap (s20+1))))))) else (Option.map Sum.inr (Option.bind (Vta p2.Out p2.At p2.Rings p2.Memory p2.Choices p2.Out) fun x26=>(if (!x26)=true then (some 3) else (some 0)))))
noncomputable def Q3b (p0:Net) (p2:State) (s15:Int):Option (Int ⊕ Int) :=
  (if (decide (s15<((p2.Memory).length:Int)))=true then (Option.bind (idx p2.Memory s15) fun x17=>(Option.bind (Qlb x17) fun x19=>(if (x19 != 0)=true then (Option.map Sum.inr (some x19)) else (if (decide (x17.Dep > ((p2.Choices).length:Int)))=true then (Option.map Sum.inr (some 3)) else (some (.inl (IntKind.i64.wrap (s15+1)))))))) else (Option.map Sum.inr (iter (fun ss_55:Int=>Q6b p0 p2 ss_55) 0)))
noncomputable def Q0b (p0:Net) (p2:State) (s10:Int):Option (Int ⊕ Int) :=
  (if (decide (s10<((p2.Rings).length:Int)))=true then (Option.bind (idx p2.Rings s10) fun x12=>(if (decide (((x12).length:Int) > p0.Room))=true then (Option.map Sum.inr (some 2)) else (Option.bind (Vta x12 p2.At p2.Rings p2.Memory p2.Choices p2.Out) fun x14=>(if (!x14)=true then (Option.map Sum.inr (some 3)) else (some (.inl (IntKind.i64.wrap (s10+1)))))))) else (Option.map Sum.inr (iter (fun ss_43:Int=>Q3b p0 p2 ss_43) 0)))
noncomputable def move_Check_l4 (p0:Net) (p1:List (List Item)) (p2:State) (s5:Int):Option (Int ⊕ Int) :=
  (if (decide (s5<((p2.At).length:Int)))=true then (Option.bind (idx p2.At s5) fun x7=>(Option.bind (if (decide (x7<0))=true then (some true) else (Option.bind (idx p1 s5) fun x8=>(some (decide (x7 > ((x8).length:Int)))))) fun c9=>(if c9=true then (Option.map Sum.inr (some 3)) else (some (.inl (IntKind.i64.wrap (s5+1))))))) else (Option.map Sum.inr (iter (fun ss_29:Int=>Q0b p0 p2 ss_29) 0)))
noncomputable def move_Check (p0:Net) (p1:List (List Item)) (p2:State):Option Int :=
  (Option.bind (Qob p0 p1) fun x2=>(if (x2 != 0)=true then (some x2) else (if ((((p2.At).length:Int) != ((p1).length:Int)) || ((((p2.Rings).length:Int) != p0.Rings) || ((p2.Memory).length:Int) != ((p0.Nodes).length:Int)))=true then (some 4) else (if ((decide (((p2.Choices).length:Int) > 500)) || decide (((p2.Out).length:Int) > 2000))=true then (some 2) else (iter (fun ss_15:Int=>move_Check_l4 p0 p1 p2 ss_15) 0)))))
def bld_copyCheck (p0:List Int):Option (List Int):=some p0
noncomputable def Jna (p0:Int) (p1:List Int):Option (Unit × (List Int)) :=
  (Option.bind (bld_copyCheck p1) fun x2=>(Option.bind (app x2 [p0]) fun x4=>(some ((),x4))))
noncomputable def Jka  (s5:Int) (s6:List Int):Option ((Int × (List Int)) ⊕ (List Int)) :=
  (if (decide (s5 ≥ 128))=true then (Option.bind (Jna (ibits .or .u8 (IntKind.u8.wrap s5) 128) s6) fun x7=>(Option.bind (shr .u64 s5 7) fun x8=>(some (.inl (x8,x7.2))))) else (Option.map Sum.inr (Option.bind (Jna (IntKind.u8.wrap s5) s6) fun x9=>(some x9.2))))
noncomputable def Qka (p0:Int) (p1:List Int):Option (List Int) :=
  (Option.bind (shl .u64 (IntKind.u64.wrap p0) 1) fun x3=>(Option.bind (shr .i64 p0 63) fun x4=>(iter (fun ss_3:Int × (List Int)=>Jka ss_3.1 ss_3.2) (ibits .xor .u64 x3 (IntKind.u64.wrap x4),p1))))
noncomputable def Zla (p0:List Item) (s3:Int) (s4:List Int):Option ((Int × (List Int)) ⊕ (List Int)) :=
  (if (decide (s3<((p0).length:Int)))=true then (Option.bind (idx p0 s3) fun x6=>(Option.bind (Qka x6.Key s4) fun x8=>(Option.bind (Qka x6.Val x8) fun x10=>(Option.bind (Qka x6.Dep x10) fun x11=>(some (.inl (IntKind.i64.wrap (s3+1),x11))))))) else (Option.map Sum.inr (some s4)))
noncomputable def J2a (p0:List Item) (p1:List Int):Option (List Int) :=
  (Option.bind (Qka ((p0).length:Int) p1) fun x2=>(iter (fun ss_3:Int × (List Int)=>Zla p0 ss_3.1 ss_3.2) (0,x2)))
def bld_String (p0:List Int):Option (List UInt8):=bldS p0
noncomputable def save_Bytes_l1 (s19:Int) (x22:Memory) (s29:Int) (s30:List Int):Option ((Int × (List Int)) ⊕ ((Int × (List Int)) ⊕ ((List UInt8) × Int))) :=
  (if (decide (s29<((x22.Keys).length:Int)))=true then (Option.bind (idx x22.Keys s29) fun x32=>(Option.bind (Qka x32.Key s30) fun x34=>(Option.bind (Qka x32.N x34) fun x35=>(some (.inl (IntKind.i64.wrap (s29+1),x35)))))) else (Option.map Sum.inr (some (.inl (IntKind.i64.wrap (s19+1),s30)))))
noncomputable def Q7b (p2:State) (s38:Int) (s39:List Int):Option ((Int × (List Int)) ⊕ ((List UInt8) × Int)) :=
  (if (decide (s38<((p2.Choices).length:Int)))=true then (Option.bind (idx p2.Choices s38) fun x41=>(Option.bind (Qka x41.Node s39) fun x43=>(Option.bind (Qka x41.Lane x43) fun x44=>(some (.inl (IntKind.i64.wrap (s38+1),x44)))))) else (Option.map Sum.inr (Option.bind (J2a p2.Out s39) fun x46=>(Option.bind (bld_String x46) fun x48=>(some (x48,0))))))
noncomputable def Qvb (p2:State) (s19:Int) (s20:List Int):Option ((Int × (List Int)) ⊕ ((List UInt8) × Int)) :=
  (if (decide (s19<((p2.Memory).length:Int)))=true then (Option.bind (idx p2.Memory s19) fun x22=>(Option.bind (Qka x22.Sum s20) fun x24=>(Option.bind (Qka x22.Dep x24) fun x26=>(Option.bind (Qka ((x22.Keys).length:Int) x26) fun x28=>(iter (fun ss_33:Int × (List Int)=>save_Bytes_l1 s19 x22 ss_33.1 ss_33.2) (0,x28)))))) else (Option.map Sum.inr (Option.bind (Qka ((p2.Choices).length:Int) s20) fun x37=>(iter (fun ss_40:Int × (List Int)=>Q7b p2 ss_40.1 ss_40.2) (0,x37)))))
noncomputable def Q5b (p2:State) (s12:Int) (s13:List Int):Option ((Int × (List Int)) ⊕ ((List UInt8) × Int)) :=
  (if (decide (s12<((p2.Rings).length:Int)))=true then (Option.bind (idx p2.Rings s12) fun x15=>(Option.bind (J2a x15 s13) fun x16=>(some (.inl (IntKind.i64.wrap (s12+1),x16))))) else (Option.map Sum.inr (Option.bind (Qka ((p2.Memory).length:Int) s13) fun x18=>(iter (fun ss_28:Int × (List Int)=>Qvb p2 ss_28.1 ss_28.2) (0,x18)))))
noncomputable def Qub (p2:State) (s5:Int) (s6:List Int):Option ((Int × (List Int)) ⊕ ((List UInt8) × Int)) :=
  (if (decide (s5<((p2.At).length:Int)))=true then (Option.bind (idx p2.At s5) fun x8=>(Option.bind (Qka x8 s6) fun x9=>(some (.inl (IntKind.i64.wrap (s5+1),x9))))) else (Option.map Sum.inr (Option.bind (Qka ((p2.Rings).length:Int) s6) fun x11=>(iter (fun ss_10:Int × (List Int)=>Q5b p2 ss_10.1 ss_10.2) (0,x11)))))
noncomputable def save_Bytes (p0:Net) (p1:List (List Item)) (p2:State):Option ((List UInt8) × Int) :=
  (Option.bind (move_Check p0 p1 p2) fun x2=>(if (x2 != 0)=true then (some ([],x2)) else (Option.bind (Qka ((p2.At).length:Int) ([]:List Int)) fun x4=>(iter (fun ss_4:Int × (List Int)=>Qub p2 ss_4.1 ss_4.2) (0,x4)))))
noncomputable def Jja (p0:List UInt8) (s1:Int) (s2:Int):Option ((Int × Int) ⊕ (Int × (List UInt8))) :=
  (if (decide (s2<(if ((p0).length:Int)<10 then ((p0).length:Int) else 10)))=true then (Option.bind (idx p0 s2) fun x5=>(Option.bind (shl .u64 (IntKind.u64.wrap (ibits .and .u8 (x5.toNat:Int) 127)) (IntKind.i64.wrap (7*s2))) fun x6=>(Option.bind (idx p0 s2) fun x8=>(if (decide ((x8.toNat:Int)<128))=true then (Option.bind (sub p0 (IntKind.i64.wrap (s2+1)) ((p0).length:Int)) fun x10=>(Option.bind (shr .u64 (ibits .or .u64 s1 x6) 1) fun x12=>(Option.map Sum.inr (some (ibits .xor .i64 (IntKind.i64.wrap x12) (IntKind.i64.wrap (0 - (IntKind.i64.wrap (ibits .and .u64 (ibits .or .u64 s1 x6) 1)))),x10))))) else (some (.inl (ibits .or .u64 s1 x6,IntKind.i64.wrap (s2+1)))))))) else (Option.map Sum.inr (none)))
noncomputable def Qna (p0:List UInt8):Option (Int × (List UInt8)) :=
  (iter (fun ss_5:Int × Int=>Jja p0 ss_5.1 ss_5.2) (0,0))
noncomputable def Zqa (x2:Int × (List UInt8)) (s4:Int) (s5:List UInt8) (s6:List Int):Option ((Int × (List UInt8) × (List Int)) ⊕ ((List Int) × (List UInt8))) :=
  (if (decide (s4<x2.1))=true then (Option.bind (Qna s5) fun x7=>(Option.bind (app s6 [x7.1]) fun x8=>(some (.inl (IntKind.i64.wrap (s4+1),x7.2,x8))))) else (Option.map Sum.inr (some (s6,s5))))
noncomputable def Yca (p0:List UInt8):Option ((List Int) × (List UInt8)) :=
  (Option.bind (Qna p0) fun x2=>(if ((decide (x2.1<0)) || decide (x2.1 > ((x2.2).length:Int)))=true then (none) else (iter (fun ss_5:Int × (List UInt8) × (List Int)=>Zqa x2 ss_5.1 ss_5.2.1 ss_5.2.2) (0,x2.2,[]))))
noncomputable def Vga (p0:List UInt8):Option (Item × (List UInt8)) :=
  (Option.bind (Qna p0) fun x4=>(Option.bind (Qna x4.2) fun x5=>(Option.bind (Qna x5.2) fun x6=>(some ((⟨x4.1,x5.1,x6.1⟩:Item),x6.2)))))
noncomputable def Jxa (x2:Int × (List UInt8)) (s4:Int) (s5:List UInt8) (s6:List Item):Option ((Int × (List UInt8) × (List Item)) ⊕ ((List Item) × (List UInt8))) :=
  (if (decide (s4<x2.1))=true then (Option.bind (Vga s5) fun x7=>(Option.bind (app s6 [x7.1]) fun x8=>(some (.inl (IntKind.i64.wrap (s4+1),x7.2,x8))))) else (Option.map Sum.inr (some (s6,s5))))
noncomputable def Vsa (p0:List UInt8):Option ((List Item) × (List UInt8)) :=
  (Option.bind (Qna p0) fun x2=>(if ((decide (x2.1<0)) || decide (x2.1 > ((x2.2).length:Int)))=true then (none) else (iter (fun ss_5:Int × (List UInt8) × (List Item)=>Jxa x2 ss_5.1 ss_5.2.1 ss_5.2.2) (0,x2.2,[]))))
noncomputable def Zja (p0:List UInt8):Option ((List Item) × (List UInt8)) :=
  (Option.bind (Vsa p0) fun x2=>(some (x2.1,x2.2)))
noncomputable def Zga (x2:Int × (List UInt8)) (s4:Int) (s5:List UInt8) (s6:List (List Item)):Option ((Int × (List UInt8) × (List (List Item))) ⊕ ((List (List Item)) × (List UInt8))) :=
  (if (decide (s4<x2.1))=true then (Option.bind (Zja s5) fun x7=>(Option.bind (app s6 [x7.1]) fun x8=>(some (.inl (IntKind.i64.wrap (s4+1),x7.2,x8))))) else (Option.map Sum.inr (some (s6,s5))))
noncomputable def V0a (p0:List UInt8):Option ((List (List Item)) × (List UInt8)) :=
  (Option.bind (Qna p0) fun x2=>(if ((decide (x2.1<0)) || decide (x2.1 > ((x2.2).length:Int)))=true then (none) else (iter (fun ss_5:Int × (List UInt8) × (List (List Item))=>Zga x2 ss_5.1 ss_5.2.1 ss_5.2.2) (0,x2.2,[]))))
noncomputable def Ywa (p0:List UInt8):Option (Keyed × (List UInt8)) :=
  (Option.bind (Qna p0) fun x3=>(Option.bind (Qna x3.2) fun x4=>(some ((⟨x3.1,x4.1⟩:Keyed),x4.2))))
noncomputable def Jwa (x2:Int × (List UInt8)) (s4:Int) (s5:List UInt8) (s6:List Keyed):Option ((Int × (List UInt8) × (List Keyed)) ⊕ ((List Keyed) × (List UInt8))) :=
  (if (decide (s4<x2.1))=true then (Option.bind (Ywa s5) fun x7=>(Option.bind (app s6 [x7.1]) fun x8=>(some (.inl (IntKind.i64.wrap (s4+1),x7.2,x8))))) else (Option.map Sum.inr (some (s6,s5))))
noncomputable def Zsa (p0:List UInt8):Option ((List Keyed) × (List UInt8)) :=
  (Option.bind (Qna p0) fun x2=>(if ((decide (x2.1<0)) || decide (x2.1 > ((x2.2).length:Int)))=true then (none) else (iter (fun ss_5:Int × (List UInt8) × (List Keyed)=>Jwa x2 ss_5.1 ss_5.2.1 ss_5.2.2) (0,x2.2,[]))))
noncomputable def Qhb (p0:List UInt8):Option (Memory × (List UInt8)) :=
  (Option.bind (Qna p0) fun x4=>(Option.bind (Qna x4.2) fun x5=>(Option.bind (Zsa x5.2) fun x6=>(some ((⟨x4.1,x6.1,x5.1⟩:Memory),x6.2)))))
noncomputable def Jsa (x2:Int × (List UInt8)) (s4:Int) (s5:List UInt8) (s6:List Memory):Option ((Int × (List UInt8) × (List Memory)) ⊕ ((List Memory) × (List UInt8))) :=
  (if (decide (s4<x2.1))=true then (Option.bind (Qhb s5) fun x7=>(Option.bind (app s6 [x7.1]) fun x8=>(some (.inl (IntKind.i64.wrap (s4+1),x7.2,x8))))) else (Option.map Sum.inr (some (s6,s5))))
noncomputable def Zna (p0:List UInt8):Option ((List Memory) × (List UInt8)) :=
  (Option.bind (Qna p0) fun x2=>(if ((decide (x2.1<0)) || decide (x2.1 > ((x2.2).length:Int)))=true then (none) else (iter (fun ss_5:Int × (List UInt8) × (List Memory)=>Jsa x2 ss_5.1 ss_5.2.1 ss_5.2.2) (0,x2.2,[]))))
noncomputable def Qpb (p0:List UInt8):Option (Choice × (List UInt8)) :=
  (Option.bind (Qna p0) fun x3=>(Option.bind (Qna x3.2) fun x4=>(some ((⟨x3.1,x4.1⟩:Choice),x4.2))))
noncomputable def Jua (x2:Int × (List UInt8)) (s4:Int) (s5:List UInt8) (s6:List Choice):Option ((Int × (List UInt8) × (List Choice)) ⊕ ((List Choice) × (List UInt8))) :=
  (if (decide (s4<x2.1))=true then (Option.bind (Qpb s5) fun x7=>(Option.bind (app s6 [x7.1]) fun x8=>(some (.inl (IntKind.i64.wrap (s4+1),x7.2,x8))))) else (Option.map Sum.inr (some (s6,s5))))
noncomputable def Zka (p0:List UInt8):Option ((List Choice) × (List UInt8)) :=
  (Option.bind (Qna p0) fun x2=>(if ((decide (x2.1<0)) || decide (x2.1 > ((x2.2).length:Int)))=true then (none) else (iter (fun ss_5:Int × (List UInt8) × (List Choice)=>Jua x2 ss_5.1 ss_5.2.1 ss_5.2.2) (0,x2.2,[]))))
noncomputable def save_Of (p0:Net) (p1:List (List Item)) (p2:List UInt8):Option (State × Int) :=
  (Option.bind (Qob p0 p1) fun x2=>(if (x2 != 0)=true then (some ((⟨[],[],[],[],[]⟩:State),x2)) else (Option.bind (Yca p2) fun x4=>(Option.bind (V0a x4.2) fun x6=>(Option.bind (Zna x6.2) fun x8=>(Option.bind (Zka x8.2) fun x10=>(Option.bind (Zja x10.2) fun x12=>(Option.bind (save_Bytes p0 p1 (⟨x4.1,x6.1,x8.1,x10.1,x12.1⟩:State)) fun x14=>(if ((x14.2 != 0) || !(x14.1==p2))=true then (some ((⟨[],[],[],[],[]⟩:State),12)) else (some ((⟨x4.1,x6.1,x8.1,x10.1,x12.1⟩:State),0)))))))))))
noncomputable def Q4b (s1:Int) (x4:Write) (s5:List (List UInt8)):Option ((List (List UInt8)) ⊕ ((Int × (List (List UInt8))) ⊕ (List (List UInt8)))) :=
  (if (decide (((s5).length:Int)≤x4.At))=true then (Option.bind (app s5 [[]]) fun x6=>(some (.inl x6))) else (Option.map Sum.inr (Option.bind (ixN s5 x4.At) fun x7=>(Option.bind ((s5)[x7]?) fun x8=>(some (.inl (IntKind.i64.wrap (s1+1),(List.set s5 x7 x4.Bytes))))))))
noncomputable def Zva (p0:List Write) (s1:Int) (s2:List (List UInt8)):Option ((Int × (List (List UInt8))) ⊕ (List (List UInt8))) :=
  (if (decide (s1<((p0).length:Int)))=true then (Option.bind (idx p0 s1) fun x4=>(iter (fun ss_20:List (List UInt8)=>Q4b s1 x4 ss_20) s2)) else (Option.map Sum.inr (some s2)))
noncomputable def Jeb (p0:List Write) (p1:List (List UInt8)):Option (List (List UInt8)) :=
  (iter (fun ss_15:Int × (List (List UInt8))=>Zva p0 ss_15.1 ss_15.2) (0,p1))
noncomputable def disk_Cut (p0:Disk) (p1:Int):Option (Disk × Int) :=
  (Option.bind (Yea p0) fun x2=>(if (x2 != 0)=true then (some ((⟨[],[]⟩:Disk),x2)) else (if ((decide (p1<0)) || decide (p1 > ((p0.Wait).length:Int)))=true then (some ((⟨[],[]⟩:Disk),3)) else (Option.bind (Vja p0.Sectors) fun x7=>(Option.bind (sub p0.Wait 0 p1) fun x8=>(Option.bind (Jeb x8 x7) fun x9=>(some ((⟨x9,[]⟩:Disk),0))))))))
noncomputable def disk_Flush (p0:Disk):Option (Disk × Int) :=
  (Option.bind (disk_Cut p0 ((p0.Wait).length:Int)) fun x2=>(some (x2.1,x2.2)))
noncomputable def Zha (p0:List UInt8) (s1:Int) (s2:List (List UInt8)):Option ((Int × (List (List UInt8))) ⊕ ((List (List UInt8)) × Int × Int)) :=
  (if (decide (s1<((p0).length:Int)))=true then (Option.bind (sub p0 s1 ((p0).length:Int)) fun x4=>(Option.bind (idx x4 0) fun x6=>(if ((decide ((IntKind.i64.wrap (x6.toNat:Int))<1)) || ((decide ((IntKind.i64.wrap (x6.toNat:Int)) > 60)) || decide (((x4).length:Int)<(IntKind.i64.wrap ((IntKind.i64.wrap (x6.toNat:Int))+3)))))=true then (Option.map Sum.inr (some (s2,s1,0))) else (Option.bind (sub x4 0 (IntKind.i64.wrap ((IntKind.i64.wrap (x6.toNat:Int))+1))) fun x10=>(Option.bind (frame_sum x10) fun x11=>(Option.bind (idx x4 (IntKind.i64.wrap ((IntKind.i64.wrap (x6.toNat:Int))+1))) fun x15=>(Option.bind (shl .i64 (IntKind.i64.wrap (x15.toNat:Int)) 8) fun x16=>(Option.bind (idx x4 (IntKind.i64.wrap ((IntKind.i64.wrap (x6.toNat:Int))+2))) fun x17=>(if ((ibits .or .i64 x16 (IntKind.i64.wrap (x17.toNat:Int))) != x11)=true then (Option.map Sum.inr (some (s2,s1,0))) else (Option.bind (sub x4 1 (IntKind.i64.wrap ((IntKind.i64.wrap (x6.toNat:Int))+1))) fun x20=>(Option.bind (app s2 [x20]) fun x21=>(some (.inl (IntKind.i64.wrap (s1+(IntKind.i64.wrap ((IntKind.i64.wrap (x6.toNat:Int))+3))),x21)))))))))))))) else (Option.map Sum.inr (some (s2,s1,0))))
noncomputable def frame_Read (p0:List UInt8):Option ((List (List UInt8)) × Int × Int) :=
  (if (decide (((p0).length:Int) > 12800))=true then (some ([],0,2)) else (iter (fun ss_12:Int × (List (List UInt8))=>Zha p0 ss_12.1 ss_12.2) (0,[])))
noncomputable def Yfa (p0:Int) (p1:Int) (p2:List (List UInt8)) (p3:List Write):Option ((List UInt8) × Bool) :=
  (if (decide ((IntKind.i64.wrap ((IntKind.i64.wrap (p1*60))+p0)) ≥ ((p2).length:Int)))=true then (some ([],false)) else (Option.bind (idx p2 (IntKind.i64.wrap ((IntKind.i64.wrap (p1*60))+p0))) fun x3=>(Option.bind (frame_Read x3) fun x4=>(Option.bind (if (((x4.1).length:Int) != 1)=true then (some true) else (Option.bind (idx p2 (IntKind.i64.wrap ((IntKind.i64.wrap (p1*60))+p0))) fun x5=>(if (x4.2.1 != ((x5).length:Int))=true then (some true) else (Option.bind (ixN x4.1 0) fun x6=>(Option.bind ((x4.1)[x6]?) fun x7=>(if (decide (((x7).length:Int)<3))=true then (some true) else (Option.bind (ixN x4.1 0) fun x8=>(Option.bind ((x4.1)[x8]?) fun x9=>(Option.bind (idx x9 1) fun x10=>(some ((IntKind.i64.wrap (x10.toNat:Int)) != p0))))))))))) fun c11=>(if c11=true then (some ([],false)) else (Option.bind (ixN x4.1 0) fun x14=>(Option.bind ((x4.1)[x14]?) fun x15=>(some (x15,true)))))))))
noncomputable def Jnb (p0:Disk) (p1:Int) (x5:(List UInt8) × Bool) (s9:List UInt8) (s10:Int):Option (((List UInt8) × Int) ⊕ ((List UInt8) × Int × Int)) :=
  (Option.bind (idx x5.1 2) fun x12=>(if (decide (s10≤(IntKind.i64.wrap (x12.toNat:Int))))=true then (Option.bind (Yfa s10 p1 p0.Sectors p0.Wait) fun x14=>(Option.bind (if (((x14.1).length:Int)==53)=true then (some true) else (Option.bind (idx x5.1 2) fun x15=>(if (s10==(IntKind.i64.wrap (x15.toNat:Int)))=true then (if (decide (((x14.1).length:Int) > 3))=true then (some (decide (((x14.1).length:Int)<53))) else (some false)) else (some false)))) fun c16=>(Option.bind (if (!x14.2)=true then (some true) else (Option.bind (idx x14.1 0) fun x17=>(Option.bind (idx x5.1 0) fun x18=>(if ((x17.toNat:Int) != (x18.toNat:Int))=true then (some true) else (Option.bind (idx x14.1 2) fun x19=>(Option.bind (idx x5.1 2) fun x20=>(if ((x19.toNat:Int) != (x20.toNat:Int))=true then (some true) else (some (!c16))))))))) fun c21=>(if c21=true then (Option.map Sum.inr (some ([],0,12))) else (Option.bind (sub x14.1 3 ((x14.1).length:Int)) fun x22=>(Option.bind (cat s9 x22) fun x23=>(some (.inl (x23,IntKind.i64.wrap (s10+1)))))))))) else (Option.map Sum.inr (Option.bind (idx x5.1 0) fun x25=>(some (s9,IntKind.i64.wrap (x25.toNat:Int),0))))))
noncomputable def save_Get (p0:Disk) (p1:Int):Option ((List UInt8) × Int × Int) :=
  (Option.bind (Yea p0) fun x2=>(if (x2 != 0)=true then (some ([],0,x2)) else (if ((decide (p1<0)) || decide (p1 > 1))=true then (some ([],0,3)) else (Option.bind (Yfa (0:Int) p1 p0.Sectors p0.Wait) fun x5=>(Option.bind (if (!x5.2)=true then (some true) else (if (((x5.1).length:Int) != 3)=true then (some true) else (Option.bind (idx x5.1 0) fun x6=>(if (decide ((IntKind.i64.wrap (x6.toNat:Int)) > 200))=true then (some true) else (Option.bind (idx x5.1 2) fun x7=>(some (decide ((IntKind.i64.wrap (x7.toNat:Int)) ≥ 60)))))))) fun c8=>(if c8=true then (some ([],0,12)) else (iter (fun ss_29:(List UInt8) × Int=>Jnb p0 p1 x5 ss_29.1 ss_29.2) ([],1))))))))
noncomputable def Yba (p0:List Int) (p1:List Int) (s1:Int):Option (Int ⊕ Bool) :=
  (if (decide (s1<((p0).length:Int)))=true then (Option.bind (idx p0 s1) fun x4=>(Option.bind (idx p1 s1) fun x5=>(if (x4 != x5)=true then (Option.map Sum.inr (some false)) else (some (.inl (IntKind.i64.wrap (s1+1))))))) else (Option.map Sum.inr (some true)))
noncomputable def Y7a (p0:List Int) (p1:List Int):Option Bool :=
  (if (((p0).length:Int) != ((p1).length:Int))=true then (some false) else (iter (fun ss_6:Int=>Yba p0 p1 ss_6) 0))
noncomputable def Vya (p0:List Item) (p1:List Item) (s1:Int):Option (Int ⊕ Bool) :=
  (if (decide (s1<((p0).length:Int)))=true then (Option.bind (idx p0 s1) fun x4=>(Option.bind (idx p1 s1) fun x5=>(if (!(x4==x5))=true then (Option.map Sum.inr (some false)) else (some (.inl (IntKind.i64.wrap (s1+1))))))) else (Option.map Sum.inr (some true)))
noncomputable def Yta (p0:List Item) (p1:List Item):Option Bool :=
  (if (((p0).length:Int) != ((p1).length:Int))=true then (some false) else (iter (fun ss_6:Int=>Vya p0 p1 ss_6) 0))
noncomputable def Vua (p0:List Item) (p1:List Item):Option Bool :=
  (Option.bind (Yta p0 p1) fun x2=>(some x2))
noncomputable def Q0a (p0:List (List Item)) (p1:List (List Item)) (s1:Int):Option (Int ⊕ Bool) :=
  (if (decide (s1<((p0).length:Int)))=true then (Option.bind (idx p0 s1) fun x3=>(Option.bind (idx p1 s1) fun x5=>(Option.bind (Vua x3 x5) fun x7=>(if (!x7)=true then (Option.map Sum.inr (some false)) else (some (.inl (IntKind.i64.wrap (s1+1)))))))) else (Option.map Sum.inr (some true)))
noncomputable def Q1a (p0:List (List Item)) (p1:List (List Item)):Option Bool :=
  (if (((p0).length:Int) != ((p1).length:Int))=true then (some false) else (iter (fun ss_6:Int=>Q0a p0 p1 ss_6) 0))
noncomputable def Vpa (p0:List Keyed) (p1:List Keyed) (s1:Int):Option (Int ⊕ Bool) :=
  (if (decide (s1<((p0).length:Int)))=true then (Option.bind (idx p0 s1) fun x4=>(Option.bind (idx p1 s1) fun x5=>(if (!(x4==x5))=true then (Option.map Sum.inr (some false)) else (some (.inl (IntKind.i64.wrap (s1+1))))))) else (Option.map Sum.inr (some true)))
noncomputable def Yla (p0:List Keyed) (p1:List Keyed):Option Bool :=
  (if (((p0).length:Int) != ((p1).length:Int))=true then (some false) else (iter (fun ss_6:Int=>Vpa p0 p1 ss_6) 0))
noncomputable def Yaa (p0:Memory) (p1:Memory):Option Bool :=
  (Option.bind (if (p0.Sum==p1.Sum)=true then (if (p0.Dep==p1.Dep)=true then (Option.bind (Yla p0.Keys p1.Keys) fun x1=>(some x1)) else (some false)) else (some false)) fun c2=>(some c2))
noncomputable def Qxa (p0:List Memory) (p1:List Memory) (s1:Int):Option (Int ⊕ Bool) :=
  (if (decide (s1<((p0).length:Int)))=true then (Option.bind (idx p0 s1) fun x3=>(Option.bind (idx p1 s1) fun x5=>(Option.bind (Yaa x3 x5) fun x7=>(if (!x7)=true then (Option.map Sum.inr (some false)) else (some (.inl (IntKind.i64.wrap (s1+1)))))))) else (Option.map Sum.inr (some true)))
noncomputable def Qza (p0:List Memory) (p1:List Memory):Option Bool :=
  (if (((p0).length:Int) != ((p1).length:Int))=true then (some false) else (iter (fun ss_6:Int=>Qxa p0 p1 ss_6) 0))
noncomputable def Vha (p0:List Choice) (p1:List Choice) (s1:Int):Option (Int ⊕ Bool) :=
  (if (decide (s1<((p0).length:Int)))=true then (Option.bind (idx p0 s1) fun x4=>(Option.bind (idx p1 s1) fun x5=>(if (!(x4==x5))=true then (Option.map Sum.inr (some false)) else (some (.inl (IntKind.i64.wrap (s1+1))))))) else (Option.map Sum.inr (some true)))
noncomputable def V9a (p0:List Choice) (p1:List Choice):Option Bool :=
  (if (((p0).length:Int) != ((p1).length:Int))=true then (some false) else (iter (fun ss_6:Int=>Vha p0 p1 ss_6) 0))
noncomputable def Yia (p0:State) (p1:State):Option Bool :=
  (Option.bind (Y7a p0.At p1.At) fun x1=>(Option.bind (if x1=true then (Option.bind (Q1a p0.Rings p1.Rings) fun x2=>(if x2=true then (Option.bind (Qza p0.Memory p1.Memory) fun x3=>(if x3=true then (Option.bind (V9a p0.Choices p1.Choices) fun x4=>(if x4=true then (Option.bind (Vua p0.Out p1.Out) fun x5=>(some x5)) else (some false))) else (some false))) else (some false))) else (some false)) fun c6=>(some c6)))
noncomputable def Y8a:Option Bool :=
  (Option.bind Yga fun x6=>(Option.bind Jsb fun x7=>(Option.bind (move_Play x6 x7 ([0,0,0]:List Int)) fun x10=>(Option.bind Yga fun x14=>(Option.bind Jsb fun x15=>(Option.bind (save_Bytes x14 x15 x10.1) fun x16=>(Option.bind Yga fun x21=>(Option.bind Jsb fun x22=>(Option.bind (save_Of x21 x22 x16.1) fun x24=>(Option.bind (save_Put (⟨[],[]⟩:Disk) (1:Int) (7:Int) ([97,98,99]:List UInt8)) fun x26=>(Option.bind (disk_Flush x26.1) fun x28=>(Option.bind (save_Get x28.1 (1:Int)) fun x30=>(Option.bind (if (x16.2==0)=true then (if (x24.2==0)=true then (if (x26.2==0)=true then (if (x28.2==0)=true then (if (x30.2.2==0)=true then (if (!(x16.1==[]))=true then (Option.bind (Yia x10.1 x24.1) fun x31=>(if x31=true then (if (((x10.1.Choices).length:Int)==1)=true then (if (x30.1==[97,98,99])=true then (some (x30.2.1==7)) else (some false)) else (some false)) else (some false))) else (some false)) else (some false)) else (some false)) else (some false)) else (some false)) else (some false)) fun c32=>(some c32))))))))))))))
noncomputable def Vea (p0:List (List UInt8)) (p1:List (List UInt8)) (s1:Int):Option (Int ⊕ Bool) :=
  (if (decide (s1<((p0).length:Int)))=true then (Option.bind (idx p0 s1) fun x4=>(Option.bind (idx p1 s1) fun x5=>(if (!(x4==x5))=true then (Option.map Sum.inr (some false)) else (some (.inl (IntKind.i64.wrap (s1+1))))))) else (Option.map Sum.inr (some true)))
noncomputable def J3a (p0:List (List UInt8)) (p1:List (List UInt8)):Option Bool :=
  (if (((p0).length:Int) != ((p1).length:Int))=true then (some false) else (iter (fun ss_6:Int=>Vea p0 p1 ss_6) 0))
noncomputable def Voa (p0:List Write) (p1:List Write) (s1:Int):Option (Int ⊕ Bool) :=
  (if (decide (s1<((p0).length:Int)))=true then (Option.bind (idx p0 s1) fun x4=>(Option.bind (idx p1 s1) fun x5=>(if (!(x4==x5))=true then (Option.map Sum.inr (some false)) else (some (.inl (IntKind.i64.wrap (s1+1))))))) else (Option.map Sum.inr (some true)))
noncomputable def Zaa (p0:List Write) (p1:List Write):Option Bool :=
  (if (((p0).length:Int) != ((p1).length:Int))=true then (some false) else (iter (fun ss_6:Int=>Voa p0 p1 ss_6) 0))
noncomputable def Yva (p0:Disk) (p1:Disk):Option Bool :=
  (Option.bind (J3a p0.Sectors p1.Sectors) fun x1=>(Option.bind (if x1=true then (Option.bind (Zaa p0.Wait p1.Wait) fun x2=>(some x2)) else (some false)) fun c3=>(some c3)))
noncomputable def Yra (p0:Disk):Option Bool :=
  (Option.bind (Yva p0 (⟨[],[]⟩:Disk)) fun x2=>(some x2))
noncomputable def Z0a (p0:List UInt8) (s3:Int) (s5:Int) (s6:List Int):Option ((Int × (List Int)) ⊕ ((Int × (List Int)) ⊕ Int)) :=
  (if (decide (s5 ≥ 0))=true then (Option.bind (idx p0 s3) fun x7=>(Option.bind (shr .u8 (x7.toNat:Int) s5) fun x8=>(Option.bind (app s6 [ibits .and .u8 x8 1]) fun x9=>(some (.inl (IntKind.i64.wrap (s5 - 1),x9)))))) else (Option.map Sum.inr (some (.inl (IntKind.i64.wrap (s3+1),s6)))))
noncomputable def Zwa (s18:Int) (s24:Int) (s25:List Int):Option ((Int × (List Int)) ⊕ ((Int × (List Int)) ⊕ Int)) :=
  (if (decide (s24<(([1,0,0,0,1,0,0,0,0,0,0,1,0,0,0,0,1]).length:Int)))=true then (Option.bind (ixN [1,0,0,0,1,0,0,0,0,0,0,1,0,0,0,0,1] s24) fun x28=>(Option.bind (([1,0,0,0,1,0,0,0,0,0,0,1,0,0,0,0,1])[x28]?) fun x29=>(Option.bind (ixN s25 (IntKind.i64.wrap (s18+s24))) fun x30=>(Option.bind ((s25)[x30]?) fun x31=>(Option.bind (ixN s25 (IntKind.i64.wrap (s18+s24))) fun x32=>(Option.bind ((s25)[x32]?) fun x33=>(some (.inl (IntKind.i64.wrap (s24+1),(List.set s25 x32 (ibits .xor .u8 x31 x29))))))))))) else (Option.map Sum.inr (some (.inl (IntKind.i64.wrap (s18+1),s25)))))
noncomputable def Zya (x35:List Int) (s36:Int) (s37:Int):Option ((Int × Int) ⊕ Int) :=
  (if (decide (s37<((x35).length:Int)))=true then (Option.bind (idx x35 s37) fun x39=>(some (.inl (IntKind.i64.wrap ((IntKind.i64.wrap (2*s36))+(IntKind.i64.wrap x39)),IntKind.i64.wrap (s37+1))))) else (Option.map Sum.inr (some s36)))
noncomputable def Jma  (s18:Int) (s19:List Int):Option ((Int × (List Int)) ⊕ Int) :=
  (if (decide ((IntKind.i64.wrap (s18+16))<((s19).length:Int)))=true then (Option.bind (ixN s19 s18) fun x22=>(Option.bind ((s19)[x22]?) fun x23=>(if (x23==1)=true then (iter (fun ss_53:Int × (List Int)=>Zwa s18 ss_53.1 ss_53.2) (0,s19)) else (some (.inl (IntKind.i64.wrap (s18+1),s19)))))) else (Option.map Sum.inr (Option.bind (sub s19 (IntKind.i64.wrap (((s19).length:Int) - 16)) ((s19).length:Int)) fun x35=>(iter (fun ss_60:Int × Int=>Zya x35 ss_60.1 ss_60.2) (0,0)))))
noncomputable def Zza  (s12:Int) (s13:List Int):Option ((Int × (List Int)) ⊕ Int) :=
  (if (decide (s12<16))=true then (Option.bind (ixN s13 s12) fun x14=>(Option.bind ((s13)[x14]?) fun x15=>(Option.bind (ixN s13 s12) fun x16=>(Option.bind ((s13)[x16]?) fun x17=>(some (.inl (IntKind.i64.wrap (s12+1),(List.set s13 x16 (ibits .xor .u8 x15 1))))))))) else (Option.map Sum.inr (iter (fun ss_47:Int × (List Int)=>Jma ss_47.1 ss_47.2) (0,s13))))
noncomputable def Z1a (p0:List UInt8) (s3:Int) (s4:List Int):Option ((Int × (List Int)) ⊕ Int) :=
  (if (decide (s3<((p0).length:Int)))=true then (iter (fun ss_20:Int × (List Int)=>Z0a p0 s3 ss_20.1 ss_20.2) (7,s4)) else (Option.map Sum.inr (Option.bind (appz s4 16 0) fun x11=>(iter (fun ss_27:Int × (List Int)=>Zza ss_27.1 ss_27.2) (0,x11)))))
noncomputable def Jcb (p0:List UInt8):Option Int :=
  (Option.bind (mk0 (IntKind.i64.wrap ((IntKind.i64.wrap (8*((p0).length:Int)))+16))) fun x2=>(iter (fun ss_15:Int × (List Int)=>Z1a p0 ss_15.1 ss_15.2) (0,x2)))
noncomputable def Yxa (p0:List UInt8):Option (List UInt8) :=
  (Option.bind (cat (toStr [IntKind.u8.wrap ((p0).length:Int)]) p0) fun x2=>(Option.bind (Jcb x2) fun x4=>(Option.bind (quo .i64 x4 256) fun x8=>(Option.bind (rem x4 256) fun x9=>(Option.bind (cat x2 (toStr [IntKind.u8.wrap x8,IntKind.u8.wrap x9])) fun x10=>(some x10))))))
noncomputable def Zea (p0:Disk) (p1:Int) (p2:Int) (x2:Disk × Int) (p3:List UInt8) (x7:Int) (s16:Int) (s17:List Write):Option ((Int × (List Write)) ⊕ Bool) :=
  (if (decide (s16 ≥ 1))=true then (Option.bind (sub p3 (IntKind.i64.wrap (50*(IntKind.i64.wrap (s16 - 1)))) (if ((p3).length:Int)<(IntKind.i64.wrap (50*s16)) then ((p3).length:Int) else (IntKind.i64.wrap (50*s16)))) fun x20=>(Option.bind (cat (toStr [IntKind.u8.wrap p2,IntKind.u8.wrap s16,IntKind.u8.wrap x7]) x20) fun x21=>(Option.bind (Yxa x21) fun x22=>(Option.bind (app s17 [(⟨IntKind.i64.wrap ((IntKind.i64.wrap (60*p1))+s16),x22⟩:Write)]) fun x23=>(some (.inl (IntKind.i64.wrap (s16 - 1),x23))))))) else (Option.map Sum.inr (Option.bind (Yxa (toStr [IntKind.u8.wrap p2,0,IntKind.u8.wrap x7])) fun x26=>(Option.bind (app s17 [(⟨IntKind.i64.wrap (60*p1),x26⟩:Write)]) fun x27=>(Option.bind (if (x2.2==0)=true then (Option.bind (J3a x2.1.Sectors p0.Sectors) fun x28=>(if x28=true then (Option.bind (Zaa x2.1.Wait x27) fun x29=>(some x29)) else (some false))) else (some false)) fun c30=>(some c30))))))
noncomputable def Zfa (p0:Disk) (p1:Int) (p2:Int) (x2:Disk × Int) (p3:List UInt8) (x7:Int) (z8:Int):Option Bool :=
  (Option.bind Y8a fun x9=>(if ((!x9) || z8 != 0)=true then (Option.bind Y8a fun x11=>(Option.bind (if x11=true then (if (x2.2==z8)=true then (Option.bind (Yra x2.1) fun x12=>(some x12)) else (some false)) else (some false)) fun c13=>(some c13))) else (Option.bind (Vra p0.Wait) fun x15=>(iter (fun ss_18:Int × (List Write)=>Zea p0 p1 p2 x2 p3 x7 ss_18.1 ss_18.2) (x7,x15)))))
noncomputable def Zca (p0:Disk) (p1:Int) (p2:Int) (x2:Disk × Int) (p3:List UInt8) (z5:Int):Option Bool :=
  (Option.bind (quo .i64 (IntKind.i64.wrap (((p3).length:Int)+49)) 50) fun x7=>(if ((z5==0) && ((decide (x7 ≥ 60)) || decide ((IntKind.i64.wrap ((IntKind.i64.wrap (((p0.Wait).length:Int)+x7))+1)) > 300)))=true then (Zfa p0 p1 p2 x2 p3 x7 8) else (Zfa p0 p1 p2 x2 p3 x7 z5)))
noncomputable def Jgb (p0:Disk) (p1:Int) (p2:Int) (p3:List UInt8):Option Bool :=
  (Option.bind (save_Put p0 p1 p2 p3) fun x2=>(Option.bind (Yka p0) fun x4=>(if ((x4==0) && ((decide (p1<0)) || ((decide (p1 > 1)) || ((decide (p2<0)) || decide (p2 > 200)))))=true then (Zca p0 p1 p2 x2 p3 3) else (Zca p0 p1 p2 x2 p3 x4))))
end Go.Proofs.YtchmpaaofmihcaaGreat
namespace Go.Proofs.YtchmpaaofmihcaaGreat
open Go.RowKit
set_option linter.unusedVariables false
set_option linter.unusedSimpArgs false
inductive TI where
  | no
  | s0
  | sc (z:AV)
  | it (k:IntKind)
  | bo
  | str
  | sl (e c:Nat)
  | ag (z:List AV) (m:Nat) (fs:List (Nat × Nat × Nat))
  | ar (z:List AV) (m:Nat)
inductive TT where
  | l (t:Nat) (i:TI)
  | n (k:Nat) (a b:TT)
def TT.get:TT→Nat→TI
  | .l t i,u=>match Nat.beq t u with
    | true=>i
    | false=>.no
  | .n k a b,u=>match Nat.blt u k with
    | true=>a.get u
    | false=>b.get u
def TI.zero:TI→Option (List AV)
  | .sc z=>some [z]
  | .it k=>some [.int k 0]
  | .bo=>some [.bool false]
  | .str=>some [.str []]
  | .sl _ _=>some [.nils]
  | .ag z _ _=>some z
  | .ar z _=>some z
  | _=>none
def TI.size:TI→Option Nat
  | .no=>none
  | .ag _ m _=>some m
  | .ar _ m=>some m
  | _=>some 1
def TOne (P:Program) (t:Nat):Prop:=kindT P t=some false∧P.cellsOf t=1∧(P.underlying t).isSome=true
def FsOk (P:Program) (t:Nat):Nat→List (Nat × Nat × Nat)→Prop
  | _,[]=>True
  | k,(o,_,ft)::r=>FieldAt P t k ft o∧FsOk P t (k+1) r
def TAgg (P:Program) (t:Nat) (z:List AV) (m:Nat):Prop:=kindT P t=some true∧P.cellsOf t=m∧(P.underlying t).isSome=true∧Q7a P t=some z∧z.length=m
def TOk (P:Program) (t:Nat):TI→Prop
  | .no=>True
  | .s0=>TOne P t
  | .sc z=>TOne P t∧Q7a P t=some [z]
  | .it k=>TOne P t∧Q7a P t=some [.int k 0]∧P.underlying t=some (.int k)
  | .bo=>TOne P t∧Q7a P t=some [.bool false]∧P.underlying t=some .bool
  | .str=>TOne P t∧Q7a P t=some [.str []]∧P.underlying t=some .string
  | .sl e c=>TOne P t∧Q7a P t=some [.nils]∧SliceOf P t e c
  | .ag z m fs=>TAgg P t z m∧Zpa P t=some (fs.map fun q=>(q.1,q.2.1))∧FsOk P t 0 fs
  | .ar z m=>TAgg P t z m
def TT.Ok (P:Program):TT→Prop
  | .l t i=>TOk P t i
  | .n _ a b=>a.Ok P∧b.Ok P
section
variable {P:Program} {N n:Nat} {aw aw':List Ob} {l:List (Nat × AV)} {tt:TT}
theorem TT.get_ok:∀ {tt:TT},tt.Ok P→∀ u,TOk P u (tt.get u)
  | .l t i,h,u=>by
    show TOk P u (match Nat.beq t u with | true=>i | false=>.no)
    cases hb:Nat.beq t u
    · trivial
    · have:=Nat.eq_of_beq_eq_true hb;subst this;exact h
  | .n k a b,h,u=>by
    show TOk P u (match Nat.blt u k with | true=>a.get u | false=>b.get u)
    cases Nat.blt u k
    · exact TT.get_ok h.2 u
    · exact TT.get_ok h.1 u
theorem TI.zero_ok {t:Nat} {i:TI} {z:List AV} (h:TOk P t i) (hz:i.zero=some z):Q7a P t=some z:=by
  cases i<;>simp only [TI.zero] at hz<;>first | (cases hz;done) | (cases hz;first | exact h.2 | exact h.2.1 | exact h.1.2.2.2.1 | exact h.2.2.2.1)
theorem TI.size_ok {t m:Nat} {i:TI} (h:TOk P t i) (hm:i.size=some m):P.cellsOf t=m∧(P.underlying t).isSome=true:=by
  cases i<;>simp only [TI.size] at hm<;>first | (cases hm;done) | (cases hm;first | exact ⟨h.2.1,h.2.2⟩ | exact ⟨h.1.2.1,h.1.2.2.1⟩ | exact ⟨h.1.2.1,h.1.2.2⟩ | exact ⟨h.2.1,h.2.2.1⟩)
theorem fs_get {t:Nat}:∀ {fs:List (Nat × Nat × Nat)} {k i:Nat} {q:Nat × Nat × Nat},FsOk P t k fs→fs[i]?=some q→FieldAt P t (k+i) q.2.2 q.1
  | q'::r,k,0,q,h,e=>by simp at e;subst e;exact h.1
  | q'::r,k,i+1,q,h,e=>by
    have:=fs_get (k:=k+1) (i:=i) h.2 (by simpa using e)
    rwa [show k+1+i=k+(i+1) by omega] at this
  | [],k,i,q,h,e=>by simp at e
section
variable {α:Type}
def getC:List α→Nat→(α→Prop)→Prop
  | [],_,_=>False
  | a::l,k,K=>match k with
    | 0=>K a
    | k+1=>getC l k K
def setC:List α→Nat→α→(List α→Prop)→Prop
  | [],_,_,_=>False
  | a::l,k,b,K=>match k with
    | 0=>K (b::l)
    | k+1=>setC l k b fun l=>K (a::l)
def pushC:List α→α→(List α→Prop)→Prop
  | [],b,K=>K [b]
  | a::l,b,K=>pushC l b fun l=>K (a::l)
def lenC:List α→Nat→Prop→Prop
  | [],k,K=>match k with
    | 0=>K
    | _+1=>False
  | _::l,k,K=>match k with
    | 0=>False
    | k+1=>lenC l k K
def dropC:List α→Nat→(List α→Prop)→Prop
  | l,0,K=>K l
  | [],_+1,_=>False
  | _::l,k+1,K=>dropC l k K
def takeC:List α→Nat→(List α→Prop)→Prop
  | _,0,K=>K []
  | [],_+1,_=>False
  | a::l,k+1,K=>takeC l k fun l=>K (a::l)
def overC:List α→List α→(List α→Prop)→Prop
  | l,[],K=>K l
  | [],_::_,_=>False
  | _::l,b::bs,K=>overC l bs fun l=>K (b::l)
def splC:List α→Nat→List α→(List α→Prop)→Prop
  | l,0,bs,K=>overC l bs K
  | [],_+1,_,_=>False
  | a::l,k+1,bs,K=>splC l k bs fun l=>K (a::l)
def lenB:List α→Nat→Bool
  | [],k=>(match k with
    | 0=>true
    | _+1=>false)
  | _::l,k=>(match k with
    | 0=>false
    | k+1=>lenB l k)
def sameB:List α→List α→Bool
  | [],[]=>true
  | _::l,_::m=>sameB l m
  | _,_=>false
def aggC (row:List α) (off m:Nat) (K:List α→Prop):Prop :=
  match off with
  | 0=>(match lenB row m with
    | true=>K row
    | false=>takeC row m K)
  | off=>dropC row off fun r=>takeC r m K
def putC (l:List α) (off:Nat) (bs:List α) (K:List α→Prop):Prop :=
  match off with
  | 0=>(match sameB l bs with
    | true=>K bs
    | false=>splC l 0 bs K)
  | off=>splC l off bs K
theorem lenB_ok:∀ {l:List α} {k:Nat},lenB l k=true→l.length=k
  | [],0,_=>rfl
  | [],_+1,h=>by cases h
  | _::_,0,h=>by cases h
  | _::l,k+1,h=>by have:=lenB_ok (l:=l) (k:=k) h;simp [this]
theorem sameB_ok:∀ {l m:List α},sameB l m=true→l.length=m.length
  | [],[],_=>rfl
  | [],_::_,h=>by cases h
  | _::_,[],h=>by cases h
  | _::l,_::m,h=>by have:=sameB_ok (l:=l) (m:=m) h;simp [this]
theorem Z5a:∀ {l:List α} {k:Nat} {K:α→Prop},getC l k K→∃ a,l[k]?=some a∧K a
  | [],_,_,h=>h.elim
  | a::l,0,K,h=>⟨a,rfl,h⟩
  | a::l,k+1,K,h=>by obtain ⟨b,h1,h2⟩:=Z5a (l:=l) (k:=k) (K:=K) h;exact ⟨b,by simpa using h1,h2⟩
theorem setC_ok:∀ {l:List α} {k:Nat} {b:α} {K:List α→Prop},setC l k b K→K (l.set k b)
  | [],_,_,_,h=>h.elim
  | a::l,0,b,K,h=>h
  | a::l,k+1,b,K,h=>setC_ok (l:=l) (k:=k) (K:=fun l=>K (a::l)) h
theorem pushC_ok:∀ {l:List α} {b:α} {K:List α→Prop},pushC l b K→K (l++[b])
  | [],_,_,h=>h
  | a::l,b,K,h=>pushC_ok (l:=l) (K:=fun l=>K (a::l)) h
theorem lenC_ok:∀ {l:List α} {k:Nat} {K:Prop},lenC l k K→l.length=k∧K
  | [],0,K,h=>⟨rfl,h⟩
  | [],_+1,_,h=>h.elim
  | _::_,0,_,h=>h.elim
  | _::l,k+1,K,h=>by have:=lenC_ok (l:=l) (k:=k) (K:=K) h;exact ⟨by simp [this.1],this.2⟩
theorem dropC_ok:∀ {l:List α} {k:Nat} {K:List α→Prop},dropC l k K→k≤l.length∧K (l.drop k)
  | l,0,K,h=>⟨Nat.zero_le _,by cases l<;>exact h⟩
  | [],_+1,_,h=>h.elim
  | _::l,k+1,K,h=>by have:=dropC_ok (l:=l) (k:=k) (K:=K) h;exact ⟨by simp [this.1],by simpa using this.2⟩
theorem takeC_ok:∀ {l:List α} {k:Nat} {K:List α→Prop},takeC l k K→k≤l.length∧K (l.take k)
  | l,0,K,h=>⟨Nat.zero_le _,by cases l<;>exact h⟩
  | [],_+1,_,h=>h.elim
  | a::l,k+1,K,h=>by have:=takeC_ok (l:=l) (k:=k) (K:=fun l=>K (a::l)) h;exact ⟨by simp [this.1],by simpa using this.2⟩
theorem overC_ok:∀ {l bs:List α} {K:List α→Prop},overC l bs K→bs.length≤l.length∧K (bs++l.drop bs.length)
  | l,[],K,h=>⟨Nat.zero_le _,by cases l<;>exact h⟩
  | [],_::_,_,h=>h.elim
  | _::l,b::bs,K,h=>by have:=overC_ok (l:=l) (bs:=bs) (K:=fun l=>K (b::l)) h;exact ⟨by simp [this.1],by simpa using this.2⟩
theorem splC_ok:∀ {l:List α} {k:Nat} {bs:List α} {K:List α→Prop},splC l k bs K→k+bs.length≤l.length∧K (l.take k++bs++l.drop (k+bs.length))
  | l,0,bs,K,h=>by have:=overC_ok (l:=l) (bs:=bs) (K:=K) (by cases l<;>exact h);exact ⟨by omega,by simpa using this.2⟩
  | [],_+1,_,_,h=>h.elim
  | a::l,k+1,bs,K,h=>by
    have:=splC_ok (l:=l) (k:=k) (bs:=bs) (K:=fun l=>K (a::l)) h
    refine ⟨by simp;omega,?_⟩
    rw [show k+1+bs.length=(k+bs.length)+1 by omega]
    simpa using this.2
theorem aggC_ok {row:List α} {off m:Nat} {K:List α→Prop} (h:aggC row off m K):off+m≤row.length∧K ((row.drop off).take m):=by
  have key:∀ {o:Nat},(dropC row o fun r=>takeC r m K)→o+m≤row.length∧K ((row.drop o).take m):=fun {o} h=>by
    obtain ⟨h1,h2⟩:=dropC_ok h
    obtain ⟨h3,h4⟩:=takeC_ok h2
    exact ⟨by rw [List.length_drop] at h3;omega,h4⟩
  unfold aggC at h
  split at h
  · split at h
    · rename_i hb
      have:=lenB_ok hb
      subst this
      exact ⟨by omega,by simpa using h⟩
    · obtain ⟨h3,h4⟩:=takeC_ok h
      exact ⟨by omega,by simpa using h4⟩
  · exact key h
theorem putC_ok {l:List α} {k:Nat} {bs:List α} {K:List α→Prop} (h:putC l k bs K):k+bs.length≤l.length∧K (l.take k++bs++l.drop (k+bs.length)):=by
  unfold putC at h
  split at h
  · split at h
    · rename_i hb
      have:=sameB_ok hb
      exact ⟨by omega,by rw [Nat.zero_add,← this];simpa using h⟩
    · exact splC_ok h
  · exact splC_ok h
end
def fA (a:AV) (K:AV→Prop):Prop :=
  match a with
  | .any=>K .any
  | .int k n=>K (.int k n)
  | .bool b=>K (.bool b)
  | .str s=>K (.str s)
  | .agg cs=>K (.agg cs)
  | .tup vs=>K (.tup vs)
  | .nils=>K .nils
  | .sl rows=>K (.sl rows)
  | .ref id=>K (.ref id)
  | .ptr id off=>K (.ptr id off)
  | .elt row off=>K (.elt row off)
  | .aptr id size i off=>K (.aptr id size i off)
  | .func f caps=>K (.func f caps)
  | .nilf=>K .nilf
  | .nilp=>K .nilp
  | .nili=>K .nili
  | .mpr id=>K (.mpr id)
  | .np id=>K (.np id)
  | .ifc t a=>K (.ifc t a)
  | .cst v=>K (.cst v)
  | .vw id size lo n cap=>K (.vw id size lo n cap)
  | .ref2 id=>K (.ref2 id)
  | .aptr2 id i=>K (.aptr2 id i)
  | .iref id i=>K (.iref id i)
  | .bnd f cs=>K (.bnd f cs)
theorem fA_ok {a:AV} {K:AV→Prop} (h:fA a K):K a:=by cases a<;>exact h
def cellsC (a:AV) (K:List AV→Prop):Prop :=
  match a with
  | .any | .tup _ | .cst _=>False
  | .agg cs=>K cs
  | a=>fA a fun a=>K [a]
theorem cellsC_ok {a:AV} {K:List AV→Prop} (h:cellsC a K):∃ cs,a.cells=some cs∧K cs:=by
  cases a<;>first | exact h.elim | exact ⟨_,rfl,h⟩
def evsC (n:Nat) (l:List (Nat × AV)):List Operand→(List AV→Prop)→Prop
  | [],K=>K []
  | x::xs,K=>fA (evA n l x) fun a=>evsC n l xs fun as₀=>K (a::as₀)
theorem evsC_ok:∀ {xs:List Operand} {K:List AV→Prop},evsC n l xs K→K (xs.map (evA n l))
  | [],K,h=>h
  | x::xs,K,h=>evsC_ok (xs:=xs) (K:=fun as₀=>K (evA n l x::as₀)) (fA_ok (a:=evA n l x) (K:=fun a=>evsC n l xs fun as₀=>K (a::as₀)) h)
def ikN:IntKind→Nat
  | .i8=>0
  | .i16=>1
  | .i32=>2
  | .i64=>3
  | .u8=>4
  | .u16=>5
  | .u32=>6
  | .u64=>7
theorem ikN_eq {a b:IntKind} (h:Nat.beq (ikN a) (ikN b)=true):a=b:=by cases a<;>cases b<;>first | rfl | cases h
def wLd (i:TI) (row:List AV) (off:Nat) (K:AV→Prop):Prop :=
  match i with
  | .no=>False
  | .ag _ m _=>aggC row off m fun cs=>K (.agg cs)
  | .ar _ m=>aggC row off m fun cs=>K (.agg cs)
  | _=>getC row off fun c=>fA c K
theorem ldA {t m:Nat} {row:List AV} {off:Nat} {K:AV→Prop} (hk:kindT P t=some true) (hm:P.cellsOf t=m) (h:aggC row off m fun cs=>K (.agg cs)):Z2a P t row off K:=by
  obtain ⟨h1,h2⟩:=aggC_ok h
  simp only [Z2a,hk,hm]
  exact ⟨h1,h2⟩
theorem ld1 {t:Nat} {row:List AV} {off:Nat} {K:AV→Prop} (hk:kindT P t=some false) (h:getC row off fun c=>fA c K):Z2a P t row off K:=by
  obtain ⟨c,h1,h2⟩:=Z5a h
  exact Jva hk h1 (fA_ok h2)
theorem wLd_ok {t:Nat} {i:TI} {row:List AV} {off:Nat} {K:AV→Prop} (ht:TOk P t i) (h:wLd i row off K):Z2a P t row off K:=by
  cases i with
  | no=>exact h.elim
  | ag z m fs=>exact ldA ht.1.1 ht.1.2.1 h
  | ar z m=>exact ldA ht.1 ht.2.1 h
  | s0=>exact ld1 ht.1 h
  | _=>exact ld1 ht.1.1 h
def wBin (tt:TT) (op:BinOp) (t:Nat) (a b:AV) (K:AV→Prop):Prop :=
  match a,b with
  | .int k x,.int k' y=>(match Nat.beq (ikN k) (ikN k') with
    | true=>(match op with
      | .add=>K (.int k (k.wrap (x+y)))
      | .sub=>K (.int k (k.wrap (x - y)))
      | .mul=>K (.int k (k.wrap (x*y)))
      | .and=>K (.int k (intBits .and k x y))
      | .or=>K (.int k (intBits .or k x y))
      | .xor=>K (.int k (intBits .xor k x y))
      | .eql=>K (.bool (x==y))
      | .neq=>K (.bool (x != y))
      | .lss=>K (.bool (decide (x<y)))
      | .leq=>K (.bool (decide (x≤y)))
      | .gtr=>K (.bool (decide (x > y)))
      | .geq=>K (.bool (decide (x ≥ y)))
      | _=>False)
    | false=>False)
  | .str x,.str y=>(match op with
    | .eql=>K (.bool (x==y))
    | .neq=>K (.bool (!(x==y)))
    | _=>False)
  | .bool x,.bool y=>(match tt.get t with
    | .bo=>(match op with
      | .eql=>K (.bool (x==y))
      | .neq=>K (.bool (!(x==y)))
      | _=>False)
    | _=>False)
  | _,_=>False
theorem wBin_ok {op:BinOp} {t:Nat} {a b:AV} {K:AV→Prop} (ht:tt.Ok P) (h:wBin tt op t a b K):vcBin P op t a b K:=by
  unfold wBin at h
  split at h
  · split at h
    · rename_i hk
      have:=ikN_eq hk
      subst this
      split at h<;>first | exact ⟨trivial,h⟩ | exact ⟨rfl,h⟩ | exact h.elim
    · exact h.elim
  · split at h<;>first | exact h.elim | exact h
  · split at h
    · rename_i hb
      have hu:=TT.get_ok ht t
      rw [hb] at hu
      have hu:=hu.2.2
      split at h<;>first | exact h.elim | (simp only [vcBin,hu];exact h)
    · exact h.elim
  · exact h.elim
def fillC (n:Nat) (l:List (Nat × AV)) (fs:List (Nat × Nat × Nat)):List AV→List (Nat × Operand)→(List AV→Prop)→Prop
  | cells,[],K=>K cells
  | cells,(i,x)::ps,K=>getC fs i fun (o,sz,_)=>cellsC (evA n l x) fun vs=>lenC vs sz (splC cells o vs fun cs=>fillC n l fs cs ps K)
theorem fillC_ok {fs:List (Nat × Nat × Nat)}:∀ {ps:List (Nat × Operand)} {cells:List AV} {K:List AV→Prop},fillC n l fs cells ps K →
    ∃ cs,fillAV (fun i=>(fs.map fun q=>(q.1,q.2.1))[i]?) cells (ps.map fun p=>(p.1,evA n l p.2))=some cs∧K cs
  | [],cells,K,h=>⟨cells,rfl,by cases cells<;>exact h⟩
  | (i,x)::ps,cells,K,h=>by
    have h:getC fs i fun q=>cellsC (evA n l x) fun vs=>lenC vs q.2.1 (splC cells q.1 vs fun cs=>fillC n l fs cs ps K):=by cases cells<;>exact h
    obtain ⟨q,h1,h⟩:=Z5a h
    obtain ⟨vs,h2,h⟩:=cellsC_ok h
    obtain ⟨h3,h⟩:=lenC_ok h
    obtain ⟨h4,h⟩:=splC_ok h
    obtain ⟨cs,h5,h6⟩:=fillC_ok h
    refine ⟨cs,?_,h6⟩
    show fillAV _ cells ((i,evA n l x)::ps.map fun p=>(p.1,evA n l p.2))=_
    have e1:(fs.map fun q=>(q.1,q.2.1))[i]?=some (q.1,q.2.1):=by rw [List.getElem?_map,h1];rfl
    unfold fillAV
    simp only [e1,h2]
    rw [if_pos ⟨h3,by omega⟩]
    exact h5
def wB (tt:TT) (n:Nat) (l:List (Nat × AV)) (b:Builtin) (args:List Operand) (ats:List TypeId) (K:AV→Prop):Prop :=
  match b,args,ats with
  | .len,[x],[t]=>(match tt.get t,evA n l x with
    | .str,.str s=>K (.int .i64 s.length)
    | .sl _ _,.nils=>K (.int .i64 0)
    | _,_=>False)
  | .min,[x,y],_=>(match evA n l x,evA n l y with
    | .int k a,.int _ b=>K (.int k (if b<a then b else a))
    | _,_=>False)
  | .max,[x,y],_=>(match evA n l x,evA n l y with
    | .int k a,.int _ b=>K (.int k (if b > a then b else a))
    | _,_=>False)
  | _,_,_=>False
theorem wB_ok {b:Builtin} {args:List Operand} {ats:List TypeId} {K:AV→Prop} (ht:tt.Ok P) (h:wB tt n l b args ats K):vcB P (mkA n l) aw b args ats K:=by
  unfold wB at h
  split at h
  · rename_i x t
    have hu:=TT.get_ok ht t
    split at h
    · rename_i s h1 h2
      rw [h1] at hu
      simp only [vcB,Q4a,hu.2.2,h2];exact h
    · rename_i e c h1 h2
      rw [h1] at hu
      simp only [vcB,Q4a,hu.2.2.u,h2];exact h
    · exact h.elim
  · split at h
    · rename_i h1 h2
      simp only [vcB,Q4a,h1,h2];exact h
    · exact h.elim
  · split at h
    · rename_i h1 h2
      simp only [vcB,Q4a,h1,h2];exact h
    · exact h.elim
  · exact h.elim
def wV (tt:TT) (n:Nat) (l:List (Nat × AV)) (aw:List Ob) (op:Op) (K:AV→Prop):Prop :=
  match op with
  | .move x=>fA (evA n l x) K
  | .assign x=>fA (evA n l x) K
  | .pick c a b=>(match evA n l c,evA n l a,evA n l b with
    | .bool t,.bool x,.bool y=>K (.bool (if t then x else y))
    | .bool t,.int k x,.int k' y=>(match Nat.beq (ikN k) (ikN k') with
      | true=>K (.int k (if t then x else y))
      | false=>False)
    | _,_,_=>False)
  | .load t x=>(match evA n l x with
    | .ptr id off=>getC aw id fun o=>(match o with
      | .box cs=>wLd (tt.get t) cs off K
      | _=>False)
    | .elt row off=>wLd (tt.get t) row off K
    | _=>False)
  | .fieldAddr t x k=>(match tt.get t with
    | .ag _ _ fs=>getC fs k fun (o,_,_)=>(match evA n l x with
      | .ptr id off=>K (.ptr id (off+o))
      | .elt row off=>K (.elt row (off+o))
      | .aptr id s i off=>K (.aptr id s i (off+o))
      | _=>False)
    | _=>False)
  | .field t x k=>(match tt.get t,evA n l x with
    | .ag _ _ fs,.agg cs=>getC fs k fun (o,_,ft)=>wLd (tt.get ft) cs o K
    | _,_=>False)
  | .binOp op t x y _=>wBin tt op t (evA n l x) (evA n l y) K
  | .unOp op _ x=>(match op,evA n l x with
    | .not,.bool b=>K (.bool (!b))
    | .neg,.int k a=>K (.int k (k.wrap (0 - a)))
    | _,_=>False)
  | .convert s t x=>(match evA n l x with
    | .int _ a=>(match tt.get s,tt.get t with
      | .it _,.it k=>K (.int k (k.wrap a))
      | _,_=>False)
    | _=>False)
  | .makeFunc (.func f) first caps=>(match first.toList with
    | []=>evsC n l caps.toList fun cs=>K (.func f cs)
    | x::xs=>(match caps.toList with
      | []=>evsC n l (x::xs) fun cs=>K (.bnd f cs)
      | _=>False))
  | .build t parts=>(match tt.get t with
    | .ag z _ fs=>fillC n l fs z parts.toList fun cs=>K (.agg cs)
    | _=>False)
  | .extract x k=>(match evA n l x with
    | .tup vs=>getC vs k fun v=>fA v K
    | _=>False)
  | .nilCheck x=>(match evA n l x with
    | .ptr id off=>K (.ptr id off)
    | .elt row off=>K (.elt row off)
    | .aptr id s i off=>K (.aptr id s i off)
    | .func f cs=>K (.func f cs)
    | .bnd f cs=>K (.bnd f cs)
    | _=>False)
  | .call c=>(match c.callee with
    | .builtin b=>wB tt n l b c.args.toList c.argTypes.toList K
    | _=>False)
  | _=>False
theorem wV_ok {op:Op} {K:AV→Prop} (ht:tt.Ok P) (h:wV tt n l aw op K):vcQ P (mkA n l) aw op K:=by
  cases op with
  | move x=>exact v_move rfl (fA_ok h)
  | assign x=>exact Qwb rfl (fA_ok h)
  | pick c a b =>
    simp only [wV] at h
    split at h
    · rename_i h1 h2 h3
      exact v_pick h1 (by rw [h2,h3];rfl) h
    · rename_i h1 h2 h3
      split at h
      · rename_i hk
        have:=ikN_eq hk
        subst this
        exact v_pick h1 (by rw [h2,h3];simp only [pickV,if_true]) h
      · exact h.elim
    · exact h.elim
  | load t x =>
    simp only [wV] at h
    split at h
    · rename_i h1
      obtain ⟨o,h2,h⟩:=Z5a h
      split at h
      · exact v_load_ptr h1 h2 (wLd_ok (TT.get_ok ht t) h)
      · exact h.elim
    · rename_i h1
      exact v_load_elt h1 (wLd_ok (TT.get_ok ht t) h)
    · exact h.elim
  | fieldAddr t x k =>
    simp only [wV] at h
    have hu:=TT.get_ok ht t
    split at h
    · rename_i z m fs h0
      rw [h0] at hu
      obtain ⟨q,h1,h⟩:=Z5a h
      have hF:=fs_get hu.2.2 h1
      rw [Nat.zero_add] at hF
      split at h
      · rename_i h2;exact v_fieldAddr_ptr hF h2 rfl h
      · rename_i h2;exact v_fieldAddr_elt hF h2 rfl h
      · rename_i h2;exact v_fieldAddr_aptr hF h2 rfl h
      · exact h.elim
    · exact h.elim
  | field t x k =>
    simp only [wV] at h
    have hu:=TT.get_ok ht t
    split at h
    · rename_i z m fs cs h0 h2
      rw [h0] at hu
      obtain ⟨q,h1,h⟩:=Z5a h
      have hF:=fs_get hu.2.2 h1
      rw [Nat.zero_add] at hF
      exact v_field hF h2 (wLd_ok (TT.get_ok ht _) h)
    · exact h.elim
  | binOp op t x y yt =>
    have:=wBin_ok ht h
    simp only [vcQ,Q4a];exact this
  | unOp op t x =>
    simp only [wV] at h
    split at h
    · rename_i h1;exact v_not h1 h
    · rename_i h1;exact v_neg h1 h
    · exact h.elim
  | convert s t x =>
    simp only [wV] at h
    split at h
    · rename_i h1
      have hu:=TT.get_ok ht t
      have hs:=TT.get_ok ht s
      split at h
      · rename_i h2 h3
        rw [h2] at hs
        rw [h3] at hu
        exact v_conv hs.2.2 hu.2.2 h1 h
      · exact h.elim
    · exact h.elim
  | makeFunc f first caps =>
    cases f with
    | func f =>
      simp only [wV] at h
      split at h
      · rename_i h1
        have:first=#[]:=by cases first;simp at h1;subst h1;rfl
        subst this
        exact v_makeFunc rfl (evsC_ok h)
      · rename_i x xs h1
        split at h
        · rename_i h2
          have h3:first=(x::xs).toArray:=by cases first;simp at h1;subst h1;rfl
          have h4:caps=#[]:=by cases caps;simp at h2;subst h2;rfl
          subst h3 h4
          exact v_bnd rfl (evsC_ok h)
        · exact h.elim
    | _=>exact h.elim
  | build t parts =>
    simp only [wV] at h
    have hu:=TT.get_ok ht t
    split at h
    · rename_i z m fs h0
      rw [h0] at hu
      obtain ⟨cs,h1,h2⟩:=fillC_ok h
      exact v_build hu.1.2.2.2.1 hu.2.1 h1 h2
    · exact h.elim
  | extract x k =>
    simp only [wV] at h
    split at h
    · rename_i h1
      obtain ⟨v,h2,h⟩:=Z5a h
      exact v_extract h1 h2 (fA_ok h)
    · exact h.elim
  | nilCheck x =>
    simp only [wV] at h
    split at h
    · rename_i h1;exact v_nil_ptr h1 h
    · rename_i h1;exact v_nil_elt h1 h
    · rename_i h1;exact v_nil_aptr h1 h
    · rename_i h1;exact v_nil_func h1 h
    · rename_i h1;exact v_nil_bnd h1 h
    · exact h.elim
  | call c =>
    obtain ⟨cal,as₀,ts⟩:=c
    cases cal with
    | builtin b=>exact wB_ok ht h
    | _=>exact h.elim
  | _=>exact h.elim
theorem wV_isQ {op:Op} {K:AV→Prop} (h:wV tt n l aw op K):isQ (mkA n l) op=true:=by
  cases op with
  | load t x =>
    simp only [wV] at h
    simp only [isQ,Q4a]
    split at h
    · rename_i h1;rw [h1]
    · rename_i h1;rw [h1]
    · exact h.elim
  | convert s t x =>
    simp only [wV] at h
    simp only [isQ,Q4a]
    split at h
    · rename_i h1;rw [h1]
    · exact h.elim
  | call c =>
    obtain ⟨cal,as₀,ts⟩:=c
    cases cal with
    | builtin b =>
      simp only [wV,wB] at h
      split at h<;>first | rfl | exact h.elim
    | _=>exact h.elim
  | _=>first | rfl | exact h.elim
theorem OP.wV {o:Oper} {K:AV→List Ob→Prop} (ht:tt.Ok P) (h:wV tt n l aw o.op fun r=>K r aw):OP P N o (mkA n l) aw K:=by
  refine OP.of_vc ?_
  have h1:=wV_isQ h
  have h2:=wV_ok ht h
  obtain ⟨d,op,ty,ps,af,g⟩:=o
  have key:vcVal P (mkA n l) aw op K:=by unfold vcVal;rw [if_pos h1];exact h2
  cases op with
  | call c =>
    obtain ⟨cal,as₀,ts⟩:=c
    cases cal with
    | builtin b=>exact key
    | _=>exact (show False from h).elim
  | _=>exact key
def wE (tt:TT) (n:Nat) (l:List (Nat × AV)) (aw:List Ob) (c:Nat) (op:Op) (K:AV→List Ob→Nat→Prop):Prop :=
  match op with
  | .alloc e=>(match (tt.get e).zero with
    | some z=>pushC aw (.box z) fun aw=>K (.ptr c 0) aw (c+1)
    | none=>False)
  | .box _ x=>cellsC (evA n l x) fun cs=>pushC aw (.box cs) fun aw=>K (.ptr c 0) aw (c+1)
  | .store t x y=>(match evA n l x with
    | .ptr id off=>(match (tt.get t).size with
      | some m=>cellsC (evA n l y) fun vs=>lenC vs m (getC aw id fun o=>(match o with
        | .box cs=>putC cs off vs fun cs=>setC aw id (.box cs) fun aw=>K .any aw c
        | _=>False))
      | none=>False)
    | _=>False)
  | op=>wV tt n l aw op fun r=>K r aw c
theorem OP.mono {o:Oper} {fr:List AV} {K K':AV→List Ob→Prop} (h:OP P N o fr aw K) (hm:∀ r aw',K r aw'→K' r aw'):OP P N o fr aw K' :=
  ⟨fun st h1 h2 σ w F a hc Kc Q hk=>h.out st h1 h2 σ w F a hc Kc Q fun r aw' σ' w' F' v hK=>hk r aw' σ' w' F' v (hm r aw' hK)⟩
theorem wE_ok {o:Oper} {c:Nat} {K:AV→List Ob→Nat→Prop} (ht:tt.Ok P) (hc:aw.length=c) (h:wE tt n l aw c o.op K):OP P N o (mkA n l) aw fun r aw'=>K r aw' aw'.length:=by
  obtain ⟨d,op,ty,ps,af,g⟩:=o
  subst hc
  have q:wV tt n l aw op (fun r=>K r aw aw.length)→OP P N ⟨d,op,ty,ps,af,g⟩ (mkA n l) aw fun r aw'=>K r aw' aw'.length:=fun h=>OP.wV ht h
  cases op with
  | alloc e =>
    simp only [wE] at h
    split at h
    · rename_i z hz
      have:=pushC_ok h
      exact o_alloc (TI.zero_ok (TT.get_ok ht e) hz) rfl rfl (by simpa using this)
    · exact h.elim
  | box e x =>
    obtain ⟨cs,h1,h2⟩:=cellsC_ok h
    have:=pushC_ok h2
    exact o_box h1 rfl rfl (by simpa using this)
  | store t x y =>
    simp only [wE] at h
    split at h
    · rename_i h1
      split at h
      · rename_i m hm
        obtain ⟨vs,h2,h⟩:=cellsC_ok h
        obtain ⟨h3,h⟩:=lenC_ok h
        obtain ⟨o,h4,h⟩:=Z5a h
        split at h
        · obtain ⟨h5,h⟩:=putC_ok h
          have h:=setC_ok h
          have hs:=TI.size_ok (TT.get_ok ht t) hm
          exact o_store_ptr hs.1 hs.2 h1 h2 h3 h4 (Nat.ble_eq_true_of_le (by omega)) rfl rfl (by simpa [splice] using h)
        · exact h.elim
      · exact h.elim
    · exact h.elim
  | _=>exact q h
def wR (tt:TT) (n:Nat):Nat→List Oper→List (Nat × AV)→List Ob→Nat→(List Oper→List (Nat × AV)→List Ob→Prop)→Prop
  | 0,os,l,aw,_,K=>K os l aw
  | _+1,[],_,_,_,_=>False
  | m + 1,o::os,l,aw,c,K=>(match o.guard with
    | none=>wE tt n l aw c o.op fun r aw c=>(match o.dst with
      | some t=>wR tt n m os ((t,r)::l) aw c K
      | none=>wR tt n m os l aw c K)
    | some _=>False)
theorem RS.go (ht:tt.Ok P) {ops:Array Oper} {K:List AV→List Ob→Prop}:∀ {m:Nat} {os:List Oper} {l:List (Nat × AV)} {aw:List Ob} {c:Nat},aw.length=c→wR tt n m os l aw c (fun os l aw=>RS P N ops os K (mkA n l) aw)→RS P N ops os K (mkA n l) aw
  | 0,os,l,aw,c,hc,h=>by cases os<;>exact h
  | _+1,[],_,_,_,_,h=>h.elim
  | m + 1,o::os,l,aw,c,hc,h=>by
    simp only [wR] at h
    split at h
    · rename_i hg
      refine RS.op hg ((wE_ok ht hc h).mono fun r aw' h=>?_)
      split at h
      · rename_i t hd
        rw [hd]
        exact RS.go ht rfl h
      · rename_i hd
        rw [hd]
        exact RS.go ht rfl h
    · exact h.elim
def okQ (ops:Array Oper):Array Bool→List Nat→Bool
  | _,[]=>true
  | li,i::is=>Region.free .any ops li i && (Region.ready .any ops li).contains i && (match ops.toList[i]? with
    | some o=>quietOp o.op && o.guard.isNone
    | none=>false) && okQ ops (li.setIfInBounds i true) is
def lisQ:Array Bool→List Nat→Array Bool
  | li,[]=>li
  | li,i::is=>lisQ (li.setIfInBounds i true) is
def wQ (tt:TT) (n:Nat) (ops:List Oper):List Nat→List (Nat × AV)→List Ob→(List (Nat × AV)→Prop)→Prop
  | [],l,aw,K=>K l
  | i::is,l,aw,K=>getC ops i fun o=>wV tt n l aw o.op fun r=>(match o.dst with
    | some t=>wQ tt n ops is ((t,r)::l) aw K
    | none=>wQ tt n ops is l aw K)
theorem RA.qs (ht:tt.Ok P) {ops:Array Oper} {K:List AV→List Ob→Prop} (hs:Region.noSelect ops=true) {k':Nat}:∀ {is:List Nat} {k:Nat} {li:Array Bool} {l:List (Nat × AV)},k=k' + is.length→okQ ops li is=true →
    wQ tt n ops.toList is l aw (fun l=>RA P N ops k' (lisQ li is) K (mkA n l) aw)→RA P N ops k li K (mkA n l) aw
  | [],k,li,l,hk,_,h=>by have:k=k':=hk;subst this;exact h
  | i :: is,k,li,l,hk,ho,h=>by
    obtain ⟨o,h1,h⟩:=Z5a h
    have h1':ops[i]?=some o:=by simpa using h1
    unfold okQ at ho
    rw [h1] at ho
    simp only [Bool.and_eq_true] at ho
    obtain ⟨⟨⟨ho1,ho2⟩,ho3,ho4⟩,ho5⟩:=ho
    have hg:o.guard=none:=by cases hg:o.guard<;>simp_all
    have hk:k=(k' + is.length)+1:=by rw [hk,List.length_cons];omega
    subst hk
    refine ⟨fun st e1 e2 σ w F a hc R hR=>?_⟩
    obtain ⟨v,r,hrun,hrel,hk⟩:=oper_all hc ho3 (wV_ok ht h)
    refine wpAny_take h1' hs ho1 ho2 (fun c a w hp=>hp) (.inl ⟨by simp [Region.wanted,hg],hrun⟩) ?_
    have hput:=V2a hc hrel o.dst
    rw [V1a] at hput
    refine RA.out ?_ st e1 e2 σ w F _ hput R hR
    split at hk
    · rename_i t hd
      rw [hd]
      exact RA.qs ht hs rfl ho5 hk
    · rename_i hd
      rw [hd]
      exact RA.qs ht hs rfl ho5 hk
theorem RO.g (ht:tt.Ok P) {ops:Array Oper} {i c:Nat} {K:List AV→List Ob→Prop} (hc:aw.length=c)
    (h:getC ops.toList i fun o=>o.guard=none∧wE tt n l aw c o.op fun r aw c=>(match o.dst with
      | some t=>K (mkA n ((t,r)::l)) aw
      | none=>K (mkA n l) aw)):RO P N ops i K (mkA n l) aw:=by
  obtain ⟨o,h1,hg,h⟩:=Z5a h
  refine RO.op (by simpa using h1) hg ((wE_ok ht hc h).mono fun r aw' h=>?_)
  split at h
  · rename_i t hd
    rw [hd];exact h
  · rename_i hd
    rw [hd];exact h
end
end Go.Proofs.YtchmpaaofmihcaaGreat
