/-
  Part 2 of the proof of shopRunLaw.proved: the code computes these functions, and the law holds of them, with no condition beyond the statement's own; put together by a program of ours (wip/decl.py) out of texts of ours.
-/
import Derived.Lib.Overlaps
import Derived.Sort.Defs
import Derived.Test.YtnlmagdmmjkklaaGreatZShopRun1
set_option linter.unusedVariables false
set_option linter.unusedSimpArgs false
namespace Go.Proofs.YtnlmagdmmjkklaaGreat
section
open Go.RowKit Go.Lib
section
variable {P:Program} {N n:Nat} {aw aw':List Ob} {l:List (Nat×AV)} {σ:List Value} {w:World} {F:Nat→Prop}
variable {v:Value}{code:Code}{Q:Exit->U AV->U Ob->Prop}{e c:Nat}{rows:U (U AV)}
theorem lV {t:Nat}{r:AV}{a:Act}(h:ARel σ w F (mkA n l) a)(hv:a.eval (.tmp t)=v)(hr:Rel σ w F r v):ARel σ w F (mkA n ((t,r)::l)) a:=by
 have e1:a.tmps.getD t undef=v:=hv;have hset:mkA n ((t,r)::l)=(mkA n l).set t r:=(eL n l (some t) r).symm;rw[hset];refine⟨?_,h.2⟩;by_cases ht:t<a.tmps.size
 .have:=h.1.set t hr;have e2:a.tmps.toList.set t v=a.tmps.toList:=by
   have e3:a.tmps.toList[t]?=some v:=by simp_all
   grind[List.set_getElem_self]
  grind
 .have hlen:=h.1.1;have:(mkA n l).set t r=mkA n l:=List.set_eq_of_length_le (by grind);rw[this];exact h.1
theorem T1 (t id:Nat)(hx:evA n l (.tmp t)=.ref id)(ho:aw[id]?=some (.arr e c rows))(h:∀C:Nat,rows.length<=C->T P N code Q (mkA n ((t,.vw id c 0 rows.length (some C))::l)) aw):T P N code Q (mkA n l) aw:=
 ⟨λst h1 h2 σ w F a hcur=>by
  have hr:=hcur.fr.ev (.tmp t);rw[aG,hx]at hr;generalize hv:a.eval (.tmp t)=v at hr;cases hr with
  |ref _ A m C hg=>
   obtain⟨hm,hmc⟩:=wA hcur.sim ho hg;subst hm;refine(h C hmc).out st h1 h2 σ w F a ⟨hcur.sim,lV hcur.fr hv ?_,hcur.mv,hcur.ds⟩;refine Rel.vw (σ:=σ) (w:=w) (F:=F) id c 0 rows.length rows.length C (some C) A A hg (by omega) (λhpos=>?_) (λk hk=>by cases hk;rfl) (λ_=>J);obtain⟨_,_,_,_,hc2⟩:=gM hcur.sim ho hg;grind⟩
theorem TO {α:Type}{en:α->U AV}{xs:U α}(t id:Nat)(hx:evA n l (.tmp t)=.ref id)(ho:aw[id]?=some (.arr e c (xs.map en)))(h:∀C:Nat,xs.length<=C->T P N code Q (mkA n ((t,.vw id c 0 xs.length (some C))::l)) aw):T P N code Q (mkA n l) aw:=
 T1 t id hx ho (λC hC=>by grind)
theorem unvw {id m:Nat}{C:Nat}(hs:Sim aw σ w F)(ho:aw[id]?=some (.arr e c rows))(hr:Rel σ w F (.vw id c 0 m (some C)) v)(hm:m=rows.length):Rel σ w F (.ref id) v:=by
 cases hr with
 |vw _ _ _ _ N0 C0 _ A B hσ hn hA hc hz=>
  obtain⟨h1,_⟩:=wA hs ho hσ;have h2:=hz J;subst h2;refine .ref id A m (C0- 0) ?_;grind
variable {d:Option Tmp} {ty:TypeId} {ps:String} {af:Array Edge} {g:Option (Nat×Bool)} {K2:AV→List Ob→Prop} {α:Type} {en:α→List AV} {xs ys:List α}
variable {t lo m K l0 n0 k C m0 ts lo2 m2 id2:Nat}{x y x1:Operand}{hi:Qbm Operand}{i j:Int}{k' kq:IntKind}{u:Unit}{o o':Ob}{cap cap2:Qbm Nat}{r:U α}{z:U AV}
theorem Ly {id:Nat}(hS:SliceOf P t e c)(hx:evA n l x=.vw id c lo m (some K))(h:K2 (.int .i64 K) aw):OP P N ⟨d,.call ⟨.builtin .cap,#[x],#[t]⟩,ty,ps,af,g⟩ (mkA n l) aw K2:=
 SC (λσ w F a har hs=>by
  have ex:=har.ev x;rw[aG,hx]at ex;generalize hvx:a.eval x=vx at ex;cases ex with
  |vw _ _ _ _ N0 C _ A B hσ hn hA hc hz=>
   have hk:=hc K J;have e1:C- lo=K:=by omega
   refine⟨.int .i64 K,_,w,aw,σ,F,_,?_,.inl J,hs,.refl ..,.int _ _,h⟩;simp[execOp,resolve,invoke,builtin,Sem.run_bind,hvx,Builtin.cap_,run_underlying hS.u,goInt,e1])
theorem vH {t:TypeId}{lo:Qbm Operand}{id:Nat}{k:IntKind}(hS:SliceOf P t e c)(hx:evA n l x=.vw id c l0 n0 (some K))(hl:(lo.map (evA n l)).getD (.int .i64 0)=.int k i)(hh:(hi.map (evA n l)).getD (.int .i64 n0)=.int k' j)(hv:vwok n0 i j=some u)(h:K2 (.vw id c (l0+i.toNat) (j.toNat- i.toNat) (some (K- i.toNat))) aw):
    OP P N ⟨d,.slice t x lo hi none,ty,ps,af,g⟩ (mkA n l) aw K2:=
  SC (fun σ w F a har hs=>by
    unfold vwok at hv;split at hv
    · rename_i hc;have ex:=har.ev x;rw[aG,hx]at ex;generalize hvx:a.eval x=vx at ex;cases ex with
      | vw _ _ _ _ N0 C _ A B hσ hn hA hcK hz=>
        have hK:=hcK K J;obtain⟨ds,hd⟩:=QM.1 hS.s;have hsz:=eb hd;rw[hS.c]at hsz;have b:=λw'=>lL (P:=P) har (lo:=lo) (hi:=hi) (b:=true) (len:=n0) (cap:=C- l0) (by rw[qh];exact hl) (by rw[qh];exact hh) hc.1 hc.2.1 hc.2.2 (by omega) w'
        have e2:C- l0- i.toNat=C- (l0+i.toNat):=by omega
        refine⟨.slice (if C- l0=i.toNat then A else A.map (·.add (i.toNat*c))) (j.toNat- i.toNat) (C- (l0+i.toNat)),_,w,aw,σ,F,_,?_,.inl J,hs,.refl ..,?_,h⟩
        · simp[execOp,hvx,Instr.sliceAt,Instr.slice,Sem.run_bind,run_underlying hS.u,b,hsz,e2]
        · refine .vw id c _ _ N0 C (some (K- i.toNat)) _ B hσ (by omega) (λhpos=>?_) (λk hk=>by grind) (λh0=>?_)
          · obtain⟨g0,e3,e4⟩:=hA (by omega);refine⟨g0,e3,?_⟩;have:¬C- l0=i.toNat:=by omega
            simp_all[Ru,Addr.add]
          · have h1:i.toNat=0:=by omega
            rw[<- hz (by omega),h1];simp[Addr.add]
    · cases hv)
theorem JB {t:TypeId}{hi:Operand}{id:Nat}(hS:SliceOf P t e c)(hx:evA n l x=.vw id c l0 n0 (some K))(hh:evA n l hi=.int k' j)(hv:vwok n0 0 j=some u)(h:K2 (.vw id c l0 j.toNat (some K)) aw):OP P N ⟨d,.slice t x none (some hi) none,ty,ps,af,g⟩ (mkA n l) aw K2:=
 vH (i:=0) (k:=.i64) hS hx J hh hv (by simpa using h)
theorem JR {v':Value}(hs:Sim aw σ w F)(ho:aw[k]?=some o)(hl:o.live=true)(hv:σ[k]?=some v)(hO:ORel (σ++[v']) w F o' v')(hsub:∀b,Bk o' v' b->Bk o v b):
  Sim (aw.set k .dead++[o']) (σ++[v']) w F/\Mv aw σ w F (aw.set k .dead++[o']) (σ++[v']) w F:=by
 have s3:=hs.lose k
 refine⟨s3.push2 o' v' (λ_ _=>J) (QJ _) hO (λb hb hd=>?_),⟨J,J,drO,QJ _,λ_ _ _=>J,λi v hv=>d8 hv,λ_ h=>h,λ_ h=>.inl h,λb hb=>.inl ?_⟩⟩
 .obtain⟨j,o1,v1,ho1,hl1,hv1,hb1⟩:=hd
  rcases bV ho1 with⟨rfl,rfl,_⟩|⟨hne,h2⟩
  .assumption
  .exact hs.sep j k o1 _ v1 _ b hne h2 ho hl1 hl hv1 hv hb1 (hsub b hb)
 .obtain⟨j,o1,v1,ho1,hl1,hv1,hb1⟩:=hb
  rcases gm ho1 with h2|⟨rfl,rfl⟩
  .have hlt:=(QD.1 h2).1
   rw[QQ (by rw[s3.len];exact hlt)]at hv1
   rcases bV h2 with⟨rfl,rfl,_⟩|⟨hne,h3⟩
   .grind[Ob.live]
   .exact⟨j,o1,v1,h3,hl1,hv1,hb1⟩
  .rw[<- s3.len]at hv1
   simp at hv1
   subst hv1
   exact⟨k,o,v,ho,hl,hv,hsub b hb1⟩
theorem I5 {fr:U AV}{a:Act}(ha:ARel σ w F fr a){len cap:Nat}{kh:IntKind}{h:Int}(eh:ev fr y=.int kh h)(h0:0<=h)(h2:h<=cap)(w':World):
  (Instr.sliceBounds true len cap none (some (a.eval y)) none).run P w'=.ok (0,h.toNat,cap) w':=by
 have e:a.eval y=.int kh h:=by have hz:=ha.ev y;rw[eh]at hz;generalize a.eval y=vz at hz ⊢;cases hz;rfl
 have b1:∀code w',(Instr.sliceBound (.int kh h) cap code).run P w'=.ok h.toNat w':=λcode w'=>run_sliceBound (P:=P) w' kh h cap code (by omega) (by omega)
 simp_all[Instr.sliceBounds]
theorem NK {t:TypeId}{hi:Operand}{id x:Nat}(hS:SliceOf P t e c)(hx:evA n l x1=.vw id c 0 m0 (some C))(hm:m0=xs.length)(hy:evA n l hi=.int kq j)(ho:aw[id]?=some (.arr e c (xs.map en)))(hr:roomx xs.length C j=some x)(hk:aw.length=k)(ha:aw.set id .dead++[.arrU e c (xs.map en) x]=aw')(h:K2 (.ref k) aw'):OP P N ⟨d,.slice t x1 none (some hi) none,ty,ps,af,g⟩ (mkA n l) aw K2:=
 SC (λσ w F a har hs=>by
  unfold roomx at hr;split at hr
  .rename_i hc;cases hr;subst hk ha hm;have ex:=har.ev x1;rw[aG,hx]at ex;generalize hvx:a.eval x1=vx at ex;cases ex with
   | vw _ _ _ _ N0 C0 _ A B hσ hn hA hcK hz=>
    have hCC:C0=C:=by grind
    have hAB:=hz J;subst hAB hCC;obtain⟨hN,flat,hown,hfl,hcase⟩:=gM hs ho hσ;rw[QV]at hN;subst hN;obtain⟨ds,hd⟩:=QM.1 hS.s;obtain⟨g0,e3,_⟩:=hA hc.1;subst e3;have hF:¬F g0:=by obtain⟨_,_,_,hf,_⟩:=hs.obj id _ _ ho hσ;grind
    have b:=λw'=>I5 (P:=P) har (y:=hi) (len:=xs.length) (cap:=C0- 0) (by rw[aG,hy]) (by omega) (by omega) w'
    have h0:(⟨g0,0,none⟩:Addr).add 0=⟨g0,0,none⟩:=by rfl
    have hrun:(execOp a.eval ⟨d,.slice t x1 none (some hi) none,ty,ps,af,g⟩).run P w=.ok (.value (.slice (some ⟨g0,0,none⟩) j.toNat C0)) w:=by simp only[Sr]at b hvx;simp[execOp,hvx,Instr.sliceAt,Instr.slice,Sem.run_bind,run_underlying hS.u,b,eb hd,h0]
    have hjj:(xs.map en).length+(j.toNat- xs.length)=j.toNat:=by grind
    obtain⟨s2,m2⟩:=JR (v':=.slice (some ⟨g0,0,none⟩) j.toNat C0) (o':=.arrU e c (xs.map en) (j.toNat- xs.length)) hs ho J hσ
     ⟨g0,C0,flat,by rw[hjj],by omega,by grind,hfl.mono (λ_ _ e=>d8 e) (λ_ e=>e) (λ_ _=>J),hF⟩ (λ_ h=>h)
    refine⟨_,_,w,_,_,F,_,hrun,.inl J,s2,m2,?_,h⟩;exact .ref _ _ _ _ (by rw[<- hs.len];simp)
  .cases hr)
theorem y8 {id x:Nat}{A:Qbm Addr}{q cp:Nat}(hs:Sim aw σ w F)(ho:aw[id]?=some (.arrU e c rows x))(hσ:σ[id]?=some (.slice A q cp)):
  q=rows.length+x/\q<=cp/\∃g flat cur,A=some ⟨g,0,none⟩/\¬F g/\w.heap[g]?=some (.cells cur e (0,0))/\cp<=maxLen/\cur.size=cp*c/\cur.toList.take (rows.length*c)=flat/\flat.length=rows.length*c/\FlatRel σ w F c rows flat:=by
 obtain⟨g,C,flat,e1,h1,hown,hfl,hF⟩:=hs.obj id _ _ ho hσ
 cases e1
 rcases hown.2 with⟨h2,_⟩|⟨g',cap,cur,h2,_,hg,h3,h4,h5,h6⟩
 .cases h2
 .cases h2
  exact⟨J,h1,g,flat,cur,J,hF,hg,h4,h5,h6,hown.1,hfl⟩
theorem sU {t:TypeId}{lo:Qbm Operand}{id x:Nat}{k:IntKind}(hS:SliceOf P t e c)(hx:evA n l x1=.ref id)(ho:aw[id]?=some (.arrU e c (xs.map en) x))(hl:(lo.map (evA n l)).getD (.int .i64 0)=.int k i)(hh:(hi.map (evA n l)).getD (.int .i64 (xs.length+x:Nat))=.int k' j)(hv:vwok (xs.length+x) i j=some u)(h:K2 (.vw id c i.toNat (j.toNat- i.toNat) none) aw):
    OP P N ⟨d,.slice t x1 lo hi none,ty,ps,af,g⟩ (mkA n l) aw K2:=
  SC (fun σ w F a har hs=>by
    unfold vwok at hv;split at hv
    · rename_i hc;have ex:=har.ev x1;rw[aG,hx]at ex;generalize hvx:a.eval x1=vx at ex;cases ex with
      | ref _ A q cp hσ=>
        obtain⟨h1,h2,g0,flat,cur,rfl,_⟩:=y8 hs ho hσ;rw[QV]at h1;subst h1;obtain⟨ds,hd⟩:=QM.1 hS.s;have hsz:=eb hd;rw[hS.c]at hsz;have b:=λw'=>lL (P:=P) har (lo:=lo) (hi:=hi) (b:=true) (len:=xs.length+x) (cap:=cp) (by rw[qh];exact hl) (by rw[qh];exact hh) hc.1 hc.2.1 hc.2.2 h2 w'
        refine⟨.slice (if cp=i.toNat then some ⟨g0,0,none⟩else(some ⟨g0,0,none⟩:Qbm Addr).map (·.add (i.toNat*c))) (j.toNat- i.toNat) (cp- i.toNat),_,w,aw,σ,F,_,?_,.inl J,hs,.refl ..,?_,h⟩
        · simp[execOp,hvx,Instr.sliceAt,Instr.slice,Sem.run_bind,run_underlying hS.u,b,hsz]
        · refine .vw id c _ _ _ cp none _ _ hσ (by omega) (λhpos=>⟨g0,J,?_⟩) (λk hk=>by cases hk) (λh0=>?_)
          · have:¬cp=i.toNat:=by omega
            simp_all[fK]
          grind[Addr.add]
    · cases hv)
theorem Ik:∀(k:Nat) (l:U (U AV)),(∀row,row∈l->row.length=c)->(l.drop k).flatten=l.flatten.drop (k*c):=by
 intro k;induction k with
 |zero=>simp
 | succ k ih=>
  intro l hl;cases l with
  |nil=>simp
  |cons x l=>
   rw[List.drop_succ_cons,ih l (λrow hr=>hl row (Rf _ hr)),Rk,Ru,Sl,<- hl x Q8,Ss (k*x.length),<- RY,Sa]
theorem KW {id x:Nat}(hS:SliceOf P t e c)(hen:∀a,(en a).length=c)(hx:evA n l x1=.vw id c lo m cap)(hy:evA n l y=.vw id c lo2 m2 cap2)(ho:aw[id]?=some (.arrU e c (xs.map en) x))(hr:cpyU xs x lo m lo2 m2=some r)(ha:aw.set id (.arr e c (r.map en))=aw')(h:K2 (.int .i64 m) aw'):OP P N ⟨d,.call ⟨.builtin .copy,#[x1,y],#[t,ts]⟩,ty,ps,af,g⟩ (mkA n l) aw K2:=
  SC (fun σ w F a har hs=>by
    unfold cpyU at hr;split at hr
    · rename_i hc;obtain⟨c1,c2,c3,c4,c5⟩:=hc;cases hr;subst ha;have ex:=har.ev x1;have ey:=har.ev y;rw[aG,hx]at ex;rw[aG,hy]at ey;generalize hvx:a.eval x1=vx at ex;generalize hvy:a.eval y=vy at ey;cases ex with
      |vw _ _ _ _ N0 C _ A B hσ hn hA _ _=>
      cases ey with
      |vw _ _ _ _ N1 C1 _ A1 B1 hσ1 hn1 hA1 _ _=>
      rw[hσ]at hσ1;cases hσ1;obtain⟨hq,hqc,g0,flat,cur,e0,hF,hg,hcm,hsz,htk,hfll,hfl⟩:=y8 hs ho hσ;subst e0;obtain⟨g1,e1,rfl⟩:=hA c1;cases e1;obtain⟨g1,e1,rfl⟩:=hA1 (by omega);cases e1;rw[QV]at hq htk hfll;obtain⟨ds,hds⟩:=QM.1 hS.s;have hsize:=eb hds;rw[hS.c]at hsize;have hrow:∀row,row∈xs.map en->row.length=c:=hfl.1;have hvl:(flat.drop (lo2*c)).length=m*c:=by grind[Nat.add_mul]
      have hfirst:(Builtin.firstCells c m (.slice (some ⟨g0,lo2*c,none⟩) m2 (C- lo2))).run P w=.ok (flat.drop (lo2*c)).toArray w:=
        run_firstCells_some w c m ⟨g0,lo2*c,none⟩ m2 (C- lo2) (flat.drop (lo2*c)) hvl (λj u hj=>by
          rw[Q4]at hj;have hlt:lo2*c+j<xs.length*c:=by grind
          rw[<- htk,Q3,if_pos hlt]at hj;rw[show(⟨g0,lo2*c,none⟩:Addr).add j=⟨g0,lo2*c+j,none⟩from by simp[Addr.add],cell_of_row w g0 _ cur e (0,0) hg];grind)
      have hone:∀u,u∈flat.drop (lo2*c)->u.oneCell'=true:=λu hu=>hfl.2.1 u (RC hu)
      have hcap:lo*c+m*c<=cur.size:=by rw[hsz,<- Ru];simp_all[QP]
      have hst:=run_storeCells_at P g0 (lo*c) e (flat.drop (lo2*c)) 0 cur w hg (by omega) hone;simp only[RL]at hst;have hmin:Nat.min m2 m=m:=Nat.min_eq_right c2;have hrun:(Builtin.copy_ #[t,ts] ty #[.slice (some ⟨g0,lo*c,none⟩) m (C- lo),.slice (some ⟨g0,lo2*c,none⟩) m2 (C- lo2)]).run P w=.ok (goInt m) (w.setRow g0 (cur.toList.take (lo*c)++flat.drop (lo2*c)++cur.toList.drop (lo*c+(flat.drop (lo2*c)).length)).toArray):=by simp[Builtin.copy_,Sem.run_bind,run_underlying hS.u,Builtin.lenOf,hmin,hsize,hfirst,hst]
      have hkk:∀b,b≠g0->(w.setRow g0 (cur.toList.take (lo*c)++flat.drop (lo2*c)++cur.toList.drop (lo*c+(flat.drop (lo2*c)).length)).toArray).heap[b]?=w.heap[b]?:=λb hb=>setRow_other w g0 b _ hb
      have hlen2:((xs.take lo++xs.drop lo2).map en).length=N0:=by simp;omega
      have e5:cur.toList.take (lo*c)=flat.take (lo*c):=by grind[Nat.mul_le_mul_right]
      have hll:(flat.take (lo*c)++flat.drop (lo2*c)).length=N0*c:=by grind
      have hORel:ORel σ (w.setRow g0 (cur.toList.take (lo*c)++flat.drop (lo2*c)++cur.toList.drop (lo*c+(flat.drop (lo2*c)).length)).toArray) F (.arr e c ((xs.take lo++xs.drop lo2).map en)) (.slice (some ⟨g0,0,none⟩) N0 C):=by
        refine⟨flat.take (lo*c)++flat.drop (lo2*c),⟨by grind,.inr ⟨g0,C,_,by rw[hlen2],QY _,setRow_heap w g0 cur _ e (0,0) hg,by omega,hcm,?_,?_⟩⟩,⟨λrow hr=>?_,λu hu=>?_,?_⟩,λg2 hg2=>?_,_,_,_,J⟩
        · grind
        · grind
        · grind
        · rcases QX.1 hu with hu|hu
          · exact hfl.2.1 u (QN hu)
          grind
        · rw[List.map_append,Sn,List.map_drop,R3,nj _ _ hrow,Ik _ _ hrow];have hd2:RelL σ w F ((xs.map en).flatten.drop (lo2*c)) (flat.drop (lo2*c)):=by
            refine⟨by simp[hfl.2.2.1],λj a v ha hv=>?_⟩;rw[Q4]at ha hv;exact hfl.2.2.2 _ a v ha hv
          exact((hfl.2.2.take _).append hd2).mono (λ_ _ e=>e) (λ_ e=>e) (λb hb=>hkk b (λe=>hF (e▸hb)))
        grind[Value.ownBlock]
      refine⟨goInt m,_,_,_,σ,F,_,?_,.inl J,hs.write (b0:=g0) id ho J hσ J hkk (by simp) _ hORel (λ_ h=>h),Mv.write (w:=w) (w':=w.setRow g0 _) (F:=F) (b0:=g0) id ho J hσ J J J drO hkk (by simp) _ (λ_ h=>h),.int _ _,h⟩;simp[execOp,resolve,invoke,builtin,Sem.run_bind,hvx,hvy,hrun]
    · cases hr)
theorem CH {id:Nat}(hS:SliceOf P t e c)(hen:∀a,(en a).length=c)(hx:evA n l x=.vw id c lo m cap)(hy:evA n l y=.ref id2)(ho:aw[id]?=some (.arr e c (xs.map en)))(ho2:aw[id2]?=some (.arr e c (ys.map en)))(hv:vwok xs.length lo ((lo:Int)+m)=some u)(ha:aw.set id (.arr e c ((cpy xs lo m ys).map en))=aw')(h:K2 (.int .i64 (min m ys.length:Nat)) aw'):OP P N ⟨d,.call ⟨.builtin .copy,#[x,y],#[t,ts]⟩,ty,ps,af,g⟩ (mkA n l) aw K2:=by
 unfold vwok at hv;split at hv
 .rename_i hc
  have hrow:∀row,row∈ys.map en->row.length=c:=λrow hr=>by grind
  rw[wh]at ha
  refine vK (news:=ys.map en) (k:=min m ys.length) hS hx hy ho (λσ w F v _ hr=>tF hr) (λσ w F v hs hr=>?_) hrow (by simp) (by simp;omega) ha h
  obtain⟨flat,h1,h2,h3,_⟩:=yN hs ho2 (Er hs ho2 hr) (by omega)
  grind
 .cases hv
theorem J9 {id:Nat}{u2:Unit}(hS:SliceOf P t e c)(hen:∀a,(en a).length=c)(hx:evA n l x=.vw id c lo m cap)(hy:evA n l y=.vw id2 c lo2 m2 cap2)(ho:aw[id]?=some (.arr e c (xs.map en)))(ho2:aw[id2]?=some (.arr e c (ys.map en)))(hv:vwok xs.length lo ((lo:Int)+m)=some u)(hv2:vwok ys.length lo2 ((lo2:Int)+m2)=some u2)(ha:aw.set id (.arr e c ((cpy xs lo m ((ys.drop lo2).take m2)).map en))=aw')(h:K2 (.int .i64 (min m m2:Nat)) aw'):OP P N ⟨d,.call ⟨.builtin .copy,#[x,y],#[t,ts]⟩,ty,ps,af,g⟩ (mkA n l) aw K2:=by
 unfold vwok at hv hv2
 split at hv<;>split at hv2
 .rename_i hc hc2
  have hl2:((ys.drop lo2).take m2).length=m2:=by grind
  have hrow:∀row,row∈((ys.drop lo2).take m2).map en->row.length=c:=λrow hr=>by grind
  rw[wh,hl2]at ha
  refine vK (news:=((ys.drop lo2).take m2).map en) (k:=min m m2) hS hx hy ho (λσ w F v _ hr=>tF hr) (λσ w F v hs hr=>?_) hrow (by grind) (by simp;omega) ha h
  obtain⟨flat,h1,h2,h3,_⟩:=yN hs ho2 (tF hr) (by simp;omega)
  grind[List.map_drop,List.map_take]
 all_goals grind
theorem LP {z0:α}{t tn:TypeId}{id:Nat}{m:Int}{kn:IntKind}(hS:SliceOf P t e c)(htn:P.underlying tn=some (.int kn))(hz:bF P e=some (en z0))(hen:∀a,(en a).length=c)(hx:evA n l x=.vw id c 0 m0 (some K))(hy:evA n l y=.int kq m)(ho:aw[id]?=some (.arr e c (xs.map en)))(hr:growz xs m0 K m z0=some r)(hk:aw.length=k)(ha:aw++[.arr e c (r.map en)]=aw')(h:K2 (.ref k) aw'):
  OP P N ⟨d,.call ⟨.builtin .append,#[x,y],#[t,tn]⟩,ty,ps,af,g⟩ (mkA n l) aw K2:=
 SC (λσ w F a har hs=>by
  unfold growz at hr;split at hr
  .rename_i hc;cases hr;subst hk ha;have ex:=har.ev x;have ey:=har.ev y;rw[aG,hx]at ex;rw[aG,hy]at ey;generalize hvx:a.eval x=vx at ex;generalize hvy:a.eval y=vy at ey;cases ey;cases ex with
   | vw _ _ _ _ N0 C _ A B hσ hn hA hcK hzz=>
    have hAB:=hzz J;subst hAB;have hKC:K=C:=by grind
    subst hKC;obtain⟨hN,flat,hown0,hfl,hcase⟩:=gM hs ho hσ;rw[QV]at hN;subst hN;have hcut:m0*c<=xs.length*c:=QP _ hc.1;have hcc:=hS.c;have hownp:w.ownsRow 0 e (P.cellsOf e) (.slice A m0 (K- 0)) m0 (flat.take (m0*c)):=by
     rw[hcc];refine⟨by rw[So,hown0.1,R5 hcut],?_⟩;rcases hown0.2 with⟨h2,h3⟩|⟨g0,cap,cur,h2,h3,h4,h5,h6,h7,h8⟩
     all_goals grind
    have hlen:m0+m.toNat<=1099511627776:=hc.2.2.2;obtain⟨v',w',news,hrun,hown,hg,hat,hr,h1,hbig⟩:=CV (σ:=σ) (F:=F) (ty:=ty) (kq:=kq) hS.u htn hz (by rw[hen,hcc]) (by rw[hcc];exact hS.p) hS.b hownp (m:=m.toNat) (by omega) hlen;rw[Ri (by omega)]at hrun;rw[hcc]at hown;obtain⟨hnew,hg0⟩:=hbig A m0 (K- 0) J (by omega);have hrow:∀row,row∈List.replicate m.toNat (en z0)->row.length=c:=λrow hm=>by grind
    have hfl2:FlatRel σ w F c ((xs.map en).take m0) (flat.take (m0*c)):=
     ⟨λrow hr=>hfl.1 row (QN hr),λu hu=>hfl.2.1 u (QN hu),by rw[nj _ _ hfl.1];exact hfl.2.2.take _⟩
    have hl2:m0+m.toNat=((xs.map en).take m0++List.replicate m.toNat (en z0)).length:=by simp;omega
    rw[hl2]at hown;obtain⟨s2,m2,r2⟩:=tf (aw0:=aw) (vx:=.slice none 0 0) hs (λ_ h=>h) hfl2 hrow hr h1 hown hg0 (vP _ hrun) (.inr hnew) (λb hb=>by grind[Value.ownBlock]);have e2:(xs.map en).take m0++List.replicate m.toNat (en z0)=(xs.take m0++List.replicate m.toNat z0).map en:=by simp
    rw[e2]at s2 m2;refine⟨v',_,w',_,_,F,_,?_,.inl J,s2,m2,r2,h⟩;simp only[Sr]at hrun hvx;simp[execOp,resolve,invoke,builtin,Sem.run_bind,hvx,hvy,hrun]
  .cases hr)
theorem K1 {id tx:Nat}{aw1:U Ob}(hS:SliceOf P t e c)(hen:∀a,(en a).length=c)(hx:evA n l (.tmp tx)=.vw id c 0 m0 (some C))(hm:m0=xs.length)(ho0:aw[id]?=some (.arr e c (xs.map en)))(hlt:Nat.blt tx n=true)(hy:norm aw (evA n ((tx,.ref id)::l) y)=(.sl (ys.map en),aw1))(ho:aw1[id]?=some (.arr e c (xs.map en)))(hr:app xs ys=some r)(hk:aw1.length=k)(ha:aw1.set id .dead++[.arr e c (r.map en)]=aw')(h:K2 (.ref k) aw'):
  OP P N ⟨d,.call ⟨.builtin .append,#[.tmp tx,y],#[t,t]⟩,ty,ps,af,g⟩ (mkA n l) aw K2:=
 SC (λσ w F a har hs=>by
  unfold app at hr;split at hr
  .rename_i hc;cases hr;subst hk ha;have ex:=har.ev (.tmp tx);rw[aG,hx]at ex;have har2:=lV har J (unvw hs ho0 ex (by grind));obtain⟨z',hz1,hz2⟩:=hS.z;have hx2:evA n ((tx,.ref id)::l) (.tmp tx)=.ref id:=by
    show(match Nat.blt tx n with|true=>lkA ((tx,.ref id)::l) tx|false=>.any)=_;rw[hlt];simp[ku]
   refine yw har2 hs (args:=#[.tmp tx,y]) (ats:=#[t,t]) ?_ _ J;simp only[jK,hS.u,hz1,aG,hx2,hy,hS.c,QV,ho];exact⟨trivial,trivial,trivial,hz2,hS.p,λrow hr=>by grind,hc,hS.b,by grind⟩
  .cases hr)
theorem MM {id:Nat}(hs:Sim aw σ w F)(ho:aw[id]?=some o)(hl:o.live=true)(hO:∀v,σ[id]?=some v->ORel σ w F o v->ORel σ w F o' v)(hB:∀v b,Bk o' v b->Bk o v b):Sim (aw.set id o') σ w F/\Mv aw σ w F (aw.set id o') σ w F:=by
 have un:∀(k:Nat) o1,(aw.set id o')[k]?=some o1->o1.live=true->∃o2,aw[k]?=some o2/\o2.live=true/\∀v b,Bk o1 v b->Bk o2 v b:=λk o1 h1 hl1=>by grind
 refine⟨⟨by simp[hs.len],λk o1 v1 ho1 hv1=>?_,λk k' o1 o2 v1 v2 g hne ho1 ho2 hl1 hl2 hv1 hv2 hb1 hb2=>?_,hs.lt⟩,⟨J,J,drO,QJ _,λ_ _ _=>J,λ_ _ h=>h,λ_ h=>h,λ_ h=>.inl h,λb hb=>.inl ?_⟩⟩
 .rcases bV ho1 with⟨rfl,rfl,_⟩|⟨_,h2⟩
  .exact hO v1 hv1 (hs.obj _ _ v1 ho hv1)
  .exact hs.obj k o1 v1 h2 hv1
 .obtain⟨p1,e1,l1,b1⟩:=un k o1 ho1 hl1;obtain⟨p2,e2,l2,b2⟩:=un k' o2 ho2 hl2;exact hs.sep k k' p1 p2 v1 v2 g hne e1 e2 l1 l2 hv1 hv2 (b1 _ _ hb1) (b2 _ _ hb2)
 .obtain⟨k,o1,v1,ho1,hl1,hv1,hb1⟩:=hb;obtain⟨p1,e1,l1,b1⟩:=un k o1 ho1 hl1;exact⟨k,p1,v1,e1,l1,hv1,b1 _ _ hb1⟩
def nilW:List AV->List AV->Prop
 |[],[]=>True
 |a::as₀,b::bs=>(b=a∨a=.nils/\b=.sl [])/\nilW as₀ bs
 |_,_=>False
theorem wc:∀{as₀ bs:U AV},nilW as₀ bs->as₀.length=bs.length
 |[],[],_=>rfl
 |a::as₀,b::bs,h=>by simp[wc h.2]
 |[],_::_,h=>h.elim
 |_::_,[],h=>h.elim
theorem DS:∀{as₀ bs cs ds:U AV},nilW as₀ bs->nilW cs ds->nilW (as₀++cs) (bs++ds)
 |[],[],_,_,_,k=>k
 |a::as₀,b::bs,_,_,h,k=>⟨h.1,DS h.2 k⟩
 |[],_::_,_,_,h,_=>h.elim
 |_::_,[],_,_,h,_=>h.elim
theorem Lr {as₀ bs:U AV}{vs:U Value}(h:nilW as₀ bs)(hr:RelL σ w F as₀ vs):RelL σ w F bs vs:=by
 have key:∀{as₀ bs:U AV},nilW as₀ bs->∀(j:Nat) a b,as₀[j]?=some a->bs[j]?=some b->b=a∨a=.nils/\b=.sl []:=by
  intro as₀;induction as₀ with
  |nil=>simp
  | cons x as₀ ih=>
   intro bs h j a b ha hb;cases bs with
   |nil=>exact h.elim
   |cons y bs=>
    cases j with
    |zero=>simp at ha hb;subst ha hb;exact h.1
    |succ j=>exact ih h.2 j a b (by grind) (by grind)
 refine⟨by rw[hr.1,wc h],λj b v hb hv=>?_⟩;have hj:j<as₀.length:=by grind[wc]
 have ha:as₀[j]?=some as₀[j]:=QC hj;have hav:=hr.2 j _ v ha hv;rcases key h j _ b ha hb with e|⟨e1,e2⟩
 .grind
 .rw[e1]at hav;cases hav;rw[e2];exact .slNil
theorem D8 {z2:U AV}(h:nilW z z2):∀m:Nat,nilW (List.replicate m z).flatten (List.replicate m z2).flatten
 |0=>trivial
 |m+1=>by rw[R4,R4,Rk,Rk];exact DS h (D8 h m)
theorem dR {k1 k2:IntKind}{zr:α}(hS:SliceOf P t e c)(hz:bF P e=some z)(hw:nilW z (en zr))(hx:evA n l x=.int k1 i)(hy:evA n l y=.int k2 i)(hm:mk i zr=some xs)(hk:aw.length=k)(ha:aw++[.arr e c (xs.map en)]=aw')(h:K2 (.ref k) aw'):
  OP P N ⟨d,.makeSlice t x y,ty,ps,af,g⟩ (mkA n l) aw K2:=by
 unfold mk at hm;split at hm
 .rename_i hc
  cases hm
  subst hk ha
  have base:OP P N ⟨d,.makeSlice t x y,ty,ps,af,g⟩ (mkA n l) aw λr aw1=>r=.ref aw.length/\aw1=aw++[.arr e c (List.replicate i.toNat z)]:=SK (by
   obtain⟨z',hz1,hz2⟩:=hS.z;rw[hz]at hz1;cases hz1;rw[Bo,hS.u];simp only[aG,hx,hy,hz];refine⟨by rw[hS.c,hz2],by rw[hS.c];exact hS.p,hc.1,Rh _,.inr trivial,?_,by unfold maxLen;omega,by rw[hS.c];simp⟩;have h1:i.toNat<=1099511627776:=by omega
   exact RJ (R9 hS.b h1) (by decide))
  refine⟨λst h1 h2 σ w F a hcur Kc Q hK=>base.out st h1 h2 σ w F a hcur Kc Q ?_⟩
  rintro r aw1 σ' w' F' v ⟨rfl,rfl⟩ hc2 hr
  have hget:(aw++[Ob.arr e c (List.replicate i.toNat z)])[aw.length]?=some (.arr e c (List.replicate i.toNat z)):=by simp
  obtain⟨s3,m3⟩:=MM (o':=.arr e c ((List.replicate i.toNat zr).map en)) hc2.sim hget J (λv _ hO=>by
   obtain⟨flat,hown,hfl,hf,hform⟩:=hO;have hlen:(List.replicate i.toNat z).length=((List.replicate i.toNat zr).map en).length:=by simp
   refine⟨flat,by grind,⟨λrow hrow=>?_,hfl.2.1,?_⟩,hf,hform⟩
   .obtain⟨a',ha',rfl⟩:=Rs.1 hrow;have hi:0<i.toNat:=by
     grind
    rw[RM ha',<- wc hw];exact hfl.1 z (by grind)
   .rw[List.map_replicate];exact Lr (D8 hw i.toNat) hfl.2.2) (λ_ _ h=>h)
  have hset:(aw++[Ob.arr e c (List.replicate i.toNat z)]).set aw.length (.arr e c ((List.replicate i.toNat zr).map en))=aw++[.arr e c ((List.replicate i.toNat zr).map en)]:=by simp
  rw[hset]at s3 m3
  exact hK (.ref aw.length) _ σ' w' F' v h (hc2.step s3 m3) (m3.rel hc2.sim hr)
 .cases hm
theorem Jd {f:FuncId}{fn:Func}{tS tR i1 i2 x:Nat}{ts:Array TypeId}(hf:P.funcs[f]?=some fn)(hname:(fn.name== "runtime.NumGoroutine")=false)(hb:fn.body.isNone=true)(hn:Extern.findNext fn=none)(he:Extern.find fn=some (Extern.SlicesOverlaps.overlaps #[tS,tS] #[tR]))(hS:SliceOf P tS e c)(hx:evA n l x1=.ref i1)(hy:evA n l y=.vw i2 c lo m cap)(h1:aw[i1]?=some (.arr e c (ys.map en)))(h2:aw[i2]?=some (.arrU e c (xs.map en) x))(hr:ovok ys m=some u)(h:K2 (.bool false) aw):
    OP P N ⟨d,.call ⟨.value (.func f),#[x1,y],ts⟩,ty,ps,af,g⟩ (mkA n l) aw K2:=
  SC (fun σ w F a har hs=>by
    unfold ovok at hr;split at hr
    · rename_i hc;have ex:=har.ev x1;have ey:=har.ev y;rw[aG,hx]at ex;rw[aG,hy]at ey;generalize hvx:a.eval x1=vx at ex;generalize hvy:a.eval y=vy at ey;cases ex with
      |ref _ A q cp hσ=>
      cases ey with
      | vw _ _ _ _ N0 C _ A' B hσ2 hn2 hA _ _=>
        obtain⟨g2,e3,e4⟩:=hA hc.2;subst e3 e4;obtain⟨hq,_,_,_,hcase⟩:=gM hs h1 hσ;obtain⟨hq2,hqc,g0,flat,cur,e0,hF,hg,hcm,hsz,_⟩:=y8 hs h2 hσ2;cases e0;rcases hcase with hcase|⟨g1,cur1,e1,hF1,hg1,_⟩
        · grind
        · subst e1;have hne:g1≠g2:=by
            rintro rfl;have hi:i1≠i2:=by grind
            exact hs.sep i1 i2 _ _ _ _ g1 hi h1 h2 J J hσ hσ2 J J
          obtain⟨ds,hd⟩:=QM.1 hS.s;have hsize:=λw=>eb (P:=P) (w:=w) hd
          have hk0:cur.size≠0:=by rw[hsz];exact Nat.mul_ne_zero (by omega) (by have:=hS.p;omega)
          have hov:=Lib.run_overlaps_apart (P:=P) w tS tR e hS.u _ hsize ⟨g1,0,none⟩ ⟨g2,lo*c,none⟩ q cp m (C- lo) hne e e cur1.size cur.size (by grind[World.shape?]) (by grind[World.shape?]) hk0 (by grind[World.frozen?]) (by grind[World.frozen?]);have hcall:=run_callFunc_extern hf hname hb hn he #[.slice (some ⟨g1,0,none⟩) q cp,.slice (some ⟨g2,lo*c,none⟩) m (C- lo)] w;rw[hov]at hcall;refine⟨.bool false,_,w,aw,σ,F,_,?_,.inl J,hs,.refl ..,.bool _,h⟩;have hvf:a.eval (.func f)=.func (.func f) #[] #[]:=rfl;grind[execOp,resolve,Deferred.ofValue,Result.andThen_ok,invoke]
    · cases hr)
end
end
section
open Go.RowKit
abbrev iI(n:Int):AV:=.int .i64 n
abbrev sL{α:Type}(en:α->List AV)(xs:List α):AV:=.sl (List.map en xs)
abbrev aR{α:Type}(e c:Nat)(en:α->List AV)(xs:List α):Ob:=.arr e c (List.map en xs)
section
variable {P:Program} {N n:Nat} {aw aw':List Ob} {l:List (Nat×AV)} {ops:Array Oper} {os:List Oper} {K:List AV→List Ob→Prop} {o:Oper} {d:Option Tmp} {x:Operand} {ty:TypeId} {ps:String} {af:Array Edge}
theorem sm (v:AV)(hx:evA n l x=v)(h:RS P N ops os K (mkA n (putA l d v)) aw):RS P N ops (⟨d,.move x,ty,ps,af,none⟩::os) K (mkA n l) aw:=RS.op J (SJ J (eu hx h))
theorem sq (h:vcQ P (mkA n l) aw o.op λr=>RS P N ops os K (mkA n (putA l o.dst r)) aw)(hg:o.guard=none:=by rfl)(hq:nS o.op=true:=by rfl):RS P N ops (o::os) K (mkA n l) aw:=RS.op hg (SJ hq h)
variable {j t:Nat}{want:Bool}{l':U (Nat×AV)}
theorem sn {b:Bool}(hbw:b=!want)(h:RS P N ops os K (mkA n (putA l o.dst (.tup []))) aw)(hg:o.guard=some (j,want):=by rfl)(ht:(ops[j]?).bind (·.dst)=some t:=by rfl)(hb:evA n l (.tmp t)=.bool b:=by rfl):
 RS P N ops (o::os) K (mkA n l) aw:=RS.no hg ht hb hbw h
theorem su (h:RS P N ops os K (mkA n (putA l o.dst (.tup []))) aw)(hg:o.guard=some (j,want):=by rfl)(ht:(ops[j]?).bind (·.dst)=some t:=by rfl)(hb:evA n l (.tmp t)=.tup []:=by rfl):
 RS P N ops (o::os) K (mkA n l) aw:=T3 hg ht hb h
def SubA:List (Nat×AV)->List (Nat×AV)->Prop
 |[],_=>True
 |(s,v)::r,l=>lkA l s=v/\SubA r l
theorem EI:∀{l' l:U (Nat×AV)},SubA l' l->∀t,lkA l' t=.any∨lkA l' t=lkA l t
 |[],l,_,t=>.inl J
 |(s,v)::r,l,h,t=>by
  rw[ku];by_cases e:s=t
  .subst e;rw[if_pos J];exact .inr h.1.symm
  .rw[if_neg e];exact EI h.2 t
theorem Mw {st:St}{σ:U Value}{w:World}{F:Nat->Prop}{a:Act}(h:SubA l' l)(hc:Cur st (mkA n l) aw σ w F a):Cur st (mkA n l') aw σ w F a:=by
 refine⟨hc.sim,⟨⟨?_,λj x v hx hv=>?_⟩,hc.fr.2⟩,hc.mv,hc.ds⟩
 .have:=hc.fr.1.1;grind[qf]
 .rw[hU]at hx;split at hx
  .rename_i hj;cases hx;rcases EI h j with e|e
   .rw[e];exact .any _
   .rw[e];exact hc.fr.1.2 j _ v (by rw[hU,if_pos hj]) hv
  .cases hx
theorem T.sub {c:Code}{Q:Exit->U AV->U Ob->Prop}(h:T P N c Q (mkA n l') aw)(hs:SubA l' l):T P N c Q (mkA n l) aw:=⟨λst h1 h2 σ w F a hc=>h.out st h1 h2 σ w F a (Mw hs hc)⟩
section
variable {k:Nat} {li li':Array Bool} {fr fr':List AV}
theorem ra1(i1:Nat)(h1:RO P N ops i1 (RA P N ops k (li.setIfInBounds i1 true) K) fr aw)(hr:Region.ready .any ops li=[i1]:=by decide+kernel):RA P N ops (k+1) li K fr aw:=RA.a1 hr J h1
theorem ra2(i1 i2:Nat)(h1:RO P N ops i1 (RA P N ops k (li.setIfInBounds i1 true) K) fr aw)(h2:RO P N ops i2 (RA P N ops k (li.setIfInBounds i2 true) K) fr aw)(hr:Region.ready .any ops li=[i1,i2]:=by decide+kernel):RA P N ops (k+1) li K fr aw:=RA.a2 hr J J h1 h2
theorem ra3(i1 i2 i3:Nat)(h1:RO P N ops i1 (RA P N ops k (li.setIfInBounds i1 true) K) fr aw)(h2:RO P N ops i2 (RA P N ops k (li.setIfInBounds i2 true) K) fr aw)(h3:RO P N ops i3 (RA P N ops k (li.setIfInBounds i3 true) K) fr aw)
 (hr:Region.ready .any ops li=[i1,i2,i3]:=by decide+kernel):RA P N ops (k+1) li K fr aw:=RA.a3 hr J J J h1 h2 h3
theorem ra4(i1 i2 i3 i4:Nat)(h1:RO P N ops i1 (RA P N ops k (li.setIfInBounds i1 true) K) fr aw)(h2:RO P N ops i2 (RA P N ops k (li.setIfInBounds i2 true) K) fr aw)(h3:RO P N ops i3 (RA P N ops k (li.setIfInBounds i3 true) K) fr aw)
 (h4:RO P N ops i4 (RA P N ops k (li.setIfInBounds i4 true) K) fr aw) (hr:Region.ready .any ops li=[i1,i2,i3,i4]:=by decide+kernel):RA P N ops (k+1) li K fr aw:=RA.a4 hr J J J J h1 h2 h3 h4
end
theorem bz:(∀b,(true||b)=true)/\(∀b,(b||true)=true)/\(∀b,(false||b)=b)/\(∀b,(b||false)=b)/\(∀b,(true&&b)=b)/\(∀b,(b&&true)=b)/\(∀b,(false&&b)=false)/\(∀b,(b&&false)=false)/\(!true)=false/\(!false)=true:=by simp
variable {α:Type}{ρ ids:U Nat}{en:α->U AV}{xs ys:U α}
theorem it (a b:α):(if true=true then a else b)=a:=rfl
class RetI (Q:Exit->List AV->List Ob->Prop) (R:outParam (List AV->List Ob->Prop)):Prop where
 out:∀fr aw,R fr aw->Q .ret fr aw
instance {fn:Func} {M:Nat} {Q:AV->List Ob->Prop}:RetI (retQ P fn M Q) (λfr aw=>cv P fr aw fn.results.toList (Ret M Q aw)):=⟨λ_ _ h=>h⟩
instance {K:List AV->List Ob->Prop} {Q:Exit->List AV->List Ob->Prop} {R:List AV->List Ob->Prop} [h:RetI Q R]:RetI (thenA K Q) R:=⟨h.out⟩
instance {id:Nat} {Q:Exit->List AV->List Ob->Prop} {R:List AV->List Ob->Prop} [h:RetI Q R]:RetI (tq id Q) R:=⟨h.out⟩
instance {α β:Type} {M:Nat} {v:α⊕β} {F:α->List AV} {A:α->List Ob} {Q:Exit->List AV->List Ob->Prop} {R:List AV->List Ob->Prop} [h:RetI Q R]:RetI (LQ M v F A Q) R:=⟨h.out⟩
theorem UO {Q:Exit->U AV->U Ob->Prop}{R:U AV->U Ob->Prop}{fr:U AV}[hq:RetI Q R](h:R fr aw):T P N .ret Q fr aw:=T.ret (hq.out fr aw h)
class PureC (a:AV):Prop where
 out:Pure a
class EnP {α:Type} (en:α->List AV):Prop where
 out:∀a x,x∈en a->Pure x
instance {k:IntKind} {i:Int}:PureC (.int k i):=⟨aO _ _⟩
instance {b:Bool}:PureC (.bool b):=⟨ko _⟩
instance {s:List UInt8}:PureC (.str s):=⟨bd _⟩
instance:PureC .nils:=⟨cb⟩
instance:PureC .nilf:=⟨sK⟩
instance {α:Type} {en:α->List AV} {xs:List α} [h:EnP en]:PureC (.sl (xs.map en)):=⟨dt h.out _⟩
class PureCs (cs:List AV):Prop where
 out:∀a,a∈cs->Pure a
instance:PureCs []:=⟨λa h=>by cases h⟩
instance {a:AV} {cs:List AV} [h:PureC a] [t:PureCs cs]:PureCs (a::cs):=⟨λb hb=>by cases hb with|head=>exact h.out|tail _ hb=>exact t.out b hb⟩
instance {cs:List AV} [h:PureCs cs]:PureC (.agg cs):=⟨C3 _ h.out⟩
instance {cs:List AV} [h:PureCs cs]:PureC (.tup cs):=⟨K4 _ h.out⟩
theorem bL {id:Nat}(cs:U AV)[h:PureCs cs](ho:aw[id]?=some (.box cs))(t:cy ρ aw ids aw'):cy ρ aw (id::ids) (.box cs::aw'):=aE ho (vR h.out) t
theorem fD {id e s:Nat}[h:EnP en](ho:aw[id]?=some (.arr e s (ys.map en)))(hx:xs=ys)(t:cy ρ aw ids aw'):cy ρ aw (id::ids) (.arr e s (xs.map en)::aw'):=eB ho h.out hx t
theorem cK [hp:EnP en](h:xs=ys):Ren ρ (.sl (xs.map en)) (.sl (ys.map en)):=rn_sl hp.out h
end
end
section
open Go.RowKit
namespace RK
def Over(w w':World):Prop:=∀r,r<w.heap.size->w'.heap[r]?=w.heap[r]?
theorem Over.rfl' (w:World):Over w w:=λ_ _=>J
section
variable {w w':World}{α β:Type}{o:Oper}{t:TypeId}{x:Operand}{ps:Array (Nat×Operand)}{s:Sem α}{f:α->Sem β}
theorem Over.size (h:Over w w'):w.heap.size<=w'.heap.size:=by
 rcases Nat.eq_zero_or_pos w.heap.size with h0|h0
 .omega
 .have:=h (w.heap.size- 1) (by omega);grind
theorem Over.trans {a b c:World}(h:Over a b)(k:Over b c):Over a c:=λr hr=>
 (k r (Rz hr h.size)).trans (h r hr)
inductive Keeps {α:Type}:Sem α->Prop
 |pure (a:α):Keeps (.pure a)
 |load (m:Go.Mode) (a:Addr) (k:Value->Sem α):(∀v,Keeps (k v))->Keeps (.load m a k)
 |new (o:Obj) (k:Nat->Sem α):(∀r,Keeps (k r))->Keeps (.new o k)
 |shape (r:Nat) (k:Option (TypeId×Nat)->Sem α):(∀x,Keeps (k x))->Keeps (.shape r k)
 |frozen (a:Addr) (k:Bool->Sem α):(∀x,Keeps (k x))->Keeps (.frozen a k)
 |getObj (r:Nat) (k:Obj->Sem α):(∀x,Keeps (k x))->Keeps (.getObj r k)
 |choose (q:Question) (k:Nat->Sem α):(∀x,Keeps (k x))->Keeps (.choose q k)
 |program (k:Program->Sem α):(∀x,Keeps (k x))->Keeps (.program k)
 |mark (m:Mark) (k:Sem α):Keeps k->Keeps (.mark m k)
 |halt (h:Halt):Keeps (.halt h)
theorem Keeps.bind (h:Keeps s)(hf:∀a,Keeps (f a)):Keeps (s.bind f):=by
 induction h with
 |pure a=>exact hf a
 |load m a k _ ih=>exact .load m a _ λv=>ih v
 |new o k _ ih=>exact .new o _ λv=>ih v
 |shape r k _ ih=>exact .shape r _ λv=>ih v
 |frozen a k _ ih=>exact .frozen a _ λv=>ih v
 |getObj r k _ ih=>exact .getObj r _ λv=>ih v
 |choose q k _ ih=>exact .choose q _ λv=>ih v
 |program k _ ih=>exact .program _ λv=>ih v
 |mark m k _ ih=>exact .mark m _ ih
 |halt h=>exact .halt h
theorem Keeps.run (h:Keeps s)(P:Program):∀(w:World) (x:α) (w':World),s.run P w=.ok x w'->Over w w':=by
 induction h with
 |pure a=>intro w x w' e;simp only[Sem.run,Result.ok.injEq]at e;rw[<- e.2];exact .rfl' w
 |load m a k _ ih=>
  grind[Sem.run]
 |new o k _ ih=>
  intro w x w' e;simp only[Sem.run]at e;refine Over.trans (λr hr=>?_) (ih _ _ _ _ e);grind
 |shape r k _ ih=>intro w x w' e;exact ih _ _ _ _ e
 |frozen a k _ ih=>intro w x w' e;exact ih _ _ _ _ e
 |getObj r k _ ih=>
  grind[Sem.run]
 |choose q k _ ih=>
  intro w x w' e;simp only[Sem.run]at e;split at e
  .grind
  .exact λr hr=>ih _ _ _ _ e r hr
 |program k _ ih=>intro w x w' e;exact ih _ _ _ _ e
 |mark m k _ ih=>assumption
 |halt h=>simp
theorem Keeps.mb (h:Keeps s)(hf:∀a,Keeps (f a)):Keeps (s >>= f):=h.bind hf
theorem SS (h:Keeps s){f:α->β}:Keeps (Functor.map f s):=h.bind λa=>.pure _
theorem eA (a:α):Keeps (Pure.pure a:Sem α):=.pure a
theorem iH (s:String):Keeps (stuck s:Sem α):=.halt _
theorem jy (u:Unsupported):Keeps (unsupported u:Sem α):=.halt _
theorem hZ (a:Addr)(m:Go.Mode):Keeps (Go.load a m):=.load _ _ _ λ_=>.pure _
theorem k_prog:Keeps Go.program:=.program _ λ_=>.pure _
theorem iF (o:Obj):Keeps (newObj o):=.new _ _ λ_=>.pure _
theorem jA (r:Nat):Keeps (Go.shape r):=.shape _ _ λ_=>.pure _
theorem iD (q:Question):Keeps (Go.choose q):=.choose _ _ λ_=>.pure _
theorem B7 (t:TypeId):Keeps (typeInfo t):=by unfold typeInfo;repeat (first|exact eA _|exact iH _|exact jy _|exact hZ _ _|exact k_prog|exact iF _|exact jA _|exact iD _|assumption|exact Keeps.pure _|exact Keeps.halt _|(refine Keeps.mb ?_ λ_=>?_)|(refine SS ?_)|(refine Keeps.bind ?_ λ_=>?_)|split)
theorem lB (t:TypeId):Keeps (underlying t):=by unfold underlying;repeat (first|exact eA _|exact iH _|exact jy _|exact hZ _ _|exact k_prog|exact iF _|exact jA _|exact iD _|assumption|exact Keeps.pure _|exact Keeps.halt _|(refine Keeps.mb ?_ λ_=>?_)|(refine SS ?_)|(refine Keeps.bind ?_ λ_=>?_)|split)
theorem nR (t:TypeId):Keeps (sizeOf t):=(B7 t).mb λ_=>eA _
theorem oh (t:TypeId):Keeps (zeroValue t):=by unfold zeroValue;refine(B7 t).mb λ_=>?_;repeat (first|exact eA _|exact iH _|exact jy _|exact hZ _ _|exact k_prog|exact iF _|exact jA _|exact iD _|assumption|exact Keeps.pure _|exact Keeps.halt _|(refine Keeps.mb ?_ λ_=>?_)|(refine SS ?_)|(refine Keeps.bind ?_ λ_=>?_)|split)
theorem MG (t:TypeId):Keeps (isAgg t):=by unfold isAgg;refine(lB t).mb λ_=>?_;repeat (first|exact eA _|exact iH _|exact jy _|exact hZ _ _|exact k_prog|exact iF _|exact jA _|exact iD _|assumption|exact Keeps.pure _|exact Keeps.halt _|(refine Keeps.mb ?_ λ_=>?_)|(refine SS ?_)|(refine Keeps.bind ?_ λ_=>?_)|split)
theorem Nc (a:Addr):∀(n i:Nat) (acc:Array Value),Keeps (loadCellsFrom a i n acc):=by
 intro n;induction n with
 |zero=>intro i acc;exact eA _
 |succ n ih=>intro i acc;exact(hZ _ _).mb λ_=>ih _ _
theorem JP (t:TypeId)(a:Addr):Keeps (loadVar t a):=by
 unfold loadVar loadCells;refine(MG t).mb λ_=>?_
 split
 .exact(nR t).mb λ_=>(Nc _ _ _ _).mb λ_=>eA _
 .exact hZ _ _
theorem qt (v:Value):Keeps (Instr.sureAddr v):=by unfold Instr.sureAddr;split<;>(first|exact eA _|exact iH _|exact jy _|exact hZ _ _|exact k_prog|exact iF _|exact jA _|exact iD _|assumption|exact Keeps.pure _|exact Keeps.halt _|(refine Keeps.mb ?_ λ_=>?_)|(refine SS ?_)|(refine Keeps.bind ?_ λ_=>?_)|split)
theorem Ls (t:TypeId)(v:Value):Keeps (Instr.loadAt t v):=(qt v).mb λ_=>JP _ _
theorem nM (t:TypeId)(vs:Array Value):Keeps (newRow t vs):=(iF _).mb λ_=>eA _
theorem k_box (t:TypeId)(v:Value):Keeps (Instr.box t v):=(nM _ _).mb λ_=>eA _
theorem MK (t:TypeId):Keeps (Instr.alloc t true (.tuple #[])):=by unfold Instr.alloc;exact(oh t).mb λ_=>(nM _ _).mb λ_=>eA _
theorem Km (v:Value):Keeps (asIntOf v):=by unfold asIntOf;split<;>(first|exact eA _|exact iH _|exact jy _|exact hZ _ _|exact k_prog|exact iF _|exact jA _|exact iD _|exact lB _|exact nR _|exact oh _|exact qt _|exact nM _ _|assumption|exact Keeps.pure _|exact Keeps.halt _|(refine Keeps.mb ?_ λ_=>?_)|(refine SS ?_)|(refine Keeps.bind ?_ λ_=>?_)|dsimp only|split)
theorem EE (v:Value):Keeps (goPanic v:Sem α):=.halt _
theorem K0 (k:IntKind)(x y:Int)(c:BoundsCode):Keeps (boundsPanic k x y c:Sem α):=by
 unfold boundsPanic;dsimp only;split
 .refine Keeps.mb (SS (iD _)) λ_=>?_
  unfold runtimePanic;exact k_prog.mb λ_=>EE _
 .refine Keeps.mb (eA _) λ_=>?_
  unfold runtimePanic;exact k_prog.mb λ_=>EE _
theorem JT (t:TypeId)(x i:Value):Keeps (Instr.indexAt t x i):=by
 unfold Instr.indexAt;refine(Km i).mb λ_=>?_
 dsimp only;refine(lB t).mb λ_=>?_
 repeat (first|exact K0 _ _ _ _|(first|exact eA _|exact iH _|exact jy _|exact hZ _ _|exact k_prog|exact iF _|exact jA _|exact iD _|exact lB _|exact nR _|exact oh _|exact qt _|exact nM _ _|assumption|exact Keeps.pure _|exact Keeps.halt _|(refine Keeps.mb ?_ λ_=>?_)|(refine SS ?_)|(refine Keeps.bind ?_ λ_=>?_)|dsimp only|split))
theorem Iq (t:TypeId)(len:Nat)(ps:Array (Nat×Value)):Keeps (Instr.buildSlice t len ps):=by unfold Instr.buildSlice;repeat (first|exact eA _|exact iH _|exact jy _|exact hZ _ _|exact k_prog|exact iF _|exact jA _|exact iD _|exact lB _|exact nR _|exact oh _|exact qt _|exact nM _ _|assumption|exact Keeps.pure _|exact Keeps.halt _|(refine Keeps.mb ?_ λ_=>?_)|(refine SS ?_)|(refine Keeps.bind ?_ λ_=>?_)|dsimp only|split)
theorem ND (f:α->Sem β)(hf:∀a,Keeps (f a))(xs:Array α):Keeps (xs.mapM f):=by
 rw[Array.mapM_eq_mapM_toList];refine SS ?_;generalize xs.toList=l;induction l with
 |nil=>exact eA _
 |cons a l ih=>rw[List.mapM_cons];exact(hf a).mb λ_=>ih.mb λ_=>eA _
theorem Mt (t:TypeId)(ps:Array (Nat×Value)):Keeps (Instr.build t ps):=by
 unfold Instr.build;refine(oh t).mb λ_=>(lB t).mb λ_=>?_
 split
 .refine Keeps.mb (ND _ (λf=>(nR _).mb λ_=>eA _) _) λ_=>?_
  repeat (first|exact eA _|exact iH _|exact jy _|exact hZ _ _|exact k_prog|exact iF _|exact jA _|exact iD _|exact lB _|exact nR _|exact oh _|exact qt _|exact nM _ _|assumption|exact Keeps.pure _|exact Keeps.halt _|(refine Keeps.mb ?_ λ_=>?_)|(refine SS ?_)|(refine Keeps.bind ?_ λ_=>?_)|dsimp only|split)
 .repeat (first|exact eA _|exact iH _|exact jy _|exact hZ _ _|exact k_prog|exact iF _|exact jA _|exact iD _|exact lB _|exact nR _|exact oh _|exact qt _|exact nM _ _|assumption|exact Keeps.pure _|exact Keeps.halt _|(refine Keeps.mb ?_ λ_=>?_)|(refine SS ?_)|(refine Keeps.bind ?_ λ_=>?_)|dsimp only|split)
 .exact iH _
def Tame(o:Oper):Prop:=∀ρ,∃s:Sem Value,Keeps s/\execOp ρ o=s.bind λx=>.pure (.value x)
theorem Keeps.val {s:Sem Value}(h:Keeps s)(P:Program):∀(w:World) (n:Next) (w':World),
  (s.bind λx=>.pure (.value x)).run P w=.ok n w'->∃x,n=.value x:=by
 induction h with
 |pure a=>simp[Sem.bind]
 |load m a k _ ih=>
  grind[Sem.bind,Sem.run]
 |new o k _ ih=>intro w n w' e;exact ih _ _ _ _ e
 |shape r k _ ih=>intro w n w' e;exact ih _ _ _ _ e
 |frozen a k _ ih=>intro w n w' e;exact ih _ _ _ _ e
 |getObj r k _ ih=>
  grind[Sem.bind,Sem.run]
 |choose q k _ ih=>
  grind[Sem.bind,Sem.run]
 |program k _ ih=>intro w n w' e;exact ih _ _ _ _ e
 |mark m k _ ih=>assumption
 |halt h=>simp[Sem.bind]
theorem Tame.run (h:Tame o){P:Program}{ρ:Operand->Value}{n:Next}(e:(execOp ρ o).run P w=.ok n w'):
  (∃x,n=.value x)/\Over w w':=by
 obtain⟨s,hk,hs⟩:=h ρ
 rw[hs]at e
 exact⟨hk.val P _ _ _ e,(hk.bind λ_=>.pure _).run P _ _ _ e⟩
theorem KB (h:o.op=.load t x):Tame o:=λρ=>⟨_,Ls t (ρ x),by unfold execOp;rw[h];rfl⟩
theorem JE (h:o.op=.alloc t):Tame o:=λρ=>⟨_,MK t,by unfold execOp;rw[h];rfl⟩
theorem K7 (h:o.op=.box t x):Tame o:=λρ=>⟨_,k_box t (ρ x),by unfold execOp;rw[h];rfl⟩
theorem JH {y:Operand}(h:o.op=.indexAddr t x y):Tame o:=λρ=>⟨_,JT t (ρ x) (ρ y),by unfold execOp;rw[h];rfl⟩
theorem Jt (h:o.op=.build t ps):Tame o:=λρ=>⟨_,Mt t _,by unfold execOp;rw[h];rfl⟩
theorem H6 {k:Nat}(h:o.op=.buildSlice t k ps):Tame o:=λρ=>⟨_,Iq t k _,by unfold execOp;rw[h];rfl⟩
theorem KS (h:o.op=.move x):Tame o:=λρ=>⟨_,.pure (ρ x),by unfold execOp;rw[h];rfl⟩
end
section
variable {P:Program} {md:Region.Mode} {ops:Array Oper} {Q:Exit→Act→World→Prop}
def YieldsO(P:Program)(ops:Array Oper)(o:Oper)(v:Value)(a:Act)(w:World):Prop:=
 (Region.wanted o (yielded ops a.tmps)=true/\∀w',Over w w'->(execOp a.eval o).run P w'=.ok (.value v) w')∨
 (Region.wanted o (yielded ops a.tmps)=false/\v=undef)
variable {i:Nat}{o oi:Oper}{v:Value}{a:Act}{w:World}{K:Act->World->Prop}
theorem YieldsO.wpOp (hi:ops[i]?=some o)(hy:YieldsO P ops o v a w)(h:K (a.put o.dst v) w):Go.wpOp P ops Q i K a w:=by
 unfold Go.wpOp
 simp only[hi]
 rcases hy with⟨hw,hv⟩|⟨hw,rfl⟩
 .simp only[hw,if_true,Oper.wp,hv w (.rfl' w),Oper.upon];exact .inl h
 grind
theorem YieldsO.of_same {a':Act}{w':World}(hy:YieldsO P ops o v a w)(hww:Over w w')(he:execOp a'.eval o=execOp a.eval o)(hw:Region.wanted o (yielded ops a'.tmps)=Region.wanted o (yielded ops a.tmps)):YieldsO P ops o v a' w':=by
 unfold YieldsO at *
 rw[he,hw]
 exact hy.imp (λh=>⟨h.1,λw2 h2=>h.2 w2 (hww.trans h2)⟩) id
theorem KF {j:Nat}{oj:Oper}(hj:ops[j]?=some oj)(hap:oi.apart ops oj=true)(ht:Tame oj)(hsi:∀cs b,oi.op≠.select cs b)(hsj:∀cs b,oj.op≠.select cs b)(hQ:∀c a w,Q (.panic c) (a.put oi.dst v) w->Q (.panic c) a w)(hy:YieldsO P ops oi v a w)(h:wpOp P ops Q j K (a.put oi.dst v) w):
  wpOp P ops Q j (λa' w'=>YieldsO P ops oi v a' w'/\K (a'.put oi.dst v) w') a w:=by
 obtain⟨h1,h2,h3⟩:=Oper.apart_spec hap
 have keep:∀u w',Over w w'->YieldsO P ops oi v (a.put oj.dst u) w':=λu w' hw=>
  hy.of_same hw (execOp_put oi hsi a oj.dst u h3) (wanted_put oi a oj.dst u h3)
 unfold wpOp at *
 simp only[hj]at *
 rw[wanted_put oj a oi.dst v h1]at h
 split
 .rename_i hw
  simp only[hw,if_true]at h
  rcases h with h|⟨hasks,hlets⟩
  case inr=>exact .inr ⟨by unfold Oper.asks at *;rw[execOp_put oj hsj a oi.dst v h1]at hasks;exact hasks,hlets⟩
  refine .inl ?_
  unfold Oper.wp at *
  rw[execOp_put oj hsj a oi.dst v h1]at h
  have hr:=λn w'=>ht.run (P:=P) (ρ:=a.eval) (w:=w) (w':=w') (n:=n)
  generalize (execOp a.eval oj).run P w=r at *
  cases r with
  |ok n w'=>
   grind[Oper.upon,Act.put_comm]
  |halt x w'=>
   cases x<;>simp only[Oper.upon]at h⊢
   grind
 .rename_i hw
  simp only[hw]at h
  exact⟨keep _ w (.rfl' w),by grind[Act.put_comm]⟩
theorem JA (D:Nat->Bool)(hi:ops[i]?=some oi)(hsel:∀(j:Nat) (o:Oper) cs b,ops[j]?=some o->o.op≠.select cs b)(hQ:∀c a w,Q (.panic c) (a.put oi.dst v) w->Q (.panic c) a w)(hDi:D i=true)(hD:∀j oj,ops[j]?=some oj->D j=true->j≠i->∃e∈oj.after,Region.binds md e=true/\D e.on=true):
  ∀(fuel:Nat) (listed:Array Bool) (a:Act) (w:World),
   (∀j oj,ops[j]?=some oj->D j=false->listed.getD j true=false->oi.apart ops oj=true/\Tame oj) ->
   (∀j,D j=true->listed.getD j false=false) ->
   i∈Region.ready md ops listed->YieldsO P ops oi v a w ->
   wpAny P md ops Q fuel (listed.setIfInBounds i true) (a.put oi.dst v) w->wpAny P md ops Q (fuel+1) listed a w:=by
 intro fuel
 induction fuel with
 | zero=>
  intro listed a w _ _ hr hy H
  refine⟨λh=>(by grind),λj hj=>?_⟩
  by_cases hji:j=i
  .subst hji;exact hy.wpOp hi H
  .have:=ready_mono hj hji
   rw[H.1]at this
   cases this
 | succ fuel ih=>
  intro listed a w hfree hdl hr hy H
  refine⟨λh=>(by grind),λj hj=>?_⟩
  by_cases hji:j=i
  .subst hji;exact hy.wpOp hi H
  .have h1:=H.2 j (ready_mono hj hji)
   obtain⟨hjun,oj,hoj,hall⟩:=mem_ready.1 hj
   have hDj:D j=false:=by grind
   obtain⟨hap,ht⟩:=hfree j oj hoj hDj hjun
   have h2:=KF hoj hap ht (λcs b=>hsel i oi cs b hi) (λcs b=>hsel j oj cs b hoj) hQ hy h1
   have hfree':∀k ok,ops[k]?=some ok->D k=false->(listed.setIfInBounds j true).getD k true=false->oi.apart ops ok=true/\Tame ok:=λk ok hk hdk hun=>by
    refine hfree k ok hk hdk ?_;by_cases hjk:j=k
    .grind
    .rw[getD_set_ne true hjk]at hun;exact hun
   have hdl':∀k,D k=true->(listed.setIfInBounds j true).getD k false=false:=λk hk=>by
    by_cases hjk:j=k
    .grind
    .rw[getD_set_ne false hjk];grind
   refine wpOp_mono (λa' w' h3=>ih (listed.setIfInBounds j true) a' w' hfree' hdl' (ready_mono hr (Ne.symm hji)) h3.1 ?_) h2
   grind[Array.setIfInBounds_comm]
end
theorem L8{aw:U Ob}{σ:U Value}{w w':World}{F:Nat->Prop}(hs:Sim aw σ w F)(h:Over w w'):Agr aw σ w F w':=by
 rintro b (hb|⟨k,cs,v,h1,h2,h3⟩)
 .exact h b (hs.lt b hb)
 .exact h b (hs.lt_own ⟨k,_,v,h1,J,h2,h3⟩)
section
variable {P:Program} {fr:List AV} {aw:List Ob}
variable {w:World}{a:Act}{o:Oper}
theorem Cs {st:St}{σ:U Value}{F:Nat->Prop}{K:AV->Prop}(hc:Cur st fr aw σ w F a)(h:vcQ P fr aw o.op K):∃v r,(∀w',Over w w'->(execOp a.eval o).run P w'=.ok (.value v) w')/\Rel σ w F r v/\K r:=by obtain⟨v,r,h1,h2,h3⟩:=wL hc.fr hc.sim o h;exact⟨v,r,λw' hw=>h1 w' (L8 hc.sim hw),h2,h3⟩
def FA:Op->Bool
 | .load .. | .alloc .. | .box .. | .move .. | .indexAddr .. | .build .. | .buildSlice ..=>true
 |_=>false
theorem Ns (h:FA o.op=true):Tame o:=by cases e:o.op<;>rw[e]at h<;>first|(cases h;done)|exact KB e|exact JE e|exact K7 e|exact KS e|exact JH e|exact Jt e|exact H6 e
def loadFree(ops:Array Oper)(li:Array Bool)(D:List Nat)(i:Nat):Bool:=
 match ops[i]? with
 |none=>false
 | some oi=>
  D.contains i&&D.all (λj=>li.getD j false==false&&(j==i||match ops[j]? with
   |some oj=>oj.after.any λe=>Region.binds .any e&&D.contains e.on
   |none=>true))&&
  (List.range ops.size).all λj=>D.contains j||li.getD j true||match ops[j]? with
   |some oj=>oi.apart ops oj&&FA oj.op
   |none=>true
theorem AX {ops:Array Oper}{Q:Exit->Act->World->Prop}(D:U Nat){i:Nat}{oi:Oper}{v:Value}{fuel:Nat}{li:Array Bool}(hi:ops[i]?=some oi)(hs:Region.noSelect ops=true)(hf:loadFree ops li D i=true)(hr:(Region.ready .any ops li).contains i=true)(hQ:∀c a w,Q (.panic c) (a.put oi.dst v) w->Q (.panic c) a w)(hy:YieldsO P ops oi v a w)(h:wpAny P .any ops Q fuel (li.setIfInBounds i true) (a.put oi.dst v) w):wpAny P .any ops Q (fuel+1) li a w:=by
 simp only[loadFree,hi,RR,Q7]at hf
 obtain⟨⟨h1,h2⟩,h3⟩:=hf
 refine JA (λj=>D.contains j) hi (Region.noSelect_spec hs) hQ h1 ?_ fuel li a w ?_ ?_ (by grind) hy h
 .grind
 .intro j oj hj hd hl
  have:=h3 j (by grind)
  simp_all[Ns]
 grind
end
end RK
section
variable {P:Program} {N n:Nat} {aw:List Ob} {l:List (Nat×AV)}
end
section
variable {P:Program}
end
end
section
open Go.RowKit
inductive TI where
 |no
 |s0
 |sc (z:AV)
 |it (k:IntKind)
 |bo
 |str
 |sl (e c:Nat)
 |ag (z:List AV) (m:Nat) (fs:List (Nat×Nat×Nat))
 |ar (z:List AV) (m:Nat)
inductive TT where
 |l (t:Nat) (i:TI)
 |n (k:Nat) (a b:TT)
def TT.get:TT->Nat->TI
 | .l t i,u=>match Nat.beq t u with
  |true=>i
  |false=>.no
 | .n k a b,u=>match Nat.blt u k with
  |true=>a.get u
  |false=>b.get u
def TI.zero:TI->Option (List AV)
 | .sc z=>some [z]
 | .it k=>some [.int k 0]
 | .bo=>some [.bool false]
 | .str=>some [.str []]
 | .sl _ _=>some [.nils]
 | .ag z _ _=>some z
 | .ar z _=>some z
 |_=>none
def TI.size:TI->Option Nat
 | .no=>none
 | .ag _ m _=>some m
 | .ar _ m=>some m
 |_=>some 1
def TOne(P:Program)(t:Nat):Prop:=de P t=some false/\P.cellsOf t=1/\(P.underlying t).isSome=true
def FsOk(P:Program)(t:Nat):Nat->List (Nat×Nat×Nat)->Prop
 |_,[]=>True
 |k,(o,_,ft)::r=>FieldAt P t k ft o/\FsOk P t (k+1) r
def TAgg(P:Program)(t:Nat)(z:List AV)(m:Nat):Prop:=de P t=some true/\P.cellsOf t=m/\(P.underlying t).isSome=true/\bF P t=some z/\z.length=m
def TOk(P:Program)(t:Nat):TI->Prop
 | .no=>True
 | .s0=>TOne P t
 | .sc z=>TOne P t/\bF P t=some [z]
 | .it k=>TOne P t/\bF P t=some [.int k 0]/\P.underlying t=some (.int k)
 | .bo=>TOne P t/\bF P t=some [.bool false]/\P.underlying t=some .bool
 | .str=>TOne P t/\bF P t=some [.str []]/\P.underlying t=some .string
 | .sl e c=>TOne P t/\bF P t=some [.nils]/\SliceOf P t e c
 | .ag z m fs=>TAgg P t z m/\pY P t=some (fs.map λq=>(q.1,q.2.1))/\FsOk P t 0 fs
 | .ar z m=>TAgg P t z m
def TT.Ok(P:Program):TT->Prop
 | .l t i=>TOk P t i
 | .n _ a b=>a.Ok P/\b.Ok P
inductive TE where
 |a (x:Option Bool)
 |b (x:Nat)
 |c (x:Bool)
 |d (x:Option (List AV))
 |e (x:Option TypeDesc)
 |f (x:Option (List (Nat×Nat)))
 |g (x:List (Nat×Nat×Bool×Bool))
def fL(P:Program)(t:Nat):List (Nat×Nat×Bool×Bool):=match P.underlying t with
 |some (.struct fs)=>fs.toList.map λf=>(f.offset,f.type,P.cellsOf f.type==0,(P.underlying f.type).isSome)
 |_=>[]
def e1(P:Program)(t:Nat)(b:Bool)(m:Nat):List (TE×TE):=[(.a (de P t),.a (some b)),(.b (P.cellsOf t),.b m),(.c (P.underlying t).isSome,.c true)]
def e2(P:Program)(t:Nat)(z:List AV)(u:TypeDesc):List (TE×TE):=e1 P t false 1++[(.d (bF P t),.d (some z)),(.e (P.underlying t),.e (some u))]
def e3(P:Program)(t:Nat)(z:List AV)(m:Nat):List (TE×TE):=e1 P t true m++[(.d (bF P t),.d (some z)),(.b z.length,.b m)]
def TI.eqs(P:Program)(t:Nat):TI->List (TE×TE)
 | .no=>[]
 | .s0=>e1 P t false 1
 | .sc z=>e1 P t false 1++[(.d (bF P t),.d (some [z]))]
 | .it k=>e2 P t [.int k 0] (.int k)
 | .bo=>e2 P t [.bool false] .bool
 | .str=>e2 P t [.str []] .string
 | .sl e c=>e2 P t [.nils] (.slice e)++[(.b (P.cellsOf e),.b c),(.c (P.underlying e).isSome,.c true),(.c (Nat.blt 0 c),.c true),(.c (Nat.ble (P.bytesOf e) 128),.c true),(.b (((bF P e).map List.length).getD 0),.b c)]
 | .ag z m fs=>e3 P t z m++[(.f (pY P t),.f (some (fs.map λq=>(q.1,q.2.1)))),(.g (fL P t),.g (fs.map λq=>(q.1,q.2.2,false,true)))]
 | .ar z m=>e3 P t z m
def TT.eqs(P:Program):TT->List (TE×TE)
 | .l t i=>i.eqs P t
 | .n _ a b=>a.eqs P++b.eqs P
section
variable {P:Program}{t:Nat}
theorem fs_of:∀(r:U (Nat×Nat×Nat)) (k:Nat),(fL P t).drop k=r.map (λq=>(q.1,q.2.2,false,true))->FsOk P t k r
 |[],_,_=>trivial
 |(o,m,ft)::r,k,h=>by
  have h0:(fL P t)[k]?=some (o,ft,false,true):=by rw[<- List.head?_drop,h];rfl
  refine⟨⟨?_⟩,fs_of r (k+1) (by rw[<- Sb,h];rfl)⟩;unfold fL at h0;split at h0
  .rename_i fs hu;rw[QW]at h0;obtain⟨f,hf,e⟩:=QT.1 h0;simp only[Prod.mk.injEq,beq_eq_false_iff_ne]at e;obtain⟨rfl,rfl,e3,e4⟩:=e;exact⟨fs,f,hu,by rw[<- hf];simp,J,J,e3,e4⟩
  .cases h0
theorem TI.of_eqs {i:TI}(h:∀p∈i.eqs P t,p.1=p.2):TOk P t i:=by
 cases i with
 |no=>trivial
 |ag z m fs=>
  simp[TI.eqs,e3,e1]at h;exact⟨⟨h.1,h.2.1,h.2.2.1,h.2.2.2.1,h.2.2.2.2.1⟩,h.2.2.2.2.2.1,fs_of fs 0 h.2.2.2.2.2.2⟩
 |sl e c=>
  simp[TI.eqs,e2,e1]at h;obtain⟨h1,h2,h3,h4,h5,h6,h7,h8,h9,h10⟩:=h;refine⟨⟨h1,h2,h3⟩,h4,h5,h6,h7,h8,h9,?_⟩;cases hz:bF P e with
  |none=>rw[hz]at h10;simp at h10;omega
  |some z=>rw[hz]at h10;exact⟨z,J,h10⟩
 |_=>simp[TI.eqs,e3,e2,e1]at h;simp[TOk,TOne,TAgg,h]
theorem TT.of_eqs:∀{tt:TT},(∀p∈tt.eqs P,p.1=p.2)->tt.Ok P
 | .l _ _,h=>TI.of_eqs h
 | .n _ _ _,h=>⟨TT.of_eqs λp hp=>h p (List.mem_append_left _ hp),TT.of_eqs λp hp=>h p (List.mem_append_right _ hp)⟩
theorem TY {tt:TT}(h:(tt.eqs P).map (·.1)=(tt.eqs P).map (·.2)):tt.Ok P:=TT.of_eqs (List.map_inj_left.1 h)
end
section
variable {P:Program} {N n:Nat} {aw aw':List Ob} {l:List (Nat×AV)} {tt:TT}
theorem SL:∀{tt:TT},tt.Ok P->∀u,TOk P u (tt.get u)
 | .l t i,h,u=>by
  show TOk P u (match Nat.beq t u with|true=>i|false=>.no);cases hb:Nat.beq t u
  .trivial
  .have:=Q5 hb;subst this;exact h
 | .n k a b,h,u=>by
  show TOk P u (match Nat.blt u k with|true=>a.get u|false=>b.get u);cases Nat.blt u k
  .exact SL h.2 u
  .exact SL h.1 u
variable {t:Nat}{i:TI}
theorem TD {z:U AV}(h:TOk P t i)(hz:i.zero=some z):bF P t=some z:=by cases i<;>simp only[TI.zero]at hz<;>first|grind|(cases hz;first|exact h.2|exact h.2.1|exact h.1.2.2.2.1|exact h.2.2.2.1)
theorem TF {m:Nat}(h:TOk P t i)(hm:i.size=some m):P.cellsOf t=m/\(P.underlying t).isSome=true:=by cases i<;>simp only[TI.size]at hm<;>first|grind|(cases hm;first|exact⟨h.2.1,h.2.2⟩|exact⟨h.1.2.1,h.1.2.2.1⟩|exact⟨h.1.2.1,h.1.2.2⟩|exact⟨h.2.1,h.2.2.1⟩)
theorem zb:∀{fs:U (Nat×Nat×Nat)} {k i:Nat} {q:Nat×Nat×Nat},FsOk P t k fs->fs[i]?=some q->FieldAt P t (k+i) q.2.2 q.1
 |q'::r,k,0,q,h,e=>by simp at e;subst e;exact h.1
 |q'::r,k,i+1,q,h,e=>by
  have:=zb (k:=k+1) (i:=i) h.2 (by simpa using e);grind
 |[],k,i,q,h,e=>by simp at e
section
variable {α:Type}
def cw:List α->Nat->(α->Prop)->Prop
 |[],_,_=>False
 |a::l,k,K=>match k with
  |0=>K a
  |k+1=>cw l k K
def setC:List α->Nat->α->(List α->Prop)->Prop
 |[],_,_,_=>False
 |a::l,k,b,K=>match k with
  |0=>K (b::l)
  |k+1=>setC l k b λl=>K (a::l)
def pushC:List α->α->(List α->Prop)->Prop
 |[],b,K=>K [b]
 |a::l,b,K=>pushC l b λl=>K (a::l)
def lenC:List α->Nat->Prop->Prop
 |[],k,K=>match k with
  |0=>K
  |_+1=>False
 |_::l,k,K=>match k with
  |0=>False
  |k+1=>lenC l k K
def dropC:List α->Nat->(List α->Prop)->Prop
 |l,0,K=>K l
 |[],_+1,_=>False
 |_::l,k+1,K=>dropC l k K
def takeC:List α->Nat->(List α->Prop)->Prop
 |_,0,K=>K []
 |[],_+1,_=>False
 |a::l,k+1,K=>takeC l k λl=>K (a::l)
def overC:List α->List α->(List α->Prop)->Prop
 |l,[],K=>K l
 |[],_::_,_=>False
 |_::l,b::bs,K=>overC l bs λl=>K (b::l)
def splC:List α->Nat->List α->(List α->Prop)->Prop
 |l,0,bs,K=>overC l bs K
 |[],_+1,_,_=>False
 |a::l,k+1,bs,K=>splC l k bs λl=>K (a::l)
def lenB:List α->Nat->Bool
 |[],k=>(match k with
  |0=>true
  |_+1=>false)
 |_::l,k=>(match k with
  |0=>false
  |k+1=>lenB l k)
def sameB:List α->List α->Bool
 |[],[]=>true
 |_::l,_::m=>sameB l m
 |_,_=>false
def aggC(row:List α)(off m:Nat)(K:List α->Prop):Prop:=
 match off with
 |0=>(match lenB row m with
  |true=>K row
  |false=>takeC row m K)
 |off=>dropC row off λr=>takeC r m K
def putC(l:List α)(off:Nat)(bs:List α)(K:List α->Prop):Prop:=
 match off with
 |0=>(match sameB l bs with
  |true=>K bs
  |false=>splC l 0 bs K)
 |off=>splC l off bs K
theorem EH:∀{l:U α} {k:Nat},lenB l k=true->l.length=k
 |[],0,_=>rfl
 |[],_+1,h=>by cases h
 |_::_,0,h=>by cases h
 |_::l,k+1,h=>by have:=EH (l:=l) (k:=k) h;simp[this]
theorem Dw:∀{l m:U α},sameB l m=true->l.length=m.length
 |[],[],_=>rfl
 |[],_::_,h=>by cases h
 |_::_,[],h=>by cases h
 |_::l,_::m,h=>by have:=Dw (l:=l) (m:=m) h;simp[this]
theorem ce:∀{l:U α} {k:Nat} {K:α->Prop},cw l k K->∃a,l[k]?=some a/\K a
 |[],_,_,h=>h.elim
 |a::l,0,K,h=>⟨a,J,h⟩
 |a::l,k+1,K,h=>by obtain⟨b,h1,h2⟩:=ce (l:=l) (k:=k) (K:=K) h;grind
theorem jB:∀{l:U α} {k:Nat} {b:α} {K:U α->Prop},setC l k b K->K (l.set k b)
 |[],_,_,_,h=>h.elim
 |a::l,0,b,K,h=>h
 |a::l,k+1,b,K,h=>jB (l:=l) (k:=k) (K:=λl=>K (a::l)) h
theorem nL:∀{l:U α} {b:α} {K:U α->Prop},pushC l b K->K (l++[b])
 |[],_,_,h=>h
 |a::l,b,K,h=>nL (l:=l) (K:=λl=>K (a::l)) h
theorem wl:∀{l:U α} {k:Nat} {K:Prop},lenC l k K->l.length=k/\K
 |[],0,K,h=>⟨J,h⟩
 |[],_+1,_,h=>h.elim
 |_::_,0,_,h=>h.elim
 |_::l,k+1,K,h=>by have:=wl (l:=l) (k:=k) (K:=K) h;grind
theorem yr:∀{l:U α} {k:Nat} {K:U α->Prop},dropC l k K->k<=l.length/\K (l.drop k)
 |l,0,K,h=>⟨QY _,by cases l<;>exact h⟩
 |[],_+1,_,h=>h.elim
 |_::l,k+1,K,h=>by have:=yr (l:=l) (k:=k) (K:=K) h;grind
theorem yo:∀{l:U α} {k:Nat} {K:U α->Prop},takeC l k K->k<=l.length/\K (l.take k)
 |l,0,K,h=>⟨QY _,by cases l<;>exact h⟩
 |[],_+1,_,h=>h.elim
 |a::l,k+1,K,h=>by have:=yo (l:=l) (k:=k) (K:=λl=>K (a::l)) h;grind
theorem Dk:∀{l bs:U α} {K:U α->Prop},overC l bs K->bs.length<=l.length/\K (bs++l.drop bs.length)
 |l,[],K,h=>⟨QY _,by cases l<;>exact h⟩
 |[],_::_,_,h=>h.elim
 |_::l,b::bs,K,h=>by have:=Dk (l:=l) (bs:=bs) (K:=λl=>K (b::l)) h;grind
theorem wz:∀{l:U α} {k:Nat} {bs:U α} {K:U α->Prop},splC l k bs K->k+bs.length<=l.length/\K (l.take k++bs++l.drop (k+bs.length))
 |l,0,bs,K,h=>by have:=Dk (l:=l) (bs:=bs) (K:=K) (by cases l<;>exact h);grind
 |[],_+1,_,_,h=>h.elim
 |a::l,k+1,bs,K,h=>by have:=wz (l:=l) (k:=k) (bs:=bs) (K:=λl=>K (a::l)) h;grind
variable {K:U α->Prop}
theorem E0 {row:U α}{off m:Nat}(h:aggC row off m K):off+m<=row.length/\K ((row.drop off).take m):=by
 have key:∀{o:Nat},(dropC row o λr=>takeC r m K)->o+m<=row.length/\K ((row.drop o).take m):=λ{o} h=>by obtain⟨h1,h2⟩:=yr h;obtain⟨h3,h4⟩:=yo h2;grind
 unfold aggC at h;split at h;all_goals (grind[EH,yo])
theorem Mx {l:U α}{k:Nat}{bs:U α}(h:putC l k bs K):k+bs.length<=l.length/\K (l.take k++bs++l.drop (k+bs.length)):=by
 unfold putC at h;split at h
 .split at h
  .rename_i hb;have:=Dw hb;grind
  .exact wz h
 .exact wz h
end
def fA(a:AV)(K:AV->Prop):Prop:=
 match a with
 | .any=>K .any
 | .int k n=>K (.int k n)
 | .bool b=>K (.bool b)
 | .str s=>K (.str s)
 | .agg cs=>K (.agg cs)
 | .tup vs=>K (.tup vs)
 | .nils=>K .nils
 | .sl rows=>K (.sl rows)
 | .ref id=>K (.ref id)
 | .ptr id off=>K (.ptr id off)
 | .elt row off=>K (.elt row off)
 | .aptr id size i off=>K (.aptr id size i off)
 | .func f caps=>K (.func f caps)
 | .nilf=>K .nilf
 | .nilp=>K .nilp
 | .nili=>K .nili
 | .mpr id=>K (.mpr id)
 | .np id=>K (.np id)
 | .ifc t a=>K (.ifc t a)
 | .cst v=>K (.cst v)
 | .vw id size lo n cap=>K (.vw id size lo n cap)
 | .ref2 id=>K (.ref2 id)
 | .aptr2 id i=>K (.aptr2 id i)
 | .iref id i=>K (.iref id i)
 | .bnd f cs=>K (.bnd f cs)
variable {a:AV}{K:AV->Prop}{row:U AV}{off c:Nat}{op:Op}{o:Oper}{ops:Array Oper}
theorem fU (h:fA a K):K a:=by cases a<;>exact h
def tG(a:AV)(K:List AV->Prop):Prop:=
 match a with
 | .any| .tup _| .cst _=>False
 | .agg cs=>K cs
 |a=>fA a λa=>K [a]
theorem xN {K:U AV->Prop}(h:tG a K):∃cs,a.cells=some cs/\K cs:=by cases a<;>first|exact h.elim|exact⟨_,rfl,h⟩
def evsC(n:Nat)(l:List (Nat×AV)):List Operand->(List AV->Prop)->Prop
 |[],K=>K []
 |x::xs,K=>fA (evA n l x) λa=>evsC n l xs λas₀=>K (a::as₀)
theorem tC:∀{xs:U Operand} {K:U AV->Prop},evsC n l xs K->K (xs.map (evA n l))
 |[],K,h=>h
 |x::xs,K,h=>tC (xs:=xs) (K:=λas₀=>K (evA n l x::as₀)) (fU (a:=evA n l x) (K:=λa=>evsC n l xs λas₀=>K (a::as₀)) h)
def ikN:IntKind->Nat
 | .i8=>0
 | .i16=>1
 | .i32=>2
 | .i64=>3
 | .u8=>4
 | .u16=>5
 | .u32=>6
 | .u64=>7
theorem FK {a b:IntKind}(h:Nat.beq (ikN a) (ikN b)=true):a=b:=by cases a<;>cases b<;>first|rfl|cases h
def wLd(i:TI)(row:List AV)(off:Nat)(K:AV->Prop):Prop:=
 match i with
 | .no=>False
 | .ag _ m _=>aggC row off m λcs=>K (.agg cs)
 | .ar _ m=>aggC row off m λcs=>K (.agg cs)
 |_=>cw row off λc=>fA c K
theorem ldA {m:Nat}(hk:de P t=some true)(hm:P.cellsOf t=m)(h:aggC row off m λcs=>K (.agg cs)):cu P t row off K:=by grind[E0,cu]
theorem ld1 (hk:de P t=some false)(h:cw row off λc=>fA c K):cu P t row off K:=by obtain⟨c,h1,h2⟩:=ce h;grind[aN,fU]
theorem zl (ht:TOk P t i)(h:wLd i row off K):cu P t row off K:=by
 cases i with
 |no=>exact h.elim
 |ag z m fs=>exact ldA ht.1.1 ht.1.2.1 h
 |ar z m=>exact ldA ht.1 ht.2.1 h
 |s0=>exact ld1 ht.1 h
 |_=>exact ld1 ht.1.1 h
def wBin(tt:TT)(op:BinOp)(t:Nat)(a b:AV)(K:AV->Prop):Prop:=
 match a,b with
 | .int k x,.int k' y=>(match Nat.beq (ikN k) (ikN k')with
  |true=>(match op with
   | .add=>K (.int k (k.wrap (x+y)))
   | .sub=>K (.int k (k.wrap (x- y)))
   | .mul=>K (.int k (k.wrap (x*y)))
   | .and=>K (.int k (intBits .and k x y))
   | .or=>K (.int k (intBits .or k x y))
   | .xor=>K (.int k (intBits .xor k x y))
   | .eql=>K (.bool (x==y))
   | .neq=>K (.bool (x !=y))
   | .lss=>K (.bool (decide (x<y)))
   | .leq=>K (.bool (decide (x<=y)))
   | .gtr=>K (.bool (decide (x> y)))
   | .geq=>K (.bool (decide (x>=y)))
   |_=>False)
  |false=>False)
 | .str x,.str y=>(match op with
  | .eql=>K (.bool (x==y))
  | .neq=>K (.bool (!(x==y)))
  |_=>False)
 | .bool x,.bool y=>(match tt.get t with
  | .bo=>(match op with
   | .eql=>K (.bool (x==y))
   | .neq=>K (.bool (!(x==y)))
   |_=>False)
  |_=>False)
 |_,_=>False
theorem Mk {op:BinOp}{b:AV}(ht:tt.Ok P)(h:wBin tt op t a b K):ij P op t a b K:=by
 unfold wBin at h;split at h
 .split at h
  .rename_i hk;have:=FK hk;subst this;split at h<;>first|exact⟨trivial,h⟩|exact⟨J,h⟩|exact h.elim
  grind
 .split at h<;>first|exact h.elim|exact h
 .split at h
  .rename_i hb;have hu:=SL ht t;rw[hb]at hu;have hu:=hu.2.2;split at h<;>first|exact h.elim|simp_all[ij]
  grind
 grind
def fillC(n:Nat)(l:List (Nat×AV))(fs:List (Nat×Nat×Nat)):List AV->List (Nat×Operand)->(List AV->Prop)->Prop
 |cells,[],K=>K cells
 |cells,(i,x)::ps,K=>cw fs i λ(o,sz,_)=>tG (evA n l x) λvs=>lenC vs sz (splC cells o vs λcs=>fillC n l fs cs ps K)
theorem DD {fs:U (Nat×Nat×Nat)}:∀{ps:U (Nat×Operand)} {cells:U AV} {K:U AV->Prop},fillC n l fs cells ps K ->
  ∃cs,iM (λi=>(fs.map λq=>(q.1,q.2.1))[i]?) cells (ps.map λp=>(p.1,evA n l p.2))=some cs/\K cs
 |[],cells,K,h=>⟨cells,J,by assumption⟩
 |(i,x)::ps,cells,K,h=>by
  have h:cw fs i λq=>tG (evA n l x) λvs=>lenC vs q.2.1 (splC cells q.1 vs λcs=>fillC n l fs cs ps K):=by assumption
  obtain⟨q,h1,h⟩:=ce h;obtain⟨vs,h2,h⟩:=xN h;obtain⟨h3,h⟩:=wl h;obtain⟨h4,h⟩:=wz h;obtain⟨cs,h5,h6⟩:=DD h;refine⟨cs,?_,h6⟩;show iM _ cells ((i,evA n l x)::ps.map λp=>(p.1,evA n l p.2))=_;have e1:(fs.map λq=>(q.1,q.2.1))[i]?=some (q.1,q.2.1):=by grind
  unfold iM;simp only[e1,h2];rw[if_pos ⟨h3,by omega⟩];exact h5
def wB(tt:TT)(n:Nat)(l:List (Nat×AV))(b:Builtin)(args:List Operand)(ats:List TypeId)(K:AV->Prop):Prop:=
 match b,args,ats with
 | .len,[x],[t]=>(match tt.get t,evA n l x with
  | .str,.str s=>K (.int .i64 s.length)
  | .sl _ _,.nils=>K (.int .i64 0)
  |_,_=>False)
 | .min,[x,y],_=>(match evA n l x,evA n l y with
  | .int k a,.int _ b=>K (.int k (if b<a then b else a))
  |_,_=>False)
 | .max,[x,y],_=>(match evA n l x,evA n l y with
  | .int k a,.int _ b=>K (.int k (if b> a then b else a))
  |_,_=>False)
 |_,_,_=>False
theorem wB_ok {b:Builtin}{args:U Operand}{ats:U TypeId}(ht:tt.Ok P)(h:wB tt n l b args ats K):vcB P (mkA n l) aw b args ats K:=by
 unfold wB at h;split at h
 .rename_i x t;have hu:=SL ht t;split at h
  .rename_i s h1 h2;rw[h1]at hu;simp only[vcB,aG,hu.2.2,h2];exact h
  .rename_i e c h1 h2;rw[h1]at hu;simp only[vcB,aG,hu.2.2.u,h2];exact h
  grind
 all_goals (grind[vcB,aG])
def wV(tt:TT)(n:Nat)(l:List (Nat×AV))(aw:List Ob)(op:Op)(K:AV->Prop):Prop:=
 match op with
 | .move x=>fA (evA n l x) K
 | .assign x=>fA (evA n l x) K
 | .pick c a b=>(match evA n l c,evA n l a,evA n l b with
  | .bool t,.bool x,.bool y=>K (.bool (if t then x else y))
  | .bool t,.int k x,.int k' y=>(match Nat.beq (ikN k) (ikN k')with
   |true=>K (.int k (if t then x else y))
   |false=>False)
  |_,_,_=>False)
 | .load t x=>(match evA n l x with
  | .ptr id off=>cw aw id λo=>(match o with
   | .box cs=>wLd (tt.get t) cs off K
   |_=>False)
  | .elt row off=>wLd (tt.get t) row off K
  |_=>False)
 | .fieldAddr t x k=>(match tt.get t with
  | .ag _ _ fs=>cw fs k λ(o,_,_)=>(match evA n l x with
   | .ptr id off=>K (.ptr id (off+o))
   | .elt row off=>K (.elt row (off+o))
   | .aptr id s i off=>K (.aptr id s i (off+o))
   |_=>False)
  |_=>False)
 | .field t x k=>(match tt.get t,evA n l x with
  | .ag _ _ fs,.agg cs=>cw fs k λ(o,_,ft)=>wLd (tt.get ft) cs o K
  |_,_=>False)
 | .binOp op t x y _=>wBin tt op t (evA n l x) (evA n l y) K
 | .unOp op _ x=>(match op,evA n l x with
  | .not,.bool b=>K (.bool (!b))
  | .neg,.int k a=>K (.int k (k.wrap (0- a)))
  |_,_=>False)
 | .convert s t x=>(match evA n l x with
  | .int _ a=>(match tt.get s,tt.get t with
   | .it _,.it k=>K (.int k (k.wrap a))
   |_,_=>False)
  |_=>False)
 | .makeFunc (.func f) first caps=>(match first.toList with
  |[]=>evsC n l caps.toList λcs=>K (.func f cs)
  |x::xs=>(match caps.toList with
   |[]=>evsC n l (x::xs) λcs=>K (.bnd f cs)
   |_=>False))
 | .build t parts=>(match tt.get t with
  | .ag z _ fs=>fillC n l fs z parts.toList λcs=>K (.agg cs)
  |_=>False)
 | .extract x k=>(match evA n l x with
  | .tup vs=>cw vs k λv=>fA v K
  |_=>False)
 | .nilCheck x=>(match evA n l x with
  | .ptr id off=>K (.ptr id off)
  | .elt row off=>K (.elt row off)
  | .aptr id s i off=>K (.aptr id s i off)
  | .func f cs=>K (.func f cs)
  | .bnd f cs=>K (.bnd f cs)
  |_=>False)
 | .call c=>(match c.callee with
  | .builtin b=>wB tt n l b c.args.toList c.argTypes.toList K
  |_=>False)
 |_=>False
theorem wV_ok (ht:tt.Ok P)(h:wV tt n l aw op K):vcQ P (mkA n l) aw op K:=by
 cases op with
 |move x=>exact eu J (fU h)
 |assign x=>exact db J (fU h)
 | pick c a b=>
  simp only[wV]at h;split at h
  .rename_i h1 h2 h3;exact wS h1 (by rw[h2,h3];rfl) h
  .rename_i h1 h2 h3;split at h
   .rename_i hk;have:=FK hk;simp_all[wS,pickV]
   grind
  grind
 | load t x=>
  simp only[wV]at h;split at h
  .rename_i h1;obtain⟨o,h2,h⟩:=ce h;split at h
   .exact iz h1 h2 (zl (SL ht t) h)
   grind
  .rename_i h1;exact Jk h1 (zl (SL ht t) h)
  grind
 |fieldAddr t x k=>
  simp only[wV]at h;have hu:=SL ht t;split at h
  .rename_i z m fs h0;rw[h0]at hu;obtain⟨q,h1,h⟩:=ce h;have hF:=zb hu.2.2 h1;rw[RF]at hF;grind[HZ,H0,HU]
  grind
 |field t x k=>
  simp only[wV]at h;have hu:=SL ht t;split at h
  .rename_i z m fs cs h0 h2;rw[h0]at hu;obtain⟨q,h1,h⟩:=ce h;have hF:=zb hu.2.2 h1;rw[RF]at hF;exact MW hF h2 (zl (SL ht _) h)
  grind
 |binOp op t x y yt=>
  have:=Mk ht h;simp_all[vcQ,aG]
 |unOp op t x=>
  simp only[wV]at h;grind[v_not,v_neg]
 | convert s t x=>
  simp only[wV]at h;split at h
  .rename_i h1;have hu:=SL ht t;have hs:=SL ht s;split at h
   .rename_i h2 h3;rw[h2]at hs;rw[h3]at hu;exact Oj hs.2.2 hu.2.2 h1 h
   grind
  grind
 | makeFunc f first caps=>
  cases f with
  | func f=>
   simp only[wV]at h;split at h
   .rename_i h1;have:first=#[]:=by grind
    subst this;exact vM J (tC h)
   .rename_i x xs h1;split at h
    .rename_i h2;have h3:first=(x::xs).toArray:=by grind
     have h4:caps=#[]:=by grind
     subst h3 h4;exact v_bnd J (tC h)
    grind
  |_=>exact h.elim
 |build t parts=>
  simp only[wV]at h;have hu:=SL ht t;split at h
  .rename_i z m fs h0;rw[h0]at hu;obtain⟨cs,h1,h2⟩:=DD h;exact EF hu.1.2.2.2.1 hu.2.1 h1 h2
  grind
 |extract x k=>
  simp only[wV]at h;split at h
  .rename_i h1;obtain⟨v,h2,h⟩:=ce h;grind[Kr,fU]
  grind
 |nilCheck x=>
  simp only[wV]at h;grind[JL,Kl,Jc,JD,Ke]
 |call c=>
  obtain⟨cal,as₀,ts⟩:=c;cases cal with
  |builtin b=>exact wB_ok ht h
  |_=>exact h.elim
 |_=>exact h.elim
theorem NZ (h:wV tt n l aw op K):isQ (mkA n l) op=true:=by
 cases op with
 |load t x=>
  simp only[wV]at h;grind[isQ,aG]
 |convert s t x=>
  simp only[wV]at h;grind[isQ,aG]
 | call c=>
  obtain⟨cal,as₀,ts⟩:=c;cases cal with
  |builtin b=>
   simp only[wV,wB]at h;split at h<;>first|rfl|exact h.elim
  |_=>exact h.elim
 |_=>first|rfl|exact h.elim
theorem U4 {K:AV->U Ob->Prop}(ht:tt.Ok P)(h:wV tt n l aw o.op λr=>K r aw):OP P N o (mkA n l) aw K:=by
 refine SK ?_;have h1:=NZ h;have h2:=wV_ok ht h;obtain⟨d,op,ty,ps,af,g⟩:=o;have key:ik P (mkA n l) aw op K:=by simp_all[ik]
 cases op with
 |call c=>
  obtain⟨cal,as₀,ts⟩:=c;cases cal with
  |builtin b=>exact key
  |_=>exact(show False from h).elim
 |_=>exact key
def wE(tt:TT)(n:Nat)(l:List (Nat×AV))(aw:List Ob)(c:Nat)(op:Op)(K:AV->List Ob->Nat->Prop):Prop:=
  match op with
  | .alloc e=>(match(tt.get e).zero with
    |some z=>pushC aw (.box z) λaw=>K (.ptr c 0) aw (c+1)
    |none=>False)
  | .box _ x=>tG (evA n l x) λcs=>pushC aw (.box cs) λaw=>K (.ptr c 0) aw (c+1)
  | .store t x y=>(match evA n l x with
    | .ptr id off=>(match(tt.get t).size with
      | some m=>tG (evA n l y) λvs=>lenC vs m (cw aw id λo=>(match o with
        | .box cs=>putC cs off vs λcs=>setC aw id (.box cs) λaw=>K .any aw c
        |_=>False))
      |none=>False)
    |_=>False)
  |op=>wV tt n l aw op λr=>K r aw c
theorem OP.mono {fr:U AV}{K K':AV->U Ob->Prop}(h:OP P N o fr aw K)(hm:∀r aw',K r aw'->K' r aw'):OP P N o fr aw K':=
 ⟨λst h1 h2 σ w F a hc Kc Q hk=>h.out st h1 h2 σ w F a hc Kc Q λr aw' σ' w' F' v hK=>hk r aw' σ' w' F' v (hm r aw' hK)⟩
theorem wE_ok {K:AV->U Ob->Nat->Prop}(ht:tt.Ok P)(hc:aw.length=c)(h:wE tt n l aw c o.op K):OP P N o (mkA n l) aw λr aw'=>K r aw' aw'.length:=by
 obtain⟨d,op,ty,ps,af,g⟩:=o;subst hc;have q:wV tt n l aw op (λr=>K r aw aw.length)->OP P N ⟨d,op,ty,ps,af,g⟩ (mkA n l) aw λr aw'=>K r aw' aw'.length:=λh=>U4 ht h
 cases op with
 |alloc e=>
  simp only[wE]at h;split at h
  .rename_i z hz;have:=nL h;exact Nu (TD (SL ht e) hz) J J (by grind)
  grind
 |box e x=>
  obtain⟨cs,h1,h2⟩:=xN h;have:=nL h2;simp_all[o_box]
 | store t x y=>
  simp only[wE]at h;split at h
  .rename_i h1;split at h
   .rename_i m hm;obtain⟨vs,h2,h⟩:=xN h;obtain⟨h3,h⟩:=wl h;obtain⟨o,h4,h⟩:=ce h;split at h
    .obtain⟨h5,h⟩:=Mx h;have h:=jB h;have hs:=TF (SL ht t) hm;exact I3 hs.1 hs.2 h1 h2 h3 h4 (Nat.ble_eq_true_of_le (by omega)) J J (by grind[splice])
    grind
   grind
  grind
 |_=>exact q h
def wR(tt:TT)(n:Nat):Nat->List Oper->List (Nat×AV)->List Ob->Nat->(List Oper->List (Nat×AV)->List Ob->Prop)->Prop
 |0,os,l,aw,_,K=>K os l aw
 |_+1,[],_,_,_,_=>False
 | m+1,o::os,l,aw,c,K=>(match o.guard with
  |none=>wE tt n l aw c o.op λr aw c=>(match o.dst with
   |some t=>wR tt n m os ((t,r)::l) aw c K
   |none=>wR tt n m os l aw c K)
  |some _=>False)
theorem RS.go (ht:tt.Ok P){K:U AV->U Ob->Prop}:∀{m:Nat} {os:U Oper} {l:U (Nat×AV)} {aw:U Ob} {c:Nat},aw.length=c->wR tt n m os l aw c (λos l aw=>RS P N ops os K (mkA n l) aw)->RS P N ops os K (mkA n l) aw
 |0,os,l,aw,c,hc,h=>by assumption
 |_+1,[],_,_,_,_,h=>h.elim
 | m+1,o::os,l,aw,c,hc,h=>by
  simp only[wR]at h;split at h
  .rename_i hg;refine RS.op hg ((wE_ok ht hc h).mono λr aw' h=>?_);split at h
   .rename_i t hd;rw[hd];exact RS.go ht J h
   .rename_i hd;rw[hd];exact RS.go ht J h
  .exact h.elim
def okQ(ops:Array Oper):Array Bool->List Nat->Bool
 |_,[]=>true
 |li,i::is=>Region.free .any ops li i&&(Region.ready .any ops li).contains i&&(match ops.toList[i]? with
  |some o=>nV o.op&&o.guard.isNone
  |none=>false)&&okQ ops (li.setIfInBounds i true) is
def lisQ:Array Bool->List Nat->Array Bool
 |li,[]=>li
 |li,i::is=>lisQ (li.setIfInBounds i true) is
def wQ(tt:TT)(n:Nat)(ops:List Oper):List Nat->List (Nat×AV)->List Ob->(List (Nat×AV)->Prop)->Prop
 |[],l,aw,K=>K l
 |i::is,l,aw,K=>cw ops i λo=>wV tt n l aw o.op λr=>(match o.dst with
  |some t=>wQ tt n ops is ((t,r)::l) aw K
  |none=>wQ tt n ops is l aw K)
theorem T5 (ht:tt.Ok P){K:U AV->U Ob->Prop}(hs:Region.noSelect ops=true){k':Nat}:∀{is:U Nat} {k:Nat} {li:Array Bool} {l:U (Nat×AV)},k=k'+ is.length->okQ ops li is=true ->
  wQ tt n ops.toList is l aw (λl=>RA P N ops k' (lisQ li is) K (mkA n l) aw)->RA P N ops k li K (mkA n l) aw
 |[],k,li,l,hk,_,h=>by have:k=k':=hk;subst this;exact h
 |i::is,k,li,l,hk,ho,h=>by
  obtain⟨o,h1,h⟩:=ce h;have h1':ops[i]?=some o:=by grind
  unfold okQ at ho;rw[h1]at ho;simp only[RR]at ho;obtain⟨⟨⟨ho1,ho2⟩,ho3,ho4⟩,ho5⟩:=ho;have hg:o.guard=none:=by simp_all
  have hk:k=(k'+ is.length)+1:=by omega
  subst hk;refine⟨λst e1 e2 σ w F a hc R hR=>?_⟩;obtain⟨v,r,hrun,hrel,hk⟩:=tc hc ho3 (wV_ok ht h);refine wpAny_take h1' hs ho1 ho2 (λc a w hp=>hp) (.inl ⟨by grind[Region.wanted],hrun⟩) ?_;have hput:=fk hc hrel o.dst;rw[eL]at hput;refine RA.out ?_ st e1 e2 σ w F _ hput R hR;split at hk
  .rename_i t hd;rw[hd];exact T5 ht hs J ho5 hk
  .rename_i hd;rw[hd];exact T5 ht hs J ho5 hk
theorem RO.g (ht:tt.Ok P){i:Nat}{K:U AV->U Ob->Prop}(hc:aw.length=c)(h:cw ops.toList i λo=>o.guard=none/\wE tt n l aw c o.op λr aw c=>(match o.dst with
   |some t=>K (mkA n ((t,r)::l)) aw
   |none=>K (mkA n l) aw)):RO P N ops i K (mkA n l) aw:=by
 obtain⟨o,h1,hg,h⟩:=ce h
 refine RO.op (by grind) hg ((wE_ok ht hc h).mono λr aw' h=>?_)
 split at h
 .rename_i t hd
  rw[hd];exact h
 .rename_i hd
  rw[hd];exact h
end
end
section
open Go.RowKit
set_option maxRecDepth 100000
theorem S0:Qbl.cellsOf 3=1:=by kernel_rfl
theorem U0:Qbl.bytesOf 3=8:=by kernel_rfl
theorem S4:de Qbl 3=some false:=by kernel_rfl
theorem SP:bF Qbl 3=some [.int .i64 0]:=by kernel_rfl
theorem TX:Qbl.cellsOf 4=1:=by kernel_rfl
theorem UZ:Qbl.bytesOf 4=1:=by kernel_rfl
theorem TU:de Qbl 4=some false:=by kernel_rfl
theorem TR:bF Qbl 4=some [.bool false]:=by kernel_rfl
theorem UW:Qbl.cellsOf 5=1:=by kernel_rfl
theorem UY:Qbl.bytesOf 5=1:=by kernel_rfl
theorem Tk:bF Qbl 5=some [.int .u8 0]:=by kernel_rfl
theorem Up:Qbl.cellsOf 9=1:=by kernel_rfl
theorem UX:Qbl.bytesOf 9=16:=by kernel_rfl
theorem Tt:de Qbl 9=some false:=by kernel_rfl
theorem TH:bF Qbl 9=some [.str []]:=by kernel_rfl
theorem UE:Qbl.cellsOf 22=1:=by kernel_rfl
theorem UD:Qbl.cellsOf 24=3:=by kernel_rfl
theorem Tq:Qbl.cellsOf 27=1:=by kernel_rfl
theorem SO:de Qbl 27=some false:=by kernel_rfl
theorem UC:Qbl.cellsOf 29=1:=by kernel_rfl
theorem UN:Qbl.bytesOf 29=24:=by kernel_rfl
theorem TS:bF Qbl 29=some [.nils]:=by kernel_rfl
theorem Tf:Qbl.cellsOf 30=1:=by kernel_rfl
theorem UM:Qbl.bytesOf 30=24:=by kernel_rfl
theorem SH:de Qbl 30=some false:=by kernel_rfl
theorem SU:bF Qbl 30=some [.nils]:=by kernel_rfl
theorem UB:Qbl.cellsOf 39=1:=by kernel_rfl
theorem UL:Qbl.bytesOf 39=8:=by kernel_rfl
theorem Tp:bF Qbl 39=some [.int .i64 0]:=by kernel_rfl
theorem TC:Qbl.cellsOf 44=2:=by kernel_rfl
theorem UK:Qbl.bytesOf 44=16:=by kernel_rfl
theorem TQ:bF Qbl 44=some [.int .i64 0,.int .i64 0]:=by kernel_rfl
theorem TW:Qbl.cellsOf 50=2:=by kernel_rfl
theorem UJ:Qbl.bytesOf 50=16:=by kernel_rfl
theorem Ut:de Qbl 50=some true:=by kernel_rfl
theorem Tc:bF Qbl 50=some [.int .i64 0,.int .i64 0]:=by kernel_rfl
theorem TB:Qbl.cellsOf 75=3:=by kernel_rfl
theorem UI:Qbl.bytesOf 75=24:=by kernel_rfl
theorem SW:bF Qbl 75=some [.int .i64 0,.int .i64 0,.int .i64 0]:=by kernel_rfl
theorem SY:Qbl.cellsOf 84=3:=by kernel_rfl
theorem UH:Qbl.bytesOf 84=40:=by kernel_rfl
theorem S6:de Qbl 84=some true:=by kernel_rfl
theorem SV:bF Qbl 84=some [.int .i64 0,.nils,.int .i64 0]:=by kernel_rfl
theorem TA:Qbl.cellsOf 90=4:=by kernel_rfl
theorem UG:Qbl.bytesOf 90=64:=by kernel_rfl
theorem Tx:bF Qbl 90=some [.int .i64 0,.int .i64 0,.nils,.nils]:=by kernel_rfl
theorem Te:Qbl.cellsOf 97=2:=by kernel_rfl
theorem UF:Qbl.bytesOf 97=16:=by kernel_rfl
theorem Ti:de Qbl 97=some true:=by kernel_rfl
theorem Tw:bF Qbl 97=some [.int .i64 0,.int .i64 0]:=by kernel_rfl
theorem Uh:Qbl.cellsOf 132=2:=by kernel_rfl
theorem Uk:Qbl.bytesOf 132=24:=by kernel_rfl
theorem Tb:bF Qbl 132=some [.int .i64 0,.str []]:=by kernel_rfl
theorem TK:Qbl.cellsOf 139=2:=by kernel_rfl
theorem Uj:Qbl.bytesOf 139=16:=by kernel_rfl
theorem Ud:de Qbl 139=some true:=by kernel_rfl
theorem Ta:bF Qbl 139=some [.int .i64 0,.int .i64 0]:=by kernel_rfl
theorem Uc:de Qbl 152=some false:=by kernel_rfl
theorem SF:de Qbl 175=some false:=by kernel_rfl
theorem TJ:Qbl.cellsOf 245=2:=by kernel_rfl
theorem Ui:Qbl.bytesOf 245=16:=by kernel_rfl
theorem Ub:de Qbl 245=some true:=by kernel_rfl
theorem Tu:bF Qbl 245=some [.int .i64 0,.int .i64 0]:=by kernel_rfl
theorem Tn:Qbl.cellsOf 269=1:=by kernel_rfl
theorem T7:bF Qbl 270=some [.nilf,.nilf,.nilf,.nilf]:=by kernel_rfl
theorem Ua:pY Qbl 270=some [(0,1),(1,1),(2,1),(3,1)]:=by kernel_rfl
theorem Ts:(Qbl.info? 3).bind (·.zero)=some (.int .i64 0):=by kernel_rfl
theorem S9:(Qbl.info? 70).bind (·.zero)=some (.nilFunc):=by kernel_rfl
theorem S2:(Qbl.info? 142).bind (·.zero)=some (.agg #[.nilFunc,.nilFunc]):=by kernel_rfl
theorem Tl:(Qbl.underlying 3).isSome=true:=by rw[Vc];rfl
theorem TV:(Qbl.underlying 4).isSome=true:=by rw[Tryz.underlying4];rfl
theorem UV:(Qbl.underlying 5).isSome=true:=by rw[Vk];rfl
theorem Uo:(Qbl.underlying 9).isSome=true:=by rw[Vd];rfl
theorem Tz:(Qbl.underlying 27).isSome=true:=by rw[Vn];rfl
theorem UA:(Qbl.underlying 29).isSome=true:=by rw[Vw];rfl
theorem Tj:(Qbl.underlying 30).isSome=true:=by rw[Vo];rfl
theorem Uz:(Qbl.underlying 39).isSome=true:=by rw[Tryz.underlying39];rfl
theorem Uy:(Qbl.underlying 44).isSome=true:=by rw[Vx];rfl
theorem Ux:(Qbl.underlying 50).isSome=true:=by rw[Vy];rfl
theorem Uw:(Qbl.underlying 75).isSome=true:=by rw[Vp];rfl
theorem Tv:(Qbl.underlying 84).isSome=true:=by rw[Tryz.underlying84];rfl
theorem Uv:(Qbl.underlying 90).isSome=true:=by rw[Vz];rfl
theorem Uu:(Qbl.underlying 97).isSome=true:=by rw[Tryz.underlying97];rfl
theorem Ug:(Qbl.underlying 132).isSome=true:=by rw[VA];rfl
theorem Uf:(Qbl.underlying 139).isSome=true:=by rw[VB];rfl
theorem Ue:(Qbl.underlying 245).isSome=true:=by rw[Tryz.underlying245];rfl
theorem Tm:(Qbl.underlying 269).isSome=true:=by rw[Tryz.underlying269];rfl
theorem Sw:SliceOf Qbl 22 90 4:=⟨VC,TA,Uv,by decide,by rw[UG];decide,_,Tx,J⟩
theorem SA:SliceOf Qbl 25 30 1:=⟨Vq,Tf,Tj,by decide,by rw[UM];decide,_,SU,J⟩
theorem Td:SliceOf Qbl 26 44 2:=⟨Vr,TC,Uy,by decide,by rw[UK];decide,_,TQ,J⟩
theorem Sx:SliceOf Qbl 27 3 1:=⟨Vn,S0,Tl,by decide,by rw[U0];decide,_,SP,J⟩
theorem SE:SliceOf Qbl 28 84 3:=⟨Tryz.underlying28,SY,Tv,by decide,by rw[UH];decide,_,SV,J⟩
theorem Sz:SliceOf Qbl 29 50 2:=⟨Vw,TW,Ux,by decide,by rw[UJ];decide,_,Tc,J⟩
theorem Sy:SliceOf Qbl 30 75 3:=⟨Vo,TB,Uw,by decide,by rw[UI];decide,_,SW,J⟩
theorem SI:SliceOf Qbl 33 9 1:=⟨Tryz.underlying33,Up,Uo,by decide,by rw[UX];decide,_,TH,J⟩
theorem SN:SliceOf Qbl 34 132 2:=⟨Tryz.underlying34,Uh,Ug,by decide,by rw[Uk];decide,_,Tb,J⟩
theorem Us:lT Qbl 50 [1,1]:=vt (by kernel_rfl) Vy (by kernel_rfl) ⟨by decide,J,Vc,by decide,J,Vc,tqz⟩
theorem SX:SliceOf Qbl 52 39 1:=⟨Tryz.underlying52,UB,Uz,by decide,by rw[UL];decide,_,Tp,J⟩
theorem Ur:lT Qbl 75 [1,1,1]:=vt (by kernel_rfl) Vp (by kernel_rfl) ⟨by decide,J,Vc,by decide,J,Vc,by decide,J,Vc,tqz⟩
theorem SB:SliceOf Qbl 82 139 2:=⟨VD,TK,Uf,by decide,by rw[Uj];decide,_,Ta,J⟩
theorem SM:SliceOf Qbl 93 97 2:=⟨Tryz.underlying93,Te,Uu,by decide,by rw[UF];decide,_,Tw,J⟩
theorem T9:lT Qbl 132 [1,2]:=vt (by kernel_rfl) VA (by kernel_rfl) ⟨by decide,J,Vc,by decide,J,Vd,tqz⟩
theorem T8:lT Qbl 139 [1,1]:=vt (by kernel_rfl) VB (by kernel_rfl) ⟨by decide,J,Vc,by decide,J,Vc,tqz⟩
theorem S3:SliceOf Qbl 152 5 1:=⟨Vh,UW,UV,by decide,by rw[UY];decide,_,Tk,J⟩
theorem S8:SliceOf Qbl 198 4 1:=⟨Tryz.underlying198,TX,TV,by decide,by rw[UZ];decide,_,TR,J⟩
theorem Th:SliceOf Qbl 221 29 1:=⟨Tryz.underlying221,UC,UA,by decide,by rw[UN];decide,_,TS,J⟩
theorem SQ:SliceOf Qbl 241 245 2:=⟨Tryz.underlying241,TJ,Ue,by decide,by rw[Ui];decide,_,Tu,J⟩
end
section
open Go.RowKit
theorem mixed:Qbl.follows .mixedOrders=true:=by kernel_rfl
def aj(n:Int):List AV:=[.int .i64 n]
def aT(s:List UInt8):List AV:=[.str s]
end
structure Item where
 (Key Val Dep:Int)
deriving DecidableEq
structure Node where
 (Kind A:Int)
 (In Out:List Int)
deriving DecidableEq
structure Net where
 Nodes:List Node
 (Rings Room:Int)
deriving DecidableEq
structure Keyed where
 (Key N:Int)
deriving DecidableEq
structure Memory where
 Sum:Int
 Keys:List Keyed
 Dep:Int
deriving DecidableEq
structure Choice where
 (Node Lane:Int)
deriving DecidableEq
structure State where
 At:List Int
 Rings:List (List Item)
 Memory:List Memory
 Choices:List Choice
 Out:List Item
deriving DecidableEq
structure Move where
 (Node Lane:Int)
deriving DecidableEq
structure Write where
 At:Int
 Bytes:List UInt8
deriving DecidableEq
structure Disk where
 Sectors:List (List UInt8)
 Wait:List Write
deriving DecidableEq
structure Shop where
 N:Net
 Items:List (List Item)
 S:State
 D:Disk
 (Logged Safe Epoch Laid Next:Int)
 Told:List Item
 Down:Bool
deriving DecidableEq
structure Happening where
 (Kind N:Int)
deriving DecidableEq
structure Ends where
 (src dst:Int)
deriving DecidableEq
section
open Go.RowKit
def b6(n:Int):List AV:=[.int .u8 n]
def encU(n:Int):List AV:=[.int .u64 n]
def df(b:Bool):List AV:=[.bool b]
def ak{α:Type}(en:α->List AV)(l:List α):List AV:=[.sl (l.map en)]
def aa(a:Item):List AV:=[.int .i64 a.Key,.int .i64 a.Val,.int .i64 a.Dep]
def ao(a:Node):List AV:=[.int .i64 a.Kind,.int .i64 a.A,.sl (a.In.map aj),.sl (a.Out.map aj)]
def aD(a:Net):List AV:=[.sl (a.Nodes.map ao),.int .i64 a.Rings,.int .i64 a.Room]
def aH(a:Keyed):List AV:=[.int .i64 a.Key,.int .i64 a.N]
def aq(a:Memory):List AV:=[.int .i64 a.Sum,.sl (a.Keys.map aH),.int .i64 a.Dep]
def an(a:Choice):List AV:=[.int .i64 a.Node,.int .i64 a.Lane]
def bD(a:State):List AV:=[.sl (a.At.map aj),.sl (a.Rings.map (ak aa)),.sl (a.Memory.map aq),.sl (a.Choices.map an),.sl (a.Out.map aa)]
def aV(a:Move):List AV:=[.int .i64 a.Node,.int .i64 a.Lane]
def bb(a:Write):List AV:=[.int .i64 a.At,.str a.Bytes]
def co(a:Disk):List AV:=[.sl (a.Sectors.map aT),.sl (a.Wait.map bb)]
def ca(a:Shop):List AV:=[.sl (a.N.Nodes.map ao),.int .i64 a.N.Rings,.int .i64 a.N.Room,.sl (a.Items.map (ak aa)),.sl (a.S.At.map aj),.sl (a.S.Rings.map (ak aa)),.sl (a.S.Memory.map aq),.sl (a.S.Choices.map an),.sl (a.S.Out.map aa),.sl (a.D.Sectors.map aT),.sl (a.D.Wait.map bb),.int .i64 a.Logged,.int .i64 a.Safe,.int .i64 a.Epoch,.int .i64 a.Laid,.int .i64 a.Next,.sl (a.Told.map aa),.bool a.Down]
def cJ(a:Happening):List AV:=[.int .i64 a.Kind,.int .i64 a.N]
def br(a:Ends):List AV:=[.int .i64 a.src,.int .i64 a.dst]
theorem l6:∀a x,x∈aj a->Pure x:=λa=>dD (ls:=aj a) ⟨aO _ _,tqz⟩
theorem Ow:∀a x,x∈b6 a->Pure x:=λa=>dD (ls:=b6 a) ⟨aO _ _,tqz⟩
theorem OE:∀a x,x∈encU a->Pure x:=λa=>dD (ls:=encU a) ⟨aO _ _,tqz⟩
theorem Oy:∀a x,x∈df a->Pure x:=λa=>dD (ls:=df a) ⟨ko _,tqz⟩
theorem tI:∀a x,x∈aT a->Pure x:=λa=>dD (ls:=aT a) ⟨bd _,tqz⟩
theorem om{α:Type}{en:α->U AV}(h:∀a x,x∈en a->Pure x):∀a x,x∈ak en a->Pure x:=λa=>dD (ls:=ak en a) ⟨dt h _,tqz⟩
theorem fj:∀a x,x∈aa a->Pure x:=λa=>dD (ls:=aa a) ⟨aO _ _,aO _ _,aO _ _,tqz⟩
theorem pQ:∀a x,x∈ao a->Pure x:=λa=>dD (ls:=ao a) ⟨aO _ _,aO _ _,dt l6 _,dt l6 _,tqz⟩
theorem Dg:∀a x,x∈aD a->Pure x:=λa=>dD (ls:=aD a) ⟨dt pQ _,aO _ _,aO _ _,tqz⟩
theorem km:∀a x,x∈aH a->Pure x:=λa=>dD (ls:=aH a) ⟨aO _ _,aO _ _,tqz⟩
theorem nE:∀a x,x∈aq a->Pure x:=λa=>dD (ls:=aq a) ⟨aO _ _,dt km _,aO _ _,tqz⟩
theorem ny:∀a x,x∈an a->Pure x:=λa=>dD (ls:=an a) ⟨aO _ _,aO _ _,tqz⟩
theorem BS:∀a x,x∈bD a->Pure x:=λa=>dD (ls:=bD a) ⟨dt l6 _,dt (om fj) _,dt nE _,dt ny _,dt fj _,tqz⟩
theorem CX:∀a x,x∈aV a->Pure x:=λa=>dD (ls:=aV a) ⟨aO _ _,aO _ _,tqz⟩
theorem pL:∀a x,x∈bb a->Pure x:=λa=>dD (ls:=bb a) ⟨aO _ _,bd _,tqz⟩
theorem CG:∀a x,x∈co a->Pure x:=λa=>dD (ls:=co a) ⟨dt tI _,dt pL _,tqz⟩
theorem CE:∀a x,x∈ca a->Pure x:=λa=>dD (ls:=ca a) ⟨dt pQ _,aO _ _,aO _ _,dt (om fj) _,dt l6 _,dt (om fj) _,dt nE _,dt ny _,dt fj _,dt tI _,dt pL _,aO _ _,aO _ _,aO _ _,aO _ _,aO _ _,dt fj _,ko _,tqz⟩
theorem AT:∀a x,x∈cJ a->Pure x:=λa=>dD (ls:=cJ a) ⟨aO _ _,aO _ _,tqz⟩
theorem Cr:∀a x,x∈br a->Pure x:=λa=>dD (ls:=br a) ⟨aO _ _,aO _ _,tqz⟩
theorem Jo(x y:Item):eU (aa x) (aa y)=some (x==y):=by cases x;cases y;simp only[aa,eU,Ra,Rv];grind
theorem IX(x y:Keyed):eU (aH x) (aH y)=some (x==y):=by cases x;cases y;simp only[aH,eU,Ra,Rv];grind
theorem ID(x y:Choice):eU (an x) (an y)=some (x==y):=by cases x;cases y;simp only[an,eU,Ra,Rv];grind
theorem IS(x y:Write):eU (bb x) (bb y)=some (x==y):=by cases x;cases y;simp only[bb,eU,Ra,Rv];grind
instance:EnP aj:=⟨l6⟩
instance:EnP b6:=⟨Ow⟩
instance:EnP encU:=⟨OE⟩
instance:EnP df:=⟨Oy⟩
instance:EnP aT:=⟨tI⟩
instance:EnP aa:=⟨fj⟩
instance:EnP ao:=⟨pQ⟩
instance:EnP aD:=⟨Dg⟩
instance:EnP aH:=⟨km⟩
instance:EnP aq:=⟨nE⟩
instance:EnP an:=⟨ny⟩
instance:EnP bD:=⟨BS⟩
instance:EnP aV:=⟨CX⟩
instance:EnP bb:=⟨pL⟩
instance:EnP co:=⟨CG⟩
instance:EnP ca:=⟨CE⟩
instance:EnP cJ:=⟨AT⟩
instance:EnP br:=⟨Cr⟩
instance {α:Type} {en:α->List AV} [h:EnP en]:EnP (ak en):=⟨om h.out⟩
theorem bf(b:Bool):b=true∨b=false:=by simp
end
section
open Go.RowKit
instance (a:Item):PureCs (aa a):=⟨fj a⟩
instance (a:Node):PureCs (ao a):=⟨pQ a⟩
instance (a:Net):PureCs (aD a):=⟨Dg a⟩
instance (a:Keyed):PureCs (aH a):=⟨km a⟩
instance (a:Memory):PureCs (aq a):=⟨nE a⟩
instance (a:Choice):PureCs (an a):=⟨ny a⟩
instance (a:State):PureCs (bD a):=⟨BS a⟩
instance (a:Move):PureCs (aV a):=⟨CX a⟩
instance (a:Write):PureCs (bb a):=⟨pL a⟩
instance (a:Disk):PureCs (co a):=⟨CG a⟩
instance (a:Shop):PureCs (ca a):=⟨CE a⟩
instance (a:Happening):PureCs (cJ a):=⟨AT a⟩
instance (a:Ends):PureCs (br a):=⟨Cr a⟩
instance {f:FuncId} {cs:List AV} [h:PureCs cs]:PureC (.func f cs):=⟨J5 _ _ h.out⟩
instance {α:Type} {en:α->List AV} {a:α} {off:Nat} [h:EnP en]:PureC (.elt (en a) off):=⟨DK _ _ (h.out a)⟩
class EnF {α:Type} (en:α->List AV):Prop where
 out:∀a,(en a).all flat0=true
instance:EnF aj:=⟨λ_=>J⟩
instance:EnF b6:=⟨λ_=>J⟩
instance:EnF encU:=⟨λ_=>J⟩
instance:EnF df:=⟨λ_=>J⟩
instance:EnF aT:=⟨λ_=>J⟩
instance:EnF aa:=⟨λ_=>J⟩
instance:EnF aH:=⟨λ_=>J⟩
instance:EnF an:=⟨λ_=>J⟩
instance:EnF aV:=⟨λ_=>J⟩
instance:EnF bb:=⟨λ_=>J⟩
instance:EnF cJ:=⟨λ_=>J⟩
instance:EnF br:=⟨λ_=>J⟩
class FlatObs (os:List Ob):Prop where
 out:os.all fq=true
instance:FlatObs []:=⟨J⟩
instance {α:Type} {en:α->List AV} {xs:List α} {e s:Nat} {os:List Ob} [h:EnF en] [t:FlatObs os]:FlatObs (.arr e s (xs.map en)::os):=⟨LL (Je h.out) t.out⟩
class OwnV (v:AV):Prop where
 out:(∃k,v=.ref k)∨∃vs,v=.tup vs/\∀x,x∈vs->Pure x∨∃k,x=.ref k
class OwnVs (vs:List AV):Prop where
 out:∀x,x∈vs->Pure x∨∃k,x=.ref k
instance:OwnVs []:=⟨λx h=>by cases h⟩
instance {k:Nat} {vs:List AV} [t:OwnVs vs]:OwnVs (.ref k::vs):=⟨λx h=>by
 cases h with
 |head=>simp
 |tail _ h=>exact t.out x h⟩
instance (priority:=low) {v:AV} {vs:List AV} [h:PureC v] [t:OwnVs vs]:OwnVs (v::vs):=⟨λx hx=>by
 cases hx with
 |head=>exact .inl h.out
 |tail _ hx=>exact t.out x hx⟩
instance {k:Nat}:OwnV (.ref k):=⟨.inl ⟨_,J⟩⟩
instance {vs:List AV} [h:OwnVs vs]:OwnV (.tup vs):=⟨.inr ⟨_,J,h.out⟩⟩
theorem ta:∀{es:U AV},(∀a,a∈es->Pure a)->Pures es
 |[],_=>trivial
 |a::es,h=>⟨h a (.head _),ta λb hb=>h b (.tail _ hb)⟩
section
variable {P:Program} {N n:Nat} {aw aw':List Ob} {l:List (Nat×AV)} {tt:TT}
def appC{α:Type}:List α->List α->(List α->Prop)->Prop
 |[],bs,K=>K bs
 |a::l,bs,K=>appC l bs λl=>K (a::l)
theorem tA {α:Type}:∀{l bs:U α} {K:U α->Prop},appC l bs K->K (l++bs)
 |[],_,_,h=>h
 |a::l,bs,K,h=>tA (l:=l) (K:=λl=>K (a::l)) h
def nrm0C(aw:List Ob)(a:AV)(K:AV->List Ob->Prop):Prop:=
 match a with
 | .nils=>K (.sl []) aw
 | .ref id=>cw aw id λo=>(match o with
  | .arr _ _ rows=>setC aw id .dead λaw=>K (.sl rows) aw
  |_=>False)
 |a=>fA a λa=>K a aw
variable {a:AV}{K:AV->U Ob->Prop}
theorem D3 (h:nrm0C aw a K):K (dP aw a).1 (dP aw a).2:=by
 cases a with
 |nils=>exact h
 |ref id=>
  obtain⟨o,h1,h⟩:=ce h;grind[jB,dP]
 |_=>exact h
def nrm0LC:List AV->List Ob->(List AV->List Ob->Prop)->Prop
 |[],aw,K=>K [] aw
 |a::es,aw,K=>nrm0C aw a λa aw=>nrm0LC es aw λes aw=>K (a::es) aw
theorem CU:∀{es:U AV} {aw:U Ob} {K:U AV->U Ob->Prop},nrm0LC es aw K->K (norm0L aw es).1 (norm0L aw es).2
 |[],aw,K,h=>h
 |a::es,aw,K,h=>CU (es:=es) (K:=λes aw=>K (_::es) aw) (D3 h)
def nrmC(aw:List Ob)(a:AV)(K:AV->List Ob->Prop):Prop:=
 match a with
 | .agg cs=>nrm0LC cs aw λcs aw=>K (.agg cs) aw
 |a=>nrm0C aw a K
theorem yT (h:nrmC aw a K):K (norm aw a).1 (norm aw a).2:=by
 cases a with
 |agg cs=>exact CU (K:=λcs aw=>K (.agg cs) aw) h
 |_=>exact D3 h
def nrmLC:List AV->List Ob->(List AV->List Ob->Prop)->Prop
 |[],aw,K=>K [] aw
 |a::es,aw,K=>nrmC aw a λa aw=>nrmLC es aw λes aw=>K (a::es) aw
theorem DB:∀{es:U AV} {aw:U Ob} {K:U AV->U Ob->Prop},nrmLC es aw K->K (dN aw es).1 (dN aw es).2
 |[],aw,K,h=>h
 |a::es,aw,K,h=>DB (es:=es) (K:=λes aw=>K (_::es) aw) (yT h)
def jJ(aw:List Ob)(a:AV)(K:AV->List Ob->Prop):Prop:=
 match a with
 | .tup vs=>nrmLC vs aw λvs aw=>K (.tup vs) aw
 |a=>nrmC aw a K
theorem yl (h:jJ aw a K):K (gW aw a).1 (gW aw a).2:=by
 cases a with
 |tup vs=>exact DB (K:=λvs aw=>K (.tup vs) aw) h
 |_=>exact yT h
def argC(n:Nat)(l:List (Nat×AV)):List Operand->List Ob->(List AV->List Ob->Prop)->Prop
 |[],aw,K=>K [] aw
 |x::xs,aw,K=>nrmC aw (evA n l x) λa aw=>argC n l xs aw λes aw=>K (a::es) aw
theorem ET:∀{xs:U Operand} {aw:U Ob} {K:U AV->U Ob->Prop},argC n l xs aw K->K (dN aw (xs.map (evA n l))).1 (dN aw (xs.map (evA n l))).2
 |[],aw,K,h=>h
 |x::xs,aw,K,h=>ET (xs:=xs) (K:=λes aw=>K (_::es) aw) (yT h)
def calC(n:Nat)(l:List (Nat×AV))(aw:List Ob)(f:Operand)(args:List Operand)(g:Nat)(es:List AV)(K:List Ob->Prop):Prop:=
 match evA n l f with
 | .func g' caps=>(match Nat.beq g' g with
  |true=>argC n l args aw λes' aw'=>es'++caps=es/\K aw'
  |false=>False)
 |_=>False
section
variable {d:Option Tmp} {ty:TypeId} {ps:String} {af:Array Edge} {gd:Option (Nat×Bool)} {K2:AV→List Ob→Prop} {f:Operand} {args:Array Operand} {ts:Array TypeId} {g:FuncId} {es:List AV} {v:AV} {obs:List Ob}
theorem vN{K:U Ob->Prop}(h:calC n l aw f args.toList g es K)(hk:∀aw1,K aw1->CallK P g es aw aw1 K2):OP P N ⟨d,.call ⟨.value f,args,ts⟩,ty,ps,af,gd⟩ (mkA n l) aw K2:=by
 unfold calC at h;split at h
 .rename_i g' caps hf;split at h
  .rename_i hb;have:=Q5 hb;subst this;obtain⟨h1,h2⟩:=ET h;grind[NL]
  grind
 grind
theorem cD(hc:Fn P g es v)(h:calC n l aw f args.toList g es λaw1=>K2 v aw1)[hp:PureCs es][hv:PureC v]:OP P N ⟨d,.call ⟨.value f,args,ts⟩,ty,ps,af,gd⟩ (mkA n l) aw K2:=
 vN h λaw1 hK=>k_fn hc (ta hp.out) hv.out hK
theorem cF(hc:Fn P g es v)(h:calC n l aw f args.toList g es λ_=>K2 v aw)[hp:PureCs es](hv:flat v=true:=by rfl):OP P N ⟨d,.call ⟨.value f,args,ts⟩,ty,ps,af,gd⟩ (mkA n l) aw K2:=
 vN h λaw1 hK=>Oh hc (ta hp.out) hv hK
theorem cO(c:Nat)(hc:FnO P g es v obs)(h:calC n l aw f args.toList g es λ_=>fA (v.shift c) λv=>appC aw obs λaw=>K2 v aw)[hp:PureCs es][ho:FlatObs obs](hv:flatR v=true:=by rfl)(hl:aw.length=c:=by rfl):
  OP P N ⟨d,.call ⟨.value f,args,ts⟩,ty,ps,af,gd⟩ (mkA n l) aw K2:=
 vN h λaw1 hK=>by subst hl;exact k_own hc (ta hp.out) hv ho.out (tA (fU (K:=λv=>appC aw obs λaw=>K2 v aw) hK))
theorem cQ{α:Type}{en:α->U AV}{xs:U α}{e s:Nat}(c:Nat)(hc:FnO P g es v [.arr e s (xs.map en)])(h:calC n l aw f args.toList g es λaw=>fA (v.shift c) λv=>lenC aw c (appC aw [.arr e s (xs.map en)] λaw=>K2 v aw))[hp:PureCs es][he:EnP en][ho:OwnV v]:
  OP P N ⟨d,.call ⟨.value f,args,ts⟩,ty,ps,af,gd⟩ (mkA n l) aw K2:=
 vN h λaw1 hK=>by have h1:=fU (K:=λv=>lenC aw1 c (appC aw1 [.arr e s (xs.map en)] λaw=>K2 v aw)) hK;obtain⟨h2,h3⟩:=wl h1;subst h2;exact MN hc (ta hp.out) he.out ho.out J J (tA h3)
end
theorem ld_ex {t:Nat}{i:TI}{row:U AV}{off:Nat}{K:AV->Prop}(ht:TOk P t i)(h:wLd i row off K):∃v,K v/\∀K':AV->Prop,K' v->cu P t row off K':=by
 have kA:∀{m:Nat},de P t=some true->P.cellsOf t=m->(aggC row off m λcs=>K (.agg cs))->∃v,K v/\∀K':AV->Prop,K' v->cu P t row off K':=λ{m} hk hm h=>by obtain⟨h1,h2⟩:=E0 h;grind[cu]
 have k1:de P t=some false->(cw row off λc=>fA c K)->∃v,K v/\∀K':AV->Prop,K' v->cu P t row off K':=λhk h=>by grind[ce,fU,aN]
 cases i with
 |no=>exact h.elim
 |ag z m fs=>exact kA ht.1.1 ht.1.2.1 h
 |ar z m=>exact kA ht.1 ht.2.1 h
 |s0=>exact k1 ht.1 h
 |_=>exact k1 ht.1.1 h
def resC(tt:TT)(n:Nat)(l:List (Nat×AV))(aw:List Ob):List ResultVar->(List AV->Prop)->Prop
 |[],K=>K []
 | .tmp t::rs,K=>fA (evA n l (.tmp t)) λv=>resC tt n l aw rs λvs=>K (v::vs)
 | .cell a t::rs,K=>(match evA n l (.tmp a)with
  | .ptr id off=>cw aw id λo=>(match o with
   | .box cs=>wLd (tt.get t) cs off λv=>resC tt n l aw rs λvs=>K (v::vs)
   |_=>False)
  |_=>False)
theorem qm (ht:tt.Ok P):∀{rs:U ResultVar} {K K':U AV->Prop},(∀vs,K vs->K' vs)->resC tt n l aw rs K->cv P (mkA n l) aw rs K'
 |[],K,K',hm,h=>eO (hm _ h)
 | .tmp t::rs,K,K',hm,h=>eP J (qm ht (K:=λvs=>K (_::vs)) (λvs hv=>hm _ hv) (fU h))
 | .cell a t::rs,K,K',hm,h=>by
  unfold resC at h;split at h
  .rename_i h1;obtain⟨o,h2,h⟩:=ce h;split at h
   .obtain⟨v,h3,h4⟩:=ld_ex (SL ht t) h;exact Kb h1 h2 h4 (qm ht (K:=λvs=>K (v::vs)) (λvs hv=>hm _ hv) h3)
   grind
  grind
variable {rs:U ResultVar}{V:AV}
theorem rD_c (ht:tt.Ok P)(h:resC tt n l aw rs λvs=>jJ aw (dO vs) λv _=>v=V)[hV:PureC V]:cv P (mkA n l) aw rs (Ret 0 (λr aw'=>r=V/\aw'=[]) aw):=by refine qm ht (λvs hv=>?_) h;have h1:=yl hv;exact DJ (v:=V) (aw1:=(gW aw (dO vs)).2) (by rw[<- h1]) hV.out ⟨J,J⟩
theorem U9 (ht:tt.Ok P){Q:Exit->U AV->U Ob->Prop}(h:resC tt n l aw rs λvs=>jJ aw (dO vs) λv _=>v=V)[hq:RetI Q (λfr aw=>cv P fr aw rs (Ret 0 (λr aw'=>r=V/\aw'=[]) aw))][hV:PureC V]:T P N .ret Q (mkA n l) aw:=
 UO (R:=λfr aw=>cv P fr aw rs (Ret 0 (λr aw'=>r=V/\aw'=[]) aw)) (rD_c ht h)
def gA:Nat->AV->Prop
 | k,a=>match a with
  | .sl rows=>Pure (.sl rows)
  | .elt row off=>Pure (.elt row off)
  | .cst _| .vw _ _ _ _ _| .ref2 _| .aptr2 _ _| .ifc _ _=>False
  | .agg cs=>(match k with
   |0=>False
   |k+1=>∀c,c∈cs->gA k c)
  | .tup cs=>(match k with
   |0=>False
   |k+1=>∀c,c∈cs->gA k c)
  | .func _ cs=>(match k with
   |0=>False
   |k+1=>∀c,c∈cs->gA k c)
  | .bnd _ cs=>(match k with
   |0=>False
   |k+1=>∀c,c∈cs->gA k c)
  |_=>True
class GoodA (k:Nat) (a:AV):Prop where
 out:gA k a
class GoodAs (k:Nat) (es:List AV):Prop where
 out:∀a,a∈es->gA k a
section
variable {k:Nat}
instance:GoodA k .any:=⟨by unfold gA;trivial⟩
instance {q:IntKind} {x:Int}:GoodA k (.int q x):=⟨by unfold gA;trivial⟩
instance {b:Bool}:GoodA k (.bool b):=⟨by unfold gA;trivial⟩
instance {s:List UInt8}:GoodA k (.str s):=⟨by unfold gA;trivial⟩
instance:GoodA k .nils:=⟨by unfold gA;trivial⟩
instance:GoodA k .nilf:=⟨by unfold gA;trivial⟩
instance:GoodA k .nilp:=⟨by unfold gA;trivial⟩
instance:GoodA k .nili:=⟨by unfold gA;trivial⟩
instance {i:Nat}:GoodA k (.ref i):=⟨by unfold gA;trivial⟩
instance {i o:Nat}:GoodA k (.ptr i o):=⟨by unfold gA;trivial⟩
instance {i s j o:Nat}:GoodA k (.aptr i s j o):=⟨by unfold gA;trivial⟩
instance {i:Nat}:GoodA k (.mpr i):=⟨by unfold gA;trivial⟩
instance {i:Nat}:GoodA k (.np i):=⟨by unfold gA;trivial⟩
instance {i j:Nat}:GoodA k (.iref i j):=⟨by unfold gA;trivial⟩
instance {α:Type} {en:α->List AV} {xs:List α} [h:EnP en]:GoodA k (.sl (xs.map en)):=⟨by unfold gA;exact dt h.out _⟩
instance {α:Type} {en:α->List AV} {a:α} {off:Nat} [h:EnP en]:GoodA k (.elt (en a) off):=⟨by unfold gA;exact DK _ _ (h.out a)⟩
instance:GoodAs k []:=⟨λa h=>by cases h⟩
instance {a:AV} {es:List AV} [h:GoodA k a] [t:GoodAs k es]:GoodAs k (a::es):=⟨λb hb=>by
 cases hb with
 |head=>exact h.out
 |tail _ hb=>exact t.out b hb⟩
instance {es:List AV} [h:GoodAs k es]:GoodA (k+1) (.agg es):=⟨by unfold gA;exact h.out⟩
instance {es:List AV} [h:GoodAs k es]:GoodA (k+1) (.tup es):=⟨by unfold gA;exact h.out⟩
instance {f:FuncId} {es:List AV} [h:GoodAs k es]:GoodA (k+1) (.func f es):=⟨by unfold gA;exact h.out⟩
instance {f:FuncId} {es:List AV} [h:GoodAs k es]:GoodA (k+1) (.bnd f es):=⟨by unfold gA;exact h.out⟩
instance (a:Item):GoodAs k (aa a):=by unfold aa;infer_instance
instance (a:Node):GoodAs k (ao a):=by unfold ao;infer_instance
instance (a:Net):GoodAs k (aD a):=by unfold aD;infer_instance
instance (a:Keyed):GoodAs k (aH a):=by unfold aH;infer_instance
instance (a:Memory):GoodAs k (aq a):=by unfold aq;infer_instance
instance (a:Choice):GoodAs k (an a):=by unfold an;infer_instance
instance (a:State):GoodAs k (bD a):=by unfold bD;infer_instance
instance (a:Move):GoodAs k (aV a):=by unfold aV;infer_instance
instance (a:Write):GoodAs k (bb a):=by unfold bb;infer_instance
instance (a:Disk):GoodAs k (co a):=by unfold co;infer_instance
instance (a:Shop):GoodAs k (ca a):=by unfold ca;infer_instance
instance (a:Happening):GoodAs k (cJ a):=by unfold cJ;infer_instance
instance (a:Ends):GoodAs k (br a):=by unfold br;infer_instance
end
variable {ρ:U Nat}{k:Nat}
theorem Ek {id i:Nat}(h:ρ[k]?=some id):Ren ρ (.iref k i) (.iref id i):=λσ w F v hr σ' hσ=>by
 cases hr with
 |iref _ _ a n c vs hg h0=>exact .iref k i a n c vs (by grind) h0
theorem vG:Pure .nilp:=λσ w F v hr σ'=>by cases hr;exact .nilp
theorem vC:Pure .nili:=λσ w F v hr σ'=>by cases hr;exact .nili
def mpC(f:AV->AV->(AV->Prop)->Prop):List AV->List AV->(List AV->Prop)->Prop
 |[],_,K=>K []
 |a'::es',es,K=>(match es with
  |[]=>False
  |a::es=>f a' a λb=>mpC f es' es λbs=>K (b::bs))
def mpA(ρ:List Nat):Nat->AV->AV->(AV->Prop)->Prop
 | k,a',a,K=>match a' with
  | .any=>K a
  | .ref i=>cw ρ i λi=>K (.ref i)
  | .ptr i o=>cw ρ i λi=>K (.ptr i o)
  | .aptr i s j o=>cw ρ i λi=>K (.aptr i s j o)
  | .mpr i=>cw ρ i λi=>K (.mpr i)
  | .np i=>cw ρ i λi=>K (.np i)
  | .iref i j=>cw ρ i λi=>K (.iref i j)
  | .agg cs=>(match k with
   |0=>False
   |k+1=>(match a with
    | .agg ds=>mpC (mpA ρ k) cs ds λcs=>K (.agg cs)
    |_=>False))
  | .tup cs=>(match k with
   |0=>False
   |k+1=>(match a with
    | .tup ds=>mpC (mpA ρ k) cs ds λcs=>K (.tup cs)
    |_=>False))
  | .func f cs=>(match k with
   |0=>False
   |k+1=>(match a with
    | .func _ ds=>mpC (mpA ρ k) cs ds λcs=>K (.func f cs)
    |_=>False))
  | .bnd f cs=>(match k with
   |0=>False
   |k+1=>(match a with
    | .bnd _ ds=>mpC (mpA ρ k) cs ds λcs=>K (.bnd f cs)
    |_=>False))
  |a'=>fA a' K
theorem kF (ih:∀{a' a:AV} {K:AV->Prop},mpA ρ k a' a K->∃b,K b/\(gA k a'->b=a->Ren ρ a' a)):∀{es' es:U AV} {K:U AV->Prop},mpC (mpA ρ k) es' es K ->
  ∃bs,K bs/\((∀a,a∈es'->gA k a)->bs=es->cS ρ es' es)
 |[],es,K,h=>⟨[],h,λ_ e=>by subst e;trivial⟩
 |a'::es',[],K,h=>h.elim
 |a'::es',a::es,K,h=>by
  obtain⟨b,h1,h2⟩:=ih h;obtain⟨bs,h3,h4⟩:=kF ih h1;refine⟨b::bs,h3,λhg e=>?_⟩;injection e with e1 e2
  exact⟨h2 (hg _ (.head _)) e1,h4 (λx hx=>hg x (.tail _ hx)) e2⟩
theorem nZ:∀{k:Nat} {a' a:AV} {K:AV->Prop},mpA ρ k a' a K->∃b,K b/\(gA k a'->b=a->Ren ρ a' a):=by
 intro k;induction k with
 |zero=>
  intro a' a K h;cases a' with
  |any=>exact⟨a,h,λ_ _=>cA⟩
  |ref i=>obtain⟨j,h1,h2⟩:=ce h;grind[bX]
  |ptr i o=>obtain⟨j,h1,h2⟩:=ce h;grind[al]
  |aptr i s j o=>obtain⟨j,h1,h2⟩:=ce h;grind[Et]
  |mpr i=>obtain⟨j,h1,h2⟩:=ce h;grind[FC]
  |np i=>obtain⟨j,h1,h2⟩:=ce h;grind[rn_np]
  |iref i j=>obtain⟨j,h1,h2⟩:=ce h;grind[Ek]
  |agg cs=>exact h.elim
  |tup cs=>exact h.elim
  |func f cs=>exact h.elim
  |bnd f cs=>exact h.elim
  |int q x=>exact⟨_,h,λ_ e=>by grind[dU,aO]⟩
  |bool b=>exact⟨_,h,λ_ e=>by grind[dU,ko]⟩
  |str s=>exact⟨_,h,λ_ e=>by grind[dU,bd]⟩
  |nils=>exact⟨_,h,λ_ e=>by grind[dU,cb]⟩
  |nilf=>exact⟨_,h,λ_ e=>by grind[dU,sK]⟩
  |nilp=>exact⟨_,h,λ_ e=>by grind[dU,vG]⟩
  |nili=>exact⟨_,h,λ_ e=>by grind[dU,vC]⟩
  |sl rows=>exact⟨_,h,λg e=>by grind[dU,gA]⟩
  |elt row off=>exact⟨_,h,λg e=>by grind[dU,gA]⟩
  |cst v=>exact⟨_,h,λg e=>by grind[gA]⟩
  |vw a1 a2 a3 a4 a5=>exact⟨_,h,λg e=>by grind[gA]⟩
  |ref2 i=>exact⟨_,h,λg e=>by grind[gA]⟩
  |aptr2 i j=>exact⟨_,h,λg e=>by grind[gA]⟩
  |ifc t a1=>exact⟨_,h,λg e=>by grind[gA]⟩
 | succ k ih=>
  intro a' a K h;cases a' with
  |any=>exact⟨a,h,λ_ _=>cA⟩
  |ref i=>obtain⟨j,h1,h2⟩:=ce h;grind[bX]
  |ptr i o=>obtain⟨j,h1,h2⟩:=ce h;grind[al]
  |aptr i s j o=>obtain⟨j,h1,h2⟩:=ce h;grind[Et]
  |mpr i=>obtain⟨j,h1,h2⟩:=ce h;grind[FC]
  |np i=>obtain⟨j,h1,h2⟩:=ce h;grind[rn_np]
  |iref i j=>obtain⟨j,h1,h2⟩:=ce h;grind[Ek]
  | agg cs=>
   cases a with
   |agg ds=>
    obtain⟨bs,h1,h2⟩:=kF (ρ:=ρ) ih h;grind[Oz,gA]
   |_=>exact h.elim
  | tup cs=>
   cases a with
   |tup ds=>
    obtain⟨bs,h1,h2⟩:=kF (ρ:=ρ) ih h;grind[NM,gA]
   |_=>exact h.elim
  | func f cs=>
   cases a with
   |func f' ds=>
    obtain⟨bs,h1,h2⟩:=kF (ρ:=ρ) ih h;grind[gl,gA]
   |_=>exact h.elim
  | bnd f cs=>
   cases a with
   |bnd f' ds=>
    obtain⟨bs,h1,h2⟩:=kF (ρ:=ρ) ih h;grind[n9,gA]
   |_=>exact h.elim
  |int q x=>exact⟨_,h,λ_ e=>by grind[dU,aO]⟩
  |bool b=>exact⟨_,h,λ_ e=>by grind[dU,ko]⟩
  |str s=>exact⟨_,h,λ_ e=>by grind[dU,bd]⟩
  |nils=>exact⟨_,h,λ_ e=>by grind[dU,cb]⟩
  |nilf=>exact⟨_,h,λ_ e=>by grind[dU,sK]⟩
  |nilp=>exact⟨_,h,λ_ e=>by grind[dU,vG]⟩
  |nili=>exact⟨_,h,λ_ e=>by grind[dU,vC]⟩
  |sl rows=>exact⟨_,h,λg e=>by grind[dU,gA]⟩
  |elt row off=>exact⟨_,h,λg e=>by grind[dU,gA]⟩
  |cst v=>exact⟨_,h,λg e=>by grind[gA]⟩
  |vw a1 a2 a3 a4 a5=>exact⟨_,h,λg e=>by grind[gA]⟩
  |ref2 i=>exact⟨_,h,λg e=>by grind[gA]⟩
  |aptr2 i j=>exact⟨_,h,λg e=>by grind[gA]⟩
  |ifc t a1=>exact⟨_,h,λg e=>by grind[gA]⟩
def gO:Ob->Prop
 | .dead=>True
 | .box cs=>∀c,c∈cs->gA 3 c
 | .arr _ _ rows=>∀row,row∈rows->∀x,x∈row->Pure x
 | .mp ks vs=>∀c,c∈ks++vs->Pure c
 | .hd _ _=>True
 | .cl _ _ cells=>∀rows,(Cell.own rows∈cells∨Cell.fz rows∈cells)->∀row,row∈rows->∀x,x∈row->Pure x
 | .boxB _ cs=>∀c,c∈cs->gA 3 c
 |_=>False
class PureK {α:Type} (k:α->AV):Prop where
 out:∀a,Pure (k a)
instance:PureK kI:=⟨λ_=>aO _ _⟩
instance:PureK kS:=⟨λ_=>bd _⟩
instance:PureK kB:=⟨λ_=>ko _⟩
instance:PureK kU:=⟨λ_=>C3 _ (dD (ls:=[]) trivial)⟩
class GoodO (o:Ob):Prop where
 out:gO o
class GoodOs (os:List Ob):Prop where
 out:∀o,o∈os->gO o
instance:GoodO .dead:=⟨trivial⟩
instance {cs:List AV} [h:GoodAs 3 cs]:GoodO (.box cs):=⟨h.out⟩
instance {α:Type} {en:α->List AV} {xs:List α} {e s:Nat} [h:EnP en]:GoodO (.arr e s (xs.map en)):=⟨λrow hr x hx=>by obtain⟨a,_,rfl⟩:=Rs.1 hr;exact h.out a x hx⟩
instance {e s:Nat}:GoodO (.arr e s []):=⟨λrow hr=>by cases hr⟩
instance {e k:Nat}:GoodO (.hd e k):=⟨trivial⟩
instance {t:TypeId} {cs:List AV} [h:GoodAs 3 cs]:GoodO (.boxB t cs):=⟨h.out⟩
instance {α β:Type} {k:α->AV} {k':β->AV} {xs:List α} {ys:List β} [h:PureK k] [h':PureK k']:GoodO (.mp (xs.map k) (ys.map k')):=⟨λc hc=>by
 rcases QX.1 hc with hc|hc<;>obtain⟨a,_,rfl⟩:=Rs.1 hc
 .exact h.out a
 .exact h'.out a⟩
instance:GoodOs []:=⟨λo h=>by cases h⟩
instance {o:Ob} {os:List Ob} [h:GoodO o] [t:GoodOs os]:GoodOs (o::os):=⟨λb hb=>by
 cases hb with
 |head=>exact h.out
 |tail _ hb=>exact t.out b hb⟩
instance {zs bs:List Ob} [h:GoodOs zs] [t:GoodOs bs]:GoodOs (zs++bs):=⟨λo ho=>(QX.1 ho).elim (h.out o) (t.out o)⟩
instance {zs:List Ob} {i:Nat} {o:Ob} [h:GoodOs zs] [t:GoodO o]:GoodOs (zs.set i o):=⟨λb hb=>(Rx hb).elim (h.out b) (λe=>by rw[e];exact t.out)⟩
def mpO(ρ:List Nat)(o' o:Ob)(K:Ob->Prop):Prop:=
 match o' with
 | .dead=>K o
 | .box cs=>(match o with
  | .box ds=>mpC (mpA ρ 3) cs ds λcs=>K (.box cs)
  |_=>False)
 | .hd e k=>cw ρ k λk=>K (.hd e k)
 | .arr e s rows=>K (.arr e s rows)
 | .mp ks vs=>K (.mp ks vs)
 | .cl e s cells=>K (.cl e s cells)
 | .boxB t cs=>(match o with
  | .boxB _ ds=>mpC (mpA ρ 3) cs ds λcs=>K (.boxB t cs)
  |_=>False)
 |_=>False
def mpOs(ρ:List Nat)(aw:List Ob):List Nat->List Ob->(List Ob->List Ob->Prop)->Prop
 |[],[],K=>K [] []
 |id::ids,o'::os',K=>cw aw id λo=>mpO ρ o' o λb=>mpOs ρ aw ids os' λbs os=>K (b::bs) (o::os)
 |_,_,_=>False
theorem Ou {o' o:Ob}{K:Ob->Prop}(h:mpO ρ o' o K):∃b,K b/\(gO o'->b=o->RenO ρ o' o):=by
 cases o' with
 |dead=>exact⟨o,h,λ_ _=>trivial⟩
 | box cs=>
  cases o with
  |box ds=>
   obtain⟨bs,h1,h2⟩:=kF (ρ:=ρ) nZ h;exact⟨_,h1,λg e=>by injection e with e;exact h2 g e⟩
  |_=>exact h.elim
 |hd e k=>
  obtain⟨j,h1,h2⟩:=ce h;exact⟨_,h2,λ_ e=>by subst e;exact⟨J,h1⟩⟩
 |arr e s rows=>exact⟨_,h,λg e=>by subst e;exact⟨J,J,J,λrow hr x hx=>kr (g row hr x hx)⟩⟩
 |mp ks vs=>exact⟨_,h,λg e=>by subst e;exact⟨vR λc hc=>g c (List.mem_append_left _ hc),vR λc hc=>g c (List.mem_append_right _ hc)⟩⟩
 |cl e s cells=>exact⟨_,h,λg e=>by subst e;exact⟨J,J,J,g⟩⟩
 |arrU e s rows x=>exact h.elim
 | boxB t cs=>
  cases o with
  |boxB t' ds=>
   obtain⟨bs,h1,h2⟩:=kF (ρ:=ρ) nZ h;exact⟨_,h1,λg e=>by injection e with e0 e;exact⟨e0,h2 g e⟩⟩
  |_=>exact h.elim
theorem nU:∀{ids:U Nat} {os':U Ob} {K:U Ob->U Ob->Prop},mpOs ρ aw ids os' K->∃bs os,K bs os/\((∀o,o∈os'->gO o)->bs=os->cy ρ aw ids os')
 |[],[],K,h=>⟨[],[],h,λ_ _=>trivial⟩
 |id::ids,o'::os',K,h=>by
  obtain⟨o,h1,h⟩:=ce h;obtain⟨b,h2,h3⟩:=Ou h;obtain⟨bs,os,h4,h5⟩:=nU h2;refine⟨b::bs,o::os,h4,λhg e=>?_⟩;injection e with e1 e2
  exact⟨⟨o,h1,h3 (hg _ (.head _)) e1⟩,h5 (λx hx=>hg x (.tail _ hx)) e2⟩
 |[],_::_,K,h=>h.elim
 |_::_,[],K,h=>h.elim
def mpF(ρ:List Nat):List (Nat×AV)->List (Nat×AV)->(List AV->List AV->Prop)->Prop
 |[],_,K=>K [] []
 |(s,v)::r,l,K=>fA (lkA l s) λa=>mpA ρ 3 v a λb=>mpF ρ r l λbs es=>K (b::bs) (a::es)
class GoodF (l:List (Nat×AV)):Prop where
 out:∀s v,(s,v)∈l->gA 3 v
instance:GoodF []:=⟨λs v h=>by cases h⟩
instance {s:Nat} {v:AV} {r:List (Nat×AV)} [h:GoodA 3 v] [t:GoodF r]:GoodF ((s,v)::r):=⟨λs' v' hb=>by
 cases hb with
 |head=>exact h.out
 |tail _ hb=>exact t.out s' v' hb⟩
theorem zd:∀{l' l:U (Nat×AV)} {K:U AV->U AV->Prop},mpF ρ l' l K->∃bs es,K bs es/\((∀s v,(s,v)∈l'->gA 3 v)->bs=es->RenA ρ l' l)
 |[],l,K,h=>⟨[],[],h,λ_ _=>trivial⟩
 |(s,v)::r,l,K,h=>by
  have h:=fU (a:=lkA l s) (K:=λa=>mpA ρ 3 v a λb=>mpF ρ r l λbs es=>K (b::bs) (a::es)) h;obtain⟨b,h1,h2⟩:=nZ h;obtain⟨bs,es,h3,h4⟩:=zd h1;refine⟨b::bs,lkA l s::es,h3,λhg e=>?_⟩;injection e with e1 e2
  exact⟨h2 (hg _ _ (.head _)) e1,h4 (λs v hv=>hg s v (.tail _ hv)) e2⟩
def nilC:List (Nat×TypeId×Nat)->List (Nat×AV)->List Ob->Nat->(List (Nat×AV)->List Ob->Prop)->Prop
 |[],l,aw,_,K=>K l aw
 |(s,e,z)::r,l,aw,c,K=>(match lkA l s with
  | .nils=>pushC aw (.arr e z []) λaw=>nilC r ((s,.ref c)::l) aw (c+1) K
  |_=>False)
theorem Fg:∀{nl:U (Nat×TypeId×Nat)} {l:U (Nat×AV)} {aw:U Ob} {c:Nat} {K:U (Nat×AV)->U Ob->Prop},aw.length=c->(nl.all λp=>Nat.blt p.1 n)=true->nilC nl l aw c K->K (nilA n nl l aw).1 (nilA n nl l aw).2
 |[],l,aw,c,K,_,_,h=>h
 |(s,e,z)::r,l,aw,c,K,hc,hn,h=>by
  subst hc;unfold nilC at h;rw[List.all_cons,RR]at hn;split at h
  .rename_i hv;have h:=Fg (nl:=r) (by simp) hn.2 (nL h);grind[nilA]
  grind
theorem wk (nl:U (Nat×TypeId×Nat))(ρ:U Nat)(c:Nat){l':U (Nat×AV)}(h:nilC nl l aw c λl aw=>mpF ρ l' l λbs es=>mpOs ρ aw ρ aw' λbs' es'=>(bs,bs')=(es,es'))[g:GoodF l'][g':GoodOs aw'](hc:aw.length=c:=by rfl)(hn:(nl.all λp=>Nat.blt p.1 n)=true:=by rfl)(h1:ρ.Nodup:=by decide)(h2:∀k,k<N->ρ[k]?=some k:=by decide):Weak N (mkA n l) aw (mkA n l') aw':=by
 have h:=Fg hc hn h
 obtain⟨bs,es,h,h3⟩:=zd h
 obtain⟨bs',es',h,h4⟩:=nU h
 injection h with e1 e2
 exact SD nl ρ h1 h2 J (h3 g.out e1) (h4 g'.out e2)
def nilVC:List (Nat×TypeId×Nat)->List AV->List Ob->Nat->(List AV->List Ob->Prop)->Prop
 |[],vs,aw,_,K=>K vs aw
 |(s,e,z)::r,vs,aw,c,K=>cw vs s λv=>(match v with
  | .nils=>setC vs s (.ref c) λvs=>pushC aw (.arr e z []) λaw=>nilVC r vs aw (c+1) K
  |_=>False)
theorem Dp:∀{nl:U (Nat×TypeId×Nat)} {vs:U AV} {aw:U Ob} {c:Nat} {K:U AV->U Ob->Prop},aw.length=c->nilVC nl vs aw c K->K (nilify nl vs aw).1 (nilify nl vs aw).2
 |[],vs,aw,c,K,_,h=>h
 |(s,e,z)::r,vs,aw,c,K,hc,h=>by
  subst hc;obtain⟨v,h1,h⟩:=ce h;split at h
  .have h:=Dp (nl:=r) (by simp) (nL (jB h));grind[nilify]
  grind
section
variable {Q:Exit→List AV→List Ob→Prop} {rs:List ResultVar} {V:AV} {obs:List Ob} {M:Nat}
theorem rO_c(ht:tt.Ok P)(nl:U (Nat×TypeId×Nat))(ρ:U Nat)(c:Nat)
  (h:resC tt n l aw rs λvs=>nilVC nl vs aw c λvs aw=>fA (dO vs) λa=>mpA ρ 3 V a λb=>mpOs ρ aw ρ obs λbs es=>(b,bs)=(a,es))
  [g:GoodA 3 V] [g':GoodOs obs] (hc:aw.length=c) (h1:ρ.Nodup) (h2:∀k,k<M->ρ[k]?=some k):cv P (mkA n l) aw rs (Ret M (λr aw'=>r=V/\aw'=obs) aw):=by
 refine qm ht (λvs hv=>?_) h
 have h:=Dp hc hv
 have h:=fU (K:=λa=>mpA ρ 3 V a λb=>mpOs ρ (nilify nl vs aw).2 ρ obs λbs es=>(b,bs)=(a,es)) h
 obtain⟨b,h,h3⟩:=nZ h
 obtain⟨bs,es,h,h4⟩:=nU h
 injection h with e1 e2
 exact eQ V nl ρ h1 h2 J (h3 g.out e1) (h4 g'.out e2) ⟨J,J⟩
theorem U7(ht:tt.Ok P)(nl:U (Nat×TypeId×Nat))(ρ:U Nat)(c:Nat)
  (h:resC tt n l aw rs λvs=>nilVC nl vs aw c λvs aw=>fA (dO vs) λa=>mpA ρ 3 V a λb=>mpOs ρ aw ρ obs λbs es=>(b,bs)=(a,es))
  [hq:RetI Q (λfr aw=>cv P fr aw rs (Ret M (λr aw'=>r=V/\aw'=obs) aw))] [g:GoodA 3 V] [g':GoodOs obs] (hc:aw.length=c:=by rfl) (h1:ρ.Nodup:=by decide) (h2:∀k,k<M->ρ[k]?=some k:=by decide):T P N .ret Q (mkA n l) aw:=
 UO (R:=λfr aw=>cv P fr aw rs (Ret M (λr aw'=>r=V/\aw'=obs) aw)) (rO_c ht nl ρ c h hc h1 h2)
theorem rN_c(ht:tt.Ok P)(ρ:U Nat)(h:resC tt n l aw rs λvs=>jJ aw (dO vs) λa aw=>mpA ρ 3 V a λb=>mpOs ρ aw ρ obs λbs es=>(b,bs)=(a,es))
  [g:GoodA 3 V] [g':GoodOs obs] (h1:ρ.Nodup) (h2:∀k,k<M->ρ[k]?=some k):cv P (mkA n l) aw rs (Ret M (λr aw'=>r=V/\aw'=obs) aw):=by
 refine qm ht (λvs hv=>?_) h
 have h:=yl hv
 obtain⟨b,h,h3⟩:=nZ h
 obtain⟨bs,es,h,h4⟩:=nU h
 injection h with e1 e2
 exact LN V ρ J h1 h2 (h3 g.out e1) (h4 g'.out e2) ⟨J,J⟩
theorem U8(ht:tt.Ok P)(ρ:U Nat)(h:resC tt n l aw rs λvs=>jJ aw (dO vs) λa aw=>mpA ρ 3 V a λb=>mpOs ρ aw ρ obs λbs es=>(b,bs)=(a,es))
  [hq:RetI Q (λfr aw=>cv P fr aw rs (Ret M (λr aw'=>r=V/\aw'=obs) aw))] [g:GoodA 3 V] [g':GoodOs obs] (h1:ρ.Nodup:=by decide) (h2:∀k,k<M->ρ[k]?=some k:=by decide):T P N .ret Q (mkA n l) aw:=
 UO (R:=λfr aw=>cv P fr aw rs (Ret M (λr aw'=>r=V/\aw'=obs) aw)) (rN_c ht ρ h h1 h2)
end
def stD(l:List (Nat×AV))(d:Option Tmp)(r:AV)(K:List (Nat×AV)->Prop):Prop:=
 match d with
 |some t=>K ((t,r)::l)
 |none=>K l
theorem fw{d:Qbm Tmp}{r:AV}{K:U (Nat×AV)->Prop}(h:stD l d r K):K (putA l d r):=by cases d<;>exact h
section
variable {ops:Array Oper} {os:List Oper} {K:List AV→List Ob→Prop} {k:Nat} {li li':Array Bool} {o:Oper} {fr fr':List AV}
variable {j t i:Nat}{want b:Bool}{c:Code}{Q:Exit->U AV->U Ob->Prop}{l':U (Nat×AV)}
theorem yg' (ht:tt.Ok P)(c:Nat)(hbw:b=want)(h:wE tt n l aw c o.op λr aw _=>stD l o.dst r λl=>RS P N ops os K (mkA n l) aw)(hg:o.guard=some (j,want))(hj:(ops[j]?).bind (·.dst)=some t)(hb:evA n l (.tmp t)=.bool b)(hc:aw.length=c):RS P N ops (o::os) K (mkA n l) aw:=
 RS.yes hg hj hb hbw ((wE_ok ht hc h).mono λr aw' h=>fw (K:=λl=>RS P N ops os K (mkA n l) aw') h)
theorem oy' (ht:tt.Ok P)(c:Nat)(hbw:b=want)(hi:ops[i]?=some o)(h:wE tt n l aw c o.op λr aw _=>stD l o.dst r λl=>K (mkA n l) aw)(hg:o.guard=some (j,want))(hj:(ops[j]?).bind (·.dst)=some t)(hb:evA n l (.tmp t)=.bool b)(hc:aw.length=c):RO P N ops i K (mkA n l) aw:=
 RO.yes hi hg hj hb hbw ((wE_ok ht hc h).mono λr aw' h=>fw (K:=λl=>K (mkA n l) aw') h)
theorem ry' (ht:tt.Ok P)(i:Nat)(hbw:b=want)(hi:ops[i]?=some o)(h:wV tt n l aw o.op λr=>stD l o.dst r λl=>RA P N ops k (li.setIfInBounds i true) K (mkA n l) aw)(hs:Region.noSelect ops=true)(hf:Region.free .any ops li i=true)(hr:(Region.ready .any ops li).contains i=true)(hg:o.guard=some (j,want))(hj:(ops[j]?).bind (·.dst)=some t)(hb:evA n l (.tmp t)=.bool b)(hn:nV o.op=true):RA P N ops (k+1) li K (mkA n l) aw:=
 ⟨λst e1 e2 σ w F a hc R hR=>by obtain⟨v,r,hrun,hrel,hk⟩:=tc hc hn (wV_ok ht h);refine wpAny_take hi hs hf hr (λc a w hp=>hp) (.inl ⟨by grind[Region.wanted,pC],hrun⟩) (RA.out (fw (K:=λl=>RA P N ops k (li.setIfInBounds i true) K (mkA n l) aw) hk) st e1 e2 σ w F _ ?_ R hR);have:=fk hc hrel o.dst;grind[eL]⟩
open RK in
theorem rL' (ht:tt.Ok P) (D:List Nat) (i:Nat) (hi:ops[i]?=some o) (h:wV tt n l aw o.op λr=>stD l o.dst r λl=>RA P N ops k (li.setIfInBounds i true) K (mkA n l) aw)
  (hs:Region.noSelect ops=true) (hf:loadFree ops li D i=true) (hr:(Region.ready .any ops li).contains i=true) (hg:o.guard=none):RA P N ops (k+1) li K (mkA n l) aw:=
 ⟨λst e1 e2 σ w F a hc R hR=>by obtain⟨v,r,hrun,hrel,hk⟩:=Cs hc (wV_ok ht h);refine AX D hi hs hf hr (λc a w hp=>hp) (.inl ⟨by grind[Region.wanted],hrun⟩) (RA.out (fw (K:=λl=>RA P N ops k (li.setIfInBounds i true) K (mkA n l) aw) hk) st e1 e2 σ w F _ ?_ R hR);have:=fk hc hrel o.dst;grind[eL]⟩
theorem sO (h:OP P N o (mkA n l) aw λr aw=>stD l o.dst r λl=>RS P N ops os K (mkA n l) aw)(hg:o.guard=none:=by rfl):RS P N ops (o::os) K (mkA n l) aw:=
 RS.op hg (h.mono λr aw' h=>fw (K:=λl=>RS P N ops os K (mkA n l) aw') h)
theorem sQ (h:vcQ P (mkA n l) aw o.op λr=>stD l o.dst r λl=>RS P N ops os K (mkA n l) aw)(hg:o.guard=none:=by rfl)(hq:nS o.op=true:=by rfl):RS P N ops (o::os) K (mkA n l) aw:=
 sO (SJ (K2:=λr aw=>stD l o.dst r λl=>RS P N ops os K (mkA n l) aw) hq h) hg
theorem yO (hbw:b=want)(h:OP P N o (mkA n l) aw λr aw=>stD l o.dst r λl=>RS P N ops os K (mkA n l) aw)(hg:o.guard=some (j,want):=by rfl)(hj:(ops[j]?).bind (·.dst)=some t:=by rfl)(hb:evA n l (.tmp t)=.bool b:=by rfl):
 RS P N ops (o::os) K (mkA n l) aw:=RS.yes hg hj hb hbw (h.mono λr aw' h=>fw (K:=λl=>RS P N ops os K (mkA n l) aw') h)
theorem yQ (hbw:b=want)(h:vcQ P (mkA n l) aw o.op λr=>stD l o.dst r λl=>RS P N ops os K (mkA n l) aw)(hg:o.guard=some (j,want):=by rfl)(hj:(ops[j]?).bind (·.dst)=some t:=by rfl)(hb:evA n l (.tmp t)=.bool b:=by rfl)(hq:nS o.op=true:=by rfl):
 RS P N ops (o::os) K (mkA n l) aw:=yO hbw (SJ (K2:=λr aw=>stD l o.dst r λl=>RS P N ops os K (mkA n l) aw) hq h) hg hj hb
theorem sN (hbw:b=!want)(h:stD l o.dst (.tup []) λl=>RS P N ops os K (mkA n l) aw)(hg:o.guard=some (j,want):=by rfl)(hj:(ops[j]?).bind (·.dst)=some t:=by rfl)(hb:evA n l (.tmp t)=.bool b:=by rfl):
 RS P N ops (o::os) K (mkA n l) aw:=RS.no hg hj hb hbw (fw (K:=λl=>RS P N ops os K (mkA n l) aw) h)
theorem oO (hi:ops[i]?=some o)(h:OP P N o (mkA n l) aw λr aw=>stD l o.dst r λl=>K (mkA n l) aw)(hg:o.guard=none:=by rfl):RO P N ops i K (mkA n l) aw:=
 RO.op hi hg (h.mono λr aw' h=>fw (K:=λl=>K (mkA n l) aw') h)
theorem oP (hi:ops[i]?=some o)(hbw:b=want)(h:OP P N o (mkA n l) aw λr aw=>stD l o.dst r λl=>K (mkA n l) aw)(hg:o.guard=some (j,want):=by rfl)(hj:(ops[j]?).bind (·.dst)=some t:=by rfl)(hb:evA n l (.tmp t)=.bool b:=by rfl):RO P N ops i K (mkA n l) aw:=
 RO.yes hi hg hj hb hbw (h.mono λr aw' h=>fw (K:=λl=>K (mkA n l) aw') h)
theorem r0 (i:Nat)(hi:ops[i]?=some o)(h:vcQ P (mkA n l) aw o.op λr=>stD l o.dst r λl=>RA P N ops k (li.setIfInBounds i true) K (mkA n l) aw)(hs:Region.noSelect ops=true:=by decide+kernel)(hf:Region.free .any ops li i=true:=by decide+kernel)(hr:(Region.ready .any ops li).contains i=true:=by decide+kernel)(hg:o.guard=none:=by rfl)(hn:nV o.op=true:=by rfl):RA P N ops (k+1) li K (mkA n l) aw:=
 ⟨λst e1 e2 σ w F a hc R hR=>by obtain⟨v,r,hrun,hrel,hk⟩:=tc hc hn h;refine wpAny_take hi hs hf hr (λc a w hp=>hp) (.inl ⟨by grind[Region.wanted],hrun⟩) (RA.out (fw (K:=λl=>RA P N ops k (li.setIfInBounds i true) K (mkA n l) aw) hk) st e1 e2 σ w F _ ?_ R hR);have:=fk hc hrel o.dst;grind[eL]⟩
theorem r1 (i:Nat)(hi:ops[i]?=some o)(hbw:b=want)(h:vcQ P (mkA n l) aw o.op λr=>stD l o.dst r λl=>RA P N ops k (li.setIfInBounds i true) K (mkA n l) aw)(hs:Region.noSelect ops=true:=by decide+kernel)(hf:Region.free .any ops li i=true:=by decide+kernel)(hr:(Region.ready .any ops li).contains i=true:=by decide+kernel)(hg:o.guard=some (j,want):=by rfl)(hj:(ops[j]?).bind (·.dst)=some t:=by rfl)(hb:evA n l (.tmp t)=.bool b:=by rfl)(hn:nV o.op=true:=by rfl):RA P N ops (k+1) li K (mkA n l) aw:=
 ⟨λst e1 e2 σ w F a hc R hR=>by obtain⟨v,r,hrun,hrel,hk⟩:=tc hc hn h;refine wpAny_take hi hs hf hr (λc a w hp=>hp) (.inl ⟨by grind[Region.wanted,pC],hrun⟩) (RA.out (fw (K:=λl=>RA P N ops k (li.setIfInBounds i true) K (mkA n l) aw) hk) st e1 e2 σ w F _ ?_ R hR);have:=fk hc hrel o.dst;grind[eL]⟩
theorem r2 (i:Nat)(hi:ops[i]?=some o)(hbw:b=!want)(h:stD l o.dst (.tup []) λl=>RA P N ops k (li.setIfInBounds i true) K (mkA n l) aw)(hs:Region.noSelect ops=true:=by decide+kernel)(hf:Region.free .any ops li i=true:=by decide+kernel)(hr:(Region.ready .any ops li).contains i=true:=by decide+kernel)(hg:o.guard=some (j,want):=by rfl)(hj:(ops[j]?).bind (·.dst)=some t:=by rfl)(hb:evA n l (.tmp t)=.bool b:=by rfl):RA P N ops (k+1) li K (mkA n l) aw:=
 U3 hi hs hf hr J hg hj hb hbw (fw (K:=λl=>RA P N ops k (li.setIfInBounds i true) K (mkA n l) aw) h)
theorem r3 (i:Nat)(hi:ops[i]?=some o)(h:stD l o.dst (.tup []) λl=>RA P N ops k (li.setIfInBounds i true) K (mkA n l) aw)(hs:Region.noSelect ops=true:=by decide+kernel)(hf:Region.free .any ops li i=true:=by decide+kernel)(hr:(Region.ready .any ops li).contains i=true:=by decide+kernel)(hg:o.guard=some (j,want):=by rfl)(hj:(ops[j]?).bind (·.dst)=some t:=by rfl)(hb:evA n l (.tmp t)=.tup []:=by rfl):RA P N ops (k+1) li K (mkA n l) aw:=
 U2 hi hs hf hr J hg hj hb (fw (K:=λl=>RA P N ops k (li.setIfInBounds i true) K (mkA n l) aw) h)
def nfL(f:AV->(AV->Prop)->Prop):List AV->(List AV->Prop)->Prop
 |[],K=>K []
 |a::es,K=>f a λa=>nfL f es λes=>K (a::es)
def nfA:Nat->AV->(AV->Prop)->Prop
 |0,a,K=>fA a K
 |k+1,a,K=>(match a with
  | .agg cs=>nfL (nfA k) cs λcs=>K (.agg cs)
  | .tup cs=>nfL (nfA k) cs λcs=>K (.tup cs)
  | .func f cs=>nfL (nfA k) cs λcs=>K (.func f cs)
  | .bnd f cs=>nfL (nfA k) cs λcs=>K (.bnd f cs)
  |a=>fA a K)
theorem qq {f:AV->(AV->Prop)->Prop}(hf:∀{a:AV} {K:AV->Prop},f a K->K a):∀{es:U AV} {K:U AV->Prop},nfL f es K->K es
 |[],K,h=>h
 |a::es,K,h=>qq hf (es:=es) (K:=λes=>K (a::es)) (hf h)
theorem F3:∀{k:Nat} {a:AV} {K:AV->Prop},nfA k a K->K a:=by
 intro k;induction k with
 |zero=>exact λh=>fU h
 |succ k ih=>
  intro a K h;cases a<;>first|exact fU h|exact qq ih (K:=λcs=>K (.agg cs)) h|exact qq ih (K:=λcs=>K (.tup cs)) h|exact qq ih (K:=λcs=>K (.func _ cs)) h|exact qq ih (K:=λcs=>K (.bnd _ cs)) h
def nfF(g:AV->AV):List (Nat×AV)->(List (Nat×AV)->Prop)->Prop
 |[],K=>K []
 |(s,v)::r,K=>nfA 2 (g v) λv=>nfF g r λr=>K ((s,v)::r)
theorem Fx {g:AV->AV}:∀{l:U (Nat×AV)} {K:U (Nat×AV)->Prop},nfF g l K->K (l.map λp=>(p.1,g p.2))
 |[],K,h=>h
 |(s,v)::r,K,h=>Fx (l:=r) (K:=λr=>K ((s,g v)::r)) (F3 (K:=λv=>nfF g r λr=>K ((s,v)::r)) h)
def nfO(g:AV->AV):List Ob->(List Ob->Prop)->Prop
 |[],K=>K []
 |o::os,K=>(match o with
  | .box cs=>nfL (nfA 1) (cs.map g) λcs=>nfO g os λos=>K (.box cs::os)
  |o=>nfO g os λos=>K (o::os))
theorem y5 {id:Nat}{rows:U (U AV)}:∀{os:U Ob} {K:U Ob->Prop},nfO (fz2 id rows) os K->K (os.map (fzOb id rows))
 |[],K,h=>h
 |o::os,K,h=>by
  cases o with
  |box cs=>exact y5 (os:=os) (K:=λos=>K (.box (cs.map (fz2 id rows))::os)) (qq F3 (K:=λcs=>nfO (fz2 id rows) os λos=>K (.box cs::os)) h)
  |_=>exact y5 (os:=os) (K:=λos=>K (_::os)) h
def fzC(aw:List Ob)(l:List (Nat×AV))(id:Nat)(K:List (Nat×AV)->List Ob->Prop):Prop:=
 cw aw id λo=>(match o with
  | .arr _ _ rows=>nfF (fzV id rows) l λl=>setC aw id .dead λaw=>nfO (fz2 id rows) aw λaw=>K l aw
  |_=>False)
theorem y6 {id:Nat}{K:U (Nat×AV)->U Ob->Prop}(h:fzC aw l id K):∃e s rows,aw[id]?=some (.arr e s rows)/\K (fzA id rows l) ((aw.set id .dead).map (fzOb id rows)):=by
 obtain⟨o,h1,h⟩:=ce h;split at h
 .exact⟨_,_,_,h1,y5 (jB (Fx h))⟩
 grind
theorem T.fC (id:Nat)(h:fzC aw l id λl aw=>T P N c Q (mkA n l) aw):T P N c Q (mkA n l) aw:=by grind[y6,T.fz]
theorem RS.fC (id:Nat)(h:fzC aw l id λl aw=>RS P N ops os K (mkA n l) aw):RS P N ops os K (mkA n l) aw:=by grind[y6,RS.fz]
theorem RO.fC (id:Nat)(h:fzC aw l id λl aw=>RO P N ops i K (mkA n l) aw):RO P N ops i K (mkA n l) aw:=by grind[y6,RO.fz]
theorem Su (k':Nat)(li':Array Bool){fr':U AV}{aw':U Ob}(h2:RA P N ops k' li' K fr' aw'->RA P N ops k li K fr aw)(h:RA P N ops k' li' K fr' aw'):RA P N ops k li K fr aw:=h2 h
theorem raE (h:RA P N ops k li' K fr aw)(hl:li=li':=by decide+kernel):RA P N ops k li K fr aw:=by grind
theorem Na (h:l'.map (λp=>lkA l p.1)=l'.map (λp=>lkA l' p.1))(t:Nat):lkA l' t=.any∨lkA l' t=lkA l t:=by
 have key:∀(q:U (Nat×AV)),q.map (λp=>lkA l p.1)=q.map (λp=>lkA l' p.1)->lkA q t=.any∨lkA l' t=lkA l t:=by
  intro q;induction q with
  |nil=>intro _;exact .inl J
  |cons p q ih=>
   intro h;simp only[Re,Si]at h;obtain⟨s,v⟩:=p;rw[ku];grind
 grind
theorem D4 {st:St}{σ:U Value}{w:World}{F:Nat->Prop}{a:Act}(h:l'.map (λp=>lkA l p.1)=l'.map (λp=>lkA l' p.1))(hc:Cur st (mkA n l) aw σ w F a):Cur st (mkA n l') aw σ w F a:=by
 refine⟨hc.sim,⟨⟨?_,λj x v hx hv=>?_⟩,hc.fr.2⟩,hc.mv,hc.ds⟩
 .have:=hc.fr.1.1;grind[qf]
 .rw[hU]at hx;split at hx
  .rename_i hj;cases hx;rcases Na h j with e|e
   .rw[e];exact .any _
   .rw[e];exact hc.fr.1.2 j _ v (by rw[hU,if_pos hj]) hv
  .cases hx
def inN:List Nat->Nat->Bool
 |[],_=>false
 |a::l,s=>match Nat.beq a s with
  |true=>true
  |false=>inN l s
def ddA:List Nat->List (Nat×AV)->List (Nat×AV)
 |_,[]=>[]
 |q,(s,v)::r=>match inN q s with
  |true=>ddA q r
  |false=>(s,v)::ddA (s::q) r
theorem dd_lk:∀(l:U (Nat×AV)) (q:U Nat) (t:Nat),inN q t=false->lkA (ddA q l) t=lkA l t
 |[],_,_,_=>rfl
 | (s,v)::r,q,t,h=>by
  unfold ddA;cases hs:inN q s with
  |true=>
   simp only;rw[dd_lk r q t h];grind[Nat.eq_of_beq_eq_true,lkA]
  |false=>
   simp only;rw[lkA,lkA];cases hb:Nat.beq s t with
   |true=>rfl
   |false=>exact dd_lk r (s::q) t (by grind[inN])
theorem zi {x:Nat×AV}:∀{l:U (Nat×AV)} {q:U Nat},x∈ddA q l->x∈l
 |[],_,h=>h
 | (s,v)::r,q,h=>by
  unfold ddA at h;split at h
  .exact .tail _ (zi h)
  .rcases Rl.1 h with rfl|h
   .exact .head _
   .exact .tail _ (zi h)
theorem dd_mk (n:Nat)(l:U (Nat×AV)):mkA n (ddA [] l)=mkA n l:=Rb λt _=>dd_lk l [] t J
theorem raT (h:RA P N ops k li' K (mkA n l') aw)(hs:l'.map (λp=>lkA l p.1)=l'.map (λp=>lkA l' p.1):=by rfl)(hl:li=li':=by decide+kernel):RA P N ops k li K (mkA n l) aw:=by subst hl;exact⟨λst h1 h2 σ w F a hc=>h.out st h1 h2 σ w F a (D4 hs hc)⟩
theorem raV {aw1:U Ob}(h:RA P N ops k li' K (mkA n l') aw1)(ρ:U Nat)(hw:mpF ρ (ddA [] l') l λbs es=>mpOs ρ aw ρ aw1 λbs' es'=>(bs,bs')=(es,es'))[g:GoodF l'][g':GoodOs aw1](h1:ρ.Nodup:=by decide)(h2:∀k,k<N->ρ[k]?=some k:=by decide)(hl:li=li':=by decide+kernel):RA P N ops k li K (mkA n l) aw:=by
 subst hl
 obtain⟨bs,es,hw,h3⟩:=zd hw
 obtain⟨bs',es',hw,h4⟩:=nU hw
 injection hw with e1 e2
 rw[<- dd_mk]at h
 exact RA.weakR h (Weak.mk ρ h1 h2 (h3 (λs v hv=>g.out s v (zi hv)) e1) (h4 g'.out e2))
theorem U6 (h:T P N c Q (mkA n l') aw)(hs:l'.map (λp=>lkA l p.1)=l'.map (λp=>lkA l' p.1):=by rfl):T P N c Q (mkA n l) aw:=⟨λst h1 h2 σ w F a hc=>h.out st h1 h2 σ w F a (D4 hs hc)⟩
end
section
variable {Q:Exit→List AV→List Ob→Prop} {c1 c2:Code} {x:Operand}
theorem Sv{α:Type}{b:Bool}{u v:Qbm α}{r:α}(h:(if b=true then u else v)=some r)(hx:evA n l x=.bool b)(ht:b=true->u=some r->T P N c1 Q (mkA n l) aw)(he:b=false->v=some r->T P N c2 Q (mkA n l) aw):T P N (.cond x c1 c2) Q (mkA n l) aw:=
 T.cond hx (λhb=>ht hb (bH h hb)) (λhb=>he hb (bG h hb))
theorem Va(hx:evA n l x=.bool true)(h:T P N c1 Q (mkA n l) aw):T P N (.cond x c1 c2) Q (mkA n l) aw:=T.cond hx (λ_=>h) (λhb=>by cases hb)
theorem Vb(hx:evA n l x=.bool false)(h:T P N c2 Q (mkA n l) aw):T P N (.cond x c1 c2) Q (mkA n l) aw:=T.cond hx (λhb=>by cases hb) (λ_=>h)
def iniC:Nat->List AV->(List (Nat×AV)->Prop)->Prop
 |_,[],K=>K []
 |k,a::es,K=>iniC (k+1) es λl=>K ((k,a)::l)
theorem wj:∀{es:U AV} {k:Nat} {K:U (Nat×AV)->Prop},iniC k es K->K (initA k es)
 |[],k,K,h=>h
 |a::es,k,K,h=>wj (es:=es) (K:=λl=>K ((k,a)::l)) h
end
end
section
variable {P:Program}{N n n0 n1:Nat}{aw aw0 aw1 aw2:U Ob}{l:U (Nat×AV)}{d:Qbm Tmp}{ty:TypeId}{ps:String}{af:Array Edge}{g:Qbm (Nat×Bool)}{K2:AV->U Ob->Prop}{f:Operand}{args:Array Operand}{ts:Array TypeId}{h:FuncId}{caps ac as0:U AV}{v v':AV}
theorem bt (ρ:U Nat)(hf:evA n l f=.func h caps)(ha:args.toList.map (evA n l)++caps=ac)(hC:FnX P h as0 aw0 v aw1)(hW:cy ρ aw ρ aw0)(hA:cS ρ as0 ac)(hv:RenM (ck ρ n0 n1) v' v)(hB:fa (ck ρ n0 n1) ρ aw aw1 0 aw2)(hK:K2 v' aw2)(hn0:aw.length=n0:=by rfl)(hn1:aw1.length=n1:=by rfl)(hnd:ρ.Nodup:=by decide)(hlen:aw2.length+ρ.length=n0+n1:=by rfl):OP P N ⟨d,.call ⟨.value f,args,ts⟩,ty,ps,af,g⟩ (mkA n l) aw K2:=
 E4 ρ hn0 hn1 hf ha hnd hW hA hC hlen hv hB hK
theorem yf (ρ:U Nat)(hf:evA n l f=.bnd h caps)(ha:caps++args.toList.map (evA n l)=ac)(hC:FnX P h as0 aw0 v aw1)(hW:cy ρ aw ρ aw0)(hA:cS ρ as0 ac)(hv:RenM (ck ρ n0 n1) v' v)(hB:fa (ck ρ n0 n1) ρ aw aw1 0 aw2)(hK:K2 v' aw2)(hn0:aw.length=n0:=by rfl)(hn1:aw1.length=n1:=by rfl)(hnd:ρ.Nodup:=by decide)(hlen:aw2.length+ρ.length=n0+n1:=by rfl):OP P N ⟨d,.call ⟨.value f,args,ts⟩,ty,ps,af,g⟩ (mkA n l) aw K2:=
 D2 ρ hn0 hn1 hf ha hnd hW hA hC hlen hv hB hK
end
end
section
open Go.RowKit
inductive Fr where
 |sq (y:Code)
 |bk (id:Nat)
 |kt (K:List AV->List Ob->Prop)
section
variable {P:Program} {N n:Nat} {aw:List Ob} {l:List (Nat×AV)} {tt:TT} {Q:Exit→List AV→List Ob→Prop}
def qs(P:Program)(N:Nat):List Fr->(Exit->List AV->List Ob->Prop)->Exit->List AV->List Ob->Prop
 |[],Q=>Q
 | .sq y::st,Q=>thenA (T P N y (qs P N st Q)) (qs P N st Q)
 | .bk id::st,Q=>tq id (qs P N st Q)
 | .kt K::st,Q=>thenA K (qs P N st Q)
theorem wG:∀{st:U Fr} {fr:U AV} {aw:U Ob},Q .ret fr aw->qs P N st Q .ret fr aw
 |[],_,_,h=>h
 | .sq y::st,_,_,h=>wG (st:=st) h
 | .bk id::st,_,_,h=>wG (st:=st) h
 | .kt K::st,_,_,h=>wG (st:=st) h
instance {st:List Fr} {R:List AV->List Ob->Prop} [h:RetI Q R]:RetI (qs P N st Q) R:=⟨λfr aw hr=>wG (h.out fr aw hr)⟩
def popN(Q:Exit->List AV->List Ob->Prop)(fr:List AV)(aw:List Ob)(K:Code->List Fr->Prop):List Fr->Prop
 |[]=>Q .normal fr aw
 | .sq y::st=>K y st
 | .bk _::st=>popN Q fr aw K st
 | .kt K'::_=>K' fr aw
def popE(Q:Exit->List AV->List Ob->Prop)(fr:List AV)(aw:List Ob)(K:Code->List Fr->Prop)(id:Nat):List Fr->Prop
 |[]=>Q (.exit id) fr aw
 | .sq _::st=>popE Q fr aw K id st
 | .bk i::st=>(match Nat.beq id i with
  |true=>popN Q fr aw K st
  |false=>popE Q fr aw K id st)
 | .kt _::st=>popE Q fr aw K id st
variable {fr:U AV}{K:Code->U Fr->Prop}{pl:Bool}
theorem wq (hK:∀y st,K y st->T P N y (qs P N st Q) fr aw):∀{st:U Fr},popN Q fr aw K st->qs P N st Q .normal fr aw
 |[],h=>h
 | .sq y::st,h=>hK y st h
 | .bk _::st,h=>wq hK (st:=st) h
 | .kt _::_,h=>h
theorem wt (hK:∀y st,K y st->T P N y (qs P N st Q) fr aw){id:Nat}:∀{st:U Fr},popE Q fr aw K id st->qs P N st Q (.exit id) fr aw
 |[],h=>h
 | .sq y::st,h=>wt hK (st:=st) h
 | .bk i::st,h=>by
  show if id=i then qs P N st Q .normal fr aw else qs P N st Q (.exit id) fr aw
  simp only[popE]at h;cases hb:Nat.beq id i
  .rw[hb]at h;rw[if_neg (λe=>by simp_all)];exact wt hK (st:=st) h
  .rw[hb]at h;rw[if_pos (Q5 hb)];exact wq hK h
 | .kt _::st,h=>wt hK (st:=st) h
inductive MS where
 |cd (c:Code)
 |op (ops:Array Oper) (os:List Oper)
def dsC(l:List (Nat×AV))(d:Option Tmp)(r:AV)(K:List (Nat×AV)->Prop):Prop:=
 match d with
 |some t=>K ((t,r)::l)
 |none=>K l
def wP(pl:Bool)(tt:TT)(n:Nat)(l:List (Nat×AV))(aw:List Ob)(k:Nat)(op:Op)(K:AV->List Ob->Nat->Prop):Prop:=
  match pl with
  |false=>wE tt n l aw k op K
  | true=>(match op with
    | .pick c a b=>(match evA n l c with
      | .bool t=>(match t with
        |true=>fA (evA n l a) λr=>K r aw k
        |false=>fA (evA n l b) λr=>K r aw k)
      |_=>False)
    |op=>wE tt n l aw k op K)
theorem wP_ok {o:Oper}{k:Nat}{K:AV->U Ob->Nat->Prop}(ht:tt.Ok P)(hk:aw.length=k)(h:wP pl tt n l aw k o.op K):OP P N o (mkA n l) aw λr aw'=>K r aw' aw'.length:=by
 cases pl with
 |false=>exact wE_ok ht hk h
 | true=>
  have q:wE tt n l aw k o.op K->OP P N o (mkA n l) aw λr aw'=>K r aw' aw'.length:=λh=>wE_ok ht hk h
  obtain⟨d,op,ty,ps,af,g⟩:=o;cases op with
  | pick c a b=>
   simp only[wP]at h;subst hk;split at h
   .rename_i t hc;split at h
    .exact SJ J (bg hc J J (fU (K:=λr=>K r aw aw.length) h))
    .exact SJ J (aP hc J J (fU (K:=λr=>K r aw aw.length) h))
   grind
  |_=>exact q h
def gx(pl:Bool)(tt:TT)(P:Program)(N n:Nat)(Q:Exit->List AV->List Ob->Prop):Nat->MS->List Fr->List (Nat×AV)->List Ob->Nat->Prop
  |0,.cd c,st,l,aw,_=>T P N c (qs P N st Q) (mkA n l) aw
  |0,.op ops os,st,l,aw,_=>RS P N ops os (qs P N st Q .normal) (mkA n l) aw
  | f + 1,.cd c,st,l,aw,k=>(match c with
    | .seq x y=>gx pl tt P N n Q f (.cd x) (.sq y::st) l aw k
    | .skip=>popN Q (mkA n l) aw (λy st=>gx pl tt P N n Q f (.cd y) st l aw k) st
    | .block id x=>gx pl tt P N n Q f (.cd x) (.bk id::st) l aw k
    | .exit id=>popE Q (mkA n l) aw (λy st=>gx pl tt P N n Q f (.cd y) st l aw k) id st
    | .cond x a b=>(match evA n l x with
      | .bool v=>(match v with
        |true=>gx pl tt P N n Q f (.cd a) st l aw k
        |false=>gx pl tt P N n Q f (.cd b) st l aw k)
      |_=>False)
    | .region _ ops d=>(match d with
      |false=>gx pl tt P N n Q f (.op ops ops.toList) st l aw k
      |true=>False)
    |_=>False)
  | f + 1,.op ops os,st,l,aw,k=>(match os with
    |[]=>popN Q (mkA n l) aw (λy st=>gx pl tt P N n Q f (.cd y) st l aw k) st
    | o :: os => (match o.guard with
      |none=>wP pl tt n l aw k o.op λr aw k=>dsC l o.dst r λl=>gx pl tt P N n Q f (.op ops os) st l aw k
      | some (j,want)=>cw ops.toList j λq=>(match q.dst with
        |none=>False
        | some t=>(match evA n l (.tmp t)with
          | .bool b=>(match b with
            | true=>(match want with
              |true=>wP pl tt n l aw k o.op λr aw k=>dsC l o.dst r λl=>gx pl tt P N n Q f (.op ops os) st l aw k
              |false=>dsC l o.dst (.tup []) λl=>gx pl tt P N n Q f (.op ops os) st l aw k)
            | false=>(match want with
              |false=>wP pl tt n l aw k o.op λr aw k=>dsC l o.dst r λl=>gx pl tt P N n Q f (.op ops os) st l aw k
              |true=>dsC l o.dst (.tup []) λl=>gx pl tt P N n Q f (.op ops os) st l aw k))
          | .tup vs=>(match vs with
            |[]=>dsC l o.dst (.tup []) λl=>gx pl tt P N n Q f (.op ops os) st l aw k
            |_::_=>False)
          |_=>False))))
theorem NU {d:Qbm Tmp}{r:AV}{K:U (Nat×AV)->Prop}(h:dsC l d r K):K (putA l d r):=by cases d<;>exact h
theorem jM (ht:tt.Ok P):∀{f:Nat} {ms:MS} {st:U Fr} {l:U (Nat×AV)} {aw:U Ob} {k:Nat},aw.length=k->gx pl tt P N n Q f ms st l aw k->gx pl tt P N n Q 0 ms st l aw k
 |0,.cd c,st,l,aw,k,hk,h=>h
 |0,.op ops os,st,l,aw,k,hk,h=>h
 | f+1,.cd c,st,l,aw,k,hk,h=>by
  show T P N c (qs P N st Q) (mkA n l) aw;have pop:∀y st,gx pl tt P N n Q f (.cd y) st l aw k->T P N y (qs P N st Q) (mkA n l) aw:=λy st h=>jM ht (f:=f) hk h
  cases c with
  |seq x y=>exact T.seq (jM ht (f:=f) (ms:=.cd x) hk h)
  |skip=>exact T.skip (wq pop h)
  |block id x=>exact T.block (jM ht (f:=f) (ms:=.cd x) hk h)
  |exit id=>exact T.exit (wt pop h)
  |cond x a b=>
   grind[gx,T.cond]
  |region id ops d=>
   cases d with
   |false=>exact T.region (jM ht (f:=f) (ms:=.op ops ops.toList) hk h)
   |true=>exact h.elim
  |_=>exact h.elim
 | f + 1,.op ops os,st,l,aw,k,hk,h=>by
  show RS P N ops os (qs P N st Q .normal) (mkA n l) aw;cases os with
  |nil=>
   have pop:∀y st,gx pl tt P N n Q f (.cd y) st l aw k->T P N y (qs P N st Q) (mkA n l) aw:=λy st h=>jM ht (f:=f) hk h
   exact RS.nil (wq pop h)
  | cons o os=>
   have put:∀{aw:U Ob} {k:Nat} {r:AV},aw.length=k->dsC l o.dst r (λl=>gx pl tt P N n Q f (.op ops os) st l aw k)->RS P N ops os (qs P N st Q .normal) (mkA n (putA l o.dst r)) aw:=
    λ{aw k r} hk h=>jM ht (f:=f) (ms:=.op ops os) hk (NU (K:=λl=>gx pl tt P N n Q f (.op ops os) st l aw k) h)
   simp only[gx]at h;split at h
   .rename_i hg;exact RS.op hg ((wP_ok ht hk h).mono λr aw' h=>put J h)
   .rename_i j want hg;obtain⟨q,h1,h⟩:=ce h;have h1:ops[j]?=some q:=by grind
    split at h
    .exact h.elim
    .rename_i t hd;have hj:(ops[j]?).bind (·.dst)=some t:=by grind
     split at h
     .rename_i b hb;split at h
      .split at h
       .exact RS.yes hg hj hb J ((wP_ok ht hk h).mono λr aw' h=>put J h)
       grind[RS.no]
      .split at h
       .exact RS.yes hg hj hb J ((wP_ok ht hk h).mono λr aw' h=>put J h)
       grind[RS.no]
     all_goals (grind[T3])
theorem FX {s:Nat}{a:AV}(hl:lkA l s=a):mkA n ((s,a)::l)=mkA n l:=by unfold mkA;congr 1;funext t;rw[ku];grind
variable {ops:Array Oper} {os:List Oper} {K:List AV→List Ob→Prop} {st:List Fr}
variable {b:Bool}{α β:Type}{c x y:Code}{l':U (Nat×AV)}{v:α⊕β}{r:β}
theorem gT (s:Nat)(hb:b=true)(h:RS P N ops os K (mkA n ((s,.bool true)::l)) aw)(hl:lkA l s=.bool b:=by rfl):RS P N ops os K (mkA n l) aw:=by grind[FX]
theorem gF (s:Nat)(hb:b=false)(h:RS P N ops os K (mkA n ((s,.bool false)::l)) aw)(hl:lkA l s=.bool b:=by rfl):RS P N ops os K (mkA n l) aw:=by grind[FX]
theorem gi (s:Nat){u v:Qbm α}{r:α}(h:(if b=true then u else v)=some r)(ht:b=true->u=some r->RS P N ops os K (mkA n ((s,.bool true)::l)) aw)(he:b=false->v=some r->RS P N ops os K (mkA n ((s,.bool false)::l)) aw)(hl:lkA l s=.bool b:=by rfl):RS P N ops os K (mkA n l) aw:=by
 cases b with
 |true=>exact gT s J (ht J (bH h J)) hl
 |false=>exact gF s J (he J (bG h J)) hl
theorem gp (s:Nat)(ht:b=true->RS P N ops os K (mkA n ((s,.bool true)::l)) aw)(he:b=false->RS P N ops os K (mkA n ((s,.bool false)::l)) aw)(hl:lkA l s=.bool b:=by rfl):RS P N ops os K (mkA n l) aw:=by
 cases b with
 |true=>grind[gT]
 |false=>grind[gF]
theorem fX {f:FuncId}{fn:Func}{args:U AV}{Q:AV->U Ob->Prop}{m:Nat}(ht:tt.Ok P)(N q:Nat)(hf:P.funcs[f]?=some fn)(hm:fn.ntmps=m)(h:iniC 0 args λl=>gx pl tt P N m (retQ P fn N Q) q (.cd c) [] l aw N)(hb:fn.body=some c)(hN:aw.length=N)(hname:(fn.name== "runtime.NumGoroutine")=false)(hl:Nat.ble args.length m=true):ACalls P f args aw Q:=
 iJ hN hf hb hname hm hl (jM ht hN (wj (K:=λl=>gx pl tt P N m (retQ P fn N Q) q (.cd c) [] l aw N) h))
theorem q0 (h:T P N c (qs P N [] Q) fr aw):T P N c Q fr aw:=h
theorem jn {Z:Type}(F:Z->U AV)(A:Z->U Ob)(S:Z->Prop)(h:∀z,S z->T P N y (qs P N st Q) (F z) (A z))(h2:(∀z,S z->T P N y (qs P N st Q) (F z) (A z))->T P N (.seq x y) (qs P N st Q) fr aw):T P N (.seq x y) (qs P N st Q) fr aw:=h2 h
theorem j1 (l':U (Nat×AV))(aw':U Ob)(h:T P N y (qs P N st Q) (mkA n l') aw')(h2:T P N y (qs P N st Q) (mkA n l') aw'->T P N (.seq x y) (qs P N st Q) (mkA n l) aw):T P N (.seq x y) (qs P N st Q) (mkA n l) aw:=h2 h
theorem j0 (l':U (Nat×AV))(aw':U Ob)(S:Prop)(h:S->T P N y (qs P N st Q) (mkA n l') aw')(h2:(S->T P N y (qs P N st Q) (mkA n l') aw')->T P N (.seq x y) (qs P N st Q) (mkA n l) aw):T P N (.seq x y) (qs P N st Q) (mkA n l) aw:=h2 h
def LK{α β:Type}(N:Nat)(v:α⊕β)(F:α->List AV)(A:α->List Ob)(fr:List AV)(aw:List Ob):Prop:=∃s',v=.inl s'/\Weak N fr aw (F s') (A s')
theorem itr {body:α->Qbm (α⊕β)}{s:α}(F:α->U AV)(A:α->U Ob)(h:iter body s=some r)(hw:Weak N fr aw (F s) (A s))(hb:∀s v,body s=some v->(∀w,v=.inr w->w=r)->T P N c (qs P N (.kt (LK N v F A)::st) Q) (F s) (A s)):T P N (.loop c) (qs P N st Q) fr aw:=
 UR F A h hw λs v h1 h2=>(hb s v h1 h2).mono λe fr aw h=>by assumption
theorem lk {F:α->U AV}{A:α->U Ob}{s':α}(h:some (.inl s')=some v)(hw:Weak N fr aw (F s') (A s')):LK N v F A fr aw:=⟨s',(QH h).symm,hw⟩
theorem mi {o:Qbm β}(h:o.map Sum.inr=some v)(hv:∀w,v=.inr w->w=r):o=some r:=by obtain⟨w,h1,h2⟩:=Mb h;grind
theorem B {o:Qbm α}{k:α->Qbm β}{C:Prop}(h:o.bind k=some r)(hC:∀x,o=some x->k x=some r->C):C:=by obtain⟨x,h1,h2⟩:=bind_some h;grind
theorem sx (h:T P N c Q (mkA n l') aw)(hs:l'.map (λp=>lkA l p.1)=l'.map (λp=>lkA l' p.1):=by rfl):T P N c Q (mkA n l) aw:=U6 h hs
theorem wu {aw':U Ob}(h:T P N c Q (mkA n l') aw')(nl:U (Nat×TypeId×Nat))(ρ:U Nat)(k:Nat)(hw:nilC nl l aw k λl aw=>mpF ρ l' l λbs es=>mpOs ρ aw ρ aw' λbs' es'=>(bs,bs')=(es,es'))[g:GoodF l'][g':GoodOs aw'](hc:aw.length=k:=by rfl)(hn:(nl.all λp=>Nat.blt p.1 n)=true:=by rfl)(h1:ρ.Nodup:=by decide)(h2:∀k,k<N->ρ[k]?=some k:=by decide):T P N c Q (mkA n l) aw:=T.weakR h (wk nl ρ k hw hc hn h1 h2)
section
variable {ρ:List Nat} {n0 n1:Nat}
def bkC(n0:Nat):List Nat->Nat->(Nat->Prop)->Prop
 |[],i,K=>K (n0+i)
 |j::ρ,i,K=>(match i with
  |0=>K j
  |i+1=>bkC n0 ρ i K)
def bkK(ρ:List Nat)(n0 n1 i:Nat)(K:Nat->Prop):Prop:=
 match Nat.blt i n1 with
 |true=>bkC n0 ρ i K
 |false=>False
theorem F7:∀{ρ:U Nat} {i:Nat} {K:Nat->Prop},bkC n0 ρ i K->K (if i<ρ.length then ρ.getD i 0 else n0+(i- ρ.length))
 |[],i,K,h=>by assumption
 |j::ρ,0,K,h=>h
 |j::ρ,i+1,K,h=>by have:=F7 (ρ:=ρ) (i:=i) (K:=K) h;grind
theorem kJ {i:Nat}{K:Nat->Prop}(h:bkK ρ n0 n1 i K):∃j,(j,i)∈ck ρ n0 n1/\K j:=by
 unfold bkK at h;split at h
 .rename_i hb;refine⟨_,?_,F7 h⟩;simp_all[ck]
 grind
def bkL(f:AV->(AV->Prop)->Prop):List AV->(List AV->Prop)->Prop
 |[],K=>K []
 |a::es,K=>f a λb=>bkL f es λbs=>K (b::bs)
def bkA(ρ:List Nat)(n0 n1:Nat):Nat->AV->(AV->Prop)->Prop
 | k,a,K=>match a with
  | .ref i=>bkK ρ n0 n1 i λi=>K (.ref i)
  | .ptr i o=>bkK ρ n0 n1 i λi=>K (.ptr i o)
  | .mpr i=>bkK ρ n0 n1 i λi=>K (.mpr i)
  | .np i=>bkK ρ n0 n1 i λi=>K (.np i)
  | .agg cs=>(match k with
   |0=>False
   |k+1=>bkL (bkA ρ n0 n1 k) cs λcs=>K (.agg cs))
  | .tup cs=>(match k with
   |0=>False
   |k+1=>bkL (bkA ρ n0 n1 k) cs λcs=>K (.tup cs))
  | .func f cs=>(match k with
   |0=>False
   |k+1=>bkL (bkA ρ n0 n1 k) cs λcs=>K (.func f cs))
  | .bnd f cs=>(match k with
   |0=>False
   |k+1=>bkL (bkA ρ n0 n1 k) cs λcs=>K (.bnd f cs))
  | .iref _ _| .aptr _ _ _ _=>False
  |a=>fA a K
theorem oc {k:Nat}(ih:∀{a:AV} {K:AV->Prop},bkA ρ n0 n1 k a K->∃b,K b/\(gA k a->RenM (ck ρ n0 n1) b a)):∀{es:U AV} {K:U AV->Prop},bkL (bkA ρ n0 n1 k) es K->∃bs,K bs/\((∀a,a∈es->gA k a)->gV (ck ρ n0 n1) bs es)
 |[],K,h=>⟨[],h,λ_=>trivial⟩
 |a::es,K,h=>by obtain⟨b,h1,h2⟩:=ih h;obtain⟨bs,h3,h4⟩:=oc ih h1;exact⟨b::bs,h3,λhg=>⟨h2 (hg _ (.head _)),h4 λx hx=>hg x (.tail _ hx)⟩⟩
theorem wH:∀{k:Nat} {a:AV} {K:AV->Prop},bkA ρ n0 n1 k a K->∃b,K b/\(gA k a->RenM (ck ρ n0 n1) b a):=by
 intro k;induction k with
 |zero=>
  intro a K h;cases a with
  |ref i=>obtain⟨j,h1,h2⟩:=kJ h;grind[iL]
  |ptr i o=>obtain⟨j,h1,h2⟩:=kJ h;grind[lZ]
  |aptr i s x o=>exact h.elim
  |mpr i=>obtain⟨j,h1,h2⟩:=kJ h;grind[FH]
  |np i=>obtain⟨j,h1,h2⟩:=kJ h;grind[rm_np]
  |agg cs=>exact h.elim
  |tup cs=>exact h.elim
  |func f cs=>exact h.elim
  |bnd f cs=>exact h.elim
  |iref i j=>exact h.elim
  |any=>exact⟨_,h,λ_=>Ft⟩
  |int q x=>exact⟨_,h,λ_=>au (aO _ _)⟩
  |bool b=>exact⟨_,h,λ_=>au (ko _)⟩
  |str s=>exact⟨_,h,λ_=>au (bd _)⟩
  |nils=>exact⟨_,h,λ_=>au cb⟩
  |nilf=>exact⟨_,h,λ_=>au sK⟩
  |nilp=>exact⟨_,h,λ_=>au vG⟩
  |nili=>exact⟨_,h,λ_=>au vC⟩
  |sl rows=>exact⟨_,h,λg=>au (by assumption)⟩
  |elt row off=>exact⟨_,h,λg=>au (by assumption)⟩
  |cst v=>exact⟨_,h,λg=>by grind[gA]⟩
  |vw a1 a2 a3 a4 a5=>exact⟨_,h,λg=>by grind[gA]⟩
  |ref2 i=>exact⟨_,h,λg=>by grind[gA]⟩
  |aptr2 i j=>exact⟨_,h,λg=>by grind[gA]⟩
  |ifc t a1=>exact⟨_,h,λg=>by grind[gA]⟩
 |succ k ih=>
  intro a K h;cases a with
  |ref i=>obtain⟨j,h1,h2⟩:=kJ h;grind[iL]
  |ptr i o=>obtain⟨j,h1,h2⟩:=kJ h;grind[lZ]
  |aptr i s x o=>exact h.elim
  |mpr i=>obtain⟨j,h1,h2⟩:=kJ h;grind[FH]
  |np i=>obtain⟨j,h1,h2⟩:=kJ h;grind[rm_np]
  |agg cs=>obtain⟨bs,h1,h2⟩:=oc ih h;grind[tH,gA]
  |tup cs=>obtain⟨bs,h1,h2⟩:=oc ih h;grind[Gb,gA]
  |func f cs=>obtain⟨bs,h1,h2⟩:=oc ih h;grind[Ni,gA]
  |bnd f cs=>obtain⟨bs,h1,h2⟩:=oc ih h;grind[Om,gA]
  |iref i j=>exact h.elim
  |any=>exact⟨_,h,λ_=>Ft⟩
  |int q x=>exact⟨_,h,λ_=>au (aO _ _)⟩
  |bool b=>exact⟨_,h,λ_=>au (ko _)⟩
  |str s=>exact⟨_,h,λ_=>au (bd _)⟩
  |nils=>exact⟨_,h,λ_=>au cb⟩
  |nilf=>exact⟨_,h,λ_=>au sK⟩
  |nilp=>exact⟨_,h,λ_=>au vG⟩
  |nili=>exact⟨_,h,λ_=>au vC⟩
  |sl rows=>exact⟨_,h,λg=>au (by assumption)⟩
  |elt row off=>exact⟨_,h,λg=>au (by assumption)⟩
  |cst v=>exact⟨_,h,λg=>by grind[gA]⟩
  |vw a1 a2 a3 a4 a5=>exact⟨_,h,λg=>by grind[gA]⟩
  |ref2 i=>exact⟨_,h,λg=>by grind[gA]⟩
  |aptr2 i j=>exact⟨_,h,λg=>by grind[gA]⟩
  |ifc t a1=>exact⟨_,h,λg=>by grind[gA]⟩
def bkO(ρ:List Nat)(n0 n1:Nat)(o:Ob)(K:Ob->Prop):Prop:=
 match o with
 | .dead=>K .dead
 | .box cs=>bkL (bkA ρ n0 n1 3) cs λcs=>K (.box cs)
 | .boxB t cs=>bkL (bkA ρ n0 n1 3) cs λcs=>K (.boxB t cs)
 | .hd e k=>bkK ρ n0 n1 k λk=>K (.hd e k)
 | .arr e s rows=>K (.arr e s rows)
 | .mp ks vs=>K (.mp ks vs)
 | .cl e s cells=>K (.cl e s cells)
 |_=>False
variable {o:Ob}{aw1:U Ob}
theorem Fz {K:Ob->Prop}(h:bkO ρ n0 n1 o K):∃b,K b/\(gO o->jL (ck ρ n0 n1) b o):=by
 cases o with
 |dead=>exact⟨_,h,λ_=>trivial⟩
 |box cs=>obtain⟨bs,h1,h2⟩:=oc wH h;exact⟨_,h1,λg=>h2 g⟩
 |boxB t cs=>obtain⟨bs,h1,h2⟩:=oc wH h;exact⟨_,h1,λg=>⟨J,h2 g⟩⟩
 |hd e k=>obtain⟨j,h1,h2⟩:=kJ h;exact⟨_,h2,λ_=>⟨J,h1⟩⟩
 |arr e s rows=>exact⟨_,h,λg=>⟨J,J,J,g⟩⟩
 |mp ks vs=>exact⟨_,h,λg=>⟨xE λc hc=>g c (List.mem_append_left _ hc),xE λc hc=>g c (List.mem_append_right _ hc)⟩⟩
 |cl e s cells=>exact⟨_,h,λg=>⟨J,J,J,g⟩⟩
 |arrU e s rows x=>exact h.elim
def pkC(n0 n1:Nat)(ρ0:List Nat)(j:Nat)(o:Ob)(K:Ob->Prop):List Nat->List Ob->Prop
 |[],_=>K o
 | i::ρ,os=>(match os with
  |[]=>False
  |o1::os=>(match Nat.beq i j with
   |true=>bkO ρ0 n0 n1 o1 K
   |false=>pkC n0 n1 ρ0 j o K ρ os))
def exC(ρ:List Nat)(n0 n1:Nat):List Ob->(List Ob->Prop)->Prop
 |[],K=>K []
 |o::os,K=>bkO ρ n0 n1 o λo=>exC ρ n0 n1 os λos=>K (o::os)
def bwC(ρ:List Nat)(n0 n1:Nat)(aw1:List Ob):Nat->List Ob->(List Ob->Prop)->Prop
 |_,[],K=>dropC aw1 ρ.length λos=>exC ρ n0 n1 os K
 |j,o::r,K=>pkC n0 n1 ρ j o (λo=>bwC ρ n0 n1 aw1 (j+1) r λl=>K (o::l)) ρ aw1
theorem FV (hg:∀o,o∈aw1->gO o)(hl:aw1.length=n1){j:Nat}{K:Ob->Prop}:∀{ρ1:U Nat} {os:U Ob} {k:Nat},ρ.drop k=ρ1->aw1.drop k=os->pkC n0 n1 ρ j o K ρ1 os ->
  ∃b,K b/\((∃k o1,(j,k)∈ck ρ n0 n1/\aw1[k]?=some o1/\jL (ck ρ n0 n1) b o1)∨(ρ1.contains j=false/\b=o))
 |[],os,k,_,_,h=>⟨o,h,.inr ⟨J,J⟩⟩
 |i::ρ1,[],k,_,_,h=>h.elim
 | i::ρ1,o1::os,k,h1,h2,h=>by
  have e1:ρ[k]?=some i:=by have:=congrArg List.head? h1;simpa using this
  have e2:aw1[k]?=some o1:=by have:=congrArg List.head? h2;simpa using this
  simp only[pkC]at h;split at h
  .rename_i hb;have:=Q5 hb;subst this;obtain⟨b,h3,h4⟩:=Fz h;have hk:k<ρ.length:=(QD.1 e1).1;have hk1:k<n1:=by grind
   refine⟨b,h3,.inl ⟨k,o1,?_,e2,h4 (hg _ (QE e2))⟩⟩;simp_all[ck]
  .rename_i hb;obtain⟨b,h3,h4⟩:=FV hg hl (k:=k+1) (by grind[List.tail_drop]) (by grind[List.tail_drop]) h;refine⟨b,h3,h4.imp id λ⟨h5,h6⟩=>⟨?_,h6⟩⟩;rw[List.contains_cons,h5,Bool.or_false];cases he:j==i;all_goals simp_all
theorem FM {aw:U Ob}(hg:∀o,o∈aw1->gO o)(hl:aw1.length=n1)(hr:ρ.length<=n1):∀{os:U Ob} {j:Nat} {K:U Ob->Prop},aw1.drop (ρ.length+j)=os->exC ρ n0 n1 os K->∃bs,K bs/\fa (ck ρ n0 n1) ρ aw aw1 (n0+j) bs/\bs.length=os.length
 |[],j,K,_,h=>⟨[],h,trivial,J⟩
 |o::os,j,K,h1,h=>by
  have e1:aw1[ρ.length+j]?=some o:=by have:=congrArg List.head? h1;simpa using this
  obtain⟨b,h2,h3⟩:=Fz h;obtain⟨bs,h4,h5,h6⟩:=FM (aw:=aw) hg hl hr (j:=j+1) (by grind[List.tail_drop]) h2;refine⟨b::bs,h4,⟨.inl ⟨ρ.length+j,o,?_,e1,h3 (hg _ (QE e1))⟩,by omega⟩,by simp[h6]⟩;unfold ck;grind
theorem zh {aw:U Ob}(hg:∀o,o∈aw1->gO o)(hl:aw1.length=n1)(hn:aw.length=n0):∀{l:U Ob} {j:Nat} {K:U Ob->Prop},aw.drop j=l->j<=n0->bwC ρ n0 n1 aw1 j l K->∃bs,K bs/\fa (ck ρ n0 n1) ρ aw aw1 j bs/\bs.length+ρ.length=l.length+n1
 |[],j,K,h0,hj,h=>by
  obtain⟨h1,h⟩:=yr h;have hj':j=n0:=by simp_all<;>omega
  subst hj';obtain⟨bs,h2,h3,h4⟩:=FM (aw:=aw) hg hl (by omega) (j:=0) J h;grind
 |o::r,j,K,h0,hj,h=>by
  have e1:aw[j]?=some o:=by have:=congrArg List.head? h0;simpa using this
  have hjl:j<aw.length:=(QD.1 e1).1;obtain⟨b,h1,h2⟩:=FV (k:=0) hg hl J J h;obtain⟨bs,h3,h4,h5⟩:=zh hg hl hn (j:=j+1) (by grind[List.tail_drop]) (by omega) h1;refine⟨b::bs,h3,⟨h2.imp id λ⟨h6,h7⟩=>⟨h6,by grind⟩,h4⟩,?_⟩;grind
def cgC(n:Nat)(l:List (Nat×AV))(aw:List Ob)(ρ:List Nat)(n0 n1:Nat)(f:Operand)(args:List Operand)(h:Nat)(as0:List AV)(aw0:List Ob)(v:AV)(aw1:List Ob)(K:AV->List Ob->Prop):Prop:=
 match evA n l f with
 | .func g caps=>(match Nat.beq g h with
  |true=>evsC n l args λes=>appC es caps λac=>mpC (mpA ρ 3) as0 ac λbs=>mpOs ρ aw ρ aw0 λbs' es'=>(bs,bs')=(ac,es')/\bkA ρ n0 n1 3 v λv=>bwC ρ n0 n1 aw1 0 aw λaw2=>K v aw2
  |false=>False)
 | .bnd g fs=>(match Nat.beq g h with
  |true=>evsC n l args λes=>appC fs es λac=>mpC (mpA ρ 3) as0 ac λbs=>mpOs ρ aw ρ aw0 λbs' es'=>(bs,bs')=(ac,es')/\bkA ρ n0 n1 3 v λv=>bwC ρ n0 n1 aw1 0 aw λaw2=>K v aw2
  |false=>False)
 |_=>False
theorem cG {d:Qbm Tmp}{ty:TypeId}{ps:String}{af:Array Edge}{gd:Qbm (Nat×Bool)}{K2:AV->U Ob->Prop}{f:Operand}{args:Array Operand}{ts:Array TypeId}{h:FuncId}{as0:U AV}{aw0:U Ob}{v:AV}(ρ:U Nat)(n0 n1:Nat)(hC:FnX P h as0 aw0 v aw1)(hx:cgC n l aw ρ n0 n1 f args.toList h as0 aw0 v aw1 K2)[ga:GoodAs 3 as0][go:GoodOs aw0][gv:GoodA 3 v][g1:GoodOs aw1](hn0:aw.length=n0:=by rfl)(hn1:aw1.length=n1:=by rfl)(hnd:ρ.Nodup:=by decide):OP P N ⟨d,.call ⟨.value f,args,ts⟩,ty,ps,af,gd⟩ (mkA n l) aw K2:=by
 unfold cgC at hx
 split at hx
 .rename_i g caps hf
  split at hx
  .rename_i hb
   have:=Q5 hb
   subst this
   have hx:=tA (tC hx)
   obtain⟨bs,hx,h2⟩:=kF (ρ:=ρ) nZ hx
   obtain⟨bs',es',hx,h3⟩:=nU hx
   obtain⟨he,hx⟩:=hx
   injection he with e1 e2
   obtain⟨v',hx,h4⟩:=wH hx
   obtain⟨aw2,hx,h5,h6⟩:=zh g1.out hn1 hn0 (j:=0) J (QY _) hx
   exact E4 ρ hn0 hn1 hf J hnd (h3 go.out e2) (h2 ga.out e1) hC (by grind) (h4 gv.out) h5 hx
  grind
 .rename_i g caps hf
  split at hx
  .rename_i hb
   have:=Q5 hb
   subst this
   have hx:=tA (tC hx)
   obtain⟨bs,hx,h2⟩:=kF (ρ:=ρ) nZ hx
   obtain⟨bs',es',hx,h3⟩:=nU hx
   obtain⟨he,hx⟩:=hx
   injection he with e1 e2
   obtain⟨v',hx,h4⟩:=wH hx
   obtain⟨aw2,hx,h5,h6⟩:=zh g1.out hn1 hn0 (j:=0) J (QY _) hx
   exact D2 ρ hn0 hn1 hf J hnd (h3 go.out e2) (h2 ga.out e1) hC (by grind) (h4 gv.out) h5 hx
  grind
 grind
end
theorem nB (b j e z k:Nat)(h:cw aw b λo=>(match o with
  | .box cs=>cw cs j λv=>(match v with
   | .nils=>setC cs j (.ref k) λcs=>setC aw b (.box cs) λaw=>pushC aw (.arr e z []) λaw=>T P N c Q (mkA n l) aw
   |_=>False)
  |_=>False))(hk:aw.length=k:=by rfl):T P N c Q (mkA n l) aw:=by
 subst hk
 obtain⟨o,h1,h⟩:=ce h
 split at h
 .obtain⟨v,h2,h⟩:=ce h
  split at h
  .exact TZ b j e z h1 h2 J J (nL (jB (jB h)))
  grind
 grind
theorem mO (b j id k:Nat)(h:cw aw b λo=>(match o with
  | .box cs=>cw cs j λv=>(match v with
   | .ref i=>(match Nat.beq i id with
    |true=>cw aw id λq=>(match q with
     | .arr e s rows=>setC cs j (.ref k) λcs=>setC aw id .dead λaw=>setC aw b (.box cs) λaw=>pushC aw (.arr e s rows) λaw=>T P N c Q (mkA n l) aw
     |_=>False)
    |false=>False)
   |_=>False)
  |_=>False))(hk:aw.length=k:=by rfl):T P N c Q (mkA n l) aw:=by
 subst hk
 obtain⟨o,h1,h⟩:=ce h
 split at h
 .obtain⟨v,h2,h⟩:=ce h
  split at h
  .rename_i i
   split at h
   .rename_i hb
    have:=Q5 hb
    subst this
    obtain⟨q,h3,h⟩:=ce h
    split at h
    .exact U1 b j _ h1 h2 h3 J J J (nL (jB (jB (jB h))))
    grind
   grind
  grind
 grind
def bm(n k:Nat):Array Bool:=((List.range n).map k.testBit).toArray
end
end
section
open Go.RowKit
section
variable {P:Program} {N n:Nat} {aw aw':List Ob} {l:List (Nat×AV)} {σ:List Value} {w:World} {F:Nat→Prop}
variable {o o':Ob}{v x:Value}{c e k i:Nat}{us:U Value}{rows:U (U AV)}{cells:U Cell}
theorem Sim.repl (h:Sim aw σ w F)(id:Nat)(ho:aw[id]?=some o)(hl:o.live=true)(hv:σ[id]?=some v)(o':Ob)(ho':ORel σ w F o' v)(hsub:∀b,Bk o' v b->Bk o v b):Sim (aw.set id o') σ w F:=by
 refine⟨by simp[h.len],λk o1 v1 ho1 hv1=>?_,λk k' o1 o2 v1 v2 g hne ho1 ho2 hl1 hl2 hv1 hv2 hb1 hb2=>?_,h.lt⟩
 .rcases bV ho1 with⟨rfl,rfl,_⟩|⟨hne,h1⟩
  .grind
  .exact h.obj k o1 v1 h1 hv1
 .have un:∀(k:Nat) o1 v1,(aw.set id o')[k]?=some o1->o1.live=true->σ[k]?=some v1->∃o2,aw[k]?=some o2/\o2.live=true/\∀b,Bk o1 v1 b->Bk o2 v1 b:=λk o1 v1 h1 hl1 hv1=>by
   grind
  obtain⟨p1,q1,r1,z1⟩:=un k o1 v1 ho1 hl1 hv1;obtain⟨p2,q2,r2,z2⟩:=un k' o2 v2 ho2 hl2 hv2;exact h.sep k k' p1 p2 v1 v2 g hne q1 q2 r1 r2 hv1 hv2 (z1 _ hb1) (z2 _ hb2)
theorem Dof.repl {id:Nat}(ho:aw[id]?=some o)(hl:o.live=true)(hv:σ[id]?=some v)(hsub:∀b,Bk o' v b->Bk o v b){b:Nat}(hb:Dof (aw.set id o') σ b):Dof aw σ b:=by
 obtain⟨k,o1,v1,ho1,hl1,hv1,hb1⟩:=hb;rcases bV ho1 with⟨rfl,rfl,_⟩|⟨_,h2⟩
 .rw[hv]at hv1;cases hv1;exact⟨_,o,v,ho,hl,hv,hsub b hb1⟩
 .exact⟨k,o1,v1,h2,hl1,hv1,hb1⟩
theorem Mv.repl (id:Nat)(ho:aw[id]?=some o)(hl:o.live=true)(hv:σ[id]?=some v)(hsub:∀b,Bk o' v b->Bk o v b):Mv aw σ w F (aw.set id o') σ w F:=
 ⟨J,J,drO,QJ _,λ_ _ _=>J,λ_ _ h=>h,λ_ h=>h,λ_ h=>.inl h,λ_ hb=>.inl (Dof.repl ho hl hv hsub hb)⟩
theorem Mv.lose (id:Nat):Mv aw σ w F (aw.set id .dead) σ w F:=
 ⟨J,J,drO,QJ _,λ_ _ _=>J,λ_ _ h=>h,λ_ h=>h,λ_ h=>.inl h,λ_ hb=>.inl hb.set_dead⟩
theorem Sim.take (h:Sim aw σ w F)(o:Ob)(v:Value)(ho:ORel (σ++[v]) w F o v)(hn:∀b,Bk o v b->¬Dof aw σ b):Sim (aw++[o]) (σ++[v]) w F:=
 h.push2 o v (λ_ _=>J) (QJ _) ho hn
theorem Mv.take {aw0:U Ob}{σ0:U Value}(h:Sim aw σ w F)(m:Mv aw0 σ0 w F aw σ w F)(o:Ob)(v:Value)(hb:∀b,Bk o v b->Dof aw0 σ0 b):Mv aw0 σ0 w F (aw++[o]) (σ++[v]) w F:=by
 refine⟨J,J,drO,QJ _,λ_ _ _=>J,λi u hu=>d8 (m.pre i u hu),λ_ h=>h,λ_ h=>.inl h,λb hb1=>?_⟩;obtain⟨k,o1,v1,ho1,hl,hv1,hb2⟩:=hb1;rcases gm ho1 with h1|⟨rfl,rfl⟩
 .have hlt:=(QD.1 h1).1;rw[QQ (by rw[h.len];exact hlt)]at hv1;exact m.own b ⟨k,o1,v1,h1,hl,hv1,hb2⟩
 .rw[<- h.len]at hv1;grind
theorem IJ {e2 size:Nat}{c:Cell}(h:CellRel σ w F e2 size c x):CellRel (σ++[v]) w F e2 size c x:=by
 cases c with
 |own rows=>
  obtain⟨flat,h1,h2,h3,h4⟩:=h;exact⟨flat,h1,⟨h2.1,h2.2.1,h2.2.2.mono (λi x hx=>d8 hx) (λ_ h=>h) (λ_ _=>J)⟩,h3,h4⟩
 |fz rows=>exact Rel.mono (λi x hx=>d8 hx) (λ_ h=>h) (λ_ _=>J) h
 |hole=>trivial
theorem C4:∀us:U Value,(us.map λu=>([.cst u]:U AV)).flatten=us.map AV.cst
 |[]=>rfl
 |u::us=>by simp[C4 us]
theorem qj (hs:Sim aw σ w F){id:Nat}(ho:aw[id]?=some (.hd e k))(hv:σ[id]?=some v):∃us:U Value,σ[k]?=some (.tuple us.toArray)/\(∀u,u∈us->u.oneCell'=true) /\
  Sim (aw.set id (.arr e 1 (us.map λu=>[.cst u]))) σ w F/\Mv aw σ w F (aw.set id (.arr e 1 (us.map λu=>[.cst u]))) σ w F:=by
 obtain⟨us,h1,h2,⟨a,m,c,rfl⟩,h3,h4⟩:=hs.obj id _ v ho hv
 have hsub:∀b,Bk (.arr e 1 (us.map λu=>[.cst u])) (.slice a m c) b->Bk (.hd e k) (.slice a m c) b:=λb hb=>hb
 refine⟨us,h1,h3,hs.repl id ho J hv _ ⟨us,?_,⟨λrow hr=>?_,h3,?_⟩,h4,a,m,c,J⟩ hsub,.repl id ho J hv hsub⟩
 .grind
 .grind
 .rw[C4]
  refine⟨by simp,λj x u hx hu=>?_⟩
  rw[QW,hu]at hx
  cases hx
  exact .cst u
theorem hd_of (hs:Sim aw σ w F){id:Nat}(hk:σ[k]?=some (.tuple us.toArray))(ho:aw[id]?=some (.arr e 1 rows))(hv:σ[id]?=some v)(hus:∀flat,FlatRel σ w F 1 rows flat->flat=us):Sim (aw.set id (.hd e k)) σ w F/\Mv aw σ w F (aw.set id (.hd e k)) σ w F:=by
 obtain⟨flat,h1,h2,h3,a,m,c,rfl⟩:=hs.obj id _ v ho hv;have:=hus flat h2;subst this;have hsub:∀b,Bk (.hd e k) (.slice a m c) b->Bk (.arr e 1 rows) (.slice a m c) b:=λb hb=>hb
 have hlen:flat.length=rows.length:=by have:=h1.1;omega
 exact⟨hs.repl id ho J hv _ ⟨flat,hk,by grind,⟨a,m,c,J⟩,h2.2.1,h3⟩ hsub,.repl id ho J hv hsub⟩
theorem Eh {flat:U Value}(h:FlatRel σ w F 1 rows flat):flat.length=rows.length/\∀(i:Nat) row u,rows[i]?=some row->flat[i]?=some u->∃a,row=[a]/\Rel σ w F a u:=by
 obtain⟨h1,_,h2⟩:=h;have hf:∀(R:U (U AV)),(∀row,row∈R->row.length=1)->R.flatten.length=R.length/\∀(i:Nat) row,R[i]?=some row->∃a,row=[a]/\R.flatten[i]?=some a:=by
  intro R;induction R with
  |nil=>simp
  |cons r R ih=>
   intro h;obtain⟨e1,e2⟩:=ih λrow hr=>h row (Rf _ hr)
   obtain⟨a,ha⟩:=List.length_eq_one_iff.1 (h r Q8);grind
 obtain⟨e1,e2⟩:=hf rows h1;refine⟨by rw[h2.1,e1],λi row u hi hu=>?_⟩;obtain⟨a,b1,b2⟩:=e2 i row hi;exact⟨a,b1,h2.2 i a u b2 hu⟩
theorem FT (hs:Sim aw σ w F)(ho:aw[k]?=some (.cl e c cells))(hk:σ[k]?=some (.tuple us.toArray))(hi:cells[i]?=some (.own rows))(hx:us[i]?=some x):
  Sim (aw.set k (.cl e c (cells.set i .hole))++[.arr e c rows]) (σ++[x]) w F/\Mv aw σ w F (aw.set k (.cl e c (cells.set i .hole))++[.arr e c rows]) (σ++[x]) w F:=by
 obtain⟨us',e1,hl,hc,hd⟩:=hs.obj k _ _ ho hk
 have:=lX e1
 subst this
 have hsub:∀b,Bk (.cl e c (cells.set i .hole)) (.tuple us.toArray) b->Bk (.cl e c cells) (.tuple us.toArray) b:=λb hb=>by
  obtain⟨us',e1,j,rows',y,h1,h2,h3⟩:=hb;rcases bV h1 with⟨_,h4,_⟩|⟨_,h4⟩
  .cases h4
  .exact⟨us',e1,j,rows',y,h4,h2,h3⟩
 have hO:ORel σ w F (.cl e c (cells.set i .hole)) (.tuple us.toArray):=by
  refine⟨us,J,by grind,λj c' y h1 h2=>?_,λj j' r r' y y' g hne h1 h2 h3 h4 h5 h6=>?_⟩
  .rcases bV h1 with⟨_,h4,_⟩|⟨_,h4⟩
   .subst h4;trivial
   grind
  .rcases bV h1 with⟨_,e,_⟩|⟨_,e⟩
   .cases e
   .rcases bV h2 with⟨_,e',_⟩|⟨_,e'⟩
    .cases e'
    .exact hd j j' r r' y y' g hne e e' h3 h4 h5 h6
 have s1:=hs.repl k ho J hk _ hO hsub
 have m1:Mv aw σ w F (aw.set k (.cl e c (cells.set i .hole))) σ w F:=.repl k ho J hk hsub
 obtain⟨flat,f1,f2,f3,f4⟩:=hc i _ x hi hx
 have hown:∀b,Bk (.arr e c rows) x b->Bk (.cl e c cells) (.tuple us.toArray) b:=λb hb=>by obtain⟨a,m,cc,rfl⟩:=f4;exact⟨us,J,i,rows,_,hi,hx,hb.slice_inv⟩
 refine⟨s1.take _ x ⟨flat,f1,⟨f2.1,f2.2.1,f2.2.2.mono (λi x hx=>d8 hx) (λ_ h=>h) (λ_ _=>J)⟩,f3,f4⟩ (λb hb hdf=>?_),.take s1 m1 _ x λb hb=>⟨k,_,_,ho,J,hk,hown b hb⟩⟩
 obtain⟨j,o1,v1,ho1,hl1,hv1,hb1⟩:=hdf
 rcases bV ho1 with⟨rfl,rfl,_⟩|⟨hne,h2⟩
 .rw[hk]at hv1;cases hv1
  obtain⟨us',e2,j,rows',y,g1,g2,g3⟩:=hb1
  have:=lX e2
  subst this
  rcases bV g1 with⟨_,e,_⟩|⟨hji,e⟩
  .cases e
  .obtain⟨a,m,cc,rfl⟩:=f4
   exact hd j i rows' rows y _ b hji e hi g2 hx g3 hb.slice_inv
 .exact hs.sep j k o1 _ v1 _ b hne h2 ho hl1 J hv1 hk hb1 (hown b hb)
theorem cl_fz (hs:Sim aw σ w F)(ho:aw[k]?=some (.cl e c cells))(hk:σ[k]?=some (.tuple us.toArray))(hx:us[i]?=some x)(hr:Rel σ w F (.sl rows) x):
  Sim (aw.set k (.cl e c (cells.set i (.fz rows)))) σ w F/\Mv aw σ w F (aw.set k (.cl e c (cells.set i (.fz rows)))) σ w F:=by
 obtain⟨us',e1,hl,hc,hd⟩:=hs.obj k _ _ ho hk
 have:=lX e1
 subst this
 have hsub:∀b,Bk (.cl e c (cells.set i (.fz rows))) (.tuple us.toArray) b->Bk (.cl e c cells) (.tuple us.toArray) b:=λb hb=>by
  obtain⟨us',e1,j,rows',y,h1,h2,h3⟩:=hb;rcases bV h1 with⟨_,h4,_⟩|⟨_,h4⟩
  .cases h4
  .exact⟨us',e1,j,rows',y,h4,h2,h3⟩
 refine⟨hs.repl k ho J hk _ ⟨us,J,by grind,λj c' y h1 h2=>?_,λj j' r r' y y' g hne h1 h2 h3 h4 h5 h6=>?_⟩ hsub,.repl k ho J hk hsub⟩
 .rcases bV h1 with⟨rfl,h4,_⟩|⟨_,h4⟩
  .subst h4;rw[hx]at h2;cases h2;exact hr
  grind
 .rcases bV h1 with⟨_,e,_⟩|⟨_,e⟩
  .cases e
  .rcases bV h2 with⟨_,e',_⟩|⟨_,e'⟩
   all_goals grind
end
end
section
open Go.RowKit
def cel{α:Type}(en:α->List AV)(p:Bool×List α):Cell:=match p.1 with
 |true=>.fz (p.2.map en)
 |false=>.own (p.2.map en)
abbrev cL{α:Type}(en:α->List AV)(xs:List (Bool×List α)):List Cell:=xs.map (cel en)
section
variable {P:Program} {N n:Nat} {aw aw':List Ob} {l:List (Nat×AV)} {σ:List Value} {w:World} {F:Nat→Prop}
variable {d:Option Tmp} {ty:TypeId} {ps:String} {af:Array Edge} {g:Option (Nat×Bool)} {K2:AV→List Ob→Prop} {α:Type} {en:α→List AV}
variable {k e c t m:Nat}{cells:U Cell}{x:Operand}{xs:U (Bool×U α)}{p:Bool×U α}
theorem DL {β:Type}{l:U β}{a:β}(h:l[k]?=some a):l.set k a=l:=by grind[List.set_getElem_self]
theorem tK (hs:Sim aw σ w F){us:U Value}(ho:aw[k]?=some (.cl e c cells))(hk:σ[k]?=some (.tuple us.toArray)):us.length=cells.length:=by obtain⟨us',e1,h,_⟩:=hs.obj k _ _ ho hk;grind
theorem JC {e2 id:Nat}{y:Operand}{kk:IntKind}{i:Int}(hS:SliceOf P t e 1)(hx:evA n l x=.ref id)(hy:evA n l y=.int kk i)(ho:aw[id]?=some (.hd e k))(hc:aw[k]?=some (.cl e2 c cells))(hm:ixN cells i=some m)(h:K2 (.aptr id 1 m 0) aw):
  OP P N ⟨d,.indexAddr t x y,ty,ps,af,g⟩ (mkA n l) aw K2:=
 SC (λσ w F a har hs=>by
  have ex:=har.ev x;rw[aG,hx]at ex;generalize hvx:a.eval x=vx at ex;cases ex with
  |ref _ A q cp hσ=>
   obtain⟨us,h1,h2,s1,m1⟩:=qj hs ho hσ;have hlen:=tK hs hc h1;have hid:id<aw.length:=(QD.1 ho).1;have ho1:(aw.set id (.arr e 1 (us.map λu=>[.cst u])))[id]?=some (.arr e 1 (us.map λu=>[.cst u])):=by grind
   have hi:0<=i/\i<cells.length/\m=i.toNat:=by grind[ixN]
   have hq:=BG (K:=λr=>r=.aptr id 1 m 0) hS hx hy ho1 J hi.1 (by grind) (by rw[hi.2.2]);obtain⟨v,r,hrun,hrel,rfl⟩:=wL har s1 (⟨d,.indexAddr t x y,ty,ps,af,g⟩:Oper) hq;exact⟨v,_,w,aw,σ,F,_,hrun w (λ_ _=>J),.inl J,hs,.refl ..,hrel,h⟩)
theorem KA {e2 id:Nat}{cl:Cell}(hk:de P t=some false)(hx:evA n l x=.aptr id 1 m 0)(ho:aw[id]?=some (.hd e k))(hc:aw[k]?=some (.cl e2 c cells))(hm:cells[m]?=some cl)(hh:∀rows,cl=.own rows∨cl=.fz rows->True)(hn:cl≠.hole)(h:K2 (.iref k m) aw):
    OP P N ⟨d,.load t x,ty,ps,af,g⟩ (mkA n l) aw K2:=
  SC (fun σ w F a har hs=>by
    have ex:=har.ev x;rw[aG,hx]at ex;generalize hvx:a.eval x=vx at ex;cases ex with
    | aptr _ _ _ _ gb q cp hσ=>
      obtain⟨us,h1,h2,s1,m1⟩:=qj hs ho hσ;have hlen:=tK hs hc h1;have hml:=(QD.1 hm).1;have hid:id<aw.length:=(QD.1 ho).1;have ho1:(aw.set id (.arr e 1 (us.map λu=>[.cst u])))[id]?=some (.arr e 1 (us.map λu=>[.cst u])):=by grind
      have hum:us[m]?=some us[m]:=QC (by omega);have hv:vcE P (mkA n l) (aw.set id (.arr e 1 (us.map λu=>[.cst u]))) (.load t x) (λr _=>r=.cst us[m]):=by show(match ev (mkA n l) x with| .aptr id size i off=>(match(aw.set _ _)[id]? with|some (.arr _ size' rows)=>size'=size/\i<rows.length/\∀row,rows[i]?=some row->cu P t row off λr=>_|_=>False)|_=>False);simp_all[aG,cu]
      obtain⟨v,r,hrun,hrel,rfl⟩:=Ez har s1 hv ⟨d,.load t x,ty,ps,af,g⟩ J;generalize hum2:us[m]=u at hrel hum;cases hrel with
      | cst =>
        obtain⟨us',e1,_,hcr,_⟩:=hs.obj k _ _ hc h1;have:=lX e1;subst this;have hcm:=hcr m _ v hm hum;have hsl:∃A q cp,v=.slice A q cp:=by
          cases cl with
          |own rows=>exact hcm.choose_spec.2.2.2
          | fz rows=>
            have:Rel σ w F (.sl rows) v:=hcm;cases this with
            |slNil=>simp
            |sl=>simp
          |hole=>grind
        obtain⟨A,q',cp',rfl⟩:=hsl;exact⟨_,_,w,aw,σ,F,_,hrun,.inl J,hs,.refl ..,.iref k m A q' cp' _ h1 (by grind),h⟩)
theorem yi (hs:Sim aw σ w F)(hc:aw[k]?=some (.cl e c cells)){rows:U (U AV)}(hm:cells[m]?=some (.own rows)∨cells[m]?=some (.fz rows)){v:Value}(hr:Rel σ w F (.iref k m) v):∃A cp us,v=.slice A rows.length cp/\σ[k]?=some (.tuple us)/\us.toList[m]?=some v:=by
 cases hr with
 | iref _ _ A q cp vs h1 h2=>
  obtain⟨us',e1,_,hcr,_⟩:=hs.obj k _ _ hc h1;have e2:vs=us'.toArray:=by injection e1
  subst e2;have h3:us'[m]?=some (.slice A q cp):=by grind
  have hq:q=rows.length:=by
   rcases hm with hm|hm
   .obtain⟨flat,g1,_⟩:=hcr m _ _ hm h3;rcases g1.2 with⟨e3,e4⟩|⟨gg,cap,cur,e3,_⟩
    all_goals grind
   .have:=hcr m _ _ hm h3;have:Rel σ w F (.sl rows) (.slice A q cp):=this;cases this with
    |slNil=>rfl
    |sl=>rfl
  grind
theorem Jg {e2:Nat}(hS:SliceOf P t e2 c)(hx:evA n l x=.iref k m)(hc:aw[k]?=some (.cl e c (cL en xs)))(hm:xs[m]?=some p)(h:K2 (.int .i64 p.2.length) aw):
  OP P N ⟨d,.call ⟨.builtin .len,#[x],#[t]⟩,ty,ps,af,g⟩ (mkA n l) aw K2:=
 SC (λσ w F a har hs=>by
  have ex:=har.ev x;rw[aG,hx]at ex;generalize hvx:a.eval x=vx at ex;have hcm:(cL en xs)[m]?=some (.own (p.2.map en))∨(cL en xs)[m]?=some (.fz (p.2.map en)):=by
   rw[QW,hm];obtain⟨b,q⟩:=p;cases b
   .exact .inl J
   .exact .inr J
  obtain⟨A,cp,us,rfl,_⟩:=yi hs hc hcm ex;refine⟨.int .i64 p.2.length,_,w,aw,σ,F,_,?_,.inl J,hs,.refl ..,.int _ _,h⟩;simp[execOp,resolve,invoke,builtin,Sem.run_bind,hvx,Builtin.len_,run_underlying hS.u,goInt])
theorem Mn {st:St}{a:Act}(hcur:Cur st (mkA n l) aw σ w F a)(hx:evA n l (.tmp t)=.iref k m)(hc:aw[k]?=some (.cl e c (cL en xs)))(hm:xs[m]?=some p):
  ∃σ' F',Cur st (mkA n ((t,.sl (p.2.map en))::l)) (aw.set k (.cl e c (cL en (xs.set m (true,p.2))))++[.dead]) σ' w F' a:=by
 have hs:=hcur.sim
 have ex:=hcur.fr.ev (.tmp t)
 rw[aG,hx]at ex
 generalize hvx:a.eval (.tmp t)=vx at ex
 obtain⟨b,q⟩:=p
 have hml:=(QD.1 hm).1
 have hcell:(cL en xs)[m]?=some (cel en (b,q)):=by grind
 have hcm:(cL en xs)[m]?=some (.own (q.map en))∨(cL en xs)[m]?=some (.fz (q.map en)):=by
  rw[hcell];cases b
  .exact .inl J
  .exact .inr J
 obtain⟨A,cp,vs,rfl,h1,h2⟩:=yi hs hc hcm ex
 have hk1:σ[k]?=some (.tuple vs.toList.toArray):=by omega
 have hkl:k<aw.length:=(QD.1 hc).1
 have hset:cL en (xs.set m (true,q))=(cL en xs).set m (.fz (q.map en)):=by rw[cL,List.map_set];rfl
 cases b with
 |true=>
  obtain⟨us',e1,_,hcr,_⟩:=hs.obj k _ _ hc hk1
  have:=lX e1
  subst this
  have hr:Rel σ w F (.sl (q.map en)) (.slice A (q.map en).length cp):=hcr m _ _ hcell h2
  have e:aw.set k (.cl e c (cL en (xs.set m (true,q))))=aw:=by rw[hset];have:(cL en xs).set m (.fz (q.map en))=cL en xs:=DL hcell;grind[DL]
  rw[e]
  refine⟨σ++[undef],F,⟨hs.take .dead undef trivial (λb hb=>hb.elim),?_,hcur.mv.trans (.take hs (.refl ..) .dead undef (λb hb=>hb.elim)),hcur.ds⟩⟩
  have hmv:Mv aw σ w F (aw++[.dead]) (σ++[undef]) w F:=.take hs (.refl ..) .dead undef (λb hb=>hb.elim)
  exact lV (hmv.aRel hs hcur.fr) hvx (hmv.rel hs hr)
 |false=>
  obtain⟨s1,m1⟩:=FT hs hc hk1 (show(cL en xs)[m]?=some (.own (q.map en)) by assumption) h2
  have hlen:σ.length=aw.length:=hs.len
  have ho1:(aw.set k (.cl e c ((cL en xs).set m .hole))++[.arr e c (q.map en)])[aw.length]?=some (.arr e c (q.map en)):=by simp
  have hσ1:(σ++[Value.slice A (q.map en).length cp])[aw.length]?=some (.slice A (q.map en).length cp):=by grind
  have s2:=s1.drop aw.length ho1 J hσ1
  have m2:=Mv.drop (w:=w) (F:=F) aw.length ho1 J hσ1
  have hr:Rel (σ++[Value.slice A (q.map en).length cp]) w (λb=>F b∨Bk (Ob.arr e c (q.map en)) (.slice A (q.map en).length cp) b) (.sl (q.map en)) (.slice A (q.map en).length cp):=zc (λ_ h=>.inl h) s1 ho1 hσ1 (λb hb=>.inr hb)
  have e2:(aw.set k (Ob.cl e c ((cL en xs).set m .hole))++[Ob.arr e c (q.map en)]).set aw.length .dead=aw.set k (.cl e c ((cL en xs).set m .hole))++[.dead]:=by simp
  rw[e2]at s2 m2
  have ho3:(aw.set k (.cl e c ((cL en xs).set m .hole))++[.dead])[k]?=some (.cl e c ((cL en xs).set m .hole)):=by grind
  have hk3:(σ++[Value.slice A (q.map en).length cp])[k]?=some (.tuple vs.toList.toArray):=d8 hk1
  obtain⟨s3,m3⟩:=cl_fz (i:=m) s2 ho3 hk3 h2 hr
  have e3:(aw.set k (Ob.cl e c ((cL en xs).set m .hole))++[Ob.dead]).set k (.cl e c (((cL en xs).set m .hole).set m (.fz (q.map en))))=aw.set k (.cl e c (cL en (xs.set m (true,q))))++[.dead]:=by simp_all
  rw[e3]at s3 m3
  have hmv:=(m1.trans m2).trans m3
  exact⟨_,_,s3,lV (hmv.aRel hs hcur.fr) hvx hr,hcur.mv.trans hmv,hcur.ds⟩
theorem US {ops:Array Oper}{kk:Nat}{li:Array Bool}{K:U AV->U Ob->Prop}(t k m:Nat)(hx:evA n l (.tmp t)=.iref k m)(hc:aw[k]?=some (.cl e c (cL en xs)))(hm:xs[m]?=some p)(ha:aw.set k (.cl e c (cL en (xs.set m (true,p.2))))++[.dead]=aw')(h:RA P N ops kk li K (mkA n ((t,.sl (p.2.map en))::l)) aw'):RA P N ops kk li K (mkA n l) aw:=
 ⟨λst h1 h2 σ w F a hcur=>by subst ha;obtain⟨σ',F',hc'⟩:=Mn hcur hx hc hm;exact h.out st h1 h2 σ' w F' a hc'⟩
end
end
section
open Go.RowKit
section
variable {P:Program} {N n:Nat} {aw aw':List Ob} {l:List (Nat×AV)} {σ:List Value} {w:World} {F:Nat→Prop}
variable {d:Option Tmp} {ty:TypeId} {ps:String} {af:Array Edge} {g:Option (Nat×Bool)} {K2:AV→List Ob→Prop} {α:Type} {en:α→List AV}
def cR(us:List Value):List (List AV):=us.map λu=>[.cst u]
variable {us:U Value}{e k c q m:Nat}{cells:U Cell}{rows:U (U AV)}{x:Value}
theorem EX {flat:U Value}(h:FlatRel σ w F 1 (cR us) flat):flat=us:=by
 obtain⟨e1,e2⟩:=Eh h;have hl:flat.length=us.length:=by rw[e1];simp[cR]
 refine List.ext_getElem hl λi h1 h2=>?_
 obtain⟨a,b1,b2⟩:=e2 i [.cst us[i]] flat[i] (by simp[cR]) (QC h1);injection b1 with b3
 subst b3;generalize hv:flat[i]=v at b2;generalize us[i]=u at b2;cases b2;rfl
theorem σ_of (hs:Sim aw σ w F){id:Nat}{o:Ob}(ho:aw[id]?=some o):∃v,σ[id]?=some v:=by have:=(QD.1 ho).1;exact⟨_,QC (by rw[hs.len];exact this)⟩
theorem wx (hs:Sim aw σ w F){id:Nat}(hk:σ[k]?=some (.tuple us.toArray))(ho:aw[id]?=some (.arr e 1 (cR us))):Sim (aw.set id (.hd e k)) σ w F/\Mv aw σ w F (aw.set id (.hd e k)) σ w F:=by grind[σ_of,hd_of,EX]
theorem tE {aw1:U Ob}(s1:Sim aw1 σ w F)(m1:Mv aw σ w F aw1 σ w F)(hs:Sim aw σ w F)(D:Nat->Prop)(hD:∀b,Dof aw1 σ b->∃j o v,¬D j/\aw[j]?=some o/\o.live=true/\σ[j]?=some v/\Bk o v b)(hl:us.length=cells.length)(hc:∀(i:Nat) cl x,cells[i]?=some cl->us[i]?=some x->CellRel σ w F e c cl x)(hb:∀(i:Nat) rows x b,cells[i]?=some (.own rows)->us[i]?=some x->x.ownBlock=some b->∃j o v,D j/\aw[j]?=some o/\o.live=true/\σ[j]?=some v/\Bk o v b)(hd:∀(i j:Nat) rows rows' x y g,i≠j->cells[i]?=some (.own rows)->cells[j]?=some (.own rows')->us[i]?=some x->us[j]?=some y->x.ownBlock=some g->y.ownBlock=some g->False):
  Sim (aw1++[.cl e c cells]) (σ++[.tuple us.toArray]) w F/\Mv aw σ w F (aw1++[.cl e c cells]) (σ++[.tuple us.toArray]) w F:=by
 have key:∀b,Bk (.cl e c cells) (.tuple us.toArray) b->∃j o v,D j/\aw[j]?=some o/\o.live=true/\σ[j]?=some v/\Bk o v b:=λb h=>by obtain⟨us',e1,i,rows,x,h2,h3,h4⟩:=h;grind
 refine⟨s1.take _ _ ⟨us,J,hl,λi cl x h1 h2=>IJ (hc i cl x h1 h2),hd⟩ (λb h hdf=>?_),.take s1 m1 _ _ λb h=>?_⟩
 .obtain⟨j,o,v,d1,d2,d3,d4,d5⟩:=key b h
  obtain⟨j',o',v',e1,e2,e3,e4,e5⟩:=hD b hdf
  exact hs.sep j j' o o' v v' b (λe=>e1 (e▸d1)) d2 e2 d3 e3 d4 e4 d5 e5
 .obtain⟨j,o,v,_,d2,d3,d4,d5⟩:=key b h
  exact⟨j,o,v,d2,d3,d4,d5⟩
theorem dof2 {b:Nat}(h:Dof ((aw.set k .dead).set q .dead) σ b):∃j o v,¬(j=k∨j=q)/\aw[j]?=some o/\o.live=true/\σ[j]?=some v/\Bk o v b:=by obtain⟨j,o,v,h1,h2,h3,h4⟩:=h;grind[Ob.live]
theorem Do (hs:Sim aw σ w F)(hq:aw[q]?=some (.arr e c rows))(hx:σ[q]?=some x):CellRel σ w F e c (.own rows) x/\∀b,x.ownBlock=some b->Bk (.arr e c rows) x b:=by have h:=hs.obj q _ x hq hx;obtain⟨flat,h1,h2,h3,a,m,cc,rfl⟩:=h;exact⟨⟨flat,h1,h2,h3,a,m,cc,J⟩,λb hb=>.slice hb⟩
theorem te (hs:Sim aw σ w F)(ho:aw[k]?=some (.cl e c cells))(hk:σ[k]?=some (.tuple us.toArray)):
  us.length=cells.length/\(∀(i:Nat) cl x,cells[i]?=some cl->us[i]?=some x->CellRel σ w F e c cl x) /\
  (∀(i j:Nat) rows rows' x y g,i≠j->cells[i]?=some (.own rows)->cells[j]?=some (.own rows')->us[i]?=some x->us[j]?=some y->x.ownBlock=some g->y.ownBlock=some g->False) /\
  (∀(i:Nat) rows x b,cells[i]?=some (.own rows)->us[i]?=some x->x.ownBlock=some b->Bk (.cl e c cells) (.tuple us.toArray) b):=by
 obtain⟨us',e1,h1,h2,h3⟩:=hs.obj k _ _ ho hk
 have:=lX e1
 subst this
 exact⟨h1,h2,h3,λi rows x b a1 a2 a3=>⟨us,J,i,rows,x,a1,a2,a3⟩⟩
theorem Og (hs:Sim aw σ w F)(ho:aw[k]?=some (.cl e c cells))(hk:σ[k]?=some (.tuple us.toArray))(hq:aw[q]?=some (.arr e c rows))(hx:σ[q]?=some x):
  Sim ((aw.set k .dead).set q .dead++[.cl e c (cells.set m (.own rows))]) (σ++[.tuple (us.set m x).toArray]) w F/\Mv aw σ w F ((aw.set k .dead).set q .dead++[.cl e c (cells.set m (.own rows))]) (σ++[.tuple (us.set m x).toArray]) w F:=by
 obtain⟨hl,hc,hd,hb⟩:=te hs ho hk
 obtain⟨qc,qb⟩:=Do hs hq hx
 have hkq:k≠q:=by grind
 refine tE ((hs.lose k).lose q) ((Mv.lose k).trans (Mv.lose q)) hs (λj=>j=k∨j=q) (λb h=>dof2 h) (by grind) (λi cl y h1 h2=>?_) (λi r y b h1 h2 h3=>?_) (λi j r r' y y' g hne h1 h2 h3 h4 h5 h6=>?_)
 .grind
 .rcases bV h1 with⟨rfl,e1,_⟩|⟨hi,h4⟩
  .rcases bV h2 with⟨_,rfl,_⟩|⟨hj,_⟩
   .exact⟨q,_,_,.inr J,hq,J,hx,qb b h3⟩
   omega
  .rcases bV h2 with⟨rfl,_,_⟩|⟨_,h5⟩
   .omega
   .exact⟨k,_,_,.inl J,ho,J,hk,hb i r y b h4 h5 h3⟩
 .rcases bV h1 with⟨rfl,e1,_⟩|⟨hi,a1⟩
  .rcases bV h2 with⟨rfl,_,_⟩|⟨hj,a2⟩
   .exact hne J
   .rcases bV h3 with⟨_,rfl,_⟩|⟨hh,_⟩
    .rcases bV h4 with⟨rfl,_,_⟩|⟨_,b4⟩
     .exact hj J
     .exact hs.sep q k _ _ _ _ g (Ne.symm hkq) hq ho J J hx hk (qb g h5) (hb j r' y' g a2 b4 h6)
    omega
  .rcases bV h3 with⟨rfl,_,_⟩|⟨_,b3⟩
   .omega
   rcases bV h2 with⟨rfl,e2,_⟩|⟨hj,a2⟩
   .rcases bV h4 with⟨_,rfl,_⟩|⟨hh,_⟩
    .exact hs.sep k q _ _ _ _ g hkq ho hq J J hk hx (hb i r y g a1 b3 h5) (qb g h6)
    omega
   .rcases bV h4 with⟨rfl,_,_⟩|⟨_,b4⟩
    all_goals grind
theorem Lc (hs:Sim aw σ w F)(ho:aw[k]?=some (.cl e c cells))(hk:σ[k]?=some (.tuple us.toArray))(hx:Rel σ w F (.sl rows) x):
  Sim ((aw.set k .dead).set k .dead++[.cl e c (cells.set m (.fz rows))]) (σ++[.tuple (us.set m x).toArray]) w F/\Mv aw σ w F ((aw.set k .dead).set k .dead++[.cl e c (cells.set m (.fz rows))]) (σ++[.tuple (us.set m x).toArray]) w F:=by
 obtain⟨hl,hc,hd,hb⟩:=te hs ho hk
 have un:∀(i:Nat) r y,(cells.set m (.fz rows))[i]?=some (.own r)->(us.set m x)[i]?=some y->cells[i]?=some (.own r)/\us[i]?=some y:=λi r y h1 h2=>by grind
 refine tE ((hs.lose k).lose k) ((Mv.lose k).trans (Mv.lose k)) hs (λj=>j=k∨j=k) (λb h=>dof2 h) (by grind) (λi cl y h1 h2=>?_) (λi r y b h1 h2 h3=>?_) (λi j r r' y y' g hne h1 h2 h3 h4 h5 h6=>?_)
 .rcases bV h1 with⟨rfl,rfl,_⟩|⟨hi,h3⟩
  .rcases bV h2 with⟨_,rfl,_⟩|⟨hj,_⟩
   .exact hx
   omega
  grind
 .obtain⟨a1,a2⟩:=un i r y h1 h2
  exact⟨k,_,_,.inl J,ho,J,hk,hb i r y b a1 a2 h3⟩
 grind
theorem NJ (hs:Sim aw σ w F){cells2:U Cell}{us2:U Value}(hkq:k≠q)(ho:aw[k]?=some (.cl e c cells))(hk:σ[k]?=some (.tuple us.toArray))(ho2:aw[q]?=some (.cl e c cells2))(hk2:σ[q]?=some (.tuple us2.toArray)):
  Sim ((aw.set k .dead).set q .dead++[.cl e c (cells++cells2)]) (σ++[.tuple (us++us2).toArray]) w F/\Mv aw σ w F ((aw.set k .dead).set q .dead++[.cl e c (cells++cells2)]) (σ++[.tuple (us++us2).toArray]) w F:=by
 obtain⟨hl,hc,hd,hb⟩:=te hs ho hk
 obtain⟨hl2,hc2,hd2,hb2⟩:=te hs ho2 hk2
 have un:∀(i:Nat) cl x,(cells++cells2)[i]?=some cl->(us++us2)[i]?=some x->(i<us.length/\cells[i]?=some cl/\us[i]?=some x)∨(¬i<us.length/\cells2[i- us.length]?=some cl/\us2[i- us.length]?=some x):=λi cl x h1 h2=>by grind
 refine tE ((hs.lose k).lose q) ((Mv.lose k).trans (Mv.lose q)) hs (λj=>j=k∨j=q) (λb h=>dof2 h) (by grind) (λi cl y h1 h2=>?_) (λi r y b h1 h2 h3=>?_) (λi j r r' y y' g hne h1 h2 h3 h4 h5 h6=>?_)
 .grind
 .rcases un i _ y h1 h2 with⟨_,a1,a2⟩|⟨_,a1,a2⟩
  .exact⟨k,_,_,.inl J,ho,J,hk,hb i r y b a1 a2 h3⟩
  .exact⟨q,_,_,.inr J,ho2,J,hk2,hb2 _ r y b a1 a2 h3⟩
 .rcases un i _ y h1 h3 with⟨hi,a1,a3⟩|⟨hi,a1,a3⟩
  .rcases un j _ y' h2 h4 with⟨hj,a2,a4⟩|⟨hj,a2,a4⟩
   .grind
   .exact hs.sep k q _ _ _ _ g hkq ho ho2 J J hk hk2 (hb i r y g a1 a3 h5) (hb2 _ r' y' g a2 a4 h6)
  .rcases un j _ y' h2 h4 with⟨hj,a2,a4⟩|⟨hj,a2,a4⟩
   .exact hs.sep q k _ _ _ _ g (Ne.symm hkq) ho2 ho J J hk2 hk (hb2 _ r y g a1 a3 h5) (hb j r' y' g a2 a4 h6)
   grind
theorem NQ (hs:Sim aw σ w F)(hq:aw[q]?=some (.arr e c rows))(hx:σ[q]?=some x):
  Sim ((aw.set q .dead).set q .dead++[.cl e c [.own rows]]) (σ++[.tuple [x].toArray]) w F/\Mv aw σ w F ((aw.set q .dead).set q .dead++[.cl e c [.own rows]]) (σ++[.tuple [x].toArray]) w F:=by
 obtain⟨qc,qb⟩:=Do hs hq hx
 refine tE ((hs.lose q).lose q) ((Mv.lose q).trans (Mv.lose q)) hs (λj=>j=q∨j=q) (λb h=>dof2 h) J (λi cl y h1 h2=>?_) (λi r y b h1 h2 h3=>?_) (λi j r r' y y' g hne h1 h2 h3 h4 h5 h6=>?_)
 .grind
 .cases i with
  |zero=>simp at h1 h2;subst h1;subst h2;exact⟨q,_,_,.inl J,hq,J,hx,qb b h3⟩
  |succ i=>simp at h1
 grind
theorem N4 (hs:Sim aw σ w F)(e c m:Nat):
  Sim (aw++[.cl e c (List.replicate m (.own []))]) (σ++[.tuple (List.replicate m (Value.slice none 0 0)).toArray]) w F/\Mv aw σ w F (aw++[.cl e c (List.replicate m (.own []))]) (σ++[.tuple (List.replicate m (Value.slice none 0 0)).toArray]) w F:=by
 have rep:∀{β:Type} (i:Nat) (a b:β),(List.replicate m a)[i]?=some b->b=a:=λi a b h=>by grind
 refine tE hs (.refl ..) hs (λ_=>False) (λb h=>by obtain⟨j,o,v,h⟩:=h;grind) (by simp) (λi cl y h1 h2=>?_) (λi r y b h1 h2 h3=>?_) (λi j r r' y y' g hne h1 h2 h3 h4 h5 h6=>?_)
 .rw[rep i _ _ h1,rep i _ _ h2]
  exact⟨[],⟨by simp,.inl ⟨J,J⟩⟩,⟨λrow h=>by simp at h,λu h=>by simp at h,.nil⟩,λg h=>by grind[Value.ownBlock],_,_,_,J⟩
 all_goals (grind[Value.ownBlock])
end
end
section
section
variable {α:Type}
def atc(xs:List (Bool×List α))(m:Nat):Option (List α):=(xs[m]?).map (·.2)
def owc(xs:List (Bool×List α))(m:Nat):Option (List α):=match xs[m]? with|some (false,r)=>some r|_=>none
def fzd(xs:List (Bool×List α))(m:Nat)(r:List α):List (Bool×List α):=xs.set m (true,r)
def own(xs:List (Bool×List α))(m:Nat)(r:List α):List (Bool×List α):=xs.set m (false,r)
variable {xs:U (Bool×U α)}{m:Nat}{r:U α}
theorem yn (h:atc xs m=some r):∃b,xs[m]?=some (b,r):=by grind[atc]
theorem KU (h:owc xs m=some r):xs[m]?=some (false,r):=by grind[owc]
theorem zk (h:atc xs m=some r):m<xs.length:=by grind[yn]
theorem ixf {i:Int}{k:Nat}(h:ixN xs i=some m):ixN (fzd xs k r) i=some m:=by grind[ixN,fzd]
theorem atf {j:Nat}{q:U α}(h:atc xs j=some q)(hr:atc xs m=some r):atc (fzd xs m r) j=some q:=by unfold atc fzd at *;grind
end
end
section
open Go.RowKit
section
variable {P:Program} {N n:Nat} {aw aw':List Ob} {l:List (Nat×AV)} {σ:List Value} {w:World} {F:Nat→Prop}
variable {d:Option Tmp} {ty:TypeId} {ps:String} {af:Array Edge} {g:Option (Nat×Bool)} {K2:AV→List Ob→Prop} {α:Type} {en:α→List AV}
abbrev cH(en:α->List AV)(xs:List (Bool×List α))(m:Nat):List Cell:=(cL en xs).set m .hole
variable {xs xs0:U (Bool×U α)}{m t e c k y q kn:Nat}{r:U α}{i:Int}{x:Operand}{cells cells':U Cell}{a:Act}{ops:Array Oper}{K:U AV->U Ob->Prop}{A:Ob}{rows:U (U AV)}{code:Code}{Q:Exit->U AV->U Ob->Prop}{fr:U AV}
theorem cY:(cL en xs).length=xs.length:=by simp[cL]
theorem cl_lh:(cH en xs m).length=xs.length:=by simp[cH,cL]
theorem cl_s:(cL en xs).set m (.own (r.map en))=cL en (own xs m r):=by unfold own;rw[cL,cL,List.map_set];rfl
theorem cl_sh:(cH en xs m).set m (.own (r.map en))=cL en (own xs m r):=by simp[cl_s]
theorem cl_f:(cL en xs).set m (.fz (r.map en))=cL en (fzd xs m r):=by unfold fzd;rw[cL,cL,List.map_set];rfl
theorem Me {β γ:Type}{xs:U β}{ys:U γ}(hl:ys.length=xs.length)(h:ixN xs i=some m):ixN ys i=some m:=by grind[ixN]
theorem cV {e2 id:Nat}{y:Operand}{kk:IntKind}(hS:SliceOf P t e 1)(hx:evA n l x=.ref id)(hy:evA n l y=.int kk i)(ho:aw[id]?=some (.hd e k))(hc:aw[k]?=some (.cl e2 c cells))(hl:cells.length=xs.length)(hm:ixN xs i=some m)(h:K2 (.aptr id 1 m 0) aw):
 OP P N ⟨d,.indexAddr t x y,ty,ps,af,g⟩ (mkA n l) aw K2:=JC hS hx hy ho hc (Me hl hm) h
theorem di {e2 id:Nat}(hk:de P t=some false)(hx:evA n l x=.aptr id 1 m 0)(ho:aw[id]?=some (.hd e k))(hc:aw[k]?=some (.cl e2 c (cL en xs)))(hm:atc xs m=some r)(h:K2 (.iref k m) aw):
  OP P N ⟨d,.load t x,ty,ps,af,g⟩ (mkA n l) aw K2:=by
 have hlt:=zk hm
 have h1:(cL en xs)[m]?=some (cel en xs[m]):=by grind
 exact KA hk hx ho hc h1 (λ_ _=>trivial) (by grind[cel]) h
theorem yU {e2:Nat}(hS:SliceOf P t e2 c)(hx:evA n l x=.iref k m)(hc:aw[k]?=some (.cl e c (cL en xs)))(hm:atc xs m=some r)(h:K2 (.int .i64 r.length) aw):
  OP P N ⟨d,.call ⟨.builtin .len,#[x],#[t]⟩,ty,ps,af,g⟩ (mkA n l) aw K2:=by
 grind[yn,Jg]
theorem LT {st:St}(hcur:Cur st (mkA n l) aw σ w F a)(hx:evA n l (.tmp t)=.iref k m)(hc:aw[k]?=some (.cl e c (cL en xs)))(hm:owc xs m=some r):
  ∃σ' F',Cur st (mkA n ((t,.ref aw.length)::l)) (aw.set k (.cl e c (cH en xs m))++[.arr e c (r.map en)]) σ' w F' a:=by
 have hs:=hcur.sim
 have ex:=hcur.fr.ev (.tmp t)
 rw[aG,hx]at ex
 generalize hvx:a.eval (.tmp t)=vx at ex
 have hcell:(cL en xs)[m]?=some (.own (r.map en)):=by rw[QW,KU hm];rfl
 obtain⟨A,cp,vs,rfl,h1,h2⟩:=yi hs hc (.inl hcell) ex
 have hk1:σ[k]?=some (.tuple vs.toList.toArray):=by omega
 obtain⟨s1,m1⟩:=FT hs hc hk1 hcell h2
 exact⟨_,_,s1,lV (m1.aRel hs hcur.fr) hvx (.ref aw.length A _ cp (by rw[<- hs.len];simp)),hcur.mv.trans m1,hcur.ds⟩
theorem TL {i:Nat}(t k m:Nat)(hx:evA n l (.tmp t)=.iref k m)(hc:aw[k]?=some (.cl e c (cL en xs)))(hm:owc xs m=some r)(hq:aw.length=q)(ha:aw.set k (.cl e c (cH en xs m))++[.arr e c (r.map en)]=aw')(h:RO P N ops i K (mkA n ((t,.ref q)::l)) aw'):RO P N ops i K (mkA n l) aw:=
 ⟨λst h1 h2 σ w F a hcur=>by subst ha hq;obtain⟨σ',F',hc'⟩:=LT hcur hx hc hm;exact h.out st h1 h2 σ' w F' a hc'⟩
theorem SR {kk:Nat}{li:Array Bool}(t k m:Nat)(hx:evA n l (.tmp t)=.iref k m)(hc:aw[k]?=some (.cl e c (cL en xs)))(hm:atc xs m=some r)(ha:aw.set k (.cl e c (cL en (fzd xs m r)))++[.dead]=aw')(h:RA P N ops kk li K (mkA n ((t,.sl (r.map en))::l)) aw'):RA P N ops kk li K (mkA n l) aw:=by obtain⟨b,hb⟩:=yn hm;exact US t k m hx hc hb ha h
theorem Fh {aw:U Ob}{id:Nat}{B C z h:Ob}(hid:id<aw.length)(h1:id≠k)(h2:id≠q):(((aw.set id A).set k B).set q C++[z]).set id h=((aw.set id h).set k B).set q C++[z]:=by simp_all[List.set_comm,Ne.symm]
theorem NP {us:U Value}{u:Value}:(cR us).set m [.cst u]=cR (us.set m u):=by simp[cR]
theorem Dm {e2 id ty:Nat}{v:Value}(hs:Sim aw σ w F)(har:ARel σ w F (mkA n ((ty,.cst v)::l)) a)(hv:v.oneCell'=true)(ht:P.cellsOf t=1)(hu:(P.underlying t).isSome=true)(hx:evA n ((ty,.cst v)::l) x=.aptr id 1 m 0)(hy:evA n ((ty,.cst v)::l) (.tmp ty)=.cst v)(ho:aw[id]?=some (.hd e k))(hc:aw[k]?=some (.cl e2 c cells))(hm:m<cells.length)(o:Oper)(hop:o.op=.store t x (.tmp ty)):
  ∃(us:U Value) (w':World) (σ':U Value) (F':Nat->Prop) (nx:_) (vv:Value),σ[k]?=some (.tuple us.toArray)/\(execOp a.eval o).run P w=.ok nx w'/\(nx=.value vv∨(nx=.skip/\vv=undef))/\Sim (aw.set id (.arr e 1 (cR (us.set m v)))) σ' w' F'/\Mv aw σ w F (aw.set id (.arr e 1 (cR (us.set m v)))) σ' w' F':=by
 have ex:=har.ev x
 rw[aG,hx]at ex
 generalize hvx:a.eval x=vx at ex
 cases ex with
 | aptr _ _ _ _ gb q cp hσ=>
  obtain⟨us,h1,h2,s1,m1⟩:=qj hs ho hσ
  have hlen:=tK hs hc h1
  have hid:id<aw.length:=(QD.1 ho).1
  have ho1:(aw.set id (.arr e 1 (us.map λu=>[.cst u])))[id]?=some (.arr e 1 (us.map λu=>[.cst u])):=by grind
  have hcv:(AV.cst v).cells=some [.cst v]:=by show(if v.oneCell'=true then some [AV.cst v]else none)=_;grind
  have hvc:vcE P (mkA n ((ty,.cst v)::l)) (aw.set id (.arr e 1 (us.map λu=>[.cst u]))) (.store t x (.tmp ty)) (λr aw2=>aw2=aw.set id (.arr e 1 (cR (us.set m v)))):=by
   simp only[vcE,aG,hx,hy,hcv,ho1];refine⟨hu,trivial,by rw[ht];rfl,by grind,QJ _,λrow hrow=>?_⟩;rw[QW]at hrow;cases hum:us[m]? with
   |none=>grind
   |some u=>
    rw[hum]at hrow;cases hrow;rw[List.set_set];show aw.set id (.arr e 1 ((cR us).set m [.cst v]))=_;rw[NP]
  obtain⟨vv,nx,w',aw2,σ',F',r,hrun,hn,s2,m2,_,rfl⟩:=EQ har s1 hvc o hop
  exact⟨us,w',σ',F',nx,vv,h1,hrun,hn,s2,m1.trans m2⟩
theorem vJ {aw:U Ob}{id:Nat}{o:Ob}(h:aw[k]?=some o)(hne:id≠k):(aw.set id A)[k]?=some o:=by grind
theorem Nn {e2 id:Nat}(ht:P.cellsOf t=1)(hu:(P.underlying t).isSome=true)(hx:∀v,evA n ((y,.cst v)::l) x=.aptr id 1 m 0)(hyv:∀v,evA n ((y,.cst v)::l) (.tmp y)=.cst v)(hy:evA n l (.tmp y)=.ref q)(ho:aw[id]?=some (.hd e k))(hc:aw[k]?=some (.cl e2 c cells))(hq:aw[q]?=some (.arr e2 c rows)){r0:U α}(hl0:cells.length=xs0.length)(hm0:atc xs0 m=some r0)(hset:cells.set m (.own rows)=cells')(hk:aw.length=kn)(ha:((aw.set id (.hd e kn)).set k .dead).set q .dead++[.cl e2 c cells']=aw')(h:K2 .any aw'):
  OP P N ⟨d,.store t x (.tmp y),ty,ps,af,g⟩ (mkA n l) aw K2:=
 SC (λσ w F a har hs=>by
  subst ha hk hset;have hm:m<cells.length:=by simp_all[zk]
  have ey:=har.ev (.tmp y);rw[aG,hy]at ey;generalize hvy:a.eval (.tmp y)=vy at ey;cases ey with
  |ref _ A qn cp hσq=>
   obtain⟨us,w',σ',F',nx,vv,h1,hrun,hn,s2,m2⟩:=Dm hs (lV har hvy (.cst _)) J ht hu (hx _) (hyv _) ho hc hm ⟨d,.store t x (.tmp y),ty,ps,af,g⟩ J;have hid:id<aw.length:=(QD.1 ho).1;have hik:id≠k:=by grind
   have hiq:id≠q:=by grind
   obtain⟨s3,m3⟩:=Og (m:=m) s2 (vJ hc hik) (m2.pre _ _ h1) (vJ hq hiq) (m2.pre _ _ hσq);have hlen:σ'.length=aw.length:=by rw[s2.len,Rw]
   obtain⟨s4,m4⟩:=wx (id:=id) (e:=e) (k:=aw.length) s3 (by rw[<- hlen];exact List.getElem?_concat_length) (by grind)
   rw[Fh hid hik hiq]at s4 m4;exact⟨vv,nx,w',_,_,F',.any,hrun,hn,s4,m2.trans (m3.trans m4),.any _,h⟩)
theorem LO {e2 id:Nat}(ht:P.cellsOf t=1)(hu:(P.underlying t).isSome=true)(hx:∀v,evA n ((y,.cst v)::l) x=.aptr id 1 m 0)(hyv:∀v,evA n ((y,.cst v)::l) (.tmp y)=.cst v)(hy:evA n l (.tmp y)=.sl rows)(ho:aw[id]?=some (.hd e k))(hc:aw[k]?=some (.cl e2 c cells)){r0:U α}(hl0:cells.length=xs0.length)(hm0:atc xs0 m=some r0)(hset:cells.set m (.fz rows)=cells')(hk:aw.length=kn)(ha:(aw.set id (.hd e kn)).set k .dead++[.cl e2 c cells']=aw')(h:K2 .any aw'):
  OP P N ⟨d,.store t x (.tmp y),ty,ps,af,g⟩ (mkA n l) aw K2:=
 SC (λσ w F a har hs=>by
  subst ha hk hset;have hm:m<cells.length:=by simp_all[zk]
  have ey:=har.ev (.tmp y);rw[aG,hy]at ey;generalize hvy:a.eval (.tmp y)=vy at ey;have hone:vy.oneCell'=true:=by cases ey<;>rfl
  obtain⟨us,w',σ',F',nx,vv,h1,hrun,hn,s2,m2⟩:=Dm hs (lV har hvy (.cst _)) hone ht hu (hx _) (hyv _) ho hc hm ⟨d,.store t x (.tmp y),ty,ps,af,g⟩ J;have hid:id<aw.length:=(QD.1 ho).1;have hik:id≠k:=by grind
  obtain⟨s3,m3⟩:=Lc (m:=m) s2 (vJ hc hik) (m2.pre _ _ h1) (m2.rel hs ey);have hlen:σ'.length=aw.length:=by rw[s2.len,Rw]
  obtain⟨s4,m4⟩:=wx (id:=id) (e:=e) (k:=aw.length) s3 (by rw[<- hlen];exact List.getElem?_concat_length) (by grind)
  rw[Fh hid hik hik]at s4 m4;simp only[List.set_set]at s4 m3 m4;exact⟨vv,nx,w',_,_,F',.any,hrun,hn,s4,m2.trans (m3.trans m4),.any _,h⟩)
theorem N3 (hs:Sim aw σ w F){id e2:Nat}(ho:aw[id]?=some (.arr e 1 (List.replicate m [.nils]))):
  Sim (aw.set id (.hd e aw.length)++[.cl e2 c (cL en (List.replicate m (false,([]:U α))))]) (σ++[.tuple (List.replicate m (Value.slice none 0 0)).toArray]) w F/\Mv aw σ w F (aw.set id (.hd e aw.length)++[.cl e2 c (cL en (List.replicate m (false,([]:U α))))]) (σ++[.tuple (List.replicate m (Value.slice none 0 0)).toArray]) w F:=by
 have hid:id<aw.length:=(QD.1 ho).1
 have e1:cL en (List.replicate m (false,([]:U α)))=List.replicate m (.own []):=by rw[cL,List.map_replicate];rfl
 rw[e1]
 obtain⟨s1,m1⟩:=N4 hs e2 c m
 obtain⟨v,hv⟩:=σ_of hs ho
 have ho1:(aw++[Ob.cl e2 c (List.replicate m (.own []))])[id]?=some (.arr e 1 (List.replicate m [.nils])):=by grind
 obtain⟨s2,m2⟩:=hd_of (e:=e) (k:=aw.length) (us:=List.replicate m (Value.slice none 0 0)) s1 (by rw[<- hs.len];simp) ho1 (d8 hv) (λflat hfl=>by
  obtain⟨l1,l2⟩:=Eh hfl;refine List.ext_getElem (by rw[l1];simp) λi h1 h2=>?_
  have hi:i<m:=by grind
  obtain⟨a,b1,b2⟩:=l2 i [.nils] flat[i] (by grind) (QC h1);injection b1 with b3
  subst b3;rw[List.getElem_replicate];generalize hf:flat[i]=u at b2;cases b2;rfl)
 rw[List.set_append_left _ _ hid]at s2 m2
 exact⟨s2,m1.trans m2⟩
theorem UP (id e2 c:Nat)(en:α->U AV)(ho:aw[id]?=some (.arr e 1 []))(hk:aw.length=kn)(ha:aw.set id (.hd e kn)++[.cl e2 c (cL en ([]:U (Bool×U α)))]=aw')(h:T P N code Q fr aw'):T P N code Q fr aw:=
 ⟨λst h1 h2 σ w F a hcur=>by subst ha hk;obtain⟨s1,m1⟩:=N3 (en:=en) (e2:=e2) (c:=c) (m:=0) hcur.sim ho;exact h.out st h1 h2 _ w F a (hcur.step s1 m1)⟩
theorem Mq {e2:Nat}{xs:U α}(hS:SliceOf P t e 1)(hy:evA n l (.tmp y)=.ref q)(hyv:∀v,evA n ((y,.cst v)::l) (.tmp y)=.cst v)(hq:aw[q]?=some (.arr e2 c (xs.map en)))(hk:aw.length=k)(hk2:aw.length+1=kn)(ha:aw.set q .dead++[.hd e kn,.cl e2 c (cL en [(false,xs)])]=aw')(h:K2 (.ref k) aw'):
  OP P N ⟨d,.buildSlice t 1 #[(0,.tmp y)],ty,ps,af,g⟩ (mkA n l) aw K2:=
 SC (λσ w F a har hs=>by
  subst ha hk hk2;have ey:=har.ev (.tmp y);rw[aG,hy]at ey;generalize hvy:a.eval (.tmp y)=vy at ey;cases ey with
  | ref _ A qn cp hσq=>
   have har1:=lV har hvy (.cst _);obtain⟨z,hz,hzl⟩:=hS.z;have hv:vcE P (mkA n ((y,.cst (.slice A qn cp))::l)) aw (.buildSlice t 1 #[(0,.tmp y)]) (λr aw2=>r=.ref aw.length/\aw2=aw++[.arr e 1 (cR [.slice A qn cp])]):=by
    simp only[vcE,hS.u,hz];refine⟨by rw[hS.c,hzl],by rw[hS.c];omega,by rw[hS.c];decide,?_⟩;have e1:dN aw ((#[((0:Nat),Operand.tmp y)]:Array (Nat×Operand)).toList.map λp=>ev (mkA n ((y,.cst (.slice A qn cp))::l)) p.2)=([.cst (.slice A qn cp)],aw):=by simp_all[dN,aG,norm,dP]
    rw[e1];obtain⟨z0,rfl⟩:=List.length_eq_one_iff.1 hzl;have e2:l5 P (P.cellsOf e) (List.replicate 1 [z0]) (((#[((0:Nat),Operand.tmp y)]:Array (Nat×Operand)).toList.map (·.1)).zip [AV.cst (.slice A qn cp)])=some (cR [.slice A qn cp]):=by rw[hS.c];rfl
    simp only[e2];rw[hS.c];simp
   obtain⟨vv,nx,w',aw2,σ',F',r,hrun,hn,s2,m2,hr,rfl,rfl⟩:=Bl har1 hs hv ⟨d,.buildSlice t 1 #[(0,.tmp y)],ty,ps,af,g⟩ J;have hql:q<aw.length:=(QD.1 hq).1;have hq2:(aw++[Ob.arr e 1 (cR [.slice A qn cp])])[q]?=some (.arr e2 c (xs.map en)):=by grind
   obtain⟨s3,m3⟩:=NQ s2 hq2 (m2.pre _ _ hσq);have hlen:σ'.length=aw.length+1:=by rw[s2.len];simp
   obtain⟨s4,m4⟩:=wx (id:=aw.length) (e:=e) (k:=aw.length+1) (us:=[.slice A qn cp]) s3 (by grind) (by grind)
   have e3:((((aw++[Ob.arr e 1 (cR [Value.slice A qn cp])]).set q .dead).set q .dead)++[Ob.cl e2 c [.own (xs.map en)]]).set aw.length (.hd e (aw.length+1))=aw.set q .dead++[.hd e (aw.length+1),.cl e2 c (cL en [(false,xs)])]:=by simp_all[cel]
   rw[e3]at s4 m4;exact⟨vv,nx,w',_,_,F',_,hrun,hn,s4,m2.trans (m3.trans m4),(m3.trans m4).rel s2 hr,h⟩)
theorem Nb {e2 id id2 k2:Nat}{y:Operand}{ys r:U (Bool×U α)}(hS:SliceOf P t e 1)(hx:evA n l x=.ref id)(hy:evA n l y=.ref id2)(ho:aw[id]?=some (.hd e k))(hc:aw[k]?=some (.cl e2 c (cL en xs)))(ho2:aw[id2]?=some (.hd e k2))(hc2:aw[k2]?=some (.cl e2 c (cL en ys)))(hid:(id==id2)=false)(hkk:(k==k2)=false)(hr:app xs ys=some r)(hq:aw.length=q)(hk:aw.length+1=kn)(ha:(((aw.set id .dead).set id2 .dead).set k .dead).set k2 .dead++[.hd e kn,.cl e2 c (cL en r)]=aw')(h:K2 (.ref q) aw'):
    OP P N ⟨d,.call ⟨.builtin .append,#[x,y],#[t,t]⟩,ty,ps,af,g⟩ (mkA n l) aw K2:=
  SC (fun σ w F a har hs=>by
    subst ha hk hq;have ex:=har.ev x;rw[aG,hx]at ex;have ey:=har.ev y;rw[aG,hy]at ey;generalize hvx:a.eval x=vx at ex;generalize hvy:a.eval y=vy at ey;cases ex with
    |ref _ A qn cp hσ=>
    cases ey with
    | ref _ B qn2 cp2 hσ2=>
      have hid':id≠id2:=by grind
      have hkk':k≠k2:=by grind
      have hik:∀{a b:Nat} {e k e2 c:Nat} {cs:U Cell},aw[a]?=some (.hd e k)->aw[b]?=some (.cl e2 c cs)->a≠b:=λh1 h2=>by grind
      have l1:id<aw.length:=(QD.1 ho).1;have l2:id2<aw.length:=(QD.1 ho2).1;obtain⟨us,h1,_,s1,m1⟩:=qj hs ho hσ;obtain⟨us2,h2,_,s2,m2⟩:=qj s1 (id:=id2) (e:=e) (k:=k2) (by grind) hσ2;have hl1:=tK hs hc h1;have hl2:=tK hs hc2 h2;have m12:=m1.trans m2;unfold app at hr;split at hr
      · rename_i hfit;cases hr;obtain⟨z,hz,hzl⟩:=hS.z;have hv:jK P (mkA n l) ((aw.set id (.arr e 1 (cR us))).set id2 (.arr e 1 (cR us2))) [x,y] [t,t] (λr aw2=>r=.ref aw.length/\aw2=(((aw.set id (.arr e 1 (cR us))).set id2 (.arr e 1 (cR us2))).set id2 .dead).set id .dead++[.arr e 1 (cR (us++us2))]):=by
          have g2:((aw.set id (.arr e 1 (cR us))).set id2 (.arr e 1 (cR us2)))[id2]?=some (.arr e 1 (cR us2)):=by grind
          have hnorm:norm ((aw.set id (.arr e 1 (cR us))).set id2 (.arr e 1 (cR us2))) (.ref id2)=(.sl (cR us2),((aw.set id (.arr e 1 (cR us))).set id2 (.arr e 1 (cR us2))).set id2 .dead):=by simp only[norm,dP,g2]
          have g1:(((aw.set id (.arr e 1 (cR us))).set id2 (.arr e 1 (cR us2))).set id2 .dead)[id]?=some (.arr e 1 (cR us)):=by grind
          simp only[jK,hS.u,hz,aG,hx,hy,hnorm,g1];refine⟨trivial,trivial,hS.c.symm,by rw[hS.c,hzl],by rw[hS.c];omega,λrow hrow=>?_,?_,hS.b,?_,?_⟩
          · unfold cR at hrow;obtain⟨u,_,rfl⟩:=Rs.1 hrow;rw[hS.c];rfl
          · grind[cR]
          · simp
          · rw[hS.c];simp[cR]
        obtain⟨vv,nx,w',aw2,σ',F',r,hrun,hn,s3,m3,hr,rfl,rfl⟩:=yw (args:=#[x,y]) (ats:=#[t,t]) (m12.aRel hs har) s2 hv ⟨d,.call ⟨.builtin .append,#[x,y],#[t,t]⟩,ty,ps,af,g⟩ J;have gk:∀{b:Nat} {e2 c:Nat} {cs:U Cell},aw[b]?=some (.cl e2 c cs)->((((aw.set id (.arr e 1 (cR us))).set id2 (.arr e 1 (cR us2))).set id2 .dead).set id .dead++[.arr e 1 (cR (us++us2))])[b]?=some (.cl e2 c cs):=λ{b _ _ _} hb=>by grind
        obtain⟨s4,m4⟩:=NJ s3 hkk' (gk hc) (m3.pre _ _ h1) (gk hc2) (m3.pre _ _ h2);have hlen:σ'.length=aw.length+1:=by rw[s3.len];simp
        have lk:=(QD.1 hc).1;have lk2:=(QD.1 hc2).1;obtain⟨s5,m5⟩:=wx (id:=aw.length) (e:=e) (k:=aw.length+1) (us:=us++us2) s4 (by simp_all) (by simp_all)
        have e3:(((((((aw.set id (Ob.arr e 1 (cR us))).set id2 (Ob.arr e 1 (cR us2))).set id2 .dead).set id .dead++[Ob.arr e 1 (cR (us++us2))]).set k .dead).set k2 .dead)++[Ob.cl e2 c (cL en xs++cL en ys)]).set aw.length (.hd e (aw.length+1))=(((aw.set id .dead).set id2 .dead).set k .dead).set k2 .dead++[.hd e (aw.length+1),.cl e2 c (cL en (xs++ys))]:=by rw[List.set_set,List.set_comm (l:=aw.set id (Ob.arr e 1 (cR us))) Ob.dead Ob.dead (Ne.symm hid'),List.set_set,List.set_append_left _ _ (by simp),List.set_append_left _ _ (by grind),List.set_append_left _ _ (by grind),List.set_append_right _ _ (by simp)];simp[cL]
        rw[e3]at s5 m5;exact⟨vv,nx,w',_,_,F',_,hrun,hn,s5,m12.trans (m3.trans (m4.trans m5)),(m4.trans m5).rel s3 hr,h⟩
      · cases hr)
theorem N8 {F':Nat->Prop}(hFF:∀b,F b->F' b){size nn:Nat}{A:Qbm Addr}{flat:U Value}(hown:w.ownsRow 0 e size (.slice A nn c) rows.length flat)(hfl:FlatRel σ w F size rows flat)(hF:∀b,(Value.slice A nn c).ownBlock=some b->F' b):Rel σ w F' (.sl rows) (.slice A nn c):=by
 rcases hown.2 with⟨e1,e2⟩|⟨gg,cap,cur,e1,h0,hg,h1,h2,h3,h4⟩
 .have:rows=[]:=QK e2
  subst this
  rw[e1];exact .slNil
 .injection e1 with e3 e4 e5
  subst e3;subst e4;subst e5
  have key:∀i j:Nat,i<rows.length->j<size->∃x u,(rows[i]?.bind (·[j]?))=some x/\flat[i*size+j]?=some u/\Rel σ w F x u/\u.oneCell'=true:=λi j hi hj=>by obtain⟨hl,hrow⟩:=tr hfl (QC hi);simp_all
  refine .sl rows size ⟨gg,0,none⟩ c (λi j=>flat.getD (i*size+j) undef) (λ_=>hF gg J) h1 h2 hfl.1 (λi j hi hj=>?_) (λi j hi hj=>?_) (λi row j x hi hx=>?_)
  .grind
  .grind[fK,cell_of_row]
  .obtain⟨hl,hrow⟩:=tr hfl hi
   obtain⟨u,a1,a2,_⟩:=hrow j x hx
   rw[QR,a1]
   exact a2.mono (λ_ _ e=>e) hFF (λ_ _=>J)
def slR(en:α->List AV)(r:List α):List AV:=[.sl (r.map en)]
theorem KY (hs:Sim aw σ w F){id e2:Nat}(ho:aw[id]?=some (.hd e k))(hc:aw[k]?=some (.cl e2 c (cL en xs))):
  ∃F',Sim ((aw.set id (.arr e 1 ((xs.map (·.2)).map (slR en)))).set k .dead) σ w F'/\Mv aw σ w F ((aw.set id (.arr e 1 ((xs.map (·.2)).map (slR en)))).set k .dead) σ w F':=by
 obtain⟨v,hv⟩:=σ_of hs ho
 obtain⟨us,h1,h2,s1,m1⟩:=qj hs ho hv
 have hid:id<aw.length:=(QD.1 ho).1
 have hik:id≠k:=by grind
 obtain⟨hl,hcr,_,hb⟩:=te hs hc h1
 have hc1:=vJ (A:=.arr e 1 (us.map λu=>[.cst u])) hc hik
 have s2:=s1.drop k hc1 J h1
 have m2:=Mv.drop (w:=w) (F:=F) k hc1 J h1
 refine⟨λb=>F b∨Bk (.cl e2 c (cL en xs)) (.tuple us.toArray) b,?_⟩
 have ho2:((aw.set id (.arr e 1 (us.map λu=>[AV.cst u]))).set k .dead)[id]?=some (.arr e 1 (us.map λu=>[.cst u])):=by grind
 obtain⟨flat,g1,g2,g3,a,nn,cc,rfl⟩:=s2.obj id _ v ho2 hv
 have hfl:=EX g2
 subst hfl
 have hxl:flat.length=xs.length:=by grind
 have hO:ORel σ w (λb=>F b∨Bk (.cl e2 c (cL en xs)) (.tuple flat.toArray) b) (.arr e 1 ((xs.map (·.2)).map (slR en))) (.slice a nn cc):=by
  refine⟨flat,?_,⟨λrow hr=>?_,h2,?_⟩,g3,a,nn,cc,J⟩
  .grind
  .obtain⟨r,_,rfl⟩:=Rs.1 hr;rfl
  .have e1:((xs.map (·.2)).map (slR en)).flatten=(xs.map (·.2)).map (λr=>AV.sl (r.map en)):=by
    generalize xs.map (·.2)=ys;induction ys with
    |nil=>rfl
    |cons y ys ih=>grind[slR]
   rw[e1];refine⟨by simp[hxl],λj x u hx hu=>?_⟩;rw[QW,QW]at hx;cases hxj:xs[j]? with
   |none=>grind
   | some p=>
    rw[hxj]at hx;cases hx;obtain⟨b,r⟩:=p;have hcell:(cL en xs)[j]?=some (cel en (b,r)):=by grind
    have hrel:=hcr j _ u hcell hu;cases b with
    |true=>exact Rel.mono (λ_ _ h=>h) (λ_ h=>.inl h) (λ_ _=>J) hrel
    |false=>
     have hrel:CellRel σ w F e2 c (.own (r.map en)) u:=hrel;obtain⟨fl,k1,k2,k3,a',n',c',rfl⟩:=hrel;exact N8 (λ_ h=>.inl h) k1 k2 (λb hb1=>.inr (hb j _ _ b hcell hu hb1))
 have s3:=s2.repl id ho2 J hv _ hO (λb h=>h)
 have m3:Mv ((aw.set id (.arr e 1 (flat.map λu=>[AV.cst u]))).set k .dead) σ w (λb=>F b∨Bk (.cl e2 c (cL en xs)) (.tuple flat.toArray) b) (((aw.set id (.arr e 1 (flat.map λu=>[AV.cst u]))).set k .dead).set id (.arr e 1 ((xs.map (·.2)).map (slR en)))) σ w (λb=>F b∨Bk (.cl e2 c (cL en xs)) (.tuple flat.toArray) b):=.repl id ho2 J hv (λb h=>h)
 have e2:((aw.set id (.arr e 1 (flat.map λu=>[AV.cst u]))).set k .dead).set id (.arr e 1 ((xs.map (·.2)).map (slR en)))=(aw.set id (.arr e 1 ((xs.map (·.2)).map (slR en)))).set k .dead:=by rw[List.set_comm _ _ (Ne.symm hik),List.set_set]
 rw[e2]at s3 m3
 exact⟨s3,m1.trans (m2.trans m3)⟩
theorem Tg (id k:Nat){e2:Nat}(ho:aw[id]?=some (.hd e k))(hc:aw[k]?=some (.cl e2 c (cL en xs)))(ha:(aw.set id (.arr e 1 ((xs.map (·.2)).map (slR en)))).set k .dead=aw')(h:T P N code Q fr aw'):T P N code Q fr aw:=
 ⟨λst h1 h2 σ w F a hcur=>by subst ha;obtain⟨F',s1,m1⟩:=KY hcur.sim ho hc;exact h.out st h1 h2 σ w F' a (hcur.step s1 m1)⟩
theorem LV [he:EnP en](h:Cell.own rows∈cL en xs∨Cell.fz rows∈cL en xs):∀row,row∈rows->∀x,x∈row->Pure x:=by
 have key:∀c,c∈cL en xs->(c=.own rows∨c=.fz rows)->∀row,row∈rows->∀x,x∈row->Pure x:=λc hc he2 row hr x hx=>by
  obtain⟨⟨b,r⟩,_,rfl⟩:=Rs.1 hc;have:rows=r.map en:=by cases b<;>rcases he2 with h|h<;>first|(injection h with h;exact h.symm)|cases h
  subst this;obtain⟨a,_,rfl⟩:=Rs.1 hr;exact he.out a x hx
 grind
end
end
instance {α:Type} {en:α->List AV} {xs:List (Bool×List α)} {e s:Nat} [h:EnP en]:GoodO (.cl e s (cL en xs)):=⟨λ_ hr=>LV hr⟩
noncomputable section
instance:Inhabited Keyed:=⟨⟨0,0⟩⟩
def ltK(a b:Keyed):Bool:=decide (a.Key<b.Key)
def sortK(xs:List Keyed):Option (List Keyed):=if xs.length<=1 then some xs else if xs.length<=12 then some (Sort.insertionSort ltK xs.toArray 0 xs.toArray.size).toList else none
end
def bldS(xs:List Int):Option (List UInt8):=if xs≠[]/\∀x,x∈xs->0<=x/\x<256 then some (cq xs)else none
def cg{A B:Type}(o:Option (A⊕Unit))(p:Option B)(k:A->Option B):Option B:=
 match o with
 |none=>none
 |some (.inl y)=>k y
 |some (.inr _)=>p
theorem da{A B:Type}{o:Qbm (A⊕Unit)}{p:Qbm B}{k:A->Qbm B}{r:B}{C:Prop}(h:cg o p k=some r)(h1:o=some (.inr ())->p=some r->C)(h2:∀y,o=some (.inl y)->k y=some r->C):C:=by
 match o,h with
 |some (.inl y),h=>exact h2 y J h
 |some (.inr ()),h=>exact h1 J h
end Go.Proofs.YtnlmagdmmjkklaaGreat
