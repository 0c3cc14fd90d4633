/-
  Part 2 of the proof of shopEndsLaw.proved: the code computes these functions, and the law holds of them, with no condition beyond the statement's own; put together by a program of ours (wip/decl.py) out of texts of ours.
-/
import Derived.Lib.Overlaps
import Derived.Shelf.Strconv.Itoa3
import Derived.Sort.Statements
import Derived.Test.YtfglbbhdfgjheaaGreatDoorZShopEnds1
set_option linter.unusedVariables false
set_option linter.unusedSimpArgs false
namespace Go.Proofs.YtfglbbhdfgjheaaGreatDoor
section
open Go.RowKit Go.Lib
section
variable {P:Program} {N n:Nat} {aw aw':List Ob} {l:List (Nat×AV)} {σ:List Value} {w:World} {F:Nat→Prop}
variable {v:Value}{code:Code}{Q:Exit->U AV->U Ob->Prop}{e c:Nat}{rows:U (U AV)}
theorem vW {t:Nat}{r:AV}{a:Act}(h:ARel σ w F (mkA n l) a)(hv:a.eval (.tmp t)=v)(hr:Rel σ w F r v):ARel σ w F (mkA n ((t,r)::l)) a:=by
 have e1:a.tmps.getD t undef=v:=hv;have hset:mkA n ((t,r)::l)=(mkA n l).set t r:=(eR n l (some t) r).symm;rw[hset];refine⟨?_,h.2⟩;by_cases ht:t<a.tmps.size
 .have:=h.1.set t hr;have e2:a.tmps.toList.set t v=a.tmps.toList:=by
   have e3:a.tmps.toList[t]?=some v:=by simp_all
   grind[List.set_getElem_self]
  grind
 .have hlen:=h.1.1;have:(mkA n l).set t r=mkA n l:=List.set_eq_of_length_le (by grind);rw[this];exact h.1
theorem U5 (t id:Nat)(hx:evA n l (.tmp t)=.ref id)(ho:aw[id]?=some (.arr e c rows))(h:∀C:Nat,rows.length<=C->T P N code Q (mkA n ((t,.vw id c 0 rows.length (some C))::l)) aw):T P N code Q (mkA n l) aw:=
 ⟨λst h1 h2 σ w F a hcur=>by
  have hr:=hcur.fr.ev (.tmp t);rw[aF,hx]at hr;generalize hv:a.eval (.tmp t)=v at hr;cases hr with
  |ref _ A m C hg=>
   obtain⟨hm,hmc⟩:=wa hcur.sim ho hg;subst hm;refine(h C hmc).out st h1 h2 σ w F a ⟨hcur.sim,vW hcur.fr hv ?_,hcur.mv,hcur.ds⟩;refine Rel.vw (σ:=σ) (w:=w) (F:=F) id c 0 rows.length rows.length C (some C) A A hg (by omega) (λhpos=>?_) (λk hk=>by cases hk;rfl) (λ_=>J);obtain⟨_,_,_,_,hc2⟩:=hZ hcur.sim ho hg;grind⟩
theorem UV {α:Type}{en:α->U AV}{xs:U α}(t id:Nat)(hx:evA n l (.tmp t)=.ref id)(ho:aw[id]?=some (.arr e c (xs.map en)))(h:∀C:Nat,xs.length<=C->T P N code Q (mkA n ((t,.vw id c 0 xs.length (some C))::l)) aw):T P N code Q (mkA n l) aw:=
 U5 t id hx ho (λC hC=>by grind)
theorem unvw {id m:Nat}{C:Nat}(hs:Sim aw σ w F)(ho:aw[id]?=some (.arr e c rows))(hr:Rel σ w F (.vw id c 0 m (some C)) v)(hm:m=rows.length):Rel σ w F (.ref id) v:=by
 cases hr with
 |vw _ _ _ _ N0 C0 _ A B hσ hn hA hc hz=>
  obtain⟨h1,_⟩:=wa hs ho hσ;have h2:=hz J;subst h2;refine .ref id A m (C0- 0) ?_;grind
variable {d:Option Tmp} {ty:TypeId} {ps:String} {af:Array Edge} {g:Option (Nat×Bool)} {K2:AV→List Ob→Prop} {α:Type} {en:α→List AV} {xs ys:List α}
variable {t lo m K l0 n0 k C m0 ts lo2 m2 id2:Nat}{x y x1:Operand}{hi:QbQ Operand}{i j:Int}{k' kq:IntKind}{u:Unit}{o o':Ob}{cap cap2:QbQ Nat}{r:U α}{z:U AV}
theorem Mb {id:Nat}(hS:SliceOf P t e c)(hx:evA n l x=.vw id c lo m (some K))(h:K2 (.int .i64 K) aw):OP P N ⟨d,.call ⟨.builtin .cap,#[x],#[t]⟩,ty,ps,af,g⟩ (mkA n l) aw K2:=
 TP (λσ w F a har hs=>by
  have ex:=har.ev x;rw[aF,hx]at ex;generalize hvx:a.eval x=vx at ex;cases ex with
  |vw _ _ _ _ N0 C _ A B hσ hn hA hc hz=>
   have hk:=hc K J;have e1:C- lo=K:=by omega
   refine⟨.int .i64 K,_,w,aw,σ,F,_,?_,.inl J,hs,.refl ..,.int _ _,h⟩;simp[execOp,resolve,invoke,builtin,Sem.run_bind,hvx,Builtin.cap_,run_underlying hS.u,goInt,e1])
theorem uY {t:TypeId}{lo:QbQ Operand}{id:Nat}{k:IntKind}(hS:SliceOf P t e c)(hx:evA n l x=.vw id c l0 n0 (some K))(hl:(lo.map (evA n l)).getD (.int .i64 0)=.int k i)(hh:(hi.map (evA n l)).getD (.int .i64 n0)=.int k' j)(hv:vwok n0 i j=some u)(h:K2 (.vw id c (l0+i.toNat) (j.toNat- i.toNat) (some (K- i.toNat))) aw):
    OP P N ⟨d,.slice t x lo hi none,ty,ps,af,g⟩ (mkA n l) aw K2:=
  TP (fun σ w F a har hs=>by
    unfold vwok at hv;split at hv
    · rename_i hc;have ex:=har.ev x;rw[aF,hx]at ex;generalize hvx:a.eval x=vx at ex;cases ex with
      | vw _ _ _ _ N0 C _ A B hσ hn hA hcK hz=>
        have hK:=hcK K J;obtain⟨ds,hd⟩:=R0.1 hS.s;have hsz:=eo hd;rw[hS.c]at hsz;have b:=λw'=>ny (P:=P) har (lo:=lo) (hi:=hi) (b:=true) (len:=n0) (cap:=C- l0) (by rw[qe];exact hl) (by rw[qe];exact hh) hc.1 hc.2.1 hc.2.2 (by omega) w'
        have e2:C- l0- i.toNat=C- (l0+i.toNat):=by omega
        refine⟨.slice (if C- l0=i.toNat then A else A.map (·.add (i.toNat*c))) (j.toNat- i.toNat) (C- (l0+i.toNat)),_,w,aw,σ,F,_,?_,.inl J,hs,.refl ..,?_,h⟩
        · simp[execOp,hvx,Instr.sliceAt,Instr.slice,Sem.run_bind,run_underlying hS.u,b,hsz,e2]
        · refine .vw id c _ _ N0 C (some (K- i.toNat)) _ B hσ (by omega) (λhpos=>?_) (λk hk=>by grind) (λh0=>?_)
          · obtain⟨g0,e3,e4⟩:=hA (by omega);refine⟨g0,e3,?_⟩;have:¬C- l0=i.toNat:=by omega
            simp_all[SH,Addr.add]
          · have h1:i.toNat=0:=by omega
            rw[<- hz (by omega),h1];simp[Addr.add]
    · cases hv)
theorem JG {t:TypeId}{hi:Operand}{id:Nat}(hS:SliceOf P t e c)(hx:evA n l x=.vw id c l0 n0 (some K))(hh:evA n l hi=.int k' j)(hv:vwok n0 0 j=some u)(h:K2 (.vw id c l0 j.toNat (some K)) aw):OP P N ⟨d,.slice t x none (some hi) none,ty,ps,af,g⟩ (mkA n l) aw K2:=
 uY (i:=0) (k:=.i64) hS hx J hh hv (by simpa using h)
theorem KE {v':Value}(hs:Sim aw σ w F)(ho:aw[k]?=some o)(hl:o.live=true)(hv:σ[k]?=some v)(hO:ORel (σ++[v']) w F o' v')(hsub:∀b,Bk o' v' b->Bk o v b):
  Sim (aw.set k .dead++[o']) (σ++[v']) w F/\Mv aw σ w F (aw.set k .dead++[o']) (σ++[v']) w F:=by
 have s3:=hs.lose k
 refine⟨s3.push2 o' v' (λ_ _=>J) (RJ _) hO (λb hb hd=>?_),⟨J,J,drO,RJ _,λ_ _ _=>J,λi v hv=>eB hv,λ_ h=>h,λ_ h=>.inl h,λb hb=>.inl ?_⟩⟩
 .obtain⟨j,o1,v1,ho1,hl1,hv1,hb1⟩:=hd
  rcases ca ho1 with⟨rfl,rfl,_⟩|⟨hne,h2⟩
  .assumption
  .exact hs.sep j k o1 _ v1 _ b hne h2 ho hl1 hl hv1 hv hb1 (hsub b hb)
 .obtain⟨j,o1,v1,ho1,hl1,hv1,hb1⟩:=hb
  rcases gP ho1 with h2|⟨rfl,rfl⟩
  .have hlt:=(RH.1 h2).1
   rw[R2 (by rw[s3.len];exact hlt)]at hv1
   rcases ca h2 with⟨rfl,rfl,_⟩|⟨hne,h3⟩
   .grind[Ob.live]
   .exact⟨j,o1,v1,h3,hl1,hv1,hb1⟩
  .rw[<- s3.len]at hv1
   simp at hv1
   subst hv1
   exact⟨k,o,v,ho,hl,hv,hsub b hb1⟩
theorem I2 {fr:U AV}{a:Act}(ha:ARel σ w F fr a){len cap:Nat}{kh:IntKind}{h:Int}(eh:ev fr y=.int kh h)(h0:0<=h)(h2:h<=cap)(w':World):
  (Instr.sliceBounds true len cap none (some (a.eval y)) none).run P w'=.ok (0,h.toNat,cap) w':=by
 have e:a.eval y=.int kh h:=by have hz:=ha.ev y;rw[eh]at hz;generalize a.eval y=vz at hz ⊢;cases hz;rfl
 have b1:∀code w',(Instr.sliceBound (.int kh h) cap code).run P w'=.ok h.toNat w':=λcode w'=>run_sliceBound (P:=P) w' kh h cap code (by omega) (by omega)
 simp_all[Instr.sliceBounds]
theorem Px {t:TypeId}{hi:Operand}{id x:Nat}(hS:SliceOf P t e c)(hx:evA n l x1=.vw id c 0 m0 (some C))(hm:m0=xs.length)(hy:evA n l hi=.int kq j)(ho:aw[id]?=some (.arr e c (xs.map en)))(hr:roomx xs.length C j=some x)(hk:aw.length=k)(ha:aw.set id .dead++[.arrU e c (xs.map en) x]=aw')(h:K2 (.ref k) aw'):OP P N ⟨d,.slice t x1 none (some hi) none,ty,ps,af,g⟩ (mkA n l) aw K2:=
 TP (λσ w F a har hs=>by
  unfold roomx at hr;split at hr
  .rename_i hc;cases hr;subst hk ha hm;have ex:=har.ev x1;rw[aF,hx]at ex;generalize hvx:a.eval x1=vx at ex;cases ex with
   | vw _ _ _ _ N0 C0 _ A B hσ hn hA hcK hz=>
    have hCC:C0=C:=by grind
    have hAB:=hz J;subst hAB hCC;obtain⟨hN,flat,hown,hfl,hcase⟩:=hZ hs ho hσ;rw[RZ]at hN;subst hN;obtain⟨ds,hd⟩:=R0.1 hS.s;obtain⟨g0,e3,_⟩:=hA hc.1;subst e3;have hF:¬F g0:=by obtain⟨_,_,_,hf,_⟩:=hs.obj id _ _ ho hσ;grind
    have b:=λw'=>I2 (P:=P) har (y:=hi) (len:=xs.length) (cap:=C0- 0) (by rw[aF,hy]) (by omega) (by omega) w'
    have h0:(⟨g0,0,none⟩:Addr).add 0=⟨g0,0,none⟩:=by rfl
    have hrun:(execOp a.eval ⟨d,.slice t x1 none (some hi) none,ty,ps,af,g⟩).run P w=.ok (.value (.slice (some ⟨g0,0,none⟩) j.toNat C0)) w:=by simp only[TD]at b hvx;simp[execOp,hvx,Instr.sliceAt,Instr.slice,Sem.run_bind,run_underlying hS.u,b,eo hd,h0]
    have hjj:(xs.map en).length+(j.toNat- xs.length)=j.toNat:=by grind
    obtain⟨s2,m2⟩:=KE (v':=.slice (some ⟨g0,0,none⟩) j.toNat C0) (o':=.arrU e c (xs.map en) (j.toNat- xs.length)) hs ho J hσ
     ⟨g0,C0,flat,by rw[hjj],by omega,by grind,hfl.mono (λ_ _ e=>eB e) (λ_ e=>e) (λ_ _=>J),hF⟩ (λ_ h=>h)
    refine⟨_,_,w,_,_,F,_,hrun,.inl J,s2,m2,?_,h⟩;exact .ref _ _ _ _ (by rw[<- hs.len];simp)
  .cases hr)
theorem zb {id x:Nat}{A:QbQ Addr}{q cp:Nat}(hs:Sim aw σ w F)(ho:aw[id]?=some (.arrU e c rows x))(hσ:σ[id]?=some (.slice A q cp)):
  q=rows.length+x/\q<=cp/\∃g flat cur,A=some ⟨g,0,none⟩/\¬F g/\w.heap[g]?=some (.cells cur e (0,0))/\cp<=maxLen/\cur.size=cp*c/\cur.toList.take (rows.length*c)=flat/\flat.length=rows.length*c/\FlatRel σ w F c rows flat:=by
 obtain⟨g,C,flat,e1,h1,hown,hfl,hF⟩:=hs.obj id _ _ ho hσ
 cases e1
 rcases hown.2 with⟨h2,_⟩|⟨g',cap,cur,h2,_,hg,h3,h4,h5,h6⟩
 .cases h2
 .cases h2
  exact⟨J,h1,g,flat,cur,J,hF,hg,h4,h5,h6,hown.1,hfl⟩
theorem sw {t:TypeId}{lo:QbQ Operand}{id x:Nat}{k:IntKind}(hS:SliceOf P t e c)(hx:evA n l x1=.ref id)(ho:aw[id]?=some (.arrU e c (xs.map en) x))(hl:(lo.map (evA n l)).getD (.int .i64 0)=.int k i)(hh:(hi.map (evA n l)).getD (.int .i64 (xs.length+x:Nat))=.int k' j)(hv:vwok (xs.length+x) i j=some u)(h:K2 (.vw id c i.toNat (j.toNat- i.toNat) none) aw):
    OP P N ⟨d,.slice t x1 lo hi none,ty,ps,af,g⟩ (mkA n l) aw K2:=
  TP (fun σ w F a har hs=>by
    unfold vwok at hv;split at hv
    · rename_i hc;have ex:=har.ev x1;rw[aF,hx]at ex;generalize hvx:a.eval x1=vx at ex;cases ex with
      | ref _ A q cp hσ=>
        obtain⟨h1,h2,g0,flat,cur,rfl,_⟩:=zb hs ho hσ;rw[RZ]at h1;subst h1;obtain⟨ds,hd⟩:=R0.1 hS.s;have hsz:=eo hd;rw[hS.c]at hsz;have b:=λw'=>ny (P:=P) har (lo:=lo) (hi:=hi) (b:=true) (len:=xs.length+x) (cap:=cp) (by rw[qe];exact hl) (by rw[qe];exact hh) hc.1 hc.2.1 hc.2.2 h2 w'
        refine⟨.slice (if cp=i.toNat then some ⟨g0,0,none⟩else(some ⟨g0,0,none⟩:QbQ Addr).map (·.add (i.toNat*c))) (j.toNat- i.toNat) (cp- i.toNat),_,w,aw,σ,F,_,?_,.inl J,hs,.refl ..,?_,h⟩
        · simp[execOp,hvx,Instr.sliceAt,Instr.slice,Sem.run_bind,run_underlying hS.u,b,hsz]
        · refine .vw id c _ _ _ cp none _ _ hσ (by omega) (λhpos=>⟨g0,J,?_⟩) (λk hk=>by cases hk) (λh0=>?_)
          · have:¬cp=i.toNat:=by omega
            simp_all[f8]
          grind[Addr.add]
    · cases hv)
theorem IU:∀(k:Nat) (l:U (U AV)),(∀row,row∈l->row.length=c)->(l.drop k).flatten=l.flatten.drop (k*c):=by
 intro k;induction k with
 |zero=>simp
 | succ k ih=>
  intro l hl;cases l with
  |nil=>simp
  |cons x l=>
   rw[List.drop_succ_cons,ih l (λrow hr=>hl row (RQ _ hr)),SE,SH,Tq,<- hl x RM,Tu (k*x.length),<- Te,Tl]
theorem Mt {id x:Nat}(hS:SliceOf P t e c)(hen:∀a,(en a).length=c)(hx:evA n l x1=.vw id c lo m cap)(hy:evA n l y=.vw id c lo2 m2 cap2)(ho:aw[id]?=some (.arrU e c (xs.map en) x))(hr:cpyU xs x lo m lo2 m2=some r)(ha:aw.set id (.arr e c (r.map en))=aw')(h:K2 (.int .i64 m) aw'):OP P N ⟨d,.call ⟨.builtin .copy,#[x1,y],#[t,ts]⟩,ty,ps,af,g⟩ (mkA n l) aw K2:=
  TP (fun σ w F a har hs=>by
    unfold cpyU at hr;split at hr
    · rename_i hc;obtain⟨c1,c2,c3,c4,c5⟩:=hc;cases hr;subst ha;have ex:=har.ev x1;have ey:=har.ev y;rw[aF,hx]at ex;rw[aF,hy]at ey;generalize hvx:a.eval x1=vx at ex;generalize hvy:a.eval y=vy at ey;cases ex with
      |vw _ _ _ _ N0 C _ A B hσ hn hA _ _=>
      cases ey with
      |vw _ _ _ _ N1 C1 _ A1 B1 hσ1 hn1 hA1 _ _=>
      rw[hσ]at hσ1;cases hσ1;obtain⟨hq,hqc,g0,flat,cur,e0,hF,hg,hcm,hsz,htk,hfll,hfl⟩:=zb hs ho hσ;subst e0;obtain⟨g1,e1,rfl⟩:=hA c1;cases e1;obtain⟨g1,e1,rfl⟩:=hA1 (by omega);cases e1;rw[RZ]at hq htk hfll;obtain⟨ds,hds⟩:=R0.1 hS.s;have hsize:=eo hds;rw[hS.c]at hsize;have hrow:∀row,row∈xs.map en->row.length=c:=hfl.1;have hvl:(flat.drop (lo2*c)).length=m*c:=by grind[Nat.add_mul]
      have hfirst:(Builtin.firstCells c m (.slice (some ⟨g0,lo2*c,none⟩) m2 (C- lo2))).run P w=.ok (flat.drop (lo2*c)).toArray w:=
        run_firstCells_some w c m ⟨g0,lo2*c,none⟩ m2 (C- lo2) (flat.drop (lo2*c)) hvl (λj u hj=>by
          rw[Sz]at hj;have hlt:lo2*c+j<xs.length*c:=by grind
          rw[<- htk,Sm,if_pos hlt]at hj;rw[show(⟨g0,lo2*c,none⟩:Addr).add j=⟨g0,lo2*c+j,none⟩from by simp[Addr.add],cell_of_row w g0 _ cur e (0,0) hg];grind)
      have hone:∀u,u∈flat.drop (lo2*c)->u.oneCell'=true:=λu hu=>hfl.2.1 u (SB hu)
      have hcap:lo*c+m*c<=cur.size:=by rw[hsz,<- SH];simp_all[R4]
      have hst:=run_storeCells_at P g0 (lo*c) e (flat.drop (lo2*c)) 0 cur w hg (by omega) hone;simp only[SY]at hst;have hmin:Nat.min m2 m=m:=Nat.min_eq_right c2;have hrun:(Builtin.copy_ #[t,ts] ty #[.slice (some ⟨g0,lo*c,none⟩) m (C- lo),.slice (some ⟨g0,lo2*c,none⟩) m2 (C- lo2)]).run P w=.ok (goInt m) (w.setRow g0 (cur.toList.take (lo*c)++flat.drop (lo2*c)++cur.toList.drop (lo*c+(flat.drop (lo2*c)).length)).toArray):=by simp[Builtin.copy_,Sem.run_bind,run_underlying hS.u,Builtin.lenOf,hmin,hsize,hfirst,hst]
      have hkk:∀b,b≠g0->(w.setRow g0 (cur.toList.take (lo*c)++flat.drop (lo2*c)++cur.toList.drop (lo*c+(flat.drop (lo2*c)).length)).toArray).heap[b]?=w.heap[b]?:=λb hb=>setRow_other w g0 b _ hb
      have hlen2:((xs.take lo++xs.drop lo2).map en).length=N0:=by simp;omega
      have e5:cur.toList.take (lo*c)=flat.take (lo*c):=by grind[Nat.mul_le_mul_right]
      have hll:(flat.take (lo*c)++flat.drop (lo2*c)).length=N0*c:=by grind
      have hORel:ORel σ (w.setRow g0 (cur.toList.take (lo*c)++flat.drop (lo2*c)++cur.toList.drop (lo*c+(flat.drop (lo2*c)).length)).toArray) F (.arr e c ((xs.take lo++xs.drop lo2).map en)) (.slice (some ⟨g0,0,none⟩) N0 C):=by
        refine⟨flat.take (lo*c)++flat.drop (lo2*c),⟨by grind,.inr ⟨g0,C,_,by rw[hlen2],Sb _,setRow_heap w g0 cur _ e (0,0) hg,by omega,hcm,?_,?_⟩⟩,⟨λrow hr=>?_,λu hu=>?_,?_⟩,λg2 hg2=>?_,_,_,_,J⟩
        · grind
        · grind
        · grind
        · rcases RY.1 hu with hu|hu
          · exact hfl.2.1 u (RV hu)
          grind
        · rw[SC,Tg,List.map_drop,S7,na _ _ hrow,IU _ _ hrow];have hd2:RelL σ w F ((xs.map en).flatten.drop (lo2*c)) (flat.drop (lo2*c)):=by
            refine⟨by simp[hfl.2.2.1],λj a v ha hv=>?_⟩;rw[Sz]at ha hv;exact hfl.2.2.2 _ a v ha hv
          exact((hfl.2.2.take _).append hd2).mono (λ_ _ e=>e) (λ_ e=>e) (λb hb=>hkk b (λe=>hF (e▸hb)))
        grind[Value.ownBlock]
      refine⟨goInt m,_,_,_,σ,F,_,?_,.inl J,hs.write (b0:=g0) id ho J hσ J hkk (by simp) _ hORel (λ_ h=>h),Mv.write (w:=w) (w':=w.setRow g0 _) (F:=F) (b0:=g0) id ho J hσ J J J drO hkk (by simp) _ (λ_ h=>h),.int _ _,h⟩;simp[execOp,resolve,invoke,builtin,Sem.run_bind,hvx,hvy,hrun]
    · cases hr)
theorem Cw {id:Nat}(hS:SliceOf P t e c)(hen:∀a,(en a).length=c)(hx:evA n l x=.vw id c lo m cap)(hy:evA n l y=.ref id2)(ho:aw[id]?=some (.arr e c (xs.map en)))(ho2:aw[id2]?=some (.arr e c (ys.map en)))(hv:vwok xs.length lo ((lo:Int)+m)=some u)(ha:aw.set id (.arr e c ((cpy xs lo m ys).map en))=aw')(h:K2 (.int .i64 (min m ys.length:Nat)) aw'):OP P N ⟨d,.call ⟨.builtin .copy,#[x,y],#[t,ts]⟩,ty,ps,af,g⟩ (mkA n l) aw K2:=by
 unfold vwok at hv;split at hv
 .rename_i hc
  have hrow:∀row,row∈ys.map en->row.length=c:=λrow hr=>by grind
  rw[vZ]at ha
  refine uU (news:=ys.map en) (k:=min m ys.length) hS hx hy ho (λσ w F v _ hr=>oe hr) (λσ w F v hs hr=>?_) hrow (by simp) (by simp;omega) ha h
  obtain⟨flat,h1,h2,h3,_⟩:=yH hs ho2 (EB hs ho2 hr) (by omega)
  grind
 .cases hv
theorem Lf {id:Nat}{u2:Unit}(hS:SliceOf P t e c)(hen:∀a,(en a).length=c)(hx:evA n l x=.vw id c lo m cap)(hy:evA n l y=.vw id2 c lo2 m2 cap2)(ho:aw[id]?=some (.arr e c (xs.map en)))(ho2:aw[id2]?=some (.arr e c (ys.map en)))(hv:vwok xs.length lo ((lo:Int)+m)=some u)(hv2:vwok ys.length lo2 ((lo2:Int)+m2)=some u2)(ha:aw.set id (.arr e c ((cpy xs lo m ((ys.drop lo2).take m2)).map en))=aw')(h:K2 (.int .i64 (min m m2:Nat)) aw'):OP P N ⟨d,.call ⟨.builtin .copy,#[x,y],#[t,ts]⟩,ty,ps,af,g⟩ (mkA n l) aw K2:=by
 unfold vwok at hv hv2
 split at hv<;>split at hv2
 .rename_i hc hc2
  have hl2:((ys.drop lo2).take m2).length=m2:=by grind
  have hrow:∀row,row∈((ys.drop lo2).take m2).map en->row.length=c:=λrow hr=>by grind
  rw[vZ,hl2]at ha
  refine uU (news:=((ys.drop lo2).take m2).map en) (k:=min m m2) hS hx hy ho (λσ w F v _ hr=>oe hr) (λσ w F v hs hr=>?_) hrow (by grind) (by simp;omega) ha h
  obtain⟨flat,h1,h2,h3,_⟩:=yH hs ho2 (oe hr) (by simp;omega)
  grind[List.map_drop,List.map_take]
 all_goals grind
theorem LP {z0:α}{t tn:TypeId}{id:Nat}{m:Int}{kn:IntKind}(hS:SliceOf P t e c)(htn:P.underlying tn=some (.int kn))(hz:bu P e=some (en z0))(hen:∀a,(en a).length=c)(hx:evA n l x=.vw id c 0 m0 (some K))(hy:evA n l y=.int kq m)(ho:aw[id]?=some (.arr e c (xs.map en)))(hr:growz xs m0 K m z0=some r)(hk:aw.length=k)(ha:aw++[.arr e c (r.map en)]=aw')(h:K2 (.ref k) aw'):
  OP P N ⟨d,.call ⟨.builtin .append,#[x,y],#[t,tn]⟩,ty,ps,af,g⟩ (mkA n l) aw K2:=
 TP (λσ w F a har hs=>by
  unfold growz at hr;split at hr
  .rename_i hc;cases hr;subst hk ha;have ex:=har.ev x;have ey:=har.ev y;rw[aF,hx]at ex;rw[aF,hy]at ey;generalize hvx:a.eval x=vx at ex;generalize hvy:a.eval y=vy at ey;cases ey;cases ex with
   | vw _ _ _ _ N0 C _ A B hσ hn hA hcK hzz=>
    have hAB:=hzz J;subst hAB;have hKC:K=C:=by grind
    subst hKC;obtain⟨hN,flat,hown0,hfl,hcase⟩:=hZ hs ho hσ;rw[RZ]at hN;subst hN;have hcut:m0*c<=xs.length*c:=R4 _ hc.1;have hcc:=hS.c;have hownp:w.ownsRow 0 e (P.cellsOf e) (.slice A m0 (K- 0)) m0 (flat.take (m0*c)):=by
     rw[hcc];refine⟨by rw[S2,hown0.1,Ti hcut],?_⟩;rcases hown0.2 with⟨h2,h3⟩|⟨g0,cap,cur,h2,h3,h4,h5,h6,h7,h8⟩
     all_goals grind
    have hlen:m0+m.toNat<=1099511627776:=hc.2.2.2;obtain⟨v',w',news,hrun,hown,hg,hat,hr,h1,hbig⟩:=KD (σ:=σ) (F:=F) (ty:=ty) (kq:=kq) hS.u htn hz (by rw[hen,hcc]) (by rw[hcc];exact hS.p) hS.b hownp (m:=m.toNat) (by omega) hlen;rw[Sh (by omega)]at hrun;rw[hcc]at hown;obtain⟨hnew,hg0⟩:=hbig A m0 (K- 0) J (by omega);have hrow:∀row,row∈List.replicate m.toNat (en z0)->row.length=c:=λrow hm=>by grind
    have hfl2:FlatRel σ w F c ((xs.map en).take m0) (flat.take (m0*c)):=
     ⟨λrow hr=>hfl.1 row (RV hr),λu hu=>hfl.2.1 u (RV hu),by rw[na _ _ hfl.1];exact hfl.2.2.take _⟩
    have hl2:m0+m.toNat=((xs.map en).take m0++List.replicate m.toNat (en z0)).length:=by simp;omega
    rw[hl2]at hown;obtain⟨s2,m2,r2⟩:=vQ (aw0:=aw) (vx:=.slice none 0 0) hs (λ_ h=>h) hfl2 hrow hr h1 hown hg0 (xA _ hrun) (.inr hnew) (λb hb=>by grind[Value.ownBlock]);have e2:(xs.map en).take m0++List.replicate m.toNat (en z0)=(xs.take m0++List.replicate m.toNat z0).map en:=by simp
    rw[e2]at s2 m2;refine⟨v',_,w',_,_,F,_,?_,.inl J,s2,m2,r2,h⟩;simp only[TD]at hrun hvx;simp[execOp,resolve,invoke,builtin,Sem.run_bind,hvx,hvy,hrun]
  .cases hr)
theorem LE {id tx:Nat}{aw1:U Ob}(hS:SliceOf P t e c)(hen:∀a,(en a).length=c)(hx:evA n l (.tmp tx)=.vw id c 0 m0 (some C))(hm:m0=xs.length)(ho0:aw[id]?=some (.arr e c (xs.map en)))(hlt:Nat.blt tx n=true)(hy:norm aw (evA n ((tx,.ref id)::l) y)=(.sl (ys.map en),aw1))(ho:aw1[id]?=some (.arr e c (xs.map en)))(hr:app xs ys=some r)(hk:aw1.length=k)(ha:aw1.set id .dead++[.arr e c (r.map en)]=aw')(h:K2 (.ref k) aw'):
  OP P N ⟨d,.call ⟨.builtin .append,#[.tmp tx,y],#[t,t]⟩,ty,ps,af,g⟩ (mkA n l) aw K2:=
 TP (λσ w F a har hs=>by
  unfold app at hr;split at hr
  .rename_i hc;cases hr;subst hk ha;have ex:=har.ev (.tmp tx);rw[aF,hx]at ex;have har2:=vW har J (unvw hs ho0 ex (by grind));obtain⟨z',hz1,hz2⟩:=hS.z;have hx2:evA n ((tx,.ref id)::l) (.tmp tx)=.ref id:=by
    show(match Nat.blt tx n with|true=>lkA ((tx,.ref id)::l) tx|false=>.any)=_;rw[hlt];simp[kH]
   refine Es har2 hs (args:=#[.tmp tx,y]) (ats:=#[t,t]) ?_ _ J;simp only[vcApp,hS.u,hz1,aF,hx2,hy,hS.c,RZ,ho];exact⟨trivial,trivial,trivial,hz2,hS.p,λrow hr=>by grind,hc,hS.b,by grind⟩
  .cases hr)
theorem Od {id:Nat}(hs:Sim aw σ w F)(ho:aw[id]?=some o)(hl:o.live=true)(hO:∀v,σ[id]?=some v->ORel σ w F o v->ORel σ w F o' v)(hB:∀v b,Bk o' v b->Bk o v b):Sim (aw.set id o') σ w F/\Mv aw σ w F (aw.set id o') σ w F:=by
 have un:∀(k:Nat) o1,(aw.set id o')[k]?=some o1->o1.live=true->∃o2,aw[k]?=some o2/\o2.live=true/\∀v b,Bk o1 v b->Bk o2 v b:=λk o1 h1 hl1=>by grind
 refine⟨⟨by simp[hs.len],λk o1 v1 ho1 hv1=>?_,λk k' o1 o2 v1 v2 g hne ho1 ho2 hl1 hl2 hv1 hv2 hb1 hb2=>?_,hs.lt,hs.gd⟩,⟨J,J,drO,RJ _,λ_ _ _=>J,λ_ _ h=>h,λ_ h=>h,λ_ h=>.inl h,λb hb=>.inl ?_⟩⟩
 .rcases ca ho1 with⟨rfl,rfl,_⟩|⟨_,h2⟩
  .exact hO v1 hv1 (hs.obj _ _ v1 ho hv1)
  .exact hs.obj k o1 v1 h2 hv1
 .obtain⟨p1,e1,l1,b1⟩:=un k o1 ho1 hl1;obtain⟨p2,e2,l2,b2⟩:=un k' o2 ho2 hl2;exact hs.sep k k' p1 p2 v1 v2 g hne e1 e2 l1 l2 hv1 hv2 (b1 _ _ hb1) (b2 _ _ hb2)
 .obtain⟨k,o1,v1,ho1,hl1,hv1,hb1⟩:=hb;obtain⟨p1,e1,l1,b1⟩:=un k o1 ho1 hl1;exact⟨k,p1,v1,e1,l1,hv1,b1 _ _ hb1⟩
def nilW:List AV->List AV->Prop
 |[],[]=>True
 |a::as₀,b::bs=>(b=a∨a=.nils/\b=.sl [])/\nilW as₀ bs
 |_,_=>False
theorem vO:∀{as₀ bs:U AV},nilW as₀ bs->as₀.length=bs.length
 |[],[],_=>rfl
 |a::as₀,b::bs,h=>by simp[vO h.2]
 |[],_::_,h=>h.elim
 |_::_,[],h=>h.elim
theorem DL:∀{as₀ bs cs ds:U AV},nilW as₀ bs->nilW cs ds->nilW (as₀++cs) (bs++ds)
 |[],[],_,_,_,k=>k
 |a::as₀,b::bs,_,_,h,k=>⟨h.1,DL h.2 k⟩
 |[],_::_,_,_,h,_=>h.elim
 |_::_,[],_,_,h,_=>h.elim
theorem Nc {as₀ bs:U AV}{vs:U Value}(h:nilW as₀ bs)(hr:RelL σ w F as₀ vs):RelL σ w F bs vs:=by
 have key:∀{as₀ bs:U AV},nilW as₀ bs->∀(j:Nat) a b,as₀[j]?=some a->bs[j]?=some b->b=a∨a=.nils/\b=.sl []:=by
  intro as₀;induction as₀ with
  |nil=>simp
  | cons x as₀ ih=>
   intro bs h j a b ha hb;cases bs with
   |nil=>exact h.elim
   |cons y bs=>
    cases j with
    |zero=>simp at ha hb;subst ha hb;exact h.1
    |succ j=>exact ih h.2 j a b (by grind) (by grind)
 refine⟨by rw[hr.1,vO h],λj b v hb hv=>?_⟩;have hj:j<as₀.length:=by grind[vO]
 have ha:as₀[j]?=some as₀[j]:=RG hj;have hav:=hr.2 j _ v ha hv;rcases key h j _ b ha hb with e|⟨e1,e2⟩
 .grind
 .rw[e1]at hav;cases hav;rw[e2];exact .slNil
theorem DQ {z2:U AV}(h:nilW z z2):∀m:Nat,nilW (List.replicate m z).flatten (List.replicate m z2).flatten
 |0=>trivial
 |m+1=>by rw[S9,S9,SE,SE];exact DL h (DQ h m)
theorem iG {k1 k2:IntKind}{zr:α}(hS:SliceOf P t e c)(hz:bu P e=some z)(hw:nilW z (en zr))(hx:evA n l x=.int k1 i)(hy:evA n l y=.int k2 i)(hm:mk i zr=some xs)(hk:aw.length=k)(ha:aw++[.arr e c (xs.map en)]=aw')(h:K2 (.ref k) aw'):
  OP P N ⟨d,.makeSlice t x y,ty,ps,af,g⟩ (mkA n l) aw K2:=by
 unfold mk at hm;split at hm
 .rename_i hc
  cases hm
  subst hk ha
  have base:OP P N ⟨d,.makeSlice t x y,ty,ps,af,g⟩ (mkA n l) aw λr aw1=>r=.ref aw.length/\aw1=aw++[.arr e c (List.replicate i.toNat z)]:=T1 (by
   obtain⟨z',hz1,hz2⟩:=hS.z;rw[hz]at hz1;cases hz1;rw[AJ,hS.u];simp only[aF,hx,hy,hz];refine⟨by rw[hS.c,hz2],by rw[hS.c];exact hS.p,hc.1,Sj _,.inr trivial,?_,by unfold maxLen;omega,by rw[hS.c];simp⟩;have h1:i.toNat<=1099511627776:=by omega
   exact SA (Tb hS.b h1) (by decide))
  refine⟨λst h1 h2 σ w F a hcur Kc Q hK=>base.out st h1 h2 σ w F a hcur Kc Q ?_⟩
  rintro r aw1 σ' w' F' v ⟨rfl,rfl⟩ hc2 hr
  have hget:(aw++[Ob.arr e c (List.replicate i.toNat z)])[aw.length]?=some (.arr e c (List.replicate i.toNat z)):=by simp
  obtain⟨s3,m3⟩:=Od (o':=.arr e c ((List.replicate i.toNat zr).map en)) hc2.sim hget J (λv _ hO=>by
   obtain⟨flat,hown,hfl,hf,hform⟩:=hO;have hlen:(List.replicate i.toNat z).length=((List.replicate i.toNat zr).map en).length:=by simp
   refine⟨flat,by grind,⟨λrow hrow=>?_,hfl.2.1,?_⟩,hf,hform⟩
   .obtain⟨a',ha',rfl⟩:=R3.1 hrow;have hi:0<i.toNat:=by
     grind
    rw[S5 ha',<- vO hw];exact hfl.1 z (by grind)
   .rw[List.map_replicate];exact Nc (DQ hw i.toNat) hfl.2.2) (λ_ _ h=>h)
  have hset:(aw++[Ob.arr e c (List.replicate i.toNat z)]).set aw.length (.arr e c ((List.replicate i.toNat zr).map en))=aw++[.arr e c ((List.replicate i.toNat zr).map en)]:=by simp
  rw[hset]at s3 m3
  exact hK (.ref aw.length) _ σ' w' F' v h (hc2.step s3 m3) (m3.rel hc2.sim hr)
 .cases hm
theorem JK {f:FuncId}{fn:Func}{tS tR i1 i2 x:Nat}{ts:Array TypeId}(hf:P.funcs[f]?=some fn)(hname:(fn.name== "runtime.NumGoroutine")=false)(hb:fn.body.isNone=true)(hn:Extern.findNext fn=none)(he:Extern.find fn=some (Extern.SlicesOverlaps.overlaps #[tS,tS] #[tR]))(hS:SliceOf P tS e c)(hx:evA n l x1=.ref i1)(hy:evA n l y=.vw i2 c lo m cap)(h1:aw[i1]?=some (.arr e c (ys.map en)))(h2:aw[i2]?=some (.arrU e c (xs.map en) x))(hr:ovok ys m=some u)(h:K2 (.bool false) aw):
    OP P N ⟨d,.call ⟨.value (.func f),#[x1,y],ts⟩,ty,ps,af,g⟩ (mkA n l) aw K2:=
  TP (fun σ w F a har hs=>by
    unfold ovok at hr;split at hr
    · rename_i hc;have ex:=har.ev x1;have ey:=har.ev y;rw[aF,hx]at ex;rw[aF,hy]at ey;generalize hvx:a.eval x1=vx at ex;generalize hvy:a.eval y=vy at ey;cases ex with
      |ref _ A q cp hσ=>
      cases ey with
      | vw _ _ _ _ N0 C _ A' B hσ2 hn2 hA _ _=>
        obtain⟨g2,e3,e4⟩:=hA hc.2;subst e3 e4;obtain⟨hq,_,_,_,hcase⟩:=hZ hs h1 hσ;obtain⟨hq2,hqc,g0,flat,cur,e0,hF,hg,hcm,hsz,_⟩:=zb hs h2 hσ2;cases e0;rcases hcase with hcase|⟨g1,cur1,e1,hF1,hg1,_⟩
        · grind
        · subst e1;have hne:g1≠g2:=by
            rintro rfl;have hi:i1≠i2:=by grind
            exact hs.sep i1 i2 _ _ _ _ g1 hi h1 h2 J J hσ hσ2 J J
          obtain⟨ds,hd⟩:=R0.1 hS.s;have hsize:=λw=>eo (P:=P) (w:=w) hd
          have hk0:cur.size≠0:=by rw[hsz];exact Nat.mul_ne_zero (by omega) (by have:=hS.p;omega)
          have hov:=Lib.run_overlaps_apart (P:=P) w tS tR e hS.u _ hsize ⟨g1,0,none⟩ ⟨g2,lo*c,none⟩ q cp m (C- lo) hne e e cur1.size cur.size (by grind[World.shape?]) (by grind[World.shape?]) hk0 (by grind[World.frozen?]) (by grind[World.frozen?]);have hcall:=run_callFunc_extern hf hname hb hn he #[.slice (some ⟨g1,0,none⟩) q cp,.slice (some ⟨g2,lo*c,none⟩) m (C- lo)] w;rw[hov]at hcall;refine⟨.bool false,_,w,aw,σ,F,_,?_,.inl J,hs,.refl ..,.bool _,h⟩;have hvf:a.eval (.func f)=.func (.func f) #[] #[]:=rfl;grind[execOp,resolve,Deferred.ofValue,Result.andThen_ok,invoke]
    · cases hr)
end
end
section
open Go.RowKit
abbrev iI(n:Int):AV:=.int .i64 n
abbrev sL{α:Type}(en:α->List AV)(xs:List α):AV:=.sl (List.map en xs)
abbrev aR{α:Type}(e c:Nat)(en:α->List AV)(xs:List α):Ob:=.arr e c (List.map en xs)
section
variable {P:Program} {N n:Nat} {aw aw':List Ob} {l:List (Nat×AV)} {ops:Array Oper} {os:List Oper} {K:List AV→List Ob→Prop} {o:Oper} {d:Option Tmp} {x:Operand} {ty:TypeId} {ps:String} {af:Array Edge}
theorem sq (h:vcQ P (mkA n l) aw o.op λr=>RS P N ops os K (mkA n (putA l o.dst r)) aw)(hg:o.guard=none:=by rfl)(hq:nQ o.op=true:=by rfl):RS P N ops (o::os) K (mkA n l) aw:=RS.op hg (TV hq h)
variable {j t:Nat}{want:Bool}{l':U (Nat×AV)}
theorem sn {b:Bool}(hbw:b=!want)(h:RS P N ops os K (mkA n (putA l o.dst (.tup []))) aw)(hg:o.guard=some (j,want):=by rfl)(ht:(ops[j]?).bind (·.dst)=some t:=by rfl)(hb:evA n l (.tmp t)=.bool b:=by rfl):
 RS P N ops (o::os) K (mkA n l) aw:=RS.no hg ht hb hbw h
theorem su (h:RS P N ops os K (mkA n (putA l o.dst (.tup []))) aw)(hg:o.guard=some (j,want):=by rfl)(ht:(ops[j]?).bind (·.dst)=some t:=by rfl)(hb:evA n l (.tmp t)=.tup []:=by rfl):
 RS P N ops (o::os) K (mkA n l) aw:=U7 hg ht hb h
def SubA:List (Nat×AV)->List (Nat×AV)->Prop
 |[],_=>True
 |(s,v)::r,l=>lkA l s=v/\SubA r l
theorem Fa:∀{l' l:U (Nat×AV)},SubA l' l->∀t,lkA l' t=.any∨lkA l' t=lkA l t
 |[],l,_,t=>.inl J
 |(s,v)::r,l,h,t=>by
  rw[kH];by_cases e:s=t
  .subst e;rw[if_pos J];exact .inr h.1.symm
  .rw[if_neg e];exact Fa h.2 t
theorem N4 {st:St}{σ:U Value}{w:World}{F:Nat->Prop}{a:Act}(h:SubA l' l)(hc:Cur st (mkA n l) aw σ w F a):Cur st (mkA n l') aw σ w F a:=by
 refine⟨hc.sim,⟨⟨?_,λj x v hx hv=>?_⟩,hc.fr.2⟩,hc.mv,hc.ds⟩
 .have:=hc.fr.1.1;grind[qa]
 .rw[iC]at hx;split at hx
  .rename_i hj;cases hx;rcases Fa h j with e|e
   .rw[e];exact .any _
   .rw[e];exact hc.fr.1.2 j _ v (by rw[iC,if_pos hj]) hv
  .cases hx
theorem T.sub {c:Code}{Q:Exit->U AV->U Ob->Prop}(h:T P N c Q (mkA n l') aw)(hs:SubA l' l):T P N c Q (mkA n l) aw:=⟨λst h1 h2 σ w F a hc=>h.out st h1 h2 σ w F a (N4 hs hc)⟩
section
variable {k:Nat} {li li':Array Bool} {fr fr':List AV}
theorem ra1(i1:Nat)(h1:RO P N ops i1 (RA P N ops k (li.setIfInBounds i1 true) K) fr aw)(hr:Region.ready .any ops li=[i1]:=by decide+kernel):RA P N ops (k+1) li K fr aw:=V5 hr J h1
theorem ra2(i1 i2:Nat)(h1:RO P N ops i1 (RA P N ops k (li.setIfInBounds i1 true) K) fr aw)(h2:RO P N ops i2 (RA P N ops k (li.setIfInBounds i2 true) K) fr aw)(hr:Region.ready .any ops li=[i1,i2]:=by decide+kernel):RA P N ops (k+1) li K fr aw:=V4 hr J J h1 h2
theorem ra3(i1 i2 i3:Nat)(h1:RO P N ops i1 (RA P N ops k (li.setIfInBounds i1 true) K) fr aw)(h2:RO P N ops i2 (RA P N ops k (li.setIfInBounds i2 true) K) fr aw)(h3:RO P N ops i3 (RA P N ops k (li.setIfInBounds i3 true) K) fr aw)
 (hr:Region.ready .any ops li=[i1,i2,i3]:=by decide+kernel):RA P N ops (k+1) li K fr aw:=V3 hr J J J h1 h2 h3
theorem ra4(i1 i2 i3 i4:Nat)(h1:RO P N ops i1 (RA P N ops k (li.setIfInBounds i1 true) K) fr aw)(h2:RO P N ops i2 (RA P N ops k (li.setIfInBounds i2 true) K) fr aw)(h3:RO P N ops i3 (RA P N ops k (li.setIfInBounds i3 true) K) fr aw)
 (h4:RO P N ops i4 (RA P N ops k (li.setIfInBounds i4 true) K) fr aw) (hr:Region.ready .any ops li=[i1,i2,i3,i4]:=by decide+kernel):RA P N ops (k+1) li K fr aw:=V0 hr J J J J h1 h2 h3 h4
end
theorem bz:(∀b,(true||b)=true)/\(∀b,(b||true)=true)/\(∀b,(false||b)=b)/\(∀b,(b||false)=b)/\(∀b,(true&&b)=b)/\(∀b,(b&&true)=b)/\(∀b,(false&&b)=false)/\(∀b,(b&&false)=false)/\(!true)=false/\(!false)=true:=by simp
variable {α:Type}{ρ ids:U Nat}{en:α->U AV}{xs ys:U α}
theorem it (a b:α):(if true=true then a else b)=a:=rfl
class RetI (Q:Exit->List AV->List Ob->Prop) (R:outParam (List AV->List Ob->Prop)):Prop where
 out:∀fr aw,R fr aw->Q .ret fr aw
instance {fn:Func} {M:Nat} {Q:AV->List Ob->Prop}:RetI (retQ P fn M Q) (λfr aw=>cq P fr aw fn.results.toList (Ret M Q aw)):=⟨λ_ _ h=>h⟩
instance {K:List AV->List Ob->Prop} {Q:Exit->List AV->List Ob->Prop} {R:List AV->List Ob->Prop} [h:RetI Q R]:RetI (thenA K Q) R:=⟨h.out⟩
instance {id:Nat} {Q:Exit->List AV->List Ob->Prop} {R:List AV->List Ob->Prop} [h:RetI Q R]:RetI (sG id Q) R:=⟨h.out⟩
instance {α β:Type} {M:Nat} {v:α⊕β} {F:α->List AV} {A:α->List Ob} {Q:Exit->List AV->List Ob->Prop} {R:List AV->List Ob->Prop} [h:RetI Q R]:RetI (LQ M v F A Q) R:=⟨h.out⟩
theorem VL {Q:Exit->U AV->U Ob->Prop}{R:U AV->U Ob->Prop}{fr:U AV}[hq:RetI Q R](h:R fr aw):T P N .ret Q fr aw:=T.ret (hq.out fr aw h)
class PureC (a:AV):Prop where
 out:Pure a
class EnP {α:Type} (en:α->List AV):Prop where
 out:∀a x,x∈en a->Pure x
instance {k:IntKind} {i:Int}:PureC (.int k i):=⟨aL _ _⟩
instance {b:Bool}:PureC (.bool b):=⟨kE _⟩
instance {s:List UInt8}:PureC (.str s):=⟨bc _⟩
instance:PureC .nils:=⟨bT⟩
instance:PureC .nilf:=⟨se⟩
instance {α:Type} {en:α->List AV} {xs:List α} [h:EnP en]:PureC (.sl (xs.map en)):=⟨de h.out _⟩
class PureCs (cs:List AV):Prop where
 out:∀a,a∈cs->Pure a
instance:PureCs []:=⟨λa h=>by cases h⟩
instance {a:AV} {cs:List AV} [h:PureC a] [t:PureCs cs]:PureCs (a::cs):=⟨λb hb=>by cases hb with|head=>exact h.out|tail _ hb=>exact t.out b hb⟩
instance {cs:List AV} [h:PureCs cs]:PureC (.agg cs):=⟨Dw _ h.out⟩
instance {cs:List AV} [h:PureCs cs]:PureC (.tup cs):=⟨Mf _ h.out⟩
theorem eV {id:Nat}(cs:U AV)[h:PureCs cs](ho:aw[id]?=some (.box cs))(t:b7 ρ aw ids aw'):b7 ρ aw (id::ids) (.box cs::aw'):=aA ho (vn h.out) t
theorem ig {id e s:Nat}[h:EnP en](ho:aw[id]?=some (.arr e s (ys.map en)))(hx:xs=ys)(t:b7 ρ aw ids aw'):b7 ρ aw (id::ids) (.arr e s (xs.map en)::aw'):=eD ho h.out hx t
theorem rn_s [hp:EnP en](h:xs=ys):Ren ρ (.sl (xs.map en)) (.sl (ys.map en)):=rn_sl hp.out h
end
end
section
open Go.RowKit
namespace RK
def Over(w w':World):Prop:=∀r,r<w.heap.size->w'.heap[r]?=w.heap[r]?
theorem Over.rfl' (w:World):Over w w:=λ_ _=>J
section
variable {w w':World}{α β:Type}{o:Oper}{t:TypeId}{x:Operand}{ps:Array (Nat×Operand)}{s:Sem α}{f:α->Sem β}
theorem Over.size (h:Over w w'):w.heap.size<=w'.heap.size:=by
 rcases Nat.eq_zero_or_pos w.heap.size with h0|h0
 .omega
 .have:=h (w.heap.size- 1) (by omega);grind
theorem Over.trans {a b c:World}(h:Over a b)(k:Over b c):Over a c:=λr hr=>
 (k r (Sx hr h.size)).trans (h r hr)
inductive Keeps {α:Type}:Sem α->Prop
 |pure (a:α):Keeps (.pure a)
 |load (m:Go.Mode) (a:Addr) (k:Value->Sem α):(∀v,Keeps (k v))->Keeps (.load m a k)
 |new (o:Obj) (k:Nat->Sem α):(∀r,Keeps (k r))->Keeps (.new o k)
 |shape (r:Nat) (k:Option (TypeId×Nat)->Sem α):(∀x,Keeps (k x))->Keeps (.shape r k)
 |frozen (a:Addr) (k:Bool->Sem α):(∀x,Keeps (k x))->Keeps (.frozen a k)
 |getObj (r:Nat) (k:Obj->Sem α):(∀x,Keeps (k x))->Keeps (.getObj r k)
 |choose (q:Question) (k:Nat->Sem α):(∀x,Keeps (k x))->Keeps (.choose q k)
 |program (k:Program->Sem α):(∀x,Keeps (k x))->Keeps (.program k)
 |mark (m:Mark) (k:Sem α):Keeps k->Keeps (.mark m k)
 |halt (h:Halt):Keeps (.halt h)
theorem Keeps.bind (h:Keeps s)(hf:∀a,Keeps (f a)):Keeps (s.bind f):=by
 induction h with
 |pure a=>exact hf a
 |load m a k _ ih=>exact .load m a _ λv=>ih v
 |new o k _ ih=>exact .new o _ λv=>ih v
 |shape r k _ ih=>exact .shape r _ λv=>ih v
 |frozen a k _ ih=>exact .frozen a _ λv=>ih v
 |getObj r k _ ih=>exact .getObj r _ λv=>ih v
 |choose q k _ ih=>exact .choose q _ λv=>ih v
 |program k _ ih=>exact .program _ λv=>ih v
 |mark m k _ ih=>exact .mark m _ ih
 |halt h=>exact .halt h
theorem Keeps.run (h:Keeps s)(P:Program):∀(w:World) (x:α) (w':World),s.run P w=.ok x w'->Over w w':=by
 induction h with
 |pure a=>intro w x w' e;simp only[Sem.run,Result.ok.injEq]at e;rw[<- e.2];exact .rfl' w
 |load m a k _ ih=>
  grind[Sem.run]
 |new o k _ ih=>
  intro w x w' e;simp only[Sem.run]at e;refine Over.trans (λr hr=>?_) (ih _ _ _ _ e);grind
 |shape r k _ ih=>intro w x w' e;exact ih _ _ _ _ e
 |frozen a k _ ih=>intro w x w' e;exact ih _ _ _ _ e
 |getObj r k _ ih=>
  grind[Sem.run]
 |choose q k _ ih=>
  intro w x w' e;simp only[Sem.run]at e;split at e
  .grind
  .exact λr hr=>ih _ _ _ _ e r hr
 |program k _ ih=>intro w x w' e;exact ih _ _ _ _ e
 |mark m k _ ih=>assumption
 |halt h=>simp
theorem Keeps.mb (h:Keeps s)(hf:∀a,Keeps (f a)):Keeps (s >>= f):=h.bind hf
theorem T6 (h:Keeps s){f:α->β}:Keeps (Functor.map f s):=h.bind λa=>.pure _
theorem eK (a:α):Keeps (Pure.pure a:Sem α):=.pure a
theorem i6 (s:String):Keeps (stuck s:Sem α):=.halt _
theorem jJ (u:Unsupported):Keeps (unsupported u:Sem α):=.halt _
theorem iF (a:Addr)(m:Go.Mode):Keeps (Go.load a m):=.load _ _ _ λ_=>.pure _
theorem k_prog:Keeps Go.program:=.program _ λ_=>.pure _
theorem iX (o:Obj):Keeps (newObj o):=.new _ _ λ_=>.pure _
theorem jM (r:Nat):Keeps (Go.shape r):=.shape _ _ λ_=>.pure _
theorem iW (q:Question):Keeps (Go.choose q):=.choose _ _ λ_=>.pure _
theorem Bj (t:TypeId):Keeps (typeInfo t):=by unfold typeInfo;repeat (first|exact eK _|exact i6 _|exact jJ _|exact iF _ _|exact k_prog|exact iX _|exact jM _|exact iW _|assumption|exact Keeps.pure _|exact Keeps.halt _|(refine Keeps.mb ?_ λ_=>?_)|(refine T6 ?_)|(refine Keeps.bind ?_ λ_=>?_)|split)
theorem lJ (t:TypeId):Keeps (underlying t):=by unfold underlying;repeat (first|exact eK _|exact i6 _|exact jJ _|exact iF _ _|exact k_prog|exact iX _|exact jM _|exact iW _|assumption|exact Keeps.pure _|exact Keeps.halt _|(refine Keeps.mb ?_ λ_=>?_)|(refine T6 ?_)|(refine Keeps.bind ?_ λ_=>?_)|split)
theorem nN (t:TypeId):Keeps (sizeOf t):=(Bj t).mb λ_=>eK _
theorem nV (t:TypeId):Keeps (zeroValue t):=by unfold zeroValue;refine(Bj t).mb λ_=>?_;repeat (first|exact eK _|exact i6 _|exact jJ _|exact iF _ _|exact k_prog|exact iX _|exact jM _|exact iW _|assumption|exact Keeps.pure _|exact Keeps.halt _|(refine Keeps.mb ?_ λ_=>?_)|(refine T6 ?_)|(refine Keeps.bind ?_ λ_=>?_)|split)
theorem OC (t:TypeId):Keeps (isAgg t):=by unfold isAgg;refine(lJ t).mb λ_=>?_;repeat (first|exact eK _|exact i6 _|exact jJ _|exact iF _ _|exact k_prog|exact iX _|exact jM _|exact iW _|assumption|exact Keeps.pure _|exact Keeps.halt _|(refine Keeps.mb ?_ λ_=>?_)|(refine T6 ?_)|(refine Keeps.bind ?_ λ_=>?_)|split)
theorem NY (a:Addr):∀(n i:Nat) (acc:Array Value),Keeps (loadCellsFrom a i n acc):=by
 intro n;induction n with
 |zero=>intro i acc;exact eK _
 |succ n ih=>intro i acc;exact(iF _ _).mb λ_=>ih _ _
theorem Lc (t:TypeId)(a:Addr):Keeps (loadVar t a):=by
 unfold loadVar loadCells;refine(OC t).mb λ_=>?_
 split
 .exact(nN t).mb λ_=>(NY _ _ _ _).mb λ_=>eK _
 .exact iF _ _
theorem qh (v:Value):Keeps (Instr.sureAddr v):=by unfold Instr.sureAddr;split<;>(first|exact eK _|exact i6 _|exact jJ _|exact iF _ _|exact k_prog|exact iX _|exact jM _|exact iW _|assumption|exact Keeps.pure _|exact Keeps.halt _|(refine Keeps.mb ?_ λ_=>?_)|(refine T6 ?_)|(refine Keeps.bind ?_ λ_=>?_)|split)
theorem Mo (t:TypeId)(v:Value):Keeps (Instr.loadAt t v):=(qh v).mb λ_=>Lc _ _
theorem nL (t:TypeId)(vs:Array Value):Keeps (newRow t vs):=(iX _).mb λ_=>eK _
theorem k_box (t:TypeId)(v:Value):Keeps (Instr.box t v):=(nL _ _).mb λ_=>eK _
theorem Ou (t:TypeId):Keeps (Instr.alloc t true (.tuple #[])):=by unfold Instr.alloc;exact(nV t).mb λ_=>(nL _ _).mb λ_=>eK _
theorem LB (v:Value):Keeps (asIntOf v):=by unfold asIntOf;split<;>(first|exact eK _|exact i6 _|exact jJ _|exact iF _ _|exact k_prog|exact iX _|exact jM _|exact iW _|exact lJ _|exact nN _|exact nV _|exact qh _|exact nL _ _|assumption|exact Keeps.pure _|exact Keeps.halt _|(refine Keeps.mb ?_ λ_=>?_)|(refine T6 ?_)|(refine Keeps.bind ?_ λ_=>?_)|dsimp only|split)
theorem FI (v:Value):Keeps (goPanic v:Sem α):=.halt _
theorem Mh (k:IntKind)(x y:Int)(c:BoundsCode):Keeps (boundsPanic k x y c:Sem α):=by
 unfold boundsPanic;dsimp only;split
 .refine Keeps.mb (T6 (iW _)) λ_=>?_
  unfold runtimePanic;exact k_prog.mb λ_=>FI _
 .refine Keeps.mb (eK _) λ_=>?_
  unfold runtimePanic;exact k_prog.mb λ_=>FI _
theorem Lv (t:TypeId)(x i:Value):Keeps (Instr.indexAt t x i):=by
 unfold Instr.indexAt;refine(LB i).mb λ_=>?_
 dsimp only;refine(lJ t).mb λ_=>?_
 repeat (first|exact Mh _ _ _ _|(first|exact eK _|exact i6 _|exact jJ _|exact iF _ _|exact k_prog|exact iX _|exact jM _|exact iW _|exact lJ _|exact nN _|exact nV _|exact qh _|exact nL _ _|assumption|exact Keeps.pure _|exact Keeps.halt _|(refine Keeps.mb ?_ λ_=>?_)|(refine T6 ?_)|(refine Keeps.bind ?_ λ_=>?_)|dsimp only|split))
theorem IN (t:TypeId)(len:Nat)(ps:Array (Nat×Value)):Keeps (Instr.buildSlice t len ps):=by unfold Instr.buildSlice;repeat (first|exact eK _|exact i6 _|exact jJ _|exact iF _ _|exact k_prog|exact iX _|exact jM _|exact iW _|exact lJ _|exact nN _|exact nV _|exact qh _|exact nL _ _|assumption|exact Keeps.pure _|exact Keeps.halt _|(refine Keeps.mb ?_ λ_=>?_)|(refine T6 ?_)|(refine Keeps.bind ?_ λ_=>?_)|dsimp only|split)
theorem Pn (f:α->Sem β)(hf:∀a,Keeps (f a))(xs:Array α):Keeps (xs.mapM f):=by
 rw[Array.mapM_eq_mapM_toList];refine T6 ?_;generalize xs.toList=l;induction l with
 |nil=>exact eK _
 |cons a l ih=>rw[List.mapM_cons];exact(hf a).mb λ_=>ih.mb λ_=>eK _
theorem NQ (t:TypeId)(ps:Array (Nat×Value)):Keeps (Instr.build t ps):=by
 unfold Instr.build;refine(nV t).mb λ_=>(lJ t).mb λ_=>?_
 split
 .refine Keeps.mb (Pn _ (λf=>(nN _).mb λ_=>eK _) _) λ_=>?_
  repeat (first|exact eK _|exact i6 _|exact jJ _|exact iF _ _|exact k_prog|exact iX _|exact jM _|exact iW _|exact lJ _|exact nN _|exact nV _|exact qh _|exact nL _ _|assumption|exact Keeps.pure _|exact Keeps.halt _|(refine Keeps.mb ?_ λ_=>?_)|(refine T6 ?_)|(refine Keeps.bind ?_ λ_=>?_)|dsimp only|split)
 .repeat (first|exact eK _|exact i6 _|exact jJ _|exact iF _ _|exact k_prog|exact iX _|exact jM _|exact iW _|exact lJ _|exact nN _|exact nV _|exact qh _|exact nL _ _|assumption|exact Keeps.pure _|exact Keeps.halt _|(refine Keeps.mb ?_ λ_=>?_)|(refine T6 ?_)|(refine Keeps.bind ?_ λ_=>?_)|dsimp only|split)
 .exact i6 _
def Tame(o:Oper):Prop:=∀ρ,∃s:Sem Value,Keeps s/\execOp ρ o=s.bind λx=>.pure (.value x)
theorem Keeps.val {s:Sem Value}(h:Keeps s)(P:Program):∀(w:World) (n:Next) (w':World),
  (s.bind λx=>.pure (.value x)).run P w=.ok n w'->∃x,n=.value x:=by
 induction h with
 |pure a=>simp[Sem.bind]
 |load m a k _ ih=>
  grind[Sem.bind,Sem.run]
 |new o k _ ih=>intro w n w' e;exact ih _ _ _ _ e
 |shape r k _ ih=>intro w n w' e;exact ih _ _ _ _ e
 |frozen a k _ ih=>intro w n w' e;exact ih _ _ _ _ e
 |getObj r k _ ih=>
  grind[Sem.bind,Sem.run]
 |choose q k _ ih=>
  grind[Sem.bind,Sem.run]
 |program k _ ih=>intro w n w' e;exact ih _ _ _ _ e
 |mark m k _ ih=>assumption
 |halt h=>simp[Sem.bind]
theorem Tame.run (h:Tame o){P:Program}{ρ:Operand->Value}{n:Next}(e:(execOp ρ o).run P w=.ok n w'):
  (∃x,n=.value x)/\Over w w':=by
 obtain⟨s,hk,hs⟩:=h ρ
 rw[hs]at e
 exact⟨hk.val P _ _ _ e,(hk.bind λ_=>.pure _).run P _ _ _ e⟩
theorem K6 (h:o.op=.load t x):Tame o:=λρ=>⟨_,Mo t (ρ x),by unfold execOp;rw[h];rfl⟩
theorem Ka (h:o.op=.alloc t):Tame o:=λρ=>⟨_,Ou t,by unfold execOp;rw[h];rfl⟩
theorem L2 (h:o.op=.box t x):Tame o:=λρ=>⟨_,k_box t (ρ x),by unfold execOp;rw[h];rfl⟩
theorem J6 {y:Operand}(h:o.op=.indexAddr t x y):Tame o:=λρ=>⟨_,Lv t (ρ x) (ρ y),by unfold execOp;rw[h];rfl⟩
theorem J4 (h:o.op=.build t ps):Tame o:=λρ=>⟨_,NQ t _,by unfold execOp;rw[h];rfl⟩
theorem Ie {k:Nat}(h:o.op=.buildSlice t k ps):Tame o:=λρ=>⟨_,IN t k _,by unfold execOp;rw[h];rfl⟩
theorem KO (h:o.op=.move x):Tame o:=λρ=>⟨_,.pure (ρ x),by unfold execOp;rw[h];rfl⟩
end
section
variable {P:Program} {md:Region.Mode} {ops:Array Oper} {Q:Exit→Act→World→Prop}
def YieldsO(P:Program)(ops:Array Oper)(o:Oper)(v:Value)(a:Act)(w:World):Prop:=
 (Region.wanted o (yielded ops a.tmps)=true/\∀w',Over w w'->(execOp a.eval o).run P w'=.ok (.value v) w')∨
 (Region.wanted o (yielded ops a.tmps)=false/\v=undef)
variable {i:Nat}{o oi:Oper}{v:Value}{a:Act}{w:World}{K:Act->World->Prop}
theorem YieldsO.wpOp (hi:ops[i]?=some o)(hy:YieldsO P ops o v a w)(h:K (a.put o.dst v) w):Go.wpOp P ops Q i K a w:=by
 unfold Go.wpOp
 simp only[hi]
 rcases hy with⟨hw,hv⟩|⟨hw,rfl⟩
 .simp only[hw,if_true,Oper.wp,hv w (.rfl' w),Oper.upon];exact .inl h
 grind
theorem YieldsO.of_same {a':Act}{w':World}(hy:YieldsO P ops o v a w)(hww:Over w w')(he:execOp a'.eval o=execOp a.eval o)(hw:Region.wanted o (yielded ops a'.tmps)=Region.wanted o (yielded ops a.tmps)):YieldsO P ops o v a' w':=by
 unfold YieldsO at *
 rw[he,hw]
 exact hy.imp (λh=>⟨h.1,λw2 h2=>h.2 w2 (hww.trans h2)⟩) id
theorem Kx {j:Nat}{oj:Oper}(hj:ops[j]?=some oj)(hap:oi.apart ops oj=true)(ht:Tame oj)(hsi:∀cs b,oi.op≠.select cs b)(hsj:∀cs b,oj.op≠.select cs b)(hQ:∀c a w,Q (.panic c) (a.put oi.dst v) w->Q (.panic c) a w)(hy:YieldsO P ops oi v a w)(h:wpOp P ops Q j K (a.put oi.dst v) w):
  wpOp P ops Q j (λa' w'=>YieldsO P ops oi v a' w'/\K (a'.put oi.dst v) w') a w:=by
 obtain⟨h1,h2,h3⟩:=Oper.apart_spec hap
 have keep:∀u w',Over w w'->YieldsO P ops oi v (a.put oj.dst u) w':=λu w' hw=>
  hy.of_same hw (execOp_put oi hsi a oj.dst u h3) (wanted_put oi a oj.dst u h3)
 unfold wpOp at *
 simp only[hj]at *
 rw[wanted_put oj a oi.dst v h1]at h
 split
 .rename_i hw
  simp only[hw,if_true]at h
  rcases h with h|⟨hasks,hlets⟩
  case inr=>exact .inr ⟨by unfold Oper.asks at *;rw[execOp_put oj hsj a oi.dst v h1]at hasks;exact hasks,hlets⟩
  refine .inl ?_
  unfold Oper.wp at *
  rw[execOp_put oj hsj a oi.dst v h1]at h
  have hr:=λn w'=>ht.run (P:=P) (ρ:=a.eval) (w:=w) (w':=w') (n:=n)
  generalize (execOp a.eval oj).run P w=r at *
  cases r with
  |ok n w'=>
   grind[Oper.upon,Act.put_comm]
  |halt x w'=>
   cases x<;>simp only[Oper.upon]at h⊢
   grind
 .rename_i hw
  simp only[hw]at h
  exact⟨keep _ w (.rfl' w),by grind[Act.put_comm]⟩
theorem JX (D:Nat->Bool)(hi:ops[i]?=some oi)(hsel:∀(j:Nat) (o:Oper) cs b,ops[j]?=some o->o.op≠.select cs b)(hQ:∀c a w,Q (.panic c) (a.put oi.dst v) w->Q (.panic c) a w)(hDi:D i=true)(hD:∀j oj,ops[j]?=some oj->D j=true->j≠i->∃e∈oj.after,Region.binds md e=true/\D e.on=true):
  ∀(fuel:Nat) (listed:Array Bool) (a:Act) (w:World),
   (∀j oj,ops[j]?=some oj->D j=false->listed.getD j true=false->oi.apart ops oj=true/\Tame oj) ->
   (∀j,D j=true->listed.getD j false=false) ->
   i∈Region.ready md ops listed->YieldsO P ops oi v a w ->
   wpAny P md ops Q fuel (listed.setIfInBounds i true) (a.put oi.dst v) w->wpAny P md ops Q (fuel+1) listed a w:=by
 intro fuel
 induction fuel with
 | zero=>
  intro listed a w _ _ hr hy H
  refine⟨λh=>(by grind),λj hj=>?_⟩
  by_cases hji:j=i
  .subst hji;exact hy.wpOp hi H
  .have:=ready_mono hj hji
   rw[H.1]at this
   cases this
 | succ fuel ih=>
  intro listed a w hfree hdl hr hy H
  refine⟨λh=>(by grind),λj hj=>?_⟩
  by_cases hji:j=i
  .subst hji;exact hy.wpOp hi H
  .have h1:=H.2 j (ready_mono hj hji)
   obtain⟨hjun,oj,hoj,hall⟩:=mem_ready.1 hj
   have hDj:D j=false:=by grind
   obtain⟨hap,ht⟩:=hfree j oj hoj hDj hjun
   have h2:=Kx hoj hap ht (λcs b=>hsel i oi cs b hi) (λcs b=>hsel j oj cs b hoj) hQ hy h1
   have hfree':∀k ok,ops[k]?=some ok->D k=false->(listed.setIfInBounds j true).getD k true=false->oi.apart ops ok=true/\Tame ok:=λk ok hk hdk hun=>by
    refine hfree k ok hk hdk ?_;by_cases hjk:j=k
    .grind
    .rw[getD_set_ne true hjk]at hun;exact hun
   have hdl':∀k,D k=true->(listed.setIfInBounds j true).getD k false=false:=λk hk=>by
    by_cases hjk:j=k
    .grind
    .rw[getD_set_ne false hjk];grind
   refine wpOp_mono (λa' w' h3=>ih (listed.setIfInBounds j true) a' w' hfree' hdl' (ready_mono hr (Ne.symm hji)) h3.1 ?_) h2
   grind[Array.setIfInBounds_comm]
end
theorem L0{aw:U Ob}{σ:U Value}{w w':World}{F:Nat->Prop}(hs:Sim aw σ w F)(h:Over w w'):Agr aw σ w F w':=by
 rintro b (hb|⟨k,cs,v,h1,h2,h3⟩)
 .exact h b (hs.lt b hb)
 .exact h b (hs.lt_own ⟨k,_,v,h1,J,h2,h3⟩)
section
variable {P:Program} {fr:List AV} {aw:List Ob}
variable {w:World}{a:Act}{o:Oper}
theorem B2 {st:St}{σ:U Value}{F:Nat->Prop}{K:AV->Prop}(hc:Cur st fr aw σ w F a)(h:vcQ P fr aw o.op K):∃v r,(∀w',Over w w'->(execOp a.eval o).run P w'=.ok (.value v) w')/\Rel σ w F r v/\K r:=by obtain⟨v,r,h1,h2,h3⟩:=wt hc.fr hc.sim o h;exact⟨v,r,λw' hw=>h1 w' (L0 hc.sim hw),h2,h3⟩
def FV:Op->Bool
 | .load .. | .alloc .. | .box .. | .move .. | .indexAddr .. | .build .. | .buildSlice ..=>true
 |_=>false
theorem N7 (h:FV o.op=true):Tame o:=by cases e:o.op<;>rw[e]at h<;>first|(cases h;done)|exact K6 e|exact Ka e|exact L2 e|exact KO e|exact J6 e|exact J4 e|exact Ie e
def loadFree(ops:Array Oper)(li:Array Bool)(D:List Nat)(i:Nat):Bool:=
 match ops[i]? with
 |none=>false
 | some oi=>
  D.contains i&&D.all (λj=>li.getD j false==false&&(j==i||match ops[j]? with
   |some oj=>oj.after.any λe=>Region.binds .any e&&D.contains e.on
   |none=>true))&&
  (List.range ops.size).all λj=>D.contains j||li.getD j true||match ops[j]? with
   |some oj=>oi.apart ops oj&&FV oj.op
   |none=>true
theorem Aw {ops:Array Oper}{Q:Exit->Act->World->Prop}(D:U Nat){i:Nat}{oi:Oper}{v:Value}{fuel:Nat}{li:Array Bool}(hi:ops[i]?=some oi)(hs:Region.noSelect ops=true)(hf:loadFree ops li D i=true)(hr:(Region.ready .any ops li).contains i=true)(hQ:∀c a w,Q (.panic c) (a.put oi.dst v) w->Q (.panic c) a w)(hy:YieldsO P ops oi v a w)(h:wpAny P .any ops Q fuel (li.setIfInBounds i true) (a.put oi.dst v) w):wpAny P .any ops Q (fuel+1) li a w:=by
 simp only[loadFree,hi,SR,Sc]at hf
 obtain⟨⟨h1,h2⟩,h3⟩:=hf
 refine JX (λj=>D.contains j) hi (Region.noSelect_spec hs) hQ h1 ?_ fuel li a w ?_ ?_ (by grind) hy h
 .grind
 .intro j oj hj hd hl
  have:=h3 j (by grind)
  simp_all[N7]
 grind
end
end RK
section
variable {P:Program} {N n:Nat} {aw:List Ob} {l:List (Nat×AV)}
end
section
variable {P:Program}
end
end
section
open Go.RowKit
section
variable {P:Program} {N n:Nat} {aw aw':List Ob} {l:List (Nat×AV)} {σ:List Value} {w:World} {F:Nat→Prop}
variable {o o':Ob}{v x:Value}{e k:Nat}{us:U Value}{rows:U (U AV)}
theorem Sim.repl (h:Sim aw σ w F)(id:Nat)(ho:aw[id]?=some o)(hl:o.live=true)(hv:σ[id]?=some v)(o':Ob)(ho':ORel σ w F o' v)(hsub:∀b,Bk o' v b->Bk o v b):Sim (aw.set id o') σ w F:=by
 refine⟨by simp[h.len],λk o1 v1 ho1 hv1=>?_,λk k' o1 o2 v1 v2 g hne ho1 ho2 hl1 hl2 hv1 hv2 hb1 hb2=>?_,h.lt,h.gd⟩
 .rcases ca ho1 with⟨rfl,rfl,_⟩|⟨hne,h1⟩
  .grind
  .exact h.obj k o1 v1 h1 hv1
 .have un:∀(k:Nat) o1 v1,(aw.set id o')[k]?=some o1->o1.live=true->σ[k]?=some v1->∃o2,aw[k]?=some o2/\o2.live=true/\∀b,Bk o1 v1 b->Bk o2 v1 b:=λk o1 v1 h1 hl1 hv1=>by
   grind
  obtain⟨p1,q1,r1,z1⟩:=un k o1 v1 ho1 hl1 hv1;obtain⟨p2,q2,r2,z2⟩:=un k' o2 v2 ho2 hl2 hv2;exact h.sep k k' p1 p2 v1 v2 g hne q1 q2 r1 r2 hv1 hv2 (z1 _ hb1) (z2 _ hb2)
theorem Dof.repl {id:Nat}(ho:aw[id]?=some o)(hl:o.live=true)(hv:σ[id]?=some v)(hsub:∀b,Bk o' v b->Bk o v b){b:Nat}(hb:Dof (aw.set id o') σ b):Dof aw σ b:=by
 obtain⟨k,o1,v1,ho1,hl1,hv1,hb1⟩:=hb;rcases ca ho1 with⟨rfl,rfl,_⟩|⟨_,h2⟩
 .rw[hv]at hv1;cases hv1;exact⟨_,o,v,ho,hl,hv,hsub b hb1⟩
 .exact⟨k,o1,v1,h2,hl1,hv1,hb1⟩
theorem Mv.repl (id:Nat)(ho:aw[id]?=some o)(hl:o.live=true)(hv:σ[id]?=some v)(hsub:∀b,Bk o' v b->Bk o v b):Mv aw σ w F (aw.set id o') σ w F:=
 ⟨J,J,drO,RJ _,λ_ _ _=>J,λ_ _ h=>h,λ_ h=>h,λ_ h=>.inl h,λ_ hb=>.inl (Dof.repl ho hl hv hsub hb)⟩
theorem Mv.lose (id:Nat):Mv aw σ w F (aw.set id .dead) σ w F:=
 ⟨J,J,drO,RJ _,λ_ _ _=>J,λ_ _ h=>h,λ_ h=>h,λ_ h=>.inl h,λ_ hb=>.inl hb.set_dead⟩
theorem Sim.take (h:Sim aw σ w F)(o:Ob)(v:Value)(ho:ORel (σ++[v]) w F o v)(hn:∀b,Bk o v b->¬Dof aw σ b):Sim (aw++[o]) (σ++[v]) w F:=
 h.push2 o v (λ_ _=>J) (RJ _) ho hn
theorem Mv.take {aw0:U Ob}{σ0:U Value}(h:Sim aw σ w F)(m:Mv aw0 σ0 w F aw σ w F)(o:Ob)(v:Value)(hb:∀b,Bk o v b->Dof aw0 σ0 b):Mv aw0 σ0 w F (aw++[o]) (σ++[v]) w F:=by
 refine⟨J,J,drO,RJ _,λ_ _ _=>J,λi u hu=>eB (m.pre i u hu),λ_ h=>h,λ_ h=>.inl h,λb hb1=>?_⟩;obtain⟨k,o1,v1,ho1,hl,hv1,hb2⟩:=hb1;rcases gP ho1 with h1|⟨rfl,rfl⟩
 .have hlt:=(RH.1 h1).1;rw[R2 (by rw[h.len];exact hlt)]at hv1;exact m.own b ⟨k,o1,v1,h1,hl,hv1,hb2⟩
 .rw[<- h.len]at hv1;grind
theorem I3 {e2 size:Nat}{c:Cell}(h:CellRel σ w F e2 size c x):CellRel (σ++[v]) w F e2 size c x:=by
 cases c with
 |own rows=>
  obtain⟨flat,h1,h2,h3,h4⟩:=h;exact⟨flat,h1,⟨h2.1,h2.2.1,h2.2.2.mono (λi x hx=>eB hx) (λ_ h=>h) (λ_ _=>J)⟩,h3,h4⟩
 |fz rows=>exact Rel.mono (λi x hx=>eB hx) (λ_ h=>h) (λ_ _=>J) h
 |hole=>trivial
theorem DD:∀us:U Value,(us.map λu=>([.cst u]:U AV)).flatten=us.map AV.cst
 |[]=>rfl
 |u::us=>by simp[DD us]
theorem wi (hs:Sim aw σ w F){id:Nat}(ho:aw[id]?=some (.hd e k))(hv:σ[id]?=some v):∃us:U Value,σ[k]?=some (.tuple us.toArray)/\(∀u,u∈us->u.oneCell'=true) /\
  Sim (aw.set id (.arr e 1 (us.map λu=>[.cst u]))) σ w F/\Mv aw σ w F (aw.set id (.arr e 1 (us.map λu=>[.cst u]))) σ w F:=by
 obtain⟨us,h1,h2,⟨a,m,c,rfl⟩,h3,h4⟩:=hs.obj id _ v ho hv
 have hsub:∀b,Bk (.arr e 1 (us.map λu=>[.cst u])) (.slice a m c) b->Bk (.hd e k) (.slice a m c) b:=λb hb=>hb
 refine⟨us,h1,h3,hs.repl id ho J hv _ ⟨us,?_,⟨λrow hr=>?_,h3,?_⟩,h4,a,m,c,J⟩ hsub,.repl id ho J hv hsub⟩
 .grind
 .grind
 .rw[DD]
  refine⟨by simp,λj x u hx hu=>?_⟩
  rw[R9,hu]at hx
  cases hx
  exact .cst u
theorem hd_of (hs:Sim aw σ w F){id:Nat}(hk:σ[k]?=some (.tuple us.toArray))(ho:aw[id]?=some (.arr e 1 rows))(hv:σ[id]?=some v)(hus:∀flat,FlatRel σ w F 1 rows flat->flat=us):Sim (aw.set id (.hd e k)) σ w F/\Mv aw σ w F (aw.set id (.hd e k)) σ w F:=by
 obtain⟨flat,h1,h2,h3,a,m,c,rfl⟩:=hs.obj id _ v ho hv;have:=hus flat h2;subst this;have hsub:∀b,Bk (.hd e k) (.slice a m c) b->Bk (.arr e 1 rows) (.slice a m c) b:=λb hb=>hb
 have hlen:flat.length=rows.length:=by have:=h1.1;omega
 exact⟨hs.repl id ho J hv _ ⟨flat,hk,by grind,⟨a,m,c,J⟩,h2.2.1,h3⟩ hsub,.repl id ho J hv hsub⟩
theorem C8 {flat:U Value}(h:FlatRel σ w F 1 rows flat):flat.length=rows.length/\∀(i:Nat) row u,rows[i]?=some row->flat[i]?=some u->∃a,row=[a]/\Rel σ w F a u:=by
 obtain⟨h1,_,h2⟩:=h;have hf:∀(R:U (U AV)),(∀row,row∈R->row.length=1)->R.flatten.length=R.length/\∀(i:Nat) row,R[i]?=some row->∃a,row=[a]/\R.flatten[i]?=some a:=by
  intro R;induction R with
  |nil=>simp
  |cons r R ih=>
   intro h;obtain⟨e1,e2⟩:=ih λrow hr=>h row (RQ _ hr)
   obtain⟨a,ha⟩:=List.length_eq_one_iff.1 (h r RM);grind
 obtain⟨e1,e2⟩:=hf rows h1;refine⟨by rw[h2.1,e1],λi row u hi hu=>?_⟩;obtain⟨a,b1,b2⟩:=e2 i row hi;exact⟨a,b1,h2.2 i a u b2 hu⟩
theorem Qg (hs:Sim aw σ w F){i c:Nat}{cells:U Cell}(ho:aw[k]?=some (.cl e c cells))(hk:σ[k]?=some (.tuple us.toArray))(hi:cells[i]?=some (.own rows))(hx:us[i]?=some x):
  Sim (aw.set k (.cl e c (cells.set i .hole))++[.arr e c rows]) (σ++[x]) w F/\Mv aw σ w F (aw.set k (.cl e c (cells.set i .hole))++[.arr e c rows]) (σ++[x]) w F:=by
 obtain⟨us',e1,hl,hc,hd⟩:=hs.obj k _ _ ho hk
 have:=pZ e1
 subst this
 have hsub:∀b,Bk (.cl e c (cells.set i .hole)) (.tuple us.toArray) b->Bk (.cl e c cells) (.tuple us.toArray) b:=λb hb=>by
  obtain⟨us',e1,j,rows',y,h1,h2,h3⟩:=hb;rcases ca h1 with⟨_,h4,_⟩|⟨_,h4⟩
  .cases h4
  .exact⟨us',e1,j,rows',y,h4,h2,h3⟩
 have hO:ORel σ w F (.cl e c (cells.set i .hole)) (.tuple us.toArray):=by
  refine⟨us,J,by grind,λj c' y h1 h2=>?_,λj j' r r' y y' g hne h1 h2 h3 h4 h5 h6=>?_⟩
  .rcases ca h1 with⟨_,h4,_⟩|⟨_,h4⟩
   .subst h4;trivial
   grind
  .rcases ca h1 with⟨_,e,_⟩|⟨_,e⟩
   .cases e
   .rcases ca h2 with⟨_,e',_⟩|⟨_,e'⟩
    .cases e'
    .exact hd j j' r r' y y' g hne e e' h3 h4 h5 h6
 have s1:=hs.repl k ho J hk _ hO hsub
 have m1:Mv aw σ w F (aw.set k (.cl e c (cells.set i .hole))) σ w F:=.repl k ho J hk hsub
 obtain⟨flat,f1,f2,f3,f4⟩:=hc i _ x hi hx
 have hown:∀b,Bk (.arr e c rows) x b->Bk (.cl e c cells) (.tuple us.toArray) b:=λb hb=>by obtain⟨a,m,cc,rfl⟩:=f4;exact⟨us,J,i,rows,_,hi,hx,hb.slice_inv⟩
 refine⟨s1.take _ x ⟨flat,f1,⟨f2.1,f2.2.1,f2.2.2.mono (λi x hx=>eB hx) (λ_ h=>h) (λ_ _=>J)⟩,f3,f4⟩ (λb hb hdf=>?_),.take s1 m1 _ x λb hb=>⟨k,_,_,ho,J,hk,hown b hb⟩⟩
 obtain⟨j,o1,v1,ho1,hl1,hv1,hb1⟩:=hdf
 rcases ca ho1 with⟨rfl,rfl,_⟩|⟨hne,h2⟩
 .rw[hk]at hv1;cases hv1
  obtain⟨us',e2,j,rows',y,g1,g2,g3⟩:=hb1
  have:=pZ e2
  subst this
  rcases ca g1 with⟨_,e,_⟩|⟨hji,e⟩
  .cases e
  .obtain⟨a,m,cc,rfl⟩:=f4
   exact hd j i rows' rows y _ b hji e hi g2 hx g3 hb.slice_inv
 .exact hs.sep j k o1 _ v1 _ b hne h2 ho hl1 J hv1 hk hb1 (hown b hb)
end
end
section
open Go.RowKit
def cel{α:Type}(en:α->List AV)(p:Bool×List α):Cell:=match p.1 with
 |true=>.fz (p.2.map en)
 |false=>.own (p.2.map en)
abbrev cL{α:Type}(en:α->List AV)(xs:List (Bool×List α)):List Cell:=xs.map (cel en)
section
variable {P:Program} {N n:Nat} {aw aw':List Ob} {l:List (Nat×AV)} {σ:List Value} {w:World} {F:Nat→Prop}
variable {d:Option Tmp} {ty:TypeId} {ps:String} {af:Array Edge} {g:Option (Nat×Bool)} {K2:AV→List Ob→Prop} {α:Type} {en:α→List AV}
variable {k e c t m:Nat}{cells:U Cell}{x:Operand}
theorem za (hs:Sim aw σ w F){us:U Value}(ho:aw[k]?=some (.cl e c cells))(hk:σ[k]?=some (.tuple us.toArray)):us.length=cells.length:=by obtain⟨us',e1,h,_⟩:=hs.obj k _ _ ho hk;grind
theorem J3 {e2 id:Nat}{y:Operand}{kk:IntKind}{i:Int}(hS:SliceOf P t e 1)(hx:evA n l x=.ref id)(hy:evA n l y=.int kk i)(ho:aw[id]?=some (.hd e k))(hc:aw[k]?=some (.cl e2 c cells))(hm:ixN cells i=some m)(h:K2 (.aptr id 1 m 0) aw):
  OP P N ⟨d,.indexAddr t x y,ty,ps,af,g⟩ (mkA n l) aw K2:=
 TP (λσ w F a har hs=>by
  have ex:=har.ev x;rw[aF,hx]at ex;generalize hvx:a.eval x=vx at ex;cases ex with
  |ref _ A q cp hσ=>
   obtain⟨us,h1,h2,s1,m1⟩:=wi hs ho hσ;have hlen:=za hs hc h1;have hid:id<aw.length:=(RH.1 ho).1;have ho1:(aw.set id (.arr e 1 (us.map λu=>[.cst u])))[id]?=some (.arr e 1 (us.map λu=>[.cst u])):=by grind
   have hi:0<=i/\i<cells.length/\m=i.toNat:=by grind[ixN]
   have hq:=Bc (K:=λr=>r=.aptr id 1 m 0) hS hx hy ho1 J hi.1 (by grind) (by rw[hi.2.2]);obtain⟨v,r,hrun,hrel,rfl⟩:=wt har s1 (⟨d,.indexAddr t x y,ty,ps,af,g⟩:Oper) hq;exact⟨v,_,w,aw,σ,F,_,hrun w (λ_ _=>J),.inl J,hs,.refl ..,hrel,h⟩)
theorem Kk {e2 id:Nat}{cl:Cell}(hk:dN P t=some false)(hx:evA n l x=.aptr id 1 m 0)(ho:aw[id]?=some (.hd e k))(hc:aw[k]?=some (.cl e2 c cells))(hm:cells[m]?=some cl)(hh:∀rows,cl=.own rows∨cl=.fz rows->True)(hn:cl≠.hole)(h:K2 (.iref k m) aw):
    OP P N ⟨d,.load t x,ty,ps,af,g⟩ (mkA n l) aw K2:=
  TP (fun σ w F a har hs=>by
    have ex:=har.ev x;rw[aF,hx]at ex;generalize hvx:a.eval x=vx at ex;cases ex with
    | aptr _ _ _ _ gb q cp hσ=>
      obtain⟨us,h1,h2,s1,m1⟩:=wi hs ho hσ;have hlen:=za hs hc h1;have hml:=(RH.1 hm).1;have hid:id<aw.length:=(RH.1 ho).1;have ho1:(aw.set id (.arr e 1 (us.map λu=>[.cst u])))[id]?=some (.arr e 1 (us.map λu=>[.cst u])):=by grind
      have hum:us[m]?=some us[m]:=RG (by omega);have hv:vcE P (mkA n l) (aw.set id (.arr e 1 (us.map λu=>[.cst u]))) (.load t x) (λr _=>r=.cst us[m]):=by show(match ev (mkA n l) x with| .aptr id size i off=>(match(aw.set _ _)[id]? with|some (.arr _ size' rows)=>size'=size/\i<rows.length/\∀row,rows[i]?=some row->co P t row off λr=>_|_=>False)|_=>False);simp_all[aF,co]
      obtain⟨v,r,hrun,hrel,rfl⟩:=Fc har s1 hv ⟨d,.load t x,ty,ps,af,g⟩ J;generalize hum2:us[m]=u at hrel hum;cases hrel with
      | cst =>
        obtain⟨us',e1,_,hcr,_⟩:=hs.obj k _ _ hc h1;have:=pZ e1;subst this;have hcm:=hcr m _ v hm hum;have hsl:∃A q cp,v=.slice A q cp:=by
          cases cl with
          |own rows=>exact hcm.choose_spec.2.2.2
          | fz rows=>
            have:Rel σ w F (.sl rows) v:=hcm;cases this with
            |slNil=>simp
            |sl=>simp
          |hole=>grind
        obtain⟨A,q',cp',rfl⟩:=hsl;exact⟨_,_,w,aw,σ,F,_,hrun,.inl J,hs,.refl ..,.iref k m A q' cp' _ h1 (by grind),h⟩)
theorem Me (hs:Sim aw σ w F)(hc:aw[k]?=some (.cl e c cells)){rows:U (U AV)}(hm:cells[m]?=some (.own rows)∨cells[m]?=some (.fz rows)){v:Value}(hr:Rel σ w F (.iref k m) v):∃A cp us,v=.slice A rows.length cp/\σ[k]?=some (.tuple us)/\us.toList[m]?=some v:=by
 cases hr with
 | iref _ _ A q cp vs h1 h2=>
  obtain⟨us',e1,_,hcr,_⟩:=hs.obj k _ _ hc h1;have e2:vs=us'.toArray:=by injection e1
  subst e2;have h3:us'[m]?=some (.slice A q cp):=by grind
  have hq:q=rows.length:=by
   rcases hm with hm|hm
   .obtain⟨flat,g1,_⟩:=hcr m _ _ hm h3;rcases g1.2 with⟨e3,e4⟩|⟨gg,cap,cur,e3,_⟩
    all_goals grind
   .have:=hcr m _ _ hm h3;have:Rel σ w F (.sl rows) (.slice A q cp):=this;cases this with
    |slNil=>rfl
    |sl=>rfl
  grind
end
end
section
open Go.RowKit
section
variable {P:Program} {N n:Nat} {aw aw':List Ob} {l:List (Nat×AV)} {σ:List Value} {w:World} {F:Nat→Prop}
variable {d:Option Tmp} {ty:TypeId} {ps:String} {af:Array Edge} {g:Option (Nat×Bool)} {K2:AV→List Ob→Prop} {α:Type} {en:α→List AV}
def cR(us:List Value):List (List AV):=us.map λu=>[.cst u]
variable {us:U Value}{e k c q:Nat}{cells:U Cell}{rows:U (U AV)}{x:Value}
theorem EO {flat:U Value}(h:FlatRel σ w F 1 (cR us) flat):flat=us:=by
 obtain⟨e1,e2⟩:=C8 h;have hl:flat.length=us.length:=by rw[e1];simp[cR]
 refine List.ext_getElem hl λi h1 h2=>?_
 obtain⟨a,b1,b2⟩:=e2 i [.cst us[i]] flat[i] (by simp[cR]) (RG h1);injection b1 with b3
 subst b3;generalize hv:flat[i]=v at b2;generalize us[i]=u at b2;cases b2;rfl
theorem σ_of (hs:Sim aw σ w F){id:Nat}{o:Ob}(ho:aw[id]?=some o):∃v,σ[id]?=some v:=by have:=(RH.1 ho).1;exact⟨_,RG (by rw[hs.len];exact this)⟩
theorem OI (hs:Sim aw σ w F){id:Nat}(hk:σ[k]?=some (.tuple us.toArray))(ho:aw[id]?=some (.arr e 1 (cR us))):Sim (aw.set id (.hd e k)) σ w F/\Mv aw σ w F (aw.set id (.hd e k)) σ w F:=by grind[σ_of,hd_of,EO]
theorem FR {aw1:U Ob}(s1:Sim aw1 σ w F)(m1:Mv aw σ w F aw1 σ w F)(hs:Sim aw σ w F)(D:Nat->Prop)(hD:∀b,Dof aw1 σ b->∃j o v,¬D j/\aw[j]?=some o/\o.live=true/\σ[j]?=some v/\Bk o v b)(hl:us.length=cells.length)(hc:∀(i:Nat) cl x,cells[i]?=some cl->us[i]?=some x->CellRel σ w F e c cl x)(hb:∀(i:Nat) rows x b,cells[i]?=some (.own rows)->us[i]?=some x->x.ownBlock=some b->∃j o v,D j/\aw[j]?=some o/\o.live=true/\σ[j]?=some v/\Bk o v b)(hd:∀(i j:Nat) rows rows' x y g,i≠j->cells[i]?=some (.own rows)->cells[j]?=some (.own rows')->us[i]?=some x->us[j]?=some y->x.ownBlock=some g->y.ownBlock=some g->False):
  Sim (aw1++[.cl e c cells]) (σ++[.tuple us.toArray]) w F/\Mv aw σ w F (aw1++[.cl e c cells]) (σ++[.tuple us.toArray]) w F:=by
 have key:∀b,Bk (.cl e c cells) (.tuple us.toArray) b->∃j o v,D j/\aw[j]?=some o/\o.live=true/\σ[j]?=some v/\Bk o v b:=λb h=>by obtain⟨us',e1,i,rows,x,h2,h3,h4⟩:=h;grind
 refine⟨s1.take _ _ ⟨us,J,hl,λi cl x h1 h2=>I3 (hc i cl x h1 h2),hd⟩ (λb h hdf=>?_),.take s1 m1 _ _ λb h=>?_⟩
 .obtain⟨j,o,v,d1,d2,d3,d4,d5⟩:=key b h
  obtain⟨j',o',v',e1,e2,e3,e4,e5⟩:=hD b hdf
  exact hs.sep j j' o o' v v' b (λe=>e1 (e▸d1)) d2 e2 d3 e3 d4 e4 d5 e5
 .obtain⟨j,o,v,_,d2,d3,d4,d5⟩:=key b h
  exact⟨j,o,v,d2,d3,d4,d5⟩
theorem dof2 {b:Nat}(h:Dof ((aw.set k .dead).set q .dead) σ b):∃j o v,¬(j=k∨j=q)/\aw[j]?=some o/\o.live=true/\σ[j]?=some v/\Bk o v b:=by obtain⟨j,o,v,h1,h2,h3,h4⟩:=h;grind[Ob.live]
theorem Ng (hs:Sim aw σ w F)(hq:aw[q]?=some (.arr e c rows))(hx:σ[q]?=some x):CellRel σ w F e c (.own rows) x/\∀b,x.ownBlock=some b->Bk (.arr e c rows) x b:=by have h:=hs.obj q _ x hq hx;obtain⟨flat,h1,h2,h3,a,m,cc,rfl⟩:=h;exact⟨⟨flat,h1,h2,h3,a,m,cc,J⟩,λb hb=>.slice hb⟩
theorem DX (hs:Sim aw σ w F)(ho:aw[k]?=some (.cl e c cells))(hk:σ[k]?=some (.tuple us.toArray)):
  us.length=cells.length/\(∀(i:Nat) cl x,cells[i]?=some cl->us[i]?=some x->CellRel σ w F e c cl x) /\
  (∀(i j:Nat) rows rows' x y g,i≠j->cells[i]?=some (.own rows)->cells[j]?=some (.own rows')->us[i]?=some x->us[j]?=some y->x.ownBlock=some g->y.ownBlock=some g->False) /\
  (∀(i:Nat) rows x b,cells[i]?=some (.own rows)->us[i]?=some x->x.ownBlock=some b->Bk (.cl e c cells) (.tuple us.toArray) b):=by
 obtain⟨us',e1,h1,h2,h3⟩:=hs.obj k _ _ ho hk
 have:=pZ e1
 subst this
 exact⟨h1,h2,h3,λi rows x b a1 a2 a3=>⟨us,J,i,rows,x,a1,a2,a3⟩⟩
theorem PE (hs:Sim aw σ w F){m:Nat}(ho:aw[k]?=some (.cl e c cells))(hk:σ[k]?=some (.tuple us.toArray))(hq:aw[q]?=some (.arr e c rows))(hx:σ[q]?=some x):
  Sim ((aw.set k .dead).set q .dead++[.cl e c (cells.set m (.own rows))]) (σ++[.tuple (us.set m x).toArray]) w F/\Mv aw σ w F ((aw.set k .dead).set q .dead++[.cl e c (cells.set m (.own rows))]) (σ++[.tuple (us.set m x).toArray]) w F:=by
 obtain⟨hl,hc,hd,hb⟩:=DX hs ho hk
 obtain⟨qc,qb⟩:=Ng hs hq hx
 have hkq:k≠q:=by grind
 refine FR ((hs.lose k).lose q) ((Mv.lose k).trans (Mv.lose q)) hs (λj=>j=k∨j=q) (λb h=>dof2 h) (by grind) (λi cl y h1 h2=>?_) (λi r y b h1 h2 h3=>?_) (λi j r r' y y' g hne h1 h2 h3 h4 h5 h6=>?_)
 .grind
 .rcases ca h1 with⟨rfl,e1,_⟩|⟨hi,h4⟩
  .rcases ca h2 with⟨_,rfl,_⟩|⟨hj,_⟩
   .exact⟨q,_,_,.inr J,hq,J,hx,qb b h3⟩
   omega
  .rcases ca h2 with⟨rfl,_,_⟩|⟨_,h5⟩
   .omega
   .exact⟨k,_,_,.inl J,ho,J,hk,hb i r y b h4 h5 h3⟩
 .rcases ca h1 with⟨rfl,e1,_⟩|⟨hi,a1⟩
  .rcases ca h2 with⟨rfl,_,_⟩|⟨hj,a2⟩
   .exact hne J
   .rcases ca h3 with⟨_,rfl,_⟩|⟨hh,_⟩
    .rcases ca h4 with⟨rfl,_,_⟩|⟨_,b4⟩
     .exact hj J
     .exact hs.sep q k _ _ _ _ g (Ne.symm hkq) hq ho J J hx hk (qb g h5) (hb j r' y' g a2 b4 h6)
    omega
  .rcases ca h3 with⟨rfl,_,_⟩|⟨_,b3⟩
   .omega
   rcases ca h2 with⟨rfl,e2,_⟩|⟨hj,a2⟩
   .rcases ca h4 with⟨_,rfl,_⟩|⟨hh,_⟩
    .exact hs.sep k q _ _ _ _ g hkq ho hq J J hk hx (hb i r y g a1 b3 h5) (qb g h6)
    omega
   .rcases ca h4 with⟨rfl,_,_⟩|⟨_,b4⟩
    all_goals grind
theorem Qc (hs:Sim aw σ w F)(e c m:Nat):
  Sim (aw++[.cl e c (List.replicate m (.own []))]) (σ++[.tuple (List.replicate m (Value.slice none 0 0)).toArray]) w F/\Mv aw σ w F (aw++[.cl e c (List.replicate m (.own []))]) (σ++[.tuple (List.replicate m (Value.slice none 0 0)).toArray]) w F:=by
 have rep:∀{β:Type} (i:Nat) (a b:β),(List.replicate m a)[i]?=some b->b=a:=λi a b h=>by grind
 refine FR hs (.refl ..) hs (λ_=>False) (λb h=>by obtain⟨j,o,v,h⟩:=h;grind) (by simp) (λi cl y h1 h2=>?_) (λi r y b h1 h2 h3=>?_) (λi j r r' y y' g hne h1 h2 h3 h4 h5 h6=>?_)
 .rw[rep i _ _ h1,rep i _ _ h2]
  exact⟨[],⟨by simp,.inl ⟨J,J⟩⟩,⟨λrow h=>by simp at h,λu h=>by simp at h,.nil⟩,λg h=>by grind[Value.ownBlock],_,_,_,J⟩
 all_goals (grind[Value.ownBlock])
end
end
section
section
variable {α:Type}
def atc(xs:List (Bool×List α))(m:Nat):Option (List α):=(xs[m]?).map (·.2)
def owc(xs:List (Bool×List α))(m:Nat):Option (List α):=match xs[m]? with|some (false,r)=>some r|_=>none
def own(xs:List (Bool×List α))(m:Nat)(r:List α):List (Bool×List α):=xs.set m (false,r)
variable {xs:U (Bool×U α)}{m:Nat}{r:U α}
theorem LZ (h:atc xs m=some r):∃b,xs[m]?=some (b,r):=by grind[atc]
theorem Mp (h:owc xs m=some r):xs[m]?=some (false,r):=by grind[owc]
theorem Gx (h:atc xs m=some r):m<xs.length:=by grind[LZ]
end
end
section
open Go.RowKit
section
variable {P:Program} {N n:Nat} {aw aw':List Ob} {l:List (Nat×AV)} {σ:List Value} {w:World} {F:Nat→Prop}
variable {d:Option Tmp} {ty:TypeId} {ps:String} {af:Array Edge} {g:Option (Nat×Bool)} {K2:AV→List Ob→Prop} {α:Type} {en:α→List AV}
abbrev cH(en:α->List AV)(xs:List (Bool×List α))(m:Nat):List Cell:=(cL en xs).set m .hole
variable {xs:U (Bool×U α)}{m t e c k q kn:Nat}{r:U α}{i:Int}{x y:Operand}{cells:U Cell}{a:Act}{A:Ob}{rows:U (U AV)}
theorem cl_l:(cL en xs).length=xs.length:=by simp[cL]
theorem cl_lh:(cH en xs m).length=xs.length:=by simp[cH,cL]
theorem cl_s:(cL en xs).set m (.own (r.map en))=cL en (own xs m r):=by unfold own;rw[cL,cL,List.map_set];rfl
theorem cl_sh:(cH en xs m).set m (.own (r.map en))=cL en (own xs m r):=by simp[cl_s]
theorem O1 {β γ:Type}{xs:U β}{ys:U γ}(hl:ys.length=xs.length)(h:ixN xs i=some m):ixN ys i=some m:=by grind[ixN]
theorem sY {e2 id:Nat}{kk:IntKind}(hS:SliceOf P t e 1)(hx:evA n l x=.ref id)(hy:evA n l y=.int kk i)(ho:aw[id]?=some (.hd e k))(hc:aw[k]?=some (.cl e2 c cells))(hl:cells.length=xs.length)(hm:ixN xs i=some m)(h:K2 (.aptr id 1 m 0) aw):
 OP P N ⟨d,.indexAddr t x y,ty,ps,af,g⟩ (mkA n l) aw K2:=J3 hS hx hy ho hc (O1 hl hm) h
theorem wh {e2 id:Nat}(hk:dN P t=some false)(hx:evA n l x=.aptr id 1 m 0)(ho:aw[id]?=some (.hd e k))(hc:aw[k]?=some (.cl e2 c (cL en xs)))(hm:atc xs m=some r)(h:K2 (.iref k m) aw):
  OP P N ⟨d,.load t x,ty,ps,af,g⟩ (mkA n l) aw K2:=by
 have hlt:=Gx hm
 have h1:(cL en xs)[m]?=some (cel en xs[m]):=by grind
 exact Kk hk hx ho hc h1 (λ_ _=>trivial) (by grind[cel]) h
theorem Ni {st:St}(hcur:Cur st (mkA n l) aw σ w F a)(hx:evA n l (.tmp t)=.iref k m)(hc:aw[k]?=some (.cl e c (cL en xs)))(hm:owc xs m=some r):
  ∃σ' F',Cur st (mkA n ((t,.ref aw.length)::l)) (aw.set k (.cl e c (cH en xs m))++[.arr e c (r.map en)]) σ' w F' a:=by
 have hs:=hcur.sim
 have ex:=hcur.fr.ev (.tmp t)
 rw[aF,hx]at ex
 generalize hvx:a.eval (.tmp t)=vx at ex
 have hcell:(cL en xs)[m]?=some (.own (r.map en)):=by rw[R9,Mp hm];rfl
 obtain⟨A,cp,vs,rfl,h1,h2⟩:=Me hs hc (.inl hcell) ex
 have hk1:σ[k]?=some (.tuple vs.toList.toArray):=by omega
 obtain⟨s1,m1⟩:=Qg hs hc hk1 hcell h2
 exact⟨_,_,s1,vW (m1.aRel hs hcur.fr) hvx (.ref aw.length A _ cp (by rw[<- hs.len];simp)),hcur.mv.trans m1,hcur.ds⟩
theorem UT {ops:Array Oper}{i:Nat}{K:U AV->U Ob->Prop}(t k m:Nat)(hx:evA n l (.tmp t)=.iref k m)(hc:aw[k]?=some (.cl e c (cL en xs)))(hm:owc xs m=some r)(hq:aw.length=q)(ha:aw.set k (.cl e c (cH en xs m))++[.arr e c (r.map en)]=aw')(h:RO P N ops i K (mkA n ((t,.ref q)::l)) aw'):RO P N ops i K (mkA n l) aw:=
 ⟨λst h1 h2 σ w F a hcur=>by subst ha hq;obtain⟨σ',F',hc'⟩:=Ni hcur hx hc hm;exact h.out st h1 h2 σ' w F' a hc'⟩
theorem Ph {aw:U Ob}{id:Nat}{B C z h:Ob}(hid:id<aw.length)(h1:id≠k)(h2:id≠q):(((aw.set id A).set k B).set q C++[z]).set id h=((aw.set id h).set k B).set q C++[z]:=by simp_all[List.set_comm,Ne.symm]
theorem PY {us:U Value}{u:Value}:(cR us).set m [.cst u]=cR (us.set m u):=by simp[cR]
theorem LL {e2 id ty:Nat}{v:Value}(hs:Sim aw σ w F)(har:ARel σ w F (mkA n ((ty,.cst v)::l)) a)(hv:v.oneCell'=true)(ht:P.cellsOf t=1)(hu:(P.underlying t).isSome=true)(hx:evA n ((ty,.cst v)::l) x=.aptr id 1 m 0)(hy:evA n ((ty,.cst v)::l) (.tmp ty)=.cst v)(ho:aw[id]?=some (.hd e k))(hc:aw[k]?=some (.cl e2 c cells))(hm:m<cells.length)(o:Oper)(hop:o.op=.store t x (.tmp ty)):
  ∃(us:U Value) (w':World) (σ':U Value) (F':Nat->Prop) (nx:_) (vv:Value),σ[k]?=some (.tuple us.toArray)/\(execOp a.eval o).run P w=.ok nx w'/\(nx=.value vv∨(nx=.skip/\vv=undef))/\Sim (aw.set id (.arr e 1 (cR (us.set m v)))) σ' w' F'/\Mv aw σ w F (aw.set id (.arr e 1 (cR (us.set m v)))) σ' w' F':=by
 have ex:=har.ev x
 rw[aF,hx]at ex
 generalize hvx:a.eval x=vx at ex
 cases ex with
 | aptr _ _ _ _ gb q cp hσ=>
  obtain⟨us,h1,h2,s1,m1⟩:=wi hs ho hσ
  have hlen:=za hs hc h1
  have hid:id<aw.length:=(RH.1 ho).1
  have ho1:(aw.set id (.arr e 1 (us.map λu=>[.cst u])))[id]?=some (.arr e 1 (us.map λu=>[.cst u])):=by grind
  have hcv:(AV.cst v).cells=some [.cst v]:=by show(if v.oneCell'=true then some [AV.cst v]else none)=_;grind
  have hvc:vcE P (mkA n ((ty,.cst v)::l)) (aw.set id (.arr e 1 (us.map λu=>[.cst u]))) (.store t x (.tmp ty)) (λr aw2=>aw2=aw.set id (.arr e 1 (cR (us.set m v)))):=by
   simp only[vcE,aF,hx,hy,hcv,ho1];refine⟨hu,trivial,by rw[ht];rfl,by grind,RJ _,λrow hrow=>?_⟩;rw[R9]at hrow;cases hum:us[m]? with
   |none=>grind
   |some u=>
    rw[hum]at hrow;cases hrow;rw[List.set_set];show aw.set id (.arr e 1 ((cR us).set m [.cst v]))=_;rw[PY]
  obtain⟨vv,nx,w',aw2,σ',F',r,hrun,hn,s2,m2,_,rfl⟩:=ED har s1 hvc o hop
  exact⟨us,w',σ',F',nx,vv,h1,hrun,hn,s2,m1.trans m2⟩
theorem xv {aw:U Ob}{id:Nat}{o:Ob}(h:aw[k]?=some o)(hne:id≠k):(aw.set id A)[k]?=some o:=by grind
theorem Oz {e2 id y:Nat}{cells':U Cell}(ht:P.cellsOf t=1)(hu:(P.underlying t).isSome=true)(hx:∀v,evA n ((y,.cst v)::l) x=.aptr id 1 m 0)(hyv:∀v,evA n ((y,.cst v)::l) (.tmp y)=.cst v)(hy:evA n l (.tmp y)=.ref q)(ho:aw[id]?=some (.hd e k))(hc:aw[k]?=some (.cl e2 c cells))(hq:aw[q]?=some (.arr e2 c rows)){xs0:U (Bool×U α)}{r0:U α}(hl0:cells.length=xs0.length)(hm0:atc xs0 m=some r0)(hset:cells.set m (.own rows)=cells')(hk:aw.length=kn)(ha:((aw.set id (.hd e kn)).set k .dead).set q .dead++[.cl e2 c cells']=aw')(h:K2 .any aw'):
  OP P N ⟨d,.store t x (.tmp y),ty,ps,af,g⟩ (mkA n l) aw K2:=
 TP (λσ w F a har hs=>by
  subst ha hk hset;have hm:m<cells.length:=by simp_all[Gx]
  have ey:=har.ev (.tmp y);rw[aF,hy]at ey;generalize hvy:a.eval (.tmp y)=vy at ey;cases ey with
  |ref _ A qn cp hσq=>
   obtain⟨us,w',σ',F',nx,vv,h1,hrun,hn,s2,m2⟩:=LL hs (vW har hvy (.cst _)) J ht hu (hx _) (hyv _) ho hc hm ⟨d,.store t x (.tmp y),ty,ps,af,g⟩ J;have hid:id<aw.length:=(RH.1 ho).1;have hik:id≠k:=by grind
   have hiq:id≠q:=by grind
   obtain⟨s3,m3⟩:=PE (m:=m) s2 (xv hc hik) (m2.pre _ _ h1) (xv hq hiq) (m2.pre _ _ hσq);have hlen:σ'.length=aw.length:=by rw[s2.len,SW]
   obtain⟨s4,m4⟩:=OI (id:=id) (e:=e) (k:=aw.length) s3 (by rw[<- hlen];exact List.getElem?_concat_length) (by grind)
   rw[Ph hid hik hiq]at s4 m4;exact⟨vv,nx,w',_,_,F',.any,hrun,hn,s4,m2.trans (m3.trans m4),.any _,h⟩)
theorem Qq (hs:Sim aw σ w F){id e2:Nat}(ho:aw[id]?=some (.arr e 1 (List.replicate m [.nils]))):
  Sim (aw.set id (.hd e aw.length)++[.cl e2 c (cL en (List.replicate m (false,([]:U α))))]) (σ++[.tuple (List.replicate m (Value.slice none 0 0)).toArray]) w F/\Mv aw σ w F (aw.set id (.hd e aw.length)++[.cl e2 c (cL en (List.replicate m (false,([]:U α))))]) (σ++[.tuple (List.replicate m (Value.slice none 0 0)).toArray]) w F:=by
 have hid:id<aw.length:=(RH.1 ho).1
 have e1:cL en (List.replicate m (false,([]:U α)))=List.replicate m (.own []):=by rw[cL,List.map_replicate];rfl
 rw[e1]
 obtain⟨s1,m1⟩:=Qc hs e2 c m
 obtain⟨v,hv⟩:=σ_of hs ho
 have ho1:(aw++[Ob.cl e2 c (List.replicate m (.own []))])[id]?=some (.arr e 1 (List.replicate m [.nils])):=by grind
 obtain⟨s2,m2⟩:=hd_of (e:=e) (k:=aw.length) (us:=List.replicate m (Value.slice none 0 0)) s1 (by rw[<- hs.len];simp) ho1 (eB hv) (λflat hfl=>by
  obtain⟨l1,l2⟩:=C8 hfl;refine List.ext_getElem (by rw[l1];simp) λi h1 h2=>?_
  have hi:i<m:=by grind
  obtain⟨a,b1,b2⟩:=l2 i [.nils] flat[i] (by grind) (RG h1);injection b1 with b3
  subst b3;rw[List.getElem_replicate];generalize hf:flat[i]=u at b2;cases b2;rfl)
 rw[List.set_append_left _ _ hid]at s2 m2
 exact⟨s2,m1.trans m2⟩
theorem Oj {e2:Nat}{k1 k2:IntKind}(hS:SliceOf P t e 1)(hz:bu P e=some [.nils])(hx:evA n l x=.int k1 i)(hy:evA n l y=.int k2 i)(hm:mk i (false,([]:U α))=some xs)(hk:aw.length=k)(hk2:aw.length+1=kn)(ha:aw++[.hd e kn,.cl e2 c (cL en xs)]=aw')(h:K2 (.ref k) aw'):
  OP P N ⟨d,.makeSlice t x y,ty,ps,af,g⟩ (mkA n l) aw K2:=
 TP (λσ w F a har hs=>by
  subst ha hk hk2;unfold mk at hm;split at hm
  .rename_i hc;cases hm;have hv:vcE P (mkA n l) aw (.makeSlice t x y) (λr aw2=>r=.ref aw.length/\aw2=aw++[.arr e 1 (List.replicate i.toNat [.nils])]):=by
    simp only[vcE,hS.u,aF,hx,hy,hz];refine⟨by rw[hS.c];rfl,by rw[hS.c];exact hS.p,hc.1,Sj _,.inr trivial,?_,by unfold maxLen;omega,by rw[hS.c];simp⟩;have h1:i.toNat<=1099511627776:=by omega
    exact SA (Tb hS.b h1) (by decide)
   obtain⟨vv,nx,w',aw2,σ',F',r,hrun,hn,s2,m2,hr,rfl,rfl⟩:=A8 har hs hv ⟨d,.makeSlice t x y,ty,ps,af,g⟩ J;obtain⟨s3,m3⟩:=Qq (en:=en) (e:=e) (e2:=e2) (c:=c) (m:=i.toNat) (id:=aw.length) s2 (by simp);rw[List.set_append_right _ _ (RJ _)]at s3 m3;simp only[Tc,List.set_cons_zero,RT,RN,R8,List.length_nil,SP]at s3 m3;exact⟨vv,nx,w',_,_,F',_,hrun,hn,s3,m2.trans m3,m3.rel s2 hr,h⟩
  .cases hm)
theorem PM {F':Nat->Prop}(hFF:∀b,F b->F' b){size nn:Nat}{A:QbQ Addr}{flat:U Value}(hown:w.ownsRow 0 e size (.slice A nn c) rows.length flat)(hfl:FlatRel σ w F size rows flat)(hF:∀b,(Value.slice A nn c).ownBlock=some b->F' b):Rel σ w F' (.sl rows) (.slice A nn c):=by
 rcases hown.2 with⟨e1,e2⟩|⟨gg,cap,cur,e1,h0,hg,h1,h2,h3,h4⟩
 .have:rows=[]:=RP e2
  subst this
  rw[e1];exact .slNil
 .injection e1 with e3 e4 e5
  subst e3;subst e4;subst e5
  have key:∀i j:Nat,i<rows.length->j<size->∃x u,(rows[i]?.bind (·[j]?))=some x/\flat[i*size+j]?=some u/\Rel σ w F x u/\u.oneCell'=true:=λi j hi hj=>by obtain⟨hl,hrow⟩:=ta hfl (RG hi);simp_all
  refine .sl rows size ⟨gg,0,none⟩ c (λi j=>flat.getD (i*size+j) undef) (λ_=>hF gg J) h1 h2 hfl.1 (λi j hi hj=>?_) (λi j hi hj=>?_) (λi row j x hi hx=>?_)
  .grind
  .grind[f8,cell_of_row]
  .obtain⟨hl,hrow⟩:=ta hfl hi
   obtain⟨u,a1,a2,_⟩:=hrow j x hx
   rw[R1,a1]
   exact a2.mono (λ_ _ e=>e) hFF (λ_ _=>J)
def slR(en:α->List AV)(r:List α):List AV:=[.sl (r.map en)]
theorem Mx (hs:Sim aw σ w F){id e2:Nat}(ho:aw[id]?=some (.hd e k))(hc:aw[k]?=some (.cl e2 c (cL en xs))):
  ∃F',Sim ((aw.set id (.arr e 1 ((xs.map (·.2)).map (slR en)))).set k .dead) σ w F'/\Mv aw σ w F ((aw.set id (.arr e 1 ((xs.map (·.2)).map (slR en)))).set k .dead) σ w F':=by
 obtain⟨v,hv⟩:=σ_of hs ho
 obtain⟨us,h1,h2,s1,m1⟩:=wi hs ho hv
 have hid:id<aw.length:=(RH.1 ho).1
 have hik:id≠k:=by grind
 obtain⟨hl,hcr,_,hb⟩:=DX hs hc h1
 have hc1:=xv (A:=.arr e 1 (us.map λu=>[.cst u])) hc hik
 have s2:=s1.drop k hc1 J h1
 have m2:=Mv.drop (w:=w) (F:=F) k hc1 J h1
 refine⟨λb=>F b∨Bk (.cl e2 c (cL en xs)) (.tuple us.toArray) b,?_⟩
 have ho2:((aw.set id (.arr e 1 (us.map λu=>[AV.cst u]))).set k .dead)[id]?=some (.arr e 1 (us.map λu=>[.cst u])):=by grind
 obtain⟨flat,g1,g2,g3,a,nn,cc,rfl⟩:=s2.obj id _ v ho2 hv
 have hfl:=EO g2
 subst hfl
 have hxl:flat.length=xs.length:=by grind
 have hO:ORel σ w (λb=>F b∨Bk (.cl e2 c (cL en xs)) (.tuple flat.toArray) b) (.arr e 1 ((xs.map (·.2)).map (slR en))) (.slice a nn cc):=by
  refine⟨flat,?_,⟨λrow hr=>?_,h2,?_⟩,g3,a,nn,cc,J⟩
  .grind
  .obtain⟨r,_,rfl⟩:=R3.1 hr;rfl
  .have e1:((xs.map (·.2)).map (slR en)).flatten=(xs.map (·.2)).map (λr=>AV.sl (r.map en)):=by
    generalize xs.map (·.2)=ys;induction ys with
    |nil=>rfl
    |cons y ys ih=>grind[slR]
   rw[e1];refine⟨by simp[hxl],λj x u hx hu=>?_⟩;rw[R9,R9]at hx;cases hxj:xs[j]? with
   |none=>grind
   | some p=>
    rw[hxj]at hx;cases hx;obtain⟨b,r⟩:=p;have hcell:(cL en xs)[j]?=some (cel en (b,r)):=by grind
    have hrel:=hcr j _ u hcell hu;cases b with
    |true=>exact Rel.mono (λ_ _ h=>h) (λ_ h=>.inl h) (λ_ _=>J) hrel
    |false=>
     have hrel:CellRel σ w F e2 c (.own (r.map en)) u:=hrel;obtain⟨fl,k1,k2,k3,a',n',c',rfl⟩:=hrel;exact PM (λ_ h=>.inl h) k1 k2 (λb hb1=>.inr (hb j _ _ b hcell hu hb1))
 have s3:=s2.repl id ho2 J hv _ hO (λb h=>h)
 have m3:Mv ((aw.set id (.arr e 1 (flat.map λu=>[AV.cst u]))).set k .dead) σ w (λb=>F b∨Bk (.cl e2 c (cL en xs)) (.tuple flat.toArray) b) (((aw.set id (.arr e 1 (flat.map λu=>[AV.cst u]))).set k .dead).set id (.arr e 1 ((xs.map (·.2)).map (slR en)))) σ w (λb=>F b∨Bk (.cl e2 c (cL en xs)) (.tuple flat.toArray) b):=.repl id ho2 J hv (λb h=>h)
 have e2:((aw.set id (.arr e 1 (flat.map λu=>[AV.cst u]))).set k .dead).set id (.arr e 1 ((xs.map (·.2)).map (slR en)))=(aw.set id (.arr e 1 ((xs.map (·.2)).map (slR en)))).set k .dead:=by rw[List.set_comm _ _ (Ne.symm hik),List.set_set]
 rw[e2]at s3 m3
 exact⟨s3,m1.trans (m2.trans m3)⟩
theorem VK {code:Code}{Q:Exit->U AV->U Ob->Prop}{fr:U AV}(id k:Nat){e2:Nat}(ho:aw[id]?=some (.hd e k))(hc:aw[k]?=some (.cl e2 c (cL en xs)))(ha:(aw.set id (.arr e 1 ((xs.map (·.2)).map (slR en)))).set k .dead=aw')(h:T P N code Q fr aw'):T P N code Q fr aw:=
 ⟨λst h1 h2 σ w F a hcur=>by subst ha;obtain⟨F',s1,m1⟩:=Mx hcur.sim ho hc;exact h.out st h1 h2 σ w F' a (hcur.step s1 m1)⟩
theorem LV [he:EnP en](h:Cell.own rows∈cL en xs∨Cell.fz rows∈cL en xs):∀row,row∈rows->∀x,x∈row->Pure x:=by
 have key:∀c,c∈cL en xs->(c=.own rows∨c=.fz rows)->∀row,row∈rows->∀x,x∈row->Pure x:=λc hc he2 row hr x hx=>by
  obtain⟨⟨b,r⟩,_,rfl⟩:=R3.1 hc;have:rows=r.map en:=by cases b<;>rcases he2 with h|h<;>first|(injection h with h;exact h.symm)|cases h
  subst this;obtain⟨a,_,rfl⟩:=R3.1 hr;exact he.out a x hx
 grind
end
end
noncomputable section
def fd{α β:Type}(F:(α->Option β)->α->Option β):Nat->α->Option β
 |0,_=>none
 |n+1,a=>F (fd F n) a
open Classical in
def fixR{α β:Type}(F:(α->Option β)->α->Option β)(a:α):Option β:=
 if h:∃p:Nat×β,fd F p.1 a=some p.2 then some h.choose.2 else none
section
variable {α β:Type}{F:(α->QbQ β)->α->QbQ β}{a:α}{r:β}
theorem CD (h:fixR F a=some r):∃n,fd F n a=some r:=by unfold fixR at h;split at h;all_goals grind
theorem OT {n:Nat}(h:fd F n a=some r):∃r,fixR F a=some r:=by unfold fixR;rw[dif_pos ⟨(n,r),h⟩];simp
def ixV(m:Nat)(i:Int):Option Nat:=if 0<=i/\i<m then some i.toNat else none
end
end
section
open Go.RowKit
section
variable {P:Program} {N n:Nat} {aw aw':List Ob} {l:List (Nat×AV)} {K2:AV→List Ob→Prop} {d:Option Tmp} {ty:TypeId} {ps:String} {af:Array Edge} {g:Option (Nat×Bool)}
variable {t e c lo m:Nat}{cap:QbQ Nat}{x:Operand}{α:Type}{en:α->U AV}
theorem nr {id v:Nat}{y:Operand}{k:IntKind}{i:Int}(hS:SliceOf P t e c)(hx:evA n l x=.vw id c lo m cap)(hy:evA n l y=.int k i)(hv:ixV m i=some v)(h:K2 (.aptr id c (lo+v) 0) aw):
  OP P N ⟨d,.indexAddr t x y,ty,ps,af,g⟩ (mkA n l) aw K2:=
 TP (λσ w F a har hs=>by
  unfold ixV at hv;split at hv
  .rename_i h01;injection hv with hv
   subst hv;have ex:=har.ev x;have ey:=har.ev y;rw[aF,hx]at ex;rw[aF,hy]at ey;generalize hvx:a.eval x=vx at ex;generalize hvy:a.eval y=vy at ey;cases ey;cases ex with
   |vw _ _ _ _ N' C _ A B hg hn hA hc hz=>
    obtain⟨g0,hB,hA'⟩:=hA (by omega);subst hB hA';obtain⟨dd,hd⟩:=R0.1 hS.s;have hcc:=hS.c;have e0:(lo+i.toNat)*c+0=lo*c+i.toNat*c:=by grind
    have hrel:Rel σ w F (.aptr id c (lo+i.toNat) 0) (.pointer (some ⟨g0,lo*c+i.toNat*c,none⟩)):=by rw[<- e0];exact .aptr id c (lo+i.toNat) 0 g0 N' C hg
    refine⟨_,_,w,aw,σ,F,_,?_,.inl J,hs,.refl ..,hrel,h⟩;simp[execOp,hvx,hvy,Instr.indexAt,asIntOf,Sem.run_bind,run_underlying hS.u,eo hd,h01.1,h01.2,hcc,Addr.add]
  .cases hv)
theorem Jp {xs:U α}{z:U AV}{id:Nat}{z0:α}{u:Unit}(hS:SliceOf P t e c)(hz:bu P e=some z)(hzz:∀σ w F vs,RelL σ w F z vs->RelL σ w F (en z0) vs)(hzn:z.length=c)(hen:∀a,(en a).length=c)(hx:evA n l x=.vw id c lo m cap)(ho:aw[id]?=some (.arr e c (xs.map en)))(hv:vwok xs.length lo ((lo:Int)+m)=some u)(ha:aw.set id (.arr e c ((clr xs lo m z0).map en))=aw')(h:K2 (.tup []) aw'):OP P N ⟨d,.call ⟨.builtin .clear,#[x],#[t]⟩,ty,ps,af,g⟩ (mkA n l) aw K2:=
 TP (λσ w F a har hs=>by
  subst ha;unfold vwok at hv;split at hv
  .rename_i hc;have ex:=har.ev x;rw[aF,hx]at ex;obtain⟨N0,C,K,A,B,hσ,hval,hn,hA⟩:=(oe ex).out;obtain⟨i,zv,hi,hiz,hzl,hz1,hzr⟩:=lW hz;have hrel:=sF (hzz _ _ _ _ (hzr σ w F)) (by rw[hen];exact hS.p) m;have hcm:(clr xs lo m z0).map en=(xs.map en).take lo++List.replicate m (en z0)++(xs.map en).drop (lo+m):=by
    simp[clr]
   rw[hcm]at h;by_cases h0:m=0
   .subst h0;have hset:aw.set id (.arr e c ((xs.map en).take lo++List.replicate 0 (en z0)++(xs.map en).drop (lo+0)))=aw:=by
     obtain⟨hlt,hvs⟩:=RH.1 ho;have:aw.set id aw[id]=aw:=Sp hlt;simp_all
    rw[hset]at h;refine⟨.tuple #[],_,w,aw,σ,F,_,?_,.inl J,hs,.refl ..,iz,h⟩;cases A<;>simp[execOp,resolve,invoke,builtin,Sem.run_bind,hval,Builtin.clear_,run_underlying hS.u]
   .obtain⟨g0,rfl,rfl⟩:=hA (by omega);have hzs:zv.cells.size=c:=by grind
    have hcells:(Builtin.zeroCells zv.cells m).toList=(madeCells zv.cells (m*c)).toList:=by grind[Builtin.zeroCells,madeCells]
    rw[hen]at hrel;obtain⟨w',hst,s2,m2⟩:=xw (P:=P) (B:=none) (news:=List.replicate m (en z0)) (vs:=(Builtin.zeroCells zv.cells m).toList) (lo:=lo) (k:=m) hs ho hσ (by simp) (by simp;omega) (λrow hr=>by grind) (by grind[size_zeroCells]) (by grind) (λu hu=>by rw[hcells]at hu;exact sH hz1 (by rw[hzs];exact hS.p) _ u hu);refine⟨.tuple #[],_,w',_,σ,F,_,?_,.inl J,s2,m2,iz,h⟩;have hzr':=rA (P:=P) hi hiz w;have hm0:m≠0:=h0;cases m with
    |zero=>omega
    |succ m=>simp[execOp,resolve,invoke,builtin,Sem.run_bind,hval,Builtin.clear_,run_underlying hS.u,hzr',hst]
  .cases hv)
theorem Oi (σ:U Value)(w:World)(F:Nat->Prop)(vs:U Value)(h:RelL σ w F [.nils] vs):RelL σ w F [.sl (List.map en [])] vs:=by
 match vs,h with
 |[v],h=>
  have h1:Rel σ w F .nils v:=h.2 0 _ v J J
  cases h1
  exact .cons .slNil .nil
end
end
section
open Go.RowKit
set_option maxRecDepth 100000
theorem Uc:QbP.cellsOf 3=1:=by kernel_rfl
theorem VW:QbP.bytesOf 3=8:=by kernel_rfl
theorem Um:dN QbP 3=some false:=by kernel_rfl
theorem T7:bu QbP 3=some [.int .i64 0]:=by kernel_rfl
theorem U3:QbP.cellsOf 4=1:=by kernel_rfl
theorem VV:QbP.bytesOf 4=1:=by kernel_rfl
theorem U0:dN QbP 4=some false:=by kernel_rfl
theorem UY:bu QbP 4=some [.bool false]:=by kernel_rfl
theorem VS:QbP.cellsOf 5=1:=by kernel_rfl
theorem VU:QbP.bytesOf 5=1:=by kernel_rfl
theorem Uu:bu QbP 5=some [.int .u8 0]:=by kernel_rfl
theorem Vv:QbP.cellsOf 9=1:=by kernel_rfl
theorem VT:QbP.bytesOf 9=16:=by kernel_rfl
theorem UC:dN QbP 9=some false:=by kernel_rfl
theorem UQ:bu QbP 9=some [.str []]:=by kernel_rfl
theorem VC:QbP.cellsOf 22=1:=by kernel_rfl
theorem VB:QbP.cellsOf 24=3:=by kernel_rfl
theorem Up:QbP.cellsOf 27=1:=by kernel_rfl
theorem VJ:QbP.bytesOf 27=24:=by kernel_rfl
theorem TX:dN QbP 27=some false:=by kernel_rfl
theorem UZ:bu QbP 27=some [.nils]:=by kernel_rfl
theorem Ut:QbP.cellsOf 30=1:=by kernel_rfl
theorem VI:QbP.bytesOf 30=24:=by kernel_rfl
theorem T2:dN QbP 30=some false:=by kernel_rfl
theorem Ua:bu QbP 30=some [.nils]:=by kernel_rfl
theorem VA:QbP.cellsOf 40=1:=by kernel_rfl
theorem VH:QbP.bytesOf 40=8:=by kernel_rfl
theorem UJ:bu QbP 40=some [.int .i64 0]:=by kernel_rfl
theorem UM:QbP.cellsOf 47=2:=by kernel_rfl
theorem VG:QbP.bytesOf 47=16:=by kernel_rfl
theorem UX:bu QbP 47=some [.int .i64 0,.int .i64 0]:=by kernel_rfl
theorem UL:QbP.cellsOf 68=3:=by kernel_rfl
theorem VF:QbP.bytesOf 68=24:=by kernel_rfl
theorem Uk:bu QbP 68=some [.int .i64 0,.int .i64 0,.int .i64 0]:=by kernel_rfl
theorem T8:QbP.cellsOf 78=2:=by kernel_rfl
theorem VE:QbP.bytesOf 78=16:=by kernel_rfl
theorem Ub:dN QbP 78=some true:=by kernel_rfl
theorem UE:bu QbP 78=some [.int .i64 0,.int .i64 0]:=by kernel_rfl
theorem UK:QbP.cellsOf 93=4:=by kernel_rfl
theorem VD:QbP.bytesOf 93=64:=by kernel_rfl
theorem UI:bu QbP 93=some [.int .i64 0,.int .i64 0,.nils,.nils]:=by kernel_rfl
theorem Vm:QbP.cellsOf 113=2:=by kernel_rfl
theorem Vr:QbP.bytesOf 113=24:=by kernel_rfl
theorem Un:bu QbP 113=some [.int .i64 0,.str []]:=by kernel_rfl
theorem Vl:QbP.cellsOf 118=2:=by kernel_rfl
theorem Vq:QbP.bytesOf 118=16:=by kernel_rfl
theorem Ur:bu QbP 118=some [.int .i64 0,.int .i64 0]:=by kernel_rfl
theorem Uf:QbP.cellsOf 133=3:=by kernel_rfl
theorem Vp:QbP.bytesOf 133=40:=by kernel_rfl
theorem Uo:dN QbP 133=some true:=by kernel_rfl
theorem Ud:bu QbP 133=some [.int .i64 0,.nils,.int .i64 0]:=by kernel_rfl
theorem Vf:dN QbP 150=some false:=by kernel_rfl
theorem Vk:QbP.cellsOf 173=2:=by kernel_rfl
theorem Vo:QbP.bytesOf 173=16:=by kernel_rfl
theorem Uq:bu QbP 173=some [.int .i64 0,.int .i64 0]:=by kernel_rfl
theorem TQ:dN QbP 202=some false:=by kernel_rfl
theorem UR:QbP.cellsOf 224=2:=by kernel_rfl
theorem Vn:QbP.bytesOf 224=16:=by kernel_rfl
theorem Ve:dN QbP 224=some true:=by kernel_rfl
theorem UF:bu QbP 224=some [.int .i64 0,.int .i64 0]:=by kernel_rfl
theorem Ux:QbP.cellsOf 251=1:=by kernel_rfl
theorem Vb:bu QbP 252=some [.nilf,.nilf,.nilf,.nilf]:=by kernel_rfl
theorem Vd:pP QbP 252=some [(0,1),(1,1),(2,1),(3,1)]:=by kernel_rfl
theorem Ul:(QbP.info? 63).bind (·.zero)=some (.nilFunc):=by kernel_rfl
theorem Vc:(QbP.info? 193).bind (·.zero)=some (.agg #[]):=by kernel_rfl
theorem UD:(QbP.underlying 3).isSome=true:=by rw[Wf];rfl
theorem U2:(QbP.underlying 4).isSome=true:=by rw[Wm];rfl
theorem VR:(QbP.underlying 5).isSome=true:=by rw[Wl];rfl
theorem Vu:(QbP.underlying 9).isSome=true:=by rw[We];rfl
theorem UA:(QbP.underlying 27).isSome=true:=by rw[Wq];rfl
theorem Uz:(QbP.underlying 30).isSome=true:=by rw[Wr];rfl
theorem Vz:(QbP.underlying 40).isSome=true:=by rw[Tryz.underlying40];rfl
theorem Vy:(QbP.underlying 47).isSome=true:=by rw[Wy];rfl
theorem Vx:(QbP.underlying 68).isSome=true:=by rw[Wz];rfl
theorem U1:(QbP.underlying 78).isSome=true:=by rw[Tryz.underlying78];rfl
theorem Vw:(QbP.underlying 93).isSome=true:=by rw[WA];rfl
theorem Vj:(QbP.underlying 113).isSome=true:=by rw[Tryz.underlying113];rfl
theorem Vi:(QbP.underlying 118).isSome=true:=by rw[Tryz.underlying118];rfl
theorem UG:(QbP.underlying 133).isSome=true:=by rw[Tryz.underlying133];rfl
theorem Vh:(QbP.underlying 173).isSome=true:=by rw[Tryz.underlying173];rfl
theorem Vg:(QbP.underlying 224).isSome=true:=by rw[Tryz.underlying224];rfl
theorem Uw:(QbP.underlying 251).isSome=true:=by rw[Tryz.underlying251];rfl
theorem TJ:SliceOf QbP 22 93 4:=⟨WB,UK,Vw,by decide,by rw[VD];decide,_,UI,J⟩
theorem TO:SliceOf QbP 25 30 1:=⟨Ws,Ut,Uz,by decide,by rw[VI];decide,_,Ua,J⟩
theorem Us:SliceOf QbP 26 47 2:=⟨Wt,UM,Vy,by decide,by rw[VG];decide,_,UX,J⟩
theorem TK:SliceOf QbP 27 3 1:=⟨Wq,Uc,UD,by decide,by rw[VW];decide,_,T7,J⟩
theorem TZ:SliceOf QbP 28 133 3:=⟨Tryz.underlying28,Uf,UG,by decide,by rw[Vp];decide,_,Ud,J⟩
theorem TN:SliceOf QbP 29 118 2:=⟨Tryz.underlying29,Vl,Vi,by decide,by rw[Vq];decide,_,Ur,J⟩
theorem TL:SliceOf QbP 30 68 3:=⟨Wr,UL,Vx,by decide,by rw[VF];decide,_,Uk,J⟩
theorem TW:SliceOf QbP 33 9 1:=⟨Tryz.underlying33,Vv,Vu,by decide,by rw[VT];decide,_,UQ,J⟩
theorem T5:SliceOf QbP 34 113 2:=⟨Tryz.underlying34,Vm,Vj,by decide,by rw[Vr];decide,_,Un,J⟩
theorem Uy:SliceOf QbP 39 40 1:=⟨Tryz.underlying39,VA,Vz,by decide,by rw[VH];decide,_,UJ,J⟩
theorem TU:SliceOf QbP 72 78 2:=⟨Tryz.underlying72,T8,U1,by decide,by rw[VE];decide,_,UE,J⟩
theorem TM:SliceOf QbP 131 173 2:=⟨Tryz.underlying131,Vk,Vh,by decide,by rw[Vo];decide,_,Uq,J⟩
theorem Ue:SliceOf QbP 150 5 1:=⟨Wh,VS,VR,by decide,by rw[VU];decide,_,Uu,J⟩
theorem Uj:SliceOf QbP 175 4 1:=⟨Tryz.underlying175,U3,U2,by decide,by rw[VV];decide,_,UY,J⟩
theorem T3:SliceOf QbP 220 224 2:=⟨Tryz.underlying220,UR,Vg,by decide,by rw[Vn];decide,_,UF,J⟩
theorem Uh:SliceOf QbP 231 27 1:=⟨Tryz.underlying231,Up,UA,by decide,by rw[VJ];decide,_,UZ,J⟩
end
section
open Go.RowKit
theorem mixed:QbP.follows .mixedOrders=true:=by kernel_rfl
def aj(n:Int):List AV:=[.int .i64 n]
def aT(s:List UInt8):List AV:=[.str s]
end
structure Item where
 (Key Val Dep:Int)
deriving DecidableEq
structure Node where
 (Kind A:Int)
 (In Out:List Int)
deriving DecidableEq
structure Net where
 Nodes:List Node
 (Rings Room:Int)
deriving DecidableEq
structure Keyed where
 (Key N:Int)
deriving DecidableEq
structure Memory where
 Sum:Int
 Keys:List Keyed
 Dep:Int
deriving DecidableEq
structure Choice where
 (Node Lane:Int)
deriving DecidableEq
structure State where
 At:List Int
 Rings:List (List Item)
 Memory:List Memory
 Choices:List Choice
 Out:List Item
deriving DecidableEq
structure Move where
 (Node Lane:Int)
deriving DecidableEq
structure Write where
 At:Int
 Bytes:List UInt8
deriving DecidableEq
structure Disk where
 Sectors:List (List UInt8)
 Wait:List Write
deriving DecidableEq
structure Shop where
 N:Net
 Items:List (List Item)
 S:State
 D:Disk
 (Logged Safe Epoch Laid Next:Int)
 Told:List Item
 Down:Bool
deriving DecidableEq
structure Happening where
 (Kind N:Int)
deriving DecidableEq
structure Ends where
 (src dst:Int)
deriving DecidableEq
section
open Go.RowKit
def bR(n:Int):List AV:=[.int .u8 n]
def encU(n:Int):List AV:=[.int .u64 n]
def db(b:Bool):List AV:=[.bool b]
def ai{α:Type}(en:α->List AV)(l:List α):List AV:=[.sl (l.map en)]
def aa(a:Item):List AV:=[.int .i64 a.Key,.int .i64 a.Val,.int .i64 a.Dep]
def an(a:Node):List AV:=[.int .i64 a.Kind,.int .i64 a.A,.sl (a.In.map aj),.sl (a.Out.map aj)]
def aK(a:Net):List AV:=[.sl (a.Nodes.map an),.int .i64 a.Rings,.int .i64 a.Room]
def aQ(a:Keyed):List AV:=[.int .i64 a.Key,.int .i64 a.N]
def aC(a:Memory):List AV:=[.int .i64 a.Sum,.sl (a.Keys.map aQ),.int .i64 a.Dep]
def ao(a:Choice):List AV:=[.int .i64 a.Node,.int .i64 a.Lane]
def bE(a:State):List AV:=[.sl (a.At.map aj),.sl (a.Rings.map (ai aa)),.sl (a.Memory.map aC),.sl (a.Choices.map ao),.sl (a.Out.map aa)]
def aH(a:Move):List AV:=[.int .i64 a.Node,.int .i64 a.Lane]
def be(a:Write):List AV:=[.int .i64 a.At,.str a.Bytes]
def cw(a:Disk):List AV:=[.sl (a.Sectors.map aT),.sl (a.Wait.map be)]
def fK(a:Shop):List AV:=[.sl (a.N.Nodes.map an),.int .i64 a.N.Rings,.int .i64 a.N.Room,.sl (a.Items.map (ai aa)),.sl (a.S.At.map aj),.sl (a.S.Rings.map (ai aa)),.sl (a.S.Memory.map aC),.sl (a.S.Choices.map ao),.sl (a.S.Out.map aa),.sl (a.D.Sectors.map aT),.sl (a.D.Wait.map be),.int .i64 a.Logged,.int .i64 a.Safe,.int .i64 a.Epoch,.int .i64 a.Laid,.int .i64 a.Next,.sl (a.Told.map aa),.bool a.Down]
def dp(a:Happening):List AV:=[.int .i64 a.Kind,.int .i64 a.N]
def bl(a:Ends):List AV:=[.int .i64 a.src,.int .i64 a.dst]
theorem me:∀a x,x∈aj a->Pure x:=λa=>dC (ls:=aj a) ⟨aL _ _,tqz⟩
theorem PN:∀a x,x∈bR a->Pure x:=λa=>dC (ls:=bR a) ⟨aL _ _,tqz⟩
theorem P1:∀a x,x∈encU a->Pure x:=λa=>dC (ls:=encU a) ⟨aL _ _,tqz⟩
theorem PR:∀a x,x∈db a->Pure x:=λa=>dC (ls:=db a) ⟨kE _,tqz⟩
theorem tq:∀a x,x∈aT a->Pure x:=λa=>dC (ls:=aT a) ⟨bc _,tqz⟩
theorem nW{α:Type}{en:α->U AV}(h:∀a x,x∈en a->Pure x):∀a x,x∈ai en a->Pure x:=λa=>dC (ls:=ai en a) ⟨de h _,tqz⟩
theorem fo:∀a x,x∈aa a->Pure x:=λa=>dC (ls:=aa a) ⟨aL _ _,aL _ _,aL _ _,tqz⟩
theorem pL:∀a x,x∈an a->Pure x:=λa=>dC (ls:=an a) ⟨aL _ _,aL _ _,de me _,de me _,tqz⟩
theorem Dl:∀a x,x∈aK a->Pure x:=λa=>dC (ls:=aK a) ⟨de pL _,aL _ _,aL _ _,tqz⟩
theorem nw:∀a x,x∈aQ a->Pure x:=λa=>dC (ls:=aQ a) ⟨aL _ _,aL _ _,tqz⟩
theorem ne:∀a x,x∈aC a->Pure x:=λa=>dC (ls:=aC a) ⟨aL _ _,de nw _,aL _ _,tqz⟩
theorem nq:∀a x,x∈ao a->Pure x:=λa=>dC (ls:=ao a) ⟨aL _ _,aL _ _,tqz⟩
theorem BO:∀a x,x∈bE a->Pure x:=λa=>dC (ls:=bE a) ⟨de me _,de (nW fo) _,de ne _,de nq _,de fo _,tqz⟩
theorem vp:∀a x,x∈aH a->Pure x:=λa=>dC (ls:=aH a) ⟨aL _ _,aL _ _,tqz⟩
theorem pt:∀a x,x∈be a->Pure x:=λa=>dC (ls:=be a) ⟨aL _ _,bc _,tqz⟩
theorem Ct:∀a x,x∈cw a->Pure x:=λa=>dC (ls:=cw a) ⟨de tq _,de pt _,tqz⟩
theorem Cx:∀a x,x∈fK a->Pure x:=λa=>dC (ls:=fK a) ⟨de pL _,aL _ _,aL _ _,de (nW fo) _,de me _,de (nW fo) _,de ne _,de nq _,de fo _,de tq _,de pt _,aL _ _,aL _ _,aL _ _,aL _ _,aL _ _,de fo _,kE _,tqz⟩
theorem AC:∀a x,x∈dp a->Pure x:=λa=>dC (ls:=dp a) ⟨aL _ _,aL _ _,tqz⟩
theorem CA:∀a x,x∈bl a->Pure x:=λa=>dC (ls:=bl a) ⟨aL _ _,aL _ _,tqz⟩
instance:EnP aj:=⟨me⟩
instance:EnP bR:=⟨PN⟩
instance:EnP encU:=⟨P1⟩
instance:EnP db:=⟨PR⟩
instance:EnP aT:=⟨tq⟩
instance:EnP aa:=⟨fo⟩
instance:EnP an:=⟨pL⟩
instance:EnP aK:=⟨Dl⟩
instance:EnP aQ:=⟨nw⟩
instance:EnP aC:=⟨ne⟩
instance:EnP ao:=⟨nq⟩
instance:EnP bE:=⟨BO⟩
instance:EnP aH:=⟨vp⟩
instance:EnP be:=⟨pt⟩
instance:EnP cw:=⟨Ct⟩
instance:EnP fK:=⟨Cx⟩
instance:EnP dp:=⟨AC⟩
instance:EnP bl:=⟨CA⟩
instance {α:Type} {en:α->List AV} [h:EnP en]:EnP (ai en):=⟨nW h.out⟩
theorem bC(b:Bool):b=true∨b=false:=by simp
end
def bldS(xs:List Int):Option (List UInt8):=if xs≠[]/\∀x,x∈xs->0<=x/\x<256 then some (ce xs)else none
def b6{A B:Type}(o:Option (A⊕Unit))(p:Option B)(k:A->Option B):Option B:=
 match o with
 |none=>none
 |some (.inl y)=>k y
 |some (.inr _)=>p
theorem cV{A B:Type}{o:QbQ (A⊕Unit)}{p:QbQ B}{k:A->QbQ B}{r:B}{C:Prop}(h:b6 o p k=some r)(h1:o=some (.inr ())->p=some r->C)(h2:∀y,o=some (.inl y)->k y=some r->C):C:=by
 match o,h with
 |some (.inl y),h=>exact h2 y J h
 |some (.inr ()),h=>exact h1 J h
def itoaS(n:Int):Option (List UInt8):=if 0<=n/\n<100 then some (Go.Lib.decDigits n.toNat)else none
section
open Go.Sort
def cfR:List Item->List Item->Int
 |[],[]=>0
 |[],_::_=> -1
 |_::_,[]=>1
 |a::as₀,b::bs=>if a.Key<b.Key∨a.Key=b.Key/\a.Val<b.Val then-1 else if a.Key=b.Key/\a.Val=b.Val then cfR as₀ bs else 1
def dep0(l:List Item):Bool:=l.all λx=>x.Dep==0
def insR(a:List Item):List (List Item)->List (List Item)
 |[]=>[a]
 |b::l=>if cfR b a<0 then b::insR a l else a::b::l
def jj:List (List Item)->List (List Item)
 |[]=>[]
 |a::l=>insR a (jj l)
def sortR(xs:List (List Item)):Option (List (List Item)):=if xs.length<4611686018427387904/\xs.all dep0=true then some (jj xs)else none
theorem vA:∀a,cfR a a=0
 |[]=>rfl
 |a::as₀=>by unfold cfR;rw[if_neg (by omega),if_pos ⟨J,J⟩];exact vA as₀
theorem l5:∀a b,cfR a b= - cfR b a
 |[],[]=>rfl
 |[],_::_=>rfl
 |_::_,[]=>rfl
 |a::as₀,b::bs=>by have:=l5 as₀ bs;grind[cfR]
theorem nD:∀a b c,cfR a b<=0->cfR b c<=0->cfR a c<=0/\(cfR a b<0∨cfR b c<0->cfR a c<0)
 |[],[],[],h1,h2=>by simp[cfR]
 |[],[],_::_,h1,h2=>by simp[cfR]
 |[],_::_,[],h1,h2=>by simp[cfR]at h2
 |[],_::_,_::_,h1,h2=>by simp[cfR]
 |_::_,[],_,h1,h2=>by simp[cfR]at h1
 |_::_,_::_,[],h1,h2=>by simp[cfR]at h2
 |a::as₀,b::bs,c::cs,h1,h2=>by have:=nD as₀ bs cs;grind[cfR]
theorem vu:∀a b,dep0 a=true->dep0 b=true->cfR a b=0->a=b
 |[],[],_,_,_=>rfl
 |[],_::_,_,_,h=>by simp[cfR]at h
 |_::_,[],_,_,h=>by simp[cfR]at h
 | a::as₀,b::bs,ha,hb,h=>by
  simp only[dep0,Tz,SR,beq_iff_eq]at ha hb;unfold cfR at h;split at h
  .omega
  .split at h
   .rename_i _ h2;have:=vu as₀ bs ha.2 hb.2 h;obtain⟨k,v,d⟩:=a;obtain⟨k',v',d'⟩:=b;grind
   omega
def ltR(a b:List Item):Bool:=decide (cfR a b<0)
theorem xK(a:U Item):∀l,(insR a l).Perm (a::l)
 |[]=>.refl _
 |b::l=>by
  unfold insR;split
  .exact((xK a l).cons b).trans (.swap a b l)
  rfl
theorem nv:∀l,(jj l).Perm l
 |[]=>.refl _
 |a::l=>(xK a _).trans ((nv l).cons a)
theorem A9(a:U Item):∀l,l.Pairwise (λa b=>cfR a b<=0)->(insR a l).Pairwise (λa b=>cfR a b<=0)
 |[],_=>by simp[insR]
 | b::l,h=>by
  have h2:=List.pairwise_cons.1 h;unfold insR;split
  .rename_i hb;refine List.pairwise_cons.2 ⟨λc hc=>?_,A9 a l h2.2⟩;grind[xK]
  .rename_i hb;have hab:cfR a b<=0:=by grind[l5]
   refine List.pairwise_cons.2 ⟨λc hc=>?_,h⟩;rcases Sa.1 hc with rfl|hc
   .exact hab
   .exact(nD a b c hab (h2.1 c hc)).1
theorem xi:∀l,(jj l).Pairwise (λa b=>cfR a b<=0)
 |[]=>.nil
 |a::l=>A9 a _ (xi l)
theorem JC:∀{l m:U (U Item)},l.Perm m->(∀a,a∈l->dep0 a=true)->l.Pairwise (λa b=>cfR a b<=0)->m.Pairwise (λa b=>cfR a b<=0)->l=m:=by intro l m hp h0 h1 h2;refine hp.eq_of_pairwise (le:=λa b=>cfR a b<=0) (λa b ha hb x y=>?_) h1 h2;grind[l5,vu]
theorem swoR{α:Type}(f:α->U Item):SWO (λx y=>ltR (f x) (f y)) where
 irrefl:=λx=>by simp[ltR,vA]
 trans:=λx y z h1 h2=>by simp only[ltR,decide_eq_true_eq]at *;grind[nD]
 ntrans:=λx y z h1 h2=>by grind[ltR,l5,nD]
end
noncomputable section
set_option maxRecDepth 100000
def w6(p0 p1:Int):QbQ (Int×Int):=
 ((shr .u64 p0 32).bind λx2=>((shr .u64 p1 32).bind λx4=>((shr .u64 (IntKind.u64.wrap ((ibits .and .u64 p0 4294967295)*(ibits .and .u64 p1 4294967295))) 32).bind λx6=>((shr .u64 (IntKind.u64.wrap ((IntKind.u64.wrap (x2*(ibits .and .u64 p1 4294967295)))+x6)) 32).bind λx8=>((shr .u64 (IntKind.u64.wrap ((ibits .and .u64 (IntKind.u64.wrap ((IntKind.u64.wrap (x2*(ibits .and .u64 p1 4294967295)))+x6)) 4294967295)+(IntKind.u64.wrap ((ibits .and .u64 p0 4294967295)*x4)))) 32).bind λx10=>(some (IntKind.u64.wrap ((IntKind.u64.wrap ((IntKind.u64.wrap (x2*x4))+x8))+x10),IntKind.u64.wrap (p0*p1))))))))
def uI(p0 p1:Int):QbQ (Int×Int):=
 ((w6 p0 p1).bind λx2=>(some (x2.1,x2.2)))
def lz  (s6:Int)(s7:U Ends):QbQ ((Int×(U Ends))⊕(U Ends)):=
 (if(decide (s6<((s7).length:Int)))=true then((vwok (s7).length s6 ((s7).length:Int)).bind λx8=>((vwok (s7).length 0 s6).bind λx9=>((vwok (s7).length ((s6).toNat:Nat) (((s6).toNat:Nat)+(((((s7).length:Int)).toNat- (s6).toNat):Nat))).bind λx10=>((vwok (s7).length (((0:Int)).toNat:Nat) ((((0:Int)).toNat:Nat)+(((s6).toNat- ((0:Int)).toNat):Nat))).bind λx11=>(some (.inl (IntKind.i64.wrap (s6+((min ((((s7).length:Int)).toNat- (s6).toNat) ((s6).toNat- ((0:Int)).toNat):Nat):Int)),(cpy s7 ((s6).toNat) ((((s7).length:Int)).toNat- (s6).toNat) ((s7.drop (((0:Int)).toNat)).take ((s6).toNat- ((0:Int)).toNat))))))))))else(Option.map Sum.inr (some s7)))
def rh(p0:U Ends)(p1:Int):QbQ (U Ends):=
 (if(decide (p1<0))=true then(none)else((uI (IntKind.u64.wrap ((p0).length:Int)) (IntKind.u64.wrap p1)).bind λx2=>(if((decide (x2.1> 0))||decide (x2.2> 9223372036854775807))=true then(none)else((mk (IntKind.i64.wrap x2.2) (⟨0,0⟩:Ends)).bind λx5=>(iter (λiN:Int×(U Ends)=>lz iN.1 iN.2) (((min (x5).length (p0).length:Nat):Int),(cpy x5 0 (x5).length p0)))))))
def pm(p0:Int)(z2:Bool):QbQ (Int×Int×Bool):=
 (if z2=true then(some (1,(-1),true))else(if(p0==6)=true then(some ((-1),1,true))else(if(p0==8)=true then(some (1,0,true))else(some (0,0,false)))))
def m8(p0:Int)(z1:Bool):QbQ (Int×Int×Bool):=
 (if z1=true then(some (1,1,true))else(if(p0==5)=true then(pm p0 (p0==5))else(pm p0 (p0==7))))
def sj(p0:Int):QbQ (Int×Int×Bool):=
 (if(p0==1)=true then(some (0,1,true))else(if(p0==2)=true then(m8 p0 (p0==2))else(if(p0==3)=true then(m8 p0 (p0==3))else(m8 p0 (p0==4)))))
def pU(p0 p1:Int):QbQ Bool:=
 (some ((p0==p1)||((decide (p1<0))&&decide (p0> 0))))
def lS(p0:Net)(s6:Int)(x9:Node)(z15 s27:Int)(s28:U Ends):QbQ ((Int×(U Ends))⊕((Int×Int×(U Ends))⊕((U Ends)×Int))):=
 (if(decide (s27<((x9.Out).length:Int)))=true then((idx x9.Out s27).bind λx30=>(if((decide (x30<0))||decide (x30>=p0.Rings))=true then(Option.map Sum.inr (Option.map Sum.inr (some ([],3))))else((ixN s28 x30).bind λx34=>(((s28)[x34]?).bind λx35=>(if(decide (x35.src>=0))=true then(Option.map Sum.inr (Option.map Sum.inr (some ([],6))))else((ixN s28 x30).bind λx36=>(((s28)[x36]?).bind λx37=>(some (.inl (IntKind.i64.wrap (s27+1),(List.set s28 x36 (⟨s6,x37.dst⟩:Ends))))))))))))else(Option.map Sum.inr (some (.inl (z15,IntKind.i64.wrap (s6+1),s28)))))
def lM(p0:Net)(s6:Int)(x9:Node)(z15 s16:Int)(s17:U Ends):QbQ ((Int×(U Ends))⊕((Int×Int×(U Ends))⊕((U Ends)×Int))):=
 (if(decide (s16<((x9.In).length:Int)))=true then((idx x9.In s16).bind λx19=>(if((decide (x19<0))||decide (x19>=p0.Rings))=true then(Option.map Sum.inr (Option.map Sum.inr (some ([],3))))else((ixN s17 x19).bind λx23=>(((s17)[x23]?).bind λx24=>(if(decide (x24.dst>=0))=true then(Option.map Sum.inr (Option.map Sum.inr (some ([],6))))else((ixN s17 x19).bind λx25=>(((s17)[x25]?).bind λx26=>(some (.inl (IntKind.i64.wrap (s16+1),(List.set s17 x25 (⟨x26.src,s6⟩:Ends))))))))))))else(Option.map Sum.inr (iter (λmh:Int×(U Ends)=>lS p0 s6 x9 z15 mh.1 mh.2) (0,s17))))
def nf(p0:Net)(s6:Int)(s7:U Ends)(x9:Node)(z15:Int):QbQ ((Int×Int×(U Ends))⊕((U Ends)×Int)):=
 (iter (λmj:Int×(U Ends)=>lM p0 s6 x9 z15 mj.1 mj.2) (0,s7))
def ni(s5:Int)(s7:U Ends)(s38:Int):QbQ (Int⊕((U Ends)×Int)):=
 (if(decide (s38<((s7).length:Int)))=true then((ixN s7 s38).bind λx41=>(((s7)[x41]?).bind λx42=>(if((decide (x42.src<0))||decide (x42.dst<0))=true then(Option.map Sum.inr (some ([],9)))else(some (.inl (IntKind.i64.wrap (s38+1)))))))else(Option.map Sum.inr (if(s5 !=1)=true then(some ([],4))else(some (s7,0)))))
def lT(p0:Net)(s5 s6:Int)(s7:U Ends):QbQ ((Int×Int×(U Ends))⊕((U Ends)×Int)):=
 (if(decide (s6<((p0.Nodes).length:Int)))=true then((idx p0.Nodes s6).bind λx9=>((sj x9.Kind).bind λx11=>(if(!x11.2.2)=true then(Option.map Sum.inr (some ([],5)))else((pU ((x9.In).length:Int) x11.1).bind λx12=>(Option.bind (if(!x12)=true then(some true)else((pU ((x9.Out).length:Int) x11.2.1).bind λx13=>(some (!x13)))) λc14=>(if c14=true then(Option.map Sum.inr (some ([],4)))else(if((decide (x9.A<0))||(if(x9.Kind==1)=true then((decide (x9.A>=4))||(if(x9.Kind==2)=true then((decide (x9.A> 3))||((x9.Kind !=1)&&((x9.Kind !=2)&&x9.A !=0)))else((x9.Kind !=1)&&((x9.Kind !=2)&&x9.A !=0))))else(if(x9.Kind==2)=true then((decide (x9.A> 3))||((x9.Kind !=1)&&((x9.Kind !=2)&&x9.A !=0)))else((x9.Kind !=1)&&((x9.Kind !=2)&&x9.A !=0)))))=true then(Option.map Sum.inr (some ([],3)))else(if(x9.Kind==8)=true then(nf p0 s6 s7 x9 (IntKind.i64.wrap (s5+1)))else(nf p0 s6 s7 x9 s5)))))))))else(Option.map Sum.inr (iter (λqo:Int=>ni s5 s7 qo) 0)))
def sU(p0:Net):QbQ ((U Ends)×Int):=
 (if((decide (((p0.Nodes).length:Int)<1))||((decide (((p0.Nodes).length:Int)> 12))||((decide (p0.Rings<0))||decide (p0.Rings> 16))))=true then(some ([],2))else(if((decide (p0.Room<1))||decide (p0.Room> 6))=true then(some ([],3))else((rh ([(⟨(-1),(-1)⟩:Ends)]:U Ends) p0.Rings).bind λx4=>(iter (λjS:Int×Int×(U Ends)=>lT p0 jS.1 jS.2.1 jS.2.2) (0,0,x4)))))
def rj(p0:Int)(p1:U Bool)(p2:U Ends):QbQ Bool:=
 ((ixN p2 p0).bind λx5=>(((p2)[x5]?).bind λx6=>((ixN p1 x6.src).bind λx7=>(((p1)[x7]?).bind λx8=>(some (!x8))))))
def oI(p0:U Int)(p1:U Bool)(p2:U Ends)(s1:Int):QbQ (Int⊕Int):=
 (if(decide (s1<((p0).length:Int)))=true then((idx p0 s1).bind λx4=>((rj x4 p1 p2).bind λx5=>(if x5=true then(Option.map Sum.inr (some s1))else(some (.inl (IntKind.i64.wrap (s1+1)))))))else(Option.map Sum.inr (some (-1))))
def uq(p0:U Int)(p1:U Bool)(p2:U Ends):QbQ Int:=
 (iter (λak:Int=>oI p0 p1 p2 ak) 0)
def oH(p0:U Int)(p1:U Bool)(p2:U Ends):QbQ Bool:=
 ((uq p0 p1 p2).bind λx2=>(some (decide (x2>=0))))
def m9(s5:U Int)(s6:U Bool)(z14:Int):QbQ (((U Int)×(U Bool))⊕((U Int)×Int)):=
 (if(decide (z14<0))=true then(Option.map Sum.inr (some ([],7)))else((ixN s6 z14).bind λx17=>(((s6)[x17]?).bind λx18=>((app s5 [z14]).bind λx19=>(some (.inl (x19,(List.set s6 x17 true))))))))
def lH(p0:Net)(x2:(U Ends)×Int)(s5:U Int)(s6:U Bool)(s7:Int):QbQ (Int⊕(((U Int)×(U Bool))⊕((U Int)×Int))):=
 (if(decide (s7<((p0.Nodes).length:Int)))=true then((idx p0.Nodes s7).bind λx9=>((ixN s6 s7).bind λx10=>(((s6)[x10]?).bind λx11=>(Option.bind (if(!x11)=true then((oH x9.In s6 x2.1).bind λx12=>(some (!x12)))else(some false)) λc13=>(if c13=true then(Option.map Sum.inr (m9 s5 s6 s7))else(some (.inl (IntKind.i64.wrap (s7+1)))))))))else(Option.map Sum.inr (m9 s5 s6 (-1))))
def lF(p0:Net)(x2:(U Ends)×Int)(s5:U Int)(s6:U Bool):QbQ (((U Int)×(U Bool))⊕((U Int)×Int)):=
 (if(decide (((s5).length:Int)<((p0.Nodes).length:Int)))=true then(iter (λqp:Int=>lH p0 x2 s5 s6 qp) 0)else(Option.map Sum.inr (some (s5,0))))
def sy(p0:Net):QbQ ((U Int)×Int):=
 ((sU p0).bind λx2=>(if(x2.2 !=0)=true then(some ([],x2.2))else((mk ((p0.Nodes).length:Int) false).bind λx4=>(iter (λmo:(U Int)×(U Bool)=>lF p0 x2 mo.1 mo.2) ([],x4)))))
def pM(p0:Net):QbQ Int:=
 ((sy p0).bind λx2=>(some x2.2))
def o6(s3:Int)(x5:U Item)(s6:Int):QbQ (Int⊕(Int⊕Int)):=
 (if(decide (s6<((x5).length:Int)))=true then((idx x5 s6).bind λx8=>(if(x8.Dep !=0)=true then(Option.map Sum.inr (Option.map Sum.inr (some 4)))else(some (.inl (IntKind.i64.wrap (s6+1))))))else(Option.map Sum.inr (some (.inl (IntKind.i64.wrap (s3+1))))))
def lB(p0:Net)(p1:U (U Item))(s11:Int)(s12:U Bool):QbQ ((Int×(U Bool))⊕Int):=
 (if(decide (s11<((p0.Nodes).length:Int)))=true then((idx p0.Nodes s11).bind λx14=>(if(x14.Kind !=1)=true then(some (.inl (IntKind.i64.wrap (s11+1),s12)))else(if(decide (x14.A>=((p1).length:Int)))=true then(Option.map Sum.inr (some 5))else((ixN s12 x14.A).bind λx17=>(((s12)[x17]?).bind λx18=>(if x18=true then(Option.map Sum.inr (some 6))else((ixN s12 x14.A).bind λx19=>(((s12)[x19]?).bind λx20=>(some (.inl (IntKind.i64.wrap (s11+1),(List.set s12 x19 true))))))))))))else(Option.map Sum.inr (some 0)))
def o5(p0:Net)(p1:U (U Item))(s3:Int):QbQ (Int⊕Int):=
 (if(decide (s3<((p1).length:Int)))=true then((idx p1 s3).bind λx5=>(if(decide (((x5).length:Int)> 20))=true then(Option.map Sum.inr (some 2))else(iter (λeF:Int=>o6 s3 x5 eF) 0)))else(Option.map Sum.inr ((mk ((p1).length:Int) false).bind λx10=>(iter (λmq:Int×(U Bool)=>lB p0 p1 mq.1 mq.2) (0,x10)))))
def lL(p0:Net)(p1:U (U Item)):QbQ Int:=
 ((pM p0).bind λx2=>(if(x2 !=0)=true then(some x2)else(if(decide (((p1).length:Int)> 4))=true then(some 2)else(iter (λgw:Int=>o5 p0 p1 gw) 0))))
def r8(p0:Net)(p1:U (U Item)):QbQ State:=
 ((mk ((p1).length:Int) 0).bind λx4=>((mk p0.Rings ([]:U Item)).bind λx5=>((mk ((p0.Nodes).length:Int) (⟨0,[],0⟩:Memory)).bind λx6=>(some (⟨x4,x5,x6,[],[]⟩:State)))))
def gM(p0:Net)(p1:U (U Item)):QbQ (State×Int):=
 ((lL p0 p1).bind λx2=>(if(x2 !=0)=true then(some ((⟨[],[],[],[],[]⟩:State),x2))else((r8 p0 p1).bind λx4=>(some (x4,0)))))
def ri(p0:U Node):QbQ (U Node):=app [] p0
def km(p0:U Int):QbQ (U Int):=app [] p0
def iv(p0:Net)(x2:U Node)(s3:Int)(s4:U Node):QbQ ((Int×(U Node))⊕Net):=
 (if(decide (s3<((x2).length:Int)))=true then((ixN s4 s3).bind λx5=>(((s4)[x5]?).bind λx6=>((km x6.In).bind λx7=>((ixN s4 s3).bind λx8=>(((s4)[x8]?).bind λx9=>((km x9.Out).bind λx10=>((ixN s4 s3).bind λx11=>(((s4)[x11]?).bind λx12=>((ixN (List.set s4 x11 (⟨x12.Kind,x12.A,x7,x12.Out⟩:Node)) s3).bind λx13=>((((List.set s4 x11 (⟨x12.Kind,x12.A,x7,x12.Out⟩:Node)))[x13]?).bind λx14=>(some (.inl (IntKind.i64.wrap (s3+1),(List.set (List.set s4 x11 (⟨x12.Kind,x12.A,x7,x12.Out⟩:Node)) x13 (⟨x14.Kind,x14.A,x14.In,x10⟩:Node)))))))))))))))else(Option.map Sum.inr (some (⟨s4,p0.Rings,p0.Room⟩:Net))))
def kG(p0:Net):QbQ Net:=
 ((ri p0.Nodes).bind λx2=>(iter (λmr:Int×(U Node)=>iv p0 x2 mr.1 mr.2) (0,x2)))
def fh(p0:U Item):QbQ (U Item):=app [] p0
def mK(p0:U (U Item))(s1:Int)(s2:U (U Item)):QbQ ((Int×(U (U Item)))⊕(U (U Item))):=
 (if(decide (s1<((p0).length:Int)))=true then((idx p0 s1).bind λx4=>((fh x4).bind λx5=>((app s2 [x5]).bind λx6=>(some (.inl (IntKind.i64.wrap (s1+1),x6))))))else(Option.map Sum.inr (some s2)))
def rz(p0:U (U Item)):QbQ (U (U Item)):=
 (iter (λcT:Int×(U (U Item))=>mK p0 cT.1 cT.2) (0,[]))
def nM(p0:Net)(p1:U (U Item)):QbQ (Shop×Int):=
 ((gM p0 p1).bind λx2=>(if(x2.2 !=0)=true then(some ((⟨(⟨[],0,0⟩:Net),[],(⟨[],[],[],[],[]⟩:State),(⟨[],[]⟩:Disk),0,0,0,0,0,[],false⟩:Shop),x2.2))else((kG p0).bind λx5=>((rz p1).bind λx6=>(some ((⟨x5,x6,x2.1,(⟨[],[]⟩:Disk),0,0,0,(-1),0,[],false⟩:Shop),0))))))
def uv(p0:Item)(p1:U Int)(p2:U (U Item))(p3:U Memory)(p4:U Choice)(p5:U Item):QbQ Bool:=
 (some ((decide (p0.Dep<0))||decide (p0.Dep> ((p4).length:Int))))
def qV(p0:U Item)(p1:U Int)(p2:U (U Item))(p3:U Memory)(p4:U Choice)(p5:U Item)(s1:Int):QbQ (Int⊕Int):=
 (if(decide (s1<((p0).length:Int)))=true then((idx p0 s1).bind λx4=>((uv x4 p1 p2 p3 p4 p5).bind λx5=>(if x5=true then(Option.map Sum.inr (some s1))else(some (.inl (IntKind.i64.wrap (s1+1)))))))else(Option.map Sum.inr (some (-1))))
def uo(p0:U Item)(p1:U Int)(p2:U (U Item))(p3:U Memory)(p4:U Choice)(p5:U Item):QbQ Int:=
 (iter (λak:Int=>qV p0 p1 p2 p3 p4 p5 ak) 0)
def uk(p0:U Item)(p1:U Int)(p2:U (U Item))(p3:U Memory)(p4:U Choice)(p5:U Item):QbQ Bool:=
 ((uo p0 p1 p2 p3 p4 p5).bind λx2=>(some (decide (x2>=0))))
def oU(p0:U Item)(p1:U Int)(p2:U (U Item))(p3:U Memory)(p4:U Choice)(p5:U Item):QbQ Bool:=
 ((uk p0 p1 p2 p3 p4 p5).bind λx2=>(some (!x2)))
def jy(p0:Memory)(s1:Int):QbQ (Int⊕Int):=
 (if(decide (s1<((p0.Keys).length:Int)))=true then((idx p0.Keys s1).bind λx3=>(Option.bind (if(decide (x3.N<1))=true then(some true)else(if(decide (s1> 0))=true then((idx p0.Keys (IntKind.i64.wrap (s1- 1))).bind λx4=>(some (decide (x4.Key>=x3.Key))))else(some false))) λc5=>(if c5=true then(Option.map Sum.inr (some 4))else(some (.inl (IntKind.i64.wrap (s1+1)))))))else(Option.map Sum.inr (if(decide (p0.Dep<0))=true then(some 3)else(some 0))))
def lN(p0:Memory):QbQ Int:=
 (if(decide (((p0.Keys).length:Int)> 6))=true then(some 2)else(iter (λqt:Int=>jy p0 qt) 0))
def rU(p0:Net)(p1:Choice):QbQ Bool:=
 (Option.bind (if(decide (p1.Node>=0))=true then(if(decide (p1.Node<((p0.Nodes).length:Int)))=true then((idx p0.Nodes p1.Node).bind λx1=>(if(x1.Kind==6)=true then(if(decide (p1.Lane>=0))=true then((idx p0.Nodes p1.Node).bind λx2=>(some (decide (p1.Lane<((x2.In).length:Int)))))else(some false))else(some false)))else(some false))else(some false)) λc3=>(some c3))
def pd(p0:Net)(p2:State)(s20:Int):QbQ (Int⊕Int):=
 (if(decide (s20<((p2.Choices).length:Int)))=true then((idx p2.Choices s20).bind λx22=>((rU p0 x22).bind λx24=>(if(!x24)=true then(Option.map Sum.inr (some 5))else(some (.inl (IntKind.i64.wrap (s20+1)))))))else(Option.map Sum.inr ((oU p2.Out p2.At p2.Rings p2.Memory p2.Choices p2.Out).bind λx26=>(if(!x26)=true then(some 3)else(some 0)))))
def o8(p0:Net)(p2:State)(s15:Int):QbQ (Int⊕Int):=
 (if(decide (s15<((p2.Memory).length:Int)))=true then((idx p2.Memory s15).bind λx17=>((lN x17).bind λx19=>(if(x19 !=0)=true then(Option.map Sum.inr (some x19))else(if(decide (x17.Dep> ((p2.Choices).length:Int)))=true then(Option.map Sum.inr (some 3))else(some (.inl (IntKind.i64.wrap (s15+1))))))))else(Option.map Sum.inr (iter (λjZ:Int=>pd p0 p2 jZ) 0)))
def pc(p0:Net)(p2:State)(s10:Int):QbQ (Int⊕Int):=
 (if(decide (s10<((p2.Rings).length:Int)))=true then((idx p2.Rings s10).bind λx12=>(if(decide (((x12).length:Int)> p0.Room))=true then(Option.map Sum.inr (some 2))else((oU x12 p2.At p2.Rings p2.Memory p2.Choices p2.Out).bind λx14=>(if(!x14)=true then(Option.map Sum.inr (some 3))else(some (.inl (IntKind.i64.wrap (s10+1))))))))else(Option.map Sum.inr (iter (λmu:Int=>o8 p0 p2 mu) 0)))
def rH(p0:Net)(p1:U (U Item))(p2:State)(s5:Int):QbQ (Int⊕Int):=
 (if(decide (s5<((p2.At).length:Int)))=true then((idx p2.At s5).bind λx7=>(Option.bind (if(decide (x7<0))=true then(some true)else((idx p1 s5).bind λx8=>(some (decide (x7> ((x8).length:Int)))))) λc9=>(if c9=true then(Option.map Sum.inr (some 3))else(some (.inl (IntKind.i64.wrap (s5+1)))))))else(Option.map Sum.inr (iter (λdG:Int=>pc p0 p2 dG) 0)))
def iw(p0:Net)(p1:U (U Item))(p2:State):QbQ Int:=
 ((lL p0 p1).bind λx2=>(if(x2 !=0)=true then(some x2)else(if((((p2.At).length:Int)!=((p1).length:Int))||((((p2.Rings).length:Int)!=p0.Rings)||((p2.Memory).length:Int)!=((p0.Nodes).length:Int)))=true then(some 4)else(if((decide (((p2.Choices).length:Int)> 500))||decide (((p2.Out).length:Int)> 2000))=true then(some 2)else(iter (λdi:Int=>rH p0 p1 p2 di) 0)))))
def lE(p0:Disk)(s5:Int):QbQ (Int⊕Int):=
 (if(decide (s5<((p0.Wait).length:Int)))=true then((idx p0.Wait s5).bind λx7=>(if((decide (x7.At<0))||decide (x7.At>=200))=true then(Option.map Sum.inr (some 3))else(if(decide (((x7.Bytes).length:Int)> 64))=true then(Option.map Sum.inr (some 2))else(some (.inl (IntKind.i64.wrap (s5+1)))))))else(Option.map Sum.inr (some 0)))
def kp(p0:Disk)(s2:Int):QbQ (Int⊕Int):=
 (if(decide (s2<((p0.Sectors).length:Int)))=true then((idx p0.Sectors s2).bind λx4=>(if(decide (((x4).length:Int)> 64))=true then(Option.map Sum.inr (some 2))else(some (.inl (IntKind.i64.wrap (s2+1))))))else(Option.map Sum.inr (iter (λbn:Int=>lE p0 bn) 0)))
def gN(p0:Disk):QbQ Int:=
 (if((decide (((p0.Sectors).length:Int)> 200))||decide (((p0.Wait).length:Int)> 300))=true then(some 2)else(iter (λaU:Int=>kp p0 aU) 0))
def rX(p0:Shop):QbQ Int:=
 ((iw p0.N p0.Items p0.S).bind λx2=>(if(x2 !=0)=true then(some x2)else((gN p0.D).bind λx4=>(if(x4 !=0)=true then(some x4)else(if((decide (p0.Safe<0))||((decide (p0.Safe> p0.Logged))||((decide (p0.Logged> ((p0.S.Choices).length:Int)))||((decide (p0.Epoch<0))||((decide (p0.Epoch> 200))||((decide (p0.Laid<(-1)))||((decide (p0.Laid> ((p0.S.Choices).length:Int)))||((decide (p0.Next<0))||decide (p0.Next> 80)))))))))=true then(some 3)else(if(decide (((p0.Told).length:Int)> 2000))=true then(some 2)else(some 0)))))))
def uj(p0:U (U Item)):QbQ (U (U Item)):=app [] p0
def uw(p0:U Memory):QbQ (U Memory):=app [] p0
def rf(p0:U Keyed):QbQ (U Keyed):=app [] p0
def nu(p0:Memory):QbQ Memory:=
 ((rf p0.Keys).bind λx2=>(some (⟨p0.Sum,x2,p0.Dep⟩:Memory)))
def ux(p0:U Choice):QbQ (U Choice):=app [] p0
def nb(p0:State)(x2:U Int)(s6:U (U Item))(x13:U Memory)(s14:Int)(s15:U Memory):QbQ ((Int×(U Memory))⊕State):=
 (if(decide (s14<((x13).length:Int)))=true then((ixN s15 s14).bind λx16=>(((s15)[x16]?).bind λx17=>((nu x17).bind λx18=>((ixN s15 s14).bind λx19=>(((s15)[x19]?).bind λx20=>(some (.inl (IntKind.i64.wrap (s14+1),(List.set s15 x19 x18)))))))))else(Option.map Sum.inr ((ux p0.Choices).bind λx22=>((fh p0.Out).bind λx24=>(some (⟨x2,s6,s15,x22,x24⟩:State))))))
def lI(p0:State)(x2:U Int)(x4:U (U Item))(s5:Int)(s6:U (U Item)):QbQ ((Int×(U (U Item)))⊕State):=
 (if(decide (s5<((x4).length:Int)))=true then((ixN s6 s5).bind λx7=>(((s6)[x7]?).bind λx8=>((fh x8).bind λx9=>((ixN s6 s5).bind λx10=>(((s6)[x10]?).bind λx11=>(some (.inl (IntKind.i64.wrap (s5+1),(List.set s6 x10 x9)))))))))else(Option.map Sum.inr ((uw p0.Memory).bind λx13=>(iter (λdU:Int×(U Memory)=>nb p0 x2 s6 x13 dU.1 dU.2) (0,x13)))))
def kC(p0:State):QbQ State:=
 ((km p0.At).bind λx2=>((uj p0.Rings).bind λx4=>(iter (λaU:Int×(U (U Item))=>lI p0 x2 x4 aU.1 aU.2) (0,x4))))
def mH(p0:U (U UInt8)):QbQ (U (U UInt8)):=app [] p0
def oT(p0:U Write):QbQ (U Write):=app [] p0
def iT(p0:Shop):QbQ Shop:=
 ((kG p0.N).bind λx4=>((rz p0.Items).bind λx5=>((kC p0.S).bind λx6=>((mH p0.D.Sectors).bind λx9=>((oT p0.D.Wait).bind λx10=>((fh p0.Told).bind λx12=>(some (⟨x4,x5,x6,(⟨x9,x10⟩:Disk),p0.Logged,p0.Safe,p0.Epoch,p0.Laid,p0.Next,x12,p0.Down⟩:Shop))))))))
def pD(p0:Net)(p1:U (U Item))(p2:State)(p3:Move):QbQ (Item×Bool):=
 ((idx p0.Nodes p3.Node).bind λx2=>(if(x2.Kind==1)=true then((idx p2.At x2.A).bind λx5=>((idx p1 x2.A).bind λx6=>(if(x5==((x6).length:Int))=true then(some ((⟨0,0,0⟩:Item),false))else((idx p1 x2.A).bind λx10=>((idx p2.At x2.A).bind λx11=>((idx x10 x11).bind λx12=>(some (x12,true))))))))else((idx x2.In p3.Lane).bind λx15=>((idx p2.Rings x15).bind λx16=>(if(((x16).length:Int)==0)=true then(some ((⟨0,0,0⟩:Item),false))else((idx x16 0).bind λx18=>(some (x18,true))))))))
def r9(p0:Item)(p1:Int):QbQ (Int×Int):=
 (if((decide (p1<1))||decide (p1> 16))=true then(some (0,3))else((rem p0.Key p1).bind λx4=>((rem (IntKind.i64.wrap (x4+p1)) p1).bind λx5=>(some (x5,0)))))
def pK(p0:Node)(p1:Item):QbQ (U Int):=
 (if(p0.Kind !=7)=true then(some p0.Out)else((r9 p1 ((p0.Out).length:Int)).bind λx2=>((sub p0.Out x2.1 (IntKind.i64.wrap (x2.1+1))).bind λx4=>(some x4))))
def uF(p0:Int)(p1:U Int)(p2:U (U Item))(p3:U Memory)(p4:U Choice)(p5:U Item)(p6:U Node)(p7 p8:Int):QbQ Bool:=
 ((idx p2 p0).bind λx2=>(some (decide (((x2).length:Int)>=p8))))
def qZ(p0 p1:U Int)(p2:U (U Item))(p3:U Memory)(p4:U Choice)(p5:U Item)(p6:U Node)(p7 p8 s1:Int):QbQ (Int⊕Int):=
 (if(decide (s1<((p0).length:Int)))=true then((idx p0 s1).bind λx4=>((uF x4 p1 p2 p3 p4 p5 p6 p7 p8).bind λx5=>(if x5=true then(Option.map Sum.inr (some s1))else(some (.inl (IntKind.i64.wrap (s1+1)))))))else(Option.map Sum.inr (some (-1))))
def ur(p0 p1:U Int)(p2:U (U Item))(p3:U Memory)(p4:U Choice)(p5:U Item)(p6:U Node)(p7 p8:Int):QbQ Int:=
 (iter (λak:Int=>qZ p0 p1 p2 p3 p4 p5 p6 p7 p8 ak) 0)
def qY(p0 p1:U Int)(p2:U (U Item))(p3:U Memory)(p4:U Choice)(p5:U Item)(p6:U Node)(p7 p8:Int):QbQ Bool:=
 ((ur p0 p1 p2 p3 p4 p5 p6 p7 p8).bind λx2=>(some (decide (x2>=0))))
def xe(p0:Item):QbQ Int:=
 (some (IntKind.i64.wrap (p0.Val+1)))
def xd(p0:Item):QbQ Int:=
 (some (IntKind.i64.wrap (2*p0.Val)))
def w9(p0:Item):QbQ Int:=
 (some (IntKind.i64.wrap (0- p0.Val)))
def xa(p0:Item):QbQ Int:=
 (some (IntKind.i64.wrap (p0.Val+p0.Key)))
def xj(p0:Int)(p1:Item):QbQ Item:=
 (Option.bind (if(p0==0)=true then((xe p1).bind λx1=>(some x1))else(if(p0==1)=true then((xd p1).bind λx2=>(some x2))else(if(p0==2)=true then((w9 p1).bind λx3=>(some x3))else((isAt p0 3).bind λx4=>((xa p1).bind λx5=>(some x5)))))) λc6=>(some (⟨p1.Key,c6,p1.Dep⟩:Item)))
def pk(p0:Keyed)(p1:Int):QbQ Int:=
 (if(decide (p0.Key<p1))=true then(some (-1))else(if(decide (p0.Key> p1))=true then(some 1)else(some 0)))
def qT(p0:U Keyed)(p1 s1 s2:Int):QbQ ((Int×Int)⊕(Int×Bool)):=
 (if(decide (s1<s2))=true then((shr .u64 (IntKind.u64.wrap (IntKind.i64.wrap (s1+s2))) 1).bind λx4=>((idx p0 (IntKind.i64.wrap x4)).bind λx7=>((pk x7 p1).bind λx8=>(if(decide (x8<0))=true then(some (.inl (IntKind.i64.wrap ((IntKind.i64.wrap x4)+1),s2)))else(some (.inl (s1,IntKind.i64.wrap x4)))))))else(Option.map Sum.inr (Option.bind (if(decide (s1<((p0).length:Int)))=true then((idx p0 s1).bind λx9=>((pk x9 p1).bind λx10=>(some (x10==0))))else(some false)) λc11=>(some (s1,c11)))))
def qU(p0:U Keyed)(p1:Int):QbQ (Int×Bool):=
 (iter (λak:Int×Int=>qT p0 p1 ak.1 ak.2) (0,((p0).length:Int)))
def wZ(p0:Int)(p1 p2:U Keyed)(C:Nat):QbQ (U Keyed):=
 ((vwok ((p1).length) p0 (((p1).length:Nat):Int)).bind λx2=>(if(((p2).length:Int)==0)=true then(none)else(if(p0==(((p1).length:Nat):Int))=true then((app p1 p2).bind λx4=>(some x4))else(if(decide ((IntKind.i64.wrap ((((p1).length:Nat):Int)+((p2).length:Int)))> ((C:Nat):Int)))=true then((vwok ((p1).length) 0 p0).bind λx7=>((growz p1 ((p0).toNat) C (IntKind.i64.wrap ((IntKind.i64.wrap ((((p1).length:Nat):Int)+((p2).length:Int)))- p0)) (⟨0,0⟩:Keyed)).bind λx8=>((vwok (x8).length p0 ((x8).length:Int)).bind λx11=>((vwok (x8).length ((p0).toNat:Nat) (((p0).toNat:Nat)+(((((x8).length:Int)).toNat- (p0).toNat):Nat))).bind λx12=>((vwok ((cpy x8 ((p0).toNat) ((((x8).length:Int)).toNat- (p0).toNat) p2)).length (IntKind.i64.wrap (p0+((p2).length:Int))) (((cpy x8 ((p0).toNat) ((((x8).length:Int)).toNat- (p0).toNat) p2)).length:Int)).bind λx17=>((vwok ((p1).length) p0 (((p1).length:Nat):Int)).bind λx18=>((vwok ((cpy x8 ((p0).toNat) ((((x8).length:Int)).toNat- (p0).toNat) p2)).length ((IntKind.i64.wrap (p0+((p2).length:Int))).toNat:Nat) (((IntKind.i64.wrap (p0+((p2).length:Int))).toNat:Nat)+((((((cpy x8 ((p0).toNat) ((((x8).length:Int)).toNat- (p0).toNat) p2)).length:Int)).toNat- (IntKind.i64.wrap (p0+((p2).length:Int))).toNat):Nat))).bind λx19=>((vwok (p1).length ((0+(p0).toNat):Nat) (((0+(p0).toNat):Nat)+((((((p1).length:Nat):Int)).toNat- (p0).toNat):Nat))).bind λx20=>(some (cpy (cpy x8 ((p0).toNat) ((((x8).length:Int)).toNat- (p0).toNat) p2) ((IntKind.i64.wrap (p0+((p2).length:Int))).toNat) (((((cpy x8 ((p0).toNat) ((((x8).length:Int)).toNat- (p0).toNat) p2)).length:Int)).toNat- (IntKind.i64.wrap (p0+((p2).length:Int))).toNat) ((p1.drop (0+(p0).toNat)).take (((((p1).length:Nat):Int)).toNat- (p0).toNat))))))))))))else((roomx (p1).length C (IntKind.i64.wrap ((((p1).length:Nat):Int)+((p2).length:Int)))).bind λx22=>((vwok ((p1).length+x22) (IntKind.i64.wrap (p0+((p2).length:Int))) ((((p1).length+x22):Nat):Int)).bind λx25=>((ovok p2 ((((((p1).length+x22):Nat):Int)).toNat- (IntKind.i64.wrap (p0+((p2).length:Int))).toNat)).bind λx26=>((vwok ((p1).length+x22) (IntKind.i64.wrap (p0+((p2).length:Int))) ((((p1).length+x22):Nat):Int)).bind λx30=>((vwok ((p1).length+x22) p0 ((((p1).length+x22):Nat):Int)).bind λx31=>((cpyU p1 x22 ((IntKind.i64.wrap (p0+((p2).length:Int))).toNat) ((((((p1).length+x22):Nat):Int)).toNat- (IntKind.i64.wrap (p0+((p2).length:Int))).toNat) ((p0).toNat) ((((((p1).length+x22):Nat):Int)).toNat- (p0).toNat)).bind λx32=>((vwok (x32).length p0 ((x32).length:Int)).bind λx35=>((vwok (x32).length ((p0).toNat:Nat) (((p0).toNat:Nat)+(((((x32).length:Int)).toNat- (p0).toNat):Nat))).bind λx36=>(some (cpy x32 ((p0).toNat) ((((x32).length:Int)).toNat- (p0).toNat) p2))))))))))))))
def q8(p0:Int)(p1 p2:U Keyed):QbQ (U Keyed):=allC (p1).length (λC=>wZ p0 p1 p2 C)
def mZ(p3:Item)(x4:Memory)(x9:Int×Bool)(z12:U Keyed):QbQ (Memory×Item×Int):=
 ((ixN z12 x9.1).bind λx17=>(((z12)[x17]?).bind λx18=>((ixN z12 x9.1).bind λx19=>(((z12)[x19]?).bind λx20=>((ixN (List.set z12 x19 (⟨x20.Key,IntKind.i64.wrap (x18.N+1)⟩:Keyed)) x9.1).bind λx23=>((((List.set z12 x19 (⟨x20.Key,IntKind.i64.wrap (x18.N+1)⟩:Keyed)))[x23]?).bind λx24=>(some ((⟨x4.Sum,(List.set z12 x19 (⟨x20.Key,IntKind.i64.wrap (x18.N+1)⟩:Keyed)),(if p3.Dep> x4.Dep then p3.Dep else x4.Dep)⟩:Memory),(⟨p3.Key,x24.N,(if p3.Dep> x4.Dep then p3.Dep else x4.Dep)⟩:Item),0))))))))
def kx(p0 p1:Int)(p2:Memory)(p3:Item):QbQ (Memory×Item×Int):=
 ((lN p2).bind λx2=>(if(x2 !=0)=true then(some ((⟨0,[],0⟩:Memory),(⟨0,0,0⟩:Item),x2))else(if(decide (p3.Dep<0))=true then(some ((⟨0,[],0⟩:Memory),(⟨0,0,0⟩:Item),3))else((nu p2).bind λx4=>(if(p0==2)=true then(if((decide (p1<0))||decide (p1> 3))=true then(some ((⟨0,[],0⟩:Memory),(⟨0,0,0⟩:Item),3))else((xj p1 p3).bind λx7=>(some (x4,x7,0))))else(if(p0==3)=true then(some ((⟨IntKind.i64.wrap (x4.Sum+p3.Val),x4.Keys,(if p3.Dep> x4.Dep then p3.Dep else x4.Dep)⟩:Memory),(⟨p3.Key,IntKind.i64.wrap (x4.Sum+p3.Val),(if p3.Dep> x4.Dep then p3.Dep else x4.Dep)⟩:Item),0))else(if(p0==4)=true then((qU x4.Keys p3.Key).bind λx9=>(if((!x9.2)&&((x4.Keys).length:Int)==6)=true then(some ((⟨x4.Sum,x4.Keys,(if p3.Dep> x4.Dep then p3.Dep else x4.Dep)⟩:Memory),(⟨p3.Key,0,(if p3.Dep> x4.Dep then p3.Dep else x4.Dep)⟩:Item),0))else(if(!x9.2)=true then((q8 x9.1 x4.Keys ([(⟨p3.Key,0⟩:Keyed)]:U Keyed)).bind λx11=>(mZ p3 x4 x9 x11))else(mZ p3 x4 x9 x4.Keys))))else(if(p0==1)=true then(if(p0==1)=true then(some (x4,p3,0))else(some ((⟨0,[],0⟩:Memory),(⟨0,0,0⟩:Item),5)))else(if(p0==5)=true then(if(p0==5)=true then(some (x4,p3,0))else(some ((⟨0,[],0⟩:Memory),(⟨0,0,0⟩:Item),5)))else(if(p0==6)=true then(if(p0==6)=true then(some (x4,p3,0))else(some ((⟨0,[],0⟩:Memory),(⟨0,0,0⟩:Item),5)))else(if(p0==7)=true then(if(p0==7)=true then(some (x4,p3,0))else(some ((⟨0,[],0⟩:Memory),(⟨0,0,0⟩:Item),5)))else(if(p0==8)=true then(some (x4,p3,0))else(some ((⟨0,[],0⟩:Memory),(⟨0,0,0⟩:Item),5))))))))))))))
def nI(p0:Net)(p1:U (U Item))(p2:State)(p3:Move):QbQ Bool:=
 ((idx p0.Nodes p3.Node).bind λx2=>((pD p0 p1 p2 p3).bind λx4=>(Option.bind (if(!x4.2)=true then(some true)else((pK x2 x4.1).bind λx5=>((qY x5 p2.At p2.Rings p2.Memory p2.Choices p2.Out p0.Nodes p0.Rings p0.Room).bind λx6=>(some x6)))) λc7=>(if c7=true then(some false)else(if(if(x2.Kind==6)=true then((((p2.Choices).length:Int)==500)||((x2.Kind==8)&&((p2.Out).length:Int)==2000))else((x2.Kind==8)&&((p2.Out).length:Int)==2000))=true then(some false)else((idx p2.Memory p3.Node).bind λx11=>((kx x2.Kind x2.A x11 x4.1).bind λx12=>(some (x12.2.2==0)))))))))
def iQ(p0:Net)(p1:U (U Item))(s1:Int)(p2:State)(z5 s6:Int)(s7:U Move):QbQ ((Int×(U Move))⊕((Int×(U Move))⊕(U Move))):=
 (if(decide (s6<z5))=true then((nI p0 p1 p2 (⟨s1,s6⟩:Move)).bind λx9=>(if x9=true then((app s7 [(⟨s1,s6⟩:Move)]).bind λx10=>(some (.inl (IntKind.i64.wrap (s6+1),x10))))else(some (.inl (IntKind.i64.wrap (s6+1),s7)))))else(Option.map Sum.inr (some (.inl (IntKind.i64.wrap (s1+1),s7)))))
def o9(p0:Net)(p1:U (U Item))(s1:Int)(p2:State)(s2:U Move)(z5:Int):QbQ ((Int×(U Move))⊕(U Move)):=
 (iter (λeF:Int×(U Move)=>iQ p0 p1 s1 p2 z5 eF.1 eF.2) (0,s2))
def mY(p0:Net)(p1:U (U Item))(p2:State)(s1:Int)(s2:U Move):QbQ ((Int×(U Move))⊕(U Move)):=
 (if(decide (s1<((p0.Nodes).length:Int)))=true then((idx p0.Nodes s1).bind λx4=>(if(x4.Kind==6)=true then(o9 p0 p1 s1 p2 s2 ((x4.In).length:Int))else(o9 p0 p1 s1 p2 s2 1)))else(Option.map Sum.inr (some s2)))
def sa(p0:Net)(p1:U (U Item))(p2:State):QbQ (U Move):=
 (iter (λgw:Int×(U Move)=>mY p0 p1 p2 gw.1 gw.2) (0,[]))
def fk(p0:Net)(p1:U (U Item))(p2:State):QbQ ((U Move)×Int):=
 ((iw p0 p1 p2).bind λx2=>(if(x2 !=0)=true then(some ([],x2))else((sa p0 p1 p2).bind λx4=>(some (x4,0)))))
def sm(p0:U Item):QbQ (Item×(U Item)×Int):=
 (if(decide (((p0).length:Int)> 6))=true then(some ((⟨0,0,0⟩:Item),[],2))else(if(((p0).length:Int)==0)=true then(some ((⟨0,0,0⟩:Item),[],9))else((idx p0 0).bind λx4=>((sub p0 1 ((p0).length:Int)).bind λx5=>((fh x5).bind λx6=>(some (x4,x6,0)))))))
def sC(p0:U Item)(p1:Int)(p2:Item):QbQ ((U Item)×Int):=
 (if((decide (p1<1))||decide (p1> 6))=true then(some ([],3))else(if(decide (((p0).length:Int)> p1))=true then(some ([],2))else(if(((p0).length:Int)==p1)=true then(some ([],8))else((fh p0).bind λx4=>((app x4 [p2]).bind λx5=>(some (x5,0)))))))
def mR(p0:Net)(p5:U Memory)(z16 x19:U Int)(z23:U Choice)(x31:Memory×Item×Int)(x32:Nat)(z35:U Item)(s36:Int)(s37:U (U Item)):QbQ ((Int×(U (U Item)))⊕((U Int)×(U (U Item))×(U Memory)×(U Choice)×(U Item))):=
 (if(decide (s36<((x19).length:Int)))=true then((idx x19 s36).bind λx39=>((ixN s37 x39).bind λx40=>(((s37)[x40]?).bind λx41=>((sC x41 p0.Room x31.2.1).bind λx42=>((ixN s37 x39).bind λx43=>(((s37)[x43]?).bind λx44=>(some (.inl (IntKind.i64.wrap (s36+1),(List.set s37 x43 x42.1))))))))))else(Option.map Sum.inr (some (z16,s37,(List.set p5 x32 x31.1),z23,z35))))
def oZ(p0:Net)(p5:U Memory)(z16:U Int)(z17:U (U Item))(x19:U Int)(z23:U Choice)(x31:Memory×Item×Int)(x32:Nat)(z35:U Item):QbQ ((U Int)×(U (U Item))×(U Memory)×(U Choice)×(U Item)):=
 (iter (λmw:Int×(U (U Item))=>mR p0 p5 z16 x19 z23 x31 x32 z35 mw.1 mw.2) (0,z17))
def mP(p0:Net)(p2:Move)(x2:Node)(x4:Item×Bool)(p5:U Memory)(p7:U Item)(z16:U Int)(z17:U (U Item))(x19:U Int)(z22:Int)(z23:U Choice):QbQ ((U Int)×(U (U Item))×(U Memory)×(U Choice)×(U Item)):=
 ((ixN p5 p2.Node).bind λx29=>(((p5)[x29]?).bind λx30=>((kx x2.Kind x2.A x30 (⟨x4.1.Key,x4.1.Val,z22⟩:Item)).bind λx31=>((ixN p5 p2.Node).bind λx32=>(((p5)[x32]?).bind λx33=>(if(x2.Kind==8)=true then((app p7 [x31.2.1]).bind λx34=>(oZ p0 p5 z16 z17 x19 z23 x31 x32 x34))else(oZ p0 p5 z16 z17 x19 z23 x31 x32 p7)))))))
def mN(p0:Net)(p2:Move)(x2:Node)(x4:Item×Bool)(p5:U Memory)(p6:U Choice)(p7:U Item)(z16:U Int)(z17:U (U Item)):QbQ ((U Int)×(U (U Item))×(U Memory)×(U Choice)×(U Item)):=
 ((pK x2 x4.1).bind λx19=>(if(x2.Kind==6)=true then((app p6 [(⟨p2.Node,p2.Lane⟩:Choice)]).bind λx21=>(mP p0 p2 x2 x4 p5 p7 z16 z17 x19 ((x21).length:Int) x21))else(mP p0 p2 x2 x4 p5 p7 z16 z17 x19 x4.1.Dep p6)))
def pg(p0:Net)(p1:U (U Item))(p2:Move)(p3:U Int)(p4:U (U Item))(p5:U Memory)(p6:U Choice)(p7:U Item):QbQ ((U Int)×(U (U Item))×(U Memory)×(U Choice)×(U Item)):=
 ((idx p0.Nodes p2.Node).bind λx2=>((pD p0 p1 (⟨p3,p4,p5,p6,p7⟩:State) p2).bind λx4=>(if(x2.Kind==1)=true then((ixN p3 x2.A).bind λx5=>(((p3)[x5]?).bind λx6=>((ixN p3 x2.A).bind λx7=>(((p3)[x7]?).bind λx8=>(mN p0 p2 x2 x4 p5 p6 p7 (List.set p3 x7 (IntKind.i64.wrap (x6+1))) p4)))))else((idx x2.In p2.Lane).bind λx9=>((idx x2.In p2.Lane).bind λx10=>((ixN p4 x10).bind λx11=>(((p4)[x11]?).bind λx12=>((sm x12).bind λx13=>((ixN p4 x9).bind λx14=>(((p4)[x14]?).bind λx15=>(mN p0 p2 x2 x4 p5 p6 p7 p3 (List.set p4 x14 x13.2.1))))))))))))
def fq(p0:Net)(p1:U (U Item))(p2:State)(p3:Move):QbQ (State×Int):=
 ((iw p0 p1 p2).bind λx2=>(if(x2 !=0)=true then(some ((⟨[],[],[],[],[]⟩:State),x2))else(Option.bind (if(decide (p3.Node<0))=true then(some true)else(if(decide (p3.Node>=((p0.Nodes).length:Int)))=true then(some true)else(if(decide (p3.Lane<0))=true then(some true)else(if(decide (p3.Lane> 0))=true then((idx p0.Nodes p3.Node).bind λx3=>(if(x3.Kind !=6)=true then(some true)else((idx p0.Nodes p3.Node).bind λx4=>(some (decide (p3.Lane>=((x4.In).length:Int)))))))else(some false))))) λc5=>(if c5=true then(some ((⟨[],[],[],[],[]⟩:State),5))else((nI p0 p1 p2 p3).bind λx7=>(if(!x7)=true then(some ((⟨[],[],[],[],[]⟩:State),10))else((kC p2).bind λx9=>((pg p0 p1 p3 x9.At x9.Rings x9.Memory x9.Choices x9.Out).bind λx11=>(some ((⟨x11.1,x11.2.1,x11.2.2.1,x11.2.2.2.1,x11.2.2.2.2⟩:State),0))))))))))
def rn(p0:Int)(p1:U Node)(p2 p3:Int)(p4:U (U Item))(p5:U Int)(p6:U (U Item))(p7:U Memory)(p8:U Choice)(p9:U Item)(p10:U (U UInt8))(p11:U Write)(p12 p13 p14 p15 p16:Int)(p17:Bool)(p18:U Item):QbQ (Int×(U Int)×(U (U Item))×(U Memory)×(U Choice)×(U Item)):=
 ((fk (⟨p1,p2,p3⟩:Net) p4 (⟨p5,p6,p7,p8,p9⟩:State)).bind λx2=>(if(((x2.1).length:Int)==0)=true then(some (10,p5,p6,p7,p8,p9))else((rem p0 ((x2.1).length:Int)).bind λx8=>((rem (IntKind.i64.wrap (x8+((x2.1).length:Int))) ((x2.1).length:Int)).bind λx9=>((ixN x2.1 x9).bind λx10=>(((x2.1)[x10]?).bind λx11=>((fq (⟨p1,p2,p3⟩:Net) p4 (⟨p5,p6,p7,p8,p9⟩:State) x11).bind λx12=>(some (0,x12.1.At,x12.1.Rings,x12.1.Memory,x12.1.Choices,x12.1.Out)))))))))
def mQ(p0:U Choice)(s1:Int)(s2:U Int):QbQ ((Int×(U Int))⊕((U UInt8)×Int)):=
 (if(decide (s1<((p0).length:Int)))=true then((idx p0 s1).bind λx4=>(if((decide (x4.Node<0))||((decide (x4.Node>=12))||((decide (x4.Lane<0))||decide (x4.Lane>=16))))=true then(Option.map Sum.inr (some ([],3)))else((app s2 [IntKind.u8.wrap x4.Node,IntKind.u8.wrap x4.Lane]).bind λx6=>(some (.inl (IntKind.i64.wrap (s1+1),x6))))))else(Option.map Sum.inr (some (ce s2,0))))
def rE(p0:U Choice):QbQ ((U UInt8)×Int):=
 (if(decide (((p0).length:Int)> 30))=true then(some ([],2))else(iter (λcj:Int×(U Int)=>mQ p0 cj.1 cj.2) (0,[])))
def lK(s2 s7 s8:Int):QbQ ((Int×Int)⊕((Int×Int)⊕Int)):=
 (if(decide (s8<8))=true then((shl .i64 s7 1).bind λx10=>(if((ibits .and .i64 x10 65536)!=0)=true then(some (.inl (ibits .xor .i64 x10 69665,IntKind.i64.wrap (s8+1))))else(some (.inl (x10,IntKind.i64.wrap (s8+1))))))else(Option.map Sum.inr (some (.inl (s7,IntKind.i64.wrap (s2+1))))))
def m7(p0:U UInt8)(s1 s2:Int):QbQ ((Int×Int)⊕Int):=
 (if(decide (s2<((p0).length:Int)))=true then((idx p0 s2).bind λx5=>((shl .i64 (IntKind.i64.wrap (x5.toNat:Int)) 8).bind λx6=>(iter (λeM:Int×Int=>lK s2 eM.1 eM.2) (ibits .xor .i64 s1 x6,0))))else(Option.map Sum.inr (some s1)))
def pF(p0:U UInt8):QbQ Int:=
 (iter (λbn:Int×Int=>m7 p0 bn.1 bn.2) (65535,0))
def pG(p0:U UInt8):QbQ ((U UInt8)×Int):=
 (if(p0==[])=true then(some ([],4))else(if(decide (((p0).length:Int)> 60))=true then(some ([],2))else((cat (ce [IntKind.u8.wrap ((p0).length:Int)]) p0).bind λx3=>((pF x3).bind λx4=>((cat (ce [IntKind.u8.wrap ((p0).length:Int)]) p0).bind λx8=>((shr .i64 x4 8).bind λx9=>((cat x8 (ce [IntKind.u8.wrap x9,IntKind.u8.wrap x4])).bind λx10=>(some (x10,0)))))))))
def jD(p0:Disk)(p1:Int)(p2:U UInt8):QbQ (Disk×Int):=
 ((gN p0).bind λx2=>(if(x2 !=0)=true then(some ((⟨[],[]⟩:Disk),x2))else(if((decide (p1<0))||decide (p1>=200))=true then(some ((⟨[],[]⟩:Disk),3))else(if(decide (((p2).length:Int)> 64))=true then(some ((⟨[],[]⟩:Disk),2))else(if(((p0.Wait).length:Int)==300)=true then(some ((⟨[],[]⟩:Disk),8))else((mH p0.Sectors).bind λx7=>((oT p0.Wait).bind λx8=>((app x8 [(⟨p1,p2⟩:Write)]).bind λx9=>(some ((⟨x7,x9⟩:Disk),0))))))))))
def gK(p1 s4:Int)(s5:U Choice)(s6:U (U UInt8))(s7:U Write):QbQ ((Int×(U Choice)×(U (U UInt8))×(U Write))⊕(Disk×Int×Int)):=
 (if(decide (((s5).length:Int)> 0))=true then((sub s5 0 (if((s5).length:Int)<29 then((s5).length:Int)else 29)).bind λx10=>((rE x10).bind λx11=>(if(x11.2 !=0)=true then(Option.map Sum.inr (some ((⟨[],[]⟩:Disk),0,x11.2)))else((cat (ce [IntKind.u8.wrap p1]) x11.1).bind λx14=>((pG x14).bind λx15=>(if((IntKind.i64.wrap (120+s4))==200)=true then(Option.map Sum.inr (some ((⟨[],[]⟩:Disk),0,8)))else((jD (⟨s6,s7⟩:Disk) (IntKind.i64.wrap (120+s4)) x15.1).bind λx17=>(if(x17.2 !=0)=true then(Option.map Sum.inr (some ((⟨[],[]⟩:Disk),0,x17.2)))else((sub s5 (if((s5).length:Int)<29 then((s5).length:Int)else 29) ((s5).length:Int)).bind λx18=>(some (.inl (IntKind.i64.wrap (s4+1),x18,x17.1.Sectors,x17.1.Wait))))))))))))else(Option.map Sum.inr (some ((⟨s6,s7⟩:Disk),s4,0))))
def pA(p0:Disk)(p1 p2:Int)(p3:U Choice):QbQ (Disk×Int×Int):=
 ((gN p0).bind λx2=>(if(x2 !=0)=true then(some ((⟨[],[]⟩:Disk),0,x2))else(if((decide (p1<0))||((decide (p1> 200))||((decide (p2<0))||decide (p2> 80))))=true then(some ((⟨[],[]⟩:Disk),0,3))else(iter (λiM:Int×(U Choice)×(U (U UInt8))×(U Write)=>gK p1 iM.1 iM.2.1 iM.2.2.1 iM.2.2.2) (p2,p3,p0.Sectors,p0.Wait)))))
def rm(p0:Int)(p1:U Node)(p2 p3:Int)(p4:U (U Item))(p5:U Int)(p6:U (U Item))(p7:U Memory)(p8:U Choice)(p9:U Item)(p10:U (U UInt8))(p11:U Write)(p12 p13 p14 p15 p16:Int)(p17:Bool)(p18:U Item):QbQ (Int×(U (U UInt8))×(U Write)×Int×Int):=
 (if(decide (p15>=0))=true then(some (10,p10,p11,p12,p16))else((sub p8 p12 ((p8).length:Int)).bind λx3=>((pA (⟨p10,p11⟩:Disk) p14 p16 x3).bind λx4=>(if(x4.2.2 !=0)=true then(some (x4.2.2,p10,p11,p12,p16))else(some (0,x4.1.Sectors,x4.1.Wait,((p8).length:Int),x4.2.1))))))
def uz(s1:Int)(x4:Write)(s5:U (U UInt8)):QbQ ((U (U UInt8))⊕((Int×(U (U UInt8)))⊕(U (U UInt8)))):=
 (if(decide (((s5).length:Int)<=x4.At))=true then((app s5 [[]]).bind λx6=>(some (.inl x6)))else(Option.map Sum.inr ((ixN s5 x4.At).bind λx7=>(((s5)[x7]?).bind λx8=>(some (.inl (IntKind.i64.wrap (s1+1),(List.set s5 x7 x4.Bytes))))))))
def mJ(p0:U Write)(s1:Int)(s2:U (U UInt8)):QbQ ((Int×(U (U UInt8)))⊕(U (U UInt8))):=
 (if(decide (s1<((p0).length:Int)))=true then((idx p0 s1).bind λx4=>(iter (λdz:U (U UInt8)=>uz s1 x4 dz) s2))else(Option.map Sum.inr (some s2)))
def rB(p0:U Write)(p1:U (U UInt8)):QbQ (U (U UInt8)):=
 (iter (λdi:Int×(U (U UInt8))=>mJ p0 di.1 di.2) (0,p1))
def kM(p0:Disk)(p1:Int):QbQ (Disk×Int):=
 ((gN p0).bind λx2=>(if(x2 !=0)=true then(some ((⟨[],[]⟩:Disk),x2))else(if((decide (p1<0))||decide (p1> ((p0.Wait).length:Int)))=true then(some ((⟨[],[]⟩:Disk),3))else((mH p0.Sectors).bind λx7=>((sub p0.Wait 0 p1).bind λx8=>((rB x8 x7).bind λx9=>(some ((⟨x9,[]⟩:Disk),0))))))))
def pu(p0:Disk):QbQ (Disk×Int):=
 ((kM p0 ((p0.Wait).length:Int)).bind λx2=>(some (x2.1,x2.2)))
def rl(p0:Int)(p1:U Node)(p2 p3:Int)(p4:U (U Item))(p5:U Int)(p6:U (U Item))(p7:U Memory)(p8:U Choice)(p9:U Item)(p10:U (U UInt8))(p11:U Write)(p12 p13 p14 p15 p16:Int)(p17:Bool)(p18:U Item):QbQ (Int×(U (U UInt8))×(U Write)×Int×Int×Int×Int×Int):=
 ((pu (⟨p10,p11⟩:Disk)).bind λx2=>(if(decide (p15>=0))=true then(some (0,x2.1.Sectors,x2.1.Wait,p15,p15,IntKind.i64.wrap (p14+1),(-1),0))else(some (0,x2.1.Sectors,x2.1.Wait,p12,p12,p14,p15,p16))))
def uB(p0:Item)(p1:Int):QbQ Bool:=
 (some (decide (p0.Dep> p1)))
def oG(p0:U Item)(p1 s1:Int):QbQ (Int⊕Int):=
 (if(decide (s1<((p0).length:Int)))=true then((idx p0 s1).bind λx4=>((uB x4 p1).bind λx5=>(if x5=true then(Option.map Sum.inr (some s1))else(some (.inl (IntKind.i64.wrap (s1+1)))))))else(Option.map Sum.inr (some (-1))))
def q4(p0:U Item)(p1:Int):QbQ Int:=
 (iter (λak:Int=>oG p0 p1 ak) 0)
def sh(p0:U Item)(p1:Int):QbQ (Int×Int):=
 (if(decide (((p0).length:Int)> 2000))=true then(some (0,2))else(if((decide (p1<0))||decide (p1> 500))=true then(some (0,3))else((q4 p0 p1).bind λx3=>(if(decide (x3<0))=true then(some (((p0).length:Int),0))else(some (x3,0))))))
def uJ(p0 p1:Item):QbQ Bool:=
 (some ((p0.Key==p1.Key)&&p0.Val==p1.Val))
def qP(p0 p1:U Item)(s1:Int):QbQ (Int⊕Bool):=
 (if(decide (s1<((p0).length:Int)))=true then((idx p0 s1).bind λx3=>((idx p1 s1).bind λx5=>((uJ x3 x5).bind λx7=>(if(!x7)=true then(Option.map Sum.inr (some false))else(some (.inl (IntKind.i64.wrap (s1+1))))))))else(Option.map Sum.inr (some true)))
def qQ(p0 p1:U Item):QbQ Bool:=
 (if(((p0).length:Int)!=((p1).length:Int))=true then(some false)else(iter (λbO:Int=>qP p0 p1 bO) 0))
def lP(p0 p1:U Item):QbQ Bool:=
 (Option.bind (if(decide (((p0).length:Int)<=((p1).length:Int)))=true then((sub p1 0 ((p0).length:Int)).bind λx1=>((qQ p0 x1).bind λx2=>(some x2)))else(some false)) λc3=>(some c3))
def iS(x2:U Item)(s3:Int)(s4:U Item):QbQ ((Int×(U Item))⊕((U Item)×Int)):=
 (if(decide (s3<((x2).length:Int)))=true then((ixN s4 s3).bind λx5=>(((s4)[x5]?).bind λx6=>(some (.inl (IntKind.i64.wrap (s3+1),(List.set s4 x5 (⟨x6.Key,x6.Val,0⟩:Item)))))))else(Option.map Sum.inr (some (s4,0))))
def kw(p0:U Item):QbQ ((U Item)×Int):=
 (if(decide (((p0).length:Int)> 2000))=true then(some ([],2))else((fh p0).bind λx2=>(iter (λeP:Int×(U Item)=>iS x2 eP.1 eP.2) (0,x2))))
def rS(p0 p1:U Item)(p2:Int):QbQ ((U Item)×Int):=
 (if(decide (((p0).length:Int)> 2000))=true then(some ([],2))else((sh p1 p2).bind λx2=>(if(x2.2 !=0)=true then(some ([],x2.2))else((lP p0 p1).bind λx3=>(Option.bind (if(!x3)=true then((lP p1 p0).bind λx4=>(some (!x4)))else(some false)) λc5=>(if c5=true then(some ([],4))else(if(decide (x2.1<=((p0).length:Int)))=true then(some ([],0))else((sub p1 ((p0).length:Int) x2.1).bind λx8=>((kw x8).bind λx9=>(some (x9.1,x9.2)))))))))))
def rp(p0:Int)(p1:U Node)(p2 p3:Int)(p4:U (U Item))(p5:U Int)(p6:U (U Item))(p7:U Memory)(p8:U Choice)(p9:U Item)(p10:U (U UInt8))(p11:U Write)(p12 p13 p14 p15 p16:Int)(p17:Bool)(p18:U Item):QbQ (Int×(U Item)):=
 ((rS p18 p9 p13).bind λx2=>(if(x2.2 !=0)=true then(some (x2.2,p18))else((app p18 x2.1).bind λx4=>(some (0,x4)))))
def rr(p0:Int)(p1:U Node)(p2 p3:Int)(p4:U (U Item))(p5:U Int)(p6:U (U Item))(p7:U Memory)(p8:U Choice)(p9:U Item)(p10:U (U UInt8))(p11:U Write)(p12 p13 p14 p15 p16:Int)(p17:Bool)(p18:U Item):QbQ (Int×(U Int)×(U (U Item))×(U Memory)×(U Choice)×(U Item)×(U (U UInt8))×(U Write)×Int×Int×Int×Int×Int×Bool):=
 ((kM (⟨p10,p11⟩:Disk) p0).bind λx2=>(if(x2.2 !=0)=true then(some (x2.2,p5,p6,p7,p8,p9,p10,p11,p12,p13,p14,p15,p16,p17))else((gM (⟨p1,p2,p3⟩:Net) p4).bind λx4=>(some (0,x4.1.At,x4.1.Rings,x4.1.Memory,x4.1.Choices,x4.1.Out,x2.1.Sectors,x2.1.Wait,0,0,0,(-1),0,true)))))
def iu(p0:U UInt8)(s1:Int)(s2:U (U UInt8)):QbQ ((Int×(U (U UInt8)))⊕((U (U UInt8))×Int×Int)):=
 (if(decide (s1<((p0).length:Int)))=true then((sub p0 s1 ((p0).length:Int)).bind λx4=>((idx x4 0).bind λx6=>(if((decide ((IntKind.i64.wrap (x6.toNat:Int))<1))||((decide ((IntKind.i64.wrap (x6.toNat:Int))> 60))||decide (((x4).length:Int)<(IntKind.i64.wrap ((IntKind.i64.wrap (x6.toNat:Int))+3)))))=true then(Option.map Sum.inr (some (s2,s1,0)))else((sub x4 0 (IntKind.i64.wrap ((IntKind.i64.wrap (x6.toNat:Int))+1))).bind λx10=>((pF x10).bind λx11=>((idx x4 (IntKind.i64.wrap ((IntKind.i64.wrap (x6.toNat:Int))+1))).bind λx15=>((shl .i64 (IntKind.i64.wrap (x15.toNat:Int)) 8).bind λx16=>((idx x4 (IntKind.i64.wrap ((IntKind.i64.wrap (x6.toNat:Int))+2))).bind λx17=>(if((ibits .or .i64 x16 (IntKind.i64.wrap (x17.toNat:Int)))!=x11)=true then(Option.map Sum.inr (some (s2,s1,0)))else((sub x4 1 (IntKind.i64.wrap ((IntKind.i64.wrap (x6.toNat:Int))+1))).bind λx20=>((app s2 [x20]).bind λx21=>(some (.inl (IntKind.i64.wrap (s1+(IntKind.i64.wrap ((IntKind.i64.wrap (x6.toNat:Int))+3))),x21))))))))))))))else(Option.map Sum.inr (some (s2,s1,0))))
def px(p0:U UInt8):QbQ ((U (U UInt8))×Int×Int):=
 (if(decide (((p0).length:Int)> 12800))=true then(some ([],0,2))else(iter (λcj:Int×(U (U UInt8))=>iu p0 cj.1 cj.2) (0,[])))
def oY(p0 p1:Int)(p2:U (U UInt8))(p3:U Write):QbQ ((U UInt8)×Bool):=
 (if(decide ((IntKind.i64.wrap ((IntKind.i64.wrap (p1*60))+p0))>=((p2).length:Int)))=true then(some ([],false))else((idx p2 (IntKind.i64.wrap ((IntKind.i64.wrap (p1*60))+p0))).bind λx3=>((px x3).bind λx4=>(Option.bind (if(((x4.1).length:Int)!=1)=true then(some true)else((idx p2 (IntKind.i64.wrap ((IntKind.i64.wrap (p1*60))+p0))).bind λx5=>(if(x4.2.1 !=((x5).length:Int))=true then(some true)else((ixN x4.1 0).bind λx6=>(((x4.1)[x6]?).bind λx7=>(if(decide (((x7).length:Int)<3))=true then(some true)else((ixN x4.1 0).bind λx8=>(((x4.1)[x8]?).bind λx9=>((idx x9 1).bind λx10=>(some ((IntKind.i64.wrap (x10.toNat:Int))!=p0))))))))))) λc11=>(if c11=true then(some ([],false))else((ixN x4.1 0).bind λx14=>(((x4.1)[x14]?).bind λx15=>(some (x15,true)))))))))
def nj(p0:Disk)(p1:Int)(x5:(U UInt8)×Bool)(s9:U UInt8)(s10:Int):QbQ (((U UInt8)×Int)⊕((U UInt8)×Int×Int)):=
 ((idx x5.1 2).bind λx12=>(if(decide (s10<=(IntKind.i64.wrap (x12.toNat:Int))))=true then((oY s10 p1 p0.Sectors p0.Wait).bind λx14=>(Option.bind (if(((x14.1).length:Int)==53)=true then(some true)else((idx x5.1 2).bind λx15=>(if(s10==(IntKind.i64.wrap (x15.toNat:Int)))=true then(if(decide (((x14.1).length:Int)> 3))=true then(some (decide (((x14.1).length:Int)<53)))else(some false))else(some false)))) λc16=>(Option.bind (if(!x14.2)=true then(some true)else((idx x14.1 0).bind λx17=>((idx x5.1 0).bind λx18=>(if((x17.toNat:Int)!=(x18.toNat:Int))=true then(some true)else((idx x14.1 2).bind λx19=>((idx x5.1 2).bind λx20=>(if((x19.toNat:Int)!=(x20.toNat:Int))=true then(some true)else(some (!c16))))))))) λc21=>(if c21=true then(Option.map Sum.inr (some ([],0,12)))else((sub x14.1 3 ((x14.1).length:Int)).bind λx22=>((cat s9 x22).bind λx23=>(some (.inl (x23,IntKind.i64.wrap (s10+1))))))))))else(Option.map Sum.inr ((idx x5.1 0).bind λx25=>(some (s9,IntKind.i64.wrap (x25.toNat:Int),0))))))
def pR(p0:Disk)(p1:Int):QbQ ((U UInt8)×Int×Int):=
 ((gN p0).bind λx2=>(if(x2 !=0)=true then(some ([],0,x2))else(if((decide (p1<0))||decide (p1> 1))=true then(some ([],0,3))else((oY (0:Int) p1 p0.Sectors p0.Wait).bind λx5=>(Option.bind (if(!x5.2)=true then(some true)else(if(((x5.1).length:Int)!=3)=true then(some true)else((idx x5.1 0).bind λx6=>(if(decide ((IntKind.i64.wrap (x6.toNat:Int))> 200))=true then(some true)else((idx x5.1 2).bind λx7=>(some (decide ((IntKind.i64.wrap (x7.toNat:Int))>=60)))))))) λc8=>(if c8=true then(some ([],0,12))else(iter (λdG:(U UInt8)×Int=>nj p0 p1 x5 dG.1 dG.2) ([],1))))))))
def e7(p0:U UInt8)(s1 s2:Int):QbQ ((Int×Int)⊕((Int×(U UInt8))⊕Unit)):=
 (if(decide (s2<(if((p0).length:Int)<10 then((p0).length:Int)else 10)))=true then((idx p0 s2).bind λx5=>((shl .u64 (IntKind.u64.wrap (ibits .and .u8 (x5.toNat:Int) 127)) (IntKind.i64.wrap (7*s2))).bind λx6=>((idx p0 s2).bind λx8=>(if(decide ((x8.toNat:Int)<128))=true then((sub p0 (IntKind.i64.wrap (s2+1)) ((p0).length:Int)).bind λx10=>((shr .u64 (ibits .or .u64 s1 x6) 1).bind λx12=>(Option.map Sum.inr (some (.inl (ibits .xor .i64 (IntKind.i64.wrap x12) (IntKind.i64.wrap (0- (IntKind.i64.wrap (ibits .and .u64 (ibits .or .u64 s1 x6) 1)))),x10))))))else(some (.inl (ibits .or .u64 s1 x6,IntKind.i64.wrap (s2+1))))))))else(Option.map Sum.inr (some (.inr ()))))
def dQ(p0:U UInt8):QbQ ((Int×(U UInt8))⊕Unit):=
 (iter (λak:Int×Int=>e7 p0 ak.1 ak.2) (0,0))
def ki(x2:Int×(U UInt8))(s4:Int)(s5:U UInt8)(s6:U Int):QbQ ((Int×(U UInt8)×(U Int))⊕(((U Int)×(U UInt8))⊕Unit)):=
 (if(decide (s4<x2.1))=true then(b6 (dQ s5) (Option.map Sum.inr (some (.inr ()))) λx7=>((app s6 [x7.1]).bind λx8=>(some (.inl (IntKind.i64.wrap (s4+1),x7.2,x8)))))else(Option.map Sum.inr (some (.inl (s6,s5)))))
def oS(p0:U UInt8):QbQ (((U Int)×(U UInt8))⊕Unit):=
 (b6 (dQ p0) (some (.inr ())) λx2=>(if((decide (x2.1<0))||decide (x2.1> ((x2.2).length:Int)))=true then(some (.inr ()))else(iter (λak:Int×(U UInt8)×(U Int)=>ki x2 ak.1 ak.2.1 ak.2.2) (0,x2.2,[]))))
def mE(p0:U UInt8):QbQ ((Item×(U UInt8))⊕Unit):=
 (b6 (dQ p0) (some (.inr ())) λx4=>(b6 (dQ x4.2) (some (.inr ())) λx5=>(b6 (dQ x5.2) (some (.inr ())) λx6=>(some (.inl ((⟨x4.1,x5.1,x6.1⟩:Item),x6.2))))))
def ke(x2:Int×(U UInt8))(s4:Int)(s5:U UInt8)(s6:U Item):QbQ ((Int×(U UInt8)×(U Item))⊕(((U Item)×(U UInt8))⊕Unit)):=
 (if(decide (s4<x2.1))=true then(b6 (mE s5) (Option.map Sum.inr (some (.inr ()))) λx7=>((app s6 [x7.1]).bind λx8=>(some (.inl (IntKind.i64.wrap (s4+1),x7.2,x8)))))else(Option.map Sum.inr (some (.inl (s6,s5)))))
def ra(p0:U UInt8):QbQ (((U Item)×(U UInt8))⊕Unit):=
 (b6 (dQ p0) (some (.inr ())) λx2=>(if((decide (x2.1<0))||decide (x2.1> ((x2.2).length:Int)))=true then(some (.inr ()))else(iter (λak:Int×(U UInt8)×(U Item)=>ke x2 ak.1 ak.2.1 ak.2.2) (0,x2.2,[]))))
def lx(p0:U UInt8):QbQ (((U Item)×(U UInt8))⊕Unit):=
 (b6 (ra p0) (some (.inr ())) λx2=>(some (.inl (x2.1,x2.2))))
def kg(x2:Int×(U UInt8))(s4:Int)(s5:U UInt8)(s6:U (U Item)):QbQ ((Int×(U UInt8)×(U (U Item)))⊕(((U (U Item))×(U UInt8))⊕Unit)):=
 (if(decide (s4<x2.1))=true then(b6 (lx s5) (Option.map Sum.inr (some (.inr ()))) λx7=>((app s6 [x7.1]).bind λx8=>(some (.inl (IntKind.i64.wrap (s4+1),x7.2,x8)))))else(Option.map Sum.inr (some (.inl (s6,s5)))))
def oR(p0:U UInt8):QbQ (((U (U Item))×(U UInt8))⊕Unit):=
 (b6 (dQ p0) (some (.inr ())) λx2=>(if((decide (x2.1<0))||decide (x2.1> ((x2.2).length:Int)))=true then(some (.inr ()))else(iter (λak:Int×(U UInt8)×(U (U Item))=>kg x2 ak.1 ak.2.1 ak.2.2) (0,x2.2,[]))))
def mM(p0:U UInt8):QbQ ((Keyed×(U UInt8))⊕Unit):=
 (b6 (dQ p0) (some (.inr ())) λx3=>(b6 (dQ x3.2) (some (.inr ())) λx4=>(some (.inl ((⟨x3.1,x4.1⟩:Keyed),x4.2)))))
def kb(x2:Int×(U UInt8))(s4:Int)(s5:U UInt8)(s6:U Keyed):QbQ ((Int×(U UInt8)×(U Keyed))⊕(((U Keyed)×(U UInt8))⊕Unit)):=
 (if(decide (s4<x2.1))=true then(b6 (mM s5) (Option.map Sum.inr (some (.inr ()))) λx7=>((app s6 [x7.1]).bind λx8=>(some (.inl (IntKind.i64.wrap (s4+1),x7.2,x8)))))else(Option.map Sum.inr (some (.inl (s6,s5)))))
def oM(p0:U UInt8):QbQ (((U Keyed)×(U UInt8))⊕Unit):=
 (b6 (dQ p0) (some (.inr ())) λx2=>(if((decide (x2.1<0))||decide (x2.1> ((x2.2).length:Int)))=true then(some (.inr ()))else(iter (λak:Int×(U UInt8)×(U Keyed)=>kb x2 ak.1 ak.2.1 ak.2.2) (0,x2.2,[]))))
def mU(p0:U UInt8):QbQ ((Memory×(U UInt8))⊕Unit):=
 (b6 (dQ p0) (some (.inr ())) λx4=>(b6 (dQ x4.2) (some (.inr ())) λx5=>(b6 (oM x5.2) (some (.inr ())) λx6=>(some (.inl ((⟨x4.1,x6.1,x5.1⟩:Memory),x6.2))))))
def j9(x2:Int×(U UInt8))(s4:Int)(s5:U UInt8)(s6:U Memory):QbQ ((Int×(U UInt8)×(U Memory))⊕(((U Memory)×(U UInt8))⊕Unit)):=
 (if(decide (s4<x2.1))=true then(b6 (mU s5) (Option.map Sum.inr (some (.inr ()))) λx7=>((app s6 [x7.1]).bind λx8=>(some (.inl (IntKind.i64.wrap (s4+1),x7.2,x8)))))else(Option.map Sum.inr (some (.inl (s6,s5)))))
def oL(p0:U UInt8):QbQ (((U Memory)×(U UInt8))⊕Unit):=
 (b6 (dQ p0) (some (.inr ())) λx2=>(if((decide (x2.1<0))||decide (x2.1> ((x2.2).length:Int)))=true then(some (.inr ()))else(iter (λak:Int×(U UInt8)×(U Memory)=>j9 x2 ak.1 ak.2.1 ak.2.2) (0,x2.2,[]))))
def mS(p0:U UInt8):QbQ ((Choice×(U UInt8))⊕Unit):=
 (b6 (dQ p0) (some (.inr ())) λx3=>(b6 (dQ x3.2) (some (.inr ())) λx4=>(some (.inl ((⟨x3.1,x4.1⟩:Choice),x4.2)))))
def ka(x2:Int×(U UInt8))(s4:Int)(s5:U UInt8)(s6:U Choice):QbQ ((Int×(U UInt8)×(U Choice))⊕(((U Choice)×(U UInt8))⊕Unit)):=
 (if(decide (s4<x2.1))=true then(b6 (mS s5) (Option.map Sum.inr (some (.inr ()))) λx7=>((app s6 [x7.1]).bind λx8=>(some (.inl (IntKind.i64.wrap (s4+1),x7.2,x8)))))else(Option.map Sum.inr (some (.inl (s6,s5)))))
def oK(p0:U UInt8):QbQ (((U Choice)×(U UInt8))⊕Unit):=
 (b6 (dQ p0) (some (.inr ())) λx2=>(if((decide (x2.1<0))||decide (x2.1> ((x2.2).length:Int)))=true then(some (.inr ()))else(iter (λak:Int×(U UInt8)×(U Choice)=>ka x2 ak.1 ak.2.1 ak.2.2) (0,x2.2,[]))))
def xh(p0:U Int):QbQ (U Int):=some p0
def oF(p0:Int)(p1:U Int):QbQ (Unit×(U Int)):=
 ((xh p1).bind λx2=>((app x2 [p0]).bind λx4=>(some ((),x4))))
def lr  (s5:Int)(s6:U Int):QbQ ((Int×(U Int))⊕(U Int)):=
 (if(decide (s5>=128))=true then((oF (ibits .or .u8 (IntKind.u8.wrap s5) 128) s6).bind λx7=>((shr .u64 s5 7).bind λx8=>(some (.inl (x8,x7.2)))))else(Option.map Sum.inr ((oF (IntKind.u8.wrap s5) s6).bind λx9=>(some x9.2))))
def dL(p0:Int)(p1:U Int):QbQ (U Int):=
 ((shl .u64 (IntKind.u64.wrap p0) 1).bind λx3=>((shr .i64 p0 63).bind λx4=>(iter (λcT:Int×(U Int)=>lr cT.1 cT.2) (ibits .xor .u64 x3 (IntKind.u64.wrap x4),p1))))
def q7(p0:U Item)(s3:Int)(s4:U Int):QbQ ((Int×(U Int))⊕(U Int)):=
 (if(decide (s3<((p0).length:Int)))=true then((idx p0 s3).bind λx6=>((dL x6.Key s4).bind λx8=>((dL x6.Val x8).bind λx10=>((dL x6.Dep x10).bind λx11=>(some (.inl (IntKind.i64.wrap (s3+1),x11)))))))else(Option.map Sum.inr (some s4)))
def mD(p0:U Item)(p1:U Int):QbQ (U Int):=
 ((dL ((p0).length:Int) p1).bind λx2=>(iter (λcT:Int×(U Int)=>q7 p0 cT.1 cT.2) (0,x2)))
def rY(p0:U Int):QbQ (U UInt8):=bldS p0
def rF(s19:Int)(x22:Memory)(s29:Int)(s30:U Int):QbQ ((Int×(U Int))⊕((Int×(U Int))⊕((U UInt8)×Int))):=
 (if(decide (s29<((x22.Keys).length:Int)))=true then((idx x22.Keys s29).bind λx32=>((dL x32.Key s30).bind λx34=>((dL x32.N x34).bind λx35=>(some (.inl (IntKind.i64.wrap (s29+1),x35))))))else(Option.map Sum.inr (some (.inl (IntKind.i64.wrap (s19+1),s30)))))
def pb(p2:State)(s38:Int)(s39:U Int):QbQ ((Int×(U Int))⊕((U UInt8)×Int)):=
 (if(decide (s38<((p2.Choices).length:Int)))=true then((idx p2.Choices s38).bind λx41=>((dL x41.Node s39).bind λx43=>((dL x41.Lane x43).bind λx44=>(some (.inl (IntKind.i64.wrap (s38+1),x44))))))else(Option.map Sum.inr ((mD p2.Out s39).bind λx46=>((rY x46).bind λx48=>(some (x48,0))))))
def ph(p2:State)(s19:Int)(s20:U Int):QbQ ((Int×(U Int))⊕((U UInt8)×Int)):=
 (if(decide (s19<((p2.Memory).length:Int)))=true then((idx p2.Memory s19).bind λx22=>((dL x22.Sum s20).bind λx24=>((dL x22.Dep x24).bind λx26=>((dL ((x22.Keys).length:Int) x26).bind λx28=>(iter (λmy:Int×(U Int)=>rF s19 x22 my.1 my.2) (0,x28))))))else(Option.map Sum.inr ((dL ((p2.Choices).length:Int) s20).bind λx37=>(iter (λjk:Int×(U Int)=>pb p2 jk.1 jk.2) (0,x37)))))
def pf(p2:State)(s12:Int)(s13:U Int):QbQ ((Int×(U Int))⊕((U UInt8)×Int)):=
 (if(decide (s12<((p2.Rings).length:Int)))=true then((idx p2.Rings s12).bind λx15=>((mD x15 s13).bind λx16=>(some (.inl (IntKind.i64.wrap (s12+1),x16)))))else(Option.map Sum.inr ((dL ((p2.Memory).length:Int) s13).bind λx18=>(iter (λeM:Int×(U Int)=>ph p2 eM.1 eM.2) (0,x18)))))
def pe(p2:State)(s5:Int)(s6:U Int):QbQ ((Int×(U Int))⊕((U UInt8)×Int)):=
 (if(decide (s5<((p2.At).length:Int)))=true then((idx p2.At s5).bind λx8=>((dL x8 s6).bind λx9=>(some (.inl (IntKind.i64.wrap (s5+1),x9)))))else(Option.map Sum.inr ((dL ((p2.Rings).length:Int) s6).bind λx11=>(iter (λbB:Int×(U Int)=>pf p2 bB.1 bB.2) (0,x11)))))
def ky(p0:Net)(p1:U (U Item))(p2:State):QbQ ((U UInt8)×Int):=
 ((iw p0 p1 p2).bind λx2=>(if(x2 !=0)=true then(some ([],x2))else((dL ((p2.At).length:Int) ([]:U Int)).bind λx4=>(iter (λeP:Int×(U Int)=>pe p2 eP.1 eP.2) (0,x4)))))
def iD(p0:Net)(p1:U (U Item))(p2:U UInt8):QbQ (State×Int):=
 ((lL p0 p1).bind λx2=>(if(x2 !=0)=true then(some ((⟨[],[],[],[],[]⟩:State),x2))else(b6 (oS p2) (some ((⟨[],[],[],[],[]⟩:State),12)) λx4=>(b6 (oR x4.2) (some ((⟨[],[],[],[],[]⟩:State),12)) λx6=>(b6 (oL x6.2) (some ((⟨[],[],[],[],[]⟩:State),12)) λx8=>(b6 (oK x8.2) (some ((⟨[],[],[],[],[]⟩:State),12)) λx10=>(b6 (lx x10.2) (some ((⟨[],[],[],[],[]⟩:State),12)) λx12=>((ky p0 p1 (⟨x4.1,x6.1,x8.1,x10.1,x12.1⟩:State)).bind λx14=>(if((x14.2 !=0)|| !(x14.1==p2))=true then(some ((⟨[],[],[],[],[]⟩:State),12))else(some ((⟨x4.1,x6.1,x8.1,x10.1,x12.1⟩:State),0)))))))))))
def oQ(p0:U Node)(p1 p2:Int)(p3:U (U Item))(p9:U (U UInt8))(p10:U Write)(s3 s4:Int)(s5:U Int)(s6:U (U Item))(s7:U Memory)(s8:U Choice)(s9:U Item):QbQ ((Int×Int×(U Int)×(U (U Item))×(U Memory)×(U Choice)×(U Item))⊕(State×Int)):=
 (if(decide (s4<2))=true then((pR (⟨p9,p10⟩:Disk) s4).bind λx11=>(if((x11.2.2 !=0)||decide (x11.2.1<=s3))=true then(some (.inl (s3,IntKind.i64.wrap (s4+1),s5,s6,s7,s8,s9)))else((iD (⟨p0,p1,p2⟩:Net) p3 x11.1).bind λx14=>(if(x14.2==0)=true then(some (.inl (x11.2.1,IntKind.i64.wrap (s4+1),x14.1.At,x14.1.Rings,x14.1.Memory,x14.1.Choices,x14.1.Out)))else(some (.inl (s3,IntKind.i64.wrap (s4+1),s5,s6,s7,s8,s9)))))))else(Option.map Sum.inr (some ((⟨s5,s6,s7,s8,s9⟩:State),s3))))
def rk(p0:U Node)(p1 p2:Int)(p3:U (U Item))(p4:U Int)(p5:U (U Item))(p6:U Memory)(p7:U Choice)(p8:U Item)(p9:U (U UInt8))(p10:U Write)(p11 p12 p13 p14 p15:Int)(p16:Bool)(p17:U Item):QbQ (State×Int):=
 ((gM (⟨p0,p1,p2⟩:Net) p3).bind λx2=>(iter (λfe:Int×Int×(U Int)×(U (U Item))×(U Memory)×(U Choice)×(U Item)=>oQ p0 p1 p2 p3 p9 p10 fe.1 fe.2.1 fe.2.2.1 fe.2.2.2.1 fe.2.2.2.2.1 fe.2.2.2.2.2.1 fe.2.2.2.2.2.2) (0,0,x2.1.At,x2.1.Rings,x2.1.Memory,x2.1.Choices,x2.1.Out)))
def kj(p0:U UInt8)(s3:Int)(s4:U Choice):QbQ ((Int×(U Choice))⊕((U Choice)×Int)):=
 (if(decide (s3<((p0).length:Int)))=true then((idx p0 s3).bind λx7=>((idx p0 (IntKind.i64.wrap (s3+1))).bind λx8=>(if((decide ((IntKind.i64.wrap (x7.toNat:Int))>=12))||decide ((IntKind.i64.wrap (x8.toNat:Int))>=16))=true then(Option.map Sum.inr (some ([],12)))else((app s4 [(⟨IntKind.i64.wrap (x7.toNat:Int),IntKind.i64.wrap (x8.toNat:Int)⟩:Choice)]).bind λx10=>(some (.inl (IntKind.i64.wrap (s3+2),x10)))))))else(Option.map Sum.inr (some (s4,0))))
def ro(p0:U UInt8):QbQ ((U Choice)×Int):=
 (if(decide (((p0).length:Int)> 60))=true then(some ([],2))else((rem ((p0).length:Int) 2).bind λx2=>(if(x2 !=0)=true then(some ([],12))else(iter (λjo:Int×(U Choice)=>kj p0 jo.1 jo.2) (0,[])))))
def oX(p0:Int)(p1:U (U UInt8))(p2:U Write)(p3:Int):QbQ (U Choice):=
 (if(decide (p0>=((p1).length:Int)))=true then(some [])else((idx p1 p0).bind λx3=>((px x3).bind λx4=>(Option.bind (if(((x4.1).length:Int)!=1)=true then(some true)else((idx p1 p0).bind λx5=>(if(x4.2.1 !=((x5).length:Int))=true then(some true)else((ixN x4.1 0).bind λx6=>(((x4.1)[x6]?).bind λx7=>((idx x7 0).bind λx8=>(some ((IntKind.i64.wrap (x8.toNat:Int))!=p3)))))))) λc9=>(if c9=true then(some [])else((ixN x4.1 0).bind λx14=>(((x4.1)[x14]?).bind λx15=>((sub x15 1 ((x15).length:Int)).bind λx16=>((ro x16).bind λx17=>(some x17.1))))))))))
def ku(p0:Disk)(p1 s6:Int)(s7 s8:U Choice):QbQ ((Int×(U Choice)×(U Choice))⊕((U Choice)×Int×Int)):=
 (if(decide (((s8).length:Int)> 0))=true then((app s7 s8).bind λx10=>((oX (IntKind.i64.wrap (120+(IntKind.i64.wrap (s6+1)))) p0.Sectors p0.Wait p1).bind λx11=>(some (.inl (IntKind.i64.wrap (s6+1),x10,x11)))))else(Option.map Sum.inr (some (s7,s6,0))))
def pQ(p0:Disk)(p1:Int):QbQ ((U Choice)×Int×Int):=
 ((gN p0).bind λx2=>(if(x2 !=0)=true then(some ([],0,x2))else(if((decide (p1<0))||decide (p1> 200))=true then(some ([],0,3))else((oX (120:Int) p0.Sectors p0.Wait p1).bind λx5=>(iter (λbO:Int×(U Choice)×(U Choice)=>ku p0 p1 bO.1 bO.2.1 bO.2.2) (0,[],x5))))))
def rC(p0:Net)(p1:U Choice)(s3:Int):QbQ (Int⊕Int):=
 (if(decide (s3<((p1).length:Int)))=true then((idx p1 s3).bind λx5=>(Option.bind (if(decide (x5.Node<0))=true then(some true)else(if(decide (x5.Node>=((p0.Nodes).length:Int)))=true then(some true)else((idx p0.Nodes x5.Node).bind λx6=>(some (x6.Kind !=6))))) λc7=>(if c7=true then(Option.map Sum.inr (some 5))else(Option.bind (if(decide (x5.Lane<0))=true then(some true)else((idx p0.Nodes x5.Node).bind λx8=>(some (decide (x5.Lane>=((x8.In).length:Int)))))) λc9=>(if c9=true then(Option.map Sum.inr (some 3))else(some (.inl (IntKind.i64.wrap (s3+1)))))))))else(Option.map Sum.inr (some 0)))
def kr(p0:Net)(p1:U Choice):QbQ Int:=
 ((pM p0).bind λx2=>(if(x2 !=0)=true then(some x2)else(if(decide (((p1).length:Int)> 500))=true then(some 2)else(iter (λdG:Int=>rC p0 p1 dG) 0))))
def re(p0:Move)(p1:U Node)(p2 p3:Int)(p4:U Choice):QbQ Bool:=
 ((idx p1 p0.Node).bind λx1=>(Option.bind (if(x1.Kind !=6)=true then(some true)else((idx p4 0).bind λx2=>(if(p0.Node==x2.Node)=true then((idx p4 0).bind λx3=>(some (p0.Lane==x3.Lane)))else(some false)))) λc4=>(some c4)))
def qW(p0:U Move)(p1:U Node)(p2 p3:Int)(p4:U Choice)(s1:Int):QbQ (Int⊕Int):=
 (if(decide (s1<((p0).length:Int)))=true then((ixN p0 s1).bind λx5=>(((p0)[x5]?).bind λx6=>((re x6 p1 p2 p3 p4).bind λx7=>(if x7=true then(Option.map Sum.inr (some s1))else(some (.inl (IntKind.i64.wrap (s1+1))))))))else(Option.map Sum.inr (some (-1))))
def q6(p0:U Move)(p1:U Node)(p2 p3:Int)(p4:U Choice):QbQ Int:=
 (iter (λak:Int=>qW p0 p1 p2 p3 p4 ak) 0)
def mV(p0:Net)(p1:U (U Item))(s1:U Int)(s2:U (U Item))(s3:U Memory)(s4:U Choice)(s5:U Item)(x8:(U Move)×Int)(x10:Int)(z18:U Choice):QbQ (((U Int)×(U (U Item))×(U Memory)×(U Choice)×(U Item)×(U Choice))⊕(State×Int)):=
 ((ixN x8.1 x10).bind λx19=>(((x8.1)[x19]?).bind λx20=>((fq p0 p1 (⟨s1,s2,s3,s4,s5⟩:State) x20).bind λx21=>(some (.inl (x21.1.At,x21.1.Rings,x21.1.Memory,x21.1.Choices,x21.1.Out,z18))))))
def mW(p0:Net)(p1:U (U Item))(s1:U Int)(s2:U (U Item))(s3:U Memory)(s4:U Choice)(s5:U Item)(s6:U Choice):QbQ (((U Int)×(U (U Item))×(U Memory)×(U Choice)×(U Item)×(U Choice))⊕(State×Int)):=
 (if(decide (((s6).length:Int)> 0))=true then((fk p0 p1 (⟨s1,s2,s3,s4,s5⟩:State)).bind λx8=>((q6 x8.1 p0.Nodes p0.Rings p0.Room s6).bind λx10=>(if(decide (x10<0))=true then(Option.map Sum.inr (some ((⟨[],[],[],[],[]⟩:State),11)))else((ixN x8.1 x10).bind λx14=>(((x8.1)[x14]?).bind λx15=>((idx p0.Nodes x15.Node).bind λx16=>(if(x16.Kind==6)=true then((sub s6 1 ((s6).length:Int)).bind λx17=>(mV p0 p1 s1 s2 s3 s4 s5 x8 x10 x17))else(mV p0 p1 s1 s2 s3 s4 s5 x8 x10 s6))))))))else(Option.map Sum.inr (some ((⟨s1,s2,s3,s4,s5⟩:State),0))))
def pq(p0:Net)(p1:U (U Item))(p2:State)(p3:U Choice):QbQ (State×Int):=
 (if(decide ((IntKind.i64.wrap (((p2.Choices).length:Int)+((p3).length:Int)))> 500))=true then(some ((⟨[],[],[],[],[]⟩:State),2))else(iter (λcj:(U Int)×(U (U Item))×(U Memory)×(U Choice)×(U Item)×(U Choice)=>mW p0 p1 cj.1 cj.2.1 cj.2.2.1 cj.2.2.2.1 cj.2.2.2.2.1 cj.2.2.2.2.2) (p2.At,p2.Rings,p2.Memory,p2.Choices,p2.Out,p3)))
def rG(p0:Int)(p1:U Node)(p2 p3:Int)(p4:U (U Item))(p5:U Int)(p6:U (U Item))(p7:U Memory)(p8:U Choice)(p9:U Item)(p10:U (U UInt8))(p11:U Write)(p12 p13 p14 p15 p16:Int)(p17:Bool)(p18:U Item):QbQ (Int×(U Int)×(U (U Item))×(U Memory)×(U Choice)×(U Item)×Int×Int×Int×Int×Bool):=
 ((rk p1 p2 p3 p4 p5 p6 p7 p8 p9 p10 p11 p12 p13 p14 p15 p16 p17 p18).bind λx2=>((pQ (⟨p10,p11⟩:Disk) x2.2).bind λx4=>(if(x4.2.2 !=0)=true then(some (x4.2.2,p5,p6,p7,p8,p9,p12,p13,p14,p16,p17))else((kr (⟨p1,p2,p3⟩:Net) x4.1).bind λx6=>(if(x6 !=0)=true then(some (x6,p5,p6,p7,p8,p9,p12,p13,p14,p16,p17))else((pq (⟨p1,p2,p3⟩:Net) p4 x2.1 x4.1).bind λx10=>(if(x10.2 !=0)=true then(some (x10.2,p5,p6,p7,p8,p9,p12,p13,p14,p16,p17))else(some (0,x10.1.At,x10.1.Rings,x10.1.Memory,x10.1.Choices,x10.1.Out,((x10.1.Choices).length:Int),((x10.1.Choices).length:Int),x2.2,x4.2.1,false)))))))))
def nh(p1 s6:Int)(s7:U (U UInt8))(s8:U Write)(z11:U UInt8):QbQ ((Int×(U (U UInt8))×(U Write))⊕(Disk×Int)):=
 ((pG z11).bind λx13=>((jD (⟨s7,s8⟩:Disk) (IntKind.i64.wrap ((IntKind.i64.wrap (p1*60))+s6)) x13.1).bind λx15=>(if(x15.2 !=0)=true then(Option.map Sum.inr (some ((⟨[],[]⟩:Disk),x15.2)))else(some (.inl (IntKind.i64.wrap (s6- 1),x15.1.Sectors,x15.1.Wait))))))
def pr(p1 p2:Int)(p3:U UInt8)(x5 s6:Int)(s7:U (U UInt8))(s8:U Write):QbQ ((Int×(U (U UInt8))×(U Write))⊕(Disk×Int)):=
 (if(decide (s6>=0))=true then(if(decide (s6> 0))=true then((sub p3 (IntKind.i64.wrap ((IntKind.i64.wrap (s6- 1))*50)) (if((p3).length:Int)<(IntKind.i64.wrap (s6*50))then((p3).length:Int)else(IntKind.i64.wrap (s6*50)))).bind λx9=>((cat (ce [IntKind.u8.wrap p2,IntKind.u8.wrap s6,IntKind.u8.wrap x5]) x9).bind λx10=>(nh p1 s6 s7 s8 x10)))else(nh p1 s6 s7 s8 (ce [IntKind.u8.wrap p2,IntKind.u8.wrap s6,IntKind.u8.wrap x5])))else(Option.map Sum.inr (some ((⟨s7,s8⟩:Disk),0))))
def pT(p0:Disk)(p1 p2:Int)(p3:U UInt8):QbQ (Disk×Int):=
 ((gN p0).bind λx2=>(if(x2 !=0)=true then(some ((⟨[],[]⟩:Disk),x2))else(if((decide (p1<0))||((decide (p1> 1))||((decide (p2<0))||decide (p2> 200))))=true then(some ((⟨[],[]⟩:Disk),3))else((quo .i64 (IntKind.i64.wrap ((IntKind.i64.wrap (((p3).length:Int)+50))- 1)) 50).bind λx5=>(if(decide (x5>=60))=true then(some ((⟨[],[]⟩:Disk),8))else(iter (λgY:Int×(U (U UInt8))×(U Write)=>pr p1 p2 p3 x5 gY.1 gY.2.1 gY.2.2) (x5,p0.Sectors,p0.Wait)))))))
def rx(p0:Int)(p1:U Node)(p2 p3:Int)(p4:U (U Item))(p5:U Int)(p6:U (U Item))(p7:U Memory)(p8:U Choice)(p9:U Item)(p10:U (U UInt8))(p11:U Write)(p12 p13 p14 p15 p16:Int)(p17:Bool)(p18:U Item):QbQ (Int×(U (U UInt8))×(U Write)×Int):=
 (if(decide (p15>=0))=true then(some (10,p10,p11,p15))else(if(p14==200)=true then(some (8,p10,p11,p15))else((ky (⟨p1,p2,p3⟩:Net) p4 (⟨p5,p6,p7,p8,p9⟩:State)).bind λx2=>(if(x2.2 !=0)=true then(some (x2.2,p10,p11,p15))else((rem (IntKind.i64.wrap (p14+1)) 2).bind λx5=>((pT (⟨p10,p11⟩:Disk) x5 (IntKind.i64.wrap (p14+1)) x2.1).bind λx6=>(if(x6.2 !=0)=true then(some (x6.2,x6.1.Sectors,x6.1.Wait,p15))else(some (0,x6.1.Sectors,x6.1.Wait,((p8).length:Int))))))))))
def jE  (z31:U Node)(z32 z33:Int)(z34:U (U Item))(z35:U Int)(z36:U (U Item))(z37:U Memory)(z38:U Choice)(z39:U Item)(z40:U (U UInt8))(z41:U Write)(z42 z43 z44 z45 z46:Int)(z47:Bool)(z48:U Item):QbQ (Shop×Int):=
 (some ((⟨(⟨z31,z32,z33⟩:Net),z34,(⟨z35,z36,z37,z38,z39⟩:State),(⟨z40,z41⟩:Disk),z42,z43,z44,z45,z46,z48,z47⟩:Shop),0))
def eJ(p0:Shop)(p1:Happening):QbQ (Shop×Int):=
 ((rX p0).bind λx2=>(if(x2 !=0)=true then(some ((⟨(⟨[],0,0⟩:Net),[],(⟨[],[],[],[],[]⟩:State),(⟨[],[]⟩:Disk),0,0,0,0,0,[],false⟩:Shop),x2))else(if(p1.Kind==1)=true then(if(!(p0.Down==(p1.Kind==6)))=true then(some ((⟨(⟨[],0,0⟩:Net),[],(⟨[],[],[],[],[]⟩:State),(⟨[],[]⟩:Disk),0,0,0,0,0,[],false⟩:Shop),13))else((iT p0).bind λx4=>((rn p1.N x4.N.Nodes x4.N.Rings x4.N.Room x4.Items x4.S.At x4.S.Rings x4.S.Memory x4.S.Choices x4.S.Out x4.D.Sectors x4.D.Wait x4.Logged x4.Safe x4.Epoch x4.Laid x4.Next x4.Down x4.Told).bind λx6=>(if(x6.1 !=0)=true then(some ((⟨(⟨[],0,0⟩:Net),[],(⟨[],[],[],[],[]⟩:State),(⟨[],[]⟩:Disk),0,0,0,0,0,[],false⟩:Shop),x6.1))else(jE x4.N.Nodes x4.N.Rings x4.N.Room x4.Items x6.2.1 x6.2.2.1 x6.2.2.2.1 x6.2.2.2.2.1 x6.2.2.2.2.2 x4.D.Sectors x4.D.Wait x4.Logged x4.Safe x4.Epoch x4.Laid x4.Next x4.Down x4.Told)))))else(if(p1.Kind==2)=true then(if(!(p0.Down==(p1.Kind==6)))=true then(some ((⟨(⟨[],0,0⟩:Net),[],(⟨[],[],[],[],[]⟩:State),(⟨[],[]⟩:Disk),0,0,0,0,0,[],false⟩:Shop),13))else((iT p0).bind λx8=>((rm p1.N x8.N.Nodes x8.N.Rings x8.N.Room x8.Items x8.S.At x8.S.Rings x8.S.Memory x8.S.Choices x8.S.Out x8.D.Sectors x8.D.Wait x8.Logged x8.Safe x8.Epoch x8.Laid x8.Next x8.Down x8.Told).bind λx10=>(if(x10.1 !=0)=true then(some ((⟨(⟨[],0,0⟩:Net),[],(⟨[],[],[],[],[]⟩:State),(⟨[],[]⟩:Disk),0,0,0,0,0,[],false⟩:Shop),x10.1))else(jE x8.N.Nodes x8.N.Rings x8.N.Room x8.Items x8.S.At x8.S.Rings x8.S.Memory x8.S.Choices x8.S.Out x10.2.1 x10.2.2.1 x10.2.2.2.1 x8.Safe x8.Epoch x8.Laid x10.2.2.2.2 x8.Down x8.Told)))))else(if(p1.Kind==3)=true then(if(!(p0.Down==(p1.Kind==6)))=true then(some ((⟨(⟨[],0,0⟩:Net),[],(⟨[],[],[],[],[]⟩:State),(⟨[],[]⟩:Disk),0,0,0,0,0,[],false⟩:Shop),13))else((iT p0).bind λx12=>((rl p1.N x12.N.Nodes x12.N.Rings x12.N.Room x12.Items x12.S.At x12.S.Rings x12.S.Memory x12.S.Choices x12.S.Out x12.D.Sectors x12.D.Wait x12.Logged x12.Safe x12.Epoch x12.Laid x12.Next x12.Down x12.Told).bind λx14=>(if(x14.1 !=0)=true then(some ((⟨(⟨[],0,0⟩:Net),[],(⟨[],[],[],[],[]⟩:State),(⟨[],[]⟩:Disk),0,0,0,0,0,[],false⟩:Shop),x14.1))else(jE x12.N.Nodes x12.N.Rings x12.N.Room x12.Items x12.S.At x12.S.Rings x12.S.Memory x12.S.Choices x12.S.Out x14.2.1 x14.2.2.1 x14.2.2.2.1 x14.2.2.2.2.1 x14.2.2.2.2.2.1 x14.2.2.2.2.2.2.1 x14.2.2.2.2.2.2.2 x12.Down x12.Told)))))else(if(p1.Kind==4)=true then(if(!(p0.Down==(p1.Kind==6)))=true then(some ((⟨(⟨[],0,0⟩:Net),[],(⟨[],[],[],[],[]⟩:State),(⟨[],[]⟩:Disk),0,0,0,0,0,[],false⟩:Shop),13))else((iT p0).bind λx16=>((rp p1.N x16.N.Nodes x16.N.Rings x16.N.Room x16.Items x16.S.At x16.S.Rings x16.S.Memory x16.S.Choices x16.S.Out x16.D.Sectors x16.D.Wait x16.Logged x16.Safe x16.Epoch x16.Laid x16.Next x16.Down x16.Told).bind λx18=>(if(x18.1 !=0)=true then(some ((⟨(⟨[],0,0⟩:Net),[],(⟨[],[],[],[],[]⟩:State),(⟨[],[]⟩:Disk),0,0,0,0,0,[],false⟩:Shop),x18.1))else(jE x16.N.Nodes x16.N.Rings x16.N.Room x16.Items x16.S.At x16.S.Rings x16.S.Memory x16.S.Choices x16.S.Out x16.D.Sectors x16.D.Wait x16.Logged x16.Safe x16.Epoch x16.Laid x16.Next x16.Down x18.2)))))else(if(p1.Kind==5)=true then(if(!(p0.Down==(p1.Kind==6)))=true then(some ((⟨(⟨[],0,0⟩:Net),[],(⟨[],[],[],[],[]⟩:State),(⟨[],[]⟩:Disk),0,0,0,0,0,[],false⟩:Shop),13))else((iT p0).bind λx20=>((rr p1.N x20.N.Nodes x20.N.Rings x20.N.Room x20.Items x20.S.At x20.S.Rings x20.S.Memory x20.S.Choices x20.S.Out x20.D.Sectors x20.D.Wait x20.Logged x20.Safe x20.Epoch x20.Laid x20.Next x20.Down x20.Told).bind λx22=>(if(x22.1 !=0)=true then(some ((⟨(⟨[],0,0⟩:Net),[],(⟨[],[],[],[],[]⟩:State),(⟨[],[]⟩:Disk),0,0,0,0,0,[],false⟩:Shop),x22.1))else(jE x20.N.Nodes x20.N.Rings x20.N.Room x20.Items x22.2.1 x22.2.2.1 x22.2.2.2.1 x22.2.2.2.2.1 x22.2.2.2.2.2.1 x22.2.2.2.2.2.2.1 x22.2.2.2.2.2.2.2.1 x22.2.2.2.2.2.2.2.2.1 x22.2.2.2.2.2.2.2.2.2.1 x22.2.2.2.2.2.2.2.2.2.2.1 x22.2.2.2.2.2.2.2.2.2.2.2.1 x22.2.2.2.2.2.2.2.2.2.2.2.2.1 x22.2.2.2.2.2.2.2.2.2.2.2.2.2 x20.Told)))))else(if(p1.Kind==6)=true then(if(!(p0.Down==(p1.Kind==6)))=true then(some ((⟨(⟨[],0,0⟩:Net),[],(⟨[],[],[],[],[]⟩:State),(⟨[],[]⟩:Disk),0,0,0,0,0,[],false⟩:Shop),13))else((iT p0).bind λx24=>((rG p1.N x24.N.Nodes x24.N.Rings x24.N.Room x24.Items x24.S.At x24.S.Rings x24.S.Memory x24.S.Choices x24.S.Out x24.D.Sectors x24.D.Wait x24.Logged x24.Safe x24.Epoch x24.Laid x24.Next x24.Down x24.Told).bind λx26=>(if(x26.1 !=0)=true then(some ((⟨(⟨[],0,0⟩:Net),[],(⟨[],[],[],[],[]⟩:State),(⟨[],[]⟩:Disk),0,0,0,0,0,[],false⟩:Shop),x26.1))else(jE x24.N.Nodes x24.N.Rings x24.N.Room x24.Items x26.2.1 x26.2.2.1 x26.2.2.2.1 x26.2.2.2.2.1 x26.2.2.2.2.2.1 x24.D.Sectors x24.D.Wait x26.2.2.2.2.2.2.1 x26.2.2.2.2.2.2.2.1 x26.2.2.2.2.2.2.2.2.1 x24.Laid x26.2.2.2.2.2.2.2.2.2.1 x26.2.2.2.2.2.2.2.2.2.2 x24.Told)))))else(if(p1.Kind==7)=true then(if(!(p0.Down==(p1.Kind==6)))=true then(some ((⟨(⟨[],0,0⟩:Net),[],(⟨[],[],[],[],[]⟩:State),(⟨[],[]⟩:Disk),0,0,0,0,0,[],false⟩:Shop),13))else((iT p0).bind λx28=>((rx p1.N x28.N.Nodes x28.N.Rings x28.N.Room x28.Items x28.S.At x28.S.Rings x28.S.Memory x28.S.Choices x28.S.Out x28.D.Sectors x28.D.Wait x28.Logged x28.Safe x28.Epoch x28.Laid x28.Next x28.Down x28.Told).bind λx30=>(if(x30.1 !=0)=true then(some ((⟨(⟨[],0,0⟩:Net),[],(⟨[],[],[],[],[]⟩:State),(⟨[],[]⟩:Disk),0,0,0,0,0,[],false⟩:Shop),x30.1))else(jE x28.N.Nodes x28.N.Rings x28.N.Room x28.Items x28.S.At x28.S.Rings x28.S.Memory x28.S.Choices x28.S.Out x30.2.1 x30.2.2.1 x28.Logged x28.Safe x28.Epoch x30.2.2.2 x28.Next x28.Down x28.Told)))))else(some ((⟨(⟨[],0,0⟩:Net),[],(⟨[],[],[],[],[]⟩:State),(⟨[],[]⟩:Disk),0,0,0,0,0,[],false⟩:Shop),5)))))))))))
def nk(p2:U Happening)(s3:Int)(s4:U Node)(s5 s6:Int)(s7:U (U Item))(s8:U Int)(s9:U (U Item))(s10:U Memory)(s11:U Choice)(s12:U Item)(s13:U (U UInt8))(s14:U Write)(s15 s16 s17 s18 s19:Int)(s20:U Item)(s21:Bool)(s22:U Int):QbQ ((Int×(U Node)×Int×Int×(U (U Item))×(U Int)×(U (U Item))×(U Memory)×(U Choice)×(U Item)×(U (U UInt8))×(U Write)×Int×Int×Int×Int×Int×(U Item)×Bool×(U Int))⊕(Shop×(U Int)×Int)):=
 (if(decide (s3<((p2).length:Int)))=true then((idx p2 s3).bind λx24=>((eJ (⟨(⟨s4,s5,s6⟩:Net),s7,(⟨s8,s9,s10,s11,s12⟩:State),(⟨s13,s14⟩:Disk),s15,s16,s17,s18,s19,s20,s21⟩:Shop) x24).bind λx26=>(if(x26.2==0)=true then((app s22 [x26.2]).bind λx27=>(some (.inl (IntKind.i64.wrap (s3+1),x26.1.N.Nodes,x26.1.N.Rings,x26.1.N.Room,x26.1.Items,x26.1.S.At,x26.1.S.Rings,x26.1.S.Memory,x26.1.S.Choices,x26.1.S.Out,x26.1.D.Sectors,x26.1.D.Wait,x26.1.Logged,x26.1.Safe,x26.1.Epoch,x26.1.Laid,x26.1.Next,x26.1.Told,x26.1.Down,x27))))else((app s22 [x26.2]).bind λx28=>(some (.inl (IntKind.i64.wrap (s3+1),s4,s5,s6,s7,s8,s9,s10,s11,s12,s13,s14,s15,s16,s17,s18,s19,s20,s21,x28)))))))else(Option.map Sum.inr (some ((⟨(⟨s4,s5,s6⟩:Net),s7,(⟨s8,s9,s10,s11,s12⟩:State),(⟨s13,s14⟩:Disk),s15,s16,s17,s18,s19,s20,s21⟩:Shop),s22,0))))
def lX(p0:Net)(p1:U (U Item))(p2:U Happening):QbQ (Shop×(U Int)×Int):=
 ((nM p0 p1).bind λx2=>(if(x2.2 !=0)=true then(some ((⟨(⟨[],0,0⟩:Net),[],(⟨[],[],[],[],[]⟩:State),(⟨[],[]⟩:Disk),0,0,0,0,0,[],false⟩:Shop),[],x2.2))else(if(decide (((p2).length:Int)> 1200))=true then(some ((⟨(⟨[],0,0⟩:Net),[],(⟨[],[],[],[],[]⟩:State),(⟨[],[]⟩:Disk),0,0,0,0,0,[],false⟩:Shop),[],2))else(iter (λaU:Int×(U Node)×Int×Int×(U (U Item))×(U Int)×(U (U Item))×(U Memory)×(U Choice)×(U Item)×(U (U UInt8))×(U Write)×Int×Int×Int×Int×Int×(U Item)×Bool×(U Int)=>nk p2 aU.1 aU.2.1 aU.2.2.1 aU.2.2.2.1 aU.2.2.2.2.1 aU.2.2.2.2.2.1 aU.2.2.2.2.2.2.1 aU.2.2.2.2.2.2.2.1 aU.2.2.2.2.2.2.2.2.1 aU.2.2.2.2.2.2.2.2.2.1 aU.2.2.2.2.2.2.2.2.2.2.1 aU.2.2.2.2.2.2.2.2.2.2.2.1 aU.2.2.2.2.2.2.2.2.2.2.2.2.1 aU.2.2.2.2.2.2.2.2.2.2.2.2.2.1 aU.2.2.2.2.2.2.2.2.2.2.2.2.2.2.1 aU.2.2.2.2.2.2.2.2.2.2.2.2.2.2.2.1 aU.2.2.2.2.2.2.2.2.2.2.2.2.2.2.2.2.1 aU.2.2.2.2.2.2.2.2.2.2.2.2.2.2.2.2.2.1 aU.2.2.2.2.2.2.2.2.2.2.2.2.2.2.2.2.2.2.1 aU.2.2.2.2.2.2.2.2.2.2.2.2.2.2.2.2.2.2.2) (0,x2.1.N.Nodes,x2.1.N.Rings,x2.1.N.Room,x2.1.Items,x2.1.S.At,x2.1.S.Rings,x2.1.S.Memory,x2.1.S.Choices,x2.1.S.Out,x2.1.D.Sectors,x2.1.D.Wait,x2.1.Logged,x2.1.Safe,x2.1.Epoch,x2.1.Laid,x2.1.Next,x2.1.Told,x2.1.Down,[])))))
def uG:QbQ Net:=
 (some (⟨[(⟨1,0,[],[0]⟩:Node),(⟨1,1,[],[1]⟩:Node),(⟨6,0,[0,1],[2]⟩:Node),(⟨8,0,[2],[]⟩:Node)],3,1⟩:Net))
def uL(p0 p1:Int):QbQ Item:=
 (some (⟨p0,p1,0⟩:Item))
def uP:QbQ (U (U Item)):=
 ((uL (1:Int) (1:Int)).bind λx3=>((uL (2:Int) (2:Int)).bind λx4=>(some [[x3],[x4]])))
def dB(p0 p1:Int):QbQ Happening:=
 (some (⟨p0,p1⟩:Happening))
def oW:QbQ Bool:=
 (uG.bind λx16=>(uP.bind λx17=>((dB (1:Int) (1:Int)).bind λx18=>((dB (1:Int) (1:Int)).bind λx19=>((dB (1:Int) (1:Int)).bind λx20=>((dB (4:Int) (0:Int)).bind λx21=>((dB (2:Int) (0:Int)).bind λx22=>((dB (3:Int) (0:Int)).bind λx23=>((dB (4:Int) (0:Int)).bind λx24=>((dB (5:Int) (0:Int)).bind λx25=>((dB (6:Int) (0:Int)).bind λx26=>((dB (4:Int) (0:Int)).bind λx27=>((lX x16 x17 ([x18,x19,x20,x21,x22,x23,x24,x25,x26,x27]:U Happening)).bind λx30=>(some ((x30.2.2==0)&&((((x30.2.1).length:Int)==10)&&((((x30.1.S.Choices).length:Int)==1)&&((x30.1.Safe==1)&&((decide (((x30.1.Told).length:Int)<=1))&& !x30.1.Down)))))))))))))))))))
def rK(p0:State):QbQ Bool:=
 (some ((decide (((p0.Choices).length:Int)<500))&&decide (((p0.Out).length:Int)<2000)))
def uC(p0 p1:Item):QbQ Bool:=
 (some ((p0.Key==p1.Key)&&p0.Val==p1.Val))
def qN(p0 p1:U Item)(s1:Int):QbQ (Int⊕Bool):=
 (if(decide (s1<((p0).length:Int)))=true then((idx p0 s1).bind λx3=>((idx p1 s1).bind λx5=>((uC x3 x5).bind λx7=>(if(!x7)=true then(Option.map Sum.inr (some false))else(some (.inl (IntKind.i64.wrap (s1+1))))))))else(Option.map Sum.inr (some true)))
def qR(p0 p1:U Item):QbQ Bool:=
 (if(((p0).length:Int)!=((p1).length:Int))=true then(some false)else(iter (λbO:Int=>qN p0 p1 bO) 0))
def o7(p0 p1:U Item):QbQ Bool:=
 ((qR p0 p1).bind λx2=>(some x2))
def uy(p0:U Move):QbQ (U Move):=app [] p0
def lC(p0:U Choice)(p1 s1 s2:Int):QbQ ((Int×Int)⊕Int):=
 (if(decide (s2<((p0).length:Int)))=true then((idx p0 s2).bind λx4=>(if(x4.Node==p1)=true then(some (.inl (IntKind.i64.wrap (s1+1),IntKind.i64.wrap (s2+1))))else(some (.inl (s1,IntKind.i64.wrap (s2+1))))))else(Option.map Sum.inr (some s1)))
def rT(p0:U Choice)(p1:Int):QbQ Int:=
 (iter (λak:Int×Int=>lC p0 p1 ak.1 ak.2) (0,0))
def jA(p0:U Choice)(p1 s1 s2:Int):QbQ ((Int×Int)⊕Int):=
 (if(decide (s2<((p0).length:Int)))=true then((idx p0 s2).bind λx4=>(if(x4.Node !=p1)=true then(some (.inl (s1,IntKind.i64.wrap (s2+1))))else(if(s1==0)=true then(Option.map Sum.inr (some x4.Lane))else(some (.inl (IntKind.i64.wrap (s1- 1),IntKind.i64.wrap (s2+1)))))))else(Option.map Sum.inr (some (-1))))
def rZ(p0:U Choice)(p1 p2:Int):QbQ Int:=
 (iter (λaU:Int×Int=>jA p0 p1 aU.1 aU.2) (p2,0))
def oN(p0:Move)(p1:U Node)(p2 p3:Int)(p4:U Choice)(p5:U Int)(p6:U (U Item))(p7:U Memory)(p8:U Choice)(p9:U Item):QbQ Bool:=
 (Option.bind (if(decide (p0.Node<0))=true then(some true)else(if(decide (p0.Node>=((p1).length:Int)))=true then(some true)else((idx p1 p0.Node).bind λx1=>(some (x1.Kind !=6))))) λc2=>(if c2=true then(some false)else((rT p8 p0.Node).bind λx5=>((rZ p4 p0.Node x5).bind λx6=>(some ((decide (x6>=0))&&x6 !=p0.Lane))))))
def qX(p0:U Move)(p1:U Node)(p2 p3:Int)(p4:U Choice)(p5:U Int)(p6:U (U Item))(p7:U Memory)(p8:U Choice)(p9:U Item)(s1:Int):QbQ (Int⊕Int):=
 (if(decide (s1<((p0).length:Int)))=true then((ixN p0 s1).bind λx5=>(((p0)[x5]?).bind λx6=>((oN x6 p1 p2 p3 p4 p5 p6 p7 p8 p9).bind λx7=>(if x7=true then(Option.map Sum.inr (some s1))else(some (.inl (IntKind.i64.wrap (s1+1))))))))else(Option.map Sum.inr (some (-1))))
def q5(p0:U Move)(p1:U Node)(p2 p3:Int)(p4:U Choice)(p5:U Int)(p6:U (U Item))(p7:U Memory)(p8:U Choice)(p9:U Item):QbQ Int:=
 (iter (λak:Int=>qX p0 p1 p2 p3 p4 p5 p6 p7 p8 p9 ak) 0)
def jw(p1:U Node)(p2 p3:Int)(p4:U Choice)(p5:U Int)(p6:U (U Item))(p7:U Memory)(p8:U Choice)(p9:U Item)(s3 s4:Int)(s5:U Move):QbQ ((Int×Int×(U Move))⊕(U Move)):=
 (if(decide (s4<((s5).length:Int)))=true then((ixN s5 s4).bind λx8=>(((s5)[x8]?).bind λx9=>((oN x9 p1 p2 p3 p4 p5 p6 p7 p8 p9).bind λx11=>(if(!x11)=true then((ixN s5 s3).bind λx14=>(((s5)[x14]?).bind λx15=>(some (.inl (IntKind.i64.wrap (s3+1),IntKind.i64.wrap (s4+1),(List.set s5 x14 x9))))))else(some (.inl (s3,IntKind.i64.wrap (s4+1),s5)))))))else(Option.map Sum.inr ((vwok (s5).length s3 ((s5).length:Int)).bind λx18=>((vwok (s5).length ((s3).toNat:Nat) (((s3).toNat:Nat)+(((((s5).length:Int)).toNat- (s3).toNat):Nat))).bind λx19=>((sub (clr s5 ((s3).toNat) ((((s5).length:Int)).toNat- (s3).toNat) (⟨0,0⟩:Move)) 0 s3).bind λx21=>(some x21))))))
def um(p0:U Move)(p1:U Node)(p2 p3:Int)(p4:U Choice)(p5:U Int)(p6:U (U Item))(p7:U Memory)(p8:U Choice)(p9:U Item):QbQ (U Move):=
 ((q5 p0 p1 p2 p3 p4 p5 p6 p7 p8 p9).bind λx2=>(if(x2==(-1))=true then(some p0)else(iter (λbO:Int×Int×(U Move)=>jw p1 p2 p3 p4 p5 p6 p7 p8 p9 bO.1 bO.2.1 bO.2.2) (x2,IntKind.i64.wrap (x2+1),p0))))
def jB(p0:Net)(p1:State)(p2:U Choice)(p3:U Move):QbQ (U Move):=
 ((uy p3).bind λx3=>((um x3 p0.Nodes p0.Rings p0.Room p2 p1.At p1.Rings p1.Memory p1.Choices p1.Out).bind λx4=>(some x4)))
def jz(p0:Net)(p1:U (U Item))(p2:U Choice)(p3:U Int)(s5:Int)(s6:U Int)(s7:U (U Item))(s8:U Memory)(s9:U Choice)(s10:U Item):QbQ ((Int×(U Int)×(U (U Item))×(U Memory)×(U Choice)×(U Item))⊕(State×Int)):=
 (if(decide (s5<((p3).length:Int)))=true then((idx p3 s5).bind λx12=>((fk p0 p1 (⟨s6,s7,s8,s9,s10⟩:State)).bind λx14=>((jB p0 (⟨s6,s7,s8,s9,s10⟩:State) p2 x14.1).bind λx16=>(if(((x16).length:Int)==0)=true then(Option.map Sum.inr (some ((⟨s6,s7,s8,s9,s10⟩:State),0)))else((rem x12 ((x16).length:Int)).bind λx17=>((rem (IntKind.i64.wrap (x17+((x16).length:Int))) ((x16).length:Int)).bind λx18=>((ixN x16 x18).bind λx19=>(((x16)[x19]?).bind λx20=>((fq p0 p1 (⟨s6,s7,s8,s9,s10⟩:State) x20).bind λx21=>(some (.inl (IntKind.i64.wrap (s5+1),x21.1.At,x21.1.Rings,x21.1.Memory,x21.1.Choices,x21.1.Out))))))))))))else(Option.map Sum.inr (some ((⟨s6,s7,s8,s9,s10⟩:State),0))))
def pz(p0:Net)(p1:U (U Item))(p2:U Choice)(p3:U Int):QbQ (State×Int):=
 ((gM p0 p1).bind λx2=>(if(x2.2 !=0)=true then(some ((⟨[],[],[],[],[]⟩:State),x2.2))else((kr p0 p2).bind λx4=>(if(x4 !=0)=true then(some ((⟨[],[],[],[],[]⟩:State),x4))else(if(decide (((p3).length:Int)> 2000))=true then(some ((⟨[],[],[],[],[]⟩:State),2))else(iter (λfW:Int×(U Int)×(U (U Item))×(U Memory)×(U Choice)×(U Item)=>jz p0 p1 p2 p3 fW.1 fW.2.1 fW.2.2.1 fW.2.2.2.1 fW.2.2.2.2.1 fW.2.2.2.2.2) (0,x2.1.At,x2.1.Rings,x2.1.Memory,x2.1.Choices,x2.1.Out)))))))
def ko(p0:Net)(p1:U (U Item))(p2:U Choice)(s7:U Int)(s8:U (U Item))(s9:U Memory)(s10:U Choice)(s11:U Item):QbQ (((U Int)×(U (U Item))×(U Memory)×(U Choice)×(U Item))⊕(State×Int)):=
 ((fk p0 p1 (⟨s7,s8,s9,s10,s11⟩:State)).bind λx13=>((jB p0 (⟨s7,s8,s9,s10,s11⟩:State) p2 x13.1).bind λx15=>(if(((x15).length:Int)==0)=true then(Option.map Sum.inr (some ((⟨s7,s8,s9,s10,s11⟩:State),0)))else((ixN x15 0).bind λx16=>(((x15)[x16]?).bind λx17=>((fq p0 p1 (⟨s7,s8,s9,s10,s11⟩:State) x17).bind λx18=>(some (.inl (x18.1.At,x18.1.Rings,x18.1.Memory,x18.1.Choices,x18.1.Out)))))))))
def pj(p0:Net)(p1:U (U Item))(p2:U Choice)(p3:State):QbQ (State×Int):=
 ((iw p0 p1 p3).bind λx2=>(if(x2 !=0)=true then(some ((⟨[],[],[],[],[]⟩:State),x2))else((kr p0 p2).bind λx4=>(if(x4 !=0)=true then(some ((⟨[],[],[],[],[]⟩:State),x4))else((kC p3).bind λx6=>(iter (λbB:(U Int)×(U (U Item))×(U Memory)×(U Choice)×(U Item)=>ko p0 p1 p2 bB.1 bB.2.1 bB.2.2.1 bB.2.2.2.1 bB.2.2.2.2) (x6.At,x6.Rings,x6.Memory,x6.Choices,x6.Out)))))))
def q9(p0:Move)(p1:U Node)(p2 p3:Int)(p4:U (U Item))(p5:Int)(p6:U ((U UInt8)×Unit))(p7:U (U Item)):QbQ Bool:=
 ((idx p1 p0.Node).bind λx2=>(some (x2.Kind !=6)))
def j8(p0:U Move)(p1:U Node)(p2 p3:Int)(p4:U (U Item))(p5:Int)(p6:U ((U UInt8)×Unit))(p7:U (U Item))(s1:Int):QbQ (Int⊕Int):=
 (if(decide (s1<((p0).length:Int)))=true then((ixN p0 s1).bind λx5=>(((p0)[x5]?).bind λx6=>((q9 x6 p1 p2 p3 p4 p5 p6 p7).bind λx7=>(if x7=true then(Option.map Sum.inr (some s1))else(some (.inl (IntKind.i64.wrap (s1+1))))))))else(Option.map Sum.inr (some (-1))))
def oJ(p0:U Move)(p1:U Node)(p2 p3:Int)(p4:U (U Item))(p5:Int)(p6:U ((U UInt8)×Unit))(p7:U (U Item)):QbQ Int:=
 (iter (λak:Int=>j8 p0 p1 p2 p3 p4 p5 p6 p7 ak) 0)
def jx(p1:U Node)(p2 p3:Int)(p4:U (U Item))(p5:Int)(p6:U ((U UInt8)×Unit))(p7:U (U Item))(s1:U Int)(s2:U (U Item))(s3:U Memory)(s4:U Choice)(s5:U Item):QbQ (((U Int)×(U (U Item))×(U Memory)×(U Choice)×(U Item))⊕(State×(U Move))):=
 ((fk (⟨p1,p2,p3⟩:Net) p4 (⟨s1,s2,s3,s4,s5⟩:State)).bind λx7=>((oJ x7.1 p1 p2 p3 p4 p5 p6 p7).bind λx9=>(if(decide (x9<0))=true then(Option.map Sum.inr (some ((⟨s1,s2,s3,s4,s5⟩:State),x7.1)))else((ixN x7.1 x9).bind λx10=>(((x7.1)[x10]?).bind λx11=>((fq (⟨p1,p2,p3⟩:Net) p4 (⟨s1,s2,s3,s4,s5⟩:State) x11).bind λx12=>(some (.inl (x12.1.At,x12.1.Rings,x12.1.Memory,x12.1.Choices,x12.1.Out)))))))))
def rc(p0:State)(p1:U Node)(p2 p3:Int)(p4:U (U Item))(p5:Int)(p6:U ((U UInt8)×Unit))(p7:U (U Item)):QbQ (State×(U Move)):=
 (iter (λdU:(U Int)×(U (U Item))×(U Memory)×(U Choice)×(U Item)=>jx p1 p2 p3 p4 p5 p6 p7 dU.1 dU.2.1 dU.2.2.1 dU.2.2.2.1 dU.2.2.2.2) (p0.At,p0.Rings,p0.Memory,p0.Choices,p0.Out))
def lD(p1:U Choice)(s5:Int)(s6:U (Bool×U Int)):QbQ ((Int×(U (Bool×U Int)))⊕((U (U Int))×Int)):=
 (if(decide (s5<((p1).length:Int)))=true then((idx p1 s5).bind λx8=>((ixN s6 x8.Node).bind λx9=>((atc s6 x9).bind λx10=>((owc s6 x9).bind λx11=>((app x11 [x8.Lane]).bind λx12=>(some (.inl (IntKind.i64.wrap (s5+1),(own s6 x9 x12)))))))))else(Option.map Sum.inr (some ((List.map Prod.snd s6),0))))
def pp(p0:Net)(p1:U Choice):QbQ ((U (U Int))×Int):=
 ((kr p0 p1).bind λx2=>(if(x2 !=0)=true then(some ([],x2))else((mk ((p0.Nodes).length:Int) (false,([]:U Int))).bind λx4=>(iter (λdz:Int×(U (Bool×U Int))=>lD p1 dz.1 dz.2) (0,x4)))))
def itoaW(p0:Int):QbQ (U UInt8):=itoaS p0
def lw(s4:Int)(x6:U Int)(s7:U UInt8)(s8:Int):QbQ (((U UInt8)×Int)⊕(((U UInt8)×Int)⊕(U UInt8))):=
 (if(decide (s8<((x6).length:Int)))=true then((idx x6 s8).bind λx10=>((itoaW x10).bind λx11=>((cat x11 [44]).bind λx12=>((cat s7 x12).bind λx13=>(some (.inl (x13,IntKind.i64.wrap (s8+1))))))))else(Option.map Sum.inr ((cat s7 [59]).bind λx14=>(some (.inl (x14,IntKind.i64.wrap (s4+1)))))))
def lv(x2:(U (U Int))×Int)(s3:U UInt8)(s4:Int):QbQ (((U UInt8)×Int)⊕(U UInt8)):=
 (if(decide (s4<((x2.1).length:Int)))=true then((idx x2.1 s4).bind λx6=>(iter (λdz:(U UInt8)×Int=>lw s4 x6 dz.1 dz.2) (s3,0)))else(Option.map Sum.inr (some s3)))
def rb(p0:State)(p1:U Node)(p2 p3:Int)(p4:U (U Item))(p5:Int)(p6:U ((U UInt8)×Unit))(p7:U (U Item)):QbQ (U UInt8):=
 ((pp (⟨p1,p2,p3⟩:Net) p0.Choices).bind λx2=>(iter (λdi:(U UInt8)×Int=>lv x2 di.1 di.2) ([],0)))
def iO(rcr:(State×(U Node)×Int×Int×(U (U Item))×Int×(U ((U UInt8)×Unit))×(U (U Item)))->QbQ (Bool×(U Node)×Int×Int×(U (U Item))×Int×(U ((U UInt8)×Unit))×(U (U Item))))(x2:State×(U Move))(s9:Int)(s10:U Node)(s11 s12:Int)(s13:U (U Item))(s14:Int)(s15:U ((U UInt8)×Unit))(s16:U (U Item)):QbQ ((Int×(U Node)×Int×Int×(U (U Item))×Int×(U ((U UInt8)×Unit))×(U (U Item)))⊕(Bool×(U Node)×Int×Int×(U (U Item))×Int×(U ((U UInt8)×Unit))×(U (U Item)))):=
 (if(decide (s9<((x2.2).length:Int)))=true then((ixN x2.2 s9).bind λx19=>(((x2.2)[x19]?).bind λx20=>((fq (⟨s10,s11,s12⟩:Net) s13 x2.1 x20).bind λx22=>((rcr (x22.1,s10,s11,s12,s13,s14,s15,s16)).bind λx24=>(if(!x24.1)=true then(Option.map Sum.inr (some (false,x24.2.1,x24.2.2.1,x24.2.2.2.1,x24.2.2.2.2.1,x24.2.2.2.2.2.1,x24.2.2.2.2.2.2.1,x24.2.2.2.2.2.2.2)))else(some (.inl (IntKind.i64.wrap (s9+1),x24.2.1,x24.2.2.1,x24.2.2.2.1,x24.2.2.2.2.1,x24.2.2.2.2.2.1,x24.2.2.2.2.2.2.1,x24.2.2.2.2.2.2.2))))))))else(Option.map Sum.inr (some (true,s10,s11,s12,s13,s14,s15,s16))))
def kf(rcr:(State×(U Node)×Int×Int×(U (U Item))×Int×(U ((U UInt8)×Unit))×(U (U Item)))->QbQ (Bool×(U Node)×Int×Int×(U (U Item))×Int×(U ((U UInt8)×Unit))×(U (U Item))))(p0:State)(p1:U Node)(p2 p3:Int)(p4:U (U Item))(p5:Int)(p6:U ((U UInt8)×Unit))(p7:U (U Item)):QbQ (Bool×(U Node)×Int×Int×(U (U Item))×Int×(U ((U UInt8)×Unit))×(U (U Item))):=
 ((rc p0 p1 p2 p3 p4 p5 p6 p7).bind λx2=>((rb x2.1 p1 p2 p3 p4 p5 p6 p7).bind λx4=>(if((mget x4 p6).isSome)=true then(some (true,p1,p2,p3,p4,p5,p6,p7))else(if(decide ((IntKind.i64.wrap (p5+1))> 600))=true then(some (false,p1,p2,p3,p4,IntKind.i64.wrap (p5+1),(mset x4 () p6),p7))else(if(((x2.2).length:Int)==0)=true then((kw x2.1.Out).bind λx6=>((app p7 [x6.1]).bind λx8=>(some (true,p1,p2,p3,p4,IntKind.i64.wrap (p5+1),(mset x4 () p6),x8))))else(iter (λbB:Int×(U Node)×Int×Int×(U (U Item))×Int×(U ((U UInt8)×Unit))×(U (U Item))=>iO rcr x2 bB.1 bB.2.1 bB.2.2.1 bB.2.2.2.1 bB.2.2.2.2.1 bB.2.2.2.2.2.1 bB.2.2.2.2.2.2.1 bB.2.2.2.2.2.2.2) (0,p1,p2,p3,p4,IntKind.i64.wrap (p5+1),(mset x4 () p6),p7)))))))
def uu(p0:State)(p1:U Node)(p2 p3:Int)(p4:U (U Item))(p5:Int)(p6:U ((U UInt8)×Unit))(p7:U (U Item)):QbQ (Bool×(U Node)×Int×Int×(U (U Item))×Int×(U ((U UInt8)×Unit))×(U (U Item))):=fixR (λ(rcr:(State×(U Node)×Int×Int×(U (U Item))×Int×(U ((U UInt8)×Unit))×(U (U Item)))->QbQ (Bool×(U Node)×Int×Int×(U (U Item))×Int×(U ((U UInt8)×Unit))×(U (U Item)))) (a:State×(U Node)×Int×Int×(U (U Item))×Int×(U ((U UInt8)×Unit))×(U (U Item)))=>kf rcr a.1 a.2.1 a.2.2.1 a.2.2.2.1 a.2.2.2.2.1 a.2.2.2.2.2.1 a.2.2.2.2.2.2.1 a.2.2.2.2.2.2.2) (p0,p1,p2,p3,p4,p5,p6,p7)
def rJ(p0 p1:Item):QbQ Int:=
 (if(p0.Key !=p1.Key)=true then(if(decide (p0.Key<p1.Key))=true then(some (-1))else(some 1))else(if(p0.Val !=p1.Val)=true then(if(decide (p0.Val<p1.Val))=true then(some (-1))else(some 1))else(some 0)))
def oD(p0 p1:U Item)(s1:Int):QbQ (Int⊕Int):=
 (if(decide (s1<((p0).length:Int)))=true then((idx p0 s1).bind λx3=>(if(decide (s1>=((p1).length:Int)))=true then(Option.map Sum.inr (some 1))else((idx p1 s1).bind λx5=>((rJ x3 x5).bind λx7=>(if(x7 !=0)=true then(Option.map Sum.inr (some x7))else(some (.inl (IntKind.i64.wrap (s1+1)))))))))else(Option.map Sum.inr (if(decide (((p0).length:Int)<((p1).length:Int)))=true then(some (-1))else(some 0))))
def oE(p0 p1:U Item):QbQ Int:=
 (iter (λaU:Int=>oD p0 p1 aU) 0)
def nt(p0 p1:U Item):QbQ Int:=
 ((oE p0 p1).bind λx2=>(some x2))
def w5(p0:U (U Item)):QbQ (U (U Item)):=sortR p0
def oV(p0 p1:U Item):QbQ Bool:=
 ((nt p0 p1).bind λx2=>(some (x2==0)))
def lq(p0:U (U Item))(s1 s14 s15:Int)(s16:U (U Item)):QbQ ((Int×Int×(U (U Item)))⊕(Int⊕(U (U Item)))):=
 (if(decide (s15<((((((p0).length:Int)).toNat- (s1).toNat):Nat):Int)))=true then((ixV ((((p0).length:Int)).toNat- (s1).toNat) s15).bind λx22=>(((s16)[((s1).toNat+x22)]?).bind λx23=>((ixV ((((p0).length:Int)).toNat- (s1).toNat) (IntKind.i64.wrap (s15- 1))).bind λx24=>(((s16)[((s1).toNat+x24)]?).bind λx25=>((oV x23 x25).bind λx26=>(if(!x26)=true then((ixV ((((p0).length:Int)).toNat- (s1).toNat) s15).bind λx31=>(((s16)[((s1).toNat+x31)]?).bind λx32=>((ixN s16 s14).bind λx33=>(((s16)[x33]?).bind λx34=>(some (.inl (IntKind.i64.wrap (s14+1),IntKind.i64.wrap (s15+1),(List.set s16 x33 x32))))))))else(some (.inl (s14,IntKind.i64.wrap (s15+1),s16)))))))))else(Option.map Sum.inr ((vwok (s16).length s14 ((s16).length:Int)).bind λx37=>((vwok (s16).length ((s14).toNat:Nat) (((s14).toNat:Nat)+(((((s16).length:Int)).toNat- (s14).toNat):Nat))).bind λx38=>((sub (clr s16 ((s14).toNat) ((((s16).length:Int)).toNat- (s14).toNat) []) 0 s14).bind λx40=>(Option.map Sum.inr (some x40)))))))
def jv(p0:U (U Item))(s1:Int):QbQ (Int⊕(U (U Item))):=
 (if(decide (s1<((p0).length:Int)))=true then((ixN p0 s1).bind λx7=>(((p0)[x7]?).bind λx8=>((ixN p0 (IntKind.i64.wrap (s1- 1))).bind λx9=>(((p0)[x9]?).bind λx10=>((oV x8 x10).bind λx11=>(if x11=true then((vwok (p0).length s1 ((p0).length:Int)).bind λx13=>(iter (λj5:Int×Int×(U (U Item))=>lq p0 s1 j5.1 j5.2.1 j5.2.2) (s1,1,p0)))else(some (.inl (IntKind.i64.wrap (s1+1))))))))))else(Option.map Sum.inr (some p0)))
def qS(p0:U (U Item)):QbQ (U (U Item)):=
 (if(decide (((p0).length:Int)<2))=true then(some p0)else(iter (λqu:Int=>jv p0 qu) 1))
def sR(p0:Net)(p1:U (U Item)):QbQ ((U (U Item))×Int):=
 ((gM p0 p1).bind λx2=>(if(x2.2 !=0)=true then(some ([],x2.2))else((kG p0).bind λx4=>((uu x2.1 x4.Nodes x4.Rings x4.Room p1 (0:Int) ([]:U ((U UInt8)×Unit)) ([]:U (U Item))).bind λx6=>(if(!x6.1)=true then(some ([],2))else((w5 x6.2.2.2.2.2.2.2).bind λx8=>((qS x8).bind λx10=>(some (x10,0)))))))))
def pw(p0 p1:U Item):QbQ Int:=
 ((oE p0 p1).bind λx2=>(some x2))
def qM(p0:U (U Item))(p1:U Item)(s1 s2:Int):QbQ ((Int×Int)⊕(Int×Bool)):=
 (if(decide (s1<s2))=true then((shr .u64 (IntKind.u64.wrap (IntKind.i64.wrap (s1+s2))) 1).bind λx4=>((idx p0 (IntKind.i64.wrap x4)).bind λx7=>((pw x7 p1).bind λx8=>(if(decide (x8<0))=true then(some (.inl (IntKind.i64.wrap ((IntKind.i64.wrap x4)+1),s2)))else(some (.inl (s1,IntKind.i64.wrap x4)))))))else(Option.map Sum.inr (Option.bind (if(decide (s1<((p0).length:Int)))=true then((idx p0 s1).bind λx9=>((pw x9 p1).bind λx10=>(some (x10==0))))else(some false)) λc11=>(some (s1,c11)))))
def qO(p0:U (U Item))(p1:U Item):QbQ (Int×Bool):=
 (iter (λak:Int×Int=>qM p0 p1 ak.1 ak.2) (0,((p0).length:Int)))
def nJ(p0:Net)(p1:U (U Item))(p2:U Item):QbQ (Bool×Int):=
 (if(decide (((p2).length:Int)> 2000))=true then(some (false,2))else((sR p0 p1).bind λx2=>(if(x2.2 !=0)=true then(some (false,x2.2))else((kw p2).bind λx4=>((qO x2.1 x4.1).bind λx6=>(some (x6.2,0)))))))
def lA(p0:Net)(p1:U (U Item))(p3:Bool)(x6:Shop×(U Int)×Int)(s33:U Node)(s34 s35:Int)(s36:U (U Item))(s37:U Int)(s38:U (U Item))(s39:U Memory)(s40:U Choice)(s41:U Item)(s42:U (U UInt8))(s43:U Write)(s44 s45 s46 s47 s48:Int)(s49:U Item)(s50:Bool):QbQ (((U Node)×Int×Int×(U (U Item))×(U Int)×(U (U Item))×(U Memory)×(U Choice)×(U Item)×(U (U UInt8))×(U Write)×Int×Int×Int×Int×Int×(U Item)×Bool)⊕Bool):=
 ((dB (1:Int) (0:Int)).bind λx53=>((eJ (⟨(⟨s33,s34,s35⟩:Net),s36,(⟨s37,s38,s39,s40,s41⟩:State),(⟨s42,s43⟩:Disk),s44,s45,s46,s47,s48,s49,s50⟩:Shop) x53).bind λx54=>(if(x54.2==10)=true then(Option.map Sum.inr ((dB (3:Int) (0:Int)).bind λx57=>((eJ (⟨(⟨s33,s34,s35⟩:Net),s36,(⟨s37,s38,s39,s40,s41⟩:State),(⟨s42,s43⟩:Disk),s44,s45,s46,s47,s48,s49,s50⟩:Shop) x57).bind λx58=>(if(x58.2 !=0)=true then(some false)else((dB (2:Int) (0:Int)).bind λx61=>((eJ x58.1 x61).bind λx62=>(if(x62.2 !=0)=true then(some (x62.2==8))else((dB (3:Int) (0:Int)).bind λx65=>((eJ x62.1 x65).bind λx66=>(if(x66.2 !=0)=true then(some false)else((dB (4:Int) (0:Int)).bind λx69=>((eJ x66.1 x69).bind λx70=>(if(x70.2 !=0)=true then(some false)else((lP x6.1.Told x70.1.Told).bind λx71=>(Option.bind (if(!x71)=true then(some true)else((rK x70.1.S).bind λx72=>(some (!x72)))) λc73=>(if c73=true then((rK x70.1.S).bind λx75=>(some (!x75)))else((o7 x70.1.Told x70.1.S.Out).bind λx77=>(if(!x77)=true then(some false)else((pz p0 p1 x70.1.S.Choices ([]:U Int)).bind λx79=>(if(x79.2 !=0)=true then(some false)else((pj p0 p1 x70.1.S.Choices x79.1).bind λx81=>(Option.bind (if(x81.2 !=0)=true then(some true)else((o7 x81.1.Out x70.1.Told).bind λx82=>(some (!x82)))) λc83=>(if c83=true then(some false)else(if(!p3)=true then(some true)else((nJ p0 p1 x70.1.Told).bind λx85=>(some ((x85.2==2)||((x85.2==0)&&x85.1))))))))))))))))))))))))))))else(if(x54.2 !=0)=true then(Option.map Sum.inr (some false))else(some (.inl (x54.1.N.Nodes,x54.1.N.Rings,x54.1.N.Room,x54.1.Items,x54.1.S.At,x54.1.S.Rings,x54.1.S.Memory,x54.1.S.Choices,x54.1.S.Out,x54.1.D.Sectors,x54.1.D.Wait,x54.1.Logged,x54.1.Safe,x54.1.Epoch,x54.1.Laid,x54.1.Next,x54.1.Told,x54.1.Down)))))))
def mF(p0:Net)(p1:U (U Item))(p3:Bool)(x6:Shop×(U Int)×Int)(z15:U Node)(z16 z17:Int)(z18:U (U Item))(z19:U Int)(z20:U (U Item))(z21:U Memory)(z22:U Choice)(z23:U Item)(z24:U (U UInt8))(z25:U Write)(z26 z27 z28 z29 z30:Int)(z31:U Item)(z32:Bool):QbQ Bool:=
 (iter (λbn:(U Node)×Int×Int×(U (U Item))×(U Int)×(U (U Item))×(U Memory)×(U Choice)×(U Item)×(U (U UInt8))×(U Write)×Int×Int×Int×Int×Int×(U Item)×Bool=>lA p0 p1 p3 x6 bn.1 bn.2.1 bn.2.2.1 bn.2.2.2.1 bn.2.2.2.2.1 bn.2.2.2.2.2.1 bn.2.2.2.2.2.2.1 bn.2.2.2.2.2.2.2.1 bn.2.2.2.2.2.2.2.2.1 bn.2.2.2.2.2.2.2.2.2.1 bn.2.2.2.2.2.2.2.2.2.2.1 bn.2.2.2.2.2.2.2.2.2.2.2.1 bn.2.2.2.2.2.2.2.2.2.2.2.2.1 bn.2.2.2.2.2.2.2.2.2.2.2.2.2.1 bn.2.2.2.2.2.2.2.2.2.2.2.2.2.2.1 bn.2.2.2.2.2.2.2.2.2.2.2.2.2.2.2.1 bn.2.2.2.2.2.2.2.2.2.2.2.2.2.2.2.2.1 bn.2.2.2.2.2.2.2.2.2.2.2.2.2.2.2.2.2) (z15,z16,z17,z18,z19,z20,z21,z22,z23,z24,z25,z26,z27,z28,z29,z30,z31,z32))
def mG(p0:Net)(p1:U (U Item))(p3:Bool)(z4:U Happening):QbQ Bool:=
 ((lX p0 p1 z4).bind λx6=>(oW.bind λx7=>(if((!x7)||x6.2.2 !=0)=true then(oW.bind λx10=>(some x10))else(if x6.1.Down=true then((dB (6:Int) (0:Int)).bind λx13=>((eJ x6.1 x13).bind λx14=>(if(x14.2 !=0)=true then(some false)else(mF p0 p1 p3 x6 x14.1.N.Nodes x14.1.N.Rings x14.1.N.Room x14.1.Items x14.1.S.At x14.1.S.Rings x14.1.S.Memory x14.1.S.Choices x14.1.S.Out x14.1.D.Sectors x14.1.D.Wait x14.1.Logged x14.1.Safe x14.1.Epoch x14.1.Laid x14.1.Next x14.1.Told x14.1.Down))))else(mF p0 p1 p3 x6 x6.1.N.Nodes x6.1.N.Rings x6.1.N.Room x6.1.Items x6.1.S.At x6.1.S.Rings x6.1.S.Memory x6.1.S.Choices x6.1.S.Out x6.1.D.Sectors x6.1.D.Wait x6.1.Logged x6.1.Safe x6.1.Epoch x6.1.Laid x6.1.Next x6.1.Told x6.1.Down)))))
def uA(p0:Net)(p1:U (U Item))(p2:U Happening)(p3:Bool):QbQ Bool:=
 (if(decide (((p2).length:Int)> 60))=true then((sub p2 0 60).bind λx1=>(mG p0 p1 p3 x1))else(mG p0 p1 p3 p2))
end
section
open Go.RowKit
inductive TI where
 |no
 |s0
 |sc (z:AV)
 |it (k:IntKind)
 |bo
 |str
 |sl (e c:Nat)
 |ag (z:List AV) (m:Nat) (fs:List (Nat×Nat×Nat))
 |ar (z:List AV) (m:Nat)
inductive TT where
 |l (t:Nat) (i:TI)
 |n (k:Nat) (a b:TT)
def TT.get:TT->Nat->TI
 | .l t i,u=>match Nat.beq t u with
  |true=>i
  |false=>.no
 | .n k a b,u=>match Nat.blt u k with
  |true=>a.get u
  |false=>b.get u
def TI.zero:TI->Option (List AV)
 | .sc z=>some [z]
 | .it k=>some [.int k 0]
 | .bo=>some [.bool false]
 | .str=>some [.str []]
 | .sl _ _=>some [.nils]
 | .ag z _ _=>some z
 | .ar z _=>some z
 |_=>none
def TI.size:TI->Option Nat
 | .no=>none
 | .ag _ m _=>some m
 | .ar _ m=>some m
 |_=>some 1
def TOne(P:Program)(t:Nat):Prop:=dN P t=some false/\P.cellsOf t=1/\(P.underlying t).isSome=true
def FsOk(P:Program)(t:Nat):Nat->List (Nat×Nat×Nat)->Prop
 |_,[]=>True
 |k,(o,_,ft)::r=>FieldAt P t k ft o/\FsOk P t (k+1) r
def TAgg(P:Program)(t:Nat)(z:List AV)(m:Nat):Prop:=dN P t=some true/\P.cellsOf t=m/\(P.underlying t).isSome=true/\bu P t=some z/\z.length=m
def TOk(P:Program)(t:Nat):TI->Prop
 | .no=>True
 | .s0=>TOne P t
 | .sc z=>TOne P t/\bu P t=some [z]
 | .it k=>TOne P t/\bu P t=some [.int k 0]/\P.underlying t=some (.int k)
 | .bo=>TOne P t/\bu P t=some [.bool false]/\P.underlying t=some .bool
 | .str=>TOne P t/\bu P t=some [.str []]/\P.underlying t=some .string
 | .sl e c=>TOne P t/\bu P t=some [.nils]/\SliceOf P t e c
 | .ag z m fs=>TAgg P t z m/\pP P t=some (fs.map λq=>(q.1,q.2.1))/\FsOk P t 0 fs
 | .ar z m=>TAgg P t z m
def TT.Ok(P:Program):TT->Prop
 | .l t i=>TOk P t i
 | .n _ a b=>a.Ok P/\b.Ok P
inductive TE where
 |a (x:Option Bool)
 |b (x:Nat)
 |c (x:Bool)
 |d (x:Option (List AV))
 |e (x:Option TypeDesc)
 |f (x:Option (List (Nat×Nat)))
 |g (x:List (Nat×Nat×Bool×Bool))
def fL(P:Program)(t:Nat):List (Nat×Nat×Bool×Bool):=match P.underlying t with
 |some (.struct fs)=>fs.toList.map λf=>(f.offset,f.type,P.cellsOf f.type==0,(P.underlying f.type).isSome)
 |_=>[]
def e1(P:Program)(t:Nat)(b:Bool)(m:Nat):List (TE×TE):=[(.a (dN P t),.a (some b)),(.b (P.cellsOf t),.b m),(.c (P.underlying t).isSome,.c true)]
def e2(P:Program)(t:Nat)(z:List AV)(u:TypeDesc):List (TE×TE):=e1 P t false 1++[(.d (bu P t),.d (some z)),(.e (P.underlying t),.e (some u))]
def e3(P:Program)(t:Nat)(z:List AV)(m:Nat):List (TE×TE):=e1 P t true m++[(.d (bu P t),.d (some z)),(.b z.length,.b m)]
def TI.eqs(P:Program)(t:Nat):TI->List (TE×TE)
 | .no=>[]
 | .s0=>e1 P t false 1
 | .sc z=>e1 P t false 1++[(.d (bu P t),.d (some [z]))]
 | .it k=>e2 P t [.int k 0] (.int k)
 | .bo=>e2 P t [.bool false] .bool
 | .str=>e2 P t [.str []] .string
 | .sl e c=>e2 P t [.nils] (.slice e)++[(.b (P.cellsOf e),.b c),(.c (P.underlying e).isSome,.c true),(.c (Nat.blt 0 c),.c true),(.c (Nat.ble (P.bytesOf e) 128),.c true),(.b (((bu P e).map List.length).getD 0),.b c)]
 | .ag z m fs=>e3 P t z m++[(.f (pP P t),.f (some (fs.map λq=>(q.1,q.2.1)))),(.g (fL P t),.g (fs.map λq=>(q.1,q.2.2,false,true)))]
 | .ar z m=>e3 P t z m
def TT.eqs(P:Program):TT->List (TE×TE)
 | .l t i=>i.eqs P t
 | .n _ a b=>a.eqs P++b.eqs P
section
variable {P:Program}{t:Nat}
theorem fs_of:∀(r:U (Nat×Nat×Nat)) (k:Nat),(fL P t).drop k=r.map (λq=>(q.1,q.2.2,false,true))->FsOk P t k r
 |[],_,_=>trivial
 |(o,m,ft)::r,k,h=>by
  have h0:(fL P t)[k]?=some (o,ft,false,true):=by rw[<- List.head?_drop,h];rfl
  refine⟨⟨?_⟩,fs_of r (k+1) (by rw[<- Tm,h];rfl)⟩;unfold fL at h0;split at h0
  .rename_i fs hu;rw[R9]at h0;obtain⟨f,hf,e⟩:=Sf.1 h0;simp only[Prod.mk.injEq,beq_eq_false_iff_ne]at e;obtain⟨rfl,rfl,e3,e4⟩:=e;exact⟨fs,f,hu,by rw[<- hf];simp,J,J,e3,e4⟩
  .cases h0
theorem TI.of_eqs {i:TI}(h:∀p∈i.eqs P t,p.1=p.2):TOk P t i:=by
 cases i with
 |no=>trivial
 |ag z m fs=>
  simp[TI.eqs,e3,e1]at h;exact⟨⟨h.1,h.2.1,h.2.2.1,h.2.2.2.1,h.2.2.2.2.1⟩,h.2.2.2.2.2.1,fs_of fs 0 h.2.2.2.2.2.2⟩
 |sl e c=>
  simp[TI.eqs,e2,e1]at h;obtain⟨h1,h2,h3,h4,h5,h6,h7,h8,h9,h10⟩:=h;refine⟨⟨h1,h2,h3⟩,h4,h5,h6,h7,h8,h9,?_⟩;cases hz:bu P e with
  |none=>rw[hz]at h10;simp at h10;omega
  |some z=>rw[hz]at h10;exact⟨z,J,h10⟩
 |_=>simp[TI.eqs,e3,e2,e1]at h;simp[TOk,TOne,TAgg,h]
theorem TT.of_eqs:∀{tt:TT},(∀p∈tt.eqs P,p.1=p.2)->tt.Ok P
 | .l _ _,h=>TI.of_eqs h
 | .n _ _ _,h=>⟨TT.of_eqs λp hp=>h p (List.mem_append_left _ hp),TT.of_eqs λp hp=>h p (List.mem_append_right _ hp)⟩
theorem U4 {tt:TT}(h:(tt.eqs P).map (·.1)=(tt.eqs P).map (·.2)):tt.Ok P:=TT.of_eqs (List.map_inj_left.1 h)
end
section
variable {P:Program} {N n:Nat} {aw aw':List Ob} {l:List (Nat×AV)} {tt:TT}
theorem TY:∀{tt:TT},tt.Ok P->∀u,TOk P u (tt.get u)
 | .l t i,h,u=>by
  show TOk P u (match Nat.beq t u with|true=>i|false=>.no);cases hb:Nat.beq t u
  .trivial
  .have:=Su hb;subst this;exact h
 | .n k a b,h,u=>by
  show TOk P u (match Nat.blt u k with|true=>a.get u|false=>b.get u);cases Nat.blt u k
  .exact TY h.2 u
  .exact TY h.1 u
variable {t:Nat}{i:TI}
theorem UN {z:U AV}(h:TOk P t i)(hz:i.zero=some z):bu P t=some z:=by cases i<;>simp only[TI.zero]at hz<;>first|grind|(cases hz;first|exact h.2|exact h.2.1|exact h.1.2.2.2.1|exact h.2.2.2.1)
theorem UO {m:Nat}(h:TOk P t i)(hm:i.size=some m):P.cellsOf t=m/\(P.underlying t).isSome=true:=by cases i<;>simp only[TI.size]at hm<;>first|grind|(cases hm;first|exact⟨h.2.1,h.2.2⟩|exact⟨h.1.2.1,h.1.2.2.1⟩|exact⟨h.1.2.1,h.1.2.2⟩|exact⟨h.2.1,h.2.2.1⟩)
theorem y6:∀{fs:U (Nat×Nat×Nat)} {k i:Nat} {q:Nat×Nat×Nat},FsOk P t k fs->fs[i]?=some q->FieldAt P t (k+i) q.2.2 q.1
 |q'::r,k,0,q,h,e=>by simp at e;subst e;exact h.1
 |q'::r,k,i+1,q,h,e=>by
  have:=y6 (k:=k+1) (i:=i) h.2 (by simpa using e);grind
 |[],k,i,q,h,e=>by simp at e
section
variable {α:Type}
def cr:List α->Nat->(α->Prop)->Prop
 |[],_,_=>False
 |a::l,k,K=>match k with
  |0=>K a
  |k+1=>cr l k K
def setC:List α->Nat->α->(List α->Prop)->Prop
 |[],_,_,_=>False
 |a::l,k,b,K=>match k with
  |0=>K (b::l)
  |k+1=>setC l k b λl=>K (a::l)
def pushC:List α->α->(List α->Prop)->Prop
 |[],b,K=>K [b]
 |a::l,b,K=>pushC l b λl=>K (a::l)
def lenC:List α->Nat->Prop->Prop
 |[],k,K=>match k with
  |0=>K
  |_+1=>False
 |_::l,k,K=>match k with
  |0=>False
  |k+1=>lenC l k K
def dropC:List α->Nat->(List α->Prop)->Prop
 |l,0,K=>K l
 |[],_+1,_=>False
 |_::l,k+1,K=>dropC l k K
def takeC:List α->Nat->(List α->Prop)->Prop
 |_,0,K=>K []
 |[],_+1,_=>False
 |a::l,k+1,K=>takeC l k λl=>K (a::l)
def overC:List α->List α->(List α->Prop)->Prop
 |l,[],K=>K l
 |[],_::_,_=>False
 |_::l,b::bs,K=>overC l bs λl=>K (b::l)
def splC:List α->Nat->List α->(List α->Prop)->Prop
 |l,0,bs,K=>overC l bs K
 |[],_+1,_,_=>False
 |a::l,k+1,bs,K=>splC l k bs λl=>K (a::l)
def lenB:List α->Nat->Bool
 |[],k=>(match k with
  |0=>true
  |_+1=>false)
 |_::l,k=>(match k with
  |0=>false
  |k+1=>lenB l k)
def sameB:List α->List α->Bool
 |[],[]=>true
 |_::l,_::m=>sameB l m
 |_,_=>false
def aggC(row:List α)(off m:Nat)(K:List α->Prop):Prop:=
 match off with
 |0=>(match lenB row m with
  |true=>K row
  |false=>takeC row m K)
 |off=>dropC row off λr=>takeC r m K
def putC(l:List α)(off:Nat)(bs:List α)(K:List α->Prop):Prop:=
 match off with
 |0=>(match sameB l bs with
  |true=>K bs
  |false=>splC l 0 bs K)
 |off=>splC l off bs K
theorem Fd:∀{l:U α} {k:Nat},lenB l k=true->l.length=k
 |[],0,_=>rfl
 |[],_+1,h=>by cases h
 |_::_,0,h=>by cases h
 |_::l,k+1,h=>by have:=Fd (l:=l) (k:=k) h;simp[this]
theorem Ds:∀{l m:U α},sameB l m=true->l.length=m.length
 |[],[],_=>rfl
 |[],_::_,h=>by cases h
 |_::_,[],h=>by cases h
 |_::l,_::m,h=>by have:=Ds (l:=l) (m:=m) h;simp[this]
theorem bV:∀{l:U α} {k:Nat} {K:α->Prop},cr l k K->∃a,l[k]?=some a/\K a
 |[],_,_,h=>h.elim
 |a::l,0,K,h=>⟨a,J,h⟩
 |a::l,k+1,K,h=>by obtain⟨b,h1,h2⟩:=bV (l:=l) (k:=k) (K:=K) h;grind
theorem jK:∀{l:U α} {k:Nat} {b:α} {K:U α->Prop},setC l k b K->K (l.set k b)
 |[],_,_,_,h=>h.elim
 |a::l,0,b,K,h=>h
 |a::l,k+1,b,K,h=>jK (l:=l) (k:=k) (K:=λl=>K (a::l)) h
theorem nH:∀{l:U α} {b:α} {K:U α->Prop},pushC l b K->K (l++[b])
 |[],_,_,h=>h
 |a::l,b,K,h=>nH (l:=l) (K:=λl=>K (a::l)) h
theorem v7:∀{l:U α} {k:Nat} {K:Prop},lenC l k K->l.length=k/\K
 |[],0,K,h=>⟨J,h⟩
 |[],_+1,_,h=>h.elim
 |_::_,0,_,h=>h.elim
 |_::l,k+1,K,h=>by have:=v7 (l:=l) (k:=k) (K:=K) h;grind
theorem yf:∀{l:U α} {k:Nat} {K:U α->Prop},dropC l k K->k<=l.length/\K (l.drop k)
 |l,0,K,h=>⟨Sb _,by cases l<;>exact h⟩
 |[],_+1,_,h=>h.elim
 |_::l,k+1,K,h=>by have:=yf (l:=l) (k:=k) (K:=K) h;grind
theorem yk:∀{l:U α} {k:Nat} {K:U α->Prop},takeC l k K->k<=l.length/\K (l.take k)
 |l,0,K,h=>⟨Sb _,by cases l<;>exact h⟩
 |[],_+1,_,h=>h.elim
 |a::l,k+1,K,h=>by have:=yk (l:=l) (k:=k) (K:=λl=>K (a::l)) h;grind
theorem Ep:∀{l bs:U α} {K:U α->Prop},overC l bs K->bs.length<=l.length/\K (bs++l.drop bs.length)
 |l,[],K,h=>⟨Sb _,by cases l<;>exact h⟩
 |[],_::_,_,h=>h.elim
 |_::l,b::bs,K,h=>by have:=Ep (l:=l) (bs:=bs) (K:=λl=>K (b::l)) h;grind
theorem wg:∀{l:U α} {k:Nat} {bs:U α} {K:U α->Prop},splC l k bs K->k+bs.length<=l.length/\K (l.take k++bs++l.drop (k+bs.length))
 |l,0,bs,K,h=>by have:=Ep (l:=l) (bs:=bs) (K:=K) (by cases l<;>exact h);grind
 |[],_+1,_,_,h=>h.elim
 |a::l,k+1,bs,K,h=>by have:=wg (l:=l) (k:=k) (bs:=bs) (K:=λl=>K (a::l)) h;grind
variable {K:U α->Prop}
theorem EA {row:U α}{off m:Nat}(h:aggC row off m K):off+m<=row.length/\K ((row.drop off).take m):=by
 have key:∀{o:Nat},(dropC row o λr=>takeC r m K)->o+m<=row.length/\K ((row.drop o).take m):=λ{o} h=>by obtain⟨h1,h2⟩:=yf h;obtain⟨h3,h4⟩:=yk h2;grind
 unfold aggC at h;split at h;all_goals (grind[Fd,yk])
theorem NA {l:U α}{k:Nat}{bs:U α}(h:putC l k bs K):k+bs.length<=l.length/\K (l.take k++bs++l.drop (k+bs.length)):=by
 unfold putC at h;split at h
 .split at h
  .rename_i hb;have:=Ds hb;grind
  .exact wg h
 .exact wg h
end
def fA(a:AV)(K:AV->Prop):Prop:=
 match a with
 | .any=>K .any
 | .int k n=>K (.int k n)
 | .bool b=>K (.bool b)
 | .str s=>K (.str s)
 | .agg cs=>K (.agg cs)
 | .tup vs=>K (.tup vs)
 | .nils=>K .nils
 | .sl rows=>K (.sl rows)
 | .ref id=>K (.ref id)
 | .ptr id off=>K (.ptr id off)
 | .elt row off=>K (.elt row off)
 | .aptr id size i off=>K (.aptr id size i off)
 | .func f caps=>K (.func f caps)
 | .nilf=>K .nilf
 | .nilp=>K .nilp
 | .nili=>K .nili
 | .mpr id=>K (.mpr id)
 | .np id=>K (.np id)
 | .ifc t a=>K (.ifc t a)
 | .cst v=>K (.cst v)
 | .vw id size lo n cap=>K (.vw id size lo n cap)
 | .ref2 id=>K (.ref2 id)
 | .aptr2 id i=>K (.aptr2 id i)
 | .iref id i=>K (.iref id i)
 | .bnd f cs=>K (.bnd f cs)
variable {a:AV}{K:AV->Prop}{row:U AV}{off c:Nat}{op:Op}{o:Oper}{ops:Array Oper}
theorem gl (h:fA a K):K a:=by cases a<;>exact h
def tm(a:AV)(K:List AV->Prop):Prop:=
 match a with
 | .any| .tup _| .cst _=>False
 | .agg cs=>K cs
 |a=>fA a λa=>K [a]
theorem xz {K:U AV->Prop}(h:tm a K):∃cs,a.cells=some cs/\K cs:=by cases a<;>first|exact h.elim|exact⟨_,rfl,h⟩
def evsC(n:Nat)(l:List (Nat×AV)):List Operand->(List AV->Prop)->Prop
 |[],K=>K []
 |x::xs,K=>fA (evA n l x) λa=>evsC n l xs λas₀=>K (a::as₀)
theorem sX:∀{xs:U Operand} {K:U AV->Prop},evsC n l xs K->K (xs.map (evA n l))
 |[],K,h=>h
 |x::xs,K,h=>sX (xs:=xs) (K:=λas₀=>K (evA n l x::as₀)) (gl (a:=evA n l x) (K:=λa=>evsC n l xs λas₀=>K (a::as₀)) h)
def ikN:IntKind->Nat
 | .i8=>0
 | .i16=>1
 | .i32=>2
 | .i64=>3
 | .u8=>4
 | .u16=>5
 | .u32=>6
 | .u64=>7
theorem FO {a b:IntKind}(h:Nat.beq (ikN a) (ikN b)=true):a=b:=by cases a<;>cases b<;>first|rfl|cases h
def wLd(i:TI)(row:List AV)(off:Nat)(K:AV->Prop):Prop:=
 match i with
 | .no=>False
 | .ag _ m _=>aggC row off m λcs=>K (.agg cs)
 | .ar _ m=>aggC row off m λcs=>K (.agg cs)
 |_=>cr row off λc=>fA c K
theorem ldA {m:Nat}(hk:dN P t=some true)(hm:P.cellsOf t=m)(h:aggC row off m λcs=>K (.agg cs)):co P t row off K:=by grind[EA,co]
theorem ld1 (hk:dN P t=some false)(h:cr row off λc=>fA c K):co P t row off K:=by obtain⟨c,h1,h2⟩:=bV h;grind[aI,gl]
theorem yW (ht:TOk P t i)(h:wLd i row off K):co P t row off K:=by
 cases i with
 |no=>exact h.elim
 |ag z m fs=>exact ldA ht.1.1 ht.1.2.1 h
 |ar z m=>exact ldA ht.1 ht.2.1 h
 |s0=>exact ld1 ht.1 h
 |_=>exact ld1 ht.1.1 h
def wBin(tt:TT)(op:BinOp)(t:Nat)(a b:AV)(K:AV->Prop):Prop:=
 match a,b with
 | .int k x,.int k' y=>(match Nat.beq (ikN k) (ikN k')with
  |true=>(match op with
   | .add=>K (.int k (k.wrap (x+y)))
   | .sub=>K (.int k (k.wrap (x- y)))
   | .mul=>K (.int k (k.wrap (x*y)))
   | .and=>K (.int k (intBits .and k x y))
   | .or=>K (.int k (intBits .or k x y))
   | .xor=>K (.int k (intBits .xor k x y))
   | .eql=>K (.bool (x==y))
   | .neq=>K (.bool (x !=y))
   | .lss=>K (.bool (decide (x<y)))
   | .leq=>K (.bool (decide (x<=y)))
   | .gtr=>K (.bool (decide (x> y)))
   | .geq=>K (.bool (decide (x>=y)))
   |_=>False)
  |false=>False)
 | .str x,.str y=>(match op with
  | .eql=>K (.bool (x==y))
  | .neq=>K (.bool (!(x==y)))
  |_=>False)
 | .bool x,.bool y=>(match tt.get t with
  | .bo=>(match op with
   | .eql=>K (.bool (x==y))
   | .neq=>K (.bool (!(x==y)))
   |_=>False)
  |_=>False)
 |_,_=>False
theorem OF {op:BinOp}{b:AV}(ht:tt.Ok P)(h:wBin tt op t a b K):jd P op t a b K:=by
 unfold wBin at h;split at h
 .split at h
  .rename_i hk;have:=FO hk;subst this;split at h<;>first|exact⟨trivial,h⟩|exact⟨J,h⟩|exact h.elim
  grind
 .split at h<;>first|exact h.elim|exact h
 .split at h
  .rename_i hb;have hu:=TY ht t;rw[hb]at hu;have hu:=hu.2.2;split at h<;>first|exact h.elim|simp_all[jd]
  grind
 grind
def fillC(n:Nat)(l:List (Nat×AV))(fs:List (Nat×Nat×Nat)):List AV->List (Nat×Operand)->(List AV->Prop)->Prop
 |cells,[],K=>K cells
 |cells,(i,x)::ps,K=>cr fs i λ(o,sz,_)=>tm (evA n l x) λvs=>lenC vs sz (splC cells o vs λcs=>fillC n l fs cs ps K)
theorem Et {fs:U (Nat×Nat×Nat)}:∀{ps:U (Nat×Operand)} {cells:U AV} {K:U AV->Prop},fillC n l fs cells ps K ->
  ∃cs,i7 (λi=>(fs.map λq=>(q.1,q.2.1))[i]?) cells (ps.map λp=>(p.1,evA n l p.2))=some cs/\K cs
 |[],cells,K,h=>⟨cells,J,by assumption⟩
 |(i,x)::ps,cells,K,h=>by
  have h:cr fs i λq=>tm (evA n l x) λvs=>lenC vs q.2.1 (splC cells q.1 vs λcs=>fillC n l fs cs ps K):=by assumption
  obtain⟨q,h1,h⟩:=bV h;obtain⟨vs,h2,h⟩:=xz h;obtain⟨h3,h⟩:=v7 h;obtain⟨h4,h⟩:=wg h;obtain⟨cs,h5,h6⟩:=Et h;refine⟨cs,?_,h6⟩;show i7 _ cells ((i,evA n l x)::ps.map λp=>(p.1,evA n l p.2))=_;have e1:(fs.map λq=>(q.1,q.2.1))[i]?=some (q.1,q.2.1):=by grind
  unfold i7;simp only[e1,h2];rw[if_pos ⟨h3,by omega⟩];exact h5
def wB(tt:TT)(n:Nat)(l:List (Nat×AV))(b:Builtin)(args:List Operand)(ats:List TypeId)(K:AV->Prop):Prop:=
 match b,args,ats with
 | .len,[x],[t]=>(match tt.get t,evA n l x with
  | .str,.str s=>K (.int .i64 s.length)
  | .sl _ _,.nils=>K (.int .i64 0)
  |_,_=>False)
 | .min,[x,y],_=>(match evA n l x,evA n l y with
  | .int k a,.int _ b=>K (.int k (if b<a then b else a))
  |_,_=>False)
 | .max,[x,y],_=>(match evA n l x,evA n l y with
  | .int k a,.int _ b=>K (.int k (if b> a then b else a))
  |_,_=>False)
 |_,_,_=>False
theorem wB_ok {b:Builtin}{args:U Operand}{ats:U TypeId}(ht:tt.Ok P)(h:wB tt n l b args ats K):vcB P (mkA n l) aw b args ats K:=by
 unfold wB at h;split at h
 .rename_i x t;have hu:=TY ht t;split at h
  .rename_i s h1 h2;rw[h1]at hu;simp only[vcB,aF,hu.2.2,h2];exact h
  .rename_i e c h1 h2;rw[h1]at hu;simp only[vcB,aF,hu.2.2.u,h2];exact h
  grind
 all_goals (grind[vcB,aF])
def wV(tt:TT)(n:Nat)(l:List (Nat×AV))(aw:List Ob)(op:Op)(K:AV->Prop):Prop:=
 match op with
 | .move x=>fA (evA n l x) K
 | .assign x=>fA (evA n l x) K
 | .pick c a b=>(match evA n l c,evA n l a,evA n l b with
  | .bool t,.bool x,.bool y=>K (.bool (if t then x else y))
  | .bool t,.int k x,.int k' y=>(match Nat.beq (ikN k) (ikN k')with
   |true=>K (.int k (if t then x else y))
   |false=>False)
  |_,_,_=>False)
 | .load t x=>(match evA n l x with
  | .ptr id off=>cr aw id λo=>(match o with
   | .box cs=>wLd (tt.get t) cs off K
   |_=>False)
  | .elt row off=>wLd (tt.get t) row off K
  |_=>False)
 | .fieldAddr t x k=>(match tt.get t with
  | .ag _ _ fs=>cr fs k λ(o,_,_)=>(match evA n l x with
   | .ptr id off=>K (.ptr id (off+o))
   | .elt row off=>K (.elt row (off+o))
   | .aptr id s i off=>K (.aptr id s i (off+o))
   |_=>False)
  |_=>False)
 | .field t x k=>(match tt.get t,evA n l x with
  | .ag _ _ fs,.agg cs=>cr fs k λ(o,_,ft)=>wLd (tt.get ft) cs o K
  |_,_=>False)
 | .binOp op t x y _=>wBin tt op t (evA n l x) (evA n l y) K
 | .unOp op _ x=>(match op,evA n l x with
  | .not,.bool b=>K (.bool (!b))
  | .neg,.int k a=>K (.int k (k.wrap (0- a)))
  |_,_=>False)
 | .convert s t x=>(match evA n l x with
  | .int _ a=>(match tt.get s,tt.get t with
   | .it _,.it k=>K (.int k (k.wrap a))
   |_,_=>False)
  |_=>False)
 | .makeFunc (.func f) first caps=>(match first.toList with
  |[]=>evsC n l caps.toList λcs=>K (.func f cs)
  |x::xs=>(match caps.toList with
   |[]=>evsC n l (x::xs) λcs=>K (.bnd f cs)
   |_=>False))
 | .build t parts=>(match tt.get t with
  | .ag z _ fs=>fillC n l fs z parts.toList λcs=>K (.agg cs)
  |_=>False)
 | .extract x k=>(match evA n l x with
  | .tup vs=>cr vs k λv=>fA v K
  |_=>False)
 | .nilCheck x=>(match evA n l x with
  | .ptr id off=>K (.ptr id off)
  | .elt row off=>K (.elt row off)
  | .aptr id s i off=>K (.aptr id s i off)
  | .func f cs=>K (.func f cs)
  | .bnd f cs=>K (.bnd f cs)
  |_=>False)
 | .call c=>(match c.callee with
  | .builtin b=>wB tt n l b c.args.toList c.argTypes.toList K
  |_=>False)
 |_=>False
theorem wV_ok (ht:tt.Ok P)(h:wV tt n l aw op K):vcQ P (mkA n l) aw op K:=by
 cases op with
 |move x=>exact eE J (gl h)
 |assign x=>exact cA J (gl h)
 | pick c a b=>
  simp only[wV]at h;split at h
  .rename_i h1 h2 h3;exact wq h1 (by rw[h2,h3];rfl) h
  .rename_i h1 h2 h3;split at h
   .rename_i hk;have:=FO hk;simp_all[wq,pickV]
   grind
  grind
 | load t x=>
  simp only[wV]at h;split at h
  .rename_i h1;obtain⟨o,h2,h⟩:=bV h;split at h
   .exact iU h1 h2 (yW (TY ht t) h)
   grind
  .rename_i h1;exact Jz h1 (yW (TY ht t) h)
  grind
 |fieldAddr t x k=>
  simp only[wV]at h;have hu:=TY ht t;split at h
  .rename_i z m fs h0;rw[h0]at hu;obtain⟨q,h1,h⟩:=bV h;have hF:=y6 hu.2.2 h1;rw[SP]at hF;grind[If,Il,H9]
  grind
 |field t x k=>
  simp only[wV]at h;have hu:=TY ht t;split at h
  .rename_i z m fs cs h0 h2;rw[h0]at hu;obtain⟨q,h1,h⟩:=bV h;have hF:=y6 hu.2.2 h1;rw[SP]at hF;exact OE hF h2 (yW (TY ht _) h)
  grind
 |binOp op t x y yt=>
  have:=OF ht h;simp_all[vcQ,aF]
 |unOp op t x=>
  simp only[wV]at h;grind[v_not,v_neg]
 | convert s t x=>
  simp only[wV]at h;split at h
  .rename_i h1;have hu:=TY ht t;have hs:=TY ht s;split at h
   .rename_i h2 h3;rw[h2]at hs;rw[h3]at hu;exact Pj hs.2.2 hu.2.2 h1 h
   grind
  grind
 | makeFunc f first caps=>
  cases f with
  | func f=>
   simp only[wV]at h;split at h
   .rename_i h1;have:first=#[]:=by grind
    subst this;exact u3 J (sX h)
   .rename_i x xs h1;split at h
    .rename_i h2;have h3:first=(x::xs).toArray:=by grind
     have h4:caps=#[]:=by grind
     subst h3 h4;exact v_bnd J (sX h)
    grind
  |_=>exact h.elim
 |build t parts=>
  simp only[wV]at h;have hu:=TY ht t;split at h
  .rename_i z m fs h0;rw[h0]at hu;obtain⟨cs,h1,h2⟩:=Et h;exact E7 hu.1.2.2.2.1 hu.2.1 h1 h2
  grind
 |extract x k=>
  simp only[wV]at h;split at h
  .rename_i h1;obtain⟨v,h2,h⟩:=bV h;grind[LA,gl]
  grind
 |nilCheck x=>
  simp only[wV]at h;grind[Ku,Kj,Jy,J5,Lx]
 |call c=>
  obtain⟨cal,as₀,ts⟩:=c;cases cal with
  |builtin b=>exact wB_ok ht h
  |_=>exact h.elim
 |_=>exact h.elim
theorem Qe (h:wV tt n l aw op K):isQ (mkA n l) op=true:=by
 cases op with
 |load t x=>
  simp only[wV]at h;grind[isQ,aF]
 |convert s t x=>
  simp only[wV]at h;grind[isQ,aF]
 | call c=>
  obtain⟨cal,as₀,ts⟩:=c;cases cal with
  |builtin b=>
   simp only[wV,wB]at h;split at h<;>first|rfl|exact h.elim
  |_=>exact h.elim
 |_=>first|rfl|exact h.elim
theorem V6 {K:AV->U Ob->Prop}(ht:tt.Ok P)(h:wV tt n l aw o.op λr=>K r aw):OP P N o (mkA n l) aw K:=by
 refine T1 ?_;have h1:=Qe h;have h2:=wV_ok ht h;obtain⟨d,op,ty,ps,af,g⟩:=o;have key:iH P (mkA n l) aw op K:=by simp_all[iH]
 cases op with
 |call c=>
  obtain⟨cal,as₀,ts⟩:=c;cases cal with
  |builtin b=>exact key
  |_=>exact(show False from h).elim
 |_=>exact key
def wE(tt:TT)(n:Nat)(l:List (Nat×AV))(aw:List Ob)(c:Nat)(op:Op)(K:AV->List Ob->Nat->Prop):Prop:=
  match op with
  | .alloc e=>(match(tt.get e).zero with
    |some z=>pushC aw (.box z) λaw=>K (.ptr c 0) aw (c+1)
    |none=>False)
  | .box _ x=>tm (evA n l x) λcs=>pushC aw (.box cs) λaw=>K (.ptr c 0) aw (c+1)
  | .store t x y=>(match evA n l x with
    | .ptr id off=>(match(tt.get t).size with
      | some m=>tm (evA n l y) λvs=>lenC vs m (cr aw id λo=>(match o with
        | .box cs=>putC cs off vs λcs=>setC aw id (.box cs) λaw=>K .any aw c
        |_=>False))
      |none=>False)
    |_=>False)
  |op=>wV tt n l aw op λr=>K r aw c
theorem OP.mono {fr:U AV}{K K':AV->U Ob->Prop}(h:OP P N o fr aw K)(hm:∀r aw',K r aw'->K' r aw'):OP P N o fr aw K':=
 ⟨λst h1 h2 σ w F a hc Kc Q hk=>h.out st h1 h2 σ w F a hc Kc Q λr aw' σ' w' F' v hK=>hk r aw' σ' w' F' v (hm r aw' hK)⟩
theorem wE_ok {K:AV->U Ob->Nat->Prop}(ht:tt.Ok P)(hc:aw.length=c)(h:wE tt n l aw c o.op K):OP P N o (mkA n l) aw λr aw'=>K r aw' aw'.length:=by
 obtain⟨d,op,ty,ps,af,g⟩:=o;subst hc;have q:wV tt n l aw op (λr=>K r aw aw.length)->OP P N ⟨d,op,ty,ps,af,g⟩ (mkA n l) aw λr aw'=>K r aw' aw'.length:=λh=>V6 ht h
 cases op with
 |alloc e=>
  simp only[wE]at h;split at h
  .rename_i z hz;have:=nH h;exact ON (UN (TY ht e) hz) J J (by grind)
  grind
 |box e x=>
  obtain⟨cs,h1,h2⟩:=xz h;have:=nH h2;simp_all[o_box]
 | store t x y=>
  simp only[wE]at h;split at h
  .rename_i h1;split at h
   .rename_i m hm;obtain⟨vs,h2,h⟩:=xz h;obtain⟨h3,h⟩:=v7 h;obtain⟨o,h4,h⟩:=bV h;split at h
    .obtain⟨h5,h⟩:=NA h;have h:=jK h;have hs:=UO (TY ht t) hm;exact I4 hs.1 hs.2 h1 h2 h3 h4 (Nat.ble_eq_true_of_le (by omega)) J J (by grind[splice])
    grind
   grind
  grind
 |_=>exact q h
def wR(tt:TT)(n:Nat):Nat->List Oper->List (Nat×AV)->List Ob->Nat->(List Oper->List (Nat×AV)->List Ob->Prop)->Prop
 |0,os,l,aw,_,K=>K os l aw
 |_+1,[],_,_,_,_=>False
 | m+1,o::os,l,aw,c,K=>(match o.guard with
  |none=>wE tt n l aw c o.op λr aw c=>(match o.dst with
   |some t=>wR tt n m os ((t,r)::l) aw c K
   |none=>wR tt n m os l aw c K)
  |some _=>False)
theorem RS.go (ht:tt.Ok P){K:U AV->U Ob->Prop}:∀{m:Nat} {os:U Oper} {l:U (Nat×AV)} {aw:U Ob} {c:Nat},aw.length=c->wR tt n m os l aw c (λos l aw=>RS P N ops os K (mkA n l) aw)->RS P N ops os K (mkA n l) aw
 |0,os,l,aw,c,hc,h=>by assumption
 |_+1,[],_,_,_,_,h=>h.elim
 | m+1,o::os,l,aw,c,hc,h=>by
  simp only[wR]at h;split at h
  .rename_i hg;refine RS.op hg ((wE_ok ht hc h).mono λr aw' h=>?_);split at h
   .rename_i t hd;rw[hd];exact RS.go ht J h
   .rename_i hd;rw[hd];exact RS.go ht J h
  .exact h.elim
def okQ(ops:Array Oper):Array Bool->List Nat->Bool
 |_,[]=>true
 |li,i::is=>Region.free .any ops li i&&(Region.ready .any ops li).contains i&&(match ops.toList[i]? with
  |some o=>nR o.op&&o.guard.isNone
  |none=>false)&&okQ ops (li.setIfInBounds i true) is
def lisQ:Array Bool->List Nat->Array Bool
 |li,[]=>li
 |li,i::is=>lisQ (li.setIfInBounds i true) is
def wQ(tt:TT)(n:Nat)(ops:List Oper):List Nat->List (Nat×AV)->List Ob->(List (Nat×AV)->Prop)->Prop
 |[],l,aw,K=>K l
 |i::is,l,aw,K=>cr ops i λo=>wV tt n l aw o.op λr=>(match o.dst with
  |some t=>wQ tt n ops is ((t,r)::l) aw K
  |none=>wQ tt n ops is l aw K)
theorem U9 (ht:tt.Ok P){K:U AV->U Ob->Prop}(hs:Region.noSelect ops=true){k':Nat}:∀{is:U Nat} {k:Nat} {li:Array Bool} {l:U (Nat×AV)},k=k'+ is.length->okQ ops li is=true ->
  wQ tt n ops.toList is l aw (λl=>RA P N ops k' (lisQ li is) K (mkA n l) aw)->RA P N ops k li K (mkA n l) aw
 |[],k,li,l,hk,_,h=>by have:k=k':=hk;subst this;exact h
 |i::is,k,li,l,hk,ho,h=>by
  obtain⟨o,h1,h⟩:=bV h;have h1':ops[i]?=some o:=by grind
  unfold okQ at ho;rw[h1]at ho;simp only[SR]at ho;obtain⟨⟨⟨ho1,ho2⟩,ho3,ho4⟩,ho5⟩:=ho;have hg:o.guard=none:=by simp_all
  have hk:k=(k'+ is.length)+1:=by omega
  subst hk;refine⟨λst e1 e2 σ w F a hc R hR=>?_⟩;obtain⟨v,r,hrun,hrel,hk⟩:=sJ hc ho3 (wV_ok ht h);refine wpAny_take h1' hs ho1 ho2 (λc a w hp=>hp) (.inl ⟨by grind[Region.wanted],hrun⟩) ?_;have hput:=fI hc hrel o.dst;rw[eR]at hput;refine RA.out ?_ st e1 e2 σ w F _ hput R hR;split at hk
  .rename_i t hd;rw[hd];exact U9 ht hs J ho5 hk
  .rename_i hd;rw[hd];exact U9 ht hs J ho5 hk
theorem RO.g (ht:tt.Ok P){i:Nat}{K:U AV->U Ob->Prop}(hc:aw.length=c)(h:cr ops.toList i λo=>o.guard=none/\wE tt n l aw c o.op λr aw c=>(match o.dst with
   |some t=>K (mkA n ((t,r)::l)) aw
   |none=>K (mkA n l) aw)):RO P N ops i K (mkA n l) aw:=by
 obtain⟨o,h1,hg,h⟩:=bV h
 refine RO.op (by grind) hg ((wE_ok ht hc h).mono λr aw' h=>?_)
 split at h
 .rename_i t hd
  rw[hd];exact h
 .rename_i hd
  rw[hd];exact h
end
end
section
open Go.RowKit
instance (a:Item):PureCs (aa a):=⟨fo a⟩
instance (a:Node):PureCs (an a):=⟨pL a⟩
instance (a:Net):PureCs (aK a):=⟨Dl a⟩
instance (a:Keyed):PureCs (aQ a):=⟨nw a⟩
instance (a:Memory):PureCs (aC a):=⟨ne a⟩
instance (a:Choice):PureCs (ao a):=⟨nq a⟩
instance (a:State):PureCs (bE a):=⟨BO a⟩
instance (a:Move):PureCs (aH a):=⟨vp a⟩
instance (a:Write):PureCs (be a):=⟨pt a⟩
instance (a:Disk):PureCs (cw a):=⟨Ct a⟩
instance (a:Shop):PureCs (fK a):=⟨Cx a⟩
instance (a:Happening):PureCs (dp a):=⟨AC a⟩
instance (a:Ends):PureCs (bl a):=⟨CA a⟩
instance {f:FuncId} {cs:List AV} [h:PureCs cs]:PureC (.func f cs):=⟨KR _ _ h.out⟩
instance {α:Type} {en:α->List AV} {a:α} {off:Nat} [h:EnP en]:PureC (.elt (en a) off):=⟨Eh _ _ (h.out a)⟩
class EnF {α:Type} (en:α->List AV):Prop where
 out:∀a,(en a).all flat0=true
instance:EnF aj:=⟨λ_=>J⟩
instance:EnF bR:=⟨λ_=>J⟩
instance:EnF encU:=⟨λ_=>J⟩
instance:EnF db:=⟨λ_=>J⟩
instance:EnF aT:=⟨λ_=>J⟩
instance:EnF aa:=⟨λ_=>J⟩
instance:EnF aQ:=⟨λ_=>J⟩
instance:EnF ao:=⟨λ_=>J⟩
instance:EnF aH:=⟨λ_=>J⟩
instance:EnF be:=⟨λ_=>J⟩
instance:EnF dp:=⟨λ_=>J⟩
instance:EnF bl:=⟨λ_=>J⟩
class FlatObs (os:List Ob):Prop where
 out:os.all fQ=true
instance:FlatObs []:=⟨J⟩
instance {α:Type} {en:α->List AV} {xs:List α} {e s:Nat} {os:List Ob} [h:EnF en] [t:FlatObs os]:FlatObs (.arr e s (xs.map en)::os):=⟨LY (Js h.out) t.out⟩
class OwnV (v:AV):Prop where
 out:(∃k,v=.ref k)∨∃vs,v=.tup vs/\∀x,x∈vs->Pure x∨∃k,x=.ref k
class OwnVs (vs:List AV):Prop where
 out:∀x,x∈vs->Pure x∨∃k,x=.ref k
instance:OwnVs []:=⟨λx h=>by cases h⟩
instance {k:Nat} {vs:List AV} [t:OwnVs vs]:OwnVs (.ref k::vs):=⟨λx h=>by
 cases h with
 |head=>simp
 |tail _ h=>exact t.out x h⟩
instance (priority:=low) {v:AV} {vs:List AV} [h:PureC v] [t:OwnVs vs]:OwnVs (v::vs):=⟨λx hx=>by
 cases hx with
 |head=>exact .inl h.out
 |tail _ hx=>exact t.out x hx⟩
instance {k:Nat}:OwnV (.ref k):=⟨.inl ⟨_,J⟩⟩
instance {vs:List AV} [h:OwnVs vs]:OwnV (.tup vs):=⟨.inr ⟨_,J,h.out⟩⟩
theorem sT:∀{es:U AV},(∀a,a∈es->Pure a)->Pures es
 |[],_=>trivial
 |a::es,h=>⟨h a (.head _),sT λb hb=>h b (.tail _ hb)⟩
section
variable {P:Program} {N n:Nat} {aw aw':List Ob} {l:List (Nat×AV)} {tt:TT}
def appC{α:Type}:List α->List α->(List α->Prop)->Prop
 |[],bs,K=>K bs
 |a::l,bs,K=>appC l bs λl=>K (a::l)
theorem tf {α:Type}:∀{l bs:U α} {K:U α->Prop},appC l bs K->K (l++bs)
 |[],_,_,h=>h
 |a::l,bs,K,h=>tf (l:=l) (K:=λl=>K (a::l)) h
def nrm0C(aw:List Ob)(a:AV)(K:AV->List Ob->Prop):Prop:=
 match a with
 | .nils=>K (.sl []) aw
 | .ref id=>cr aw id λo=>(match o with
  | .arr _ _ rows=>setC aw id .dead λaw=>K (.sl rows) aw
  |_=>False)
 |a=>fA a λa=>K a aw
variable {a:AV}{K:AV->U Ob->Prop}
theorem Di (h:nrm0C aw a K):K (d6 aw a).1 (d6 aw a).2:=by
 cases a with
 |nils=>exact h
 |ref id=>
  obtain⟨o,h1,h⟩:=bV h;grind[jK,d6]
 |_=>exact h
def nrm0LC:List AV->List Ob->(List AV->List Ob->Prop)->Prop
 |[],aw,K=>K [] aw
 |a::es,aw,K=>nrm0C aw a λa aw=>nrm0LC es aw λes aw=>K (a::es) aw
theorem BX:∀{es:U AV} {aw:U Ob} {K:U AV->U Ob->Prop},nrm0LC es aw K->K (norm0L aw es).1 (norm0L aw es).2
 |[],aw,K,h=>h
 |a::es,aw,K,h=>BX (es:=es) (K:=λes aw=>K (_::es) aw) (Di h)
def nrmC(aw:List Ob)(a:AV)(K:AV->List Ob->Prop):Prop:=
 match a with
 | .agg cs=>nrm0LC cs aw λcs aw=>K (.agg cs) aw
 |a=>nrm0C aw a K
theorem yw (h:nrmC aw a K):K (norm aw a).1 (norm aw a).2:=by
 cases a with
 |agg cs=>exact BX (K:=λcs aw=>K (.agg cs) aw) h
 |_=>exact Di h
def nrmLC:List AV->List Ob->(List AV->List Ob->Prop)->Prop
 |[],aw,K=>K [] aw
 |a::es,aw,K=>nrmC aw a λa aw=>nrmLC es aw λes aw=>K (a::es) aw
theorem Em:∀{es:U AV} {aw:U Ob} {K:U AV->U Ob->Prop},nrmLC es aw K->K (d7 aw es).1 (d7 aw es).2
 |[],aw,K,h=>h
 |a::es,aw,K,h=>Em (es:=es) (K:=λes aw=>K (_::es) aw) (yw h)
def nrmRC(aw:List Ob)(a:AV)(K:AV->List Ob->Prop):Prop:=
 match a with
 | .tup vs=>nrmLC vs aw λvs aw=>K (.tup vs) aw
 |a=>nrmC aw a K
theorem xU (h:nrmRC aw a K):K (il aw a).1 (il aw a).2:=by
 cases a with
 |tup vs=>exact Em (K:=λvs aw=>K (.tup vs) aw) h
 |_=>exact yw h
def argC(n:Nat)(l:List (Nat×AV)):List Operand->List Ob->(List AV->List Ob->Prop)->Prop
 |[],aw,K=>K [] aw
 |x::xs,aw,K=>nrmC aw (evA n l x) λa aw=>argC n l xs aw λes aw=>K (a::es) aw
theorem Eu:∀{xs:U Operand} {aw:U Ob} {K:U AV->U Ob->Prop},argC n l xs aw K->K (d7 aw (xs.map (evA n l))).1 (d7 aw (xs.map (evA n l))).2
 |[],aw,K,h=>h
 |x::xs,aw,K,h=>Eu (xs:=xs) (K:=λes aw=>K (_::es) aw) (yw h)
def calC(n:Nat)(l:List (Nat×AV))(aw:List Ob)(f:Operand)(args:List Operand)(g:Nat)(es:List AV)(K:List Ob->Prop):Prop:=
 match evA n l f with
 | .func g' caps=>(match Nat.beq g' g with
  |true=>argC n l args aw λes' aw'=>es'++caps=es/\K aw'
  |false=>False)
 |_=>False
section
variable {d:Option Tmp} {ty:TypeId} {ps:String} {af:Array Edge} {gd:Option (Nat×Bool)} {K2:AV→List Ob→Prop} {f:Operand} {args:Array Operand} {ts:Array TypeId} {g:FuncId} {es:List AV} {v:AV} {obs:List Ob}
theorem ve{K:U Ob->Prop}(h:calC n l aw f args.toList g es K)(hk:∀aw1,K aw1->CallK P g es aw aw1 K2):OP P N ⟨d,.call ⟨.value f,args,ts⟩,ty,ps,af,gd⟩ (mkA n l) aw K2:=by
 unfold calC at h;split at h
 .rename_i g' caps hf;split at h
  .rename_i hb;have:=Su hb;subst this;obtain⟨h1,h2⟩:=Eu h;grind[Po]
  grind
 grind
theorem cD(hc:Fn P g es v)(h:calC n l aw f args.toList g es λaw1=>K2 v aw1)[hp:PureCs es][hv:PureC v]:OP P N ⟨d,.call ⟨.value f,args,ts⟩,ty,ps,af,gd⟩ (mkA n l) aw K2:=
 ve h λaw1 hK=>k_fn hc (sT hp.out) hv.out hK
theorem cF(hc:Fn P g es v)(h:calC n l aw f args.toList g es λ_=>K2 v aw)[hp:PureCs es](hv:flat v=true:=by rfl):OP P N ⟨d,.call ⟨.value f,args,ts⟩,ty,ps,af,gd⟩ (mkA n l) aw K2:=
 ve h λaw1 hK=>Qi hc (sT hp.out) hv hK
theorem cO(c:Nat)(hc:FnO P g es v obs)(h:calC n l aw f args.toList g es λ_=>fA (v.shift c) λv=>appC aw obs λaw=>K2 v aw)[hp:PureCs es][ho:FlatObs obs](hv:flatR v=true:=by rfl)(hl:aw.length=c:=by rfl):
  OP P N ⟨d,.call ⟨.value f,args,ts⟩,ty,ps,af,gd⟩ (mkA n l) aw K2:=
 ve h λaw1 hK=>by subst hl;exact k_own hc (sT hp.out) hv ho.out (tf (gl (K:=λv=>appC aw obs λaw=>K2 v aw) hK))
theorem cQ{α:Type}{en:α->U AV}{xs:U α}{e s:Nat}(c:Nat)(hc:FnO P g es v [.arr e s (xs.map en)])(h:calC n l aw f args.toList g es λaw=>fA (v.shift c) λv=>lenC aw c (appC aw [.arr e s (xs.map en)] λaw=>K2 v aw))[hp:PureCs es][he:EnP en][ho:OwnV v]:
  OP P N ⟨d,.call ⟨.value f,args,ts⟩,ty,ps,af,gd⟩ (mkA n l) aw K2:=
 ve h λaw1 hK=>by have h1:=gl (K:=λv=>lenC aw1 c (appC aw1 [.arr e s (xs.map en)] λaw=>K2 v aw)) hK;obtain⟨h2,h3⟩:=v7 h1;subst h2;exact Pi hc (sT hp.out) he.out ho.out J J (tf h3)
end
theorem ld_ex {t:Nat}{i:TI}{row:U AV}{off:Nat}{K:AV->Prop}(ht:TOk P t i)(h:wLd i row off K):∃v,K v/\∀K':AV->Prop,K' v->co P t row off K':=by
 have kA:∀{m:Nat},dN P t=some true->P.cellsOf t=m->(aggC row off m λcs=>K (.agg cs))->∃v,K v/\∀K':AV->Prop,K' v->co P t row off K':=λ{m} hk hm h=>by obtain⟨h1,h2⟩:=EA h;grind[co]
 have k1:dN P t=some false->(cr row off λc=>fA c K)->∃v,K v/\∀K':AV->Prop,K' v->co P t row off K':=λhk h=>by grind[bV,gl,aI]
 cases i with
 |no=>exact h.elim
 |ag z m fs=>exact kA ht.1.1 ht.1.2.1 h
 |ar z m=>exact kA ht.1 ht.2.1 h
 |s0=>exact k1 ht.1 h
 |_=>exact k1 ht.1.1 h
def resC(tt:TT)(n:Nat)(l:List (Nat×AV))(aw:List Ob):List ResultVar->(List AV->Prop)->Prop
 |[],K=>K []
 | .tmp t::rs,K=>fA (evA n l (.tmp t)) λv=>resC tt n l aw rs λvs=>K (v::vs)
 | .cell a t::rs,K=>(match evA n l (.tmp a)with
  | .ptr id off=>cr aw id λo=>(match o with
   | .box cs=>wLd (tt.get t) cs off λv=>resC tt n l aw rs λvs=>K (v::vs)
   |_=>False)
  |_=>False)
theorem qd (ht:tt.Ok P):∀{rs:U ResultVar} {K K':U AV->Prop},(∀vs,K vs->K' vs)->resC tt n l aw rs K->cq P (mkA n l) aw rs K'
 |[],K,K',hm,h=>eu (hm _ h)
 | .tmp t::rs,K,K',hm,h=>eA J (qd ht (K:=λvs=>K (_::vs)) (λvs hv=>hm _ hv) (gl h))
 | .cell a t::rs,K,K',hm,h=>by
  unfold resC at h;split at h
  .rename_i h1;obtain⟨o,h2,h⟩:=bV h;split at h
   .obtain⟨v,h3,h4⟩:=ld_ex (TY ht t) h;exact KQ h1 h2 h4 (qd ht (K:=λvs=>K (v::vs)) (λvs hv=>hm _ hv) h3)
   grind
  grind
variable {rs:U ResultVar}{V:AV}
theorem rD_c (ht:tt.Ok P)(h:resC tt n l aw rs λvs=>nrmRC aw (dT vs) λv _=>v=V)[hV:PureC V]:cq P (mkA n l) aw rs (Ret 0 (λr aw'=>r=V/\aw'=[]) aw):=by refine qd ht (λvs hv=>?_) h;have h1:=xU hv;exact DT (v:=V) (aw1:=(il aw (dT vs)).2) (by rw[<- h1]) hV.out ⟨J,J⟩
theorem Wb (ht:tt.Ok P){Q:Exit->U AV->U Ob->Prop}(h:resC tt n l aw rs λvs=>nrmRC aw (dT vs) λv _=>v=V)[hq:RetI Q (λfr aw=>cq P fr aw rs (Ret 0 (λr aw'=>r=V/\aw'=[]) aw))][hV:PureC V]:T P N .ret Q (mkA n l) aw:=
 VL (R:=λfr aw=>cq P fr aw rs (Ret 0 (λr aw'=>r=V/\aw'=[]) aw)) (rD_c ht h)
def gA:Nat->AV->Prop
 | k,a=>match a with
  | .sl rows=>Pure (.sl rows)
  | .elt row off=>Pure (.elt row off)
  | .cst _| .vw _ _ _ _ _| .ref2 _| .aptr2 _ _| .ifc _ _=>False
  | .agg cs=>(match k with
   |0=>False
   |k+1=>∀c,c∈cs->gA k c)
  | .tup cs=>(match k with
   |0=>False
   |k+1=>∀c,c∈cs->gA k c)
  | .func _ cs=>(match k with
   |0=>False
   |k+1=>∀c,c∈cs->gA k c)
  | .bnd _ cs=>(match k with
   |0=>False
   |k+1=>∀c,c∈cs->gA k c)
  |_=>True
class GoodA (k:Nat) (a:AV):Prop where
 out:gA k a
class GoodAs (k:Nat) (es:List AV):Prop where
 out:∀a,a∈es->gA k a
section
variable {k:Nat}
instance:GoodA k .any:=⟨by unfold gA;trivial⟩
instance {q:IntKind} {x:Int}:GoodA k (.int q x):=⟨by unfold gA;trivial⟩
instance {b:Bool}:GoodA k (.bool b):=⟨by unfold gA;trivial⟩
instance {s:List UInt8}:GoodA k (.str s):=⟨by unfold gA;trivial⟩
instance:GoodA k .nils:=⟨by unfold gA;trivial⟩
instance:GoodA k .nilf:=⟨by unfold gA;trivial⟩
instance:GoodA k .nilp:=⟨by unfold gA;trivial⟩
instance:GoodA k .nili:=⟨by unfold gA;trivial⟩
instance {i:Nat}:GoodA k (.ref i):=⟨by unfold gA;trivial⟩
instance {i o:Nat}:GoodA k (.ptr i o):=⟨by unfold gA;trivial⟩
instance {i s j o:Nat}:GoodA k (.aptr i s j o):=⟨by unfold gA;trivial⟩
instance {i:Nat}:GoodA k (.mpr i):=⟨by unfold gA;trivial⟩
instance {i:Nat}:GoodA k (.np i):=⟨by unfold gA;trivial⟩
instance {i j:Nat}:GoodA k (.iref i j):=⟨by unfold gA;trivial⟩
instance {α:Type} {en:α->List AV} {xs:List α} [h:EnP en]:GoodA k (.sl (xs.map en)):=⟨by unfold gA;exact de h.out _⟩
instance {α:Type} {en:α->List AV} {a:α} {off:Nat} [h:EnP en]:GoodA k (.elt (en a) off):=⟨by unfold gA;exact Eh _ _ (h.out a)⟩
instance:GoodAs k []:=⟨λa h=>by cases h⟩
instance {a:AV} {es:List AV} [h:GoodA k a] [t:GoodAs k es]:GoodAs k (a::es):=⟨λb hb=>by
 cases hb with
 |head=>exact h.out
 |tail _ hb=>exact t.out b hb⟩
instance {es:List AV} [h:GoodAs k es]:GoodA (k+1) (.agg es):=⟨by unfold gA;exact h.out⟩
instance {es:List AV} [h:GoodAs k es]:GoodA (k+1) (.tup es):=⟨by unfold gA;exact h.out⟩
instance {f:FuncId} {es:List AV} [h:GoodAs k es]:GoodA (k+1) (.func f es):=⟨by unfold gA;exact h.out⟩
instance {f:FuncId} {es:List AV} [h:GoodAs k es]:GoodA (k+1) (.bnd f es):=⟨by unfold gA;exact h.out⟩
instance (a:Item):GoodAs k (aa a):=by unfold aa;infer_instance
instance (a:Node):GoodAs k (an a):=by unfold an;infer_instance
instance (a:Net):GoodAs k (aK a):=by unfold aK;infer_instance
instance (a:Keyed):GoodAs k (aQ a):=by unfold aQ;infer_instance
instance (a:Memory):GoodAs k (aC a):=by unfold aC;infer_instance
instance (a:Choice):GoodAs k (ao a):=by unfold ao;infer_instance
instance (a:State):GoodAs k (bE a):=by unfold bE;infer_instance
instance (a:Move):GoodAs k (aH a):=by unfold aH;infer_instance
instance (a:Write):GoodAs k (be a):=by unfold be;infer_instance
instance (a:Disk):GoodAs k (cw a):=by unfold cw;infer_instance
instance (a:Shop):GoodAs k (fK a):=by unfold fK;infer_instance
instance (a:Happening):GoodAs k (dp a):=by unfold dp;infer_instance
instance (a:Ends):GoodAs k (bl a):=by unfold bl;infer_instance
end
variable {ρ:U Nat}{k:Nat}
theorem CT {id i:Nat}(h:ρ[k]?=some id):Ren ρ (.iref k i) (.iref id i):=λσ w F v hr σ' hσ=>by
 cases hr with
 |iref _ _ a n c vs hg h0=>exact .iref k i a n c vs (by grind) h0
theorem uX:Pure .nilp:=λσ w F v hr σ'=>by cases hr;exact .nilp
theorem u5:Pure .nili:=λσ w F v hr σ'=>by cases hr;exact .nili
def mpC(f:AV->AV->(AV->Prop)->Prop):List AV->List AV->(List AV->Prop)->Prop
 |[],_,K=>K []
 |a'::es',es,K=>(match es with
  |[]=>False
  |a::es=>f a' a λb=>mpC f es' es λbs=>K (b::bs))
def mpA(ρ:List Nat):Nat->AV->AV->(AV->Prop)->Prop
 | k,a',a,K=>match a' with
  | .any=>K a
  | .ref i=>cr ρ i λi=>K (.ref i)
  | .ptr i o=>cr ρ i λi=>K (.ptr i o)
  | .aptr i s j o=>cr ρ i λi=>K (.aptr i s j o)
  | .mpr i=>cr ρ i λi=>K (.mpr i)
  | .np i=>cr ρ i λi=>K (.np i)
  | .iref i j=>cr ρ i λi=>K (.iref i j)
  | .agg cs=>(match k with
   |0=>False
   |k+1=>(match a with
    | .agg ds=>mpC (mpA ρ k) cs ds λcs=>K (.agg cs)
    |_=>False))
  | .tup cs=>(match k with
   |0=>False
   |k+1=>(match a with
    | .tup ds=>mpC (mpA ρ k) cs ds λcs=>K (.tup cs)
    |_=>False))
  | .func f cs=>(match k with
   |0=>False
   |k+1=>(match a with
    | .func _ ds=>mpC (mpA ρ k) cs ds λcs=>K (.func f cs)
    |_=>False))
  | .bnd f cs=>(match k with
   |0=>False
   |k+1=>(match a with
    | .bnd _ ds=>mpC (mpA ρ k) cs ds λcs=>K (.bnd f cs)
    |_=>False))
  |a'=>fA a' K
theorem kZ (ih:∀{a' a:AV} {K:AV->Prop},mpA ρ k a' a K->∃b,K b/\(gA k a'->b=a->Ren ρ a' a)):∀{es' es:U AV} {K:U AV->Prop},mpC (mpA ρ k) es' es K ->
  ∃bs,K bs/\((∀a,a∈es'->gA k a)->bs=es->cK ρ es' es)
 |[],es,K,h=>⟨[],h,λ_ e=>by subst e;trivial⟩
 |a'::es',[],K,h=>h.elim
 |a'::es',a::es,K,h=>by
  obtain⟨b,h1,h2⟩:=ih h;obtain⟨bs,h3,h4⟩:=kZ ih h1;refine⟨b::bs,h3,λhg e=>?_⟩;injection e with e1 e2
  exact⟨h2 (hg _ (.head _)) e1,h4 (λx hx=>hg x (.tail _ hx)) e2⟩
theorem oc:∀{k:Nat} {a' a:AV} {K:AV->Prop},mpA ρ k a' a K->∃b,K b/\(gA k a'->b=a->Ren ρ a' a):=by
 intro k;induction k with
 |zero=>
  intro a' a K h;cases a' with
  |any=>exact⟨a,h,λ_ _=>cz⟩
  |ref i=>obtain⟨j,h1,h2⟩:=bV h;grind[bX]
  |ptr i o=>obtain⟨j,h1,h2⟩:=bV h;grind[am]
  |aptr i s j o=>obtain⟨j,h1,h2⟩:=bV h;grind[Fp]
  |mpr i=>obtain⟨j,h1,h2⟩:=bV h;grind[Ga]
  |np i=>obtain⟨j,h1,h2⟩:=bV h;grind[rn_np]
  |iref i j=>obtain⟨j,h1,h2⟩:=bV h;grind[CT]
  |agg cs=>exact h.elim
  |tup cs=>exact h.elim
  |func f cs=>exact h.elim
  |bnd f cs=>exact h.elim
  |int q x=>exact⟨_,h,λ_ e=>by grind[dR,aL]⟩
  |bool b=>exact⟨_,h,λ_ e=>by grind[dR,kE]⟩
  |str s=>exact⟨_,h,λ_ e=>by grind[dR,bc]⟩
  |nils=>exact⟨_,h,λ_ e=>by grind[dR,bT]⟩
  |nilf=>exact⟨_,h,λ_ e=>by grind[dR,se]⟩
  |nilp=>exact⟨_,h,λ_ e=>by grind[dR,uX]⟩
  |nili=>exact⟨_,h,λ_ e=>by grind[dR,u5]⟩
  |sl rows=>exact⟨_,h,λg e=>by grind[dR,gA]⟩
  |elt row off=>exact⟨_,h,λg e=>by grind[dR,gA]⟩
  |cst v=>exact⟨_,h,λg e=>by grind[gA]⟩
  |vw a1 a2 a3 a4 a5=>exact⟨_,h,λg e=>by grind[gA]⟩
  |ref2 i=>exact⟨_,h,λg e=>by grind[gA]⟩
  |aptr2 i j=>exact⟨_,h,λg e=>by grind[gA]⟩
  |ifc t a1=>exact⟨_,h,λg e=>by grind[gA]⟩
 | succ k ih=>
  intro a' a K h;cases a' with
  |any=>exact⟨a,h,λ_ _=>cz⟩
  |ref i=>obtain⟨j,h1,h2⟩:=bV h;grind[bX]
  |ptr i o=>obtain⟨j,h1,h2⟩:=bV h;grind[am]
  |aptr i s j o=>obtain⟨j,h1,h2⟩:=bV h;grind[Fp]
  |mpr i=>obtain⟨j,h1,h2⟩:=bV h;grind[Ga]
  |np i=>obtain⟨j,h1,h2⟩:=bV h;grind[rn_np]
  |iref i j=>obtain⟨j,h1,h2⟩:=bV h;grind[CT]
  | agg cs=>
   cases a with
   |agg ds=>
    obtain⟨bs,h1,h2⟩:=kZ (ρ:=ρ) ih h;grind[Pr,gA]
   |_=>exact h.elim
  | tup cs=>
   cases a with
   |tup ds=>
    obtain⟨bs,h1,h2⟩:=kZ (ρ:=ρ) ih h;grind[P2,gA]
   |_=>exact h.elim
  | func f cs=>
   cases a with
   |func f' ds=>
    obtain⟨bs,h1,h2⟩:=kZ (ρ:=ρ) ih h;grind[eT,gA]
   |_=>exact h.elim
  | bnd f cs=>
   cases a with
   |bnd f' ds=>
    obtain⟨bs,h1,h2⟩:=kZ (ρ:=ρ) ih h;grind[nT,gA]
   |_=>exact h.elim
  |int q x=>exact⟨_,h,λ_ e=>by grind[dR,aL]⟩
  |bool b=>exact⟨_,h,λ_ e=>by grind[dR,kE]⟩
  |str s=>exact⟨_,h,λ_ e=>by grind[dR,bc]⟩
  |nils=>exact⟨_,h,λ_ e=>by grind[dR,bT]⟩
  |nilf=>exact⟨_,h,λ_ e=>by grind[dR,se]⟩
  |nilp=>exact⟨_,h,λ_ e=>by grind[dR,uX]⟩
  |nili=>exact⟨_,h,λ_ e=>by grind[dR,u5]⟩
  |sl rows=>exact⟨_,h,λg e=>by grind[dR,gA]⟩
  |elt row off=>exact⟨_,h,λg e=>by grind[dR,gA]⟩
  |cst v=>exact⟨_,h,λg e=>by grind[gA]⟩
  |vw a1 a2 a3 a4 a5=>exact⟨_,h,λg e=>by grind[gA]⟩
  |ref2 i=>exact⟨_,h,λg e=>by grind[gA]⟩
  |aptr2 i j=>exact⟨_,h,λg e=>by grind[gA]⟩
  |ifc t a1=>exact⟨_,h,λg e=>by grind[gA]⟩
def gO:Ob->Prop
 | .dead=>True
 | .box cs=>∀c,c∈cs->gA 3 c
 | .arr _ _ rows=>∀row,row∈rows->∀x,x∈row->Pure x
 | .mp ks vs=>∀c,c∈ks++vs->Pure c
 | .hd _ _=>True
 | .cl _ _ cells=>∀rows,(Cell.own rows∈cells∨Cell.fz rows∈cells)->∀row,row∈rows->∀x,x∈row->Pure x
 | .boxB _ cs=>∀c,c∈cs->gA 3 c
 |_=>False
class PureK {α:Type} (k:α->AV):Prop where
 out:∀a,Pure (k a)
instance:PureK kI:=⟨λ_=>aL _ _⟩
instance:PureK kS:=⟨λ_=>bc _⟩
instance:PureK kB:=⟨λ_=>kE _⟩
instance:PureK kU:=⟨λ_=>Dw _ (dC (ls:=[]) trivial)⟩
class GoodO (o:Ob):Prop where
 out:gO o
class GoodOs (os:List Ob):Prop where
 out:∀o,o∈os->gO o
instance:GoodO .dead:=⟨trivial⟩
instance {cs:List AV} [h:GoodAs 3 cs]:GoodO (.box cs):=⟨h.out⟩
instance {α:Type} {en:α->List AV} {xs:List α} {e s:Nat} [h:EnP en]:GoodO (.arr e s (xs.map en)):=⟨λrow hr x hx=>by obtain⟨a,_,rfl⟩:=R3.1 hr;exact h.out a x hx⟩
instance {e s:Nat}:GoodO (.arr e s []):=⟨λrow hr=>by cases hr⟩
instance {e k:Nat}:GoodO (.hd e k):=⟨trivial⟩
instance {t:TypeId} {cs:List AV} [h:GoodAs 3 cs]:GoodO (.boxB t cs):=⟨h.out⟩
instance {α β:Type} {k:α->AV} {k':β->AV} {xs:List α} {ys:List β} [h:PureK k] [h':PureK k']:GoodO (.mp (xs.map k) (ys.map k')):=⟨λc hc=>by
 rcases RY.1 hc with hc|hc<;>obtain⟨a,_,rfl⟩:=R3.1 hc
 .exact h.out a
 .exact h'.out a⟩
instance:GoodOs []:=⟨λo h=>by cases h⟩
instance {o:Ob} {os:List Ob} [h:GoodO o] [t:GoodOs os]:GoodOs (o::os):=⟨λb hb=>by
 cases hb with
 |head=>exact h.out
 |tail _ hb=>exact t.out b hb⟩
instance {zs bs:List Ob} [h:GoodOs zs] [t:GoodOs bs]:GoodOs (zs++bs):=⟨λo ho=>(RY.1 ho).elim (h.out o) (t.out o)⟩
instance {zs:List Ob} {i:Nat} {o:Ob} [h:GoodOs zs] [t:GoodO o]:GoodOs (zs.set i o):=⟨λb hb=>(SK hb).elim (h.out b) (λe=>by rw[e];exact t.out)⟩
def mpO(ρ:List Nat)(o' o:Ob)(K:Ob->Prop):Prop:=
 match o' with
 | .dead=>K o
 | .box cs=>(match o with
  | .box ds=>mpC (mpA ρ 3) cs ds λcs=>K (.box cs)
  |_=>False)
 | .hd e k=>cr ρ k λk=>K (.hd e k)
 | .arr e s rows=>K (.arr e s rows)
 | .mp ks vs=>K (.mp ks vs)
 | .cl e s cells=>K (.cl e s cells)
 | .boxB t cs=>(match o with
  | .boxB _ ds=>mpC (mpA ρ 3) cs ds λcs=>K (.boxB t cs)
  |_=>False)
 |_=>False
def mpOs(ρ:List Nat)(aw:List Ob):List Nat->List Ob->(List Ob->List Ob->Prop)->Prop
 |[],[],K=>K [] []
 |id::ids,o'::os',K=>cr aw id λo=>mpO ρ o' o λb=>mpOs ρ aw ids os' λbs os=>K (b::bs) (o::os)
 |_,_,_=>False
theorem Pm {o' o:Ob}{K:Ob->Prop}(h:mpO ρ o' o K):∃b,K b/\(gO o'->b=o->RenO ρ o' o):=by
 cases o' with
 |dead=>exact⟨o,h,λ_ _=>trivial⟩
 | box cs=>
  cases o with
  |box ds=>
   obtain⟨bs,h1,h2⟩:=kZ (ρ:=ρ) oc h;exact⟨_,h1,λg e=>by injection e with e;exact h2 g e⟩
  |_=>exact h.elim
 |hd e k=>
  obtain⟨j,h1,h2⟩:=bV h;exact⟨_,h2,λ_ e=>by subst e;exact⟨J,h1⟩⟩
 |arr e s rows=>exact⟨_,h,λg e=>by subst e;exact⟨J,J,J,λrow hr x hx=>kL (g row hr x hx)⟩⟩
 |mp ks vs=>exact⟨_,h,λg e=>by subst e;exact⟨vn λc hc=>g c (List.mem_append_left _ hc),vn λc hc=>g c (List.mem_append_right _ hc)⟩⟩
 |cl e s cells=>exact⟨_,h,λg e=>by subst e;exact⟨J,J,J,g⟩⟩
 |arrU e s rows x=>exact h.elim
 | boxB t cs=>
  cases o with
  |boxB t' ds=>
   obtain⟨bs,h1,h2⟩:=kZ (ρ:=ρ) oc h;exact⟨_,h1,λg e=>by injection e with e0 e;exact⟨e0,h2 g e⟩⟩
  |_=>exact h.elim
theorem nP:∀{ids:U Nat} {os':U Ob} {K:U Ob->U Ob->Prop},mpOs ρ aw ids os' K->∃bs os,K bs os/\((∀o,o∈os'->gO o)->bs=os->b7 ρ aw ids os')
 |[],[],K,h=>⟨[],[],h,λ_ _=>trivial⟩
 |id::ids,o'::os',K,h=>by
  obtain⟨o,h1,h⟩:=bV h;obtain⟨b,h2,h3⟩:=Pm h;obtain⟨bs,os,h4,h5⟩:=nP h2;refine⟨b::bs,o::os,h4,λhg e=>?_⟩;injection e with e1 e2
  exact⟨⟨o,h1,h3 (hg _ (.head _)) e1⟩,h5 (λx hx=>hg x (.tail _ hx)) e2⟩
 |[],_::_,K,h=>h.elim
 |_::_,[],K,h=>h.elim
def mpF(ρ:List Nat):List (Nat×AV)->List (Nat×AV)->(List AV->List AV->Prop)->Prop
 |[],_,K=>K [] []
 |(s,v)::r,l,K=>fA (lkA l s) λa=>mpA ρ 3 v a λb=>mpF ρ r l λbs es=>K (b::bs) (a::es)
class GoodF (l:List (Nat×AV)):Prop where
 out:∀s v,(s,v)∈l->gA 3 v
instance:GoodF []:=⟨λs v h=>by cases h⟩
instance {s:Nat} {v:AV} {r:List (Nat×AV)} [h:GoodA 3 v] [t:GoodF r]:GoodF ((s,v)::r):=⟨λs' v' hb=>by
 cases hb with
 |head=>exact h.out
 |tail _ hb=>exact t.out s' v' hb⟩
theorem y8:∀{l' l:U (Nat×AV)} {K:U AV->U AV->Prop},mpF ρ l' l K->∃bs es,K bs es/\((∀s v,(s,v)∈l'->gA 3 v)->bs=es->RenA ρ l' l)
 |[],l,K,h=>⟨[],[],h,λ_ _=>trivial⟩
 |(s,v)::r,l,K,h=>by
  have h:=gl (a:=lkA l s) (K:=λa=>mpA ρ 3 v a λb=>mpF ρ r l λbs es=>K (b::bs) (a::es)) h;obtain⟨b,h1,h2⟩:=oc h;obtain⟨bs,es,h3,h4⟩:=y8 h1;refine⟨b::bs,lkA l s::es,h3,λhg e=>?_⟩;injection e with e1 e2
  exact⟨h2 (hg _ _ (.head _)) e1,h4 (λs v hv=>hg s v (.tail _ hv)) e2⟩
def nilC:List (Nat×TypeId×Nat)->List (Nat×AV)->List Ob->Nat->(List (Nat×AV)->List Ob->Prop)->Prop
 |[],l,aw,_,K=>K l aw
 |(s,e,z)::r,l,aw,c,K=>(match lkA l s with
  | .nils=>pushC aw (.arr e z []) λaw=>nilC r ((s,.ref c)::l) aw (c+1) K
  |_=>False)
theorem Ft:∀{nl:U (Nat×TypeId×Nat)} {l:U (Nat×AV)} {aw:U Ob} {c:Nat} {K:U (Nat×AV)->U Ob->Prop},aw.length=c->(nl.all λp=>Nat.blt p.1 n)=true->nilC nl l aw c K->K (nilA n nl l aw).1 (nilA n nl l aw).2
 |[],l,aw,c,K,_,_,h=>h
 |(s,e,z)::r,l,aw,c,K,hc,hn,h=>by
  subst hc;unfold nilC at h;rw[Tz,SR]at hn;split at h
  .rename_i hv;have h:=Ft (nl:=r) (by simp) hn.2 (nH h);grind[nilA]
  grind
theorem wk (nl:U (Nat×TypeId×Nat))(ρ:U Nat)(c:Nat){l':U (Nat×AV)}(h:nilC nl l aw c λl aw=>mpF ρ l' l λbs es=>mpOs ρ aw ρ aw' λbs' es'=>(bs,bs')=(es,es'))[g:GoodF l'][g':GoodOs aw'](hc:aw.length=c:=by rfl)(hn:(nl.all λp=>Nat.blt p.1 n)=true:=by rfl)(h1:ρ.Nodup:=by decide)(h2:∀k,k<N->ρ[k]?=some k:=by decide):Weak N (mkA n l) aw (mkA n l') aw':=by
 have h:=Ft hc hn h
 obtain⟨bs,es,h,h3⟩:=y8 h
 obtain⟨bs',es',h,h4⟩:=nP h
 injection h with e1 e2
 exact TS nl ρ h1 h2 J (h3 g.out e1) (h4 g'.out e2)
def nilVC:List (Nat×TypeId×Nat)->List AV->List Ob->Nat->(List AV->List Ob->Prop)->Prop
 |[],vs,aw,_,K=>K vs aw
 |(s,e,z)::r,vs,aw,c,K=>cr vs s λv=>(match v with
  | .nils=>setC vs s (.ref c) λvs=>pushC aw (.arr e z []) λaw=>nilVC r vs aw (c+1) K
  |_=>False)
theorem D5:∀{nl:U (Nat×TypeId×Nat)} {vs:U AV} {aw:U Ob} {c:Nat} {K:U AV->U Ob->Prop},aw.length=c->nilVC nl vs aw c K->K (nilify nl vs aw).1 (nilify nl vs aw).2
 |[],vs,aw,c,K,_,h=>h
 |(s,e,z)::r,vs,aw,c,K,hc,h=>by
  subst hc;obtain⟨v,h1,h⟩:=bV h;split at h
  .have h:=D5 (nl:=r) (by simp) (nH (jK h));grind[nilify]
  grind
section
variable {Q:Exit→List AV→List Ob→Prop} {rs:List ResultVar} {V:AV} {obs:List Ob} {M:Nat}
theorem rO_c(ht:tt.Ok P)(nl:U (Nat×TypeId×Nat))(ρ:U Nat)(c:Nat)
  (h:resC tt n l aw rs λvs=>nilVC nl vs aw c λvs aw=>fA (dT vs) λa=>mpA ρ 3 V a λb=>mpOs ρ aw ρ obs λbs es=>(b,bs)=(a,es))
  [g:GoodA 3 V] [g':GoodOs obs] (hc:aw.length=c) (h1:ρ.Nodup) (h2:∀k,k<M->ρ[k]?=some k):cq P (mkA n l) aw rs (Ret M (λr aw'=>r=V/\aw'=obs) aw):=by
 refine qd ht (λvs hv=>?_) h
 have h:=D5 hc hv
 have h:=gl (K:=λa=>mpA ρ 3 V a λb=>mpOs ρ (nilify nl vs aw).2 ρ obs λbs es=>(b,bs)=(a,es)) h
 obtain⟨b,h,h3⟩:=oc h
 obtain⟨bs,es,h,h4⟩:=nP h
 injection h with e1 e2
 exact eC V nl ρ h1 h2 J (h3 g.out e1) (h4 g'.out e2) ⟨J,J⟩
theorem V9(ht:tt.Ok P)(nl:U (Nat×TypeId×Nat))(ρ:U Nat)(c:Nat)
  (h:resC tt n l aw rs λvs=>nilVC nl vs aw c λvs aw=>fA (dT vs) λa=>mpA ρ 3 V a λb=>mpOs ρ aw ρ obs λbs es=>(b,bs)=(a,es))
  [hq:RetI Q (λfr aw=>cq P fr aw rs (Ret M (λr aw'=>r=V/\aw'=obs) aw))] [g:GoodA 3 V] [g':GoodOs obs] (hc:aw.length=c:=by rfl) (h1:ρ.Nodup:=by decide) (h2:∀k,k<M->ρ[k]?=some k:=by decide):T P N .ret Q (mkA n l) aw:=
 VL (R:=λfr aw=>cq P fr aw rs (Ret M (λr aw'=>r=V/\aw'=obs) aw)) (rO_c ht nl ρ c h hc h1 h2)
theorem rN_c(ht:tt.Ok P)(ρ:U Nat)(h:resC tt n l aw rs λvs=>nrmRC aw (dT vs) λa aw=>mpA ρ 3 V a λb=>mpOs ρ aw ρ obs λbs es=>(b,bs)=(a,es))
  [g:GoodA 3 V] [g':GoodOs obs] (h1:ρ.Nodup) (h2:∀k,k<M->ρ[k]?=some k):cq P (mkA n l) aw rs (Ret M (λr aw'=>r=V/\aw'=obs) aw):=by
 refine qd ht (λvs hv=>?_) h
 have h:=xU hv
 obtain⟨b,h,h3⟩:=oc h
 obtain⟨bs,es,h,h4⟩:=nP h
 injection h with e1 e2
 exact Ms V ρ J h1 h2 (h3 g.out e1) (h4 g'.out e2) ⟨J,J⟩
theorem Wa(ht:tt.Ok P)(ρ:U Nat)(h:resC tt n l aw rs λvs=>nrmRC aw (dT vs) λa aw=>mpA ρ 3 V a λb=>mpOs ρ aw ρ obs λbs es=>(b,bs)=(a,es))
  [hq:RetI Q (λfr aw=>cq P fr aw rs (Ret M (λr aw'=>r=V/\aw'=obs) aw))] [g:GoodA 3 V] [g':GoodOs obs] (h1:ρ.Nodup:=by decide) (h2:∀k,k<M->ρ[k]?=some k:=by decide):T P N .ret Q (mkA n l) aw:=
 VL (R:=λfr aw=>cq P fr aw rs (Ret M (λr aw'=>r=V/\aw'=obs) aw)) (rN_c ht ρ h h1 h2)
end
def stD(l:List (Nat×AV))(d:Option Tmp)(r:AV)(K:List (Nat×AV)->Prop):Prop:=
 match d with
 |some t=>K ((t,r)::l)
 |none=>K l
theorem fR{d:QbQ Tmp}{r:AV}{K:U (Nat×AV)->Prop}(h:stD l d r K):K (putA l d r):=by cases d<;>exact h
section
variable {ops:Array Oper} {os:List Oper} {K:List AV→List Ob→Prop} {k:Nat} {li li':Array Bool} {o:Oper} {fr fr':List AV}
variable {j t i:Nat}{want b:Bool}{c:Code}{Q:Exit->U AV->U Ob->Prop}{l':U (Nat×AV)}
theorem yg' (ht:tt.Ok P)(c:Nat)(hbw:b=want)(h:wE tt n l aw c o.op λr aw _=>stD l o.dst r λl=>RS P N ops os K (mkA n l) aw)(hg:o.guard=some (j,want))(hj:(ops[j]?).bind (·.dst)=some t)(hb:evA n l (.tmp t)=.bool b)(hc:aw.length=c):RS P N ops (o::os) K (mkA n l) aw:=
 RS.yes hg hj hb hbw ((wE_ok ht hc h).mono λr aw' h=>fR (K:=λl=>RS P N ops os K (mkA n l) aw') h)
theorem oy' (ht:tt.Ok P)(c:Nat)(hbw:b=want)(hi:ops[i]?=some o)(h:wE tt n l aw c o.op λr aw _=>stD l o.dst r λl=>K (mkA n l) aw)(hg:o.guard=some (j,want))(hj:(ops[j]?).bind (·.dst)=some t)(hb:evA n l (.tmp t)=.bool b)(hc:aw.length=c):RO P N ops i K (mkA n l) aw:=
 RO.yes hi hg hj hb hbw ((wE_ok ht hc h).mono λr aw' h=>fR (K:=λl=>K (mkA n l) aw') h)
theorem ry' (ht:tt.Ok P)(i:Nat)(hbw:b=want)(hi:ops[i]?=some o)(h:wV tt n l aw o.op λr=>stD l o.dst r λl=>RA P N ops k (li.setIfInBounds i true) K (mkA n l) aw)(hs:Region.noSelect ops=true)(hf:Region.free .any ops li i=true)(hr:(Region.ready .any ops li).contains i=true)(hg:o.guard=some (j,want))(hj:(ops[j]?).bind (·.dst)=some t)(hb:evA n l (.tmp t)=.bool b)(hn:nR o.op=true):RA P N ops (k+1) li K (mkA n l) aw:=
 ⟨λst e1 e2 σ w F a hc R hR=>by obtain⟨v,r,hrun,hrel,hk⟩:=sJ hc hn (wV_ok ht h);refine wpAny_take hi hs hf hr (λc a w hp=>hp) (.inl ⟨by grind[Region.wanted,po],hrun⟩) (RA.out (fR (K:=λl=>RA P N ops k (li.setIfInBounds i true) K (mkA n l) aw) hk) st e1 e2 σ w F _ ?_ R hR);have:=fI hc hrel o.dst;grind[eR]⟩
open RK in
theorem rL' (ht:tt.Ok P) (D:List Nat) (i:Nat) (hi:ops[i]?=some o) (h:wV tt n l aw o.op λr=>stD l o.dst r λl=>RA P N ops k (li.setIfInBounds i true) K (mkA n l) aw)
  (hs:Region.noSelect ops=true) (hf:loadFree ops li D i=true) (hr:(Region.ready .any ops li).contains i=true) (hg:o.guard=none):RA P N ops (k+1) li K (mkA n l) aw:=
 ⟨λst e1 e2 σ w F a hc R hR=>by obtain⟨v,r,hrun,hrel,hk⟩:=B2 hc (wV_ok ht h);refine Aw D hi hs hf hr (λc a w hp=>hp) (.inl ⟨by grind[Region.wanted],hrun⟩) (RA.out (fR (K:=λl=>RA P N ops k (li.setIfInBounds i true) K (mkA n l) aw) hk) st e1 e2 σ w F _ ?_ R hR);have:=fI hc hrel o.dst;grind[eR]⟩
theorem sO (h:OP P N o (mkA n l) aw λr aw=>stD l o.dst r λl=>RS P N ops os K (mkA n l) aw)(hg:o.guard=none:=by rfl):RS P N ops (o::os) K (mkA n l) aw:=
 RS.op hg (h.mono λr aw' h=>fR (K:=λl=>RS P N ops os K (mkA n l) aw') h)
theorem sQ (h:vcQ P (mkA n l) aw o.op λr=>stD l o.dst r λl=>RS P N ops os K (mkA n l) aw)(hg:o.guard=none:=by rfl)(hq:nQ o.op=true:=by rfl):RS P N ops (o::os) K (mkA n l) aw:=
 sO (TV (K2:=λr aw=>stD l o.dst r λl=>RS P N ops os K (mkA n l) aw) hq h) hg
theorem yO (hbw:b=want)(h:OP P N o (mkA n l) aw λr aw=>stD l o.dst r λl=>RS P N ops os K (mkA n l) aw)(hg:o.guard=some (j,want):=by rfl)(hj:(ops[j]?).bind (·.dst)=some t:=by rfl)(hb:evA n l (.tmp t)=.bool b:=by rfl):
 RS P N ops (o::os) K (mkA n l) aw:=RS.yes hg hj hb hbw (h.mono λr aw' h=>fR (K:=λl=>RS P N ops os K (mkA n l) aw') h)
theorem yQ (hbw:b=want)(h:vcQ P (mkA n l) aw o.op λr=>stD l o.dst r λl=>RS P N ops os K (mkA n l) aw)(hg:o.guard=some (j,want):=by rfl)(hj:(ops[j]?).bind (·.dst)=some t:=by rfl)(hb:evA n l (.tmp t)=.bool b:=by rfl)(hq:nQ o.op=true:=by rfl):
 RS P N ops (o::os) K (mkA n l) aw:=yO hbw (TV (K2:=λr aw=>stD l o.dst r λl=>RS P N ops os K (mkA n l) aw) hq h) hg hj hb
theorem sN (hbw:b=!want)(h:stD l o.dst (.tup []) λl=>RS P N ops os K (mkA n l) aw)(hg:o.guard=some (j,want):=by rfl)(hj:(ops[j]?).bind (·.dst)=some t:=by rfl)(hb:evA n l (.tmp t)=.bool b:=by rfl):
 RS P N ops (o::os) K (mkA n l) aw:=RS.no hg hj hb hbw (fR (K:=λl=>RS P N ops os K (mkA n l) aw) h)
theorem oO (hi:ops[i]?=some o)(h:OP P N o (mkA n l) aw λr aw=>stD l o.dst r λl=>K (mkA n l) aw)(hg:o.guard=none:=by rfl):RO P N ops i K (mkA n l) aw:=
 RO.op hi hg (h.mono λr aw' h=>fR (K:=λl=>K (mkA n l) aw') h)
theorem oP (hi:ops[i]?=some o)(hbw:b=want)(h:OP P N o (mkA n l) aw λr aw=>stD l o.dst r λl=>K (mkA n l) aw)(hg:o.guard=some (j,want):=by rfl)(hj:(ops[j]?).bind (·.dst)=some t:=by rfl)(hb:evA n l (.tmp t)=.bool b:=by rfl):RO P N ops i K (mkA n l) aw:=
 RO.yes hi hg hj hb hbw (h.mono λr aw' h=>fR (K:=λl=>K (mkA n l) aw') h)
theorem r0 (i:Nat)(hi:ops[i]?=some o)(h:vcQ P (mkA n l) aw o.op λr=>stD l o.dst r λl=>RA P N ops k (li.setIfInBounds i true) K (mkA n l) aw)(hs:Region.noSelect ops=true:=by decide+kernel)(hf:Region.free .any ops li i=true:=by decide+kernel)(hr:(Region.ready .any ops li).contains i=true:=by decide+kernel)(hg:o.guard=none:=by rfl)(hn:nR o.op=true:=by rfl):RA P N ops (k+1) li K (mkA n l) aw:=
 ⟨λst e1 e2 σ w F a hc R hR=>by obtain⟨v,r,hrun,hrel,hk⟩:=sJ hc hn h;refine wpAny_take hi hs hf hr (λc a w hp=>hp) (.inl ⟨by grind[Region.wanted],hrun⟩) (RA.out (fR (K:=λl=>RA P N ops k (li.setIfInBounds i true) K (mkA n l) aw) hk) st e1 e2 σ w F _ ?_ R hR);have:=fI hc hrel o.dst;grind[eR]⟩
theorem r1 (i:Nat)(hi:ops[i]?=some o)(hbw:b=want)(h:vcQ P (mkA n l) aw o.op λr=>stD l o.dst r λl=>RA P N ops k (li.setIfInBounds i true) K (mkA n l) aw)(hs:Region.noSelect ops=true:=by decide+kernel)(hf:Region.free .any ops li i=true:=by decide+kernel)(hr:(Region.ready .any ops li).contains i=true:=by decide+kernel)(hg:o.guard=some (j,want):=by rfl)(hj:(ops[j]?).bind (·.dst)=some t:=by rfl)(hb:evA n l (.tmp t)=.bool b:=by rfl)(hn:nR o.op=true:=by rfl):RA P N ops (k+1) li K (mkA n l) aw:=
 ⟨λst e1 e2 σ w F a hc R hR=>by obtain⟨v,r,hrun,hrel,hk⟩:=sJ hc hn h;refine wpAny_take hi hs hf hr (λc a w hp=>hp) (.inl ⟨by grind[Region.wanted,po],hrun⟩) (RA.out (fR (K:=λl=>RA P N ops k (li.setIfInBounds i true) K (mkA n l) aw) hk) st e1 e2 σ w F _ ?_ R hR);have:=fI hc hrel o.dst;grind[eR]⟩
theorem r2 (i:Nat)(hi:ops[i]?=some o)(hbw:b=!want)(h:stD l o.dst (.tup []) λl=>RA P N ops k (li.setIfInBounds i true) K (mkA n l) aw)(hs:Region.noSelect ops=true:=by decide+kernel)(hf:Region.free .any ops li i=true:=by decide+kernel)(hr:(Region.ready .any ops li).contains i=true:=by decide+kernel)(hg:o.guard=some (j,want):=by rfl)(hj:(ops[j]?).bind (·.dst)=some t:=by rfl)(hb:evA n l (.tmp t)=.bool b:=by rfl):RA P N ops (k+1) li K (mkA n l) aw:=
 VZ hi hs hf hr J hg hj hb hbw (fR (K:=λl=>RA P N ops k (li.setIfInBounds i true) K (mkA n l) aw) h)
theorem r3 (i:Nat)(hi:ops[i]?=some o)(h:stD l o.dst (.tup []) λl=>RA P N ops k (li.setIfInBounds i true) K (mkA n l) aw)(hs:Region.noSelect ops=true:=by decide+kernel)(hf:Region.free .any ops li i=true:=by decide+kernel)(hr:(Region.ready .any ops li).contains i=true:=by decide+kernel)(hg:o.guard=some (j,want):=by rfl)(hj:(ops[j]?).bind (·.dst)=some t:=by rfl)(hb:evA n l (.tmp t)=.tup []:=by rfl):RA P N ops (k+1) li K (mkA n l) aw:=
 VY hi hs hf hr J hg hj hb (fR (K:=λl=>RA P N ops k (li.setIfInBounds i true) K (mkA n l) aw) h)
def nfL(f:AV->(AV->Prop)->Prop):List AV->(List AV->Prop)->Prop
 |[],K=>K []
 |a::es,K=>f a λa=>nfL f es λes=>K (a::es)
def nfA:Nat->AV->(AV->Prop)->Prop
 |0,a,K=>fA a K
 |k+1,a,K=>(match a with
  | .agg cs=>nfL (nfA k) cs λcs=>K (.agg cs)
  | .tup cs=>nfL (nfA k) cs λcs=>K (.tup cs)
  | .func f cs=>nfL (nfA k) cs λcs=>K (.func f cs)
  | .bnd f cs=>nfL (nfA k) cs λcs=>K (.bnd f cs)
  |a=>fA a K)
theorem qg {f:AV->(AV->Prop)->Prop}(hf:∀{a:AV} {K:AV->Prop},f a K->K a):∀{es:U AV} {K:U AV->Prop},nfL f es K->K es
 |[],K,h=>h
 |a::es,K,h=>qg hf (es:=es) (K:=λes=>K (a::es)) (hf h)
theorem F9:∀{k:Nat} {a:AV} {K:AV->Prop},nfA k a K->K a:=by
 intro k;induction k with
 |zero=>exact λh=>gl h
 |succ k ih=>
  intro a K h;cases a<;>first|exact gl h|exact qg ih (K:=λcs=>K (.agg cs)) h|exact qg ih (K:=λcs=>K (.tup cs)) h|exact qg ih (K:=λcs=>K (.func _ cs)) h|exact qg ih (K:=λcs=>K (.bnd _ cs)) h
def nfF(g:AV->AV):List (Nat×AV)->(List (Nat×AV)->Prop)->Prop
 |[],K=>K []
 |(s,v)::r,K=>nfA 2 (g v) λv=>nfF g r λr=>K ((s,v)::r)
theorem Gc {g:AV->AV}:∀{l:U (Nat×AV)} {K:U (Nat×AV)->Prop},nfF g l K->K (l.map λp=>(p.1,g p.2))
 |[],K,h=>h
 |(s,v)::r,K,h=>Gc (l:=r) (K:=λr=>K ((s,g v)::r)) (F9 (K:=λv=>nfF g r λr=>K ((s,v)::r)) h)
def nfO(g:AV->AV):List Ob->(List Ob->Prop)->Prop
 |[],K=>K []
 |o::os,K=>(match o with
  | .box cs=>nfL (nfA 1) (cs.map g) λcs=>nfO g os λos=>K (.box cs::os)
  |o=>nfO g os λos=>K (o::os))
theorem yZ {id:Nat}{rows:U (U AV)}:∀{os:U Ob} {K:U Ob->Prop},nfO (fz2 id rows) os K->K (os.map (fzOb id rows))
 |[],K,h=>h
 |o::os,K,h=>by
  cases o with
  |box cs=>exact yZ (os:=os) (K:=λos=>K (.box (cs.map (fz2 id rows))::os)) (qg F9 (K:=λcs=>nfO (fz2 id rows) os λos=>K (.box cs::os)) h)
  |_=>exact yZ (os:=os) (K:=λos=>K (_::os)) h
def fzC(aw:List Ob)(l:List (Nat×AV))(id:Nat)(K:List (Nat×AV)->List Ob->Prop):Prop:=
 cr aw id λo=>(match o with
  | .arr _ _ rows=>nfF (fzV id rows) l λl=>setC aw id .dead λaw=>nfO (fz2 id rows) aw λaw=>K l aw
  |_=>False)
theorem yS {id:Nat}{K:U (Nat×AV)->U Ob->Prop}(h:fzC aw l id K):∃e s rows,aw[id]?=some (.arr e s rows)/\K (fzA id rows l) ((aw.set id .dead).map (fzOb id rows)):=by
 obtain⟨o,h1,h⟩:=bV h;split at h
 .exact⟨_,_,_,h1,yZ (jK (Gc h))⟩
 grind
theorem T.fC (id:Nat)(h:fzC aw l id λl aw=>T P N c Q (mkA n l) aw):T P N c Q (mkA n l) aw:=by grind[yS,T.fz]
theorem RS.fC (id:Nat)(h:fzC aw l id λl aw=>RS P N ops os K (mkA n l) aw):RS P N ops os K (mkA n l) aw:=by grind[yS,RS.fz]
theorem RO.fC (id:Nat)(h:fzC aw l id λl aw=>RO P N ops i K (mkA n l) aw):RO P N ops i K (mkA n l) aw:=by grind[yS,RO.fz]
theorem TG (k':Nat)(li':Array Bool){fr':U AV}{aw':U Ob}(h2:RA P N ops k' li' K fr' aw'->RA P N ops k li K fr aw)(h:RA P N ops k' li' K fr' aw'):RA P N ops k li K fr aw:=h2 h
theorem raE (h:RA P N ops k li' K fr aw)(hl:li=li':=by decide+kernel):RA P N ops k li K fr aw:=by grind
theorem OS (h:l'.map (λp=>lkA l p.1)=l'.map (λp=>lkA l' p.1))(t:Nat):lkA l' t=.any∨lkA l' t=lkA l t:=by
 have key:∀(q:U (Nat×AV)),q.map (λp=>lkA l p.1)=q.map (λp=>lkA l' p.1)->lkA q t=.any∨lkA l' t=lkA l t:=by
  intro q;induction q with
  |nil=>intro _;exact .inl J
  |cons p q ih=>
   intro h;simp only[Se,Tj]at h;obtain⟨s,v⟩:=p;rw[kH];grind
 grind
theorem DN {st:St}{σ:U Value}{w:World}{F:Nat->Prop}{a:Act}(h:l'.map (λp=>lkA l p.1)=l'.map (λp=>lkA l' p.1))(hc:Cur st (mkA n l) aw σ w F a):Cur st (mkA n l') aw σ w F a:=by
 refine⟨hc.sim,⟨⟨?_,λj x v hx hv=>?_⟩,hc.fr.2⟩,hc.mv,hc.ds⟩
 .have:=hc.fr.1.1;grind[qa]
 .rw[iC]at hx;split at hx
  .rename_i hj;cases hx;rcases OS h j with e|e
   .rw[e];exact .any _
   .rw[e];exact hc.fr.1.2 j _ v (by rw[iC,if_pos hj]) hv
  .cases hx
def inN:List Nat->Nat->Bool
 |[],_=>false
 |a::l,s=>match Nat.beq a s with
  |true=>true
  |false=>inN l s
def ddA:List Nat->List (Nat×AV)->List (Nat×AV)
 |_,[]=>[]
 |q,(s,v)::r=>match inN q s with
  |true=>ddA q r
  |false=>(s,v)::ddA (s::q) r
theorem dd_lk:∀(l:U (Nat×AV)) (q:U Nat) (t:Nat),inN q t=false->lkA (ddA q l) t=lkA l t
 |[],_,_,_=>rfl
 | (s,v)::r,q,t,h=>by
  unfold ddA;cases hs:inN q s with
  |true=>
   simp only;rw[dd_lk r q t h];grind[Nat.eq_of_beq_eq_true,lkA]
  |false=>
   simp only;rw[lkA,lkA];cases hb:Nat.beq s t with
   |true=>rfl
   |false=>exact dd_lk r (s::q) t (by grind[inN])
theorem yY {x:Nat×AV}:∀{l:U (Nat×AV)} {q:U Nat},x∈ddA q l->x∈l
 |[],_,h=>h
 | (s,v)::r,q,h=>by
  unfold ddA at h;split at h
  .exact .tail _ (yY h)
  .rcases Sa.1 h with rfl|h
   .exact .head _
   .exact .tail _ (yY h)
theorem dd_mk (n:Nat)(l:U (Nat×AV)):mkA n (ddA [] l)=mkA n l:=Si λt _=>dd_lk l [] t J
theorem raT (h:RA P N ops k li' K (mkA n l') aw)(hs:l'.map (λp=>lkA l p.1)=l'.map (λp=>lkA l' p.1):=by rfl)(hl:li=li':=by decide+kernel):RA P N ops k li K (mkA n l) aw:=by subst hl;exact⟨λst h1 h2 σ w F a hc=>h.out st h1 h2 σ w F a (DN hs hc)⟩
theorem raV {aw1:U Ob}(h:RA P N ops k li' K (mkA n l') aw1)(ρ:U Nat)(hw:mpF ρ (ddA [] l') l λbs es=>mpOs ρ aw ρ aw1 λbs' es'=>(bs,bs')=(es,es'))[g:GoodF l'][g':GoodOs aw1](h1:ρ.Nodup:=by decide)(h2:∀k,k<N->ρ[k]?=some k:=by decide)(hl:li=li':=by decide+kernel):RA P N ops k li K (mkA n l) aw:=by
 subst hl
 obtain⟨bs,es,hw,h3⟩:=y8 hw
 obtain⟨bs',es',hw,h4⟩:=nP hw
 injection hw with e1 e2
 rw[<- dd_mk]at h
 exact RA.weakR h (Weak.mk ρ h1 h2 (h3 (λs v hv=>g.out s v (yY hv)) e1) (h4 g'.out e2))
theorem V8 (h:T P N c Q (mkA n l') aw)(hs:l'.map (λp=>lkA l p.1)=l'.map (λp=>lkA l' p.1):=by rfl):T P N c Q (mkA n l) aw:=⟨λst h1 h2 σ w F a hc=>h.out st h1 h2 σ w F a (DN hs hc)⟩
end
section
variable {Q:Exit→List AV→List Ob→Prop} {c1 c2:Code} {x:Operand}
theorem TH{α:Type}{b:Bool}{u v:QbQ α}{r:α}(h:(if b=true then u else v)=some r)(hx:evA n l x=.bool b)(ht:b=true->u=some r->T P N c1 Q (mkA n l) aw)(he:b=false->v=some r->T P N c2 Q (mkA n l) aw):T P N (.cond x c1 c2) Q (mkA n l) aw:=
 T.cond hx (λhb=>ht hb (cb h hb)) (λhb=>he hb (cg h hb))
theorem Wc(hx:evA n l x=.bool true)(h:T P N c1 Q (mkA n l) aw):T P N (.cond x c1 c2) Q (mkA n l) aw:=T.cond hx (λ_=>h) (λhb=>by cases hb)
theorem Wd(hx:evA n l x=.bool false)(h:T P N c2 Q (mkA n l) aw):T P N (.cond x c1 c2) Q (mkA n l) aw:=T.cond hx (λhb=>by cases hb) (λ_=>h)
def iniC:Nat->List AV->(List (Nat×AV)->Prop)->Prop
 |_,[],K=>K []
 |k,a::es,K=>iniC (k+1) es λl=>K ((k,a)::l)
theorem vX:∀{es:U AV} {k:Nat} {K:U (Nat×AV)->Prop},iniC k es K->K (initA k es)
 |[],k,K,h=>h
 |a::es,k,K,h=>vX (es:=es) (K:=λl=>K ((k,a)::l)) h
end
end
section
variable {P:Program}{N n n0 n1:Nat}{aw aw0 aw1 aw2:U Ob}{l:U (Nat×AV)}{d:QbQ Tmp}{ty:TypeId}{ps:String}{af:Array Edge}{g:QbQ (Nat×Bool)}{K2:AV->U Ob->Prop}{f:Operand}{args:Array Operand}{ts:Array TypeId}{h:FuncId}{caps ac as0:U AV}{v v':AV}
theorem bq (ρ:U Nat)(hf:evA n l f=.func h caps)(ha:args.toList.map (evA n l)++caps=ac)(hC:FnX P h as0 aw0 v aw1)(hW:b7 ρ aw ρ aw0)(hA:cK ρ as0 ac)(hv:RenM (bY ρ n0 n1) v' v)(hB:fD (bY ρ n0 n1) ρ aw aw1 0 aw2)(hK:K2 v' aw2)(hn0:aw.length=n0:=by rfl)(hn1:aw1.length=n1:=by rfl)(hnd:ρ.Nodup:=by decide)(hlen:aw2.length+ρ.length=n0+n1:=by rfl):OP P N ⟨d,.call ⟨.value f,args,ts⟩,ty,ps,af,g⟩ (mkA n l) aw K2:=
 EQ ρ hn0 hn1 hf ha hnd hW hA hC hlen hv hB hK
theorem yq (ρ:U Nat)(hf:evA n l f=.bnd h caps)(ha:caps++args.toList.map (evA n l)=ac)(hC:FnX P h as0 aw0 v aw1)(hW:b7 ρ aw ρ aw0)(hA:cK ρ as0 ac)(hv:RenM (bY ρ n0 n1) v' v)(hB:fD (bY ρ n0 n1) ρ aw aw1 0 aw2)(hK:K2 v' aw2)(hn0:aw.length=n0:=by rfl)(hn1:aw1.length=n1:=by rfl)(hnd:ρ.Nodup:=by decide)(hlen:aw2.length+ρ.length=n0+n1:=by rfl):OP P N ⟨d,.call ⟨.value f,args,ts⟩,ty,ps,af,g⟩ (mkA n l) aw K2:=
 DO ρ hn0 hn1 hf ha hnd hW hA hC hlen hv hB hK
end
end
section
open Go.RowKit
inductive Fr where
 |sq (y:Code)
 |bk (id:Nat)
 |kt (K:List AV->List Ob->Prop)
section
variable {P:Program} {N n:Nat} {aw:List Ob} {l:List (Nat×AV)} {tt:TT} {Q:Exit→List AV→List Ob→Prop}
def qs(P:Program)(N:Nat):List Fr->(Exit->List AV->List Ob->Prop)->Exit->List AV->List Ob->Prop
 |[],Q=>Q
 | .sq y::st,Q=>thenA (T P N y (qs P N st Q)) (qs P N st Q)
 | .bk id::st,Q=>sG id (qs P N st Q)
 | .kt K::st,Q=>thenA K (qs P N st Q)
theorem wx:∀{st:U Fr} {fr:U AV} {aw:U Ob},Q .ret fr aw->qs P N st Q .ret fr aw
 |[],_,_,h=>h
 | .sq y::st,_,_,h=>wx (st:=st) h
 | .bk id::st,_,_,h=>wx (st:=st) h
 | .kt K::st,_,_,h=>wx (st:=st) h
instance {st:List Fr} {R:List AV->List Ob->Prop} [h:RetI Q R]:RetI (qs P N st Q) R:=⟨λfr aw hr=>wx (h.out fr aw hr)⟩
def popN(Q:Exit->List AV->List Ob->Prop)(fr:List AV)(aw:List Ob)(K:Code->List Fr->Prop):List Fr->Prop
 |[]=>Q .normal fr aw
 | .sq y::st=>K y st
 | .bk _::st=>popN Q fr aw K st
 | .kt K'::_=>K' fr aw
def popE(Q:Exit->List AV->List Ob->Prop)(fr:List AV)(aw:List Ob)(K:Code->List Fr->Prop)(id:Nat):List Fr->Prop
 |[]=>Q (.exit id) fr aw
 | .sq _::st=>popE Q fr aw K id st
 | .bk i::st=>(match Nat.beq id i with
  |true=>popN Q fr aw K st
  |false=>popE Q fr aw K id st)
 | .kt _::st=>popE Q fr aw K id st
variable {fr:U AV}{K:Code->U Fr->Prop}{pl:Bool}
theorem vU (hK:∀y st,K y st->T P N y (qs P N st Q) fr aw):∀{st:U Fr},popN Q fr aw K st->qs P N st Q .normal fr aw
 |[],h=>h
 | .sq y::st,h=>hK y st h
 | .bk _::st,h=>vU hK (st:=st) h
 | .kt _::_,h=>h
theorem wb (hK:∀y st,K y st->T P N y (qs P N st Q) fr aw){id:Nat}:∀{st:U Fr},popE Q fr aw K id st->qs P N st Q (.exit id) fr aw
 |[],h=>h
 | .sq y::st,h=>wb hK (st:=st) h
 | .bk i::st,h=>by
  show if id=i then qs P N st Q .normal fr aw else qs P N st Q (.exit id) fr aw
  simp only[popE]at h;cases hb:Nat.beq id i
  .rw[hb]at h;rw[if_neg (λe=>by simp_all)];exact wb hK (st:=st) h
  .rw[hb]at h;rw[if_pos (Su hb)];exact vU hK h
 | .kt _::st,h=>wb hK (st:=st) h
inductive MS where
 |cd (c:Code)
 |op (ops:Array Oper) (os:List Oper)
def dsC(l:List (Nat×AV))(d:Option Tmp)(r:AV)(K:List (Nat×AV)->Prop):Prop:=
 match d with
 |some t=>K ((t,r)::l)
 |none=>K l
def wP(pl:Bool)(tt:TT)(n:Nat)(l:List (Nat×AV))(aw:List Ob)(k:Nat)(op:Op)(K:AV->List Ob->Nat->Prop):Prop:=
  match pl with
  |false=>wE tt n l aw k op K
  | true=>(match op with
    | .pick c a b=>(match evA n l c with
      | .bool t=>(match t with
        |true=>fA (evA n l a) λr=>K r aw k
        |false=>fA (evA n l b) λr=>K r aw k)
      |_=>False)
    |op=>wE tt n l aw k op K)
theorem wP_ok {o:Oper}{k:Nat}{K:AV->U Ob->Nat->Prop}(ht:tt.Ok P)(hk:aw.length=k)(h:wP pl tt n l aw k o.op K):OP P N o (mkA n l) aw λr aw'=>K r aw' aw'.length:=by
 cases pl with
 |false=>exact wE_ok ht hk h
 | true=>
  have q:wE tt n l aw k o.op K->OP P N o (mkA n l) aw λr aw'=>K r aw' aw'.length:=λh=>wE_ok ht hk h
  obtain⟨d,op,ty,ps,af,g⟩:=o;cases op with
  | pick c a b=>
   simp only[wP]at h;subst hk;split at h
   .rename_i t hc;split at h
    .exact TV J (br hc J J (gl (K:=λr=>K r aw aw.length) h))
    .exact TV J (bd hc J J (gl (K:=λr=>K r aw aw.length) h))
   grind
  |_=>exact q h
def gx(pl:Bool)(tt:TT)(P:Program)(N n:Nat)(Q:Exit->List AV->List Ob->Prop):Nat->MS->List Fr->List (Nat×AV)->List Ob->Nat->Prop
  |0,.cd c,st,l,aw,_=>T P N c (qs P N st Q) (mkA n l) aw
  |0,.op ops os,st,l,aw,_=>RS P N ops os (qs P N st Q .normal) (mkA n l) aw
  | f + 1,.cd c,st,l,aw,k=>(match c with
    | .seq x y=>gx pl tt P N n Q f (.cd x) (.sq y::st) l aw k
    | .skip=>popN Q (mkA n l) aw (λy st=>gx pl tt P N n Q f (.cd y) st l aw k) st
    | .block id x=>gx pl tt P N n Q f (.cd x) (.bk id::st) l aw k
    | .exit id=>popE Q (mkA n l) aw (λy st=>gx pl tt P N n Q f (.cd y) st l aw k) id st
    | .cond x a b=>(match evA n l x with
      | .bool v=>(match v with
        |true=>gx pl tt P N n Q f (.cd a) st l aw k
        |false=>gx pl tt P N n Q f (.cd b) st l aw k)
      |_=>False)
    | .region _ ops d=>(match d with
      |false=>gx pl tt P N n Q f (.op ops ops.toList) st l aw k
      |true=>False)
    |_=>False)
  | f + 1,.op ops os,st,l,aw,k=>(match os with
    |[]=>popN Q (mkA n l) aw (λy st=>gx pl tt P N n Q f (.cd y) st l aw k) st
    | o :: os => (match o.guard with
      |none=>wP pl tt n l aw k o.op λr aw k=>dsC l o.dst r λl=>gx pl tt P N n Q f (.op ops os) st l aw k
      | some (j,want)=>cr ops.toList j λq=>(match q.dst with
        |none=>False
        | some t=>(match evA n l (.tmp t)with
          | .bool b=>(match b with
            | true=>(match want with
              |true=>wP pl tt n l aw k o.op λr aw k=>dsC l o.dst r λl=>gx pl tt P N n Q f (.op ops os) st l aw k
              |false=>dsC l o.dst (.tup []) λl=>gx pl tt P N n Q f (.op ops os) st l aw k)
            | false=>(match want with
              |false=>wP pl tt n l aw k o.op λr aw k=>dsC l o.dst r λl=>gx pl tt P N n Q f (.op ops os) st l aw k
              |true=>dsC l o.dst (.tup []) λl=>gx pl tt P N n Q f (.op ops os) st l aw k))
          | .tup vs=>(match vs with
            |[]=>dsC l o.dst (.tup []) λl=>gx pl tt P N n Q f (.op ops os) st l aw k
            |_::_=>False)
          |_=>False))))
theorem PO {d:QbQ Tmp}{r:AV}{K:U (Nat×AV)->Prop}(h:dsC l d r K):K (putA l d r):=by cases d<;>exact h
theorem jY (ht:tt.Ok P):∀{f:Nat} {ms:MS} {st:U Fr} {l:U (Nat×AV)} {aw:U Ob} {k:Nat},aw.length=k->gx pl tt P N n Q f ms st l aw k->gx pl tt P N n Q 0 ms st l aw k
 |0,.cd c,st,l,aw,k,hk,h=>h
 |0,.op ops os,st,l,aw,k,hk,h=>h
 | f+1,.cd c,st,l,aw,k,hk,h=>by
  show T P N c (qs P N st Q) (mkA n l) aw;have pop:∀y st,gx pl tt P N n Q f (.cd y) st l aw k->T P N y (qs P N st Q) (mkA n l) aw:=λy st h=>jY ht (f:=f) hk h
  cases c with
  |seq x y=>exact T.seq (jY ht (f:=f) (ms:=.cd x) hk h)
  |skip=>exact T.skip (vU pop h)
  |block id x=>exact T.block (jY ht (f:=f) (ms:=.cd x) hk h)
  |exit id=>exact T.exit (wb pop h)
  |cond x a b=>
   grind[gx,T.cond]
  |region id ops d=>
   cases d with
   |false=>exact T.region (jY ht (f:=f) (ms:=.op ops ops.toList) hk h)
   |true=>exact h.elim
  |_=>exact h.elim
 | f + 1,.op ops os,st,l,aw,k,hk,h=>by
  show RS P N ops os (qs P N st Q .normal) (mkA n l) aw;cases os with
  |nil=>
   have pop:∀y st,gx pl tt P N n Q f (.cd y) st l aw k->T P N y (qs P N st Q) (mkA n l) aw:=λy st h=>jY ht (f:=f) hk h
   exact RS.nil (vU pop h)
  | cons o os=>
   have put:∀{aw:U Ob} {k:Nat} {r:AV},aw.length=k->dsC l o.dst r (λl=>gx pl tt P N n Q f (.op ops os) st l aw k)->RS P N ops os (qs P N st Q .normal) (mkA n (putA l o.dst r)) aw:=
    λ{aw k r} hk h=>jY ht (f:=f) (ms:=.op ops os) hk (PO (K:=λl=>gx pl tt P N n Q f (.op ops os) st l aw k) h)
   simp only[gx]at h;split at h
   .rename_i hg;exact RS.op hg ((wP_ok ht hk h).mono λr aw' h=>put J h)
   .rename_i j want hg;obtain⟨q,h1,h⟩:=bV h;have h1:ops[j]?=some q:=by grind
    split at h
    .exact h.elim
    .rename_i t hd;have hj:(ops[j]?).bind (·.dst)=some t:=by grind
     split at h
     .rename_i b hb;split at h
      .split at h
       .exact RS.yes hg hj hb J ((wP_ok ht hk h).mono λr aw' h=>put J h)
       grind[RS.no]
      .split at h
       .exact RS.yes hg hj hb J ((wP_ok ht hk h).mono λr aw' h=>put J h)
       grind[RS.no]
     all_goals (grind[U7])
theorem GC {s:Nat}{a:AV}(hl:lkA l s=a):mkA n ((s,a)::l)=mkA n l:=by unfold mkA;congr 1;funext t;rw[kH];grind
variable {ops:Array Oper} {os:List Oper} {K:List AV→List Ob→Prop} {st:List Fr}
variable {b:Bool}{α β:Type}{c x y:Code}{l':U (Nat×AV)}{v:α⊕β}{r:β}
theorem gT (s:Nat)(hb:b=true)(h:RS P N ops os K (mkA n ((s,.bool true)::l)) aw)(hl:lkA l s=.bool b:=by rfl):RS P N ops os K (mkA n l) aw:=by grind[GC]
theorem gF (s:Nat)(hb:b=false)(h:RS P N ops os K (mkA n ((s,.bool false)::l)) aw)(hl:lkA l s=.bool b:=by rfl):RS P N ops os K (mkA n l) aw:=by grind[GC]
theorem gi (s:Nat){u v:QbQ α}{r:α}(h:(if b=true then u else v)=some r)(ht:b=true->u=some r->RS P N ops os K (mkA n ((s,.bool true)::l)) aw)(he:b=false->v=some r->RS P N ops os K (mkA n ((s,.bool false)::l)) aw)(hl:lkA l s=.bool b:=by rfl):RS P N ops os K (mkA n l) aw:=by
 cases b with
 |true=>exact gT s J (ht J (cb h J)) hl
 |false=>exact gF s J (he J (cg h J)) hl
theorem gp (s:Nat)(ht:b=true->RS P N ops os K (mkA n ((s,.bool true)::l)) aw)(he:b=false->RS P N ops os K (mkA n ((s,.bool false)::l)) aw)(hl:lkA l s=.bool b:=by rfl):RS P N ops os K (mkA n l) aw:=by
 cases b with
 |true=>grind[gT]
 |false=>grind[gF]
theorem fX {f:FuncId}{fn:Func}{args:U AV}{Q:AV->U Ob->Prop}{m:Nat}(ht:tt.Ok P)(N q:Nat)(hf:P.funcs[f]?=some fn)(hm:fn.ntmps=m)(h:iniC 0 args λl=>gx pl tt P N m (retQ P fn N Q) q (.cd c) [] l aw N)(hb:fn.body=some c)(hN:aw.length=N)(hname:(fn.name== "runtime.NumGoroutine")=false)(hl:Nat.ble args.length m=true):ACalls P f args aw Q:=
 iE hN hf hb hname hm hl (jY ht hN (vX (K:=λl=>gx pl tt P N m (retQ P fn N Q) q (.cd c) [] l aw N) h))
theorem q0 (h:T P N c (qs P N [] Q) fr aw):T P N c Q fr aw:=h
theorem jn {Z:Type}(F:Z->U AV)(A:Z->U Ob)(S:Z->Prop)(h:∀z,S z->T P N y (qs P N st Q) (F z) (A z))(h2:(∀z,S z->T P N y (qs P N st Q) (F z) (A z))->T P N (.seq x y) (qs P N st Q) fr aw):T P N (.seq x y) (qs P N st Q) fr aw:=h2 h
theorem j1 (l':U (Nat×AV))(aw':U Ob)(h:T P N y (qs P N st Q) (mkA n l') aw')(h2:T P N y (qs P N st Q) (mkA n l') aw'->T P N (.seq x y) (qs P N st Q) (mkA n l) aw):T P N (.seq x y) (qs P N st Q) (mkA n l) aw:=h2 h
theorem j0 (l':U (Nat×AV))(aw':U Ob)(S:Prop)(h:S->T P N y (qs P N st Q) (mkA n l') aw')(h2:(S->T P N y (qs P N st Q) (mkA n l') aw')->T P N (.seq x y) (qs P N st Q) (mkA n l) aw):T P N (.seq x y) (qs P N st Q) (mkA n l) aw:=h2 h
def LK{α β:Type}(N:Nat)(v:α⊕β)(F:α->List AV)(A:α->List Ob)(fr:List AV)(aw:List Ob):Prop:=∃s',v=.inl s'/\Weak N fr aw (F s') (A s')
theorem itr {body:α->QbQ (α⊕β)}{s:α}(F:α->U AV)(A:α->U Ob)(h:iter body s=some r)(hw:Weak N fr aw (F s) (A s))(hb:∀s v,body s=some v->(∀w,v=.inr w->w=r)->T P N c (qs P N (.kt (LK N v F A)::st) Q) (F s) (A s)):T P N (.loop c) (qs P N st Q) fr aw:=
 VO F A h hw λs v h1 h2=>(hb s v h1 h2).mono λe fr aw h=>by assumption
theorem lk {F:α->U AV}{A:α->U Ob}{s':α}(h:some (.inl s')=some v)(hw:Weak N fr aw (F s') (A s')):LK N v F A fr aw:=⟨s',(RR h).symm,hw⟩
theorem mi {o:QbQ β}(h:o.map Sum.inr=some v)(hv:∀w,v=.inr w->w=r):o=some r:=by obtain⟨w,h1,h2⟩:=OQ h;grind
theorem B {o:QbQ α}{k:α->QbQ β}{C:Prop}(h:o.bind k=some r)(hC:∀x,o=some x->k x=some r->C):C:=by obtain⟨x,h1,h2⟩:=bind_some h;grind
theorem sx (h:T P N c Q (mkA n l') aw)(hs:l'.map (λp=>lkA l p.1)=l'.map (λp=>lkA l' p.1):=by rfl):T P N c Q (mkA n l) aw:=V8 h hs
theorem wu {aw':U Ob}(h:T P N c Q (mkA n l') aw')(nl:U (Nat×TypeId×Nat))(ρ:U Nat)(k:Nat)(hw:nilC nl l aw k λl aw=>mpF ρ l' l λbs es=>mpOs ρ aw ρ aw' λbs' es'=>(bs,bs')=(es,es'))[g:GoodF l'][g':GoodOs aw'](hc:aw.length=k:=by rfl)(hn:(nl.all λp=>Nat.blt p.1 n)=true:=by rfl)(h1:ρ.Nodup:=by decide)(h2:∀k,k<N->ρ[k]?=some k:=by decide):T P N c Q (mkA n l) aw:=T.weakR h (wk nl ρ k hw hc hn h1 h2)
section
variable {ρ:List Nat} {n0 n1:Nat}
def bkC(n0:Nat):List Nat->Nat->(Nat->Prop)->Prop
 |[],i,K=>K (n0+i)
 |j::ρ,i,K=>(match i with
  |0=>K j
  |i+1=>bkC n0 ρ i K)
def bkK(ρ:List Nat)(n0 n1 i:Nat)(K:Nat->Prop):Prop:=
 match Nat.blt i n1 with
 |true=>bkC n0 ρ i K
 |false=>False
theorem Ge:∀{ρ:U Nat} {i:Nat} {K:Nat->Prop},bkC n0 ρ i K->K (if i<ρ.length then ρ.getD i 0 else n0+(i- ρ.length))
 |[],i,K,h=>by assumption
 |j::ρ,0,K,h=>h
 |j::ρ,i+1,K,h=>by have:=Ge (ρ:=ρ) (i:=i) (K:=K) h;grind
theorem kR {i:Nat}{K:Nat->Prop}(h:bkK ρ n0 n1 i K):∃j,(j,i)∈bY ρ n0 n1/\K j:=by
 unfold bkK at h;split at h
 .rename_i hb;refine⟨_,?_,Ge h⟩;simp_all[bY]
 grind
def bkL(f:AV->(AV->Prop)->Prop):List AV->(List AV->Prop)->Prop
 |[],K=>K []
 |a::es,K=>f a λb=>bkL f es λbs=>K (b::bs)
def bkA(ρ:List Nat)(n0 n1:Nat):Nat->AV->(AV->Prop)->Prop
 | k,a,K=>match a with
  | .ref i=>bkK ρ n0 n1 i λi=>K (.ref i)
  | .ptr i o=>bkK ρ n0 n1 i λi=>K (.ptr i o)
  | .mpr i=>bkK ρ n0 n1 i λi=>K (.mpr i)
  | .np i=>bkK ρ n0 n1 i λi=>K (.np i)
  | .agg cs=>(match k with
   |0=>False
   |k+1=>bkL (bkA ρ n0 n1 k) cs λcs=>K (.agg cs))
  | .tup cs=>(match k with
   |0=>False
   |k+1=>bkL (bkA ρ n0 n1 k) cs λcs=>K (.tup cs))
  | .func f cs=>(match k with
   |0=>False
   |k+1=>bkL (bkA ρ n0 n1 k) cs λcs=>K (.func f cs))
  | .bnd f cs=>(match k with
   |0=>False
   |k+1=>bkL (bkA ρ n0 n1 k) cs λcs=>K (.bnd f cs))
  | .iref _ _| .aptr _ _ _ _=>False
  |a=>fA a K
theorem ob {k:Nat}(ih:∀{a:AV} {K:AV->Prop},bkA ρ n0 n1 k a K->∃b,K b/\(gA k a->RenM (bY ρ n0 n1) b a)):∀{es:U AV} {K:U AV->Prop},bkL (bkA ρ n0 n1 k) es K->∃bs,K bs/\((∀a,a∈es->gA k a)->ij (bY ρ n0 n1) bs es)
 |[],K,h=>⟨[],h,λ_=>trivial⟩
 |a::es,K,h=>by obtain⟨b,h1,h2⟩:=ih h;obtain⟨bs,h3,h4⟩:=ob ih h1;exact⟨b::bs,h3,λhg=>⟨h2 (hg _ (.head _)),h4 λx hx=>hg x (.tail _ hx)⟩⟩
theorem wv:∀{k:Nat} {a:AV} {K:AV->Prop},bkA ρ n0 n1 k a K->∃b,K b/\(gA k a->RenM (bY ρ n0 n1) b a):=by
 intro k;induction k with
 |zero=>
  intro a K h;cases a with
  |ref i=>obtain⟨j,h1,h2⟩:=kR h;grind[jQ]
  |ptr i o=>obtain⟨j,h1,h2⟩:=kR h;grind[mc]
  |aptr i s x o=>exact h.elim
  |mpr i=>obtain⟨j,h1,h2⟩:=kR h;grind[FN]
  |np i=>obtain⟨j,h1,h2⟩:=kR h;grind[rm_np]
  |agg cs=>exact h.elim
  |tup cs=>exact h.elim
  |func f cs=>exact h.elim
  |bnd f cs=>exact h.elim
  |iref i j=>exact h.elim
  |any=>exact⟨_,h,λ_=>Gs⟩
  |int q x=>exact⟨_,h,λ_=>ap (aL _ _)⟩
  |bool b=>exact⟨_,h,λ_=>ap (kE _)⟩
  |str s=>exact⟨_,h,λ_=>ap (bc _)⟩
  |nils=>exact⟨_,h,λ_=>ap bT⟩
  |nilf=>exact⟨_,h,λ_=>ap se⟩
  |nilp=>exact⟨_,h,λ_=>ap uX⟩
  |nili=>exact⟨_,h,λ_=>ap u5⟩
  |sl rows=>exact⟨_,h,λg=>ap (by assumption)⟩
  |elt row off=>exact⟨_,h,λg=>ap (by assumption)⟩
  |cst v=>exact⟨_,h,λg=>by grind[gA]⟩
  |vw a1 a2 a3 a4 a5=>exact⟨_,h,λg=>by grind[gA]⟩
  |ref2 i=>exact⟨_,h,λg=>by grind[gA]⟩
  |aptr2 i j=>exact⟨_,h,λg=>by grind[gA]⟩
  |ifc t a1=>exact⟨_,h,λg=>by grind[gA]⟩
 |succ k ih=>
  intro a K h;cases a with
  |ref i=>obtain⟨j,h1,h2⟩:=kR h;grind[jQ]
  |ptr i o=>obtain⟨j,h1,h2⟩:=kR h;grind[mc]
  |aptr i s x o=>exact h.elim
  |mpr i=>obtain⟨j,h1,h2⟩:=kR h;grind[FN]
  |np i=>obtain⟨j,h1,h2⟩:=kR h;grind[rm_np]
  |agg cs=>obtain⟨bs,h1,h2⟩:=ob ih h;grind[tv,gA]
  |tup cs=>obtain⟨bs,h1,h2⟩:=ob ih h;grind[Qk,gA]
  |func f cs=>obtain⟨bs,h1,h2⟩:=ob ih h;grind[OB,gA]
  |bnd f cs=>obtain⟨bs,h1,h2⟩:=ob ih h;grind[Qj,gA]
  |iref i j=>exact h.elim
  |any=>exact⟨_,h,λ_=>Gs⟩
  |int q x=>exact⟨_,h,λ_=>ap (aL _ _)⟩
  |bool b=>exact⟨_,h,λ_=>ap (kE _)⟩
  |str s=>exact⟨_,h,λ_=>ap (bc _)⟩
  |nils=>exact⟨_,h,λ_=>ap bT⟩
  |nilf=>exact⟨_,h,λ_=>ap se⟩
  |nilp=>exact⟨_,h,λ_=>ap uX⟩
  |nili=>exact⟨_,h,λ_=>ap u5⟩
  |sl rows=>exact⟨_,h,λg=>ap (by assumption)⟩
  |elt row off=>exact⟨_,h,λg=>ap (by assumption)⟩
  |cst v=>exact⟨_,h,λg=>by grind[gA]⟩
  |vw a1 a2 a3 a4 a5=>exact⟨_,h,λg=>by grind[gA]⟩
  |ref2 i=>exact⟨_,h,λg=>by grind[gA]⟩
  |aptr2 i j=>exact⟨_,h,λg=>by grind[gA]⟩
  |ifc t a1=>exact⟨_,h,λg=>by grind[gA]⟩
def bkO(ρ:List Nat)(n0 n1:Nat)(o:Ob)(K:Ob->Prop):Prop:=
 match o with
 | .dead=>K .dead
 | .box cs=>bkL (bkA ρ n0 n1 3) cs λcs=>K (.box cs)
 | .boxB t cs=>bkL (bkA ρ n0 n1 3) cs λcs=>K (.boxB t cs)
 | .hd e k=>bkK ρ n0 n1 k λk=>K (.hd e k)
 | .arr e s rows=>K (.arr e s rows)
 | .mp ks vs=>K (.mp ks vs)
 | .cl e s cells=>K (.cl e s cells)
 |_=>False
variable {o:Ob}{aw1:U Ob}
theorem Gf {K:Ob->Prop}(h:bkO ρ n0 n1 o K):∃b,K b/\(gO o->jW (bY ρ n0 n1) b o):=by
 cases o with
 |dead=>exact⟨_,h,λ_=>trivial⟩
 |box cs=>obtain⟨bs,h1,h2⟩:=ob wv h;exact⟨_,h1,λg=>h2 g⟩
 |boxB t cs=>obtain⟨bs,h1,h2⟩:=ob wv h;exact⟨_,h1,λg=>⟨J,h2 g⟩⟩
 |hd e k=>obtain⟨j,h1,h2⟩:=kR h;exact⟨_,h2,λ_=>⟨J,h1⟩⟩
 |arr e s rows=>exact⟨_,h,λg=>⟨J,J,J,g⟩⟩
 |mp ks vs=>exact⟨_,h,λg=>⟨xt λc hc=>g c (List.mem_append_left _ hc),xt λc hc=>g c (List.mem_append_right _ hc)⟩⟩
 |cl e s cells=>exact⟨_,h,λg=>⟨J,J,J,g⟩⟩
 |arrU e s rows x=>exact h.elim
def pkC(n0 n1:Nat)(ρ0:List Nat)(j:Nat)(o:Ob)(K:Ob->Prop):List Nat->List Ob->Prop
 |[],_=>K o
 | i::ρ,os=>(match os with
  |[]=>False
  |o1::os=>(match Nat.beq i j with
   |true=>bkO ρ0 n0 n1 o1 K
   |false=>pkC n0 n1 ρ0 j o K ρ os))
def exC(ρ:List Nat)(n0 n1:Nat):List Ob->(List Ob->Prop)->Prop
 |[],K=>K []
 |o::os,K=>bkO ρ n0 n1 o λo=>exC ρ n0 n1 os λos=>K (o::os)
def bwC(ρ:List Nat)(n0 n1:Nat)(aw1:List Ob):Nat->List Ob->(List Ob->Prop)->Prop
 |_,[],K=>dropC aw1 ρ.length λos=>exC ρ n0 n1 os K
 |j,o::r,K=>pkC n0 n1 ρ j o (λo=>bwC ρ n0 n1 aw1 (j+1) r λl=>K (o::l)) ρ aw1
theorem FZ (hg:∀o,o∈aw1->gO o)(hl:aw1.length=n1){j:Nat}{K:Ob->Prop}:∀{ρ1:U Nat} {os:U Ob} {k:Nat},ρ.drop k=ρ1->aw1.drop k=os->pkC n0 n1 ρ j o K ρ1 os ->
  ∃b,K b/\((∃k o1,(j,k)∈bY ρ n0 n1/\aw1[k]?=some o1/\jW (bY ρ n0 n1) b o1)∨(ρ1.contains j=false/\b=o))
 |[],os,k,_,_,h=>⟨o,h,.inr ⟨J,J⟩⟩
 |i::ρ1,[],k,_,_,h=>h.elim
 | i::ρ1,o1::os,k,h1,h2,h=>by
  have e1:ρ[k]?=some i:=by have:=congrArg List.head? h1;simpa using this
  have e2:aw1[k]?=some o1:=by have:=congrArg List.head? h2;simpa using this
  simp only[pkC]at h;split at h
  .rename_i hb;have:=Su hb;subst this;obtain⟨b,h3,h4⟩:=Gf h;have hk:k<ρ.length:=(RH.1 e1).1;have hk1:k<n1:=by grind
   refine⟨b,h3,.inl ⟨k,o1,?_,e2,h4 (hg _ (RI e2))⟩⟩;simp_all[bY]
  .rename_i hb;obtain⟨b,h3,h4⟩:=FZ hg hl (k:=k+1) (by grind[List.tail_drop]) (by grind[List.tail_drop]) h;refine⟨b,h3,h4.imp id λ⟨h5,h6⟩=>⟨?_,h6⟩⟩;rw[List.contains_cons,h5,Bool.or_false];cases he:j==i;all_goals simp_all
theorem Gy {aw:U Ob}(hg:∀o,o∈aw1->gO o)(hl:aw1.length=n1)(hr:ρ.length<=n1):∀{os:U Ob} {j:Nat} {K:U Ob->Prop},aw1.drop (ρ.length+j)=os->exC ρ n0 n1 os K->∃bs,K bs/\fD (bY ρ n0 n1) ρ aw aw1 (n0+j) bs/\bs.length=os.length
 |[],j,K,_,h=>⟨[],h,trivial,J⟩
 |o::os,j,K,h1,h=>by
  have e1:aw1[ρ.length+j]?=some o:=by have:=congrArg List.head? h1;simpa using this
  obtain⟨b,h2,h3⟩:=Gf h;obtain⟨bs,h4,h5,h6⟩:=Gy (aw:=aw) hg hl hr (j:=j+1) (by grind[List.tail_drop]) h2;refine⟨b::bs,h4,⟨.inl ⟨ρ.length+j,o,?_,e1,h3 (hg _ (RI e1))⟩,by omega⟩,by simp[h6]⟩;unfold bY;grind
theorem yV {aw:U Ob}(hg:∀o,o∈aw1->gO o)(hl:aw1.length=n1)(hn:aw.length=n0):∀{l:U Ob} {j:Nat} {K:U Ob->Prop},aw.drop j=l->j<=n0->bwC ρ n0 n1 aw1 j l K->∃bs,K bs/\fD (bY ρ n0 n1) ρ aw aw1 j bs/\bs.length+ρ.length=l.length+n1
 |[],j,K,h0,hj,h=>by
  obtain⟨h1,h⟩:=yf h;have hj':j=n0:=by simp_all<;>omega
  subst hj';obtain⟨bs,h2,h3,h4⟩:=Gy (aw:=aw) hg hl (by omega) (j:=0) J h;grind
 |o::r,j,K,h0,hj,h=>by
  have e1:aw[j]?=some o:=by have:=congrArg List.head? h0;simpa using this
  have hjl:j<aw.length:=(RH.1 e1).1;obtain⟨b,h1,h2⟩:=FZ (k:=0) hg hl J J h;obtain⟨bs,h3,h4,h5⟩:=yV hg hl hn (j:=j+1) (by grind[List.tail_drop]) (by omega) h1;refine⟨b::bs,h3,⟨h2.imp id λ⟨h6,h7⟩=>⟨h6,by grind⟩,h4⟩,?_⟩;grind
def cgC(n:Nat)(l:List (Nat×AV))(aw:List Ob)(ρ:List Nat)(n0 n1:Nat)(f:Operand)(args:List Operand)(h:Nat)(as0:List AV)(aw0:List Ob)(v:AV)(aw1:List Ob)(K:AV->List Ob->Prop):Prop:=
 match evA n l f with
 | .func g caps=>(match Nat.beq g h with
  |true=>evsC n l args λes=>appC es caps λac=>mpC (mpA ρ 3) as0 ac λbs=>mpOs ρ aw ρ aw0 λbs' es'=>(bs,bs')=(ac,es')/\bkA ρ n0 n1 3 v λv=>bwC ρ n0 n1 aw1 0 aw λaw2=>K v aw2
  |false=>False)
 | .bnd g fs=>(match Nat.beq g h with
  |true=>evsC n l args λes=>appC fs es λac=>mpC (mpA ρ 3) as0 ac λbs=>mpOs ρ aw ρ aw0 λbs' es'=>(bs,bs')=(ac,es')/\bkA ρ n0 n1 3 v λv=>bwC ρ n0 n1 aw1 0 aw λaw2=>K v aw2
  |false=>False)
 |_=>False
theorem cG {d:QbQ Tmp}{ty:TypeId}{ps:String}{af:Array Edge}{gd:QbQ (Nat×Bool)}{K2:AV->U Ob->Prop}{f:Operand}{args:Array Operand}{ts:Array TypeId}{h:FuncId}{as0:U AV}{aw0:U Ob}{v:AV}(ρ:U Nat)(n0 n1:Nat)(hC:FnX P h as0 aw0 v aw1)(hx:cgC n l aw ρ n0 n1 f args.toList h as0 aw0 v aw1 K2)[ga:GoodAs 3 as0][go:GoodOs aw0][gv:GoodA 3 v][g1:GoodOs aw1](hn0:aw.length=n0:=by rfl)(hn1:aw1.length=n1:=by rfl)(hnd:ρ.Nodup:=by decide):OP P N ⟨d,.call ⟨.value f,args,ts⟩,ty,ps,af,gd⟩ (mkA n l) aw K2:=by
 unfold cgC at hx
 split at hx
 .rename_i g caps hf
  split at hx
  .rename_i hb
   have:=Su hb
   subst this
   have hx:=tf (sX hx)
   obtain⟨bs,hx,h2⟩:=kZ (ρ:=ρ) oc hx
   obtain⟨bs',es',hx,h3⟩:=nP hx
   obtain⟨he,hx⟩:=hx
   injection he with e1 e2
   obtain⟨v',hx,h4⟩:=wv hx
   obtain⟨aw2,hx,h5,h6⟩:=yV g1.out hn1 hn0 (j:=0) J (Sb _) hx
   exact EQ ρ hn0 hn1 hf J hnd (h3 go.out e2) (h2 ga.out e1) hC (by grind) (h4 gv.out) h5 hx
  grind
 .rename_i g caps hf
  split at hx
  .rename_i hb
   have:=Su hb
   subst this
   have hx:=tf (sX hx)
   obtain⟨bs,hx,h2⟩:=kZ (ρ:=ρ) oc hx
   obtain⟨bs',es',hx,h3⟩:=nP hx
   obtain⟨he,hx⟩:=hx
   injection he with e1 e2
   obtain⟨v',hx,h4⟩:=wv hx
   obtain⟨aw2,hx,h5,h6⟩:=yV g1.out hn1 hn0 (j:=0) J (Sb _) hx
   exact DO ρ hn0 hn1 hf J hnd (h3 go.out e2) (h2 ga.out e1) hC (by grind) (h4 gv.out) h5 hx
  grind
 grind
end
theorem nB (b j e z k:Nat)(h:cr aw b λo=>(match o with
  | .box cs=>cr cs j λv=>(match v with
   | .nils=>setC cs j (.ref k) λcs=>setC aw b (.box cs) λaw=>pushC aw (.arr e z []) λaw=>T P N c Q (mkA n l) aw
   |_=>False)
  |_=>False))(hk:aw.length=k:=by rfl):T P N c Q (mkA n l) aw:=by
 subst hk
 obtain⟨o,h1,h⟩:=bV h
 split at h
 .obtain⟨v,h2,h⟩:=bV h
  split at h
  .exact VM b j e z h1 h2 J J (nH (jK (jK h)))
  grind
 grind
theorem mO (b j id k:Nat)(h:cr aw b λo=>(match o with
  | .box cs=>cr cs j λv=>(match v with
   | .ref i=>(match Nat.beq i id with
    |true=>cr aw id λq=>(match q with
     | .arr e s rows=>setC cs j (.ref k) λcs=>setC aw id .dead λaw=>setC aw b (.box cs) λaw=>pushC aw (.arr e s rows) λaw=>T P N c Q (mkA n l) aw
     |_=>False)
    |false=>False)
   |_=>False)
  |_=>False))(hk:aw.length=k:=by rfl):T P N c Q (mkA n l) aw:=by
 subst hk
 obtain⟨o,h1,h⟩:=bV h
 split at h
 .obtain⟨v,h2,h⟩:=bV h
  split at h
  .rename_i i
   split at h
   .rename_i hb
    have:=Su hb
    subst this
    obtain⟨q,h3,h⟩:=bV h
    split at h
    .exact VX b j _ h1 h2 h3 J J J (nH (jK (jK (jK h))))
    grind
   grind
  grind
 grind
def bm(n k:Nat):Array Bool:=((List.range n).map k.testBit).toArray
end
end
end Go.Proofs.YtfglbbhdfgjheaaGreatDoor
