/-
  Part 6 of the proof of shopEndsLaw.proved: the code computes these functions, and the law holds of them, with no condition beyond the statement's own; put together by a program of ours (wip/decl.py) out of texts of ours.
-/
import Derived.Test.YtfglbbhdfgjheaaGreatDoorCards
import Derived.Test.YtfglbbhdfgjheaaGreatDoorTie
import Derived.Deep.DeepHandedRow
import Derived.Test.YtfglbbhdfgjheaaGreatDoorZShopEnds5
set_option linter.unusedVariables false
set_option linter.unusedSimpArgs false
namespace Go.Proofs.YtfglbbhdfgjheaaGreatDoor
section
section
variable {n:Net} {items:List (List Item)}
abbrev FRun(n:Net)(items:List (List Item)):=Run (bh n items) n none
abbrev FEx(n:Net)(items:List (List Item)):=Ex (bh n items) n none
def Rest(n:Net)(items:List (List Item))(t:MSt Item Memory (List Choice)):Prop:=∀m d,(ab n m.1).Kind≠6->¬FEx n items t m d
inductive NF (n:Net) (items:List (List Item)):List Choice->MSt Item Memory (List Choice)->Prop
 |nil {u t} (h:FRun n items (aX (aS n items)) u t) (hu:chW n u=[]) (hr:Rest n items t):NF n items [] t
 |snoc {c t m t1 u t2} (h:NF n items c t) (hm:FEx n items t m t1) (h6:(ab n m.1).Kind=6) (h1:FRun n items t1 u t2) (hu:chW n u=[]) (hr:Rest n items t2):NF n items (c++[⟨m.1,m.2⟩]) t2
variable {c:U Choice}{t t2:MSt Item Memory (U Choice)}{x:Choice}{m:Nat×Nat}{K:Int}
theorem NF.rest (h:NF n items c t):Rest n items t:=by
 cases h with
 |nil _ _ hr=>exact hr
 |snoc _ _ _ _ _ hr=>exact hr
theorem yL (hS:RightS n items):∀(k:Nat) (c:MSt Item Memory (U Choice)),totW (λ_=>1) n items c<=k->∃u t,FRun n items c u t/\chW n u=[]/\Rest n items t:=by
 intro k;induction k with
 |zero=>
  intro c hk;refine⟨[],c,.nil c,J,λm d _ h=>?_⟩;have:=FQ (λ_=>1) hS h;omega
 |succ k ih=>
  intro c hk;by_cases hr:Rest n items c
  .exact⟨[],c,.nil c,J,hr⟩
  .unfold Rest at hr;obtain⟨m,hr⟩:=Classical.not_forall.1 hr;obtain⟨d,hr⟩:=Classical.not_forall.1 hr;obtain⟨h6,hr⟩:=Classical.not_imp.1 hr;have hr:=Classical.not_not.1 hr;have:=FQ (λ_=>1) hS hr;obtain⟨u,t,h1,h2,h3⟩:=ih d (by omega);exact⟨m::u,t,.cons hr h1,by rw[fJ,if_neg h6];exact h2,h3⟩
theorem FM (hS:RightS n items):∀(k:Nat) (w:U (Nat×Nat)) (s:MSt Item Memory (U Choice)),w.length=k->FRun n items (aX (aS n items)) w s->∃t u,NF n items (chW n w) t/\FRun n items s u t/\chW n u=[]:=by
 have hR:=hS.toRightN;have hsrc:=pX hS;intro k;induction k with
 |zero=>
  intro w s hk h;have:w=[]:=RP hk;subst this;have:=h.nil_inv;subst this;obtain⟨u,t,h1,h2,h3⟩:=yL hS _ (aX (aS n items)) (RJ _);exact⟨t,u,.nil h1 h2 h3,h1,h2⟩
 | succ k ih=>
  intro w s hk h;rcases List.eq_nil_or_concat w with e|⟨w',m,e⟩
  .rw[e]at hk;cases hk
  have e:w=w'++[m]:=by rw[e,List.concat_eq_append]
  subst e;obtain⟨s',h1,h2⟩:=h.split;have hx:FEx n items s' m s:=by
   cases h2 with
   |cons g1 g2=>cases g2;exact g1
  obtain⟨t,u,hn,hu,hc⟩:=ih w' s' (by rw[RN,S4]at hk;omega) h1;by_cases h6:(ab n m.1).Kind=6
  .obtain⟨e,e1,e2⟩:=so hR hsrc hu hx (Bm hc h6) (.inr hc);obtain⟨v,t2,g1,g2,g3⟩:=yL hS _ e (RJ _);refine⟨t2,u++v,?_,e1.app g1,by rw[jL,hc,g2];rfl⟩;rw[jL];have:chW n [m]=[⟨m.1,m.2⟩]:=by rw[fJ,if_pos h6];rfl
   rw[this];exact .snoc hn e2 h6 g1 g2 g3
  .have hcm:chW n (w'++[m])=chW n w':=by
    rw[jL,fJ,if_neg h6];show chW n w'++[]=_;rw[Sg]
   rw[hcm];rcases xH (nG hu) hx.1 h6 with hp|⟨p,q,e,hp⟩
   .obtain⟨e,e1,e2⟩:=so hR hsrc hu hx hp (.inl h6);exfalso;exact hn.rest m e h6 e2
   .subst e;refine⟨t,p++q,hn,vi hR hsrc hu hx hp (.inl h6),?_⟩;rw[jL,fJ,if_neg h6,<- jL]at hc;exact hc
theorem DI (hS:RightS n items):∀(k:Nat) {u v:U (Nat×Nat)} {c t t':MSt Item Memory (U Choice)},v.length<=k->FRun n items c u t->chW n u=[]->Rest n items t->FRun n items c v t'->chW n v=[]->Rest n items t'->t=t':=by
 have hR:=hS.toRightN;have hsrc:=pX hS;intro k;induction k with
 | zero=>
  intro u v c t t' hk hu cu ru hv cv rv;have:v=[]:=RP (by omega);subst this;have:=hv.nil_inv;subst this;cases hu with
  |nil=>rfl
  | @cons _ c1 _ m w h1 h2=>
   exfalso;rw[fJ]at cu;by_cases h6:(ab n m.1).Kind=6
   .rw[if_pos h6]at cu;cases cu
   .exact rv m c1 h6 h1
 | succ k ih=>
  intro u v c t t' hk hu cu ru hv cv rv;cases hv with
  | nil=>
   cases hu with
   |nil=>rfl
   | @cons _ c1 _ m w h1 h2=>
    exfalso;rw[fJ]at cu;by_cases h6:(ab n m.1).Kind=6
    .rw[if_pos h6]at cu;cases cu
    .exact rv m c1 h6 h1
  | @cons _ c1 _ m w h1 h2=>
   rw[fJ]at cv;by_cases h6:(ab n m.1).Kind=6
   .rw[if_pos h6]at cv;cases cv
   rw[if_neg h6]at cv;rcases xH (nG hu) h1.1 h6 with hp|⟨p,q,e,hp⟩
   .obtain⟨e,e1,e2⟩:=so hR hsrc hu h1 hp (.inl h6);exact absurd e2 (ru m e h6)
   .subst e;have h3:=vi hR hsrc hu h1 hp (.inl h6);rw[jL,fJ,if_neg h6,<- jL]at cu;exact ih (by simp only[R8]at hk;omega) h3 cu ru h2 cv rv
theorem NF.inv (h:NF n items (c++[x]) t2):∃t m t1 u,NF n items c t/\FEx n items t m t1/\(ab n m.1).Kind=6/\FRun n items t1 u t2/\chW n u=[]/\Rest n items t2/\x=⟨m.1,m.2⟩:=by
 generalize hcx:c++[x]=cx at h;cases h with
 |nil=>simp at hcx
 | @snoc c' t m t1 u _ h hm h6 h1 hu hr=>
  obtain⟨e1,e2⟩:=List.append_inj' hcx J;subst e1;exact⟨t,m,t1,u,h,hm,h6,h1,hu,hr,(List.cons.inj e2).1⟩
theorem NF.one (hS:RightS n items)(h:NF n items c t):∀{t':MSt Item Memory (U Choice)},NF n items c t'->t=t':=by
 induction h with
 |nil h hu hr=>
  intro t' h';generalize hc:([]:U Choice)=c at h';cases h' with
  |nil g gu gr=>exact DI hS _ (RJ _) h hu hr g gu gr
  |snoc=>simp at hc
 | @snoc c t m t1 u t2 h hm h6 h1 hu hr ih=>
  intro t' h';obtain⟨s,m',s1,v,g,gm,g6,g1,gu,gr,e⟩:=h'.inv;have:=ih g;subst this;have em:m=m':=by have e1:=congrArg Choice.Node e;have e2:=congrArg Choice.Lane e;cases m;cases m';simp only at e1 e2;have e1:_=_:=Int.ofNat.inj e1;have e2:_=_:=Int.ofNat.inj e2;rw[e1,e2]
  subst em;have:=hm.det gm;subst this;exact DI hS _ (RJ _) h1 hu hr g1 gu gr
def Late(n:Net)(items:List (List Item))(K:Int)(c:MSt Item Memory (List Choice)):Prop:=∀m x,okMv n m->(ab n m.1).Kind≠6->hdM (bh n items) n c m=some x->(ab n m.1).Kind≠1/\∀y,y∈c.rg (bA (ab n m.1) m.2)->K<=y.Dep
theorem B9 (k f:Int)(m:Memory)(x:Item):x.Dep<=(cJ k f m x).2.Dep:=by
 unfold cJ maxD;split
 .exact Sj _
 split
 .simp only;split<;>omega
 split
 .simp only;split<;>omega
 .exact Sj _
theorem Nz {c:MSt Item Memory (U Choice)}(hm:okMv n m){x:Item}(hx:hdM (bh n items) n c m=some x):∃d,FEx n items c m d:=⟨_,hm,x,hx,λR hR=>(by cases hR),rfl⟩
theorem EL (hS:RightS n items){c:MSt Item Memory (U Choice)}{x:Item}(hm:okMv n m)(hx:hdM (bh n items) n c m=some x)(hK:K<=(mkM (bh n items) n c m x).2.Dep)(h:Late n items K c)(hsr:(ab n m.1).Kind≠1):Late n items K (goM (bh n items) n c m x):=by
 intro b y hb hb6 hy;have hnk:(ab n b.1).Kind≠1:=λh1=>by
  have e:hdM (bh n items) n (goM (bh n items) n c m x) b=hdM (bh n items) n c b:=by unfold hdM;rw[if_pos h1,if_pos h1];unfold goM;simp only;rw[if_neg hsr]
  rw[e]at hy;exact absurd h1 (h b y hb hb6 hy).1
 refine⟨hnk,λz hz=>?_⟩;unfold goM at hz;simp only at hz;have old:∀z,z∈c.rg (bA (ab n b.1) b.2)->K<=z.Dep:=λz hz=>by
  cases hl:c.rg (bA (ab n b.1) b.2)with
  |nil=>rw[hl]at hz;cases hz
  |cons a l=>
   have hh:hdM (bh n items) n c b=some a:=by unfold hdM;rw[if_neg hnk,hl];rfl
   exact(h b a hb hb6 hh).2 z hz
 rcases RY.1 hz with hz|hz
 .split at hz
  .exact old z (List.mem_of_mem_tail hz)
  .exact old z hz
 .split at hz
  .rw[RW.1 hz];exact hK
  .cases hz
theorem Mc (hS:RightS n items):∀{u:U (Nat×Nat)} {c d:MSt Item Memory (U Choice)},FRun n items c u d->chW n u=[]->Late n items K c->∃e,d.out=c.out++e/\∀y,y∈e->K<=y.Dep:=by
 intro u;induction u with
 |nil=>intro c d h _ _;cases h;exact⟨[],by simp,λy hy=>by cases hy⟩
 | cons m u ih=>
  intro c d h hc hl;rw[fJ]at hc;by_cases h6:(ab n m.1).Kind=6
  .rw[if_pos h6]at hc;cases hc
  rw[if_neg h6]at hc;cases h with
  | cons h1 h2=>
   obtain⟨hm,x,hx,_,rfl⟩:=h1;obtain⟨hk1,hdep⟩:=hl m x hm h6 hx;have hxd:K<=x.Dep:=by unfold hdM at hx;rw[if_neg hk1]at hx;exact hdep x (List.mem_of_mem_head? hx)
   have hin:inM (bh n items) n c m x=x:=by unfold inM;rw[if_neg h6]
   have hmk:K<=(mkM (bh n items) n c m x).2.Dep:=by unfold mkM;rw[hin];exact Int.le_trans hxd (B9 _ _ _ _)
   obtain⟨e,e1,e2⟩:=ih h2 hc (EL hS hm hx hmk hl hk1);unfold goM at e1;simp only at e1;by_cases h8:(ab n m.1).Kind=8
   .rw[if_pos h8]at e1;refine⟨(mkM (bh n items) n c m x).2::e,by rw[e1];simp,λy hy=>?_⟩;rcases Sa.1 hy with rfl|hy
    .exact hmk
    .exact e2 y hy
   .rw[if_neg h8]at e1;exact⟨e,e1,e2⟩
theorem NF.tr (h:NF n items c t):t.tr=c:=by
 induction h with
 |nil h hu hr=>
  rw[jP h,hu];rfl
 | @snoc c t m t1 u t2 h hm h6 h1 hu hr ih=>
  rw[jP h1,hu,Sg];obtain⟨_,x,_,_,rfl⟩:=hm;unfold goM;simp only;rw[if_pos h6,ih];rfl
theorem NF.next (hS:RightS n items)(h:NF n items (c++[x]) t2):∃t e,NF n items c t/\t2.out=t.out++e/\∀y,y∈e->(c.length:Int)+1<=y.Dep:=by
 obtain⟨t,m,t1,u,g,gm,g6,g1,gu,gr,e⟩:=h.inv;obtain⟨hm,y,hy,_,rfl⟩:=gm;have htr:=g.tr;have hl0:Late n items ((c.length:Int)+1) t:=λb z hb hb6 hz=>by obtain⟨d,hd⟩:=Nz hb hz;exact absurd hd (g.rest b d hb6)
 have hmk:(c.length:Int)+1<=(mkM (bh n items) n t m y).2.Dep:=by refine Int.le_trans ?_ (B9 _ _ _ _);unfold inM;rw[if_pos g6];show(c.length:Int)+1<=(t.tr.length:Int)+1;rw[htr];exact Sj _
 have hk1:(ab n m.1).Kind≠1:=by omega
 obtain⟨e',e1,e2⟩:=Mc hS g1 gu (EL hS hm hy hmk hl0 hk1);refine⟨t,e',g,?_,e2⟩;rw[e1];unfold goM;simp only;rw[if_neg (by omega)]
theorem NF.later (hS:RightS n items):∀(k:Nat) {d:U Choice} {t2:MSt Item Memory (U Choice)},d.length=k->NF n items (c++d) t2->∃t e,NF n items c t/\t2.out=t.out++e/\∀y,y∈e->(c.length:Int)+1<=y.Dep:=by
 intro k;induction k with
 |zero=>
  intro d t2 hk h;have:d=[]:=RP hk;subst this;rw[Sg]at h;exact⟨t2,[],h,by simp,λy hy=>by cases hy⟩
 |succ k ih=>
  intro d t2 hk h;rcases List.eq_nil_or_concat d with e|⟨d',x,e⟩
  .rw[e]at hk;cases hk
  rw[e,List.concat_eq_append,<- RT]at h;obtain⟨t1,e1,g1,g2,g3⟩:=h.next hS;obtain⟨t,e2,q1,q2,q3⟩:=ih (by rw[e,List.concat_eq_append,RN,S4]at hk;omega) g1;refine⟨t,e2++e1,q1,by rw[g2,q2,RT],λy hy=>?_⟩;rcases RY.1 hy with hy|hy
  .exact q3 y hy
  .have:=g3 y hy;rw[RN]at this;omega
end
end
noncomputable section
abbrev kvP:Item->Int×Int:=kv
def durC(n:Net)(items:List (List Item))(S:List (List UInt8)):List Choice:=(dl n items S).1.Choices++(bj ((dl n items S).2:Int) (S.drop 120)).1
section
variable {n:Net} {items:List (List Item)} {E:Nat} {h:Shop}
variable {S:U (U UInt8)}{E':Nat}{α:Type}
theorem y5 (q:SrcQ n items){b:State}{cs:U (U Choice)}(hh:Held (PB n items) E S)(he:E<=200)(hb:BaseIs n items E S b)(hl:LogIs E S cs):durC n items S=b.Choices++cs.flatten:=by obtain⟨s,hn,hI,hk,z0,z1⟩:=we q hh;have hs:=DG q hb hI hk z0 (λh=>(z1 h).1);subst hs;unfold durC;rw[hn];simp only;rw[hl.scan he]
theorem CH (q:SrcQ n items){S':U (U UInt8)}(g:Grows n items E S E' S')(hh:Held (PB n items) E S)(he:E<=200)(hh':Held (PB n items) E' S')(he':E'<=200):durC n items S <+: durC n items S':=by obtain⟨b,cs,b',cs',g1,g2,g3,g4,g5⟩:=g;rw[y5 q hh he g1 g2,y5 q hh' he' g3 g4];exact g5
structure JT (n:Net) (items:List (List Item)) (E:Nat) (h:Shop):Prop extends JR n items E h where
 tl:∃k t,k<=(durC n items h.D.Sectors).length/\NF n items ((durC n items h.D.Sectors).take k) t/\h.Told.map kvP <+: t.out.map kvP
theorem JR.upF (q:SrcQ n items)(j:JR n items E h)(hd:h.Down=false):h.Safe=((durC n items h.D.Sectors).length:Int)/\durC n items h.D.Sectors <+: h.S.Choices/\∃W,RRun n items (aX (aS n items)) W (aX h.S):=by
 obtain⟨b,cs,hb,hlg,_,hp⟩:=j.base;have hdur:=y5 q j.held j.e2 hb hlg;obtain⟨w0,hw0⟩:=hb.reach;rw[hdur];cases hp hd with
 | @log w cs2 r hla run ch good len wait next logged safe=>
  have h1:=nX run;rw[ch]at h1;refine⟨by rw[safe,RN],?_,w0++w,hw0.app run⟩;rw[h1,S7];exact⟨cs2.flatten++r,by simp only[RT]⟩
 | @slot w cs2 r s' w2 hla run ch good len wait inv kv hb' run2 laid safe=>
  have h1:=nX run;rw[ch]at h1;have h2:=nX run2;refine⟨by rw[safe,RN],?_,(w0++w)++w2,(hw0.app run).app run2⟩;rw[h2,h1,S7];exact⟨cs2.flatten++(r++chW n w2),by simp only[RT]⟩
theorem LR (q:SrcQ n items){s:State}{W:U (Nat×Nat)}(hr:RRun n items (aX (aS n items)) W (aX s)):∃t,NF n items s.Choices t/\s.Out <+: t.out:=by
 obtain⟨t,u,h1,h2,h3⟩:=FM q.S _ W _ J hr.free;have h4:=jP hr;have h5:s.Choices=chW n W:=by simpa [aX,aS]using h4
 rw[<- h5]at h1;exact⟨t,h1,h2.out_pre⟩
theorem JT.pre (q:SrcQ n items)(j:JT n items E h)(hd:h.Down=false):∃t,NF n items h.S.Choices t/\h.S.Out <+: t.out/\h.Told.map kvP <+: t.out.map kvP:=by
 obtain⟨hsafe,hpre,W,hW⟩:=j.toJR.upF q hd;obtain⟨tS,h1,h2⟩:=LR q hW;obtain⟨k,t,hk,hn,ht⟩:=j.tl;refine⟨tS,h1,h2,?_⟩;obtain⟨r,hr⟩:=hpre;have hsplit:h.S.Choices=(durC n items h.D.Sectors).take k++((durC n items h.D.Sectors).drop k++r):=by rw[<- RT,So,hr]
 rw[hsplit]at h1;obtain⟨t',e,g1,g2,_⟩:=h1.later q.S _ J;have:=hn.one q.S g1;subst this;rw[g2,SC];exact ht.trans (List.prefix_append _ _)
theorem xO {a b:U Item}(h:a.map kvP <+: b.map kvP):fw a b=true:=by have h1:=h.length_le;rw[RZ,RZ]at h1;have h2:=List.prefix_iff_eq_take.1 h;rw[RZ]at h2;unfold fw;rw[decide_eq_true_eq];exact⟨by rw[Tg];exact h2,h1⟩
theorem JT.comp (q:SrcQ n items)(j:JT n items E h)(hd:h.Down=false):fw h.Told h.S.Out=true∨fw h.S.Out h.Told=true:=by
 obtain⟨t,_,h2,h3⟩:=j.pre q hd;have h4:h.S.Out.map kvP <+: t.out.map kvP:=h2.map kvP;rcases List.prefix_or_prefix_of_prefix h3 h4 with h5|h5
 .exact .inl (xO h5)
 .exact .inr (xO h5)
theorem Ji {a b:U α}(h:a <+: b){k:Nat}(hk:k<=a.length):b.take k=a.take k:=by obtain⟨r,rfl⟩:=h;rw[List.take_append_of_le_length hk]
theorem JT.keep (j:JT n items E h){h':Shop}(jr:JR n items E' h')(hd:durC n items h.D.Sectors <+: durC n items h'.D.Sectors)(ht:h'.Told=h.Told):JT n items E' h':=by obtain⟨k,t,hk,hn,hp⟩:=j.tl;refine⟨jr,k,t,SA hk hd.length_le,?_,by rw[ht];exact hp⟩;rw[Ji hd hk];exact hn
theorem Cq (p:α->Bool):∀(A:U α) {X B:U α},X <+: A++B->(∀y,y∈B->p y=false)->X.takeWhile p <+: A
 | [],X,B,h,hB=>by
  cases X with
  |nil=>exact List.nil_prefix
  |cons x X=>
   have hx:x∈B:=h.subset RM;rw[List.takeWhile_cons,hB x hx];exact List.nil_prefix
 | a::A,X,B,h,hB=>by
  cases X with
  |nil=>exact List.nil_prefix
  | cons x X=>
   rw[Tf,List.cons_prefix_cons]at h;obtain⟨rfl,h⟩:=h;rw[List.takeWhile_cons];cases hx:p x with
   |false=>exact List.nil_prefix
   |true=>
    have:=Cq p A h hB;simp only[if_true];rw[List.cons_prefix_cons];exact⟨J,this⟩
theorem L6 (l:U Item):(l.map ic).map kvP=l.map kvP:=by rw[SQ];rfl
theorem JT.tell (q:SrcQ n items)(j:JT n items E h)(hd:h.Down=false)(h0:(cB h.Told h.S.Out h.Safe).2=0):JT n items E { h with Told:=h.Told++(cB h.Told h.S.Out h.Safe).1 }/\h.Told.map kvP <+: (h.Told++(cB h.Told h.S.Out h.Safe).1).map kvP:=by
 refine⟨?_,by rw[SC];exact List.prefix_append _ _⟩;have jr:=j.toJR.tell _ j.toJS.tell;obtain⟨hsafe,hpre,W,hW⟩:=j.toJR.upF q hd;obtain⟨tS,h1,h2,h3⟩:=j.pre q hd;unfold cB at h0 jr ⊢;by_cases c1:2000<h.Told.length
 .rw[if_pos c1]at h0;exact absurd h0 (by decide)
 rw[if_neg c1]at h0 jr ⊢;by_cases c2:(gj h.S.Out h.Safe).2≠0
 .rw[if_pos c2]at h0;exact absurd h0 c2
 rw[if_neg c2]at h0 jr ⊢;by_cases c3:fw h.Told h.S.Out=false/\fw h.S.Out h.Told=false
 .rw[if_pos c3]at h0;exact absurd h0 (by decide)
 rw[if_neg c3]at h0 jr ⊢;by_cases c4:eU h.S.Out h.Safe<=h.Told.length
 .rw[if_pos c4]at jr ⊢;exact j.keep jr (List.prefix_refl _) (by simp)
 rw[if_neg c4]at jr ⊢;obtain⟨r,hr⟩:=hpre;rw[<- hr]at h1;obtain⟨t,e,g1,g2,g3⟩:=h1.later q.S _ J;have hw:h.S.Out.takeWhile (λx=>decide (x.Dep<=h.Safe)) <+: t.out:=Cq _ t.out (by rw[<- g2];exact h2) (λy hy=>by have:=g3 y hy;rw[hsafe];simp;omega)
 have htk:h.S.Out.take (eU h.S.Out h.Safe)=h.S.Out.takeWhile (λx=>decide (x.Dep<=h.Safe)):=(List.prefix_iff_eq_take.1 (List.takeWhile_prefix _)).symm;rw[htk]at jr ⊢;have hlen:h.Told.length<(h.S.Out.takeWhile (λx=>decide (x.Dep<=h.Safe))).length:=by have:eU h.S.Out h.Safe=(h.S.Out.takeWhile (λx=>decide (x.Dep<=h.Safe))).length:=rfl;omega
 generalize h.S.Out.takeWhile (λx=>decide (x.Dep<=h.Safe))=X at hw hlen jr ⊢;have hX:X.map kvP <+: tS.out.map kvP:=by rw[g2,SC];exact(hw.map kvP).trans (List.prefix_append _ _)
 have hTX:h.Told.map kvP <+: X.map kvP:=List.prefix_of_prefix_length_le h3 hX (by rw[RZ,RZ];omega);have heq:(h.Told++(X.drop h.Told.length).map ic).map kvP=X.map kvP:=by rw[SC,L6];have:=List.prefix_iff_eq_take.1 hTX;rw[RZ]at this;rw[this,<- Tg,<- SC,So]
 refine⟨jr,(durC n items h.D.Sectors).length,t,RJ _,by rw[SS];exact g1,?_⟩;show(h.Told++(X.drop h.Told.length).map ic).map kvP <+: _;rw[heq];exact hw.map kvP
theorem JT.do (q:SrcQ n items)(j:JT n items E h)(k a:Int)(h0:(doP h k a).2=0):∃E',JT n items E' (doP h k a).1/\durC n items h.D.Sectors <+: durC n items (doP h k a).1.D.Sectors/\h.Told.map kvP <+: (doP h k a).1.Told.map kvP:=by
 by_cases hd:h.Down=true
 .by_cases h6:k=6
  .subst h6;obtain⟨b,cs,t,_,_,_,hup,hj⟩:=j.toJR.up q hd a;rw[hup]at hj ⊢;exact⟨E,j.keep hj (List.prefix_refl _) J,List.prefix_refl _,List.prefix_refl _⟩
  .exfalso;rw[gS hd,if_pos h6]at h0;exact absurd h0 (by decide)
 have hdf:h.Down=false:=by simpa using hd
 obtain⟨E1,j1⟩:=j.toJR.do q k a h0;by_cases h1:k=1
 .subst h1;rw[doP_1 hdf]at h0 j1 ⊢;by_cases hr:aB h.N h.Items h.S=[]
  .rw[if_pos hr]at h0;exact absurd h0 (by decide)
  .rw[if_neg hr]at j1 ⊢;exact⟨E1,j.keep j1 (List.prefix_refl _) J,List.prefix_refl _,List.prefix_refl _⟩
 by_cases h2:k=2
 .subst h2;rw[doP_2 hdf]at h0 j1 ⊢;by_cases hl:0<=h.Laid
  .rw[if_pos hl]at h0;exact absurd h0 (by decide)
  rw[if_neg hl]at h0 j1 ⊢;by_cases he:(bP h.Epoch.toNat h.D.Sectors (h.S.Choices.drop h.Logged.toNat).length h.Next.toNat (h.S.Choices.drop h.Logged.toNat) h.D.Wait).2.2=0
  .obtain⟨cs,e1,_,_,_,_⟩:=j.toJS.write hdf hl he;rw[if_neg (by simpa using he),e1]at j1 ⊢;exact⟨E1,j.keep j1 (List.prefix_refl _) J,List.prefix_refl _,List.prefix_refl _⟩
  .rw[if_pos he]at h0;exact absurd h0 he
 by_cases h3:k=3
 .subst h3;obtain⟨E2,g,j2⟩:=j.toJR.flushG hdf a;have hg:=CH q g j.held j.e2 j2.held j2.e2;have ht:(doP h 3 a).1.Told=h.Told:=by rw[doP_3 hdf];split<;>rfl
  exact⟨E2,j.keep j2 hg ht,hg,by rw[ht];exact List.prefix_refl _⟩
 by_cases h4:k=4
 .subst h4;rw[doP_4 hdf]at h0 j1 ⊢;by_cases he:(cB h.Told h.S.Out h.Safe).2=0
  .rw[if_neg (not_not_intro he)]at j1 ⊢;obtain⟨g1,g2⟩:=j.tell q hdf he;exact⟨E,g1,List.prefix_refl _,g2⟩
  .rw[if_pos he]at h0;exact absurd h0 he
 by_cases h5:k=5
 .subst h5;rw[doP_5 hdf]at h0 ⊢;by_cases hc:a<0∨h.D.Wait.length<a
  .rw[if_pos hc]at h0;exact absurd h0 (by decide)
  .rw[if_neg hc];obtain⟨E2,g,j2⟩:=j.toJR.cutG q hdf a.toNat;have hg:=CH q g j.held j.e2 j2.held j2.e2;exact⟨E2,j.keep j2 hg J,hg,List.prefix_refl _⟩
 by_cases h7:k=7
 .subst h7;rw[doP_7 hdf]at h0 j1 ⊢;by_cases hl:0<=h.Laid
  .rw[if_pos hl]at h0;exact absurd h0 (by decide)
  rw[if_neg hl]at h0 j1 ⊢;by_cases h200:h.Epoch=200
  .rw[if_pos h200]at h0;exact absurd h0 (by decide)
  rw[if_neg h200]at h0 j1 ⊢;by_cases hb:60<=((bb h.S).length+49)/ 50∨300<h.D.Wait.length+(((bb h.S).length+49)/ 50+1)
  .rw[if_pos hb]at h0;exact absurd h0 (by decide)
  rw[if_neg hb]at j1 ⊢;exact⟨E1,j.keep j1 (List.prefix_refl _) J,List.prefix_refl _,List.prefix_refl _⟩
 .exfalso;rw[te hdf a ⟨h1,h2,h3,h4,h5,h7⟩]at h0;exact absurd h0 (by decide)
theorem FX (ep:Nat)(S:U (U UInt8)):∀(n a:Nat) (l:U Choice) (w:U Write),(bP ep S n a l w).2.2=0∨(bP ep S n a l w).2.2=2∨(bP ep S n a l w).2.2=3∨(bP ep S n a l w).2.2=8
 |0,a,l,w=>.inl J
 | n+1,a,l,w=>by
  unfold bP;by_cases h1:l=[]
  .rw[if_pos h1];exact .inl J
  rw[if_neg h1];by_cases h2:(dD (l.take 29)).2≠0
  .rw[if_pos h2];show(dD (l.take 29)).2=0∨_;unfold dD;split
   .exact .inr (.inl J)
   split
   .exact .inl J
   .exact .inr (.inr (.inl J))
  rw[if_neg h2];split
  .exact .inr (.inr (.inr J))
  split
  .exact .inr (.inr (.inr J))
  .exact FX ep S n _ _ _
theorem JT.err (q:SrcQ n items)(j:JT n items E h)(k a:Int):(doP h k a).2≠4/\(doP h k a).2≠11/\(k=6->h.Down=true->(doP h k a).2=0):=by
 by_cases hd:h.Down=true
 .by_cases h6:k=6
  .subst h6;obtain⟨b,cs,t,_,_,_,hup,hj⟩:=j.toJR.up q hd a;rw[hup];exact⟨(by decide:(0:Int)≠4),(by decide:(0:Int)≠11),λ_ _=>J⟩
  .rw[gS hd,if_pos h6];exact⟨by decide,by decide,λh=>absurd h h6⟩
 have hdf:h.Down=false:=by simpa using hd
 have key:∀{e:Int},e=0∨e=2∨e=3∨e=8∨e=10∨e=13->e≠4/\e≠11/\(k=6->h.Down=true->e=0):=λhe=>⟨by omega,by omega,λ_ h=>absurd h hd⟩
 apply key;by_cases h1:k=1
 .subst h1;rw[doP_1 hdf];split
  .exact .inr (.inr (.inr (.inr (.inl J))))
  .exact .inl J
 by_cases h2:k=2
 .subst h2;rw[doP_2 hdf];split
  .exact .inr (.inr (.inr (.inr (.inl J))))
  split
  .rcases FX h.Epoch.toNat h.D.Sectors (h.S.Choices.drop h.Logged.toNat).length h.Next.toNat (h.S.Choices.drop h.Logged.toNat) h.D.Wait with e|e|e|e
   .exact .inl e
   .exact .inr (.inl e)
   .exact .inr (.inr (.inl e))
   .exact .inr (.inr (.inr (.inl e)))
  .exact .inl J
 by_cases h3:k=3
 .subst h3;rw[doP_3 hdf];split<;>exact .inl J
 by_cases h4:k=4
 .subst h4;rw[doP_4 hdf];split
  .show(cB h.Told h.S.Out h.Safe).2=0∨_;unfold cB;split
   .exact .inr (.inl J)
   split
   .show(gj h.S.Out h.Safe).2=0∨_;unfold gj;split
    .exact .inr (.inl J)
    split
    .exact .inr (.inr (.inl J))
    .exact .inl J
   split
   .rename_i hc;exfalso;rcases j.comp q hdf with e|e
    .rw[hc.1]at e;cases e
    .rw[hc.2]at e;cases e
   split<;>exact .inl J
  .exact .inl J
 by_cases h5:k=5
 .subst h5;rw[doP_5 hdf];split
  .exact .inr (.inr (.inl J))
  .exact .inl J
 by_cases h7:k=7
 .subst h7;rw[doP_7 hdf];split
  .exact .inr (.inr (.inr (.inr (.inl J))))
  split
  .exact .inr (.inr (.inr (.inl J)))
  split
  .exact .inr (.inr (.inr (.inl J)))
  .exact .inl J
 .rw[te hdf a ⟨h1,h2,h3,h4,h5,h7⟩];exact .inr (.inr (.inr (.inr (.inr J))))
theorem JT.start (q:SrcQ n items):JT n items 0 (newH n items):=by obtain⟨u,t,h1,h2,h3⟩:=yL q.S _ (aX (aS n items)) (RJ _);exact⟨JR.start q.S,0,t,Sb _,by rw[List.take_zero];exact .nil h1 h2 h3,List.nil_prefix⟩
end
end
section
structure Wk (K O:Type) where
 seen:List K
 runs:Nat
 out:List O
def jX{S K O:Type}(g:S->Wk K O->Option (Bool×Wk K O)):List S->Wk K O->Option (Bool×Wk K O)
 |[],w=>some (true,w)
 |s::ss,w=>match g s w with
  |none=>none
  |some (false,w')=>some (false,w')
  |some (true,w')=>jX g ss w'
section
variable {S K M O:Type} [DecidableEq K] (calm:S→S) (nm:S→K) (rdy:S→List M) (go:S→M→S) (pl:S→O) (cap:Nat)
def walkD:Nat->S->Wk K O->Option (Bool×Wk K O)
 |0,_,_=>none
 |f+1,s,w=>
  if nm (calm s)∈w.seen then some (true,w)
  else if cap<w.runs+1 then some (false,⟨nm (calm s)::w.seen,w.runs+1,w.out⟩)
  else if rdy (calm s)=[]then some (true,⟨nm (calm s)::w.seen,w.runs+1,w.out++[pl (calm s)]⟩)
  else jX (walkD f) ((rdy (calm s)).map (go (calm s))) ⟨nm (calm s)::w.seen,w.runs+1,w.out⟩
structure Vis (from_:List S) (w w':Wk K O) (V:List S):Prop where
 seen:w'.seen=V.map nm++w.seen
 runs:w'.runs=w.runs+V.length
 sub:∃l,w'.out=w.out++l/\∀o,o∈l->∃c,c∈V/\rdy c=[]/\o=pl c
 new:∀c,c∈V->nm c∉w.seen
 nodup:(V.map nm).Nodup
 fin:∀c,c∈V->rdy c=[]->pl c∈w'.out
 nxt:∀c,c∈V->∀m,m∈rdy c->nm (calm (go c m))∈w'.seen
 here:∀s,s∈from_->nm (calm s)∈w'.seen
 all:∀P:S->Prop,(∀s,s∈from_->P (calm s))->(∀c m,P c->m∈rdy c->P (calm (go c m)))->∀c,c∈V->P c
variable {calm nm rdy go pl cap}
omit [DecidableEq K]in
theorem En{g:S->Wk K O->QbQ (Bool×Wk K O)}(hg:∀s w w',g s w=some (true,w')->∃V,Vis calm nm rdy go pl [s] w w' V):
  ∀(ss:U S) (w w':Wk K O),jX g ss w=some (true,w')->∃V,Vis calm nm rdy go pl ss w w' V
 |[],w,w',h=>by
  simp only[jX,SV,Prod.mk.injEq,true_and]at h;subst h;exact⟨[],by simp,by simp,⟨[],by simp,λo h=>(Sd h).elim⟩,λc h=>(Sd h).elim,by simp,λc h=>(Sd h).elim,λc h=>(Sd h).elim,λc h=>(Sd h).elim,λP _ _ c h=>(Sd h).elim⟩
 | s ::ss,w,w',h=>by
  unfold jX at h;cases hs:g s w with
  |none=>rw[hs]at h;cases h
  | some r=>
   obtain⟨b,w1⟩:=r;rw[hs]at h;cases b with
   |false=>simp at h
   | true=>
    obtain⟨V1,v1⟩:=hg s w w1 hs;obtain⟨V2,v2⟩:=En hg ss w1 w' h;obtain⟨l1,e1,o1⟩:=v1.sub;obtain⟨l2,e2,o2⟩:=v2.sub;have up:∀k,k∈w1.seen->k∈w'.seen:=λk hk=>by rw[v2.seen];exact List.mem_append_right _ hk
    refine⟨V2++V1,?_,?_,⟨l1++l2,?_,λo ho=>?_⟩,λc hc=>?_,?_,λc hc hr=>?_,λc hc m hm=>?_,λt ht=>?_,λP h1 h2 c hc=>?_⟩
    .rw[v2.seen,v1.seen];simp
    .rw[v2.runs,v1.runs,RN];omega
    .rw[e2,e1,RT]
    .rcases RY.1 ho with ho|ho
     .obtain⟨c,h1,h2⟩:=o1 o ho;exact⟨c,List.mem_append_right _ h1,h2⟩
     .obtain⟨c,h1,h2⟩:=o2 o ho;exact⟨c,List.mem_append_left _ h1,h2⟩
    .rcases RY.1 hc with hc|hc
     .exact λhk=>v2.new c hc (by rw[v1.seen];exact List.mem_append_right _ hk)
     .exact v1.new c hc
    .rw[SC,List.nodup_append];refine⟨v2.nodup,v1.nodup,λa ha b hb e=>?_⟩;subst e;obtain⟨c,hc,rfl⟩:=R3.1 ha;exact v2.new c hc (by rw[v1.seen];exact List.mem_append_left _ hb)
    .rcases RY.1 hc with hc|hc
     .exact v2.fin c hc hr
     .rw[e2];exact List.mem_append_left _ (v1.fin c hc hr)
    .rcases RY.1 hc with hc|hc
     .exact v2.nxt c hc m hm
     .exact up _ (v1.nxt c hc m hm)
    .rcases Sa.1 ht with rfl|ht
     .exact up _ (v1.here _ (RW.2 J))
     .exact v2.here t ht
    .rcases RY.1 hc with hc|hc
     .exact v2.all P (λt ht=>h1 t (RQ _ ht)) h2 c hc
     .exact v1.all P (λt ht=>by rw[RW]at ht;subst ht;exact h1 t RM) h2 c hc
theorem DH:∀(f:Nat) (s:S) (w w':Wk K O),walkD calm nm rdy go pl cap f s w=some (true,w')->∃V,Vis calm nm rdy go pl [s] w w' V
 |0,s,w,w',h=>by simp[walkD]at h
 | f + 1,s,w,w',h=>by
  unfold walkD at h;split at h
  .rename_i hin;simp only[SV,Prod.mk.injEq,true_and]at h;subst h;exact⟨[],by simp,by simp,⟨[],by simp,λo h=>(Sd h).elim⟩,λc h=>(Sd h).elim,by simp,λc h=>(Sd h).elim,λc h=>(Sd h).elim,λt ht=>by rw[RW]at ht;subst ht;exact hin,λP _ _ c h=>(Sd h).elim⟩
  .rename_i hin;split at h
   .simp at h
   .split at h
    .rename_i hr;simp only[SV,Prod.mk.injEq,true_and]at h;subst h;refine⟨[calm s],J,J,⟨[pl (calm s)],J,λo ho=>?_⟩,λc hc=>?_,by simp,λc hc _=>?_,λc hc m hm=>?_,λt ht=>?_,λP h1 h2 c hc=>?_⟩
     .rw[RW]at ho;exact⟨calm s,RW.2 J,hr,ho⟩
     .rw[RW]at hc;subst hc;exact hin
     .rw[RW]at hc;subst hc;simp
     .rw[RW]at hc;subst hc;rw[hr]at hm;exact(Sd hm).elim
     .rw[RW]at ht;subst ht;exact RM
     .rw[RW]at hc;subst hc;exact h1 s (RW.2 J)
    .rename_i hr;obtain⟨V,v⟩:=En (λs w w' h=>DH f s w w' h) _ _ _ h;obtain⟨l,e,o⟩:=v.sub;refine⟨V++[calm s],?_,?_,⟨l,e,λx hx=>?_⟩,λc hc=>?_,?_,λc hc hr'=>?_,λc hc m hm=>?_,λt ht=>?_,λP h1 h2 c hc=>?_⟩
     .rw[v.seen];simp
     .rw[v.runs,RN];simp only[S4];omega
     .obtain⟨c,h1,h2⟩:=o x hx;exact⟨c,List.mem_append_left _ h1,h2⟩
     .rcases RY.1 hc with hc|hc
      .exact λhk=>v.new c hc (RQ _ hk)
      .rw[RW]at hc;subst hc;exact hin
     .rw[SC,List.nodup_append];refine⟨v.nodup,by simp,λa ha b hb e=>?_⟩;subst e;obtain⟨c,hc,rfl⟩:=R3.1 ha;simp only[Se,List.map_nil,RW]at hb;exact v.new c hc (by rw[hb];exact RM)
     .rcases RY.1 hc with hc|hc
      .exact v.fin c hc hr'
      .rw[RW]at hc;subst hc;exact absurd hr' hr
     .rcases RY.1 hc with hc|hc
      .exact v.nxt c hc m hm
      .rw[RW]at hc;subst hc;exact v.here _ (R3.2 ⟨m,hm,J⟩)
     .rw[RW]at ht;subst ht;rw[v.seen];exact List.mem_append_right _ RM
     .rcases RY.1 hc with hc|hc
      .exact v.all P (λt ht=>by obtain⟨m,hm,rfl⟩:=R3.1 ht;exact h2 _ _ (h1 s (RW.2 J)) hm) h2 c hc
      .rw[RW]at hc;subst hc;exact h1 s (RW.2 J)
end
end
section
def fa(n:Net)(m:Move):Bool:=!decide ((ab n m.Node.toNat).Kind=6)
def gk(n:Net)(items:List (List Item)):Nat->State->State
 |0,s=>s
 |f+1,s=>match(aB n items s).find? (fa n)with
  |none=>s
  |some m=>gk n items f (doMv n items s m)
def cY(n:Net)(items:List (List Item))(s:State):State:=gk n items 1000000000000000000 s
theorem Inv.mu_le{n:Net}{items:U (U Item)}{s:State}(h:Inv n items s):muN n items s<=1000000000000000000:=by obtain⟨B,_,h⟩:=h;omega
def Calm(n:Net)(items:List (List Item))(s:State):Prop:=(aB n items s).find? (fa n)=none
section
variable {n:Net} {items:List (List Item)}
variable {s c e:State}{m:Move}{w a b u:U (Nat×Nat)}{d:MSt (Int×Int) (Int×U Keyed) Unit}
theorem pS (h:(aB n items s).find? (fa n)=some m):m∈aB n items s/\(ab n m.Node.toNat).Kind≠6:=by refine⟨SM h,?_⟩;have:=List.find?_some h;simpa [fa]using this
theorem xI (hS:RightS n items):∀(f:Nat) (s:State),Inv n items s->Inv n items (gk n items f s)/\muN n items (gk n items f s)<=muN n items s
 |0,s,h=>⟨h,RJ _⟩
 |f+1,s,h=>by
  unfold gk;split
  .exact⟨h,RJ _⟩
  .rename_i m hm;have h1:=Inv.doMv hS h (pS hm).1;have h2:=xI hS f _ h1.1;exact⟨h2.1,by omega⟩
theorem Co (hS:RightS n items):∀(f:Nat) (s:State),Inv n items s->muN n items s<=f->Calm n items (gk n items f s)
 |0,s,h,hf=>by
  show(aB n items s).find? (fa n)=none;cases hr:(aB n items s).find? (fa n)with
  |none=>rfl
  |some m=>have:=(Inv.doMv hS h (pS hr).1).2;omega
 |f+1,s,h,hf=>by
  unfold gk;split
  .assumption
  .rename_i m hm;have h1:=Inv.doMv hS h (pS hm).1;exact Co hS f _ h1.1 (by omega)
theorem Cp (hS:RightS n items):∀(f:Nat) (s:State),Inv n items s->∃u,Run (bh n items) n (some n.Room.toNat) (aX s) u (aX (gk n items f s))/\chW n u=[]
 |0,s,h=>⟨[],.nil _,J⟩
 |f+1,s,h=>by
  unfold gk;split
  .exact⟨[],.nil _,J⟩
  .rename_i m hm;obtain⟨h1,h2⟩:=pS hm;obtain⟨u,hu,hc⟩:=Cp hS f _ (Inv.doMv hS h h1).1;obtain⟨B,ok,hB⟩:=h;refine⟨_,.cons (ex_mv hS ok h1) hu,?_⟩;unfold chW at hc ⊢;rw[SU (by simpa using h2)];exact hc
theorem pN (hS:RightS n items)(h:Inv n items s):Inv n items (cY n items s)/\Calm n items (cY n items s)/\muN n items (cY n items s)<=muN n items s:=
 ⟨(xI hS _ s h).1,Co hS _ s h h.mu_le,(xI hS _ s h).2⟩
theorem yA (u v:U (Nat×Nat)):chW n (u++v)=chW n u++chW n v:=by simp[chW]
theorem xo (hS:RightS n items)(h:Reach n items w s):∃u,Reach n items (w++u) (cY n items s)/\chW n u=[]:=by obtain⟨u,hu,hc⟩:=Cp hS 1000000000000000000 s h.inv;exact⟨u,⟨(pN hS h.inv).1,h.run.app hu⟩,hc⟩
theorem Dd (hS:RightS n items)(h:Reach n items w s):(cY n items s).Choices=s.Choices:=by obtain⟨u,h1,h2⟩:=xo hS h;rw[iB h1,yA,h2,Sg,iB h]
theorem vr (hS:RightS n items)(h:Reach n items w s)(hm:m∈aB n items s):Reach n items (w++[(m.Node.toNat,m.Lane.toNat)]) (doMv n items s m):=by obtain⟨B,ok,hB⟩:=h.inv;exact⟨(Inv.doMv hS h.inv hm).1,h.run.app (.cons (ex_mv hS ok hm) (.nil _))⟩
theorem ID (h:∀i,bI i a=bI i b):a.Perm b:=by
 rw[List.perm_iff_count];intro x;have key:∀l:U (Nat×Nat),l.count x=(bI x.1 l).count x:=λl=>by unfold bI;rw[List.count_filter (by simp)]
 rw[key a,key b,h]
theorem F6 (h:∀i,bI i a=bI i b):(chW n a).length=(chW n b).length:=by unfold chW;rw[RZ,RZ];exact((ID h).filter _).length_eq
theorem u6 (i:Nat)(h6:(ab n i).Kind=6)(w:U (Nat×Nat)):bp (chW n w) i=(bI i w).map λm=>(m.2:Int):=by
 induction w with
 |nil=>rfl
 | cons m w ih=>
  rw[fj];by_cases hm:(ab n m.1).Kind=6
  .have e:chW n (m::w)=⟨m.1,m.2⟩::chW n w:=by
    unfold chW;rw[S6 (by simpa using hm)];rfl
   rw[e];unfold bp at ih ⊢;by_cases hi:m.1=i
   .rw[if_pos hi,S6 (by simp[hi])];simp only[Se];rw[ih]
   .rw[if_neg hi,SU (by simp;omega),ih]
  .have e:chW n (m::w)=chW n w:=by
    unfold chW;rw[SU (by simpa using hm)]
   have hi:¬m.1=i:=λe=>hm (by rw[e];exact h6)
   rw[e,if_neg hi,ih]
theorem NN (hS:RightS n items)(hI:Inv n items c)(hc:Calm n items c)(h5:c.Choices.length<500)(h2:c.Out.length<2000){m:Nat×Nat}(h:Ex (fV n items) n (some n.Room.toNat) (era (aX c)) m d):(ab n m.1).Kind=6/\(⟨m.1,m.2⟩:Move)∈aB n items c/\era (aX (doMv n items c ⟨m.1,m.2⟩))=d:=by
 obtain⟨c',h1,h3⟩:=wm h
 have hcan:=vh (i:=m.1) (k:=m.2) hS h1 (λ_=>by omega) (λ_=>by omega)
 have hmem:=r7 h1.1.1 h1.1.2 hcan
 refine⟨?_,hmem,?_⟩
 .have:=List.find?_eq_none.1 hc _ hmem
  simpa [fa]using this
 .obtain⟨B,ok,hB⟩:=hI
  have h4:Ex (bh n items) n (some n.Room.toNat) (aX c) m (aX (doMv n items c ⟨m.1,m.2⟩)):=ex_mv hS ok hmem
  rw[h4.det h1,h3]
theorem BE (hS:RightS n items)(hc:Reach n items u c)(he:Reach n items w e)(h:∀i,(ab n i).Kind=6->Comp (bp c.Choices i) (bp e.Choices i)):
  ∃p q d,Run (fV n items) n (some n.Room.toNat) (era (aX c)) p d/\Run (fV n items) n (some n.Room.toNat) (era (aX e)) q d/\∀i,bI i (u++p)=bI i (w++q)/\(bI i p=[]∨bI i q=[]):=by
 refine L3 hS.toRightN (pX hS) (E:=fV n items) (λ_ _ _=>J) (Ff hc.run) (Ff he.run) λi=>?_
 refine Ih (nG hc.run) (nG he.run) (λi h6=>?_) i
 rw[<- iB hc,<- iB he]
 exact h i h6
theorem Fk {p:U (Nat×Nat)}(h:Run (fV n items) n (some n.Room.toNat) (era (aX c)) p d):c.Out.length<=d.out.length:=by have:=(Run.out_pre h).length_le;simpa [era,aX]using this
theorem Cl (hS:RightS n items)(hc:Reach n items u c)(he:Reach n items w e)(kc:Calm n items c)(hr:aB n items e=[])(h5:e.Choices.length<500)(h2:e.Out.length<2000)(h:∀i,(ab n i).Kind=6->bp c.Choices i <+: bp e.Choices i):
  (c.Choices.length<500/\c.Out.length<2000)/\((aB n items c=[]/\era (aX c)=era (aX e))∨
  ∃m,m∈aB n items c/\∀i,(ab n i).Kind=6->bp (doMv n items c m).Choices i <+: bp e.Choices i):=by
 obtain⟨p,q,d,hp,hq,hpq⟩:=BE hS hc he λi h6=>.inl (h i h6)
 have hq0:q=[]:=by
  cases q with
  |nil=>rfl
  |cons m q=>
   cases hq with
   |cons hx _=>exact(Cn hS he.inv h5 h2 hr hx).elim
 subst hq0
 have hd:=hq.nil_inv
 subst hd
 have ho:=Fk hp
 have ho':c.Out.length<2000:=by simp[era,aX]at ho;omega
 have hcl:c.Choices.length<500:=by
  have h1:=F6 (n:=n) λi=>(hpq i).1
  rw[yA,Sg,RN,<- iB hc,<- iB he]at h1;omega
 refine⟨⟨hcl,ho'⟩,?_⟩
 cases p with
 | nil=>
  left
  have h1:=hp.nil_inv
  refine⟨?_,h1.symm⟩
  cases hm:aB n items c with
  |nil=>rfl
  |cons m l=>
   have hmem:m∈aB n items c:=by rw[hm];exact RM
   obtain⟨B,ok,hB⟩:=hc.inv
   have hx:=Gv (ex_mv hS ok hmem)
   rw[<- h1]at hx
   exact(Cn hS he.inv h5 h2 hr hx).elim
 | cons m p=>
  right
  cases hp with
  |cons hx hp=>
   obtain⟨h6,hmem,hera⟩:=NN hS hc.inv kc hcl ho' hx
   refine⟨_,hmem,λi hi=>?_⟩
   have hdr:=vr hS hc hmem
   rw[iB hdr,iB he,u6 i hi,u6 i hi]
   have h1:=(hpq i).1
   rw[Sg]at h1
   rw[<- h1]
   refine⟨(bI i p).map λm=>(m.2:Int),?_⟩
   rw[<- SC,<- hY]
   simp
end
end
section
def LeO{α:Type}(a b:Option α):Prop:=∀v,a=some v->b=some v
section
variable {α β:Type}{F:(α->QbQ β)->α->QbQ β}
theorem LeO.refl (a:QbQ α):LeO a a:=λ_ h=>h
theorem LeO.bind {x y:QbQ α}{f g:α->QbQ β}(h:LeO x y)(k:∀v,LeO (f v) (g v)):LeO (Option.bind x f) (Option.bind y g):=λv e=>by obtain⟨a,h1,h2⟩:=Option.bind_eq_some_iff.1 e;rw[h a h1];exact k a v h2
theorem LeO.ite {c:Prop}[Decidable c]{a b a' b':QbQ α}(h:LeO a a')(k:LeO b b'):LeO (if c then a else b) (if c then a' else b'):=by
 split
 .exact h
 .exact k
theorem O9 {f g:α->QbQ (α⊕β)}(h:∀s,LeO (f s) (g s))(s:α):LeO (iter f s) (iter g s):=λr e=>by
 obtain⟨m,hs⟩:=sB.1 e;refine sB.2 ⟨m,?_⟩;clear e;induction hs with
 |done e=>exact .done (h _ _ e)
 |step e _ ih=>exact .step (h _ _ e) ih
def MonoR{α β:Type}(F:(α->Option β)->α->Option β):Prop:=∀r r',(∀a,LeO (r a) (r' a))->∀a,LeO (F r a) (F r' a)
theorem xW (hF:MonoR F):∀n k a,LeO (fd F n a) (fd F (n+k) a)
 |0,k,a=>λv h=>by cases h
 |n+1,k,a=>by rw[show n+1+k=(n+k)+1 by omega];exact hF _ _ (λa=>xW hF n k a) a
theorem NU (hF:MonoR F){a:α}{n:Nat}{r:β}(h:fd F n a=some r):fixR F a=some r:=by obtain⟨r',h'⟩:=OT h;obtain⟨m,hm⟩:=CD h';have h1:=xW hF n m a r h;have h2:=xW hF m n a r' hm;rw[Tu,h1]at h2;cases h2;exact h'
def d8(x:Item):Item:=⟨x.Key,x.Val,0⟩
theorem Dv (l:U Item)(h1:l.length<=2000):kw l=some (l.map d8,0):=by
 unfold kw;rw[if_neg (by simp;omega)];unfold fh;rw[cC (by simp;omega)];simp only[SG,RF];have key:∀(ys pre:U Item),pre.length+ys.length<=2000->∀(x2:U Item),x2.length=pre.length+ys.length ->
   iter (λss:Int×U Item=>iS x2 ss.1 ss.2) ((pre.length:Int),pre++ys)=some (pre++ys.map d8,0):=by
  intro ys
  induction ys with
  |nil=>
   intro pre hp x2 hx
   rw[aE]
   unfold iS
   simp at hx
   rw[if_neg (by simp[hx])]
   simp
  |cons y ys ih=>
   intro pre hp x2 hx
   simp only[R8]at hp hx
   have e1:ixN (pre++y::ys) (pre.length:Int)=some pre.length:=cP (by simp)
   have e2:(pre++y::ys)[pre.length]?=some y:=by simp
   have e3:(pre++y::ys).set pre.length (d8 y)=(pre++[d8 y])++ys:=by simp[List.set_append]
   have e4:IntKind.i64.wrap ((pre.length:Int)+1)=((pre++[d8 y]).length:Int):=by rw[bf (by omega)];simp
   have e5:iS x2 (pre.length:Int) (pre++y::ys)=some (.inl (((pre++[d8 y]).length:Int),(pre++[d8 y])++ys)):=by unfold iS;rw[if_pos (by simp[hx];omega),e1,RF,e2,RF,e4,show(⟨y.Key,y.Val,0⟩:Item)=d8 y from J,e3]
   rw[aE,e5]
   simp only
   rw[ih (pre++[d8 y]) (by simp;omega) x2 (by simp;omega)]
   simp
 have:=key l [] (by simpa using h1) l (by simp);simpa using this
def digW(k:Int):List UInt8:=Go.Lib.decDigits k.toNat++[44]
def encW(l:List Int):List UInt8:=l.flatMap digW++[59]
def fB(n:Net)(s:State):List UInt8:=(df n s.Choices).flatMap encW
theorem Fx {k:Int}(h0:0<=k)(h:k<100):(digW k).length<=3:=by
 have:∀j:Fin 100,(Go.Lib.decDigits j.val++[44]).length<=3:=by decide+kernel
 exact this ⟨k.toNat,by omega⟩
theorem NO (s4:Int)(x:U Int)(hx:x.length<=500)(hr:∀k,k∈x->0<=k/\k<100):∀(m i:Nat) (acc:U UInt8),i+m=x.length->acc.length<=100000+3*i ->
  iter (λss:(U UInt8)×Int=>lw s4 x ss.1 ss.2) (acc,(i:Int))=some (.inl (acc++((x.drop i).flatMap digW++[59]),IntKind.i64.wrap (s4+1))):=by
 intro m
 induction m with
 |zero=>
  intro i acc hi ha
  have hi:i=x.length:=by omega
  subst hi
  have e:lw s4 x acc (x.length:Int)=some (.inr (.inl (acc++[59],IntKind.i64.wrap (s4+1)))):=by unfold lw;rw[if_neg (by simp),jR (by simp;omega)];rfl
  rw[aE];simp only[e]
  rw[Sr];rfl
 |succ m ih=>
  intro i acc hi ha
  have hlt:i<x.length:=by omega
  have hg:x[i]?=some x[i]:=RG hlt
  obtain⟨h0,h1⟩:=hr x[i] (R6 hlt)
  have hd:=Fx h0 h1
  have e:lw s4 x acc (i:Int)=some (.inl (acc++digW x[i],((i+1:Nat):Int))):=by unfold lw itoaW itoaS;rw[if_pos (by simp;omega),bv hg,RF,if_pos ⟨h0,h1⟩,RF,jR (by unfold digW at hd;simp only[RN]at hd;omega),RF];show Option.bind (cat acc (digW x[i])) _=_;rw[jR (by omega),RF,bf (by omega)]
  rw[aE];simp only[e]
  rw[ih (i+1) _ (by omega) (by rw[RN];omega),RL hlt,Sl]
  simp[RT]
theorem NL (x:U Int)(hx:x.length<=500)(hr:∀k,k∈x->0<=k/\k<100):(encW x).length<=1501:=by
 unfold encW;rw[RN,List.length_flatMap];have:∀l:U Int,(∀k,k∈l->0<=k/\k<100)->(l.map λk=>(digW k).length).sum<=3*l.length:=by
  intro l;induction l with
  |nil=>intro _;simp
  |cons a l ih=>
   intro h;have h1:=Fx (h a RM).1 (h a RM).2;have h2:=ih λk hk=>h k (RQ _ hk)
   simp only[Se,S0,R8];omega
 have:=this x hr;simp;omega
theorem NW (x2:U (U Int)×Int)(hl:x2.1.length<=12)(hr:∀x,x∈x2.1->x.length<=500/\∀k,k∈x->0<=k/\k<100):∀(m i:Nat) (acc:U UInt8),i+m=x2.1.length->acc.length<=1501*i ->
  iter (λss:(U UInt8)×Int=>lv x2 ss.1 ss.2) (acc,(i:Int))=some (acc++(x2.1.drop i).flatMap encW):=by
 intro m
 induction m with
 |zero=>
  intro i acc hi ha
  have hi:i=x2.1.length:=by omega
  subst hi
  have e:lv x2 acc (x2.1.length:Int)=some (.inr acc):=by unfold lv;rw[if_neg (by simp)];rfl
  rw[aE];simp only[e]
  rw[Sr];simp
 |succ m ih=>
  intro i acc hi ha
  have hlt:i<x2.1.length:=by omega
  have hg:x2.1[i]?=some x2.1[i]:=RG hlt
  obtain⟨h0,h1⟩:=hr x2.1[i] (R6 hlt)
  have hd:=NL _ h0 h1
  have e:lv x2 acc (i:Int)=some (.inl (acc++encW x2.1[i],((i+1:Nat):Int))):=by unfold lv;rw[if_pos (by simp;omega),bv hg,RF];have:=NO (i:Int) x2.1[i] h0 h1 x2.1[i].length 0 acc (by omega) (by omega);rw[Ss,Sy]at this;rw[this,bf (by omega)];rfl
  rw[aE];simp only[e]
  rw[ih (i+1) _ (by omega) (by rw[RN];omega),RL hlt,Sl,RT]
end
section
variable {n:Net} {items:List (List Item)} (hio:∀x∈n.Nodes,x.In.length≤1099511627776∧x.Out.length≤1099511627776)
variable {s:State}
theorem Kg {B:Int}(hN:(eO n).2=0)(ok:OkS n items B s):RightC n s.Choices:=⟨hN,ok.ch,λc hc=>ok.cho c hc⟩
include hio
theorem OY (hsrc:bt n items=0)(hI:Inv n items s)(p5:Int)(p6:U ((U UInt8)×Unit))(p7:U (U Item)):
  rb s n.Nodes n.Rings n.Room items p5 p6 p7=some (fB n s):=by
 have hS:=eq hsrc
 obtain⟨B,ok,_⟩:=hI
 have hN:(eO n).2=0:=by
  unfold bt at hsrc;split at hsrc
  .rename_i h;exact absurd hsrc h
  .rename_i h;exact Decidable.not_not.1 h
 have hC:=Kg hN ok
 unfold rb
 have e:pp ⟨n.Nodes,n.Rings,n.Room⟩ s.Choices=some (df n s.Choices,0):=by have:=Ir n hio s.Choices;rw[zc,if_neg (by rw[si hC];decide)]at this;exact this
 rw[e,RF]
 have:=NW (df n s.Choices,0) (by rw[u4];exact hS.n2) (λx hx=>by unfold df at hx;obtain⟨i,_,rfl⟩:=R3.1 hx;refine⟨SA (rW _ _) ok.ch,λk hk=>?_⟩;unfold bp at hk;obtain⟨c,hc,rfl⟩:=R3.1 hk;obtain⟨a1,a2,a3,a4,a5⟩:=hC.each c (SL.1 hc).1;have:=pV hS.toRightN (i:=c.Node.toNat) (by omega);unfold bD at this;rw[if_pos a3]at this;omega) (df n s.Choices).length 0 [] (by simp) (by simp)
 rw[Ss,Sy,SG]at this
 exact this
omit hio in
theorem L8 {m:Move}(h0:0<=m.Node)(h1:m.Node<n.Nodes.length)(p5:Int)(p6:U ((U UInt8)×Unit))(p7:U (U Item)):q9 m n.Nodes n.Rings n.Room items p5 p6 p7=some (fa n m):=by unfold q9;rw[show idx n.Nodes m.Node=some (ab n m.Node.toNat)from jg _ h0 h1,RF];unfold fa;by_cases h:(ab n m.Node.toNat).Kind=6<;>simp[h]
omit hio in
theorem DJ (l:U Move)(hl:l.length<=1000)(hm:∀m,m∈l->0<=m.Node/\m.Node<n.Nodes.length)(p5:Int)(p6:U ((U UInt8)×Unit))(p7:U (U Item)):∀(m k:Nat),k+m=l.length ->
  (∃j:Nat,k<=j/\iter (λs:Int=>j8 l n.Nodes n.Rings n.Room items p5 p6 p7 s) (k:Int)=some (j:Int)/\∃x,l[j]?=some x/\(l.drop k).find? (fa n)=some x)∨
  (iter (λs:Int=>j8 l n.Nodes n.Rings n.Room items p5 p6 p7 s) (k:Int)=some (-1)/\(l.drop k).find? (fa n)=none):=by
 intro m
 induction m with
 |zero=>
  intro k hk
  have hk:k=l.length:=by omega
  subst hk
  right
  have e:j8 l n.Nodes n.Rings n.Room items p5 p6 p7 (l.length:Int)=some (.inr (-1)):=by unfold j8;rw[if_neg (by simp)];rfl
  rw[aE];simp only[e]
  rw[Sr];simp
 | succ m ih=>
  intro k hk
  have hlt:k<l.length:=by omega
  have hg:l[k]?=some l[k]:=RG hlt
  obtain⟨h0,h1⟩:=hm l[k] (R6 hlt)
  have e:j8 l n.Nodes n.Rings n.Room items p5 p6 p7 (k:Int)=some (if fa n l[k]=true then .inr (k:Int)else .inl ((k+1:Nat):Int)):=by unfold j8;rw[if_pos (by simp;omega),cP hlt,RF,hg,RF,L8 h0 h1,RF,bf (by omega)];split<;>rfl
  rw[aE];simp only[e]
  rw[RL hlt,List.find?_cons]
  cases hp:fa n l[k]with
  |true=>
   left
   exact⟨k,RJ _,by simp,l[k],hg,J⟩
  |false=>
   simp only[RU,if_false]
   rcases ih (k+1) (by omega)with⟨j,a,b,c⟩|h
   .exact .inl ⟨j,by omega,b,c⟩
   .exact .inr h
theorem Lj (hsrc:bt n items=0)(p5:Int)(p6:U ((U UInt8)×Unit))(p7:U (U Item)):∀(f:Nat) (s:State),Inv n items s->muN n items s<=f ->
  iter (λss:(U Int)×(U (U Item))×(U Memory)×(U Choice)×(U Item)=>jx n.Nodes n.Rings n.Room items p5 p6 p7 ss.1 ss.2.1 ss.2.2.1 ss.2.2.2.1 ss.2.2.2.2) (s.At,s.Rings,s.Memory,s.Choices,s.Out)=
   some (gk n items f s,aB n items (gk n items f s)):=by
 have hS:=eq hsrc
 intro f
 induction f with
 | zero=>
  intro s hI hf
  obtain⟨B,ok,hB⟩:=id hI
  have hr:∀l,l∈s.Rings->l.length<=1099511627776:=(sk hS ok).a6
  have hfind:(aB n items s).find? (fa n)=none:=by
   cases h:(aB n items s).find? (fa n)with
   |none=>rfl
   |some m=>have:=(Inv.doMv hS hI (pS h).1).2;omega
  have e:jx n.Nodes n.Rings n.Room items p5 p6 p7 s.At s.Rings s.Memory s.Choices s.Out=some (.inr (s,aB n items s)):=by
   unfold jx;have hR:fk ⟨n.Nodes,n.Rings,n.Room⟩ items ⟨s.At,s.Rings,s.Memory,s.Choices,s.Out⟩=some (aB n items s,0):=by have:=yd n items s hio hr;rw[if_neg (by simp[k0 hsrc ok])]at this;exact this
   rw[hR,RF];unfold oJ;rcases DJ (aB n items s) (by have:=nC (s:=s) (items:=items) hS.toRightN;omega) (λm hm=>by obtain⟨i,k,rfl,hi,_,_⟩:=hU hm;exact⟨by simp,by simpa using hi⟩) p5 p6 p7 (aB n items s).length 0 (by omega)with⟨j,_,_,x,_,h⟩|⟨h,_⟩
   .rw[Sy,hfind]at h;cases h
   .rw[Ss]at h;rw[h,RF,if_pos (by decide)];rfl
  rw[aE];simp only[e];rfl
 | succ f ih=>
  intro s hI hf
  obtain⟨B,ok,hB⟩:=id hI
  have hr:∀l,l∈s.Rings->l.length<=1099511627776:=(sk hS ok).a6
  have hR:fk ⟨n.Nodes,n.Rings,n.Room⟩ items ⟨s.At,s.Rings,s.Memory,s.Choices,s.Out⟩=some (aB n items s,0):=by have:=yd n items s hio hr;rw[if_neg (by simp[k0 hsrc ok])]at this;exact this
  have hix:=DJ (items:=items) (aB n items s) (by have:=nC (s:=s) (items:=items) hS.toRightN;omega) (λm hm=>by obtain⟨i,k,rfl,hi,_,_⟩:=hU hm;exact⟨by simp,by simpa using hi⟩) p5 p6 p7 (aB n items s).length 0 (by omega)
  rw[Sy,Ss]at hix
  cases hfind:(aB n items s).find? (fa n)with
  | none=>
   rw[hfind]at hix
   have e:jx n.Nodes n.Rings n.Room items p5 p6 p7 s.At s.Rings s.Memory s.Choices s.Out=some (.inr (s,aB n items s)):=by
    unfold jx;rw[hR,RF];unfold oJ;rcases hix with⟨j,_,_,x,_,h⟩|⟨h,_⟩
    .cases h
    .rw[h,RF,if_pos (by decide)];rfl
   rw[aE];simp only[e]
   unfold gk
   rw[hfind]
  | some m=>
   rw[hfind]at hix
   have hmem:=(pS hfind).1
   have hI':=Inv.doMv hS hI hmem
   have e:jx n.Nodes n.Rings n.Room items p5 p6 p7 s.At s.Rings s.Memory s.Choices s.Out=
     some (.inl ((doMv n items s m).At,(doMv n items s m).Rings,(doMv n items s m).Memory,(doMv n items s m).Choices,(doMv n items s m).Out)):=by
    unfold jx
    rw[hR,RF]
    unfold oJ
    rcases hix with⟨j,_,h,x,hx,h2⟩|⟨_,h⟩
    .cases h2
     have hjl:=(RH.1 hx).1
     have hD:=Do_eq n items s m hio hr
     obtain⟨i,k,rfl,hi,hk,hc⟩:=hU hmem
     rw[if_neg (by simp[k0 hsrc ok]),if_neg (by
      have:gR n ⟨(i:Int),(k:Int)⟩:=⟨by simp,by simpa using hi,by simp,by simpa using hk⟩
      exact λe=>e this),if_neg (by unfold canMv;simp[hc])]at hD
     rw[h,RF,if_neg (by simp),cP hjl,RF,hx,RF]
     have hD':fq ⟨n.Nodes,n.Rings,n.Room⟩ items ⟨s.At,s.Rings,s.Memory,s.Choices,s.Out⟩ ⟨(i:Int),(k:Int)⟩=some (doMv n items s ⟨(i:Int),(k:Int)⟩,0):=hD
     rw[hD',RF]
    .cases h
   rw[aE];simp only[e]
   rw[ih _ hI'.1 (by omega)]
   have hc:gk n items (f+1) s=gk n items f (doMv n items s m):=by show(match(aB n items s).find? (fa n)with|none=>s|some m=>gk n items f (doMv n items s m))=_;rw[hfind]
   rw[hc]
theorem Oa (hsrc:bt n items=0)(hI:Inv n items s)(p5:Int)(p6:U ((U UInt8)×Unit))(p7:U (U Item)):
  rc s n.Nodes n.Rings n.Room items p5 p6 p7=some (cY n items s,aB n items (cY n items s)):=by
 unfold rc cY
 exact Lj hio hsrc p5 p6 p7 _ s hI hI.mu_le
end
end
noncomputable section
abbrev RcW:=State×(List Node)×Int×Int×(List (List Item))×Int×(List ((List UInt8)×Unit))×(List (List Item))
abbrev RsW:=Bool×(List Node)×Int×Int×(List (List Item))×Int×(List ((List UInt8)×Unit))×(List (List Item))
def FW(rcr:RcW->Option RsW)(a:RcW):Option RsW:=kf rcr a.1 a.2.1 a.2.2.1 a.2.2.2.1 a.2.2.2.2.1 a.2.2.2.2.2.1 a.2.2.2.2.2.2.1 a.2.2.2.2.2.2.2
theorem Nx:MonoR FW:=λr r' h a=>by
 unfold FW kf;refine .bind (.refl _) λx2=>.bind (.refl _) λx4=>.ite (.refl _) (.ite (.refl _) (.ite (.refl _) (O9 (λs=>?_) _)))
 unfold iO;exact .ite (.bind (.refl _) λx19=>.bind (.refl _) λx20=>.bind (.refl _) λx22=>.bind (h _) λx24=>.refl _) (.refl _)
def SeenR(p6:List ((List UInt8)×Unit))(seen:List (List UInt8)):Prop:=∀k,(mget k p6).isSome=true↔k∈seen
theorem DK(k k':U UInt8):∀l:U ((U UInt8)×Unit),(mget k' (mset k () l)).isSome=true↔k'=k∨(mget k' l).isSome=true
 |[]=>by
  unfold mset mget;by_cases h:k'=k<;>simp[h,mget]
 | p::l=>by
  have ih:=DK k k' l;unfold mset;by_cases h:k=p.1
  .rw[if_pos h];unfold mget;by_cases h2:k'=k
   .simp[h2]
   .have h3:¬k'=p.1:=λe=>h2 (e.trans h.symm)
    simp[h2,h3]
  .rw[if_neg h];unfold mget;by_cases h2:k'=p.1
   .simp[h2]
   .rw[if_neg h2,if_neg h2];exact ih
theorem SeenR.cons{p6:U ((U UInt8)×Unit)}{seen:U (U UInt8)}(h:SeenR p6 seen)(k:U UInt8):SeenR (mset k () p6) (k::seen):=λk'=>by rw[DK,h k',Sa]
def OutOk(l:List (List Item)):Prop:=∀o,o∈l->dep0 o=true/\o.length<=2000
def ii(n:Net)(items:List (List Item)):Nat->State->Wk (List UInt8) (List Item)->Option (Bool×Wk (List UInt8) (List Item)):=
 walkD (cY n items) (fB n) (aB n items) (doMv n items) (λs=>s.Out.map d8) 600
structure WkOk (w:Wk (List UInt8) (List Item)) (p6:List ((List UInt8)×Unit)):Prop where
 len:w.out.length<=w.runs
 out:OutOk w.out
 seen:SeenR p6 w.seen
section
variable {n:Net} {items:List (List Item)} (hio:∀x∈n.Nodes,x.In.length≤1099511627776∧x.Out.length≤1099511627776)
include hio
theorem Do_ok(hsrc:bt n items=0){s:State}{m:Move}(hI:Inv n items s)(hm:m∈aB n items s):fq ⟨n.Nodes,n.Rings,n.Room⟩ items s m=some (doMv n items s m,0):=by
 obtain⟨B,ok,hB⟩:=hI;have hD:=Do_eq n items s m hio (sk (eq hsrc) ok).a6;obtain⟨i,k,rfl,hi,hk,hc⟩:=hU hm;rw[if_neg (by simp[k0 hsrc ok]),if_neg (by
  have:gR n ⟨(i:Int),(k:Int)⟩:=⟨by simp,by simpa using hi,by simp,by simpa using hk⟩
  exact λe=>e this),if_neg (by unfold canMv;simp[hc])]at hD
 exact hD
theorem Li(hsrc:bt n items=0){f:Nat}(ih:∀(s:State) (w:Wk (U UInt8) (U Item)) (p6:U ((U UInt8)×Unit)),Inv n items s->muN n items s<f->w.runs<=600->WkOk w p6 ->
   ∃b w' p6',fd FW f (s,n.Nodes,n.Rings,n.Room,items,(w.runs:Int),p6,w.out)=some (b,n.Nodes,n.Rings,n.Room,items,(w'.runs:Int),p6',w'.out)/\ii n items f s w=some (b,w')/\WkOk w' p6'/\(b=true->w'.runs<=600))
  {c :State} (hI:Inv n items c) (hc:muN n items c<=f):∀(m k:Nat) (w:Wk (U UInt8) (U Item)) (p6:U ((U UInt8)×Unit)),k+m=(aB n items c).length->w.runs<=600->WkOk w p6 ->
   ∃ b w' p6',iter (λss:Int×(U Node)×Int×Int×(U (U Item))×Int×(U ((U UInt8)×Unit))×(U (U Item))=>iO (fd FW f) (c,aB n items c) ss.1 ss.2.1 ss.2.2.1 ss.2.2.2.1 ss.2.2.2.2.1 ss.2.2.2.2.2.1 ss.2.2.2.2.2.2.1 ss.2.2.2.2.2.2.2) ((k:Int),n.Nodes,n.Rings,n.Room,items,(w.runs:Int),p6,w.out)=
     some (b,n.Nodes,n.Rings,n.Room,items,(w'.runs:Int),p6',w'.out)/\jX (ii n items f) (((aB n items c).drop k).map (doMv n items c)) w=some (b,w')/\WkOk w' p6'/\(b=true->w'.runs<=600):=by
 have hS:=eq hsrc
 intro m
 induction m with
 | zero=>
  intro k w p6 hk hr hw
  have hk:k=(aB n items c).length:=by omega
  subst hk
  refine⟨true,w,p6,?_,?_,hw,λ_=>hr⟩
  .have e:iO (fd FW f) (c,aB n items c) ((aB n items c).length:Int) n.Nodes n.Rings n.Room items (w.runs:Int) p6 w.out=some (.inr (true,n.Nodes,n.Rings,n.Room,items,(w.runs:Int),p6,w.out)):=by
    unfold iO;rw[if_neg (by simp)];rfl
   rw[aE];simp only[e]
  .rw[Sr];rfl
 | succ m ihm=>
  intro k w p6 hk hr hw
  have hlt:k<(aB n items c).length:=by omega
  have hg:(aB n items c)[k]?=some (aB n items c)[k]:=RG hlt
  have hmem:(aB n items c)[k]∈aB n items c:=R6 hlt
  have hI':=Inv.doMv hS hI hmem
  have hbig:(aB n items c).length<=192:=nC hS.toRightN
  obtain⟨b,w1,p61,h1,h2,h3,h4⟩:=ih _ w p6 hI'.1 (by omega) hr hw
  have hl:jX (ii n items f) (((aB n items c).drop k).map (doMv n items c)) w=match(some (b,w1):QbQ (Bool×Wk (U UInt8) (U Item)))with
    |none=>none
    |some (false,w')=>some (false,w')
    |some (true,w')=>jX (ii n items f) (((aB n items c).drop (k+1)).map (doMv n items c)) w':=by
   rw[RL hlt,Se,jX,h2]
   cases b<;>rfl
  cases b with
  |false=>
   refine⟨false,w1,p61,?_,hl,h3,λh=>by cases h⟩
   have e:iO (fd FW f) (c,aB n items c) (k:Int) n.Nodes n.Rings n.Room items (w.runs:Int) p6 w.out=some (.inr (false,n.Nodes,n.Rings,n.Room,items,(w1.runs:Int),p61,w1.out)):=by unfold iO;rw[if_pos (by simp;omega),cP hlt,RF,hg,RF,Do_ok hio hsrc hI hmem,RF,h1];rfl
   rw[aE];simp only[e]
  |true=>
   obtain⟨b,w2,p62,h5,h6,h7,h8⟩:=ihm (k+1) w1 p61 (by omega) (h4 J) h3
   refine⟨b,w2,p62,?_,hl.trans h6,h7,h8⟩
   have e:iO (fd FW f) (c,aB n items c) (k:Int) n.Nodes n.Rings n.Room items (w.runs:Int) p6 w.out=some (.inl (((k+1:Nat):Int),n.Nodes,n.Rings,n.Room,items,(w1.runs:Int),p61,w1.out)):=by unfold iO;rw[if_pos (by simp;omega),cP hlt,RF,hg,RF,Do_ok hio hsrc hI hmem,RF,h1,RF,bf (by omega)];rfl
   rw[aE];simp only[e]
   exact h5
theorem Cd(hsrc:bt n items=0):∀(f:Nat) (s:State) (w:Wk (U UInt8) (U Item)) (p6:U ((U UInt8)×Unit)),Inv n items s->muN n items s<f->w.runs<=600->WkOk w p6 ->
   ∃b w' p6',fd FW f (s,n.Nodes,n.Rings,n.Room,items,(w.runs:Int),p6,w.out)=some (b,n.Nodes,n.Rings,n.Room,items,(w'.runs:Int),p6',w'.out)/\ii n items f s w=some (b,w')/\WkOk w' p6'/\(b=true->w'.runs<=600)
 |0,s,w,p6,_,h,_,_=>by omega
 | f + 1,s,w,p6,hI,hmu,hr,hw=>by
  have hS:=eq hsrc;obtain⟨hI',_,hmu'⟩:=pN hS hI;have hwr:IntKind.i64.wrap ((w.runs:Int)+1)=((w.runs+1:Nat):Int):=bf (by omega);have hFW:fd FW (f+1) (s,n.Nodes,n.Rings,n.Room,items,(w.runs:Int),p6,w.out)=kf (fd FW f) s n.Nodes n.Rings n.Room items (w.runs:Int) p6 w.out:=rfl;have hD:ii n items (f+1) s w=if fB n (cY n items s)∈w.seen then some (true,w)
    else if 600<w.runs+1 then some (false,⟨fB n (cY n items s)::w.seen,w.runs+1,w.out⟩)
    else if aB n items (cY n items s)=[]then some (true,⟨fB n (cY n items s)::w.seen,w.runs+1,w.out++[(cY n items s).Out.map d8]⟩)
    else jX (ii n items f) ((aB n items (cY n items s)).map (doMv n items (cY n items s))) ⟨fB n (cY n items s)::w.seen,w.runs+1,w.out⟩:=by
   unfold ii
   rw[walkD]
   by_cases h1:fB n (cY n items s)∈w.seen
   .simp only[if_pos h1]
   .by_cases h2:600<w.runs+1
    .simp only[if_neg h1,if_pos h2]
    .by_cases h3:aB n items (cY n items s)=[]
     .simp only[if_neg h1,if_neg h2,if_pos h3]
     .simp only[if_neg h1,if_neg h2,if_neg h3]
  rw[hFW,hD];unfold kf;rw[Oa hio hsrc hI,RF,OY hio hsrc hI',RF,hwr];by_cases hin:fB n (cY n items s)∈w.seen
  .rw[if_pos ((hw.seen _).2 hin),if_pos hin];exact⟨true,w,p6,J,J,hw,λ_=>hr⟩
  .rw[if_neg (λe=>hin ((hw.seen _).1 e)),if_neg hin];by_cases hcap:600<w.runs+1
   .rw[if_pos (by simp;omega),if_pos hcap];exact⟨false,_,_,J,J,⟨by have:=hw.len;simp only;omega,hw.out,hw.seen.cons _⟩,λh=>by cases h⟩
   .rw[if_neg (by simp;omega),if_neg hcap];by_cases hrd:aB n items (cY n items s)=[]
    .obtain⟨B,ok,_⟩:=hI';rw[if_pos (by simp[hrd]),if_pos hrd,Dv _ ok.out,RF,cC (by have:=hw.len;simp;omega),RF];refine⟨true,_,_,J,J,⟨by have:=hw.len;simp;omega,λo ho=>?_,hw.seen.cons _⟩,λ_=>by simp only;omega⟩;rcases RY.1 ho with ho|ho
     .exact hw.out o ho
     .rw[RW]at ho;subst ho;refine⟨?_,by rw[RZ];exact ok.out⟩;unfold dep0;rw[Sc];intro x hx;obtain⟨y,_,rfl⟩:=R3.1 hx;rfl
    .rw[if_neg (by simpa using hrd),if_neg hrd];have:=Li hio hsrc (λs w p6=>Cd hsrc f s w p6) hI' (by omega) (aB n items (cY n items s)).length 0 ⟨fB n (cY n items s)::w.seen,w.runs+1,w.out⟩ (mset (fB n (cY n items s)) () p6) (by omega) (by simp only;omega) ⟨by have:=hw.len;simp only;omega,hw.out,hw.seen.cons _⟩;rw[Sy]at this;exact this
theorem Ez(hsrc:bt n items=0){s:State}(hI:Inv n items s):∃b w p6,uu s n.Nodes n.Rings n.Room items 0 [] []=some (b,n.Nodes,n.Rings,n.Room,items,(w.runs:Int),p6,w.out) /\
  ii n items 1000000000000000001 s ⟨[],0,[]⟩=some (b,w)/\OutOk w.out/\w.out.length<=w.runs/\(b=true->w.runs<=600):=by
 obtain⟨b,w,p6,h1,h2,h3,h4⟩:=Cd hio hsrc 1000000000000000001 s ⟨[],0,[]⟩ [] hI (by have:=hI.mu_le;omega) (by simp) ⟨by simp,λo ho=>(Sd ho).elim,λk=>by simp[mget]⟩
 exact⟨b,w,p6,NU Nx h1,h2,h3.out,h3.len,h4⟩
end
end
section
def eX(p:List Item):List (List Item)->List (List Item)
 |[]=>[]
 |b::l=>if cfR b p=0 then eX b l else b::eX b l
def ik:List (List Item)->List (List Item)
 |[]=>[]
 |a::l=>a::eX a l
theorem yK(a b:U Item)(la:a.length<=9223372036854775807):oV a b=some (cfR a b==0):=by unfold oV;rw[AF a b la];rfl
theorem F3{m k:Nat}(h:k<m):ixV m (k:Int)=some k:=by unfold ixV;rw[if_pos (by omega)];simp
section
variable {p0:List (List Item)} (hl:p0.length≤1099511627776) (hr:∀a,a∈p0→a.length≤9223372036854775807)
include hl hr
theorem Nv(s1:Nat)(hs1:s1<p0.length):∀(m q w:Nat) (A:U (U Item)) (kept:U (U Item)),s1+q+m=p0.length->1<=q->w<=s1+q- 1->A.length=p0.length->A.take w=kept->(∀j,s1+q- 1<=j->A[j]?=p0[j]?) ->
  ∀pv,p0[s1+q- 1]?=some pv->iter (λss:Int×Int×(U (U Item))=>lq p0 (s1:Int) ss.1 ss.2.1 ss.2.2) ((w:Int),(q:Int),A)=some (.inr (kept++eX pv (p0.drop (s1+q)))):=by
 intro m
 induction m with
 | zero=>
  intro q w A kept hq h1 hw hA hk hj pv hpv
  have e:lq p0 (s1:Int) (w:Int) (q:Int) A=some (.inr (.inr kept)):=by
   unfold lq;rw[if_neg (by simp;omega)];unfold vwok;rw[if_pos (by omega),RF,if_pos (by simp;omega),RF];have hc:(clr A (((w:Int)).toNat) ((((A).length:Int)).toNat- ((w:Int)).toNat) []).length=A.length:=by unfold clr;simp;omega
   unfold sub;rw[if_pos (by rw[hc];omega)];simp only[RF,SJ];congr 3;unfold clr;simp only[R7];rw[RT,List.take_append_of_le_length (by simp;omega),List.take_take,Nat.min_self,hk];simp
  rw[aE];simp only[e]
  rw[List.drop_eq_nil_of_le (by omega)];simp[eX]
 | succ m ih=>
  intro q w A kept hq h1 hw hA hk hj pv hpv
  have hlt:s1+q<p0.length:=by omega
  have hx:A[s1+q]?=some p0[s1+q]:=by rw[hj _ (by omega)];exact RG hlt
  have hy:A[s1+(q- 1)]?=some pv:=by rw[hj _ (by omega),show s1+(q- 1)=s1+q- 1 by omega];exact hpv
  have hxx:=hr p0[s1+q] (R6 hlt)
  have ei:ixV ((((p0).length:Int)).toNat- ((s1:Int)).toNat) (q:Int)=some q:=F3 (by simp;omega)
  have ej:ixV ((((p0).length:Int)).toNat- ((s1:Int)).toNat) (IntKind.i64.wrap ((q:Int)- 1))=some (q- 1):=by rw[bG (by omega) (by omega),show(q:Int)- 1=((q- 1:Nat):Int) by omega];exact F3 (by simp;omega)
  have ew:ixN A (w:Int)=some w:=cP (by omega)
  have e:lq p0 (s1:Int) (w:Int) (q:Int) A=some (.inl (if cfR p0[s1+q] pv=0 then((w:Int),((q+1:Nat):Int),A)else(((w+1:Nat):Int),((q+1:Nat):Int),A.set w p0[s1+q]))):=by unfold lq;rw[if_pos (by simp;omega),ei,RF];simp only[R7]at ei ej ⊢;rw[hx,RF,ej,RF,hy,RF,yK _ _ hxx,RF,RF,hx,RF,ew,RF,RG (show w<A.length by omega),RF,bf (by omega),bf (by omega)];by_cases h:cfR p0[s1+q] pv=0<;>simp[h]
  rw[aE];simp only[e]
  rw[RL hlt,eX]
  by_cases h:cfR p0[s1+q] pv=0
  .rw[if_pos h,if_pos h]
   have:=ih (q+1) w A kept (by omega) (by omega) (by omega) hA hk (λj hj'=>hj j (by omega)) p0[s1+q] (RG hlt)
   exact this
  .rw[if_neg h,if_neg h]
   have:=ih (q+1) (w+1) (A.set w p0[s1+q]) (kept++[p0[s1+q]]) (by omega) (by omega) (by omega) (by simpa using hA) (by
    rw[<- hk];apply Sw;intro j;simp only[Sm,Sk,S2,R5];by_cases h1:j<w
    .rw[if_pos (by omega),if_neg (by omega),if_pos (by omega),if_pos h1]
    .by_cases h2:j=w
     .subst h2;rw[if_pos (by omega),if_pos J,if_pos (by omega),if_neg (by omega),show j- min j A.length=0 by omega];rfl
     .rw[if_neg (by omega),if_neg (by omega)];rw[SF (by simp;omega)]) (λj hj'=>by rw[R5,if_neg (by omega)];exact hj j (by omega)) p0[s1+q] (RG hlt)
   rw[this,RT];rfl
theorem O4:∀(m k:Nat) (pre:U (U Item)),k+m=p0.length->1<=k->pre=p0.take k->∀pv,p0[k- 1]?=some pv ->
  iter (λss:Int=>jv p0 ss) (k:Int)=some (pre++eX pv (p0.drop k)):=by
 intro m
 induction m with
 |zero=>
  intro k pre hk h1 hp pv hpv
  have hk:k=p0.length:=by omega
  subst hk
  have e:jv p0 (p0.length:Int)=some (.inr p0):=by unfold jv;rw[if_neg (by simp)];rfl
  rw[aE];simp only[e]
  rw[Sr,hp];simp[eX]
 | succ m ih=>
  intro k pre hk h1 hp pv hpv
  have hlt:k<p0.length:=by omega
  have hx:p0[k]?=some p0[k]:=RG hlt
  have hxx:=hr p0[k] (R6 hlt)
  have ej:ixN p0 (IntKind.i64.wrap ((k:Int)- 1))=some (k- 1):=by rw[bG (by omega) (by omega),show(k:Int)- 1=((k- 1:Nat):Int) by omega];exact cP (by omega)
  rw[aE,RL hlt,eX]
  by_cases h:cfR p0[k] pv=0
  .have e:jv p0 (k:Int)=some (.inr (pre++eX p0[k] (p0.drop (k+1)))):=by
    unfold jv;rw[if_pos (by simp;omega),cP hlt,RF,hx,RF,ej,RF,hpv,RF,yK _ _ hxx,RF,if_pos (by simp[h])];unfold vwok;rw[if_pos (by omega),RF];have:=Nv hl hr k hlt m 1 k p0 pre (by omega) (RJ _) (by omega) J hp.symm (λ_ _=>J) p0[k] (by simp);exact this
   simp only[e]
   rw[if_pos h]
  .have e:jv p0 (k:Int)=some (.inl ((k+1:Nat):Int)):=by
    unfold jv;rw[if_pos (by simp;omega),cP hlt,RF,hx,RF,ej,RF,hpv,RF,yK _ _ hxx,RF,if_neg (by simp[h]),bf (by omega)]
   simp only[e]
   rw[if_neg h,ih (k+1) (pre++[p0[k]]) (by omega) (by omega) (by rw[hp];simp) p0[k] (by simp),RT];rfl
theorem O3:qS p0=some (ik p0):=by
 unfold qS;match p0,hl,hr with
 |[],_,_=>rfl
 |[a],_,_=>rfl
 |a::b::l,hl,hr=>
  rw[if_neg (by simp;omega)]
  have:=O4 hl hr (l.length+1) 1 [a] (by simp;omega) (RJ _) J a J
  exact this
end
end
theorem Jg(n:Net)(hn:n.Nodes.length<=1099511627776)(hio:∀x∈n.Nodes,x.In.length<=1099511627776/\x.Out.length<=1099511627776):kG n=some n:=by
 have cl:∀{α:Type} (l:U α),l.length<=1099511627776->app [] l=some l:=λl hl=>by rw[cC (by simpa using hl)];rfl
 have l1:∀(m k:Nat),k+m=n.Nodes.length->iter (λss:Int×(U Node)=>iv n n.Nodes ss.1 ss.2) ((k:Int),n.Nodes)=some n:=by
  intro m;induction m with
  |zero=>
   intro k hk;have hk:k=n.Nodes.length:=by omega
   subst hk;have e:iv n n.Nodes (n.Nodes.length:Int) n.Nodes=some (.inr n):=by unfold iv;rw[if_neg (by simp)];rfl
   rw[aE];simp only[e]
  |succ m ih=>
   intro k hk;have hlt:k<n.Nodes.length:=by omega
   have hg:n.Nodes[k]?=some n.Nodes[k]:=RG hlt;obtain⟨hi,ho⟩:=hio _ (R6 hlt);have e:iv n n.Nodes (k:Int) n.Nodes=some (.inl (((k+1:Nat):Int),n.Nodes)):=by have h1:n.Nodes.set k (⟨n.Nodes[k].Kind,n.Nodes[k].A,n.Nodes[k].In,n.Nodes[k].Out⟩:Node)=n.Nodes:=vM hg;unfold iv km;rw[if_pos (by simp;omega),cP hlt,RF,hg,RF,cl _ hi,RF,RF,hg,RF,cl _ ho,RF,RF,hg,RF];simp only[h1];rw[cP hlt,RF,hg,RF,bf (by omega)];simp only[h1]
   rw[aE];simp only[e];exact ih (k+1) (by omega)
 unfold kG ri;rw[cl _ hn,RF];exact l1 n.Nodes.length 0 (by omega)
theorem Iw(n:Net)(items:U (U Item))(hio:∀x∈n.Nodes,x.In.length<=1099511627776/\x.Out.length<=1099511627776):gM n items=some (if bt n items≠0 then(⟨[],[],[],[],[]⟩,bt n items)else(aS n items,0)):=by
 unfold gM;rw[o4 n items hio,RF];by_cases h:bt n items=0
 .rw[if_neg (show ¬(bt n items !=0)=true by simp[h]),if_neg (show ¬bt n items≠0 by simp[h]),yn (eq h) hio,RF]
 .rw[if_pos (show(bt n items !=0)=true by simpa using h),if_pos h]
def allE(n:Net)(items:List (List Item)):List (List Item)×Int:=if bt n items≠0 then([],bt n items)else
 match ii n items 1000000000000000001 (aS n items) ⟨[],0,[]⟩with
 |some (true,w)=>(ik (jj w.out),0)
 |_=>([],2)
theorem Gn(n:Net)(items:U (U Item))(hn:n.Nodes.length<=1099511627776)(hio:∀x∈n.Nodes,x.In.length<=1099511627776/\x.Out.length<=1099511627776):sR n items=some (allE n items):=by
 unfold sR allE;rw[Iw n items hio,RF];by_cases h:bt n items=0
 .rw[if_neg (show ¬bt n items≠0 by simp[h]),if_neg (show ¬((aS n items,(0:Int)).2 !=0)=true by simp),Jg n hn hio,RF];obtain⟨b,w,p6,h1,h2,h3,h4,h5⟩:=Ez hio h (iA (eq h));rw[if_neg (show ¬bt n items≠0 by simp[h]),h1,h2,RF];cases b with
  |false=>rfl
  |true=>
   have h5:=h5 J;rw[if_neg (by simp)];unfold w5 sortR;rw[if_pos ⟨by simp only;omega,Sc.2 λx hx=>(h3 x hx).1⟩,RF];have hp:=nv w.out;rw[O3 (by rw[hp.length_eq];omega) (λa ha=>by have:=(h3 a (hp.subset ha)).2;omega),RF]
 .rw[if_pos h,if_pos (show((⟨[],[],[],[],[]⟩:State),bt n items).2 !=0 by simpa using h),if_pos h]
section
def sI(l:List Int):Prop:=∀k,k∈l->0<=k/\k<100
theorem NV:∀a b:Fin 100,digW (a.val:Int) <+: digW (b.val:Int)->a=b:=by decide+kernel
theorem Nt{a b:Int}{x y:U UInt8}(ha:0<=a/\a<100)(hb:0<=b/\b<100)(h:digW a++x=digW b++y):a=b/\x=y:=by
 have e:∀{a b:Int},0<=a/\a<100->0<=b/\b<100->digW a <+: digW b->a=b:=λ{a b} ha hb h=>by have:=NV ⟨a.toNat,by omega⟩ ⟨b.toNat,by omega⟩ (by simpa [Sh ha.1,Sh hb.1]using h);simp at this;omega
 have hab:a=b:=by
  rcases List.append_eq_append_iff.1 h with⟨z,h1,_⟩|⟨z,h1,_⟩
  .exact e ha hb ⟨z,h1.symm⟩
  .exact(e hb ha ⟨z,h1.symm⟩).symm
 subst hab;exact⟨J,List.append_cancel_left h⟩
theorem DW:∀a:Fin 100,(digW (a.val:Int)).head?≠some 59/\digW (a.val:Int)≠[]:=by decide+kernel
theorem EX:∀{l m:U Int} {x y:U UInt8},sI l->sI m->encW l++x=encW m++y->l=m/\x=y
 |[],[],x,y,_,_,h=>by simpa [encW]using h
 |[],b::m,x,y,_,hm,h=>by
  exfalso;have hb:=hm b RM;have hd:=DW ⟨b.toNat,by omega⟩;simp only[Sh hb.1]at hd;have h1:=congrArg List.head? h;unfold encW at h1;rw[Sl,RT,RT]at h1;cases hq:digW b with
  |nil=>exact hd.2 hq
  |cons q r=>rw[hq]at h1 hd;simp at h1 hd;exact hd h1.symm
 |a::l,[],x,y,hl,_,h=>by
  exfalso;have hb:=hl a RM;have hd:=DW ⟨a.toNat,by omega⟩;simp only[Sh hb.1]at hd;have h1:=congrArg List.head? h;unfold encW at h1;rw[Sl,RT,RT]at h1;cases hq:digW a with
  |nil=>exact hd.2 hq
  |cons q r=>rw[hq]at h1 hd;simp at h1 hd;exact hd h1
 |a::l,b::m,x,y,hl,hm,h=>by
  have h':digW a++(encW l++x)=digW b++(encW m++y):=by unfold encW at h ⊢;rw[Sl,Sl]at h;simpa [RT]using h
  obtain⟨h1,h2⟩:=Nt (hl a RM) (hm b RM) h';obtain⟨h3,h4⟩:=EX (λk hk=>hl k (RQ _ hk)) (λk hk=>hm k (RQ _ hk)) h2;exact⟨by rw[h1,h3],h4⟩
theorem C4:∀{L M:U (U Int)},L.length=M.length->(∀l,l∈L->sI l)->(∀l,l∈M->sI l)->L.flatMap encW=M.flatMap encW->L=M
 |[],[],_,_,_,_=>rfl
 |[],_::_,h,_,_,_=>by cases h
 |_::_,[],h,_,_,_=>by cases h
 |l::L,m::M,h,hL,hM,e=>by rw[Sl,Sl]at e;obtain⟨h1,h2⟩:=EX (hL l RM) (hM m RM) e;rw[h1,C4 (by simpa using h) (λx hx=>hL x (RQ _ hx)) (λx hx=>hM x (RQ _ hx)) h2]
section
variable {n:Net} {items:List (List Item)}
variable {s c:State}{i:Nat}{m:Move}{w:Wk (U UInt8) (U Item)}{V:U State}
theorem DP (hS:RightS n items){B:Int}(ok:OkS n items B s):∀l,l∈df n s.Choices->sI l:=λl hl k hk=>by unfold df at hl;obtain⟨i,_,rfl⟩:=R3.1 hl;unfold bp at hk;obtain⟨c,hc,rfl⟩:=R3.1 hk;obtain⟨a1,a2,a3,a4,a5⟩:=ok.cho c (SL.1 hc).1;have:=pV hS.toRightN (i:=c.Node.toNat) (by omega);unfold bD at this;rw[if_pos a3]at this;omega
theorem BM (hS:RightS n items){t:State}(hs:Inv n items s)(ht:Inv n items t)(h:fB n s=fB n t):df n s.Choices=df n t.Choices:=by obtain⟨B,ok,_⟩:=hs;obtain⟨B',ok',_⟩:=ht;exact C4 (by rw[u4,u4]) (DP hS ok) (DP hS ok') h
theorem CE {a b:U Choice}(h:df n a=df n b)(hi:i<n.Nodes.length):bp a i=bp b i:=by have h1:=Bp (n:=n) a hi;rw[h,Bp b hi]at h1;exact(RR h1).symm
theorem Fv (h:(ab n i).Kind=6):i<n.Nodes.length:=by
 by_cases hi:i<n.Nodes.length
 .exact hi
 .exfalso;unfold ab at h;rw[R1,SF (by omega)]at h;exact absurd h (by decide)
theorem FG {a b:U Item}(h:a.map cM=b.map cM):a.map d8=b.map d8:=by have:=congrArg (List.map λp:Int×Int=>(⟨p.1,p.2,0⟩:Item)) h;rw[SQ,SQ]at this;exact this
def kY(n:Net)(l:List Choice):Nat:=((df n l).map List.length).sum
theorem FD {α:Type}(f g:α->Nat)(a:α):∀l:U α,l.Nodup->a∈l->(∀b,b∈l->b≠a->f b=g b)->f a=g a+1->(l.map f).sum=(l.map g).sum+1
 |[],_,h,_,_=>by cases h
 | b::l,hn,h,he,ha=>by
  have hn:=S8.1 hn;rcases Sa.1 h with rfl|h
  .have:l.map f=l.map g:=Si λb hb=>he b (RQ _ hb) λe=>hn.1 (e▸hb)
   simp only[Se,S0,this];omega
  .have h1:=FD f g a l hn.2 h (λb hb=>he b (RQ _ hb)) ha;have h2:=he b RM λe=>hn.1 (e▸h)
   simp only[Se,S0];omega
theorem Bl (l:U Choice)(hi:i<n.Nodes.length)(k:Int):kY n (l++[⟨(i:Int),k⟩])=kY n l+1:=by
 unfold kY df;rw[SQ,SQ];refine FD _ _ i _ List.nodup_range (by simpa using hi) (λb _ hb=>?_) ?_
 .simp only[Function.comp];rw[rI,if_neg (by simp;omega)]
 .simp only[Function.comp];rw[rI,if_pos J,RN];rfl
theorem Eo:∀(l:U Nat) (b:Nat),(∀x,x∈l->x<=b)->l.sum<=l.length*b
 |[],b,_=>by simp
 |x::l,b,h=>by
  have h1:=h x RM;have h2:=Eo l b λy hy=>h y (RQ _ hy)
  rw[S0,R8,SH,Tq];omega
theorem Nb (hS:RightS n items){l:U Choice}(h:l.length<=500):kY n l<=6000:=by
 unfold kY;have:=Eo ((df n l).map List.length) 500 λx hx=>by obtain⟨y,hy,rfl⟩:=R3.1 hx;unfold df at hy;obtain⟨i,_,rfl⟩:=R3.1 hy;exact SA (rW _ _) h
 rw[RZ,u4]at this;have h2:=hS.n2;have h3:=R4 500 h2;omega
def MetW(n:Net)(items:List (List Item))(c:State):Prop:=(∃u,Reach n items u c)/\Calm n items c
theorem BV (hS:RightS n items)(hc:Calm n items c)(hm:m∈aB n items c):∃i k:Nat,m=⟨i,k⟩/\i<n.Nodes.length/\(ab n i).Kind=6/\(doMv n items c m).Choices=c.Choices++[⟨(i:Int),(k:Int)⟩]:=by
 obtain⟨i,k,rfl,hi,hk,hcan⟩:=hU hm;have h6:(ab n i).Kind=6:=by have:=List.find?_eq_none.1 hc _ hm;simpa [fa]using this
 refine⟨i,k,J,hi,h6,?_⟩;obtain⟨it,hh,_⟩:=nK hcan;unfold doMv doM;simp only[R7,hh];rw[if_pos h6]
theorem MB (hS:RightS n items)(h:ii n items 1000000000000000001 (aS n items) ⟨[],0,[]⟩=some (true,w)):
  ∃V,Vis (cY n items) (fB n) (aB n items) (doMv n items) (λs=>s.Out.map d8) [aS n items] ⟨[],0,[]⟩ w V/\(∀c,c∈V->MetW n items c):=by
 obtain⟨V,v⟩:=DH _ _ _ _ h
 refine⟨V,v,v.all _ (λs hs=>?_) (λc m hc hm=>?_)⟩
 .rw[RW]at hs;subst hs
  have r0:Reach n items [] (aS n items):=⟨iA hS,.nil _⟩
  obtain⟨u,h1,_⟩:=xo hS r0
  exact⟨⟨_,h1⟩,(pN hS r0.inv).2.1⟩
 .obtain⟨⟨u,hu⟩,_⟩:=hc
  have r1:=vr hS hu hm
  obtain⟨u',h1,_⟩:=xo hS r1
  exact⟨⟨_,h1⟩,(pN hS r1.inv).2.1⟩
theorem M7 (hS:RightS n items)(v:Vis (cY n items) (fB n) (aB n items) (doMv n items) (λs=>s.Out.map d8) [aS n items] ⟨[],0,[]⟩ w V)(hV:∀c,c∈V->MetW n items c)(hc:c∈V)(hm:m∈aB n items c):∃d,d∈V/\df n d.Choices=df n (doMv n items c m).Choices:=by
 have h1:=v.nxt c hc m hm
 rw[v.seen,Sg]at h1
 obtain⟨d,hd,e⟩:=R3.1 h1
 obtain⟨⟨u,hu⟩,_⟩:=hV c hc
 obtain⟨⟨u',hu'⟩,_⟩:=hV d hd
 have r1:=vr hS hu hm
 refine⟨d,hd,?_⟩
 rw[<- Dd hS r1]
 exact BM hS hu'.inv (pN hS r1.inv).1 e
theorem Lb (v:Vis (cY n items) (fB n) (aB n items) (doMv n items) (λs=>s.Out.map d8) [aS n items] ⟨[],0,[]⟩ w V):∃c,c∈V/\fB n c=fB n (cY n items (aS n items)):=by have h:=v.here _ (RW.2 J);rw[v.seen,Sg]at h;obtain⟨c,hc,e⟩:=R3.1 h;exact⟨c,hc,e⟩
theorem MO (hS:RightS n items)(h:ii n items 1000000000000000001 (aS n items) ⟨[],0,[]⟩=some (true,w)){e:State}{z:U (Nat×Nat)}(he:Reach n items z e)(hr:aB n items e=[])(h5:e.Choices.length<500)(h2:e.Out.length<2000):e.Out.map d8∈w.out:=by
 obtain⟨V,v,hV⟩:=MB hS h
 have key:∀(k:Nat) (c:State),c∈V->(∀i,(ab n i).Kind=6->bp c.Choices i <+: bp e.Choices i)->6000- kY n c.Choices<=k->e.Out.map d8∈w.out:=by
  intro k;induction k with
  |zero=>
   intro c hc hp hk;obtain⟨⟨u,hu⟩,hcalm⟩:=hV c hc;rcases(Cl hS hu he hcalm hr h5 h2 hp).2 with⟨h1,h3⟩|⟨m,hm,hp'⟩
   .have:=v.fin c hc h1;have ho:(c.Out.map cM)=e.Out.map cM:=congrArg MSt.out h3;have hq:=FG ho;rw[<- hq];exact this
   .exfalso;obtain⟨i,q,rfl,hi,_,hch⟩:=BV hS hcalm hm;obtain⟨B,ok,_⟩:=(Inv.doMv hS hu.inv hm).1;have h1:=Nb hS ok.ch;rw[hch,Bl _ hi]at h1;omega
  | succ k ih=>
   intro c hc hp hk;obtain⟨⟨u,hu⟩,hcalm⟩:=hV c hc;rcases(Cl hS hu he hcalm hr h5 h2 hp).2 with⟨h1,h3⟩|⟨m,hm,hp'⟩
   .have:=v.fin c hc h1;have ho:(c.Out.map cM)=e.Out.map cM:=congrArg MSt.out h3;have hq:=FG ho;rw[<- hq];exact this
   .obtain⟨i,q,rfl,hi,_,hch⟩:=BV hS hcalm hm;obtain⟨d,hd,e1⟩:=M7 hS v hV hc hm;have h1:kY n d.Choices=kY n c.Choices+1:=by
     unfold kY;rw[e1,hch];exact Bl _ hi _
    exact ih d hd (λj hj=>by rw[CE e1 (Fv hj)];exact hp' j hj) (by omega)
 obtain⟨c,hc,e1⟩:=Lb v
 have r0:Reach n items [] (aS n items):=⟨iA hS,.nil _⟩
 obtain⟨⟨u,hu⟩,_⟩:=hV c hc
 have h0:df n c.Choices=df n (aS n items).Choices:=by rw[BM hS hu.inv (pN hS r0.inv).1 e1,Dd hS r0]
 refine key _ c hc (λi hi=>?_) (RJ _)
 rw[CE h0 (Fv hi)]
 exact List.nil_prefix
end
end
section
section
variable {x:U Item}{l:U (U Item)}
theorem xD:∀{l:U (U Item)} {a:U Item},(∀y,y∈a::l->dep0 y=true)->x∈a::l->x=a∨x∈eX a l
 |[],a,_,h=>.inl (by simpa using h)
 | b::l,a,h0,h=>by
  rw[eX];by_cases hb:cfR b a=0
  .rw[if_pos hb];have e:=vu b a (h0 b (by simp)) (h0 a (by simp)) hb;subst e;refine xD (λy hy=>h0 y (RQ _ hy)) ?_;rcases Sa.1 h with rfl|h
   .exact RM
   .exact h
  .rw[if_neg hb];rcases Sa.1 h with rfl|h
   .exact .inl J
   .rcases xD (λy hy=>h0 y (RQ _ hy)) h with rfl|h
    .exact .inr RM
    .exact .inr (RQ _ h)
theorem KG (h0:∀y,y∈l->dep0 y=true)(h:x∈l):x∈ik l:=by
 cases l with
 |nil=>cases h
 |cons a l=>
  rw[ik];rcases xD h0 h with rfl|h
  .exact RM
  .exact RQ _ h
theorem xS:∀{l:U (U Item)} {a:U Item},x∈eX a l->x∈l
 |[],a,h=>by cases h
 | b::l,a,h=>by
  rw[eX]at h;split at h
  .exact RQ _ (xS h)
  .rcases Sa.1 h with rfl|h
   .exact RM
   .exact RQ _ (xS h)
theorem K7 (h:x∈ik l):x∈l:=by
 cases l with
 |nil=>cases h
 |cons a l=>
  rw[ik]at h;rcases Sa.1 h with rfl|h
  .exact RM
  .exact RQ _ (xS h)
theorem BW:∀(l:U (U Item)) (a:U Item),(eX a l).length<=l.length
 |[],a=>RJ _
 |b::l,a=>by have:=BW l b;rw[eX];split<;>simp only[R8]<;>omega
theorem Ky (l:U (U Item)):(ik l).length<=l.length:=by
 cases l with
 |nil=>exact RJ _
 |cons a l=>have:=BW l a;rw[ik];simp only[R8];omega
theorem AL:∀{l:U (U Item)} {a:U Item},(∀y,y∈a::l->dep0 y=true)->(a::l).Pairwise (λa b=>cfR a b<=0)->(a::eX a l).Pairwise (λa b=>cfR a b<0)
 |[],a,_,_=>by simp[eX]
 | b::l,a,h0,h=>by
  have h1:=List.pairwise_cons.1 h;have ih:=AL (λy hy=>h0 y (RQ _ hy)) h1.2;rw[eX];by_cases hb:cfR b a=0
  .rw[if_pos hb];have e:=vu b a (h0 b (by simp)) (h0 a (by simp)) hb;subst e;exact ih
  .rw[if_neg hb];refine List.pairwise_cons.2 ⟨λc hc=>?_,ih⟩;have hab:cfR a b<0:=by
    have h2:=h1.1 b RM;have h3:=l5 a b;omega
   rcases Sa.1 hc with rfl|hc
   .exact hab
   .have h4:=(List.pairwise_cons.1 ih).1 c hc;exact(nD a b c (by omega) (by omega)).2 (.inl hab)
theorem IJ (h0:∀y,y∈l->dep0 y=true)(h:l.Pairwise (λa b=>cfR a b<=0)):(ik l).Pairwise (λa b=>cfR a b<0):=by
 cases l with
 |nil=>exact .nil
 |cons a l=>rw[ik];exact AL h0 h
theorem Fl (a b:U Item)(la:a.length<=9223372036854775807):pw a b=some (cfR a b):=by unfold pw oE;have:=Fy a b la _ 0 J (Sb _);simp only[Ss,Sy]at this;rw[this];rfl
theorem ML (l:U (U Item))(p:U Item)(hl:l.length<=1000000)(hr:∀a,a∈l->a.length<=9223372036854775807)(hs:l.Pairwise (λa b=>cfR a b<0)):
    ∃(i:Int) (b:Bool),qO l p=some (i,b)/\(p∈l->b=true):=by
  have hs':∀(i j:Nat) x y,i<j->l[i]?=some x->l[j]?=some y->cfR x y<0:=λi j x y hij hx hy=>by obtain⟨hi,rfl⟩:=RH.1 hx;obtain⟨hj,rfl⟩:=RH.1 hy;exact List.pairwise_iff_getElem.1 hs i j hi hj hij
  unfold qO
  obtain ⟨r,h1,h2⟩:=sP (body:=λss:Int×Int=>qM l p ss.1 ss.2)
    (λs=>(0<=s.1/\s.1<=s.2/\s.2<=(l.length:Int))/\(∀(t:Nat) (x:U Item),(t:Int)<s.1->l[t]?=some x->cfR x p<0)/\(∀(t:Nat) (x:U Item),s.2<=(t:Int)->l[t]?=some x->0<=cfR x p)) (λs=>(s.2- s.1).toNat)
    (λr=>p∈l->r.2=true) (λs hs0=>by
      obtain⟨s1,s2⟩:=s;simp only at hs0 ⊢;obtain⟨hb,ha,hc⟩:=hs0;unfold qM;by_cases hlt:s1<s2
      · rw[if_pos (by simpa using hlt)];have e1:shr .u64 (IntKind.u64.wrap (IntKind.i64.wrap (s1+s2))) 1=some ((s1+s2)/ 2):=by
          rw[bG (by omega) (by omega),IntWalk.u64_in _ ⟨by omega,by omega⟩];unfold shr;rw[if_pos (by decide)];congr 1;show(s1+s2).fdiv 2=_;rw[TA _ (by decide)]
        rw[e1,RF];obtain⟨h,hh⟩:∃h:Nat,(s1+s2)/ 2=(h:Int):=Sv (by omega);have hhl:h<l.length:=by omega
        have hx:l[h]?=some l[h]:=RG hhl;have hxr:=hr _ (R6 hhl);generalize hxv:l[h]=x at hx hxr;have e2:IntKind.i64.wrap (h:Int)=(h:Int):=bG (by omega) (by omega);have e4:IntKind.i64.wrap ((h:Int)+1)=(h:Int)+1:=bG (by omega) (by omega);rw[hh,e2,bv hx,RF,Fl _ _ hxr,RF,e4];refine .inl ?_;by_cases hk:cfR x p<0
        · rw[if_pos (by simpa using hk)];refine⟨((h:Int)+1,s2),J,⟨⟨by show 0<=(h:Int)+1;omega,by show(h:Int)+1<=s2;omega,hb.2.2⟩,λt y ht hy=>?_,hc⟩,by show(s2- ((h:Int)+1)).toNat<(s2- s1).toNat;omega⟩;have ht:(t:Int)<(h:Int)+1:=ht;by_cases e:t=h
          · subst e;rw[hx]at hy;cases hy;exact hk
          · have:=hs' t h y x (by omega) hy hx;exact(nD y x p (by omega) (by omega)).2 (.inl this)
        · rw[if_neg (by simpa using hk)];refine⟨(s1,(h:Int)),J,⟨⟨hb.1,by show s1<=(h:Int);omega,by show(h:Int)<=_;omega⟩,ha,λt y ht hy=>?_⟩,by show((h:Int)- s1).toNat<(s2- s1).toNat;omega⟩;have ht:(h:Int)<=(t:Int):=ht;by_cases e:t=h
          · subst e;rw[hx]at hy;cases hy;omega
          · have:=hs' h t x y (by omega) hx hy;have e1:=l5 x p;have e2:=l5 y p;have e3:=(nD p x y (by omega) (by omega)).2 (.inr this);omega
      · rw[if_neg (by simpa using hlt)];refine .inr ?_;obtain⟨k,rfl⟩:=Sv hb.1;have hk2:s2=(k:Int):=by omega
        subst hk2;have hpm:p∈l->k<l.length/\l[k]?=some p:=λhp=>by
          obtain⟨t,ht⟩:=RX hp;have htl:=(RH.1 ht).1;have h1:k<=t:=by apply Classical.byContradiction;intro e;have:=ha t p (by omega) ht;rw[vA]at this;omega
          by_cases e:t=k
          · subst e;exact⟨htl,ht⟩
          · exfalso;have hkl:k<l.length:=by omega
            have h2:=hs' k t l[k] p (by omega) (RG hkl) ht;have h3:=hc k l[k] (by omega) (RG hkl);omega
        by_cases hk:k<l.length
        · have hx:l[k]?=some l[k]:=RG hk;rw[if_pos (by simp;omega),bv hx,RF,Fl _ _ (hr _ (R6 hk))];refine⟨_,J,λhp=>?_⟩;have:=(hpm hp).2;rw[hx]at this;have:=RR this;simp only[this,vA];rfl
        · rw[if_neg (by simp;omega)];exact⟨_,J,λhp=>absurd (hpm hp).1 hk⟩) _ (0,(l.length:Int)) (RJ _) ⟨by simp,λt x ht=>by simp at ht;omega,λt x ht hx=>by
        have:=(RH.1 hx).1;simp only at ht;omega⟩
  exact⟨r.1,r.2,h1,h2⟩
end
section
variable {n:Net} {items:List (List Item)} {room:Option Nat}
end
end
section
section
variable {n:Net}{items:U (U Item)}
theorem EV (hio:∀x∈n.Nodes,x.In.length<=1099511627776/\x.Out.length<=1099511627776)(h:(allE n items).2=0):bt n items=0 /\
  ∃w,ii n items 1000000000000000001 (aS n items) ⟨[],0,[]⟩=some (true,w)/\allE n items=(ik (jj w.out),0)/\OutOk w.out/\w.out.length<=600:=by
 have hsrc:bt n items=0:=by apply Classical.byContradiction;intro e;unfold allE at h;rw[if_pos e]at h;exact e h
 obtain⟨b,w,p6,h1,h2,h3,h4,h5⟩:=Ez hio hsrc (iA (eq hsrc))
 refine⟨hsrc,w,?_⟩
 cases b with
 |false=>
  exfalso
  unfold allE at h
  rw[if_neg (λe=>e hsrc),h2]at h
  exact absurd (show(2:Int)=0 from h) (by decide)
 |true=>
  refine⟨h2,?_,h3,by have:=h5 J;omega⟩
  unfold allE
  rw[if_neg (λe=>e hsrc),h2]
theorem CS {w:U (U Item)}(h:OutOk w):(∀y,y∈jj w->dep0 y=true)/\(∀y,y∈ik (jj w)->y.length<=2000):=by have hp:=nv w;exact⟨λy hy=>(h y (hp.subset hy)).1,λy hy=>(h y (hp.subset (K7 hy))).2⟩
theorem Pq (hn:n.Nodes.length<=1099511627776)(hio:∀x∈n.Nodes,x.In.length<=1099511627776/\x.Out.length<=1099511627776)(h:(allE n items).2=0)(l:U Item)(hl:l.length<=2000):
  ∃b,nJ n items l=some (b,0)/\(l.map d8∈(allE n items).1->b=true):=by
 obtain⟨hsrc,w,hw,he,ho,hlen⟩:=EV hio h
 have hr:=CS ho
 have hp:=nv w.out
 have hcl:=Ky (jj w.out)
 rw[hp.length_eq]at hcl
 obtain⟨i,b,h1,h2⟩:=ML (ik (jj w.out)) (l.map d8) (by omega) (λa ha=>by have:=hr.2 a ha;omega) (IJ hr.1 (xi w.out))
 refine⟨b,?_,λhm=>h2 (by rw[he]at hm;exact hm)⟩
 unfold nJ
 rw[if_neg (by simp;omega),Gn n items hn hio,RF,he,if_neg (by simp),Dv l hl,RF,h1];rfl
end
end
section
section
variable {n:Net} {items:List (List Item)} {B:Int} {s:State}
theorem JU(hS:RightS n items)(ok:OkS n items B s)(h500:s.Choices.length<500)(h2000:s.Out.length<2000)(hr:aB n items s=[]):∀(m i k:Nat),n.Nodes.length- d9 n i<=m->i<n.Nodes.length->k<bD (ab n i)->dy n items s i k=none:=by
 have hR:=hS.toRightN;obtain⟨p1,_,p2⟩:=vk hR;intro m;induction m with
 |zero=>intro i k hm hi hk;have:=p1 i hi;omega
 | succ m ih=>
  intro i k hm hi hk;cases hh:dy n items s i k with
  |none=>rfl
  | some it=>
   exfalso;have hroom:roomy n s (bK (ab n i) it.Key)=true:=by
    unfold roomy;rw[Sc];intro r hro;have hro2:=kO hR hi _ r hro;have h0:=hR.outR i hi r hro2;obtain⟨j,hj,hrj⟩:=hR.toI r.toNat (by omega);have hpos:=p2 i j r hi hj hro2 (by rwa [Sh h0.1]at hrj);obtain⟨k',hk'⟩:=RX hrj;have hkl:=(RH.1 hk').1;have h1:(ab n j).Kind≠1:=λe=>by rw[hR.in1 j hj e]at hrj;cases hrj
    have hkl2:k'< bD (ab n j):=by
     unfold bD;split
     .exact hkl
     .rename_i h6;have:=hR.inx j hj h1 h6;omega
    have hnone:=ih j k' (by omega) hj hkl2;unfold dy at hnone;rw[if_neg h1]at hnone;have hrn:bA (ab n j) k'=r.toNat:=by unfold bA;rw[get_D 0 hk'];omega
    rw[hrn]at hnone;have hnil:s.Rings.getD r.toNat []=[]:=List.head?_eq_none_iff.1 hnone;rw[hnil];have:=hR.m1;simp;omega
   have hc:eG n items s i k=true:=by unfold eG;rw[hh];simp only;rw[hroom];simp;omega
   have:=r7 hi hk hc;rw[hr]at this;cases this
end
end
section
section
variable {n:Net} {items:List (List Item)} {E:Nat} {h:Shop} {s:State}
theorem D4 (hS:RightS n items)(hI:Inv n items s)(hr:aB n items s=[])(h5:s.Choices.length<500)(h2:s.Out.length<2000){m:Nat×Nat}(hm:okMv n m):hdM (bh n items) n (aX s) m=none:=by obtain⟨B,ok,_⟩:=hI;exact JU hS ok h5 h2 hr _ m.1 m.2 (RJ _) hm.1 hm.2
theorem Qa (q:SrcQ n items)(hI:Inv n items s){W:U (Nat×Nat)}(hW:RRun n items (aX (aS n items)) W (aX s))(hr:aB n items s=[])(h5:s.Choices.length<500)(h2:s.Out.length<2000){t:MSt Item Memory (U Choice)}(hn:NF n items s.Choices t):t.out=s.Out:=by
 obtain⟨t',u,h1,h3,_⟩:=FM q.S _ W _ J hW.free
 have h4:=jP hW
 have h5':s.Choices=chW n W:=by simpa [aX,aS]using h4
 rw[<- h5']at h1
 have:=h1.one q.S hn
 subst this
 cases h3 with
 |nil=>rfl
 |cons hx _=>
  obtain⟨hm,x,hx,_⟩:=hx
  rw[D4 q.S hI hr h5 h2 hm]at hx
  cases hx
theorem NC (q:SrcQ n items)(j:JT n items E h)(hd:h.Down=false):(cB h.Told h.S.Out h.Safe).2=0:=by
 have ht:=j.told;have hch:=j.inv.ch;have hl:=j.log;have hf:(gj h.S.Out h.Safe).2=0:=by unfold gj;rw[if_neg (by omega),if_neg (by omega)]
 unfold cB;rw[if_neg (by omega),if_neg (by simp[hf]),if_neg (λhc=>by
  rcases j.comp q hd with e|e
  .rw[hc.1]at e;cases e
  .rw[hc.2]at e;cases e)]
 split<;>rfl
variable {l:U Item}{k:Int}{F:U Choice}
theorem LC {t:U Item}(h0:(cB t l k).2=0)(hk:∀x,x∈l->x.Dep<=k):l.length<=(t++(cB t l k).1).length:=by
 have hw:∀(l:U Item),(∀x,x∈l->x.Dep<=k)->eU l k=l.length:=by
  intro l;induction l with
  |nil=>intro _;rfl
  |cons x l ih=>
   intro h;have:=ih λy hy=>h y (RQ _ hy)
   unfold eU at this ⊢;rw[List.takeWhile_cons,if_pos (by simpa using h x RM),R8,this,R8]
 have hf:=hw l hk;unfold cB at h0 ⊢;by_cases c1:2000<t.length
 .rw[if_pos c1]at h0;exact absurd h0 (by decide)
 rw[if_neg c1]at h0 ⊢;by_cases c2:(gj l k).2≠0
 .rw[if_pos c2]at h0;exact absurd h0 c2
 rw[if_neg c2]at h0 ⊢;by_cases c3:fw t l=false/\fw l t=false
 .rw[if_pos c3]at h0;exact absurd h0 (by decide)
 rw[if_neg c3,hf];split
 .simp;omega
 .simp;omega
theorem Mr (q:SrcQ n items)(j:JT n items E h)(hd:h.Down=false)(hr:aB n items h.S=[])(h5:h.S.Choices.length<500)(h2:h.S.Out.length<2000)(hl:h.S.Out.length<=h.Told.length):h.Told.map kv=h.S.Out.map kv:=by obtain⟨_,_,W,hW⟩:=j.toJR.upF q hd;obtain⟨t,hn,_,hp⟩:=j.pre q hd;rw[Qa q j.inv hW hr h5 h2 hn]at hp;exact hp.eq_of_length_le (by simpa using hl)
theorem Pv (hS:RightS n items)(hI:Inv n items s):∀c,c∈s.Choices->okC c:=λc hc=>by obtain⟨B,ok,_⟩:=hI;obtain⟨a1,a2,a3,a4,a5⟩:=ok.cho c hc;have h1:=pV hS.toRightN (i:=c.Node.toNat) (by omega);unfold bD at h1;rw[if_pos a3]at h1;have h2:=hS.n2;exact⟨a1,by omega,a4,by omega⟩
theorem Gg (ep:Nat)(S:U (U UInt8)):∀(n a:Nat) (l:U Choice) (w:U Write),(∀c,c∈l->okC c)->(bP ep S n a l w).2.2=0∨(bP ep S n a l w).2.2=8
 |0,a,l,w,_=>.inl J
 |n+1,a,l,w,hc=>by
  have h2:(dD (l.take 29)).2=0:=by unfold dD;rw[if_neg (by rw[S2];omega),if_pos λc h=>hc c (RV h)]
  unfold bP;by_cases h1:l=[]
  .rw[if_pos h1];exact .inl J
  rw[if_neg h1,if_neg (by simp[h2])];split
  .exact .inr J
  split
  .exact .inr J
  .exact Gg ep S n _ _ _ λc h=>hc c (SB h)
def CompL(n:Net)(a b:List Choice):Prop:=∀i,(ab n i).Kind=6->Comp (bp a i) (bp b i)
theorem JI {m:Move}(hm:m∈bW n items F s)(hc:CompL n s.Choices F):CompL n (doMv n items s m).Choices F:=λi h6=>by
 have h1:=lV hm;rw[yU h1];split
 .rename_i hk;obtain⟨a,k,rfl,hi,_,_⟩:=hU h1;rw[rI];split
  .rename_i e;have e0:((a:Nat):Int)=((i:Nat):Int):=e;have e:a=i:=by omega
   subst e;have hal:=(SL.1 hm).2;unfold cy at hal;rw[if_pos ⟨by simp,by simp;omega,by simpa using h6⟩]at hal;simp only[R7]at hal;rcases hc a h6 with⟨r,hr⟩|hp
   .rw[<- hr]at hal ⊢;cases r with
    |nil=>right;rw[Sg];exact List.prefix_append _ _
    |cons x r=>
     rw[Sn (RJ _)]at hal;simp at hal;subst hal;left;exact⟨r,by simp⟩
   .right;exact hp.trans (List.prefix_append _ _)
  .exact hc i h6
 .exact hc i h6
theorem BJ (hS:RightS n items):∀(f:Nat) (s:State) (w:U (Nat×Nat)),Reach n items w s->CompL n s.Choices F->∃w',Reach n items w' (iK n items F f s)/\CompL n (iK n items F f s).Choices F
 |0,s,w,hr,hc=>⟨w,hr,hc⟩
 | f+1,s,w,hr,hc=>by
  unfold iK;split
  .exact⟨w,hr,hc⟩
  .rename_i m l hm;have hm:m∈bW n items F s:=by rw[hm];exact RM
   exact BJ hS f _ _ (vr hS hr (lV hm)) (JI hm hc)
theorem Jt (hS:RightS n items){c e:State}{u w:U (Nat×Nat)}(hc:Reach n items u c)(he:Reach n items w e)(ha:bW n items e.Choices c=[])(hr:aB n items e=[])(h5:e.Choices.length<500)(h2:e.Out.length<2000)(h:CompL n c.Choices e.Choices):c.Out.map kv=e.Out.map kv:=by
 obtain⟨p,q,d,hp,hq,hpq⟩:=BE hS hc he h
 have hq0:q=[]:=by
  cases q with
  |nil=>rfl
  | cons m q=>
   cases hq with
   |cons hx _=>
    obtain⟨c',h1,_⟩:=wm hx;obtain⟨hm,x,hx,_⟩:=h1;rw[D4 hS he.inv hr h5 h2 hm]at hx;cases hx
 subst hq0
 have hd:=hq.nil_inv
 subst hd
 have ho:=Fk hp
 have ho':c.Out.length<2000:=by simp[era,aX]at ho;omega
 have hcl:c.Choices.length<=e.Choices.length:=by
  have h1:=F6 (n:=n) λi=>(hpq i).1
  rw[yA,Sg,RN,<- iB hc,<- iB he]at h1;omega
 have hp0:p=[]:=by
  cases p with
  |nil=>rfl
  | cons m p=>
   exfalso;cases hp with
   | cons hx _=>
    obtain⟨c',h1,_⟩:=wm hx;have hcan:=vh (i:=m.1) (k:=m.2) hS h1 (λ_=>by omega) (λ_=>by omega);have hmem:=r7 h1.1.1 h1.1.2 hcan;have hal:cy n c.Choices e.Choices (⟨m.1,m.2⟩:Move)=true:=by
     unfold cy;split
     .rename_i hk;have h6:(ab n m.1).Kind=6:=by simpa using hk.2.2
      have e1:=(hpq m.1).1;rw[Sg,hY,fj,if_pos J]at e1;have l1:=u6 m.1 h6 u;rw[<- iB hc]at l1;have l2:=u6 m.1 h6 w;rw[<- iB he,<- e1,SC,<- l1,Se]at l2;simp only[R7];rw[l2,Sn (RJ _)];simp
     .rfl
    have:(⟨m.1,m.2⟩:Move)∈bW n items e.Choices c:=SL.2 ⟨hmem,hal⟩;rw[ha]at this;cases this
 subst hp0
 have h1:=hp.nil_inv
 exact(congrArg MSt.out h1).symm
theorem JL (q:SrcQ n items)(hI:Inv n items s):RightC n s.Choices:=by obtain⟨B,ok,_⟩:=hI;refine⟨?_,ok.ch,ok.cho⟩;have h:=q.src;unfold bt at h;omega
theorem Jo (q:SrcQ n items){W:U (Nat×Nat)}(he:Reach n items W s)(hr:aB n items s=[])(h5:s.Choices.length<500)(h2:s.Out.length<2000):
  ∃t,pz n items s.Choices []=some (aS n items,0)/\pj n items s.Choices (aS n items)=some (t,0)/\t.Out.map kv=s.Out.map kv/\t.Out.length<=2000:=by
 have hS:=q.S
 have hC:=JL q he.inv
 have r0:Reach n items [] (aS n items):=⟨iA hS,.nil _⟩
 have hend:=KC (forced:=s.Choices) hS r0.inv
 obtain⟨w',hw,hcl⟩:=BJ hS (F:=s.Choices) (muN n items (aS n items)) _ _ r0 (λi _=>.inl List.nil_prefix)
 refine⟨tfinS n items s.Choices (aS n items),?_,JY n items s.Choices _ q.src hC r0.inv q.io hend,Jt hS hw he hend hr h5 h2 hcl,hw.inv.ch.2⟩
 have:=LF n items s.Choices [] q.io
 rw[if_neg (by simp[q.src]),if_neg (by simp[si hC]),if_neg (by simp)]at this
 exact this
theorem Pg (q:SrcQ n items){W:U (Nat×Nat)}(he:Reach n items W s)(hr:aB n items s=[])(h5:s.Choices.length<500)(h2:s.Out.length<2000)(hl:l.length<=2000)(hk:l.map kv=s.Out.map kv):
  ∃b e,nJ n items l=some (b,e)/\((e==2)||((e==0)&&b))=true:=by
 have hn:=q.l.1
 by_cases hA:(allE n items).2=0
 .obtain⟨hsrc,w,hw,hal,ho,hlen⟩:=EV q.io hA
  obtain⟨b,hc,hcb⟩:=Pq (by omega) q.io hA l hl
  have hrows:=CS ho
  have hm:=MO q.S hw he hr h5 h2
  have hpl:l.map d8=s.Out.map d8:=by have:=congrArg (List.map λp:Int×Int=>(⟨p.1,p.2,0⟩:Item)) hk;rw[SQ,SQ]at this;exact this
  refine⟨b,0,hc,?_⟩
  rw[hcb (by rw[hal,hpl];exact KG hrows.1 ((nv w.out).symm.subset hm))]
  rfl
 .have h22:(allE n items).2=2:=by
   unfold allE at hA ⊢;rw[if_neg (by simp[q.src])]at hA ⊢;split at hA
   .exact absurd J hA
   .rfl
  refine⟨false,2,?_,J⟩
  unfold nJ
  rw[if_neg (by simp;omega),Gn n items (by omega) q.io,RF,if_pos (by simp[h22]),h22]
theorem JT.nextH (q:SrcQ n items)(j:JT n items E h)(x:Happening):∃E',JT n items E' (cZ h x):=by
 unfold cZ;by_cases h0:(hapP h x).2=0
 .rw[if_pos h0];have hxk:¬(x.Kind<1∨7<x.Kind):=λhx=>by unfold hapP at h0;rw[if_pos hx]at h0;exact absurd h0 (by decide)
  have hhp:hapP h x=doP h x.Kind x.N:=by unfold hapP;rw[if_neg hxk]
  rw[hhp]at h0 ⊢;obtain⟨E',j',_⟩:=j.do q _ _ h0;exact⟨E',j'⟩
 .rw[if_neg h0];exact⟨E,j⟩
theorem JT.run (q:SrcQ n items):∀(l:U Happening) {E:Nat} {h:Shop},JT n items E h->∃E',JT n items E' (runP h l)
 |[],E,h,j=>⟨E,j⟩
 |x::l,E,h,j=>by obtain⟨E',j'⟩:=j.nextH q x;exact JT.run q l j'
theorem nU (q:SrcQ n items)(j:JT n items E h)(hk:1<=k/\k<=7):eJ h ⟨k,0⟩=some (doP h k 0):=by have:=Cv q j.toJS k 0;rw[if_neg (by omega)]at this;exact this
theorem far_b (s:State):∃b,rK s=some b/\(b=true->s.Choices.length<500/\s.Out.length<2000):=⟨_,J,λh=>by simp at h;omega⟩
theorem Ej (q:SrcQ n items)(j:JT n items E h)(hd:h.Down=false)(hr:aB n items h.S=[])(calm:Bool)(x6:Shop×(U Int)×Int)(hB:x6.1.Told.map kv <+: h.Told.map kv)(hBl:x6.1.Told.length<=2000):
  lA n items calm x6 h.N.Nodes h.N.Rings h.N.Room h.Items h.S.At h.S.Rings h.S.Memory h.S.Choices h.S.Out h.D.Sectors h.D.Wait h.Logged h.Safe h.Epoch h.Laid h.Next h.Told h.Down=some (.inr true):=by
 have d1:eJ (⟨⟨h.N.Nodes,h.N.Rings,h.N.Room⟩,h.Items,⟨h.S.At,h.S.Rings,h.S.Memory,h.S.Choices,h.S.Out⟩,⟨h.D.Sectors,h.D.Wait⟩,h.Logged,h.Safe,h.Epoch,h.Laid,h.Next,h.Told,h.Down⟩:Shop) ⟨1,0⟩=some (doP h 1 0):=nU q j (by decide)
 have e1:doP h 1 0=(noH,10):=by rw[doP_1 hd,j.N,j.I,if_pos hr]
 have d3:eJ (⟨⟨h.N.Nodes,h.N.Rings,h.N.Room⟩,h.Items,⟨h.S.At,h.S.Rings,h.S.Memory,h.S.Choices,h.S.Out⟩,⟨h.D.Sectors,h.D.Wait⟩,h.Logged,h.Safe,h.Epoch,h.Laid,h.Next,h.Told,h.Down⟩:Shop) ⟨3,0⟩=some (doP h 3 0):=nU q j (by decide)
 have s1:(doP h 3 0).1.S=h.S/\(doP h 3 0).1.Down=false/\¬0<=(doP h 3 0).1.Laid/\(doP h 3 0).2=0:=by
  rw[doP_3 hd];split
  .exact⟨J,hd,by simp,J⟩
  .rename_i hl;exact⟨J,hd,hl,J⟩
 obtain⟨E1,j1,_,t1⟩:=j.do q 3 0 s1.2.2.2
 unfold lA
 rw[show dB 1 0=some ⟨1,0⟩from J,RF,d1,RF,e1,if_pos (by rfl),show dB 3 0=some ⟨3,0⟩from J,RF,d3,RF]
 generalize doP h 3 0=y1 at s1 j1 t1
 obtain⟨z1,r1⟩:=y1
 simp only at s1 j1 t1⊢
 obtain⟨sS,sd,sl,s0⟩:=s1
 subst s0
 have w8:(doP z1 2 0).2=0∨(doP z1 2 0).2=8:=by
  rw[doP_2 sd,if_neg sl];rcases Gg z1.Epoch.toNat z1.D.Sectors (z1.S.Choices.drop z1.Logged.toNat).length z1.Next.toNat (z1.S.Choices.drop z1.Logged.toNat) z1.D.Wait (λc hc=>Pv q.S j1.inv c (SB hc))with e|e
  .left;rw[if_neg (λhne=>hne e)]
  .right;rw[if_pos (by rw[e];decide)];exact e
 rw[if_neg (by simp),show dB 2 0=some ⟨2,0⟩from J,RF,show eJ z1 ⟨2,0⟩=some (doP z1 2 0)from nU q j1 (by decide),RF]
 by_cases w0:(doP z1 2 0).2=0
 .have s2:(doP z1 2 0).1.S=z1.S/\(doP z1 2 0).1.Down=false/\¬0<=(doP z1 2 0).1.Laid/\(doP z1 2 0).1.Logged=(z1.S.Choices.length:Int):=by
   rw[doP_2 sd,if_neg sl]at w0 ⊢;by_cases he:(bP z1.Epoch.toNat z1.D.Sectors (z1.S.Choices.drop z1.Logged.toNat).length z1.Next.toNat (z1.S.Choices.drop z1.Logged.toNat) z1.D.Wait).2.2=0
   .rw[if_neg (by simpa using he)];exact⟨J,sd,sl,J⟩
   .rw[if_pos he]at w0;exact absurd w0 he
  obtain⟨E2,j2,_,t2⟩:=j1.do q 2 0 w0
  rw[if_neg (by simp[w0])]
  generalize doP z1 2 0=y2 at s2 j2 t2 w0
  obtain⟨z2,r2⟩:=y2
  simp only at s2 j2 t2 w0⊢
  obtain⟨uS,ud,ul,ug⟩:=s2
  have s3:(doP z2 3 0).1.S=z2.S/\(doP z2 3 0).1.Down=false/\(doP z2 3 0).1.Safe=(z2.S.Choices.length:Int)/\(doP z2 3 0).2=0:=by rw[doP_3 ud,if_neg ul];exact⟨J,ud,by rw[uS];exact ug,J⟩
  obtain⟨E3,j3,_,t3⟩:=j2.do q 3 0 s3.2.2.2
  rw[RF,show eJ z2 ⟨3,0⟩=some (doP z2 3 0)from nU q j2 (by decide),RF]
  generalize doP z2 3 0=y3 at s3 j3 t3
  obtain⟨z3,r3⟩:=y3
  simp only at s3 j3 t3⊢
  obtain⟨vS,vd,vg,v0⟩:=s3
  subst v0
  have hk:=NC q j3 vd
  have e4:doP z3 4 0=({ z3 with Told:=z3.Told++(cB z3.Told z3.S.Out z3.Safe).1 },0):=by rw[doP_4 vd,if_neg (by simp[hk])]
  obtain⟨E4,j4,_,t4⟩:=j3.do q 4 0 (by rw[e4])
  have hlen:z3.S.Out.length<=(z3.Told++(cB z3.Told z3.S.Out z3.Safe).1).length:=LC hk λx hx=>by obtain⟨B,ok,_⟩:=j3.inv;have:=(ok.depO x hx).2;rw[vg,<- vS];exact this
  rw[if_neg (by simp),show dB 4 0=some ⟨4,0⟩from J,RF,show eJ z3 ⟨4,0⟩=some (doP z3 4 0)from nU q j3 (by decide),RF]
  rw[e4]at j4 t4⊢
  have hS3:z3.S=h.S:=by rw[vS,uS,sS]
  generalize hT:z3.Told++(cB z3.Told z3.S.Out z3.Safe).1=T4 at *
  simp only at j4 t4⊢
  rw[if_neg (by simp),xb _ _ (by omega),RF,xO (hB.trans (t1.trans (t2.trans (t3.trans t4))))]
  obtain⟨b,hf,hfb⟩:=far_b z3.S
  rw[hf]
  cases b with
  |false=>rfl
  | true=>
   obtain⟨h5,h2⟩:=hfb J
   obtain⟨_,_,W,hW⟩:=j3.toJR.upF q vd
   have he:Reach n items W z3.S:=⟨j3.inv,hW⟩
   have hr3:aB n items z3.S=[]:=by rw[hS3];exact hr
   have hk4:T4.map kv=z3.S.Out.map kv:=Mr q j4 vd hr3 h5 h2 hlen
   have hTl:T4.length<=2000:=j4.told
   obtain⟨t,p1,p2,p3,p4⟩:=Jo q he hr3 h5 h2
   rw[if_neg (by decide),RF,RF,if_neg (by decide),Cf _ _ (by omega),RF,show kQ T4 z3.S.Out=true from decide_eq_true hk4,if_neg (by decide),p1,RF,if_neg (by simp),p2,RF,if_neg (by simp),
    Cf _ _ (by show t.Out.length<=1099511627776;omega),RF,show kQ t.Out T4=true from decide_eq_true (by rw[p3,hk4]),RF,if_neg (by decide)]
   cases calm with
   |false=>rfl
   |true=>
    obtain⟨b,e,c1,c2⟩:=Pg q he hr3 h5 h2 hTl hk4
    rw[if_neg (by decide),c1,RF,c2]
    rfl
 .have e8:(doP z1 2 0).2=8:=w8.resolve_left w0
  rw[if_pos (by simpa using w0),e8]
  rfl
theorem Ln (q:SrcQ n items)(calm:Bool)(x6:Shop×(U Int)×Int)(hBl:x6.1.Told.length<=2000):∀(f:Nat) (E:Nat) (h:Shop),JT n items E h->h.Down=false->muN n items h.S<=f->x6.1.Told.map kv <+: h.Told.map kv ->
  iter (λss:(U Node)×Int×Int×(U (U Item))×(U Int)×(U (U Item))×(U Memory)×(U Choice)×(U Item)×(U (U UInt8))×(U Write)×Int×Int×Int×Int×Int×(U Item)×Bool=>lA n items calm x6 ss.1 ss.2.1 ss.2.2.1 ss.2.2.2.1 ss.2.2.2.2.1 ss.2.2.2.2.2.1 ss.2.2.2.2.2.2.1 ss.2.2.2.2.2.2.2.1 ss.2.2.2.2.2.2.2.2.1 ss.2.2.2.2.2.2.2.2.2.1 ss.2.2.2.2.2.2.2.2.2.2.1 ss.2.2.2.2.2.2.2.2.2.2.2.1 ss.2.2.2.2.2.2.2.2.2.2.2.2.1 ss.2.2.2.2.2.2.2.2.2.2.2.2.2.1 ss.2.2.2.2.2.2.2.2.2.2.2.2.2.2.1 ss.2.2.2.2.2.2.2.2.2.2.2.2.2.2.2.1 ss.2.2.2.2.2.2.2.2.2.2.2.2.2.2.2.2.1 ss.2.2.2.2.2.2.2.2.2.2.2.2.2.2.2.2.2) (h.N.Nodes,h.N.Rings,h.N.Room,h.Items,h.S.At,h.S.Rings,h.S.Memory,h.S.Choices,h.S.Out,h.D.Sectors,h.D.Wait,h.Logged,h.Safe,h.Epoch,h.Laid,h.Next,h.Told,h.Down)=some true:=by
 intro f
 induction f with
 | zero=>
  intro E h j hd hm hB
  have hr:aB n items h.S=[]:=by
   cases hr:aB n items h.S with
   |nil=>rfl
   |cons m l=>have:=(Inv.doMv q.S j.inv (show m∈aB n items h.S by rw[hr];exact RM)).2;omega
  rw[aE]
  simp only[Ej q j hd hr calm x6 hB hBl]
 | succ f ih=>
  intro E h j hd hm hB
  by_cases hr:aB n items h.S=[]
  .rw[aE]
   simp only[Ej q j hd hr calm x6 hB hBl]
  .have d1:eJ (⟨⟨h.N.Nodes,h.N.Rings,h.N.Room⟩,h.Items,⟨h.S.At,h.S.Rings,h.S.Memory,h.S.Choices,h.S.Out⟩,⟨h.D.Sectors,h.D.Wait⟩,h.Logged,h.Safe,h.Epoch,h.Laid,h.Next,h.Told,h.Down⟩:Shop) ⟨1,0⟩=some (doP h 1 0):=nU q j (by decide)
   have e1:doP h 1 0=({ h with S:=doMv n items h.S (dg (aB n items h.S) 0) },0):=by rw[doP_1 hd,j.N,j.I,if_neg hr]
   obtain⟨E1,j1,_,t1⟩:=j.do q 1 0 (by rw[e1])
   have hmu:=(Inv.doMv q.S j.inv (vB hr 0).1).2
   rw[e1]at d1 j1 t1
   have e:lA n items calm x6 h.N.Nodes h.N.Rings h.N.Room h.Items h.S.At h.S.Rings h.S.Memory h.S.Choices h.S.Out h.D.Sectors h.D.Wait h.Logged h.Safe h.Epoch h.Laid h.Next h.Told h.Down=some (.inl (h.N.Nodes,h.N.Rings,h.N.Room,h.Items,(doMv n items h.S (dg (aB n items h.S) 0)).At,(doMv n items h.S (dg (aB n items h.S) 0)).Rings,(doMv n items h.S (dg (aB n items h.S) 0)).Memory,(doMv n items h.S (dg (aB n items h.S) 0)).Choices,(doMv n items h.S (dg (aB n items h.S) 0)).Out,h.D.Sectors,h.D.Wait,h.Logged,h.Safe,h.Epoch,h.Laid,h.Next,h.Told,h.Down)):=by unfold lA;rw[show dB 1 0=some ⟨1,0⟩from J,RF,d1,RF,if_neg (by simp),if_neg (by simp)]
   rw[aE]
   simp only[e]
   exact ih E1 _ j1 hd (by show muN n items (doMv n items h.S _)<=f;omega) (hB.trans t1)
theorem Iy (n:Net)(items:U (U Item))(script:U Happening)(calm:Bool)(gn:gNet n)(gi:gL (gL dO) items)(gs:gL xu script)(gc:gB calm)(hb:mNet n+(mL (mL dF) items+(mL u1 script+0))<=1048576):uA n items script calm=some true:=by
 have hio:=Nm (show mNet n<=1048576 by omega);have key:∀z:U Happening,z.length<=60->mG n items calm z=some true:=λz hz=>by
  unfold mG;by_cases hs:bt n items=0
  .have q:SrcQ n items:=⟨eq hs,hs,hio,gi⟩
   rw[Gt q z (by omega),RF,AS,RF,if_neg (by simp)];obtain⟨E,j⟩:=JT.run q z (JT.start q);simp only;generalize runP (newH n items) z=h at j;have fin:∀(E:Nat) (y:Shop),JT n items E y->y.Down=false->h.Told.map kv <+: y.Told.map kv->mF n items calm (h,saysP (newH n items) z,0) y.N.Nodes y.N.Rings y.N.Room y.Items y.S.At y.S.Rings y.S.Memory y.S.Choices y.S.Out y.D.Sectors y.D.Wait y.Logged y.Safe y.Epoch y.Laid y.Next y.Told y.Down=some true:=λE y j' hd ht=>by unfold mF;exact Ln q calm (h,saysP (newH n items) z,0) j.told (muN n items y.S) E y j' hd (RJ _) ht
   by_cases hd:h.Down=true
   .have e0:=(j.err q 6 0).2.2 J hd;obtain⟨E1,j1,_,t1⟩:=j.do q 6 0 e0;have hdn:(doP h 6 0).1.Down=false:=by
     obtain⟨b,cs,t,_,_,_,hup,_⟩:=j.toJR.up q hd 0;rw[hup]
    rw[if_pos hd,show dB 6 0=some ⟨6,0⟩from J,RF,show eJ h ⟨6,0⟩=some (doP h 6 0)from nU q j (by decide),RF,if_neg (by simp[e0])];exact fin E1 _ j1 hdn t1
   .rw[if_neg hd];exact fin E h j (by simpa using hd) (List.prefix_refl _)
  .rw[Pe hio hs,RF,AS,RF,if_pos (by simp[hs]),RF]
 unfold uA;by_cases hl:60<script.length
 .rw[if_pos (by simp;omega),show sub script 0 60=some (script.take 60)from sub_0 (j:=60) (by omega),RF];exact key _ (by rw[S2];omega)
 .rw[if_neg (by simp;omega)];exact key _ (by omega)
end
end
end Go.Proofs.YtfglbbhdfgjheaaGreatDoor
namespace Go.Proofs.YtfglbbhdfgjheaaGreatDoor.shopEndsLaw
open Go.ChangeShapes Go.WideShapes Go.ChangeAt Go.RowKit
theorem own:ownKnob QbP.godebug=none:=by kernel_rfl
theorem laid:laidOutB QbP=true:=by kernel_rfl
theorem ok:(Tryz.f3.params.toList.all λt=>QbP.readableRec t&&decide (t<QbP.types.size))=true:=by kernel_rfl
set_option maxRecDepth 100000 in
theorem contract (H:Type) (enc:TypeId×Value->H) (W:World) (base:Nat) (args:Array Value) (ds gs:List (DataW H)) (before:List MemPlace)
  (hval:∀(j:Nat) t v,Tryz.f3.params[j]?=some t->args[j]?=some v->Value.okWide QbP W .any base t v)
  (hW:DataW.Whole enc QbP Tryz.f3.params.toList Rows.shopEndsSpec.vars false W args.toList ds gs before) (hk:Rows.uptoSmall H (ds++gs)=true):
  Calls QbP 3 args W λe W'=>∃v,e=.returned v/\Rows.shopEndsSpec.post enc QbP Tryz.f3 false true false false W args v W':=by
 have hW':=hW
 obtain⟨p,q,hA0,hV,rfl,hfz,hnd⟩:=hW
 have hA:DataW.TrodAll enc QbP W 0 (λ_=>true) true Tryz.f3.params.toList args.toList ds p:=hA0
 rw[Tryz.params3]at hA hval
 obtain⟨v0,vs0,d0,ds0,p0,q0,hargs,rfl,rfl,h0,r0⟩:=trodAll_cons hA
 obtain⟨v1,vs1,d1,ds1,p1,q1,rfl,rfl,rfl,h1,r1⟩:=trodAll_cons r0
 obtain⟨v2,vs2,d2,ds2,p2,q2,rfl,rfl,rfl,h2,r2⟩:=trodAll_cons r1
 obtain⟨v3,vs3,d3,ds3,p3,q3,rfl,rfl,rfl,h3,r3⟩:=trodAll_cons r2
 obtain⟨rfl,rfl,rfl⟩:=trodAll_nil r3
 obtain rfl:args=#[v0,v1,v2,v3]:=by cases args;simp_all
 obtain⟨rfl,rfl⟩:=trodVars_none hV
 obtain⟨x0,a0,g0,m0⟩:=Opn.args on24 WP (hval 0 _ v0 J J) h0
 obtain⟨x1,a1,g1,m1⟩:=UH on25 (by rw[Ws]) (hval 1 _ v1 J J) h1
 obtain⟨x2,a2,g2,m2⟩:=UH on26 (by rw[Wt]) (hval 2 _ v2 J J) h2
 obtain⟨x3,a3,g3,m3⟩:=UH on4 (by rw[Wm]) (hval 3 _ v3 J J) h3
 have hb:Rows.uptoBulkAll ([d0,d1,d2,d3]:List (DataW H))<=1048576:=of_decide_eq_true hk
 simp only[Rows.uptoBulkAll]at hb
 refine ME laid Wm (by kernel_rfl) ok J J J J hW' (av:=[_,_,_,_]) (.cons a0 (.cons a1 (.cons a2 (.cons a3 (.nil))))) (HN (Iy x0 x1 x2 x3 g0 g1 g2 g3 (by omega)))
set_option maxRecDepth 100000 in
def flatV:Nat->DataW Unit->List Value
 |_,.lit (.int k x)=>[.int k x]
 |f+1,.agg l=>(l.map (flatV f)).flatten
 |_,_=>[]
def putC(d:DataW Unit):Go.Obj->Go.Obj
 | .cells c t frozen=>.cells (match d with| .agg l=>(flatV 4 (.agg l)).toArray|_=>c) t frozen
 |o=>o
def datum(x:String):DataW Unit:=((Rows.shopEndsUptoRow.laid.find? λp=>p.1==x).map (·.2)).getD .nil
noncomputable def laidWorld(os:Os):World:=
 { World.holding QbP os ⟨#[],#[],[]⟩with heap:=((((World.holding QbP os ⟨#[],#[],[]⟩).heap.modify 0 (putC (datum "internal/strconv.uint64pow10"))).modify 1 (putC (datum "math/bits.deBruijn32tab"))).modify 2 (putC (datum "math/bits.deBruijn64tab"))) }
theorem laid_met(os:Os):laidMet QbP Rows.shopEndsUptoRow.laid ((laidWorld os).forCall (λ_ _=>0) ⟨#[],#[.agg #[.slice none 0 0,.int .i64 0,.int .i64 0],.slice none 0 0,.slice none 0 0,.bool false],[]⟩).memory:=
 laidMet_of_run' 8 (by kernel_rfl) (by kernel_rfl)
theorem reads(os:Os){H:Type}(enc:TypeId×Value->H):∃places,DataW.whole enc QbP ((laidWorld os).forCall (λ_ _=>0) ⟨#[],#[.agg #[.slice none 0 0,.int .i64 0,.int .i64 0],.slice none 0 0,.slice none 0 0,.bool false],[]⟩).memory Tryz.f3.params.toList Rows.shopEndsSpec.vars false #[.agg #[.slice none 0 0,.int .i64 0,.int .i64 0],.slice none 0 0,.slice none 0 0,.bool false].toList 8=some ([.agg [.nil,.lit (.int .i64 0),.lit (.int .i64 0)],.nil,.nil,.lit (.bool false)],[],places):=
 ⟨[],by kernel_rfl⟩
set_option maxRecDepth 100000 in
theorem lifted (os:Os) (started:os.Started) (H:Type) (enc:TypeId×Value->H) (F:Stop.Interp):
  ReturnsInHanded {} Tryz.checked os 3 .any ((Rows.OpenSpec.upto Rows.shopEndsSpec).preRow enc QbP Tryz.f3 Rows.shopEndsUptoRow.domain false Rows.shopEndsUptoRow.laid) (((Rows.OpenSpec.upto Rows.shopEndsSpec).at F).post enc QbP Tryz.f3 false true false false):=by
 obtain⟨places,hx⟩:=reads os enc
 refine returnsInHanded_of_row (C:=Tryz.checked) (s:=Rows.OpenSpec.upto Rows.shopEndsSpec) own started (by kernel_rfl) Wp
  (witness_row_at (enc:=enc) (C:=Tryz.checked) false (laidWorld os) #[.agg #[.slice none 0 0,.int .i64 0,.int .i64 0],.slice none 0 0,.slice none 0 0,.bool false] J (by kernel_rfl) (by kernel_rfl) (by kernel_rfl)
   (OpenSpec.preRow_of_cond 8 hx (by kernel_rfl) (λk hk=>by cases hk;kernel_rfl) (by kernel_rfl) (laid_met os))) ?_
 intro W base args ds gs before hval hW _ hk _ hL _ _
 exact contract H enc W base args ds gs before hval hW (hk _ J)
theorem said:Rows.ShopEndsUptoSaid:=
 OpenClaim.holds_of_cond 3 Tryz.f3 J J J J J J J ⟨J,J,J,J,J⟩ J J J J J (by kernel_rfl) Wp (by kernel_rfl)
  (of_decide_eq_true (by kernel_rfl)) (by unfold Func.isWrapper;first|(rw[if_pos (by decide+kernel)];kernel_rfl)|(rw[if_neg (by decide+kernel)];exact⟨J,J⟩))
  (λos started H enc _ F=>by rw[OpenClaim.pre_eq_preRow];exact lifted os started H enc F)
theorem plain(f:FuncId)(fn:Func)(hf:Tryz.pinned.checked.prog.funcNamed "crossroads/crosslaw.ShopEnds" =some f)(hfn:Tryz.pinned.checked.prog.funcs[f]?=some fn):
  true=Tryz.pinned.checked.prog.looks []/\∀(j:Nat) t,fn.params[j]?=some t->Tryz.pinned.checked.prog.wantsStandIn t=false:=by
 obtain rfl:f=3:=RR ((show QbP.funcNamed "crossroads/crosslaw.ShopEnds" =some 3 by kernel_rfl).symm.trans hf) |>.symm
 obtain rfl:fn=Tryz.f3:=(RR (Wp.symm.trans hfn)).symm
 refine⟨by kernel_rfl,λj t ht=>?_⟩
 have h:(Tryz.f3.params.toList.all λt=>!QbP.wantsStandIn t)=true:=by kernel_rfl
 have h:=Sc.1 h t (by simpa using Array.mem_of_getElem? ht)
 exact(show QbP.wantsStandIn t=false by simpa using h)
theorem proved:Rows.ShopEndsUptoCardSaid:=
 Claim7.holds_tied_plain_at .later [] _ _ _ _ said (λ_ h=>by cases h) (by kernel_rfl) (λ_ h=>by cases h) shopEndsUpto_row_tie rfl ⟨rfl,rfl⟩ (by kernel_rfl) rfl plain (by kernel_rfl)
#print axioms proved
end Go.Proofs.YtfglbbhdfgjheaaGreatDoor.shopEndsLaw
