/-
  Part 5 of the proof of shopEndsLaw.proved: the code computes these functions, and the law holds of them, with no condition beyond the statement's own; put together by a program of ours (wip/decl.py) out of texts of ours.
-/
import Derived.Test.YtfglbbhdfgjheaaGreatDoorZShopEnds4
set_option linter.unusedVariables false
set_option linter.unusedSimpArgs false
namespace Go.Proofs.YtfglbbhdfgjheaaGreatDoor
section
theorem ya(y:Item):∀(l:U Int) (R:U (U Item)),(dH y l R).length=R.length
 |[],R=>rfl
 |r::l,R=>by show(dH y l (R.set r.toNat (R.getD r.toNat []++[y]))).length=_;rw[ya y l];simp
theorem ye{α:Type}(l:U α)(i j:Nat)(a z:α)(h:i<l.length):(l.set i a).getD j z=if j=i then a else l.getD j z:=by grind
theorem yo(y:Item):∀(l:U Int) (R:U (U Item)),l.Nodup->(∀r,r∈l->0<=r/\r<R.length)->∀j:Nat,(dH y l R).getD j []=if(j:Int)∈l then R.getD j []++[y]else R.getD j []
 |[],R,_,_,j=>by simp[dH]
 |r::l,R,hd,hl,j=>by obtain⟨hn,hd⟩:=S8.1 hd;have hr:=hl r RM;show(dH y l (R.set r.toNat (R.getD r.toNat []++[y]))).getD j []=_;rw[yo y l _ hd (λq hq=>by grind) j,ye _ _ _ _ _ (by omega)];grind
theorem Kz(y:Item)(l:U Int)(r:Int)(R:U (U Item)):dH y (l++[r]) R=(dH y l R).set r.toNat ((dH y l R).getD r.toNat []++[y]):=by simp[dH]
theorem I8(l:U Item)(R:Int)(y:Item)(h1:1<=R)(h2:R<=6)(h:(l.length:Int)<R):sC l R y=some (l++[y],0):=by unfold sC;rw[if_neg (by simp;omega),if_neg (by simp;omega),if_neg (by simp;omega)];grind[fh,cC]
theorem IE(x:Item)(l:U Item)(h:(x::l).length<=6):sm (x::l)=some (x,l,0):=by
 unfold sm;have h':l.length+1<=6:=by simpa using h
 rw[if_neg (by simp;omega),if_neg (by simp;omega)];grind[idx,sub,kP,fh,cC]
section
variable {n:Net} {items:List (List Item)} {B:Int} {s:State}
def fP(n:Net)(s:State)(i k:Nat):List (List Item):=if(ab n i).Kind=1 then s.Rings else s.Rings.set (bA (ab n i) k) (s.Rings.getD (bA (ab n i) k) []).tail
theorem xx (i k:Nat):(fP n s i k).length=s.Rings.length:=by grind[fP]
variable {i k:Nat}
theorem BL (hR:RightN n)(hrg:(s.Rings.length:Int)=n.Rings)(hi:i<n.Nodes.length)(hk:k<bD (ab n i))(j:Nat):
  (fP n s i k).getD j []=if(ab n i).Kind≠1/\j=bA (ab n i) k then(s.Rings.getD j []).tail else s.Rings.getD j []:=by
 unfold fP
 grind
theorem nK (hc:eG n items s i k=true):∃it,dy n items s i k=some it/\roomy n s (bK (ab n i) it.Key)=true/\((ab n i).Kind=6->s.Choices.length≠500)/\((ab n i).Kind=8->s.Out.length≠2000):=by unfold eG at hc;grind
theorem CF (hR:RightN n)(a2:U Memory)(a3 l:U Int)(a5:U Choice)(M:Memory×Item×Int)(q:Nat)(O:U Item)(R:U (U Item))(hd:l.Nodup)(hl:∀r,r∈l->0<=r/\r<R.length/\((R.getD r.toNat []).length:Int)<n.Room)(hll:l.length<=16):∀(m j:Nat),j+m=l.length ->
  iter (λss:Int×(U (U Item))=>mR n a2 a3 l a5 M q O ss.1 ss.2) ((j:Int),dH M.2.1 (l.take j) R)=some (a3,dH M.2.1 l R,a2.set q M.1,a5,O)
 |0,j,h=>by
  simp_all[mR,aE]
 | m+1,j,h=>by
  have hlt:j<l.length:=by omega
  have hm:=hl _ (R6 hlt);have htk:l.take (j+1)=l.take j++[l[j]]:=List.take_succ_eq_append_getElem hlt;have hnd:(l.take j).Nodup:=hd.sublist (List.take_sublist _ _);have hnm:l[j]∉l.take j:=λhmem=>by grind[List.nodup_append]
  have hlen:=ya M.2.1 (l.take j) R;have hget:(dH M.2.1 (l.take j) R).getD l[j].toNat []=R.getD l[j].toNat []:=by rw[yo _ _ _ hnd (λr hr=>⟨(hl r (RV hr)).1,(hl r (RV hr)).2.1⟩),if_neg (by grind)]
  have e:mR n a2 a3 l a5 M q O (j:Int) (dH M.2.1 (l.take j) R)=some (.inl (((j+1:Nat):Int),dH M.2.1 (l.take (j+1)) R)):=by
   unfold mR;rw[if_pos (by simp;omega),bv (RG hlt),RF,ixN_D hm.1 (by omega),RF,dZ [] (show l[j].toNat<_ by omega),RF,hget,
    I8 _ _ _ hR.m1 hR.m2 hm.2.2,RF,RF,dZ [] (show l[j].toNat<_ by omega),RF,bf (by omega),htk,Kz,hget]
  rw[aE];simp only[e];exact CF hR a2 a3 l a5 M q O R hd hl hll m (j+1) (by omega)
theorem Br (hR:RightN n)(a2:U Memory)(a3 l:U Int)(a5:U Choice)(M:Memory×Item×Int)(q:Nat)(O:U Item)(R:U (U Item))(hd:l.Nodup)(hl:∀r,r∈l->0<=r/\r<R.length/\((R.getD r.toNat []).length:Int)<n.Room)(hll:l.length<=16):
 oZ n a2 a3 R l a5 M q O=some (a3,dH M.2.1 l R,a2.set q M.1,a5,O):=CF hR a2 a3 l a5 M q O R hd hl hll l.length 0 (by omega)
theorem do_eq (hS:RightS n items)(ok:OkS n items B s)(hi:i<n.Nodes.length)(hk:k<bD (ab n i))(hc:eG n items s i k=true):
  pg n items ⟨i,k⟩ s.At s.Rings s.Memory s.Choices s.Out=some ((doM n items s i k).At,(doM n items s i k).Rings,(doM n items s i k).Memory,(doM n items s i k).Choices,(doM n items s i k).Out):=by
 obtain⟨it,hh,hroom,h500,h2000⟩:=nK hc
 have hhd:=E6 hS ok hi hk
 rw[hh]at hhd
 have hrg:=ok.rg
 have hR:=hS.toRightN
 have hlt:∀r,r∈bK (ab n i) it.Key->0<=r/\r<(fP n s i k).length/\(((fP n s i k).getD r.toNat []).length:Int)<n.Room:=λr hr=>by have h1:=hR.outR i hi r (kO hR hi _ r hr);refine⟨h1.1,by grind[xx],?_⟩;have h2:=Sc.1 hroom r hr;have h2:=of_decide_eq_true h2;grind[BL]
 have hol:(bK (ab n i) it.Key).length<=16:=by grind[bK,v6]
 have tail:∀(At:U Int) (R:U (U Item)),R=fP n s i k->mN n ⟨i,k⟩ (ab n i) (it,true) s.Memory s.Choices s.Out At R=
   some (At,dH (dS n s i it).2 (bK (ab n i) it.Key) R,s.Memory.set i (dS n s i it).1,if(ab n i).Kind=6 then s.Choices++[⟨i,k⟩]else s.Choices,if(ab n i).Kind=8 then s.Out++[(dS n s i it).2]else s.Out):=λAt R hRe=>by
  subst hRe
  have hmi:i<s.Memory.length:=by rw[ok.mm];exact hi
  have hm:=dZ (⟨0,[],0⟩:Memory) hmi
  have hdep:=yl hS ok hh
  have hch:=ok.ch
  have k3:∀(z22:Int) (z23:U Choice),(⟨it.Key,it.Val,z22⟩:Item)=chD (ab n i) s it->0<=z22->mP n ⟨i,k⟩ (ab n i) (it,true) s.Memory s.Out At (fP n s i k) (bK (ab n i) it.Key) z22 z23=
    some (At,dH (dS n s i it).2 (bK (ab n i) it.Key) (fP n s i k),s.Memory.set i (dS n s i it).1,z23,if(ab n i).Kind=8 then s.Out++[(dS n s i it).2]else s.Out):=λz22 z23 hz hz0=>by
   have hst:kx (ab n i).Kind (ab n i).A (s.Memory.getD i ⟨0,[],0⟩) (⟨it.Key,it.Val,z22⟩:Item)=some ((dS n s i it).1,(dS n s i it).2,0):=by rw[F4 _ _ _ _ (ok.mem i _ hm).1 hz0 (hS.kind i hi),hz];rfl
   unfold mP
   simp only
   rw[cP hmi,RF,hm,RF,hst,RF,RF,hm,RF]
   by_cases h8:(ab n i).Kind=8
   .have:=ok.out
    rw[if_pos (by grind),cC (by simp;omega),RF,Br hR _ _ _ _ _ _ _ _ (yv hR hi _) hlt hol,if_pos h8]
   simp_all[Br,yv]
  unfold mN
  rw[AW hR hi,RF]
  by_cases h6:(ab n i).Kind=6
  .rw[if_pos (by grind),cC (by simp;omega),RF,k3 _ _ (by simp_all[chD]) (by omega),if_pos h6]
  simp_all[chD]
 unfold pg doM
 simp only[hh]
 rw[bv (jG hi),RF,hhd,RF]
 by_cases h1:(ab n i).Kind=1
 .rw[if_pos (by grind)]
  obtain⟨a0,a1,a2,a3,a4,a5⟩:=at_ok hS ok hi h1
  rw[ixN_D a0 a1,RF,dZ 0 (show(ab n i).A.toNat<s.At.length by omega),RF,RF,dZ 0 (show(ab n i).A.toNat<s.At.length by omega),RF]
  simp only
  rw[tail _ _ (by simp_all[fP]),if_pos h1,if_pos h1,bG (by omega) (by omega)]
 .rw[if_neg (by grind)]
  have hkl:=vY hR hi hk h1
  obtain⟨_,b0,b1⟩:=vT hR hi hkl
  have hd0:idx (ab n i).In (k:Int)=some ((ab n i).In.getD k 0):=bv (dZ 0 hkl)
  have hrl:((ab n i).In.getD k 0).toNat<s.Rings.length:=by omega
  unfold dy at hh
  rw[if_neg h1]at hh
  obtain⟨tl,htl⟩:∃tl,s.Rings.getD (bA (ab n i) k) []=it::tl:=by
   cases hq:s.Rings.getD (bA (ab n i) k) []with
   |nil=>grind
   |cons y ys=>grind
  have hrm:=ok.room _ _ (dZ [] hrl)
  have hm2:=hS.m2
  rw[hd0,RF,RF,ixN_D b0 (by omega),RF,dZ [] hrl,RF]
  have htl':s.Rings.getD ((ab n i).In.getD k 0).toNat []=it::tl:=htl
  rw[htl']at hrm⊢
  rw[IE it tl (by omega),RF,RF,dZ [] hrl,RF]
  simp only
  rw[tail _ _ (by unfold fP;rw[if_neg h1,htl];rfl),if_neg h1,if_neg h1,htl]
  rfl
theorem DV (hR:RightN n)(hrg:(s.Rings.length:Int)=n.Rings)(hi:i<n.Nodes.length)(hk:k<bD (ab n i)){it:Item}(hh:dy n items s i k=some it)(j:Nat):
  (doM n items s i k).Rings.getD j []=(if(ab n i).Kind≠1/\j=bA (ab n i) k then(s.Rings.getD j []).tail else s.Rings.getD j [])++if(j:Int)∈bK (ab n i) it.Key then[(dS n s i it).2]else[]:=by
 unfold doM
 simp only[hh]
 show(dH (dS n s i it).2 (bK (ab n i) it.Key) (fP n s i k)).getD j []=_
 rw[yo _ _ _ (yv hR hi _) (λr hr=>by have:=hR.outR i hi r (kO hR hi _ r hr);grind[xx]),BL hR hrg hi hk]
 grind
theorem PV:(doM n items s i k).Rings.length=s.Rings.length/\(doM n items s i k).At.length=s.At.length/\(doM n items s i k).Memory.length=s.Memory.length:=by grind[doM,ya]
theorem get_D {α:Type}{l:U α}{a:α}(z:α)(h:l[k]?=some a):l.getD k z=a:=by grind
theorem EY {a b c:Int}(h1:a<=c)(h2:b<=c):maxD a b<=c:=by grind[maxD]
theorem Og (a b:Int):a<=maxD a b/\b<=maxD a b:=by grind[maxD]
theorem do_ch {it:Item}(hh:dy n items s i k=some it):(doM n items s i k).Choices=if(ab n i).Kind=6 then s.Choices++[⟨i,k⟩]else s.Choices:=by grind[doM]
theorem y7 {it:Item}(hh:dy n items s i k=some it):(doM n items s i k).Out=if(ab n i).Kind=8 then s.Out++[(dS n s i it).2]else s.Out:=by grind[doM]
theorem FU {it:Item}(hh:dy n items s i k=some it):(doM n items s i k).Memory=s.Memory.set i (dS n s i it).1:=by grind[doM]
theorem do_at {it:Item}(hh:dy n items s i k=some it):(doM n items s i k).At=if(ab n i).Kind=1 then s.At.set (ab n i).A.toNat (s.At.getD (ab n i).A.toNat 0+1)else s.At:=by grind[doM]
theorem Fi (hS:RightS n items)(ok:OkS n items B s){it:Item}(hh:dy n items s i k=some it):0<=(chD (ab n i) s it).Dep/\(chD (ab n i) s it).Dep<=(doM n items s i k).Choices.length:=by have:=yl hS ok hh;grind[do_ch,chD]
theorem Mg (hS:RightS n items)(ok:OkS n items B s)(hi:i<n.Nodes.length){it:Item}(hh:dy n items s i k=some it):
  0<=(dS n s i it).2.Dep/\(dS n s i it).2.Dep<=(doM n items s i k).Choices.length/\(dS n s i it).1.Dep<=(doM n items s i k).Choices.length:=by
 have h1:=Fi hS ok hh
 have hm:=dZ (⟨0,[],0⟩:Memory) (show i<s.Memory.length by rw[ok.mm];exact hi)
 have h2:=(ok.mem i _ hm).2.1
 have h3:(s.Choices.length:Int)<=(doM n items s i k).Choices.length:=by rw[do_ch hh];grind
 have h4:=(ok.mem i _ hm).1.dep
 have h5:=KP (ab n i).Kind (ab n i).A (memN s i) (chD (ab n i) s it)
 have e1:(dS n s i it)=cJ (ab n i).Kind (ab n i).A (memN s i) (chD (ab n i) s it):=rfl
 have e2:memN s i=s.Memory.getD i ⟨0,[],0⟩:=rfl
 rw[e1,h5.1,h5.2]
 have h6:=Og (memN s i).Dep (chD (ab n i) s it).Dep
 refine⟨?_,?_,?_⟩
 .omega
 .split
  .exact EY (by grind) h1.2
  .exact h1.2
 .split
  .exact EY (by grind) h1.2
  grind
theorem do_ok (hS:RightS n items)(ok:OkS n items B s)(hi:i<n.Nodes.length)(hk:k<bD (ab n i))(hc:eG n items s i k=true)(hB0:0<=B)(hB:B<4611686018427387904):OkS n items (B+1) (doM n items s i k):=by
 obtain⟨it,hh,hroom,h500,h2000⟩:=nK hc;obtain⟨l1,l2,l3⟩:=PV (n:=n) (items:=items) (s:=s) (i:=i) (k:=k);have hR:=hS.toRightN;have hmi:i<s.Memory.length:=by rw[ok.mm];exact hi
 have hm:=dZ (⟨0,[],0⟩:Memory) hmi;have hcd:=Fi hS ok hh;obtain⟨d0,d1,d2⟩:=Mg hS ok hi hh;have hcl:(s.Choices.length:Int)<=(doM n items s i k).Choices.length:=by rw[do_ch hh];grind
 have hrings:∀(r:Nat) (l:U Item),(doM n items s i k).Rings[r]?=some l->r<s.Rings.length/\l=(if(ab n i).Kind≠1/\r=bA (ab n i) k then(s.Rings.getD r []).tail else s.Rings.getD r [])++if(r:Int)∈bK (ab n i) it.Key then[(dS n s i it).2]else[]:=λr l hl=>by have hr:=(RH.1 hl).1;rw[l1]at hr;exact⟨hr,by rw[<- get_D [] hl,DV hR ok.rg hi hk hh]⟩
 refine⟨by rw[l2];exact ok.at_,by rw[l1];exact ok.rg,by rw[l3];exact ok.mm,?_,?_,λa p hp=>?_,λr l hl=>?_,λr l x hl hx=>?_,λj m hj=>?_,λc hcm=>?_,λx hx=>?_⟩
 .rw[do_ch hh];have:=ok.ch;grind
 .rw[y7 hh];have:=ok.out;grind
 .rw[do_at hh]at hp;split at hp
  .rename_i h1;obtain⟨a0,a1,a2,a3,a4,a5⟩:=at_ok hS ok hi h1;rw[R5]at hp;split at hp
   .rename_i e;split at hp
    .cases hp;unfold dy at hh;grind
    .cases hp
   .exact ok.atP a p hp
  .exact ok.atP a p hp
 .obtain⟨hr,rfl⟩:=hrings r l hl;have h1:=ok.room r _ (dZ [] hr);have h4:(if(ab n i).Kind≠1/\r=bA (ab n i) k then(s.Rings.getD r []).tail else s.Rings.getD r []).length<=(s.Rings.getD r []).length:=by
   grind
  rw[RN];by_cases hin:(r:Int)∈bK (ab n i) it.Key
  .have h2:=of_decide_eq_true (Sc.1 hroom _ hin);grind
  grind
 .obtain⟨hr,rfl⟩:=hrings r l hl;rcases RY.1 hx with hx|hx
  .have hx':x∈s.Rings.getD r []:=by
    grind[List.mem_of_mem_tail]
   have:=ok.depR r _ x (dZ [] hr) hx';omega
  grind
 .rw[FU hh,R5]at hj;split at hj
  .rename_i e;subst e;first
   |(rw[if_pos hmi]at hj)
   |skip
   .cases hj;obtain⟨q1,q2⟩:=Nd (k:=(ab n i).Kind) (f:=(ab n i).A) (x:=chD (ab n i) s it) (ok.mem i _ hm).1 hcd.1 (hS.kind i hi) B hB0 (ok.mem i _ hm).2.2 hB;exact⟨q1,d2,q2⟩
  .obtain⟨q1,q2,q3⟩:=ok.mem j m hj;grind
 .rw[do_ch hh]at hcm;split at hcm
  .rename_i h6;rcases RY.1 hcm with h|h
   .exact ok.cho c h
   .simp at h;subst h;have:k<(ab n i).In.length:=by simp_all[bD]
    exact⟨by simp,by simp;omega,by grind,by simp,by grind⟩
  .exact ok.cho c hcm
 .rw[y7 hh]at hx;split at hx
  .rcases RY.1 hx with h|h
   .have:=ok.depO x h;omega
   grind
  .have:=ok.depO x hx;omega
end
end
section
structure Mach (I M T:Type) where
 key:I->Int
 step:Nat->M->I->M×I
 stamp:T->I->I
 tick:T->Nat->Nat->T
 src:Nat->List I
structure MSt (I M T:Type) where
 pos:Nat->Nat
 rg:Nat->List I
 mm:Nat->M
 out:List I
 tr:T
def upd{α:Type}(f:Nat->α)(i:Nat)(a:α):Nat->α:=λj=>if j=i then a else f j
section
variable {α:Type}{i j:Nat}
theorem MA (f:Nat->α)(i:Nat)(a:α):upd f i a i=a:=by simp[upd]
theorem wl (f:Nat->α)(a:α)(h:j≠i):upd f i a j=f j:=by unfold upd;rw[if_neg h]
theorem DR (f:Nat->α)(a b:α)(h:i≠j):upd (upd f i a) j b=upd (upd f j b) i a:=by funext q;unfold upd;grind
end
section
variable {I M T:Type} (E:Mach I M T) (n:Net) (room:Option Nat)
def hdM(c:MSt I M T)(m:Nat×Nat):Option I:=if(ab n m.1).Kind=1 then(E.src (ab n m.1).A.toNat)[c.pos (ab n m.1).A.toNat]? else(c.rg (bA (ab n m.1) m.2)).head?
def inM(c:MSt I M T)(m:Nat×Nat)(x:I):I:=if(ab n m.1).Kind=6 then E.stamp c.tr x else x
def mkM(c:MSt I M T)(m:Nat×Nat)(x:I):M×I:=E.step m.1 (c.mm m.1) (inM E n c m x)
def toM(m:Nat×Nat)(x:I):List Int:=bK (ab n m.1) (E.key x)
def goM(c:MSt I M T)(m:Nat×Nat)(x:I):MSt I M T where
 pos:=if(ab n m.1).Kind=1 then upd c.pos (ab n m.1).A.toNat (c.pos (ab n m.1).A.toNat+1)else c.pos
 rg:=λr=>(if(ab n m.1).Kind≠1/\r=bA (ab n m.1) m.2 then(c.rg r).tail else c.rg r)++if(r:Int)∈toM E n m x then[(mkM E n c m x).2]else[]
 mm:=upd c.mm m.1 (mkM E n c m x).1
 out:=if(ab n m.1).Kind=8 then c.out++[(mkM E n c m x).2]else c.out
 tr:=if(ab n m.1).Kind=6 then E.tick c.tr m.1 m.2 else c.tr
def okMv(m:Nat×Nat):Prop:=m.1<n.Nodes.length/\m.2<bD (ab n m.1)
def fitM(c:MSt I M T)(l:List Int):Prop:=∀R,room=some R->∀r,r∈l->(c.rg r.toNat).length<R
def Ex(c:MSt I M T)(m:Nat×Nat)(c':MSt I M T):Prop:=okMv n m/\∃x,hdM E n c m=some x/\fitM room c (toM E n m x)/\c'=goM E n c m x
inductive Run:MSt I M T->List (Nat×Nat)->MSt I M T->Prop
 |nil (c):Run c [] c
 |cons {c c1 d m w} (h:Ex E n room c m c1) (t:Run c1 w d):Run c (m::w) d
variable {E n room}
variable {c c1 c2 d:MSt I M T}{m a b:Nat×Nat}{w:U (Nat×Nat)}{x y:I}
theorem Ex.det (h:Ex E n room c m c1)(h':Ex E n room c m c2):c1=c2:=by obtain⟨_,x,h1,_,rfl⟩:=h;obtain⟨_,y,h2,_,rfl⟩:=h';grind
theorem Run.nil_inv (h:Run E n room c [] d):d=c:=by cases h;rfl
theorem Run.app {u:U (Nat×Nat)}(h:Run E n room c u c1)(h':Run E n room c1 w d):Run E n room c (u++w) d:=by
 induction h with
 |nil c=>exact h'
 |cons h t ih=>exact .cons h (ih h')
theorem Run.split:∀{u w:U (Nat×Nat)},Run E n room c (u++w) d->∃c1,Run E n room c u c1/\Run E n room c1 w d:=by
 intro u;induction u generalizing c with
 |nil=>intro w h;exact⟨c,.nil c,h⟩
 | cons m u ih=>
  intro w h;cases h with
  |cons h t=>
   obtain⟨c1,h1,h2⟩:=ih t;exact⟨c1,.cons h h1,h2⟩
theorem Ex.free (h:Ex E n room c m c1):Ex E n none c m c1:=by obtain⟨h0,x,h1,_,h3⟩:=h;exact⟨h0,x,h1,λR hR=>(by cases hR),h3⟩
theorem Run.free (h:Run E n room c w d):Run E n none c w d:=by
 induction h with
 |nil c=>exact .nil c
 |cons h t ih=>exact .cons h.free ih
theorem tc (hR:RightN n)(h:okMv n m)(h1:(ab n m.1).Kind≠1):((bA (ab n m.1) m.2:Nat):Int)∈(ab n m.1).In:=by obtain⟨b0,b1,b2⟩:=vT hR h.1 (vY hR h.1 h.2 h1);grind[bA]
theorem Dh (hR:RightN n)(hsrc:∀i j,i<n.Nodes.length->j<n.Nodes.length->(ab n i).Kind=1->(ab n j).Kind=1->(ab n i).A.toNat=(ab n j).A.toNat->i=j)(ha:okMv n a)(hb:okMv n b)(hne:a.1≠b.1)(hy:hdM E n c b=some y):hdM E n (goM E n c a x) b=some y:=by
 unfold hdM at hy ⊢;by_cases h1:(ab n b.1).Kind=1
 .rw[if_pos h1]at hy ⊢;rw[<- hy];congr 1;unfold goM;simp only;split
  .rename_i h2;exact wl _ _ (λe=>hne (hsrc a.1 b.1 ha.1 hb.1 h2 h1 e.symm))
  .rfl
 .rw[if_neg h1]at hy ⊢;have hrb:=tc hR hb h1;unfold goM;simp only;have hno:¬((ab n a.1).Kind≠1/\bA (ab n b.1) b.2=bA (ab n a.1) a.2):=λ⟨e1,e2⟩=>by
   have hra:=tc hR ha e1;rw[<- e2]at hra;exact hne (hR.oneI a.1 b.1 _ ha.1 hb.1 hra hrb)
  grind
theorem Dq (hR:RightN n)(hne:a.1≠b.1)(h6:(ab n a.1).Kind≠6∨(ab n b.1).Kind≠6∨∀t i k,E.tick t i k=t):mkM E n (goM E n c a x) b y=mkM E n c b y:=by
 have e1:(goM E n c a x).mm b.1=c.mm b.1:=wl _ _ (λe=>hne e.symm);have e2:inM E n (goM E n c a x) b y=inM E n c b y:=by
  unfold inM;by_cases hb:(ab n b.1).Kind=6
  .rw[if_pos hb,if_pos hb];grind[goM]
  grind
 grind[mkM]
theorem wo (hR:RightN n)(h:okMv n m)(x:I):∀r,r∈toM E n m x->r∈(ab n m.1).Out:=kO hR h.1 _
theorem Cj (hR:RightN n)(ha:okMv n a)(hb:okMv n b)(hne:a.1≠b.1)(hf:fitM room c (toM E n b y)):fitM room (goM E n c a x) (toM E n b y):=by
 intro R hRm r hr;have h1:=hf R hRm r hr;have hrb:=wo hR hb y r hr;have h0:=(hR.outR b.1 hb.1 r hrb).1;unfold goM;simp only;have hno:¬((r.toNat:Nat):Int)∈toM E n a x:=λe=>by rw[Sh h0]at e;exact hne (hR.oneO a.1 b.1 r ha.1 hb.1 (wo hR ha x r e) hrb)
 grind
theorem O5 (hR:RightN n)(hsrc:∀i j,i<n.Nodes.length->j<n.Nodes.length->(ab n i).Kind=1->(ab n j).Kind=1->(ab n i).A.toNat=(ab n j).A.toNat->i=j)(ha:okMv n a)(hb:okMv n b)(hne:a.1≠b.1)(h6:(ab n a.1).Kind≠6∨(ab n b.1).Kind≠6∨∀t i k,E.tick t i k=t)(hx:hdM E n c a=some x)(hy:hdM E n c b=some y):goM E n (goM E n c a x) b y=goM E n (goM E n c b y) a x:=by
 have h6':(ab n b.1).Kind≠6∨(ab n a.1).Kind≠6∨∀t i k,E.tick t i k=t:=by grind
 have m1:=Dq (E:=E) hR (c:=c) (x:=x) (y:=y) hne h6
 have m2:=Dq (E:=E) hR (c:=c) (x:=y) (y:=x) (λe=>hne e.symm) h6'
 have e:∀(p q:MSt I M T),p.pos=q.pos->p.rg=q.rg->p.mm=q.mm->p.out=q.out->p.tr=q.tr->p=q:=λp q h1 h2 h3 h4 h5=>by cases p;simp_all
 refine e _ _ ?_ ?_ ?_ ?_ ?_
 .show(if(ab n b.1).Kind=1 then upd (goM E n c a x).pos _ ((goM E n c a x).pos _+1)else(goM E n c a x).pos)=(if(ab n a.1).Kind=1 then upd (goM E n c b y).pos _ ((goM E n c b y).pos _+1)else(goM E n c b y).pos)
  have p1:(goM E n c a x).pos=if(ab n a.1).Kind=1 then upd c.pos (ab n a.1).A.toNat (c.pos (ab n a.1).A.toNat+1)else c.pos:=rfl
  have p2:(goM E n c b y).pos=if(ab n b.1).Kind=1 then upd c.pos (ab n b.1).A.toNat (c.pos (ab n b.1).A.toNat+1)else c.pos:=rfl
  rw[p1,p2]
  by_cases h1:(ab n a.1).Kind=1<;>by_cases h2:(ab n b.1).Kind=1
  .have hA:(ab n a.1).A.toNat≠(ab n b.1).A.toNat:=λe=>hne (hsrc _ _ ha.1 hb.1 h1 h2 e)
   simp only[h1,h2,if_true]
   grind[wl,DR]
  all_goals grind
 .funext r
  show(if(ab n b.1).Kind≠1/\r=bA (ab n b.1) b.2 then((goM E n c a x).rg r).tail else(goM E n c a x).rg r)++(if(r:Int)∈toM E n b y then[(mkM E n (goM E n c a x) b y).2]else[])=
   (if(ab n a.1).Kind≠1/\r=bA (ab n a.1) a.2 then((goM E n c b y).rg r).tail else(goM E n c b y).rg r)++(if(r:Int)∈toM E n a x then[(mkM E n (goM E n c b y) a x).2]else[])
  rw[m1,m2]
  have p1:(goM E n c a x).rg r=(if(ab n a.1).Kind≠1/\r=bA (ab n a.1) a.2 then(c.rg r).tail else c.rg r)++if(r:Int)∈toM E n a x then[(mkM E n c a x).2]else[]:=rfl
  have p2:(goM E n c b y).rg r=(if(ab n b.1).Kind≠1/\r=bA (ab n b.1) b.2 then(c.rg r).tail else c.rg r)++if(r:Int)∈toM E n b y then[(mkM E n c b y).2]else[]:=rfl
  rw[p1,p2]
  have ht:¬(((r:Int)∈toM E n a x)/\((r:Int)∈toM E n b y)):=λ⟨h1,h2⟩=>hne (hR.oneO _ _ _ ha.1 hb.1 (wo hR ha x _ h1) (wo hR hb y _ h2))
  have hi:¬(((ab n a.1).Kind≠1/\r=bA (ab n a.1) a.2)/\((ab n b.1).Kind≠1/\r=bA (ab n b.1) b.2)):=λ⟨⟨h1,h2⟩,h3,h4⟩=>by have q1:=tc hR ha h1;have q2:=tc hR hb h3;rw[<- h2]at q1;rw[<- h4]at q2;exact hne (hR.oneI _ _ _ ha.1 hb.1 q1 q2)
  have hna:((ab n a.1).Kind≠1/\r=bA (ab n a.1) a.2)->c.rg r≠[]:=λ⟨h1,h2⟩ e=>by unfold hdM at hx;grind
  have hnb:((ab n b.1).Kind≠1/\r=bA (ab n b.1) b.2)->c.rg r≠[]:=λ⟨h1,h2⟩ e=>by unfold hdM at hy;grind
  grind
 .show upd (upd c.mm a.1 _) b.1 _=upd (upd c.mm b.1 _) a.1 _
  grind[DR]
 .show(if(ab n b.1).Kind=8 then(if(ab n a.1).Kind=8 then c.out++[_]else c.out)++[_]else if(ab n a.1).Kind=8 then c.out++[_]else c.out)=(if(ab n a.1).Kind=8 then(if(ab n b.1).Kind=8 then c.out++[_]else c.out)++[_]else if(ab n b.1).Kind=8 then c.out++[_]else c.out)
  rw[m1,m2]
  by_cases h1:(ab n a.1).Kind=8<;>by_cases h2:(ab n b.1).Kind=8
  .exact absurd (hR.sink1 _ _ ha.1 hb.1 h1 h2) hne
  all_goals grind
 .show(if(ab n b.1).Kind=6 then E.tick (if(ab n a.1).Kind=6 then E.tick c.tr a.1 a.2 else c.tr) b.1 b.2 else if(ab n a.1).Kind=6 then E.tick c.tr a.1 a.2 else c.tr)=(if(ab n a.1).Kind=6 then E.tick (if(ab n b.1).Kind=6 then E.tick c.tr b.1 b.2 else c.tr) a.1 a.2 else if(ab n b.1).Kind=6 then E.tick c.tr b.1 b.2 else c.tr)
  grind
abbrev SrcN(n:Net):Prop:=∀i j,i<n.Nodes.length->j<n.Nodes.length->(ab n i).Kind=1->(ab n j).Kind=1->(ab n i).A.toNat=(ab n j).A.toNat->i=j
theorem diamond (hR:RightN n)(hsrc:SrcN n)(h1:Ex E n room c a c1)(h2:Ex E n room c b c2)(hne:a.1≠b.1)(h6:(ab n a.1).Kind≠6∨(ab n b.1).Kind≠6∨∀t i k,E.tick t i k=t):∃d,Ex E n room c1 b d/\Ex E n room c2 a d:=by obtain⟨ha,x,hx,fx,rfl⟩:=h1;obtain⟨hb,y,hy,fy,rfl⟩:=h2;refine⟨_,⟨hb,y,Dh hR hsrc ha hb hne hy,Cj hR ha hb hne fy,J⟩,⟨ha,x,Dh hR hsrc hb ha (λe=>hne e.symm) hx,Cj hR hb ha (λe=>hne e.symm) fx,?_⟩⟩;grind[O5]
def bI(i:Nat)(w:List (Nat×Nat)):List (Nat×Nat):=w.filter λm=>decide (m.1=i)
theorem fj (i:Nat)(m:Nat×Nat)(w:U (Nat×Nat)):bI i (m::w)=if m.1=i then m::bI i w else bI i w:=by unfold bI;grind
theorem hY (i:Nat)(u w:U (Nat×Nat)):bI i (u++w)=bI i u++bI i w:=List.filter_append ..
section
variable (hR:RightN n) (hsrc:SrcN n) (htk:∀t i k,E.tick t i k=t)
include hR hsrc htk
theorem Db:∀{p:U (Nat×Nat)} {c c1 d:MSt I M T},Run E n room c p d->Ex E n room c a c1->bI a.1 p=[]->∃e,Run E n room c1 p e/\Ex E n room d a e:=by
 intro p;induction p with
 |nil=>intro c c1 d h h1 _;cases h;exact⟨c1,.nil c1,h1⟩
 | cons b p ih=>
  intro c c1 d h h1 hp;rw[fj]at hp;split at hp
  .cases hp
  .rename_i hne;cases h with
   |cons hb ht=>
    obtain⟨f,f1,f2⟩:=diamond hR hsrc h1 hb (λe=>hne e.symm) (.inr (.inr htk));obtain⟨e,e1,e2⟩:=ih ht f2 hp;exact⟨e,.cons f1 e1,e2⟩
theorem MK {p q:U (Nat×Nat)}(h:Run E n room c (p++a::q) d)(h1:Ex E n room c a c1)(hp:bI a.1 p=[]):Run E n room c1 (p++q) d:=by
 obtain⟨f,f1,f2⟩:=h.split;obtain⟨e,e1,e2⟩:=Db hR hsrc htk f1 h1 hp;cases f2 with
 |cons g1 g2=>rw[e2.det g1]at e1;exact e1.app g2
omit hR hsrc htk in
theorem BD {i:Nat}{l:U (Nat×Nat)}:∀{v:U (Nat×Nat)},bI i v=a::l->∃p q,v=p++a::q/\bI i p=[]/\bI i q=l:=by
 intro v;induction v with
 |nil=>intro h;cases h
 |cons b v ih=>
  intro h;rw[fj]at h;split at h
  .cases h;exact⟨[],v,J,J,J⟩
  .rename_i hne;obtain⟨p,q,h1,h2,h3⟩:=ih h;exact⟨b::p,q,by rw[h1];rfl,by simp_all[fj],h3⟩
def Comp{α:Type}(x y:List α):Prop:=x <+: y∨y <+: x
theorem L3:∀{u v:U (Nat×Nat)} {c c1 c2:MSt I M T},Run E n room c u c1->Run E n room c v c2->(∀i,Comp (bI i u) (bI i v)) ->
  ∃u' v' d,Run E n room c1 u' d/\Run E n room c2 v' d/\∀i,bI i (u++u')=bI i (v++v')/\(bI i u'=[]∨bI i v'=[]):=by
 intro u
 induction u with
 |nil=>
  intro v c c1 c2 hu hv _
  cases hu
  exact⟨v,[],c2,hv,.nil c2,λi=>⟨by simp,.inr J⟩⟩
 | cons a u ih=>
  intro v c c1 c2 hu hv hc
  cases hu with
  | @cons _ f _ _ _ ha ht=>
   cases hpv:bI a.1 v with
   | nil=>
    obtain⟨e,e1,e2⟩:=Db hR hsrc htk hv ha hpv
    obtain⟨u',v',d,d1,d2,d3⟩:=ih ht e1 (λi=>by
     have:=hc i;rw[fj]at this;split at this
     .rename_i hi;subst hi;rw[hpv];exact .inr (List.nil_prefix)
     .exact this)
    refine⟨u',a::v',d,d1,.cons e2 d2,λi=>?_⟩
    have h3:=(d3 i).1
    have h4:=(d3 i).2
    rw[hY]at h3
    by_cases hi:a.1=i
    .subst hi
     rw[hY,hY,fj,fj,if_pos J,if_pos J,hpv]
     rw[hY,hpv]at h3
     refine⟨by grind,?_⟩
     rcases h4 with h4|h4
     all_goals simp_all
    simp_all[hY,fj]
   | cons b l=>
    have hab:b=a:=by
     have:=hc a.1;rw[fj,if_pos J,hpv]at this;rcases this with⟨t,ht⟩|⟨t,ht⟩
     all_goals grind
    subst hab
    obtain⟨p,q,rfl,hp,hq⟩:=BD hpv
    have hv2:=MK hR hsrc htk hv ha hp
    have hpi:∀i,b.1≠i->bI i (p++q)=bI i (p++b::q):=λi hi=>by simp_all[hY,fj]
    obtain⟨u',v',d,d1,d2,d3⟩:=ih ht hv2 (λi=>by
     have:=hc i;rw[fj]at this;by_cases hi:b.1=i
     .subst hi;rw[if_pos J,hpv]at this;rw[hY,hp,SG,hq];rcases this with h|h
      .exact .inl ((List.prefix_cons_inj b).1 h)
      .exact .inr ((List.prefix_cons_inj b).1 h)
     grind)
    refine⟨u',v',d,d1,d2,λi=>⟨?_,(d3 i).2⟩⟩
    have h3:=(d3 i).1
    rw[hY,hY]at h3
    by_cases hi:b.1=i
    .simp_all[hY,fj]
    simp_all[hY,fj]
end
theorem Run.out_pre (h:Run E n room c w d):c.out <+: d.out:=by
 induction h with
 |nil c=>simp
 |cons h t ih=>
  obtain⟨_,x,_,_,rfl⟩:=h;grind[goM,List.prefix_append]
end
end
noncomputable section
section
variable {n:Net} {items:List (List Item)} {B:Int} {s:State}
variable {i k:Nat}{m:Move}
theorem pV (hR:RightN n)(hi:i<n.Nodes.length):bD (ab n i)<=16:=by
 unfold bD;split
 .have:=xC (hR.ndI i hi) (hR.inR i hi) hR.r1;have:=hR.r2;omega
 .omega
theorem D9 (hS:RightS n items)(ok:OkS n items B s)(hi:i<n.Nodes.length):∀(m k:Nat) (acc:U Move),k+m=bD (ab n i)->acc.length+m<=1000000 ->
  iter (λss:Int×(U Move)=>iQ n items (i:Int) s (bD (ab n i):Int) ss.1 ss.2) ((k:Int),acc)=some (.inl (((i+1:Nat):Int),acc++(((List.range (bD (ab n i))).drop k).filter λk=>eG n items s i k).map λk:Nat=>(⟨i,k⟩:Move)))
 |0,k,acc,h,ha=>by
  have hk:k=bD (ab n i):=by omega
  have e:iQ n items (i:Int) s (bD (ab n i):Int) (k:Int) acc=some (.inr (.inl (((i+1:Nat):Int),acc))):=by unfold iQ;have:=hS.n2;rw[if_neg (by simp;omega),bf (by omega)];rfl
  grind[aE,List.drop_of_length_le]
 | m+1,k,acc,h,ha=>by
  have hk:k<bD (ab n i):=by omega
  have h16:=pV hS.toRightN hi;have hd:(List.range (bD (ab n i))).drop k=k::(List.range (bD (ab n i))).drop (k+1):=by grind[List.drop_eq_getElem_cons]
  have e:iQ n items (i:Int) s (bD (ab n i):Int) (k:Int) acc=some (.inl (((k+1:Nat):Int),if eG n items s i k=true then acc++[⟨i,k⟩]else acc)):=by
   unfold iQ;rw[if_pos (by simp;omega),GB hS ok hi hk,RF,bf (by omega)];cases eG n items s i k with
   |true=>rw[if_pos J,if_pos J,cC (by simp;omega)];rfl
   |false=>rfl
  rw[aE];simp only[e];rw[D9 hS ok hi m (k+1) _ (by omega) (by grind),hd,List.filter_cons];grind
theorem BG (hR:RightN n)(hi:i<n.Nodes.length):(n5 n items s i).length<=16:=by grind[n5,pV]
theorem Ca (hS:RightS n items)(ok:OkS n items B s):∀(m i:Nat) (acc:U Move),i+m=n.Nodes.length->acc.length+16*m<=1000 ->
  iter (λss:Int×(U Move)=>mY n items s ss.1 ss.2) ((i:Int),acc)=some (acc++((List.range n.Nodes.length).drop i).flatMap λi=>n5 n items s i)
 |0,i,acc,h,ha=>by
  simp_all[mY,aE,SZ]
 | m + 1,i,acc,h,ha=>by
  have hi:i<n.Nodes.length:=by omega
  have hd:(List.range n.Nodes.length).drop i=i::(List.range n.Nodes.length).drop (i+1):=by grind[List.drop_eq_getElem_cons]
  have hin:=D9 hS ok hi (bD (ab n i)) 0 acc (by omega) (by have:=pV hS.toRightN hi;omega);have e:mY n items s (i:Int) acc=some (.inl (((i+1:Nat):Int),acc++n5 n items s i)):=by
   unfold mY o9;rw[if_pos (by simp;omega),bv (jG hi),RF];have hl:(if((ab n i).Kind==6)=true then iter (λeF:Int×(U Move)=>iQ n items (i:Int) s ((ab n i).In.length:Int) eF.1 eF.2) (0,acc)else iter (λeF:Int×(U Move)=>iQ n items (i:Int) s 1 eF.1 eF.2) (0,acc))=
     iter (λss:Int×(U Move)=>iQ n items (i:Int) s (bD (ab n i):Int) ss.1 ss.2) (0,acc):=by
    unfold bD
    grind
   rw[hl];assumption
  rw[aE];simp only[e];have h16:=BG (items:=items) (s:=s) hS.toRightN hi;rw[Ca hS ok m (i+1) _ (by omega) (by grind),hd,Sl,RT]
theorem LO (hS:RightS n items)(ok:OkS n items B s):sa n items s=some (aB n items s):=by unfold sa;have:=Ca hS ok n.Nodes.length 0 [] (by omega) (by have:=hS.n2;simp;omega);assumption
theorem hU (h:m∈aB n items s):∃i k:Nat,m=⟨i,k⟩/\i<n.Nodes.length/\k<bD (ab n i)/\eG n items s i k=true:=by grind[aB,n5]
theorem r7 (hi:i<n.Nodes.length)(hk:k<bD (ab n i))(hc:eG n items s i k=true):(⟨i,k⟩:Move)∈aB n items s:=
 List.mem_flatMap.2 ⟨i,by grind,R3.2 ⟨k,SL.2 ⟨by grind,hc⟩,J⟩⟩
theorem nC (hR:RightN n):(aB n items s).length<=192:=by
 have h:∀(l:U Nat),(∀i,i∈l->i<n.Nodes.length)->(l.flatMap λi=>n5 n items s i).length<=16*l.length:=by
  intro l;induction l with
  |nil=>intro _;simp
  |cons a l ih=>
   grind[BG]
 have:=h (List.range n.Nodes.length) (λi hi=>by grind);have h2:=hR.n2;grind[aB]
def doMv(n:Net)(items:List (List Item))(s:State)(m:Move):State:=doM n items s m.Node.toNat m.Lane.toNat
def wsum(w:Nat->Nat):Nat->List (List Item)->Nat
 |_,[]=>0
 |k,l::R=>l.length*w k+wsum w (k+1) R
def jV:List (List Item)->List Int->Nat
 |l::ls,p::ps=>(l.length- p.toNat)+jV ls ps
 |_,_=>0
theorem xZ (w:Nat->Nat)(x:U Item):∀(R:U (U Item)) (k j:Nat),j<R.length->wsum w k (R.set j x)+(R.getD j []).length*w (k+j)=wsum w k R+x.length*w (k+j)
 |[],k,j,h=>by simp at h
 |l::R,k,0,h=>by simp[wsum];omega
 |l::R,k,j+1,h=>by have:=xZ w x R (k+1) j (by simpa using h);grind[wsum]
theorem Ce:∀(ls:U (U Item)) (ps:U Int) (a:Nat),a<ps.length->0<=ps.getD a 0->(ps.getD a 0).toNat<(ls.getD a []).length->jV ls (ps.set a (ps.getD a 0+1))+1=jV ls ps
 |ls,[],a,h,_,_=>by simp at h
 |[],p::ps,a,h,_,h2=>by simp at h2
 |l::ls,p::ps,0,h,h0,h2=>by
  grind[jV]
 |l::ls,p::ps,a+1,h,h0,h2=>by simp only[List.getD_cons_succ]at h0 h2 ⊢;have:=Ce ls ps a (by simpa using h) h0 h2;grind[jV]
theorem Ei (w:Nat->Nat)(y:Item):∀(l:U Int) (R:U (U Item)),(∀r,r∈l->0<=r/\r<R.length)->wsum w 0 (dH y l R)=wsum w 0 R+(l.map λr=>w r.toNat).sum
 |[],R,_=>by simp[dH]
 |r::l,R,h=>by have hr:=h r RM;show wsum w 0 (dH y l (R.set r.toNat (R.getD r.toNat []++[y])))=_;rw[Ei w y l _ (λq hq=>by grind)];have:=xZ w (R.getD r.toNat []++[y]) R 0 r.toNat (by omega);grind
def dE(n:Net)(r:Nat):Nat:=((List.range n.Nodes.length).find? λi=>decide ((r:Int)∈(ab n i).In)).getD 0
theorem vo (hR:RightN n)(hi:i<n.Nodes.length){r:Int}(hr:r∈(ab n i).In):dE n r.toNat=i:=by
 have h0:=hR.inR i hi r hr;unfold dE;cases h:(List.range n.Nodes.length).find? λi=>decide ((r.toNat:Int)∈(ab n i).In)with
 |none=>
  grind
 |some j=>
  have h1:=List.find?_some h;have h2:=SM h;rw[Sh h0.1]at h1;exact hR.oneI j i r (by grind) hi (by grind) hr
open Classical in
noncomputable def d9 (n:Net):Nat->Nat:=if h:RightN n then Classical.choose h.ord else λ_=>0
theorem vk (hR:RightN n):(∀i,i<n.Nodes.length->d9 n i<n.Nodes.length)/\(∀i j,i<n.Nodes.length->j<n.Nodes.length->d9 n i=d9 n j->i=j)/\∀i j r,i<n.Nodes.length->j<n.Nodes.length->r∈(ab n i).Out->r∈(ab n j).In->d9 n i<d9 n j:=by
 have:d9 n=Classical.choose hR.ord:=by simp_all[d9]
 rw[this];exact Classical.choose_spec hR.ord
def wN(n:Net)(r:Nat):Nat:=17 ^ (12- d9 n (dE n r))
def muN(n:Net)(items:List (List Item))(s:State):Nat:=wsum (wN n) 0 s.Rings+jV items s.At*17 ^ 12
theorem Ps (hR:RightN n)(hi:i<n.Nodes.length)(key:Int):((bK (ab n i) key).map λr=>wN n r.toNat).sum<17 ^ (12- d9 n i):=by
 obtain⟨p1,_,p2⟩:=vk hR;have hpi:=p1 i hi;have hn:=hR.n2;have hb:∀r,r∈bK (ab n i) key->wN n r.toNat<=17 ^ (11- d9 n i):=λr hr=>by have hro:=kO hR hi key r hr;have h0:=hR.outR i hi r hro;obtain⟨j,hj,hrj⟩:=hR.toI r.toNat (by omega);rw[Sh h0.1]at hrj;have h1:=p2 i j r hi hj hro hrj;have h2:=p1 j hj;unfold wN;rw[vo hR hj hrj];exact Nat.pow_le_pow_right (by omega) (by omega)
 have hsum:∀(l:U Int),(∀r,r∈l->wN n r.toNat<=17 ^ (11- d9 n i))->(l.map λr=>wN n r.toNat).sum<=l.length*17 ^ (11- d9 n i):=by
  intro l;induction l with
  |nil=>intro _;simp
  |cons a l ih=>
   intro h;have h1:=h a RM;have h2:=ih λr hr=>h r (RQ _ hr)
   rw[Se,S0,R8,SH,Tq];omega
 have h1:=hsum _ hb;have h2:(bK (ab n i) key).length<=16:=by grind[bK,v6]
 have h3:(bK (ab n i) key).length*17 ^ (11- d9 n i)<=16*17 ^ (11- d9 n i):=R4 _ h2;have e:12- d9 n i=(11- d9 n i)+1:=by omega
 grind
theorem mu_do (hS:RightS n items)(ok:OkS n items B s)(hi:i<n.Nodes.length)(hk:k<bD (ab n i))(hc:eG n items s i k=true):muN n items (doM n items s i k)+1<=muN n items s:=by
 obtain⟨it,hh,hroom,h500,h2000⟩:=nK hc;have hR:=hS.toRightN;have hrg:=ok.rg;have hw:=Ps hR hi it.Key;have hrl:∀r,r∈bK (ab n i) it.Key->0<=r/\r<(fP n s i k).length:=λr hr=>by have:=hR.outR i hi r (kO hR hi _ r hr);grind[xx]
 have hput:=Ei (wN n) (dS n s i it).2 _ _ hrl;have hrings:(doM n items s i k).Rings=dH (dS n s i it).2 (bK (ab n i) it.Key) (fP n s i k):=by unfold doM;simp only[hh];rfl
 unfold muN;rw[hrings,hput,do_at hh];by_cases h1:(ab n i).Kind=1
 .obtain⟨a0,a1,a2,a3,a4,a5⟩:=at_ok hS ok hi h1;unfold dy at hh;rw[if_pos h1]at hh;have h2:=(RH.1 hh).1;have h3:=Ce items s.At (ab n i).A.toNat (by omega) a3 h2;rw[if_pos h1];unfold fP;rw[if_pos h1];have h4:17 ^ (12- d9 n i)<=17 ^ 12:=Nat.pow_le_pow_right (by omega) (by omega);omega
 .have hkl:=vY hR hi hk h1;obtain⟨hm,b0,b1⟩:=vT hR hi hkl;rw[if_neg h1];unfold fP;rw[if_neg h1];unfold dy at hh;rw[if_neg h1]at hh;have h2:=xZ (wN n) (s.Rings.getD (bA (ab n i) k) []).tail s.Rings 0 (bA (ab n i) k) (by grind);have h3:wN n (bA (ab n i) k)=17 ^ (12- d9 n i):=by
   grind[wN,bA,vo]
  cases hq:s.Rings.getD (bA (ab n i) k) []with
  |nil=>simp_all
  |cons y ys=>
   rw[hq]at h2;rw[SP,h3,List.tail_cons,R8,SH,Tq]at h2;simp_all<;>omega
def Inv(n:Net)(items:List (List Item))(s:State):Prop:=∃B:Nat,OkS n items B s/\B+muN n items s<=1000000000000000000
theorem Inv.doM (hS:RightS n items)(h:Inv n items s)(hi:i<n.Nodes.length)(hk:k<bD (ab n i))(hc:eG n items s i k=true):Inv n items (doM n items s i k)/\muN n items (Go.Proofs.YtfglbbhdfgjheaaGreatDoor.doM n items s i k)+1<=muN n items s:=by obtain⟨B,ok,hB⟩:=h;have:=mu_do hS ok hi hk hc;refine⟨⟨B+1,do_ok hS ok hi hk hc (by omega) (by omega),by omega⟩,this⟩
theorem Inv.doMv (hS:RightS n items)(h:Inv n items s)(hm:m∈aB n items s):Inv n items (doMv n items s m)/\muN n items (Go.Proofs.YtfglbbhdfgjheaaGreatDoor.doMv n items s m)+1<=muN n items s:=by obtain⟨i,k,rfl,hi,hk,hc⟩:=hU hm;exact Inv.doM hS h hi hk hc
def aS(n:Net)(items:List (List Item)):State:=⟨List.replicate items.length 0,List.replicate n.Rings.toNat [],List.replicate n.Nodes.length ⟨0,[],0⟩,[],[]⟩
theorem Gi (w:Nat->Nat):∀(m k:Nat),wsum w k (List.replicate m [])=0
 |0,k=>rfl
 |m+1,k=>by rw[S9];simp[wsum,Gi w m (k+1)]
theorem DC (L:Nat):∀(ls:U (U Item)) (ps:U Int),(∀l,l∈ls->l.length<=L)->jV ls ps<=L*ls.length
 |[],ps,_=>by simp[jV]
 |l::ls,[],_=>by simp[jV]
 |l::ls,p::ps,h=>by
  have h1:=h l RM;have h2:=DC L ls ps λx hx=>h x (RQ _ hx)
  grind[jV,Nat.mul_add]
theorem iA (hS:RightS n items):Inv n items (aS n items):=by
 have hr:∀(r:Nat) (l:U Item),(aS n items).Rings[r]?=some l->l=[]:=λr l h=>by have:=RI h;exact(Ta.1 this).2
 refine⟨0,⟨by simp[aS],by have:=hS.r1;simp[aS];omega,by simp[aS],by simp[aS],by simp[aS],λa p hp=>?_,λr l hl=>?_,λr l x hl hx=>?_,λi m hm=>?_,λc hc=>by simp[aS]at hc,λx hx=>by simp[aS]at hx⟩,?_⟩
 .have:=(Ta.1 (RI hp)).2;omega
 .rw[hr r l hl];have:=hS.m1;simp;omega
 .grind
 .have:=(Ta.1 (RI hm)).2;subst this;refine⟨⟨by simp,λx hx=>(by cases hx),λi j x y _ h=>(by simp at h),by simp⟩,by simp[aS],λy hy=>(by cases hy)⟩
 .have h1:=DC 20 items (aS n items).At (λl hl=>by
   obtain⟨a,ha⟩:=RX hl;exact hS.l20 a l ha)
  have h2:=hS.l4;grind[muN,aS,Gi]
theorem yn (hS:RightS n items)(hio:∀x∈n.Nodes,x.In.length<=1099511627776/\x.Out.length<=1099511627776):r8 n items=some (aS n items):=by
 unfold r8;have h1:=hS.r1;have h2:=hS.r2;have h3:=hS.n2;have h4:=hS.l4;have e1:mk ((items.length:Nat):Int) (0:Int)=some (List.replicate items.length 0):=by unfold mk;grind
 have e2:mk n.Rings ([]:U Item)=some (List.replicate n.Rings.toNat []):=by unfold mk;grind
 have e3:mk ((n.Nodes.length:Nat):Int) (⟨0,[],0⟩:Memory)=some (List.replicate n.Nodes.length ⟨0,[],0⟩):=by unfold mk;grind
 simp only[e1,e2,e3,RF];rfl
def dg(l:List Move)(c:Int):Move:=l.getD (c% l.length).toNat ⟨0,0⟩
theorem vB {l:U Move}(h:l≠[])(c:Int):dg l c∈l/\(c% l.length).toNat<l.length:=by
 have h1:0<l.length:=SX.2 h;have h2:=Tk c (show(l.length:Int)≠0 by omega);have h3:=Int.emod_lt_of_pos c (show(0:Int)<l.length by omega);have h4:(c% l.length).toNat<l.length:=by omega
 exact⟨RI (dZ _ h4),h4⟩
theorem Gu (c:Int)(m:Nat)(h0:0<m)(h:m<=1000):(rem c m).bind (λx=>(rem (IntKind.i64.wrap (x+m)) m))=some (c% m):=by have h1:=Int.tmod_lt_of_pos c (show(0:Int)<m by omega);have h2:=Int.lt_tmod_of_pos c (show(0:Int)<m by omega);unfold rem;rw[if_neg (by omega),RF,if_neg (by omega),bG (by omega) (by omega)];congr 1;rw[Int.tmod_eq_emod_of_nonneg (by omega),Int.add_emod_right,Int.tmod_eq_emod];split<;>simp[Int.sub_emod_right]
def noS:State:=⟨[],[],[],[],[]⟩
end
end
noncomputable section
def fb{α ρ:Type}(f:Nat->α->Option ρ):Nat->List α->Option ρ
 |_,[]=>none
 |k,x::xs=>match f k x with
  |some r=>some r
  |none=>fb f (k+1) xs
section
variable {α ρ:Type}
theorem sV (xs:U α)(hx:xs.length<=1099511627776)(f:Nat->α->QbQ ρ)(fin:QbQ ρ){body:Int->QbQ (Int⊕ρ)}(h1:∀(k:Nat) (x:α),xs[k]?=some x->k<xs.length->idx xs (k:Int)=some x->decide ((k:Int)<(xs.length:Int))=true->IntKind.i64.wrap ((k:Int)+1)=((k+1:Nat):Int)->body k=match f k x with|some r=>some (.inr r)|none=>some (.inl ((k+1:Nat):Int)))(h2:decide ((xs.length:Int)<(xs.length:Int))=false->body xs.length=fin.map .inr):iter body 0=match fb f 0 xs with|some r=>some r|none=>fin:=by
 have key:∀(m k:Nat),k+m=xs.length->iter body k=match fb f k (xs.drop k)with|some r=>some r|none=>fin:=by
  intro m;induction m with
  |zero=>
   intro k hk;have hk:k=xs.length:=by omega
   subst hk;rw[aE,h2 (by simp),Sr];unfold fb;cases fin<;>rfl
  |succ m ih=>
   intro k hk;have hlt:k<xs.length:=by omega
   have hg:xs[k]?=some xs[k]:=RG hlt;rw[aE,h1 k _ hg hlt (bv hg) (by simp;omega) (bf (by omega)),RL hlt];grind[fb]
 have:=key xs.length 0 (by omega)
 grind
theorem lQ {f:Nat->α->QbQ ρ}:∀{xs:U α} {k:Nat},fb f k xs=none↔ ∀(j:Nat) (x:α),xs[j]?=some x->f (k+j) x=none
 |[],k=>⟨λ_ j x h=>by simp at h,λ_=>J⟩
 | y::xs,k=>by
  unfold fb;cases hf:f k y with
  |some r=>
   refine⟨λh=>(by cases h),λh=>?_⟩;have:=h 0 y J;grind
  |none=>
   simp only;rw[lQ];constructor
   .grind
   .intro h j x hj;have:=h (j+1) x (by grind);grind
def l7(s:State)(l:List Item):Bool:=l.any λx=>decide (x.Dep<0)||decide (x.Dep> (s.Choices.length:Int))
def chkM(m:Memory):Int:=(lN m).getD 0
theorem yJ (m:Memory):lN m=some (chkM m)/\(chkM m=0↔okM m):=by obtain⟨c,h1,h2⟩:=B4 m;grind[chkM]
def qf(n:Net)(c:Choice):Bool:=decide (0<=c.Node/\c.Node<n.Nodes.length/\(ab n c.Node.toNat).Kind=6/\0<=c.Lane/\c.Lane<(ab n c.Node.toNat).In.length)
def dJ(n:Net)(items:List (List Item))(s:State):Int:=
 if bt n items≠0 then bt n items
 else if s.At.length≠items.length∨(s.Rings.length:Int)≠n.Rings∨s.Memory.length≠n.Nodes.length then 4
 else if 500<s.Choices.length∨2000<s.Out.length then 2
 else(fb (λk (p:Int)=>if p<0∨p> ((items.getD k []).length:Int)then some (3:Int)else none) 0 s.At).getD
  ((fb (λ_ (l:List Item)=>if n.Room<(l.length:Int)then some (2:Int)else if l7 s l=true then some 3 else none) 0 s.Rings).getD
  ((fb (λ_ (m:Memory)=>if chkM m≠0 then some (chkM m)else if m.Dep> (s.Choices.length:Int)then some 3 else none) 0 s.Memory).getD
  ((fb (λ_ (c:Choice)=>if qf n c=true then none else some (5:Int)) 0 s.Choices).getD (if l7 s s.Out=true then 3 else 0))))
end
section
variable {n:Net} {items:List (List Item)} {B:Int} {s:State}
theorem Eg(s:State)(l:U Item)(hl:l.length<=1099511627776):oU l s.At s.Rings s.Memory s.Choices s.Out=some (!l7 s l):=by
 unfold oU uk uo;rw[u0 l hl (λx=>decide (x.Dep<0)||decide (x.Dep> (s.Choices.length:Int))) (λk x hx hk h1 h2 h3=>by
  simp_all[qV,uv]) (λh=>by
  simp[qV])]
 rw[RF,ym];rfl
theorem Ko(n:Net)(c:Choice):rU n c=some (qf n c):=by
 unfold rU qf;by_cases h0:0<=c.Node
 .rw[if_pos (by grind)];by_cases h1:c.Node<n.Nodes.length
  .have hi:idx n.Nodes c.Node=some (ab n c.Node.toNat):=jg _ h0 h1;grind
  grind
 grind
theorem pO(n:Net)(items:U (U Item))(s:State)(hio:∀x∈n.Nodes,x.In.length<=1099511627776/\x.Out.length<=1099511627776)(hr:∀l,l∈s.Rings->l.length<=1099511627776):iw n items s=some (dJ n items s):=by
 unfold iw dJ;rw[o4 n items hio,RF];by_cases h:bt n items=0
 .have hS:=eq h;rw[if_neg (show ¬(bt n items !=0)=true by simp[h]),if_neg (show ¬bt n items≠0 by simp[h])];by_cases hl:s.At.length≠items.length∨(s.Rings.length:Int)≠n.Rings∨s.Memory.length≠n.Nodes.length
  .grind
  .have h1:s.At.length=items.length:=by omega
   have h2:(s.Rings.length:Int)=n.Rings:=by omega
   have h3:s.Memory.length=n.Nodes.length:=by omega
   rw[if_neg hl,if_neg (by simp;omega)];by_cases hm:500<s.Choices.length∨2000<s.Out.length
   .grind
   .rw[if_neg hm,if_neg (by simp;omega)];have h4:=hS.l4;have h5:=hS.r2;have h6:=hS.n2;rw[sV s.At (by omega) (λk (p:Int)=>if p<0∨p> ((items.getD k []).length:Int)then some (3:Int)else none) (iter (λmu:Int=>pc n s mu) 0) (λk x hx hk e1 e2 e3=>by
     unfold rH;rw[e2,e1,e3];simp only[if_true,RF];have hi:=bv (dZ ([]:U Item) (show k<items.length by omega));grind) (λe=>by
     simp[rH])]
    rw[sV s.Rings (by omega) (λ_ (l:U Item)=>if n.Room<(l.length:Int)then some (2:Int)else if l7 s l=true then some 3 else none) (iter (λjZ:Int=>o8 n s jZ) 0) (λk x hx hk e1 e2 e3=>by
     unfold pc;rw[e2,e1,e3];simp only[if_true,RF];rw[Eg s x (hr x (RI hx)),RF];grind) (λe=>by
     simp[pc])]
    rw[sV s.Memory (by omega) (λ_ (m:Memory)=>if chkM m≠0 then some (chkM m)else if m.Dep> (s.Choices.length:Int)then some 3 else none) (iter (λjZ:Int=>pd n s jZ) 0) (λk x hx hk e1 e2 e3=>by
     unfold o8;rw[e2,e1,e3];simp only[if_true,RF];rw[(yJ x).1,RF];grind) (λe=>by
     simp[o8])]
    rw[sV s.Choices (by omega) (λ_ (c:Choice)=>if qf n c=true then none else some (5:Int)) (some (if l7 s s.Out=true then 3 else 0)) (λk x hx hk e1 e2 e3=>by
     unfold pd;rw[e2,e1,e3];simp only[if_true,RF];grind[Ko]) (λe=>by
     unfold pd;rw[e,Eg s s.Out (by omega)];grind)]
    grind
 grind
theorem uM{l:U Item}:l7 s l=false↔ ∀x,x∈l->0<=x.Dep/\x.Dep<=s.Choices.length:=by simp[l7]
theorem ww{o:QbQ Int}{z:Int}(h:o.getD z=0)(ho:∀r,o=some r->r≠0):o=none/\z=0:=by
 cases o with
 |none=>grind
 |some r=>grind
theorem rV{α ρ:Type}{f:Nat->α->QbQ ρ}:∀{xs:U α} {k:Nat} {r:ρ},fb f k xs=some r->∃(j:Nat) (x:α),xs[j]?=some x/\f (k+j) x=some r
 |[],k,r,h=>by cases h
 |y::xs,k,r,h=>by
  unfold fb at h;split at h
  .rename_i r' hf;cases h;exact⟨0,y,J,hf⟩
  .obtain⟨j,x,h1,h2⟩:=rV h;exact⟨j+1,x,by grind,by grind⟩
theorem Pu(h:dJ n items s=0)(hB:∀m,m∈s.Memory->∀y,y∈m.Keys->y.N<=B):OkS n items B s:=by
 unfold dJ at h;split at h
 .omega
 .split at h
  .omega
  .split at h
   .omega
   .rename_i h1 h2 h3;obtain⟨e1,h⟩:=ww h (λr hr=>by grind[rV]);obtain⟨e2,h⟩:=ww h (λr hr=>by
     grind[rV])
    obtain⟨e3,h⟩:=ww h (λr hr=>by grind[rV])
    obtain⟨e4,h⟩:=ww h (λr hr=>by grind[rV]);rw[lQ]at e1 e2 e3 e4;refine⟨by omega,by omega,by omega,by omega,by omega,λa p hp=>?_,λr l hl=>?_,λr l x hl hx=>?_,λi m hm=>?_,λc hc=>?_,?_⟩
    .grind
    .grind
    .have:=e2 r l hl;split at this
     .cases this
     .split at this
      .cases this
      .rename_i hb;exact uM.1 (Bool.eq_false_iff.2 hb) x hx
    .have:=e3 i m hm;split at this
     .cases this
     .rename_i hb;split at this
      .cases this
      .exact⟨(yJ m).2.1 (Decidable.not_not.1 hb),by omega,hB m (RI hm)⟩
    .obtain⟨j,hj⟩:=RX hc;have:=e4 j c hj;split at this
     .rename_i hb;unfold qf at hb;unfold vH;grind
     .cases this
    .split at h
     .omega
     .rename_i hb;exact uM.1 (Bool.eq_false_iff.2 hb)
theorem k0(hsrc:bt n items=0)(ok:OkS n items B s):dJ n items s=0:=by
 unfold dJ;have h1:=ok.at_;have h2:=ok.rg;have h3:=ok.mm;have h4:=ok.ch;have h5:=ok.out;rw[if_neg (by omega),if_neg (by omega),if_neg (by omega)];rw[lQ.2 (λj p hp=>by have:=ok.atP j p hp;grind),lQ.2 (λr l hl=>by
  have:=ok.room r l hl;rw[if_neg (by omega),if_neg (by rw[uM.2 (λx hx=>ok.depR r l x hl hx)];decide)]),lQ.2 (λi m hm=>by
  have:=ok.mem i m hm;simp_all[yJ]),lQ.2 (λj c hc=>by
  have:=ok.cho c (RI hc);simp_all[qf,vH])]
 show(if l7 s s.Out=true then 3 else 0)=(0:Int)
 rw[if_neg (by rw[uM.2 ok.depO];decide)]
theorem vM{α:Type}{l:U α}{k:Nat}{a:α}(h:l[k]?=some a):l.set k a=l:=by grind[List.set_getElem_self]
theorem NX(s:State)(h1:s.At.length<=1099511627776)(h2:s.Rings.length<=1099511627776)(h3:s.Memory.length<=1099511627776)(h4:s.Choices.length<=1099511627776)(h5:s.Out.length<=1099511627776)
  (h6:∀l,l∈s.Rings->l.length<=1099511627776) (h7:∀m,m∈s.Memory->m.Keys.length<=1099511627776):kC s=some s:=by
 have cl:∀{α:Type} (l:U α),l.length<=1099511627776->app [] l=some l:=λl hl=>by grind[cC]
 have l1:∀(m k:Nat),k+m=s.Memory.length->iter (λGN:Int×(U Memory)=>nb s s.At s.Rings s.Memory GN.1 GN.2) ((k:Int),s.Memory)=some s:=by
  intro m;induction m with
  |zero=>
   simp_all[nb,ux,fh,aE]
  |succ m ih=>
   intro k hk;have hlt:k<s.Memory.length:=by omega
   have hg:s.Memory[k]?=some s.Memory[k]:=RG hlt;have e:nb s s.At s.Rings s.Memory (k:Int) s.Memory=some (.inl (((k+1:Nat):Int),s.Memory)):=by unfold nb nu rf;rw[if_pos (by simp;omega),cP hlt,RF,hg,RF,cl _ (h7 _ (R6 hlt)),RF,RF,RF,hg,RF,bf (by omega),vM hg]
   rw[aE];simp only[e];exact ih (k+1) (by omega)
 have l2:∀(m k:Nat),k+m=s.Rings.length->iter (λjo:Int×(U (U Item))=>lI s s.At s.Rings jo.1 jo.2) ((k:Int),s.Rings)=some s:=by
  intro m;induction m with
  |zero=>
   intro k hk;have hk:k=s.Rings.length:=by omega
   subst hk;have e:lI s s.At s.Rings (s.Rings.length:Int) s.Rings=some (.inr s):=by unfold lI uw;have:=l1 s.Memory.length 0 (by omega);grind
   grind[aE]
  |succ m ih=>
   intro k hk;have hlt:k<s.Rings.length:=by omega
   have hg:s.Rings[k]?=some s.Rings[k]:=RG hlt;have e:lI s s.At s.Rings (k:Int) s.Rings=some (.inl (((k+1:Nat):Int),s.Rings)):=by unfold lI fh;rw[if_pos (by simp;omega),cP hlt,RF,hg,RF,cl _ (h6 _ (R6 hlt)),RF,RF,hg,RF,bf (by omega),vM hg]
   grind[aE]
 unfold kC km uj
 rw[cl _ h1,RF,cl _ h2,RF]
 have:=l2 s.Rings.length 0 (by omega)
 omega
theorem yx(hS:RightS n items)(ok:OkS n items B s):kC s=some s:=by
 have h1:=ok.at_;have h2:=ok.rg;have h3:=ok.mm;have h4:=ok.ch;have h5:=ok.out;have h6:=hS.l4;have h7:=hS.r2;have h8:=hS.n2;have h9:=hS.m2;refine NX s (by omega) (by omega) (by omega) (by omega) (by omega) (λl hl=>?_) (λm hm=>?_)
 .obtain⟨r,hr⟩:=RX hl;have:=ok.room r l hr;omega
 .obtain⟨i,hi⟩:=RX hm;have:=(ok.mem i m hi).1.len;omega
end
theorem JJ:uG=some meetN:=rfl
theorem P6:uP=some twoN:=rfl
end
section
def bh(n:Net)(items:List (List Item)):Mach Item Memory (List Choice) where
 key:=Item.Key
 step:=λi m x=>cJ (ab n i).Kind (ab n i).A m x
 stamp:=λt x=>⟨x.Key,x.Val,(t.length:Int)+1⟩
 tick:=λt i k=>t++[⟨i,k⟩]
 src:=λa=>items.getD a []
def fV(n:Net)(items:List (List Item)):Mach (Int×Int) (Int×List Keyed) Unit where
 key:=Prod.fst
 step:=λi m x=>stepC (ab n i).Kind (ab n i).A m x
 stamp:=λ_ x=>x
 tick:=λt _ _=>t
 src:=λa=>(items.getD a []).map cM
def aX(s:State):MSt Item Memory (List Choice):=⟨λa=>(s.At.getD a 0).toNat,λr=>s.Rings.getD r [],memN s,s.Out,s.Choices⟩
def era(c:MSt Item Memory (List Choice)):MSt (Int×Int) (Int×List Keyed) Unit:=⟨c.pos,λr=>(c.rg r).map cM,λi=>eraM (c.mm i),c.out.map cM,()⟩
theorem FC{I M T:Type}{p q:MSt I M T}(h1:p.pos=q.pos)(h2:p.rg=q.rg)(h3:p.mm=q.mm)(h4:p.out=q.out)(h5:p.tr=q.tr):p=q:=by cases p;simp_all
theorem pX{n:Net}{items:U (U Item)}(hS:RightS n items):SrcN n:=λi j hi hj h1 h2 e=>hS.src1 i j hi hj h1 h2 (by have:=hS.a0 i hi;have:=hS.a0 j hj;omega)
section
variable {n:Net} {items:List (List Item)} {B:Int} {s:State}
theorem Du (hR:RightN n)(s:State)(l:U Int):fitM (some n.Room.toNat) (aX s) l↔roomy n s l=true:=by
 unfold fitM roomy;rw[Sc];have:=hR.m1;constructor
 .intro h r hr;have h1:(s.Rings.getD r.toNat []).length<n.Room.toNat:=h n.Room.toNat J r hr;grind
 .intro h R hRm r hr;cases hRm;have:=of_decide_eq_true (h r hr);show(s.Rings.getD r.toNat []).length<n.Room.toNat;omega
variable {i k:Nat}{d c c':MSt Item Memory (U Choice)}{m:Nat×Nat}{room:QbQ Nat}{w:U (Nat×Nat)}{α:Type}
theorem OU (hS:RightS n items)(ok:OkS n items B s)(hi:i<n.Nodes.length)(hk:k<bD (ab n i)){it:Item}(hh:dy n items s i k=some it):aX (doM n items s i k)=goM (bh n items) n (aX s) (i,k) it:=by
 have hR:=hS.toRightN;have hmi:i<s.Memory.length:=by rw[ok.mm];exact hi
 have hmk:dS n s i it=mkM (bh n items) n (aX s) (i,k) it:=by rfl
 refine FC ?_ ?_ ?_ ?_ ?_
 .funext a;show((doM n items s i k).At.getD a 0).toNat=(if(ab n i).Kind=1 then upd (aX s).pos (ab n i).A.toNat ((aX s).pos (ab n i).A.toNat+1)else(aX s).pos) a;rw[do_at hh];by_cases h1:(ab n i).Kind=1
  .obtain⟨a0,a1,a2,a3,a4,a5⟩:=at_ok hS ok hi h1;rw[if_pos h1,if_pos h1,ye _ _ _ _ _ (by omega)];unfold upd;by_cases e:a=(ab n i).A.toNat
   .rw[if_pos e,if_pos e];show _=(s.At.getD (ab n i).A.toNat 0).toNat+1;omega
   .rw[if_neg e,if_neg e];rfl
  .rw[if_neg h1,if_neg h1];rfl
 .funext r;show(doM n items s i k).Rings.getD r []=_;rw[DV hR ok.rg hi hk hh,hmk];rfl
 .funext j;show(doM n items s i k).Memory.getD j ⟨0,[],0⟩=upd (aX s).mm i _ j;rw[FU hh,ye _ _ _ _ _ hmi,hmk];rfl
 .show(doM n items s i k).Out=_;rw[y7 hh,hmk];rfl
 .show(doM n items s i k).Choices=_;rw[do_ch hh];rfl
theorem yN (hS:RightS n items)(ok:OkS n items B s)(hi:i<n.Nodes.length)(hk:k<bD (ab n i))(hc:eG n items s i k=true):Ex (bh n items) n (some n.Room.toNat) (aX s) (i,k) (aX (doM n items s i k)):=by obtain⟨it,hh,hroom,_⟩:=nK hc;exact⟨⟨hi,hk⟩,it,hh,(Du hS.toRightN s _).2 hroom,OU hS ok hi hk hh⟩
theorem vh (hS:RightS n items)(h:Ex (bh n items) n (some n.Room.toNat) (aX s) (i,k) d)(h6:(ab n i).Kind=6->s.Choices.length≠500)(h8:(ab n i).Kind=8->s.Out.length≠2000):eG n items s i k=true:=by obtain⟨_,x,hx,hf,_⟩:=h;have hh:dy n items s i k=some x:=hx;unfold eG;rw[hh];have h1:=(Du hS.toRightN s _).1 hf;have h2:roomy n s (bK (ab n i) x.Key)=true:=h1;grind
theorem ex_mv (hS:RightS n items)(ok:OkS n items B s){m:Move}(hm:m∈aB n items s):Ex (bh n items) n (some n.Room.toNat) (aX s) (m.Node.toNat,m.Lane.toNat) (aX (doMv n items s m)):=by obtain⟨i,k,rfl,hi,hk,hc⟩:=hU hm;exact yN hS ok hi hk hc
theorem FP (c:MSt Item Memory (U Choice))(m:Nat×Nat):hdM (fV n items) n (era c) m=(hdM (bh n items) n c m).map cM:=by
 unfold hdM;split
 .show((items.getD _ []).map cM)[c.pos _]?=_;rw[R9];rfl
 .show((c.rg _).map cM).head?=_;simp
theorem Qb (c:MSt Item Memory (U Choice))(m:Nat×Nat)(x:Item):mkM (fV n items) n (era c) m (cM x)=(eraM (mkM (bh n items) n c m x).1,cM (mkM (bh n items) n c m x).2):=by
 have e1:inM (fV n items) n (era c) m (cM x)=cM (inM (bh n items) n c m x):=by unfold inM;split<;>rfl
 unfold mkM;rw[e1];exact(O6 _ _ _ _).symm
theorem FSx (c:MSt Item Memory (U Choice))(m:Nat×Nat)(x:Item):era (goM (bh n items) n c m x)=goM (fV n items) n (era c) m (cM x):=by
 have hk:=Qb (n:=n) (items:=items) c m x;refine FC J ?_ ?_ ?_ J
 .funext r;show(((if _ then(c.rg r).tail else c.rg r)++if(r:Int)∈toM (bh n items) n m x then[(mkM (bh n items) n c m x).2]else[]):U Item).map cM=(if _ then((c.rg r).map cM).tail else(c.rg r).map cM)++if(r:Int)∈toM (fV n items) n m (cM x)then[(mkM (fV n items) n (era c) m (cM x)).2]else[]
  rw[hk,SC];have ht:toM (fV n items) n m (cM x)=toM (bh n items) n m x:=rfl;grind[List.map_tail]
 .funext i;show eraM (upd c.mm m.1 _ i)=upd (λi=>eraM (c.mm i)) m.1 _ i;grind[upd]
 .show(if _ then c.out++[_]else c.out).map cM=if _ then c.out.map cM++[_]else c.out.map cM
  grind
theorem FA (room:QbQ Nat)(c:MSt Item Memory (U Choice))(l:U Int):fitM room (era c) l↔fitM room c l:=by simp[fitM,era]
theorem Gv (h:Ex (bh n items) n room c m c'):Ex (fV n items) n room (era c) m (era c'):=by obtain⟨h0,x,h1,h2,rfl⟩:=h;refine⟨h0,cM x,by rw[FP,h1];rfl,(FA room c _).2 h2,FSx c m x⟩
theorem wm {d:MSt (Int×Int) (Int×U Keyed) Unit}(h:Ex (fV n items) n room (era c) m d):∃c',Ex (bh n items) n room c m c'/\era c'=d:=by
 obtain⟨h0,y,h1,h2,rfl⟩:=h;rw[FP]at h1;cases hx:hdM (bh n items) n c m with
 |none=>grind
 |some x=>
  rw[hx]at h1;cases h1;exact⟨_,⟨h0,x,hx,(FA room c _).1 h2,J⟩,FSx c m x⟩
theorem Ff (h:Run (bh n items) n room c w c'):Run (fV n items) n room (era c) w (era c'):=by
 induction h with
 |nil c=>exact .nil _
 |cons h t ih=>exact .cons (Gv h) ih
def chW(n:Net)(w:List (Nat×Nat)):List Choice:=(w.filter λm=>decide ((ab n m.1).Kind=6)).map λm=>⟨m.1,m.2⟩
theorem jP (h:Run (bh n items) n room c w d):d.tr=c.tr++chW n w:=by
 induction h with
 |nil c=>simp[chW]
 | @cons c c1 d m w h t ih=>
  obtain⟨_,x,_,_,rfl⟩:=h;rw[ih];unfold chW;show(if(ab n m.1).Kind=6 then c.tr++[⟨m.1,m.2⟩]else c.tr)++_=_;grind
theorem nG {I M T:Type}{E:Mach I M T}{c d:MSt I M T}(h:Run E n room c w d):∀m,m∈w->okMv n m:=by
 induction h with
 |nil c=>simp
 |cons h t ih=>
  intro m hm;rcases Sa.1 hm with rfl|hm
  .exact h.1
  grind
def bp(l:List Choice)(i:Nat):List Int:=(l.filter λc=>decide (c.Node=(i:Int))).map Choice.Lane
theorem xq (i:Nat)(h6:(ab n i).Kind=6):∀(w:U (Nat×Nat)),bI i w=(bp (chW n w) i).map λl=>(i,l.toNat)
 |[]=>rfl
 |m::w=>by rw[fj,xq i h6 w];unfold chW bp;grind
theorem xr (i:Nat)(h6:(ab n i).Kind≠6):∀(w:U (Nat×Nat)),(∀m,m∈w->okMv n m)->bI i w=List.replicate (bI i w).length (i,0)
 |[],_=>rfl
 |m::w,h=>by
  have ih:=xr i h6 w λq hq=>h q (RQ _ hq)
  rw[fj];split
  .rename_i hm;have h2:=(h m RM).2;unfold bD at h2;grind
  .exact ih
theorem LG (a:α)(p q:Nat):Comp (List.replicate p a) (List.replicate q a):=by
 rcases Nat.le_total p q with h|h
 .exact .inl ⟨List.replicate (q- p) a,by simp_all⟩
 .exact .inr ⟨List.replicate (p- q) a,by simp_all⟩
theorem LN {β:Type}(f:α->β){x y:U α}(h:Comp x y):Comp (x.map f) (y.map f):=by
 rcases h with⟨t,rfl⟩|⟨t,rfl⟩
 .exact .inl ⟨t.map f,by simp⟩
 .exact .inr ⟨t.map f,by simp⟩
theorem Ih {u v:U (Nat×Nat)}(hu:∀m,m∈u->okMv n m)(hv:∀m,m∈v->okMv n m)(h:∀i,(ab n i).Kind=6->Comp (bp (chW n u) i) (bp (chW n v) i))(i:Nat):Comp (bI i u) (bI i v):=by grind[xq,LN,xr,LG]
structure Reach (n:Net) (items:List (List Item)) (w:List (Nat×Nat)) (s:State):Prop where
 inv:Inv n items s
 run:Run (bh n items) n (some n.Room.toNat) (aX (aS n items)) w (aX s)
theorem iB (h:Reach n items w s):s.Choices=chW n w:=by have:=jP h.run;assumption
theorem Cn (hS:RightS n items)(hI:Inv n items s)(h500:s.Choices.length<500)(h2000:s.Out.length<2000)(hr:aB n items s=[]){d:MSt (Int×Int) (Int×U Keyed) Unit}:¬Ex (fV n items) n (some n.Room.toNat) (era (aX s)) m d:=by intro h;obtain⟨c',h1,_⟩:=wm h;have hv:=h1.1;have hc:=vh (i:=m.1) (k:=m.2) hS h1 (λ_=>by omega) (λ_=>by omega);have:=r7 hv.1 hv.2 hc;grind
end
end
section
section
variable {I M T:Type} {E:Mach I M T} {n:Net} {room:Option Nat}
variable {a:Nat×Nat}
theorem so (hR:RightN n)(hsrc:SrcN n):∀{p:U (Nat×Nat)} {c c1 d:MSt I M T},Run E n room c p d->Ex E n room c a c1->bI a.1 p=[]->((ab n a.1).Kind≠6∨chW n p=[])->∃e,Run E n room c1 p e/\Ex E n room d a e:=by
 intro p;induction p with
 |nil=>intro c c1 d h h1 _ _;cases h;exact⟨c1,.nil c1,h1⟩
 | cons b p ih=>
  intro c c1 d h h1 hp h6;rw[fj]at hp;split at hp
  .cases hp
  .rename_i hne;cases h with
   |cons hb ht=>
    have hb6:(ab n a.1).Kind≠6∨(ab n b.1).Kind≠6/\chW n p=[]:=by grind[chW]
    obtain⟨f,f1,f2⟩:=diamond hR hsrc h1 hb (λe=>hne e.symm) (by omega);obtain⟨e,e1,e2⟩:=ih ht f2 hp (by grind);exact⟨e,.cons f1 e1,e2⟩
theorem vi (hR:RightN n)(hsrc:SrcN n){p q:U (Nat×Nat)}{c c1 d:MSt I M T}(h:Run E n room c (p++a::q) d)(h1:Ex E n room c a c1)(hp:bI a.1 p=[])(h6:(ab n a.1).Kind≠6∨chW n p=[]):Run E n room c1 (p++q) d:=by
 obtain⟨f,f1,f2⟩:=h.split;obtain⟨e,e1,e2⟩:=so hR hsrc f1 h1 hp h6;cases f2 with
 |cons g1 g2=>rw[e2.det g1]at e1;exact e1.app g2
end
section
variable {n:Net}
theorem fJ (m:Nat×Nat)(w:U (Nat×Nat)):chW n (m::w)=if(ab n m.1).Kind=6 then(⟨m.1,m.2⟩:Choice)::chW n w else chW n w:=by unfold chW;grind
theorem jL (u v:U (Nat×Nat)):chW n (u++v)=chW n u++chW n v:=by simp[chW]
variable {w:U (Nat×Nat)}
theorem Bm (hw:chW n w=[]){i:Nat}(h6:(ab n i).Kind=6):bI i w=[]:=by rw[xq i h6,hw];rfl
theorem xH (hv:∀m,m∈w->okMv n m){a:Nat×Nat}(ha:okMv n a)(h6:(ab n a.1).Kind≠6):bI a.1 w=[]∨∃p q,w=p++a::q/\bI a.1 p=[]:=by
 cases hp:bI a.1 w with
 |nil=>simp
 |cons b l=>
  right;have h1:=xr a.1 h6 w hv;rw[hp,R8,S9]at h1;have hb:b=a:=by have h2:=ha.2;unfold bD at h2;grind
  grind[BD]
theorem KW {c:Choice}{l:U Choice}(h:chW n w=c::l):∃p q m,w=p++m::q/\chW n p=[]/\chW n q=l/\(ab n m.1).Kind=6/\c=⟨m.1,m.2⟩:=by
 induction w with
 |nil=>cases h
 |cons m w ih=>
  rw[fJ]at h;by_cases h6:(ab n m.1).Kind=6
  .rw[if_pos h6]at h;obtain⟨h1,h2⟩:=List.cons.inj h;exact⟨[],w,m,J,J,h2,h6,h1.symm⟩
  .rw[if_neg h6]at h;obtain⟨p,q,m',e1,e2,e3,e4,e5⟩:=ih h;exact⟨m::p,q,m',by rw[e1];rfl,by simp_all[fJ],e3,e4,e5⟩
end
end
section
def zz(n:Int):Nat:=if 0<=n then(2*n).toNat else(-2*n- 1).toNat
theorem zz_lt {n:Int}(h:gI n):zz n<18446744073709551616:=by grind[gI,zz]
theorem PJ {a b:Int}(h:zz a=zz b):a=b:=by grind[zz]
def vb:Nat->Nat->List UInt8
 |0,u=>[UInt8.ofNat u]
 |f+1,u=>if u<128 then[UInt8.ofNat u]else UInt8.ofNat (u% 128+128)::vb f (u/ 128)
def num(n:Int):List UInt8:=vb 9 (zz n)
theorem GA:∀(f u:Nat),(vb f u).length<=f+1/\1<=(vb f u).length
 |0,u=>by simp[vb]
 |f+1,u=>by unfold vb;have:=GA f (u/ 128);grind
theorem gQ (n:Int):(num n).length<=10/\1<=(num n).length:=GA 9 _
theorem sK {a b:Nat}(ha:a<256)(hb:b<256)(h:UInt8.ofNat a=UInt8.ofNat b):a=b:=by have:=congrArg UInt8.toNat h;simpa [S3 ha,S3 hb]using this
theorem vb_pf:∀(f u v:Nat) (r s:U UInt8),u<128 ^ (f+1)->v<128 ^ (f+1)->vb f u++r=vb f v++s->u=v/\r=s
 |0,u,v,r,s,hu,hv,h=>by
  simp only[vb,Tf,SG,Tj]at h;exact⟨sK (by omega) (by omega) h.1,h.2⟩
 |f+1,u,v,r,s,hu,hv,h=>by
  unfold vb at h;have hq:∀x,x<128 ^ (f+1+1)->x/ 128<128 ^ (f+1):=λx hx=>by omega
  split at h<;>split at h<;>simp only[Tf,SG,Tj]at h
  .exact⟨sK (by omega) (by omega) h.1,h.2⟩
  .have:=sK (by omega) (by omega) h.1;omega
  .have:=sK (by omega) (by omega) h.1;omega
  .have h1:=sK (by omega) (by omega) h.1;obtain⟨h2,h3⟩:=vb_pf f _ _ _ _ (hq u hu) (hq v hv) h.2;grind
def PF{α:Type}(ok:α->Prop)(e:α->List UInt8):Prop:=∀x y r s,ok x->ok y->e x++r=e y++s->x=y/\r=s
theorem ja:PF gI num:=λx y r s hx hy h=>by obtain⟨h1,h2⟩:=vb_pf 9 _ _ _ _ (Sx (zz_lt hx) (by decide)) (Sx (zz_lt hy) (by decide)) h;grind[PJ]
section
variable {α:Type}{e:α->U UInt8}
theorem ET {ok:α->Prop}(h:PF ok e):∀(l m:U α) (r s:U UInt8),l.length=m.length->(∀a,a∈l->ok a)->(∀a,a∈m->ok a)->l.flatMap e++r=m.flatMap e++s->l=m/\r=s
 |[],[],r,s,_,_,_,h1=>⟨J,by grind⟩
 |[],_::_,r,s,hl,_,_,_=>by simp at hl
 |_::_,[],r,s,hl,_,_,_=>by simp at hl
 |a::l,b::m,r,s,hl,ha,hb,h1=>by simp only[Sl,RT]at h1;obtain⟨rfl,h2⟩:=h _ _ _ _ (ha a (.head _)) (hb b (.head _)) h1;obtain⟨rfl,h3⟩:=ET h l m r s (by grind) (λx hx=>ha x (.tail _ hx)) (λx hx=>hb x (.tail _ hx)) h2;grind
def lst{α:Type}(e:α->List UInt8)(l:List α):List UInt8:=num (l.length:Int)++l.flatMap e
theorem oa {ok:α->Prop}(h:PF ok e):PF (λl:U α=>l.length<=1099511627776/\∀a,a∈l->ok a) (lst e):=λx y r s hx hy h1=>by unfold lst at h1;simp only[RT]at h1;obtain⟨h2,h3⟩:=ja _ _ _ _ (by grind[gI]) (by grind[gI]) h1;grind[ET]
def bJ(x:Item):List UInt8:=num x.Key++(num x.Val++num x.Dep)
def gU(x:Keyed):List UInt8:=num x.Key++num x.N
def dI(x:Memory):List UInt8:=num x.Sum++(num x.Dep++lst gU x.Keys)
def cN(x:Choice):List UInt8:=num x.Node++num x.Lane
def bb(x:State):List UInt8:=lst num x.At++(lst (lst bJ) x.Rings++(lst dI x.Memory++(lst cN x.Choices++lst bJ x.Out)))
theorem Fu:PF dO bJ:=λx y r s hx hy h=>by simp only[bJ,RT]at h;obtain⟨h1,h⟩:=ja _ _ _ _ hx.1 hy.1 h;obtain⟨h2,h⟩:=ja _ _ _ _ hx.2.1 hy.2.1 h;obtain⟨h3,h⟩:=ja _ _ _ _ hx.2.2 hy.2.2 h;cases x;simp_all
theorem LM:PF mf gU:=λx y r s hx hy h=>by simp only[gU,RT]at h;obtain⟨h1,h⟩:=ja _ _ _ _ hx.1 hy.1 h;obtain⟨h2,h⟩:=ja _ _ _ _ hx.2 hy.2 h;cases x;simp_all
theorem KL:PF l6 cN:=λx y r s hx hy h=>by simp only[cN,RT]at h;obtain⟨h1,h⟩:=ja _ _ _ _ hx.1 hy.1 h;obtain⟨h2,h⟩:=ja _ _ _ _ hx.2 hy.2 h;cases x;simp_all
abbrev short{α:Type}(ok:α->Prop)(l:List α):Prop:=l.length<=1099511627776/\∀a,a∈l->ok a
def sMem(x:Memory):Prop:=gI x.Sum/\gI x.Dep/\short mf x.Keys
def jO(x:State):Prop:=short gI x.At/\short (short dO) x.Rings/\short sMem x.Memory/\short l6 x.Choices/\short dO x.Out
theorem PZ:PF sMem dI:=λx y r s hx hy h=>by simp only[dI,RT]at h;obtain⟨h1,h⟩:=ja _ _ _ _ hx.1 hy.1 h;obtain⟨h2,h⟩:=ja _ _ _ _ hx.2.1 hy.2.1 h;obtain⟨h3,h⟩:=oa LM _ _ _ _ hx.2.2 hy.2.2 h;cases x;simp_all
theorem LH:PF jO bb:=λx y r s hx hy h=>by simp only[bb,RT]at h;obtain⟨h1,h⟩:=oa ja _ _ _ _ hx.1 hy.1 h;obtain⟨h2,h⟩:=oa (oa Fu) _ _ _ _ hx.2.1 hy.2.1 h;obtain⟨h3,h⟩:=oa PZ _ _ _ _ hx.2.2.1 hy.2.2.1 h;obtain⟨h4,h⟩:=oa KL _ _ _ _ hx.2.2.2.1 hy.2.2.2.1 h;obtain⟨h5,h⟩:=oa Fu _ _ _ _ hx.2.2.2.2 hy.2.2.2.2 h;cases x;simp_all
theorem JA {x y:State}(hx:jO x)(hy:jO y):bb x=bb y↔x=y:=
 ⟨λh=>(LH x y [] [] hx hy (by rw[h])).1,λh=>by rw[h]⟩
end
end
section
theorem M0 (a b:Nat)(ha:a<9223372036854775808)(hb:b<9223372036854775808):ibits .and .i64 (a:Int) (b:Int)=((a &&& b:Nat):Int):=by have hx:a &&& b<2 ^ 63:=Nat.lt_of_le_of_lt Nat.and_le_left (by omega);show IntKind.i64.wrap ((BitVec.ofInt 64 (a:Int) &&& BitVec.ofInt 64 (b:Int)).toNat:Int)=_;grind[bG]
theorem EP (a b:Nat)(ha:a<9223372036854775808)(hb:b<9223372036854775808):ibits .or .i64 (a:Int) (b:Int)=((a ||| b:Nat):Int):=by
 have hx:a ||| b<2 ^ 63:=Nat.or_lt_two_pow (by omega) (by omega)
 show IntKind.i64.wrap ((BitVec.ofInt 64 (a:Int) ||| BitVec.ofInt 64 (b:Int)).toNat:Int)=_;grind[bG]
theorem xX (a b:Nat)(ha:a<9223372036854775808)(hb:b<9223372036854775808):ibits .xor .i64 (a:Int) (b:Int)=((a ^^^ b:Nat):Int):=by have hx:a ^^^ b<2 ^ 63:=Nat.xor_lt_two_pow (by omega) (by omega);show IntKind.i64.wrap ((BitVec.ofInt 64 (a:Int) ^^^ BitVec.ofInt 64 (b:Int)).toNat:Int)=_;grind[bG]
def crc1(n:Nat):Nat:=if(n*2) &&& 65536≠0 then(n*2) ^^^ 69665 else n*2
def crcN:Nat->Nat->Nat
 |0,n=>n
 |k+1,n=>crcN k (crc1 n)
def crcB(n:Nat)(b:UInt8):Nat:=crcN 8 (n ^^^ (b.toNat*256))
def crc(l:List UInt8):Nat:=l.foldl crcB 65535
theorem GD (q r q' r':Nat)(hr:r<65536)(hr':r'< 65536):(65536*q+r) &&& (65536*q'+ r')=65536*(q &&& q')+(r &&& r'):=by
 have hrr:r &&& r'< 2 ^ 16:=Nat.lt_of_le_of_lt Nat.and_le_left hr;apply Nat.eq_of_testBit_eq;intro i;have e:(65536:Nat)=2 ^ 16:=by decide
 rw[e]at hr hr' ⊢;rw[Nat.testBit_and,SI _ hr,SI _ hr',SI _ hrr];grind
theorem Qd (q r q' r':Nat)(hr:r<65536)(hr':r'< 65536):(65536*q+r) ^^^ (65536*q'+ r')=65536*(q ^^^ q')+(r ^^^ r'):=by
 have hrr:r ^^^ r'< 2 ^ 16:=Nat.xor_lt_two_pow (n:=16) (by omega) (by omega);apply Nat.eq_of_testBit_eq;intro i;have e:(65536:Nat)=2 ^ 16:=by decide
 rw[e]at hr hr' ⊢;rw[Nat.testBit_xor,SI _ hr,SI _ hr',SI _ hrr];grind
theorem DA {a b:Nat}(ha:a<65536)(hb:b<65536):a ^^^ b<65536:=Nat.xor_lt_two_pow (n:=16) ha hb
section
variable {b:UInt8}{n k x:Nat}
theorem NJ (h:n<32768):crc1 n=n*2:=by
 have e:(n*2) &&& 65536=0:=by have:=GD 0 (n*2) 1 0 (by omega) (by omega);grind
 grind[crc1]
theorem Nw (h:32768<=n)(h':n<65536):crc1 n=(n*2- 65536) ^^^ 4129:=by
 have e:n*2=65536*1+(n*2- 65536):=by omega
 have e1:(n*2) &&& 65536=65536:=by have:=GD 1 (n*2- 65536) 1 0 (by omega) (by omega);grind
 have e2:=Qd 1 (n*2- 65536) 1 4129 (by omega) (by omega);rw[<- e]at e2;unfold crc1;grind
theorem EM (h:n<65536):crc1 n<65536:=by grind[NJ,Nw,DA]
theorem Pc (h:n<65536):crcN k n<65536:=by
 induction k generalizing n with
 |zero=>exact h
 |succ k ih=>exact ih (EM h)
theorem EN (h:n<65536):n ^^^ (b.toNat*256)<65536:=DA h (by have:=b.toNat_lt;omega)
theorem yD (h:n<65536):crcB n b<65536:=Pc (EN h)
theorem NR (l:U UInt8):∀{n:Nat},n<65536->l.foldl crcB n<65536:=by
 induction l with
 |nil=>simp
 |cons b l ih=>grind[yD]
theorem yT (l:U UInt8):crc l<65536:=NR l (by decide)
theorem to (h:n<9223372036854775808):IntKind.i64.wrap (n:Int)=(n:Int):=bG (by omega) (by omega)
theorem f9 (c:UInt8):IntKind.i64.wrap (c.toNat:Int)=(c.toNat:Int):=to (by have:=c.toNat_lt;omega)
theorem wj (n:Nat):IntKind.u8.wrap (n:Int)=((n% 256:Nat):Int):=by rfl
theorem str_1 (n:Nat):ce [IntKind.u8.wrap (n:Int)]=[UInt8.ofNat n]:=by unfold ce;rw[wj];simp only[Se,List.map_nil,R7];congr 1;exact UInt8.toNat_inj.1 (by simp)
theorem str_2 (n m:Nat):ce [IntKind.u8.wrap (n:Int),IntKind.u8.wrap (m:Int)]=[UInt8.ofNat n,UInt8.ofNat m]:=by have h1:=str_1 n;have h2:=str_1 m;simp_all[ce]
theorem shl_n (hk:k<=64)(h:x*2 ^ k<9223372036854775808):shl .i64 (x:Int) (k:Int)=some ((x*2 ^ k:Nat):Int):=by
 unfold shl;rw[if_pos (by omega)];have e:min (k:Int).toNat IntKind.i64.bits=k:=by have:IntKind.i64.bits=64:=rfl;omega
 rw[e];congr 1;have:((x:Int)*2 ^ k)=((x*2 ^ k:Nat):Int):=by rfl
 rw[this,to h]
theorem shr8 (h:x<9223372036854775808):shr .i64 (x:Int) 8=some ((x/ 256:Nat):Int):=by unfold shr;rw[if_pos (by omega)];have e:min (8:Int).toNat IntKind.i64.bits=8:=rfl;grind
theorem CL (s2:Int):∀(n j x:Nat),j+n=8->x<65536->iter (λss:Int×Int=>lK s2 ss.1 ss.2) ((x:Int),(j:Int))=some (.inl (((crcN n x:Nat):Int),IntKind.i64.wrap (s2+1)))
 |0,j,x,hj,hx=>by
  have e:lK s2 (x:Int) (j:Int)=some (.inr (.inl ((x:Int),IntKind.i64.wrap (s2+1)))):=by simp_all[lK]
  rw[aE];simp only[e];rfl
 |n+1,j,x,hj,hx=>by
  have h1:shl .i64 (x:Int) 1=some ((x*2:Nat):Int):=by have:=shl_n (x:=x) (k:=1) (by omega) (by omega);omega
  have ha:ibits .and .i64 ((x*2:Nat):Int) 65536=(((x*2) &&& 65536:Nat):Int):=M0 (x*2) 65536 (by omega) (by decide);have hb:ibits .xor .i64 ((x*2:Nat):Int) 69665=(((x*2) ^^^ 69665:Nat):Int):=xX (x*2) 69665 (by omega) (by decide);have e:lK s2 (x:Int) (j:Int)=some (.inl (((crc1 x:Nat):Int),((j+1:Nat):Int))):=by unfold lK;rw[if_pos (by simp;omega),h1];simp only[RF];rw[ha,hb,bf (by omega)];unfold crc1;grind
  rw[aE];simp only[e];exact CL s2 n (j+1) (crc1 x) (by omega) (EM hx)
theorem AN (b:U UInt8)(hb:b.length<=1099511627776):pF b=some ((crc b:Nat):Int):=by
 unfold pF;have:=py (σ:=Fin 65536) b hb (λk st=>((st.val:Int),(k:Int))) (body:=λss:Int×Int=>m7 b ss.1 ss.2)
  (λk x st=>some (.inl ⟨crcB st.val x,yD st.isLt⟩)) (λst=>some (st.val:Int)) ⟨65535,by decide⟩
  (λk x st _ hk h1 h2 h3=>by
   show m7 b (st.val:Int) (k:Int)=_;unfold m7;rw[h2,h1];simp only[if_true,RF,f9];have hx:=x.toNat_lt;have hst:=st.isLt;have h4:shl .i64 (x.toNat:Int) 8=some ((x.toNat*256:Nat):Int):=by have:=shl_n (x:=x.toNat) (k:=8) (by omega) (by omega);omega
   rw[h4];simp only[RF];rw[xX _ _ (by omega) (by omega)];have:=CL (k:Int) 8 0 (st.val ^^^ x.toNat*256) (by omega) (EN st.isLt);rw[h3]at this;exact this)
  (λst h=>by simp[m7])
 refine Eq.trans this ?_;have fold:∀(ys:U UInt8) (k:Nat) (st:Fin 65536),eL (σ:=Fin 65536) (ρ:=Int) (λk x st=>some (.inl ⟨crcB st.val x,yD st.isLt⟩)) (λst=>some (st.val:Int)) k ys st=some ((ys.foldl crcB st.val:Nat):Int):=by
  intro ys;induction ys with
  |nil=>intro k st;rfl
  |cons y ys ih=>grind[eL]
 rw[fold];rfl
def frm(b:List UInt8):List UInt8:=UInt8.ofNat b.length::b++[UInt8.ofNat (crc (UInt8.ofNat b.length::b)/ 256),UInt8.ofNat (crc (UInt8.ofNat b.length::b))]
def putFr(b:List UInt8):List UInt8×Int:=if b=[]then([],4)else if 60<b.length then([],2)else(frm b,0)
theorem uO (b:U UInt8):pG b=some (putFr b):=by
 unfold pG putFr;by_cases h1:b=[]
 .grind
 rw[if_neg (by grind),if_neg h1];by_cases h2:60<b.length
 .grind
 rw[if_neg (by simp;omega),if_neg h2,str_1,jR (by simp;omega)];simp only[RF,Ts];grind[AN,yT,shr8,str_2,jR,frm]
def ji(r:List UInt8):Option (List UInt8):=
 match r with
 |[]=>none
 |h::t=>
  if h.toNat<1∨60<h.toNat∨t.length+1<h.toNat+3 then none
  else if(t.getD h.toNat 0).toNat*256+(t.getD (h.toNat+1) 0).toNat≠crc (h::t.take h.toNat)then none
  else some (t.take h.toNat)
def records:Nat->List UInt8->List (List UInt8)×Nat
 |0,_=>([],0)
 |n+1,r=>
  match ji r with
  |none=>([],0)
  |some p=>(p::(records n (r.drop (p.length+3))).1,p.length+3+(records n (r.drop (p.length+3))).2)
def readR(b:List UInt8):List (List UInt8)×Int×Int:=
 if 12800<b.length then([],0,2)else((records b.length b).1,((records b.length b).2:Int),0)
theorem AE (b:U UInt8):px b=some (readR b):=by
 unfold px readR;by_cases h0:12800<b.length
 .grind
 rw [if_neg (by simp;omega),if_neg h0];have key:∀(n u:Nat) (acc:U (U UInt8)),u<=b.length->acc.length<=u->b.length<=u+n ->
   iter (λss:Int×U (U UInt8)=>iu b ss.1 ss.2) ((u:Int),acc)=some (acc++(records n (b.drop u)).1,((u+(records n (b.drop u)).2:Nat):Int),0):=by
  intro n
  induction n with
  |zero=>
   simp_all[iu,if_neg,aE,records]
  | succ n ih=>
   intro u acc hu ha hn
   have stop:ji (b.drop u)=none->iu b (u:Int) acc=some (.inr (acc,(u:Int),0))->iter (λss:Int×U (U UInt8)=>iu b ss.1 ss.2) ((u:Int),acc)=some (acc++(records (n+1) (b.drop u)).1,((u+(records (n+1) (b.drop u)).2:Nat):Int),0):=by grind[aE,records]
   by_cases hlt:u<b.length
   .have hr:b.drop u=b[u]::b.drop (u+1):=RL hlt
    generalize hc:b[u]=c at hr
    generalize ht:b.drop (u+1)=t at hr
    have hlen:t.length+1+u=b.length:=by grind
    have hcl:=c.toNat_lt
    have w1:IntKind.i64.wrap ((c.toNat:Int)+1)=((c.toNat+1:Nat):Int):=by grind[bG]
    have w2:IntKind.i64.wrap ((c.toNat:Int)+2)=((c.toNat+2:Nat):Int):=by grind[bG]
    have w3:IntKind.i64.wrap ((c.toNat:Int)+3)=((c.toNat+3:Nat):Int):=by grind[bG]
    have e1:sub b (u:Int) (b.length:Int)=some (c::t):=by rw[kP hu,hr]
    have e2:idx (c::t) 0=some c:=by simp[idx]
    rw[hr]at stop⊢
    by_cases hbad:c.toNat<1∨60<c.toNat∨t.length+1<c.toNat+3
    .refine stop (by simp_all[ji]) ?_
     unfold iu
     rw[if_pos (by simp;omega),e1]
     simp only[RF]
     rw[e2]
     simp only[RF,f9,w1,w2,w3]
     grind
    have e3:sub (c::t) 0 ((c.toNat+1:Nat):Int)=some (c::t.take c.toNat):=by rw[sub_0 (by simp;omega)];simp
    have e4:sub (c::t) 1 ((c.toNat+1:Nat):Int)=some (t.take c.toNat):=by have:=ql (xs:=c::t) (i:=1) (j:=c.toNat+1) (by omega) (by simp;omega);grind
    have hs:=AN (c::t.take c.toNat) (by simp;omega)
    have hcs:=yT (c::t.take c.toNat)
    have hx:∃x,t[c.toNat]?=some x:=⟨_,RG (by omega)⟩
    have hy:∃y,t[c.toNat+1]?=some y:=⟨_,RG (by omega)⟩
    obtain⟨x,hx⟩:=hx
    obtain⟨y,hy⟩:=hy
    have ix:idx (c::t) ((c.toNat+1:Nat):Int)=some x:=bv (by grind)
    have iy:idx (c::t) ((c.toNat+2:Nat):Int)=some y:=bv (by grind)
    have hxl:=x.toNat_lt
    have hyl:=y.toNat_lt
    have h8:shl .i64 (x.toNat:Int) 8=some ((x.toNat*256:Nat):Int):=by have:=shl_n (x:=x.toNat) (k:=8) (by omega) (by omega);omega
    have hor:x.toNat*256 ||| y.toNat=x.toNat*256+y.toNat:=by have:=Nat.two_pow_add_eq_or_of_lt (i:=8) (b:=y.toNat) hyl x.toNat;grind
    have hx':t.getD c.toNat 0=x:=by grind
    have hy':t.getD (c.toNat+1) 0=y:=by grind
    by_cases hsum:x.toNat*256+y.toNat=crc (c::t.take c.toNat)
    .have hsome:ji (c::t)=some (t.take c.toNat):=by simp_all[ji]
     have hp:(t.take c.toNat).length=c.toNat:=by simp;omega
     have e:iu b (u:Int) acc=some (.inl (((u+(c.toNat+3):Nat):Int),acc++[t.take c.toNat])):=by unfold iu;rw[if_pos (by simp;omega),e1];simp only[RF];rw[e2];simp only[RF,f9,w1,w2,w3];rw[if_neg (by simp;omega),e3];simp only[RF];rw[hs];simp only[RF];rw[ix];simp only[RF,f9];rw[h8];simp only[RF];rw[iy];simp only[RF,f9];rw[EP _ _ (by omega) (by omega),hor,if_neg (by simp[hsum]),e4];grind[cC,to]
     rw[aE];simp only[e]
     have hdrop:(c::t).drop (c.toNat+3)=b.drop (u+(c.toNat+3)):=by grind[List.drop_drop]
     rw[ih (u+(c.toNat+3)) (acc++[t.take c.toNat]) (by omega) (by simp;omega) (by omega)]
     grind[records]
    .refine stop (by simp_all[ji]) ?_
     unfold iu
     rw[if_pos (by simp;omega),e1]
     simp only[RF]
     rw[e2]
     simp only[RF,f9,w1,w2,w3]
     rw[if_neg (by simp;omega),e3]
     simp only[RF]
     rw[hs]
     simp only[RF]
     rw[ix]
     simp only[RF,f9]
     rw[h8]
     simp only[RF]
     rw[iy]
     simp only[RF,f9]
     rw[EP _ _ (by omega) (by omega),hor,if_pos (by simp;omega)];rfl
   .have hnil:b.drop u=[]:=SZ (by omega)
    refine stop (by rw[hnil];rfl) ?_
    unfold iu
    grind
 have:=key b.length 0 [] (by omega) (by simp) (by omega);grind
end
end
section
def bZ(l:List UInt8):List Int:=l.map λb=>(b.toNat:Int)
theorem PI (l:U UInt8):ce (bZ l)=l:=by
 unfold ce bZ;rw[SQ];have:(λn:Int=>UInt8.ofNat n.toNat)∘(λb:UInt8=>(b.toNat:Int))=id:=by funext b;simp
 simp_all
theorem P9 (l:U UInt8)(h:l≠[]):rY (bZ l)=some l:=by
 unfold rY bldS;rw[if_pos ⟨by simp_all[bZ],λx hx=>by obtain⟨b,_,rfl⟩:=R3.1 hx;have:=b.toNat_lt;omega⟩,PI]
theorem Bs (acc:U UInt8)(n:Nat)(h:acc.length+1<=1099511627776)(hn:n<256):oF (n:Int) (bZ acc)=some ((),bZ (acc++[UInt8.ofNat n])):=by simp_all[oF,xh,cC,bZ,S3]
theorem Oy:∀x:Fin 256,ibits .or .u8 (x.val:Int) 128=((x.val% 128+128:Nat):Int):=by decide+kernel
theorem shr7 (u:Nat):shr .u64 (u:Int) 7=some ((u/ 128:Nat):Int):=by unfold shr;rw[if_pos (by omega)];show some ((u:Int).fdiv 128)=_;grind
theorem OK:∀(f u:Nat) (acc:U UInt8),u<128 ^ (f+1)->acc.length+f+1<=1099511627776 ->
  iter (λcT:Int×(U Int)=>lr cT.1 cT.2) ((u:Int),bZ acc)=some (bZ (acc++vb f u)):=by
 have stop:∀(u:Nat) (acc:U UInt8),u<128->acc.length+1<=1099511627776->lr (u:Int) (bZ acc)=some (.inr (bZ (acc++[UInt8.ofNat u]))):=λu acc hu ha=>by unfold lr;rw[if_neg (by simp;omega),wj,S3 (by omega),Bs acc u ha (by omega)];rfl
 intro f
 induction f with
 |zero=>
  intro u acc hu ha
  rw[aE,stop u acc (by omega) (by omega)]
  rfl
 | succ f ih=>
  intro u acc hu ha
  by_cases h:u<128
  .rw[aE,stop u acc h (by omega)]
   simp only[vb,if_pos h]
  .have hb:ibits .or .u8 (IntKind.u8.wrap (u:Int)) 128=((u% 128+128:Nat):Int):=by
    rw[wj,Oy ⟨u% 256,by omega⟩];simp
   have hq:u/ 128<128 ^ (f+1):=by omega
   have h1:lr (u:Int) (bZ acc)=some (.inl (((u/ 128:Nat):Int),bZ (acc++[UInt8.ofNat (u% 128+128)]))):=by unfold lr;rw[if_pos (by simp;omega),hb,Bs acc _ (by omega) (by omega),RF,shr7];rfl
   rw[aE,h1]
   simp only
   rw[ih _ _ hq (by simp;omega)]
   simp_all[vb,if_neg]
theorem th (n:Int):IntKind.u64.wrap n=n% 18446744073709551616:=by rfl
theorem On (n:Int)(h:gI n):∃a b,shl .u64 (IntKind.u64.wrap n) 1=some a/\shr .i64 n 63=some b/\ibits .xor .u64 a (IntKind.u64.wrap b)=(zz n:Int):=by
 unfold gI at h;refine⟨(n% 18446744073709551616*2)% 18446744073709551616,n.fdiv 9223372036854775808,by rfl,by rfl,?_⟩;have key:∀(x:Nat) (hx:x<18446744073709551616) (y:Int),ibits .xor .u64 (x:Int) y=((BitVec.ofNat 64 x ^^^ BitVec.ofInt 64 y).toNat:Int):=λx hx y=>by unfold ibits;simp only[IntKind.bits];rw[th,BitVec.ofInt_natCast];have:(BitVec.ofNat 64 x ^^^ BitVec.ofInt 64 y).toNat<18446744073709551616:=(BitVec.ofNat 64 x ^^^ BitVec.ofInt 64 y).isLt;exact Int.emod_eq_of_lt (by omega) (Int.ofNat_lt.2 this)
 by_cases h0:0<=n
 .have e1:n.fdiv 9223372036854775808=0:=by grind
  have e2:(n% 18446744073709551616*2)% 18446744073709551616=((2*n.toNat:Nat):Int):=by omega
  rw[e1,e2,th,key _ (by omega)];have:BitVec.ofInt 64 (0% 18446744073709551616)=0#64:=by decide
  rw[this,BitVec.xor_zero,BitVec.toNat_ofNat,S3 (by omega)];unfold zz;grind
 .have e1:n.fdiv 9223372036854775808= -1:=by grind
  have e2:(n% 18446744073709551616*2)% 18446744073709551616=((2*(n+9223372036854775808).toNat:Nat):Int):=by omega
  rw[e1,e2,th,key _ (by omega)];have:BitVec.ofInt 64 (-1% 18446744073709551616)=BitVec.allOnes 64:=by decide
  rw[this,BitVec.xor_allOnes,BitVec.toNat_not,BitVec.toNat_ofNat,S3 (by omega)];unfold zz;grind
theorem fH (n:Int)(h:gI n)(acc:U UInt8)(ha:acc.length+(num n).length<=1099511627776- 20):dL n (bZ acc)=some (bZ (acc++num n)):=by obtain⟨a,b,h1,h2,h3⟩:=On n h;unfold dL;rw[h1,RF,h2,RF,h3];exact OK 9 _ acc (Sx (zz_lt h) (by decide)) (by omega)
section
variable {α ρ:Type}{body:Int×U Int->QbQ ((Int×U Int)⊕ρ)}
theorem CZ (xs:U α)(hx:xs.length<=1099511627776)(e:α->U UInt8)(fin:U UInt8->QbQ ρ)(B:Nat)(h1:∀(k:Nat) x acc,xs[k]?=some x->acc.length+(e x).length<=B->idx xs (k:Int)=some x->decide ((k:Int)<(xs.length:Int))=true->IntKind.i64.wrap ((k:Int)+1)=((k+1:Nat):Int)->body ((k:Int),bZ acc)=some (.inl (((k+1:Nat):Int),bZ (acc++e x))))(h2:∀acc,acc≠[]->acc.length<=B->decide ((xs.length:Int)<(xs.length:Int))=false->body ((xs.length:Int),bZ acc)=(fin acc).map .inr):
  ∀(n k:Nat) acc,acc≠[]->k+n=xs.length->acc.length+((xs.drop k).flatMap e).length<=B->iter body ((k:Int),bZ acc)=fin (acc++(xs.drop k).flatMap e)
 |0,k,acc,hne,h,hB=>by
  have hk:k=xs.length:=by omega
  subst hk;rw[aE,h2 acc hne (by omega) (by simp),Sr];simp only[List.flatMap_nil,Sg];cases fin acc<;>rfl
 |n+1,k,acc,hne,h,hB=>by
  have hlt:k<xs.length:=by omega
  have hg:xs[k]?=some xs[k]:=RG hlt;rw[RL hlt,Sl,RN]at hB;rw[aE,h1 k xs[k] acc hg (by omega) (bv hg) (by simp;omega) (bf (by omega)),RL hlt,Sl,<- RT];exact CZ xs hx e fin B h1 h2 n (k+1) _ (by simp[hne]) (by omega) (by grind)
theorem pI (xs:U α)(hx:xs.length<=1099511627776)(e:α->U UInt8)(fin:U UInt8->QbQ ρ)(B:Nat)(acc:U UInt8)(h1:∀(k:Nat) x acc,xs[k]?=some x->acc.length+(e x).length<=B->idx xs (k:Int)=some x->decide ((k:Int)<(xs.length:Int))=true->IntKind.i64.wrap ((k:Int)+1)=((k+1:Nat):Int)->body ((k:Int),bZ acc)=some (.inl (((k+1:Nat):Int),bZ (acc++e x))))(h2:∀acc,acc≠[]->acc.length<=B->decide ((xs.length:Int)<(xs.length:Int))=false->body ((xs.length:Int),bZ acc)=(fin acc).map .inr)(hne:acc≠[])(hB:acc.length+(xs.flatMap e).length<=B):iter body (0,bZ acc)=fin (acc++xs.flatMap e):=by
 have:=CZ xs hx e fin B h1 h2 xs.length 0 acc hne (by omega) (by grind)
 grind
abbrev BB:Nat:=1099511627776- 20
theorem od {l:U α}(h:l.length<=1099511627776):gI (l.length:Int):=by unfold gI;omega
theorem qj (a:U UInt8)(x:Int):a++num x≠[]:=λh=>by have:=(gQ x).2;simp_all
theorem DM (l:U Item)(hl:short dO l)(acc:U UInt8)(ha:acc.length+(lst bJ l).length<=BB):mD l (bZ acc)=some (bZ (acc++lst bJ l)):=by
 unfold lst at ha ⊢;rw[RN]at ha;unfold mD;rw[fH _ (od hl.1) acc (by grind),RF,<- RT];exact pI l hl.1 bJ (λa=>some (bZ a)) BB (acc++num (l.length:Int)) (λk x acc hx hc hi hd hw=>by
  have hg:=hl.2 x (RI hx);unfold bJ BB at hc;simp only[RN]at hc;unfold q7;rw[if_pos hd,hi,RF,fH _ hg.1 acc (by omega),RF,fH _ hg.2.1 _ (by grind),RF,fH _ hg.2.2 _ (by grind),RF,hw];simp[bJ]) (λacc _ _ hd=>by
  simp[q7]) (qj _ _) (by grind)
theorem Jm (n:Net)(items:U (U Item))(s:State)(hs:jO s)(hB:(bb s).length<=BB):
  (Option.bind (dL ((s.At).length:Int) ([]:U Int)) λx4=>(iter (λeP:Int×(U Int)=>pe s eP.1 eP.2) (0,x4)))=some (bb s,0):=by
 obtain⟨h1,h2,h3,h4,h5⟩:=hs
 have hn0:=fH _ (od h1.1) [] (by unfold bb lst at hB;grind)
 rw[show bZ []=([]:U Int)from J]at hn0
 rw[hn0,RF,SG]
 generalize hb1:num (s.At.length:Int)=b1
 have e5:∀a:U UInt8,a.length+(lst bJ s.Out).length<=BB->a≠[]->(Option.bind (mD s.Out (bZ a)) λx46=>(Option.bind (rY x46) λx48=>(some (x48,(0:Int)))))=some (a++lst bJ s.Out,0):=λa ha hne=>by rw[DM _ h5 a ha,RF,P9 _ (by simp[hne]),RF]
 have e4:∀a:U UInt8,a.length+(lst cN s.Choices).length+(lst bJ s.Out).length<=BB->(Option.bind (dL ((s.Choices).length:Int) (bZ a)) λx37=>(iter (λjk:Int×(U Int)=>pb s jk.1 jk.2) (0,x37)))=some (a++(lst cN s.Choices++lst bJ s.Out),0):=λa ha=>by
  rw[show lst cN s.Choices=num (s.Choices.length:Int)++s.Choices.flatMap cN from J,RN]at ha;rw[fH _ (od h4.1) a (by grind),RF];rw[pI s.Choices h4.1 cN (λb=>some (b++lst bJ s.Out,(0:Int))) (BB- (lst bJ s.Out).length) (a++num (s.Choices.length:Int)) (λk x acc hx hc hi hd hw=>by
   have hg:=h4.2 x (RI hx);unfold cN BB at hc;simp only[RN]at hc;unfold pb;rw[if_pos hd,hi,RF,fH _ hg.1 acc (by omega),RF,fH _ hg.2 _ (by grind),RF,hw];simp[cN]) (λacc hne hac hd=>by
   unfold pb;grind) (qj _ _) (by grind)]
  simp[lst]
 have e3:∀a:U UInt8,a.length+(lst dI s.Memory).length+((lst cN s.Choices).length+(lst bJ s.Out).length)<=BB->(Option.bind (dL ((s.Memory).length:Int) (bZ a)) λx18=>(iter (λeM:Int×(U Int)=>ph s eM.1 eM.2) (0,x18)))=some (a++(lst dI s.Memory++(lst cN s.Choices++lst bJ s.Out)),0):=λa ha=>by
  rw[show lst dI s.Memory=num (s.Memory.length:Int)++s.Memory.flatMap dI from J,RN]at ha;rw[fH _ (od h3.1) a (by grind),RF];rw[pI s.Memory h3.1 dI (λb=>some (b++(lst cN s.Choices++lst bJ s.Out),(0:Int))) (BB- ((lst cN s.Choices).length+(lst bJ s.Out).length)) (a++num (s.Memory.length:Int)) (λk x acc hx hc hi hd hw=>by
   obtain⟨g1,g2,g3⟩:=h3.2 x (RI hx);unfold dI lst BB at hc;simp only[RN]at hc;unfold ph;rw[if_pos hd,hi,RF,fH _ g1 acc (by omega),RF,fH _ g2 _ (by simp_all<;>omega),RF,fH _ (od g3.1) _ (by simp_all<;>omega),RF];rw[pI x.Keys g3.1 gU (λb=>some (.inl (((k+1:Nat):Int),bZ b))) BB _ (λk2 y acc hy hc hi hd hw=>by
    have hg:=g3.2 y (RI hy);unfold gU BB at hc;simp only[RN]at hc;unfold rF;rw[if_pos hd,hi,RF,fH _ hg.1 acc (by omega),RF,fH _ hg.2 _ (by grind),RF,hw];simp[gU]) (λacc _ _ hd=>by
    simp_all[rF]) (qj _ _) (by unfold BB;simp_all<;>omega)]
   simp[dI,lst]) (λacc hne hac hd=>by
   unfold ph;rw[hd,if_neg (by simp),e4 acc (by omega)]) (qj _ _) (by simp_all<;>omega)]
  simp[lst]
 have e2:∀a:U UInt8,a.length+(lst (lst bJ) s.Rings).length+((lst dI s.Memory).length+((lst cN s.Choices).length+(lst bJ s.Out).length))<=BB->(Option.bind (dL ((s.Rings).length:Int) (bZ a)) λx11=>(iter (λbB:Int×(U Int)=>pf s bB.1 bB.2) (0,x11)))=some (a++(lst (lst bJ) s.Rings++(lst dI s.Memory++(lst cN s.Choices++lst bJ s.Out))),0):=λa ha=>by
  rw[show lst (lst bJ) s.Rings=num (s.Rings.length:Int)++s.Rings.flatMap (lst bJ)from J,RN]at ha;rw[fH _ (od h2.1) a (by grind),RF];rw[pI s.Rings h2.1 (lst bJ) (λb=>some (b++(lst dI s.Memory++(lst cN s.Choices++lst bJ s.Out)),(0:Int))) (BB- ((lst dI s.Memory).length+((lst cN s.Choices).length+(lst bJ s.Out).length))) (a++num (s.Rings.length:Int)) (λk x acc hx hc hi hd hw=>by
   have hg:=h2.2 x (RI hx);unfold pf;rw[if_pos hd,hi,RF,DM _ hg acc (by omega),RF,hw]) (λacc hne hac hd=>by
   unfold pf;rw[hd,if_neg (by simp),e3 acc (by omega)]) (qj _ _) (by simp_all<;>omega)]
  simp[lst]
 unfold bb at hB
 rw[show lst num s.At=num (s.At.length:Int)++s.At.flatMap num from J,hb1]at hB
 simp only[RN]at hB
 rw[pI s.At h1.1 num (λb=>some (b++(lst (lst bJ) s.Rings++(lst dI s.Memory++(lst cN s.Choices++lst bJ s.Out))),(0:Int))) (BB- ((lst (lst bJ) s.Rings).length+((lst dI s.Memory).length+((lst cN s.Choices).length+(lst bJ s.Out).length)))) b1 (λk x acc hx hc hi hd hw=>by
  have hg:=h1.2 x (RI hx);unfold BB at hc;unfold pe;rw[if_pos hd,hi,RF,fH _ hg acc (by omega),RF,hw]) (λacc hne hac hd=>by
  unfold pe;rw[hd,if_neg (by simp),e2 acc (by omega)]) (by grind[qj]) (by omega)]
 simp_all[bb,lst]
theorem Dy (n:Net)(items:U (U Item))(s:State)(hs:jO s)(hB:(bb s).length<=BB):
  ky n items s=Option.bind (iw n items s) λx2=>(if(x2 !=0)=true then(some ([],x2))else some (bb s,0)):=by
 unfold ky
 rw[Jm n items s hs hB]
end
end
noncomputable section
theorem C5:∀x:Fin 256,ibits .and .u8 (x.val:Int) 127=((x.val% 128:Nat):Int):=by decide+kernel
theorem Kr (a:Nat)(ha:a<18446744073709551616):(BitVec.ofInt 64 (a:Int)).toNat=a:=by grind
theorem u64_in (a:Nat)(ha:a<18446744073709551616):IntKind.u64.wrap (a:Int)=(a:Int):=by rw[th];omega
theorem vI (a b:Nat)(ha:a<18446744073709551616)(hb:b<18446744073709551616):ibits .or .u64 (a:Int) (b:Int)=((a ||| b:Nat):Int):=by
 have hx:a ||| b<2 ^ 64:=Nat.or_lt_two_pow (by omega) (by omega)
 show IntKind.u64.wrap ((BitVec.ofInt 64 (a:Int) ||| BitVec.ofInt 64 (b:Int)).toNat:Int)=_;grind[u64_in]
theorem JM (a:Nat)(ha:a<18446744073709551616):ibits .and .u64 (a:Int) 1=((a% 2:Nat):Int):=by have hx:a &&& 1<2 ^ 64:=Nat.lt_of_le_of_lt Nat.and_le_left (by omega);show IntKind.u64.wrap ((BitVec.ofInt 64 (a:Int) &&& BitVec.ofInt 64 ((1:Nat):Int)).toNat:Int)=_;grind[u64_in]
theorem FY (i s c:Nat)(h:s<2 ^ i):s ||| c*2 ^ i=s+c*2 ^ i:=by grind[Nat.mul_comm,Nat.two_pow_add_eq_or_of_lt]
def decZ(v:Int):Option Int:=Option.bind (shr .u64 v 1) λx=>some (ibits .xor .i64 (IntKind.i64.wrap x) (IntKind.i64.wrap (0- (IntKind.i64.wrap (ibits .and .u64 v 1)))))
theorem PQ (c:Nat)(h:9223372036854775808<=c)(h2:c<18446744073709551616):IntKind.i64.wrap (c:Int)=(c:Int)- 18446744073709551616:=by grind[IntKind.wrap,IntKind.signed,IntKind.bits]
theorem NH (n:Int)(h:gI n):decZ (zz n:Int)=some n:=by
 have hz:=zz_lt h;unfold decZ;have h1:shr .u64 (zz n:Int) 1=some ((zz n/ 2:Nat):Int):=by unfold shr;rw[if_pos (by omega)];show some ((zz n:Int).fdiv 2)=_;grind
 rw[h1,RF,JM _ hz,to (by omega),to (by omega)];unfold gI at h;by_cases h0:0<=n
 .have e:zz n=2*n.toNat:=by unfold zz;grind
  rw[e,show 2*n.toNat/ 2=n.toNat by omega,show 2*n.toNat% 2=0 by omega];rw[show IntKind.i64.wrap (0- ((0:Nat):Int))=((0:Nat):Int) by decide,xX _ _ (by omega) (by omega),Nat.xor_zero];grind
 .have e:zz n=2*(-n- 1).toNat+1:=by unfold zz;grind
  rw[e,show(2*(-n- 1).toNat+1)/ 2=(-n- 1).toNat by omega,show(2*(-n- 1).toNat+1)% 2=1 by omega];rw[show IntKind.i64.wrap (0- ((1:Nat):Int))= -1 by decide];congr 1;show IntKind.i64.wrap ((BitVec.ofInt 64 (((-n- 1).toNat:Nat):Int) ^^^ BitVec.ofInt 64 (-1)).toNat:Int)=n;rw[show BitVec.ofInt 64 (-1)=BitVec.allOnes 64 by decide,BitVec.xor_allOnes,BitVec.toNat_not,Kr _ (by omega)];grind[PQ]
theorem Gr (pre:U UInt8)(b:UInt8)(t:U UInt8):idx (pre++b::t) (pre.length:Int)=some b:=bv (by simp)
theorem MD:∀(f u i s1:Nat) (pre r:U UInt8),pre.length=i->i+f=9->u<128 ^ (f+1)->s1<2 ^ (7*i)->s1+u*2 ^ (7*i)<18446744073709551616 ->
  iter (λak:Int×Int=>e7 (pre++(vb f u++r)) ak.1 ak.2) ((s1:Int),(i:Int))=Option.bind (decZ ((s1+u*2 ^ (7*i):Nat):Int)) λn=>some (.inl (n,r)):=by
 have hd:∀(i:Nat) (pre t:U UInt8) (b:UInt8),pre.length=i->i<10->decide ((i:Int)<(if((pre++b::t).length:Int)<10 then((pre++b::t).length:Int)else 10))=true:=λi pre t b hp hi=>by grind
 have hp2:∀i:Nat,0<2 ^ (7*i):=λi=>Nat.pow_pos (by omega)
 have hx6:∀(i c s1 u:Nat),i<=9->c<128->c<=u->s1+u*2 ^ (7*i)<18446744073709551616->shl .u64 (IntKind.u64.wrap (c:Int)) (IntKind.i64.wrap (7*(i:Int)))=some ((c*2 ^ (7*i):Nat):Int):=λi c s1 u hi hc hu h=>by
  have hle:c*2 ^ (7*i)<=u*2 ^ (7*i):=R4 _ hu;rw[u64_in _ (by omega),bG (by omega) (by omega)];unfold shl;rw[if_pos (by omega)];have e1:min (7*(i:Int)).toNat IntKind.u64.bits=7*i:=by show min (7*(i:Int)).toNat 64=7*i;omega
  rw[e1];have e2:(c:Int)*2 ^ (7*i)=((c*2 ^ (7*i):Nat):Int):=by rfl
  rw[e2,u64_in _ (by omega)]
 have stop:∀(u i s1:Nat) (pre r:U UInt8),pre.length=i->i<=9->u<128->s1<2 ^ (7*i)->s1+u*2 ^ (7*i)<18446744073709551616 ->
   e7 (pre++(UInt8.ofNat u::r)) (s1:Int) (i:Int)=Option.map Sum.inr (Option.bind (decZ ((s1+u*2 ^ (7*i):Nat):Int)) λn=>some (.inl (n,r))):=λu i s1 pre r hp hi hu hs hv=>by
  subst hp
  have hb:(UInt8.ofNat u).toNat=u:=by simp;omega
  unfold e7
  rw[if_pos (hd _ pre r _ J (by omega)),Gr,RF,hb,C5 ⟨u,by omega⟩]
  simp only
  rw[S3 hu,hx6 _ u s1 u hi hu (RJ _) hv,RF,RF,hb,if_pos (by simp;omega),bf (by omega)]
  have hsub:sub (pre++(UInt8.ofNat u::r)) ((pre.length+1:Nat):Int) ((pre++(UInt8.ofNat u::r)).length:Int)=some r:=by rw[kP (by simp)];simp
  have hle:s1<18446744073709551616:=by omega
  rw[hsub,RF,vI _ _ hle (by omega),FY _ _ _ hs]
  rfl
 intro f
 induction f with
 |zero=>
  intro u i s1 pre r hp hi hu hs hv
  have e:pre++(vb 0 u++r)=pre++(UInt8.ofNat u::r):=rfl
  rw[e,aE]
  simp only[stop u i s1 pre r hp (by omega) (by omega) hs hv]
  rfl
 | succ f ih=>
  intro u i s1 pre r hp hi hu hs hv
  by_cases h:u<128
  .have e:pre++(vb (f+1) u++r)=pre++(UInt8.ofNat u::r):=by simp[vb,h]
   rw[e,aE]
   simp only[stop u i s1 pre r hp (by omega) h hs hv]
   rfl
  .have e:pre++(vb (f+1) u++r)=pre++(UInt8.ofNat (u% 128+128)::(vb f (u/ 128)++r)):=by simp[vb,h]
   have hq:u/ 128<128 ^ (f+1):=by omega
   have hb:(UInt8.ofNat (u% 128+128)).toNat=u% 128+128:=by simp;omega
   have hpow:2 ^ (7*(i+1))=128*2 ^ (7*i):=by grind
   have hsum:s1+u% 128*2 ^ (7*i)+u/ 128*2 ^ (7*(i+1))=s1+u*2 ^ (7*i):=by
    rw[hpow];have:u=u% 128+128*(u/ 128):=by omega
    grind
   have hlt:s1+u% 128*2 ^ (7*i)<2 ^ (7*(i+1)):=by rw[hpow];have:u% 128*2 ^ (7*i)<=127*2 ^ (7*i):=R4 _ (by omega);omega
   have hc:u% 128*2 ^ (7*i)<=u*2 ^ (7*i):=R4 _ (Nat.mod_le _ _)
   have h1:e7 (pre++(UInt8.ofNat (u% 128+128)::(vb f (u/ 128)++r))) (s1:Int) (i:Int)=some (.inl (((s1+u% 128*2 ^ (7*i):Nat):Int),((i+1:Nat):Int))):=by subst hp;unfold e7;rw[if_pos (hd _ pre _ _ J (by omega)),Gr,RF,hb,C5 ⟨u% 128+128,by omega⟩];simp only;rw[show(u% 128+128)% 128=u% 128 by omega,hx6 _ (u% 128) s1 u (by omega) (by omega) (Nat.mod_le _ _) hv,RF,RF,hb,if_neg (by simp;omega),bf (by omega),vI _ _ (by omega) (by omega),FY _ _ _ hs]
   rw[e,aE]
   simp only[h1]
   have:=ih (u/ 128) (i+1) (s1+u% 128*2 ^ (7*i)) (pre++[UInt8.ofNat (u% 128+128)]) r (by simp[hp]) (by omega) hq hlt (by omega)
   simp_all
theorem bS {A B:Type}(y:A)(p:QbQ B)(k:A->QbQ B):b6 (some (.inl y)) p k=k y:=rfl
theorem iY (n:Int)(h:gI n)(r:U UInt8):dQ (num n++r)=some (.inl (n,r)):=by have:=MD 9 (zz n) 0 0 [] r J (by omega) (Sx (zz_lt h) (by decide)) (by decide) (by grind[zz_lt]);simp_all[dQ,num,NH]
section
variable {α:Type}
theorem Cs (e:α->U UInt8)(rd:U UInt8->QbQ ((α×U UInt8)⊕Unit))(ok:α->Prop)(hrd:∀x r,ok x->rd (e x++r)=some (.inl (x,r)))(N:Nat){body:Int×U UInt8×U α->QbQ ((Int×U UInt8×U α)⊕((U α×U UInt8)⊕Unit))}(h1:∀(k:Nat) b acc,k<N->acc.length+1<=1099511627776->IntKind.i64.wrap ((k:Int)+1)=((k+1:Nat):Int)->decide ((k:Int)<(N:Int))=true->body ((k:Int),b,acc)=b6 (rd b) (Option.map Sum.inr (some (.inr ()))) λx=>Option.bind (app acc [x.1]) λy=>some (.inl (((k+1:Nat):Int),x.2,y)))(h2:∀b acc,decide ((N:Int)<(N:Int))=false->body ((N:Int),b,acc)=some (.inr (.inl (acc,b)))):
  ∀(xs:U α) (k:Nat) (acc:U α) (r:U UInt8),k+xs.length=N->acc.length=k->N<=1099511627776->(∀x,x∈xs->ok x)->iter body ((k:Int),xs.flatMap e++r,acc)=some (.inl (acc++xs,r))
 |[],k,acc,r,hk,ha,hN,ho=>by
  grind[aE]
 |x::xs,k,acc,r,hk,ha,hN,ho=>by
  have hk':k+(xs.length+1)=N:=by omega
  rw[aE,h1 k _ acc (by omega) (by omega) (bf (by omega)) (by simp;omega),Sl,RT,hrd x _ (ho x (.head _)),bS,cC (by simp;omega),RF];simp only;rw[Cs e rd ok hrd N h1 h2 xs (k+1) (acc++[x]) r (by omega) (by simp[ha]) hN (λy hy=>ho y (.tail _ hy))];simp
theorem Dn {e:α->U UInt8}(he:∀x,1<=(e x).length):∀l:U α,l.length<=(l.flatMap e).length
 |[]=>by simp
 |x::l=>by have:=he x;have:=Dn he l;grind
theorem pH (e:α->U UInt8)(rd:U UInt8->QbQ ((α×U UInt8)⊕Unit))(ok:α->Prop)(hrd:∀x r,ok x->rd (e x++r)=some (.inl (x,r)))(he:∀x,1<=(e x).length)(l:U α)(hl:short ok l)(r:U UInt8){L:U UInt8->QbQ ((U α×U UInt8)⊕Unit)}{body:(Int×U UInt8)->Int×U UInt8×U α->QbQ ((Int×U UInt8×U α)⊕((U α×U UInt8)⊕Unit))}(hL:∀b,L b=b6 (dQ b) (some (.inr ())) λx2=>(if((decide (x2.1<0))||decide (x2.1> ((x2.2).length:Int)))=true then(some (.inr ()))else iter (body x2) (0,x2.2,[])))(h1:∀(x2:Int×U UInt8) (k:Nat) b acc,decide ((k:Int)<x2.1)=true->IntKind.i64.wrap ((k:Int)+1)=((k+1:Nat):Int)->body x2 ((k:Int),b,acc)=b6 (rd b) (Option.map Sum.inr (some (.inr ()))) λx=>Option.bind (app acc [x.1]) λy=>some (.inl (((k+1:Nat):Int),x.2,y)))(h2:∀(x2:Int×U UInt8) (k:Int) b acc,decide (k<x2.1)=false->body x2 (k,b,acc)=some (.inr (.inl (acc,b)))):L (lst e l++r)=some (.inl (l,r)):=by
 rw[hL]
 unfold lst
 rw[RT,iY _ (od hl.1),bS]
 have:=Dn he l
 rw[if_neg (by grind)]
 have:=Cs e rd ok hrd l.length (body:=body ((l.length:Int),l.flatMap e++r)) (λk b acc _ _ hw hd=>h1 _ k b acc hd hw) (λb acc hd=>h2 _ _ b acc hd) l 0 [] r (by omega) J hl.1 hl.2
 grind
theorem Km (l:U Int)(hl:short gI l)(r:U UInt8):oS (lst num l++r)=some (.inl (l,r)):=
 pH num _ gI (λx r h=>iY x h r) (λx=>(gQ x).2) l hl r (L:=oS) (body:=λx2 ak=>ki x2 ak.1 ak.2.1 ak.2.2) (λb=>J)
  (λx2 k b acc hd hw=>by simp_all[ki]) (λx2 k b acc hd=>by grind[ki])
theorem Kv (x:Item):1<=(bJ x).length:=by grind[gQ,bJ]
theorem Jx (x:Keyed):1<=(gU x).length:=by grind[gQ,gU]
theorem Ja (x:Choice):1<=(cN x).length:=by grind[gQ,cN]
theorem M6 (x:Memory):1<=(dI x).length:=by grind[gQ,dI]
theorem Oh (e:α->U UInt8)(l:U α):1<=(lst e l).length:=by grind[gQ,lst]
theorem Kd (x:Item)(r:U UInt8)(h:dO x):mE (bJ x++r)=some (.inl (x,r)):=by unfold mE bJ;simp only[RT];rw[iY _ h.1,bS,iY _ h.2.1,bS,iY _ h.2.2,bS]
theorem BK (l:U Item)(r:U UInt8)(hl:short dO l):lx (lst bJ l++r)=some (.inl (l,r)):=by
 unfold lx;rw[pH bJ _ dO Kd Kv l hl r (L:=ra) (body:=λx2 ak=>ke x2 ak.1 ak.2.1 ak.2.2) (λb=>J)
  (λx2 k b acc hd hw=>by simp_all[ke]) (λx2 k b acc hd=>by grind[ke]),bS]
theorem Kb (l:U (U Item))(hl:short (short dO) l)(r:U UInt8):oR (lst (lst bJ) l++r)=some (.inl (l,r)):=
 pH (lst bJ) _ (short dO) BK (Oh _) l hl r (L:=oR) (body:=λx2 ak=>kg x2 ak.1 ak.2.1 ak.2.2) (λb=>J)
  (λx2 k b acc hd hw=>by simp_all[kg]) (λx2 k b acc hd=>by grind[kg])
theorem JF (x:Keyed)(r:U UInt8)(h:mf x):mM (gU x++r)=some (.inl (x,r)):=by unfold mM gU;simp only[RT];rw[iY _ h.1,bS,iY _ h.2,bS]
theorem KU (l:U Keyed)(hl:short mf l)(r:U UInt8):oM (lst gU l++r)=some (.inl (l,r)):=
 pH gU _ mf JF Jx l hl r (L:=oM) (body:=λx2 ak=>kb x2 ak.1 ak.2.1 ak.2.2) (λb=>J)
  (λx2 k b acc hd hw=>by simp_all[kb]) (λx2 k b acc hd=>by grind[kb])
theorem MN (x:Memory)(r:U UInt8)(h:sMem x):mU (dI x++r)=some (.inl (x,r)):=by unfold mU dI;simp only[RT];rw[iY _ h.1,bS,iY _ h.2.1,bS,KU _ h.2.2,bS]
theorem Lu (l:U Memory)(hl:short sMem l)(r:U UInt8):oL (lst dI l++r)=some (.inl (l,r)):=
 pH dI _ sMem MN M6 l hl r (L:=oL) (body:=λx2 ak=>j9 x2 ak.1 ak.2.1 ak.2.2) (λb=>J)
  (λx2 k b acc hd hw=>by simp_all[j9]) (λx2 k b acc hd=>by grind[j9])
theorem Jd (x:Choice)(r:U UInt8)(h:l6 x):mS (cN x++r)=some (.inl (x,r)):=by unfold mS cN;simp only[RT];rw[iY _ h.1,bS,iY _ h.2,bS]
theorem IT (l:U Choice)(hl:short l6 l)(r:U UInt8):oK (lst cN l++r)=some (.inl (l,r)):=
 pH cN _ l6 Jd Ja l hl r (L:=oK) (body:=λx2 ak=>ka x2 ak.1 ak.2.1 ak.2.2) (λb=>J)
  (λx2 k b acc hd hw=>by simp_all[ka]) (λx2 k b acc hd=>by grind[ka])
theorem Of_eq (n:Net)(items:U (U Item))(s:State)(hs:jO s)(hB:(bb s).length<=BB)(h0:lL n items=some 0)(h1:iw n items s=some 0):iD n items (bb s)=some (s,0):=by have hw:=Dy n items s hs hB;obtain⟨g1,g2,g3,g4,g5⟩:=hs;have e5:=BK s.Out [] g5;rw[Sg]at e5;unfold iD;rw[h0,RF,if_neg (by decide)];rw[show bb s=lst num s.At++(lst (lst bJ) s.Rings++(lst dI s.Memory++(lst cN s.Choices++lst bJ s.Out)))from J,Km _ g1,bS,Kb _ g2,bS,Lu _ g3,bS,IT _ g4,bS,e5,bS];simp_all[bb]
end
end
section
def okS(s:List UInt8):Prop:=s.length<=64
def okW(w:Write):Prop:=0<=w.At/\w.At<200/\w.Bytes.length<=64
def bN(d:Disk):Prop:=d.Sectors.length<=200/\d.Wait.length<=300/\(∀s,s∈d.Sectors->okS s)/\∀w,w∈d.Wait->okW w
theorem AG {α:Type}{l:U α}{k:Nat}{x y:α}(hx:l[k]?=some x)(h:y∈l.take (k+1)):y∈l.take k∨y=x:=by grind[List.take_add_one]
theorem C7 (d:Disk):∃e,gN d=some e/\(e=0↔bN d):=by
 unfold gN;by_cases h0:d.Sectors.length> 200∨d.Wait.length> 300
 .rw[if_pos (by simp;omega)];grind[bN]
 rw[if_neg (by simp;omega)];refine sP (body:=λbB:Int=>kp d bB) (λs=>∃k:Nat,s=(k:Int)/\k<=d.Sectors.length/\∀x,x∈d.Sectors.take k->okS x) (λs=>d.Sectors.length- s.toNat) (λe=>e=0↔bN d) ?_ d.Sectors.length 0 (by simp) ⟨0,J,by omega,by simp⟩;rintro _ ⟨k,rfl,hk,hP⟩;by_cases hlt:k<d.Sectors.length
 .obtain⟨x,hx⟩:∃x,d.Sectors[k]?=some x:=⟨_,RG hlt⟩
  show(∃s',kp d (k:Int)=_/\_)∨∃r,kp d (k:Int)=_/\_;unfold kp;rw[if_pos (by simp;omega),bv hx,bf (by omega)];simp only[RF];by_cases hs:x.length> 64
  .rw[if_pos (by simp;omega)];refine .inr ⟨2,J,by simp;intro h;have:=h.2.2.1 x (RI hx);grind[okS]⟩
  .rw[if_neg (by simp;omega)];refine .inl ⟨_,J,⟨k+1,J,by omega,λy hy=>?_⟩,by simp;omega⟩;grind[AG,okS]
 .have hk':k=d.Sectors.length:=by omega
  subst hk';rw[SS]at hP;refine .inr ?_;show ∃r,kp d (d.Sectors.length:Int)=_/\_;unfold kp;rw[if_neg (by simp)];obtain⟨r,h1,h2⟩:=sP (body:=λss:Int=>lE d ss) (λs=>∃k:Nat,s=(k:Int)/\k<=d.Wait.length/\∀x,x∈d.Wait.take k->okW x) (λs=>d.Wait.length- s.toNat) (λe=>e=0↔bN d) (by
   rintro _ ⟨k,rfl,hk,hQ⟩;show(∃s',lE d (k:Int)=_/\_)∨∃r,lE d (k:Int)=_/\_;by_cases hlt:k<d.Wait.length
   .obtain⟨x,hx⟩:∃x,d.Wait[k]?=some x:=⟨_,RG hlt⟩
    have hm:=RI hx;unfold lE;rw[if_pos (by simp;omega),bv hx,bf (by omega)];simp only[RF];by_cases hs:x.At<0∨x.At>=200
    .rw[if_pos (by simp;omega)];refine .inr ⟨3,J,by simp;intro h;have:=h.2.2.2 x hm;grind[okW]⟩
    rw[if_neg (by simp;omega)];by_cases hb:x.Bytes.length> 64
    .rw[if_pos (by simp;omega)];refine .inr ⟨2,J,by simp;intro h;have:=h.2.2.2 x hm;grind[okW]⟩
    rw[if_neg (by simp;omega)];refine .inl ⟨_,J,⟨k+1,J,by omega,λy hy=>?_⟩,by simp;omega⟩;grind[AG,okW]
   .have hk':k=d.Wait.length:=by omega
    subst hk';rw[SS]at hQ;refine .inr ?_;unfold lE;rw[if_neg (by simp)];exact⟨0,J,by simp;exact⟨by omega,by omega,hP,hQ⟩⟩) d.Wait.length 0 (by simp) ⟨0,J,by omega,by simp⟩
  simp_all
section
variable {d:Disk}
theorem kJ (h:bN d):gN d=some 0:=by obtain⟨e,h1,h2⟩:=C7 d;grind
def put1(l:List (List UInt8))(w:Write):List (List UInt8):=(l++List.replicate (w.At.toNat+1- l.length) []).set w.At.toNat w.Bytes
def aP(l:List (List UInt8))(ws:List Write):List (List UInt8):=ws.foldl put1 l
theorem Mi (l:U (U UInt8))(w:Write)(hw:okW w)(hl:l.length<=200):(put1 l w).length<=200:=by grind[okW,put1]
theorem MP (l:U (U UInt8))(w:Write)(hw:okW w)(hl:∀s,s∈l->okS s):∀s,s∈put1 l w->okS s:=by
 intro s hs;unfold put1 at hs;rcases SK hs with h|h
 .grind[okS]
 .rw[h];exact hw.2.2
theorem FE:∀(ws:U Write) (l:U (U UInt8)),(∀w,w∈ws->okW w)->l.length<=200->(∀s,s∈l->okS s)->(aP l ws).length<=200/\∀s,s∈aP l ws->okS s
 |[],l,_,h1,h2=>⟨h1,h2⟩
 |w::ws,l,hw,h1,h2=>FE ws (put1 l w) (λx hx=>hw x (by simp[hx])) (Mi l w (hw w (by simp)) h1) (MP l w (hw w (by simp)) h2)
def gt(l:List (List UInt8))(i:Nat):List UInt8:=l.getD i []
theorem No (l:U (U UInt8))(w:Write)(hw:okW w)(i:Nat):gt (put1 l w) i=if w.At=(i:Int)then w.Bytes else gt l i:=by unfold okW at hw;unfold gt put1;simp only[R1,R5];grind
def seen(s:List UInt8)(ws:List Write)(i:Int):List UInt8:=ws.foldl (λs w=>if w.At=i then w.Bytes else s) s
theorem nO:∀(ws:U Write) (l:U (U UInt8)) (i:Nat),(∀w,w∈ws->okW w)->gt (aP l ws) i=seen (gt l i) ws i
 |[],l,i,_=>rfl
 |w::ws,l,i,h=>by show gt (aP (put1 l w) ws) i=seen (if w.At=(i:Int)then w.Bytes else gt l i) ws i;rw[nO ws _ i (λx hx=>h x (by simp[hx])),No l w (h w (by simp))]
theorem Gq (s1:Int)(w:Write)(hw:okW w){body:U (U UInt8)->QbQ (U (U UInt8)⊕((Int×U (U UInt8))⊕U (U UInt8)))}(hb:∀l,body l=(if(decide (((l).length:Int)<=w.At))=true then(Option.bind (app l [[]]) λx6=>(some (.inl x6)))else(Option.map Sum.inr (Option.bind (ixN l w.At) λx7=>(Option.bind ((l)[x7]?) λx8=>(some (.inl (IntKind.i64.wrap (s1+1),(List.set l x7 w.Bytes))))))))):
  ∀(n:Nat) (l:U (U UInt8)),w.At.toNat+1- l.length=n->iter body l=some (.inl (IntKind.i64.wrap (s1+1),put1 l w))
 |0,l,hn=>by
  have hw':=hw;unfold okW at hw';have hi:ixN l w.At=some w.At.toNat:=by grind[cP]
  obtain⟨x,hx⟩:∃x,l[w.At.toNat]?=some x:=⟨_,RG (by omega)⟩
  have e:body l=some (.inr (.inl (IntKind.i64.wrap (s1+1),put1 l w))):=by rw[hb,if_neg (by simp;omega),hi];grind[put1]
  grind[aE]
 |n+1,l,hn=>by
  have hw':=hw;unfold okW at hw';have e:body l=some (.inl (l++[[]])):=by rw[hb,if_pos (by simp;omega),cC (by simp;omega)];rfl
  rw[aE];simp only[e];rw[Gq s1 w hw hb n (l++[[]]) (by simp;omega)];grind[put1]
theorem B0:∀(ws:U Write) (k:Nat) (l:U (U UInt8)),eL (σ:=U (U UInt8)) (λ_ w l=>some (.inl (put1 l w))) (λl=>some l) k ws l=some (aP l ws)
 |[],k,l=>rfl
 |w::ws,k,l=>by unfold eL;exact B0 ws (k+1) (put1 l w)
theorem Pt (ws:U Write)(l:U (U UInt8))(hl:ws.length<=1099511627776)(hw:∀w,w∈ws->okW w):rB ws l=some (aP l ws):=by
 unfold rB;have:=py (σ:=U (U UInt8)) ws hl (λk st=>((k:Int),st)) (body:=λdi:Int×(U (U UInt8))=>mJ ws di.1 di.2)
  (λk w l=>some (.inl (put1 l w))) (λl=>some l) l
  (λk w l hx _ h1 h2 h3=>by show mJ ws (k:Int) l=_;unfold mJ;rw[h2,h1];simp only[if_true,RF];rw[Gq (body:=λdz=>uz (k:Int) w dz) (k:Int) w (hw w (RI hx)) (λl=>J) _ l J,h3])
  (λst h=>by simp[mJ])
 refine Eq.trans this ?_;simp[B0]
theorem yj (l:U (U UInt8))(h:l.length<=1099511627776):mH l=some l:=by grind[mH,cC]
theorem Cm (l:U Write)(h:l.length<=1099511627776):oT l=some l:=by grind[oT,cC]
theorem Gh (h:bN d)(n:Nat)(hn:n<=d.Wait.length):kM d (n:Int)=some (⟨aP d.Sectors (d.Wait.take n),[]⟩,0):=by have hh:=h;unfold bN at hh;unfold kM;rw[kJ h];simp only[RF];rw[if_neg (by simp),if_neg (by simp;omega),yj _ (by omega)];grind[sub_0,Pt]
theorem MG (h:bN d):pu d=some (⟨aP d.Sectors d.Wait,[]⟩,0):=by grind[pu,Gh]
theorem Ef (h:bN d)(i:Int)(b:U UInt8)(h0:0<=i)(h1:i<200)(h2:b.length<=64)(h3:d.Wait.length<300):jD d i b=some (⟨d.Sectors,d.Wait++[⟨i,b⟩]⟩,0):=by have hh:=h;unfold bN at hh;unfold jD;rw[kJ h];simp only[RF];rw[if_neg (by simp),if_neg (by simp;omega),if_neg (by simp;omega),if_neg (by simp;omega),yj _ (by omega)];grind[Cm,cC]
end
end
def okP(p:List UInt8):Prop:=p≠[]/\p.length<=60
theorem nS(p:U UInt8):(frm p).length=p.length+3:=by simp[frm]
theorem B6(p r:U UInt8)(h:okP p):ji (frm p++r)=some p:=by
 obtain⟨h1,h2⟩:=h;have hl:1<=p.length:=by grind
 have hn:(UInt8.ofNat p.length).toNat=p.length:=by simp;omega
 have hc:=yT (UInt8.ofNat p.length::p);generalize hC:crc (UInt8.ofNat p.length::p)=C at hc;have e:frm p++r=UInt8.ofNat p.length::(p++(UInt8.ofNat (C/ 256)::UInt8.ofNat C::r)):=by simp[frm,hC]
 rw[e];simp only[ji,hn];simp_all<;>omega
section
def pay(epoch n:Nat)(b:List UInt8)(k:Nat):List UInt8:=[UInt8.ofNat epoch,UInt8.ofNat k,UInt8.ofNat n]++(if 0<k then(b.take (50*k)).drop (50*(k- 1))else[])
def wOf(slot epoch n:Nat)(b:List UInt8)(k:Nat):Write:=⟨((60*slot+k:Nat):Int),frm (pay epoch n b k)⟩
def wsP(slot epoch n:Nat)(b:List UInt8):Nat->List Write
 |0=>[wOf slot epoch n b 0]
 |k+1=>wOf slot epoch n b (k+1)::wsP slot epoch n b k
theorem FF (slot epoch n:Nat)(b:U UInt8):∀k,(wsP slot epoch n b k).length=k+1
 |0=>rfl
 |k+1=>by simp[wsP,FF slot epoch n b k]
theorem yI (epoch n:Nat)(b:U UInt8)(k:Nat):3<=(pay epoch n b k).length/\(pay epoch n b k).length<=53:=by grind[pay]
theorem Gk (epoch n:Nat)(b:U UInt8)(k:Nat):okP (pay epoch n b k):=by have:=yI epoch n b k;refine⟨λh=>?_,by omega⟩;grind
section
variable {d:Disk}
theorem J9 (h:bN d)(i:Int)(b:U UInt8)(h0:0<=i)(h1:i<200)(h2:b.length<=64)(h3:¬d.Wait.length<300):jD d i b=some (⟨[],[]⟩,8):=by have hh:=h;unfold bN at hh;unfold jD;rw[kJ h];grind
theorem Gw (slot epoch n:Nat)(b:U UInt8)(k:Nat)(hs:slot<=1)(hk:k<60):okW (wOf slot epoch n b k):=by grind[nS,pay,okW,wOf]
theorem D6 {S:U (U UInt8)}{ws:U Write}{w:Write}(h:bN ⟨S,ws⟩)(hw:okW w)(hl:ws.length<300):bN ⟨S,ws++[w]⟩:=by obtain⟨h1,h2,h3,h4⟩:=h;refine⟨h1,by grind,h3,λx hx=>?_⟩;grind
theorem k1_eq (slot epoch n:Nat)(b:U UInt8)(hs:slot<=1)(S:U (U UInt8))(k:Nat)(ws:U Write)(hk:k<60)(h:bN ⟨S,ws⟩):nh (slot:Int) (k:Int) S ws (pay epoch n b k)=some (if ws.length<300 then .inl ((k:Int)- 1,S,ws++[wOf slot epoch n b k])else .inr (⟨[],[]⟩,8)):=by
 have hp:=Gk epoch n b k;have hl:=yI epoch n b k;have hf:=nS (pay epoch n b k);unfold nh;rw[uO,RF];have e1:putFr (pay epoch n b k)=(frm (pay epoch n b k),0):=by unfold putFr;grind
 have e2:IntKind.i64.wrap ((IntKind.i64.wrap ((slot:Int)*60))+(k:Int))=((60*slot+k:Nat):Int):=by grind[bG]
 rw[e1,e2];simp only;by_cases h3:ws.length<300
 .rw[Ef h _ _ (by omega) (by omega) (by omega) h3,RF,if_neg (by simp),if_pos h3,bG (by omega) (by omega)];rfl
 .rw[J9 h _ _ (by omega) (by omega) (by omega) h3,RF,if_pos (by decide),if_neg h3];rfl
theorem l2_eq (slot epoch n:Nat)(b:U UInt8)(hs:slot<=1)(hb:b.length<=1099511627776)(S:U (U UInt8))(k:Nat)(ws:U Write)(hk:k<60)(h:bN ⟨S,ws⟩)(hkb:50*(k- 1)<=b.length):
  pr (slot:Int) (epoch:Int) b (n:Int) (k:Int) S ws=some (if ws.length<300 then .inl ((k:Int)- 1,S,ws++[wOf slot epoch n b k])else .inr (⟨[],[]⟩,8)):=by
 have hstr:ce [IntKind.u8.wrap (epoch:Int),IntKind.u8.wrap (k:Int),IntKind.u8.wrap (n:Int)]=[UInt8.ofNat epoch,UInt8.ofNat k,UInt8.ofNat n]:=by grind[str_1,ce]
 unfold pr
 rw[if_pos (by simp),hstr]
 by_cases h0:0<k
 .rw[if_pos (by simp;omega)]
  have e1:IntKind.i64.wrap ((IntKind.i64.wrap ((k:Int)- 1))*50)=((50*(k- 1):Nat):Int):=by grind[bG]
  have e2:IntKind.i64.wrap ((k:Int)*50)=((50*k:Nat):Int):=by grind[bG]
  have e3:(if(b.length:Int)<((50*k:Nat):Int)then(b.length:Int)else((50*k:Nat):Int))=((min (50*k) b.length:Nat):Int):=by omega
  rw[e1,e2,e3,ql (by omega) (by omega),RF,jR (by simp;omega),RF]
  have e4:[UInt8.ofNat epoch,UInt8.ofNat k,UInt8.ofNat n]++List.drop (50*(k- 1)) (List.take (min (50*k) b.length) b)=pay epoch n b k:=by unfold pay;grind
  grind[k1_eq]
 .rw[if_neg (by simp;omega)]
  have e4:[UInt8.ofNat epoch,UInt8.ofNat k,UInt8.ofNat n]=pay epoch n b k:=by simp_all[pay]
  grind[k1_eq]
theorem LT (slot epoch n:Nat)(b:U UInt8)(hs:slot<=1)(hb:b.length<=1099511627776)(S:U (U UInt8)):∀(k:Nat) (ws:U Write),k<60->bN ⟨S,ws⟩->50*(k- 1)<=b.length ->
  iter (λgY:Int×(U (U UInt8))×(U Write)=>pr (slot:Int) (epoch:Int) b (n:Int) gY.1 gY.2.1 gY.2.2) ((k:Int),S,ws)=some (if ws.length+(k+1)<=300 then(⟨S,ws++wsP slot epoch n b k⟩,0)else(⟨[],[]⟩,8)):=by
 intro k
 induction k with
 | zero=>
  intro ws hk h hkb
  rw[aE]
  simp only[l2_eq slot epoch n b hs hb S 0 ws hk h hkb]
  by_cases h3:ws.length<300
  .rw[if_pos h3,if_pos (by omega)]
   simp only
   rw[aE]
   rfl
  grind
 | succ k ih=>
  intro ws hk h hkb
  rw[aE]
  simp only[l2_eq slot epoch n b hs hb S (k+1) ws hk h hkb]
  by_cases h3:ws.length<300
  .rw[if_pos h3]
   simp only
   rw[show((k+1:Nat):Int)- 1=(k:Int) by omega,ih _ (by omega) (D6 h (Gw slot epoch n b (k+1) hs hk) h3) (by omega)]
   simp only[RN,S4,RT,Ts]
   by_cases h4:ws.length+(k+1+1)<=300
   .rw[if_pos (by omega),if_pos h4];rfl
   grind
  grind
abbrev noD:Disk:=⟨[],[]⟩
theorem P7 (d:Disk)(slot epoch:Int)(b:U UInt8)(hb:b.length<=1099511627776):∃e,gN d=some e/\(e=0↔bN d) /\
  pT d slot epoch b=some (if e≠0 then(noD,e)else if slot<0∨1<slot∨epoch<0∨200<epoch then(noD,3)else if 60<=(b.length+49)/ 50∨300<d.Wait.length+((b.length+49)/ 50+1)then(noD,8)
   else(⟨d.Sectors,d.Wait++wsP slot.toNat epoch.toNat ((b.length+49)/ 50) b ((b.length+49)/ 50)⟩,0)):=by
 obtain⟨e,h1,h2⟩:=C7 d
 refine⟨e,h1,h2,?_⟩
 unfold pT
 rw[h1,RF]
 by_cases he:e=0
 .subst he
  have hok:=h2.1 J
  rw[if_neg (by decide),if_neg (show ¬((0:Int)≠0) by simp)]
  by_cases hr:slot<0∨1<slot∨epoch<0∨200<epoch
  .grind
  .rw[if_neg (by grind),if_neg hr]
   have hq:quo .i64 (IntKind.i64.wrap ((IntKind.i64.wrap ((b.length:Int)+50))- 1)) 50=some (((b.length+49)/ 50:Nat):Int):=by have e0:IntKind.i64.wrap ((b.length:Int)+50)=(b.length:Int)+50:=bG (by omega) (by omega);have e1:IntKind.i64.wrap ((b.length:Int)+50- 1)=(b.length:Int)+50- 1:=bG (by omega) (by omega);rw[e0,e1];unfold quo;rw[if_neg (by decide),show(b.length:Int)+50- 1=((b.length+49:Nat):Int) by omega];grind[bG]
   rw[hq,RF]
   by_cases hn:60<=(b.length+49)/ 50
   .grind
   .rw[if_neg (by grind)]
    obtain⟨sl,rfl⟩:=Sv (show 0<=slot by omega)
    obtain⟨ep,rfl⟩:=Sv (show 0<=epoch by omega)
    have:=LT sl ep ((b.length+49)/ 50) b (by omega) hb d.Sectors ((b.length+49)/ 50) d.Wait (by omega) hok (by omega)
    grind
 grind
def one(s:List UInt8):Option (List UInt8):=
 match(records s.length s).1 with
 |[p]=>if(records s.length s).2=s.length then some p else none
 |_=>none
def secP(s:List UInt8)(k:Nat):Option (List UInt8):=
 match one s with
 |some p=>if 3<=p.length/\(p.getD 1 0).toNat=k then some p else none
 |none=>none
theorem DS {s:U UInt8}{k:Nat}{p:U UInt8}(h:secP s k=some p):3<=p.length/\(p.getD 1 0).toNat=k:=by grind[secP]
theorem Ck (S:U (U UInt8))(W:U Write)(slot k:Nat)(hS:S.length<=200)(hs:∀s,s∈S->okS s)(hsl:slot<=1)(hk:k<=1000):
  oY (k:Int) (slot:Int) S W=some (match secP (gt S (60*slot+k)) k with|some p=>(p,true)|none=>([],false)):=by
 have e2:IntKind.i64.wrap ((IntKind.i64.wrap ((slot:Int)*60))+(k:Int))=((60*slot+k:Nat):Int):=by grind[bG]
 unfold oY
 rw[e2]
 by_cases hi:S.length<=60*slot+k
 .rw[if_pos (by grind)]
  have:gt S (60*slot+k)=[]:=by grind[gt]
  rw[this]
  rfl
 .rw [if_neg (by grind)]
  have hlt:60*slot+k<S.length:=by omega
  have hx:S[60*slot+k]?=some (gt S (60*slot+k)):=by grind[gt]
  have hm:gt S (60*slot+k)∈S:=RI hx
  have h64:(gt S (60*slot+k)).length<=64:=hs _ hm
  rw[bv hx]
  generalize gt S (60*slot+k)=s at hx hm h64
  have hrd:readR s=((records s.length s).1,((records s.length s).2:Int),0):=by unfold readR;grind
  rw[RF,AE,RF,hrd]
  unfold secP one
  rcases hr:records s.length s with⟨l,u⟩
  simp only
  match l with
  |[]=>rfl
  |p::q::l=>
   rfl
  | [p]=>
   have i0:ixN [p] 0=some 0:=rfl
   rw[if_neg (by simp),RF]
   by_cases hu:u=s.length
   .rw[if_neg (by simp[hu]),i0,RF]
    simp only[Tn,RF]
    by_cases hp:3<=p.length
    .rw[if_neg (by grind)]
     obtain⟨a,b,t,rfl⟩:∃a b t,p=a::b::t:=by
      match p,hp with
      |a::b::t,_=>simp
      |[],h=>simp at h
      |[_],h=>simp at h
     have i1:idx (a::b::t) 1=some b:=rfl
     have hb:IntKind.i64.wrap (b.toNat:Int)=(b.toNat:Int):=f9 b
     grind
    grind
   grind
def col(S:List (List UInt8))(slot:Nat)(h:List UInt8):Nat->Nat->List UInt8->Option (List UInt8)
 |0,_,acc=>some acc
 |m+1,k,acc=>
  match secP (gt S (60*slot+k)) k with
  |none=>none
  |some p=>if p.getD 0 0=h.getD 0 0/\p.getD 2 0=h.getD 2 0/\(p.length=53∨(m=0/\3<p.length/\p.length<53))then col S slot h m (k+1) (acc++p.drop 3)else none
def dA(S:List (List UInt8))(slot:Nat):Option (List UInt8×Nat):=
 match secP (gt S (60*slot)) 0 with
 |none=>none
 |some h=>if h.length=3/\(h.getD 0 0).toNat<=200/\(h.getD 2 0).toNat<60 then(col S slot h (h.getD 2 0).toNat 1 []).map λb=>(b,(h.getD 0 0).toNat)else none
theorem MI (hd:bN d)(slot:Nat)(hsl:slot<=1)(h0 h1 h2:UInt8)(hh:h2.toNat<60):∀(m k:Nat) (acc:U UInt8),k+m=h2.toNat+1->1<=k->acc.length<=100*k ->
  iter (λdG:(U UInt8)×Int=>nj d (slot:Int) ([h0,h1,h2],true) dG.1 dG.2) (acc,(k:Int))=some (match col d.Sectors slot [h0,h1,h2] m k acc with|some b=>(b,(h0.toNat:Int),0)|none=>([],0,12)):=by
 have i2:idx [h0,h1,h2] 2=some h2:=rfl
 have i0:idx [h0,h1,h2] 0=some h0:=rfl
 intro m
 induction m with
 |zero=>
  intro k acc hk h1k ha
  rw[aE]
  simp only
  unfold nj
  simp only[i2,RF,f9,i0]
  rw[if_neg (by grind)]
  rfl
 | succ m ih=>
  intro k acc hk h1k ha
  rw[aE]
  simp only
  have step:nj d (slot:Int) ([h0,h1,h2],true) acc (k:Int)=some (match secP (gt d.Sectors (60*slot+k)) k with
    |none=>.inr ([],0,12)
    |some p=>if p.getD 0 0=h0/\p.getD 2 0=h2/\(p.length=53∨(m=0/\3<p.length/\p.length<53))then .inl (acc++p.drop 3,((k+1:Nat):Int))else .inr ([],0,12)):=by
   unfold nj
   simp only[i2,RF,f9,i0]
   rw[if_pos (by grind),Ck d.Sectors d.Wait slot k hd.1 hd.2.2.1 hsl (by omega),RF]
   cases hsec:secP (gt d.Sectors (60*slot+k)) k with
   |none=>
    simp
   | some p=>
    have hp3:=(DS hsec).1
    obtain⟨a,b,c,t,rfl⟩:∃a b c t,p=a::b::c::t:=by
     match p,hp3 with
     |a::b::c::t,_=>simp
     |[],h=>simp at h
     |[_],h=>simp at h
     |[_,_],h=>simp at h
    have j0:idx (a::b::c::t) 0=some a:=rfl
    have j2:idx (a::b::c::t) 2=some c:=rfl
    have jl:(a::b::c::t).length=t.length+3:=by simp
    have js:sub (a::b::c::t) 3 ((a::b::c::t).length:Int)=some t:=by have:=kP (xs:=a::b::c::t) (i:=3) (by omega);exact this
    have ha2:(a.toNat:Int)=(h0.toNat:Int)↔a=h0:=⟨λe=>UInt8.toNat_inj.1 (by omega),λe=>by rw[e]⟩
    have hc2:(c.toNat:Int)=(h2.toNat:Int)↔c=h2:=⟨λe=>UInt8.toNat_inj.1 (by omega),λe=>by rw[e]⟩
    simp only[j0,j2,RF,js]
    rw[show(Bool.not true)=false from J]
    have hw:(if(((a::b::c::t).length:Int)==53)=true then(some true)else if((k:Int)==(h2.toNat:Int))=true then(if(decide (((a::b::c::t).length:Int)> 3))=true then(some (decide (((a::b::c::t).length:Int)<53)))else(some false))else(some false))=some (decide ((a::b::c::t).length=53∨(m=0/\3<(a::b::c::t).length/\(a::b::c::t).length<53))):=by
     generalize (a::b::c::t).length=L;by_cases q1:L=53
     .grind
     .rw[if_neg (by simp;omega)];by_cases q2:(k:Int)=(h2.toNat:Int)
      .rw[if_pos (by grind)];by_cases q3:3<L
       .rw[if_pos (by grind)];congr 1;grind
       grind
      simp_all<;>omega
    rw[hw,RF,if_neg (show ¬(false=true) by decide)]
    by_cases p1:a=h0
    .rw[if_neg (by simp[p1])]
     by_cases p2:c=h2
     .rw[if_neg (by simp[p2]),RF]
      by_cases p3:((a::b::c::t).length=53∨(m=0/\3<(a::b::c::t).length/\(a::b::c::t).length<53))
      .rw[decide_eq_true p3,if_neg (by decide),jR (by omega),RF,bf (by omega),if_pos ⟨p1,p2,p3⟩]
       rfl
      grind
     grind
    grind
  simp only[step]
  unfold col
  cases hsec:secP (gt d.Sectors (60*slot+k)) k with
  |none=>rfl
  | some p=>
   simp only
   by_cases hc:p.getD 0 0=h0/\p.getD 2 0=h2/\(p.length=53∨(m=0/\3<p.length/\p.length<53))
   .have hc':p.getD 0 0=[h0,h1,h2].getD 0 0/\p.getD 2 0=[h0,h1,h2].getD 2 0/\(p.length=53∨(m=0/\3<p.length/\p.length<53)):=hc
    rw[if_pos hc,if_pos hc']
    simp only
    rw[ih (k+1) _ (by omega) (by omega) (by simp_all<;>omega)]
   grind
def getR(S:List (List UInt8))(slot:Nat):List UInt8×Int×Int:=
 match dA S slot with
 |some x=>(x.1,(x.2:Int),0)
 |none=>([],0,12)
theorem PC (hd:bN d)(slot:Nat)(hsl:slot<=1):pR d (slot:Int)=some (getR d.Sectors slot):=by
 unfold pR;rw[kJ hd,RF,if_neg (by decide),if_neg (by grind)];have:=Ck d.Sectors d.Wait slot 0 hd.1 hd.2.2.1 hsl (by omega);rw[Ss,SY]at this;rw[this,RF];unfold getR dA;cases hsec:secP (gt d.Sectors (60*slot)) 0 with
 |none=>rfl
 | some h=>
  simp only;rw[show(Bool.not true)=false from J,if_neg (by decide)];have hp3:=(DS hsec).1;by_cases h3:h.length=3
  .obtain⟨a,b,c,rfl⟩:∃a b c,h=[a,b,c]:=by
    match h,h3 with
    |[a,b,c],_=>simp
   have j0:idx [a,b,c] 0=some a:=rfl;have j2:idx [a,b,c] 2=some c:=rfl;rw[if_neg (by simp)];simp only[j0,j2,RF,f9];by_cases q1:a.toNat<=200
   .rw[if_neg (by grind),RF];by_cases q2:c.toNat<60
    .rw[if_neg (by grind)];have hc:([a,b,c].length=3/\([a,b,c].getD 0 0).toNat<=200/\([a,b,c].getD 2 0).toNat<60):=⟨J,q1,q2⟩
     rw[if_pos hc];have:=MI hd slot hsl a b c q2 c.toNat 1 [] (by omega) (by omega) (by simp);grind
    grind
   grind
  grind
end
end
section
structure SmallS (s:State):Prop where
 a1:s.At.length<=1099511627776
 a2:s.Rings.length<=1099511627776
 a3:s.Memory.length<=1099511627776
 a4:s.Choices.length<=1099511627776
 a5:s.Out.length<=1099511627776
 a6:∀l,l∈s.Rings->l.length<=1099511627776
 a7:∀m,m∈s.Memory->m.Keys.length<=1099511627776
theorem sk{n:Net}{items:U (U Item)}{B:Int}{s:State}(hS:RightS n items)(ok:OkS n items B s):SmallS s:=by
 have h1:=ok.at_;have h2:=ok.rg;have h3:=ok.mm;have h4:=ok.ch;have h5:=ok.out;have h6:=hS.l4;have h7:=hS.r2;have h8:=hS.n2;have h9:=hS.m2;refine⟨by omega,by omega,by omega,by omega,by omega,λl hl=>?_,λm hm=>?_⟩
 .obtain⟨r,hr⟩:=RX hl;have:=ok.room r l hr;omega
 .obtain⟨i,hi⟩:=RX hm;have:=(ok.mem i m hi).1.len;omega
theorem Nh(l:U Memory):∃B:Int,0<=B/\∀m,m∈l->∀y,y∈m.Keys->y.N<=B:=by
 have h1:∀ks:U Keyed,∃B:Int,0<=B/\∀y,y∈ks->y.N<=B:=by
  intro ks;induction ks with
  |nil=>exact⟨0,by omega,λy hy=>by cases hy⟩
  |cons k ks ih=>
   obtain⟨B,h0,hB⟩:=ih;refine⟨B+k.N.natAbs,by omega,λy hy=>?_⟩;grind
 induction l with
 |nil=>exact⟨0,by omega,λm hm=>by cases hm⟩
 |cons m l ih=>
  obtain⟨B,h0,hB⟩:=ih;obtain⟨B',h0',hB'⟩:=h1 m.Keys;refine⟨B+B',by omega,λq hq y hy=>?_⟩;grind
section
variable {n:Net} {items:List (List Item)} {B:Int} {s:State}
theorem FK(h:dJ n items s=0):bt n items=0:=by unfold dJ at h;omega
theorem F5(h:dJ n items s=0):∃B:Int,0<=B/\OkS n items B s:=by obtain⟨B,h0,hB⟩:=Nh s.Memory;exact⟨B,h0,Pu h hB⟩
theorem yd(n:Net)(items:U (U Item))(s:State)(hio:∀x∈n.Nodes,x.In.length<=1099511627776/\x.Out.length<=1099511627776)(hr:∀l,l∈s.Rings->l.length<=1099511627776):fk n items s=some (if dJ n items s≠0 then([],dJ n items s)else(aB n items s,0)):=by
 unfold fk;rw[pO n items s hio hr,RF];by_cases h:dJ n items s=0
 .obtain⟨B,_,ok⟩:=F5 h;rw[if_neg (show ¬(dJ n items s !=0)=true by simp[h]),if_neg (show ¬dJ n items s≠0 by simp[h]),LO (eq (FK h)) ok];rfl
 grind
def gR(n:Net)(m:Move):Prop:=0<=m.Node/\m.Node<n.Nodes.length/\0<=m.Lane/\m.Lane<bD (ab n m.Node.toNat)
instance (n:Net) (m:Move):Decidable (gR n m):=by unfold gR;infer_instance
def canMv(n:Net)(items:List (List Item))(s:State)(m:Move):Bool:=eG n items s m.Node.toNat m.Lane.toNat
theorem Do_eq(n:Net)(items:U (U Item))(s:State)(m:Move)(hio:∀x∈n.Nodes,x.In.length<=1099511627776/\x.Out.length<=1099511627776)(hr:∀l,l∈s.Rings->l.length<=1099511627776):
    fq n items s m=some (if dJ n items s≠0 then(noS,dJ n items s)else if ¬gR n m then(noS,5)else if canMv n items s m=false then(noS,10)else(doMv n items s m,0)):=by
  unfold fq
  rw[pO n items s hio hr,RF]
  by_cases h:dJ n items s=0
  · obtain ⟨B,_,ok⟩:=F5 h
    have hS:=eq (FK h)
    rw[if_neg (show ¬(dJ n items s !=0)=true by simp[h]),if_neg (show ¬dJ n items s≠0 by simp[h])]
    have hb : (if(decide (m.Node<0))=true then(some true)else(if(decide (m.Node>=((n.Nodes).length:Int)))=true then(some true)else(if(decide (m.Lane<0))=true then(some true)else(if(decide (m.Lane> 0))=true then(Option.bind (idx n.Nodes m.Node) λx3=>(if(x3.Kind !=6)=true then(some true)else(Option.bind (idx n.Nodes m.Node) λx4=>(some (decide (m.Lane>=((x4.In).length:Int)))))))else(some false)))))=some (decide (¬gR n m)):=by
      by_cases h1:m.Node<0
      · simp_all[gR]
      · rw[if_neg (by grind)];by_cases h2:m.Node>=(n.Nodes.length:Int)
        · simp_all[gR]
        · rw[if_neg (by grind)];by_cases h3:m.Lane<0
          · simp_all[gR]
          · rw[if_neg (by grind)];have hi:idx n.Nodes m.Node=some (ab n m.Node.toNat):=jg _ (by omega) (by omega);have hlt:m.Node.toNat<n.Nodes.length:=by omega
            by_cases h4:m.Lane> 0
            · rw[if_pos (by grind),hi,RF];by_cases h6:(ab n m.Node.toNat).Kind=6
              · simp_all[bD,gR]
              · rw[if_pos (by grind)];have hl:bD (ab n m.Node.toNat)=1:=by simp_all[bD]
                congr 1;rw[eq_comm,decide_eq_true_eq];unfold gR;omega
            · rw[if_neg (by grind)];have hpos:0<bD (ab n m.Node.toNat):=by
                unfold bD;split
                · rename_i h6;exact hS.in6 _ hlt h6
                · omega
              congr 1;rw[eq_comm,decide_eq_false_iff_not];unfold gR;omega
    rw[hb,RF]
    by_cases hg:gR n m
    · rw[if_neg (by grind),if_neg (by grind)]
      obtain⟨g0,g1,g2,g3⟩:=hg
      have hm:m=⟨(m.Node.toNat:Int),(m.Lane.toNat:Int)⟩:=by cases m;grind
      have hi:m.Node.toNat<n.Nodes.length:=by omega
      have hk:m.Lane.toNat<bD (ab n m.Node.toNat):=by omega
      have hc:nI n items s m=some (canMv n items s m):=by rw[hm];exact GB hS ok hi hk
      rw[hc,RF]
      cases hcm:canMv n items s m with
      |false=>rfl
      | true=>
        rw[if_neg (by simp),if_neg (by simp),yx hS ok,RF]
        have hd:pg n items m s.At s.Rings s.Memory s.Choices s.Out=some ((doMv n items s m).At,(doMv n items s m).Rings,(doMv n items s m).Memory,(doMv n items s m).Choices,(doMv n items s m).Out):=by rw[hm];exact do_eq hS ok hi hk hcm
        rw[hd,RF]
    · rw[if_pos (by grind),if_pos (by omega)];rfl
  · rw[if_pos (show(dJ n items s !=0)=true by simpa using h),if_pos h];rfl
theorem Lm{m:Move}(hm:m∈aB n items s):gR n m/\canMv n items s m=true:=by obtain⟨i,k,rfl,hi,hk,hc⟩:=hU hm;exact⟨⟨by simp,by grind,by simp,by grind⟩,hc⟩
theorem vG(hsrc:bt n items=0)(ok:OkS n items B s){m:Move}(hm:m∈aB n items s)(hio:∀x∈n.Nodes,x.In.length<=1099511627776/\x.Out.length<=1099511627776):fq n items s m=some (doMv n items s m,0):=by have hS:=eq hsrc;obtain⟨h1,h2⟩:=Lm hm;rw[Do_eq n items s m hio (sk hS ok).a6,if_neg (by grind[k0]),if_neg (by grind),if_neg (by simp[h2])]
end
end
section
section
variable {α:Type}{s:State}
theorem oh {e:α->U UInt8}{m:α->Nat}(h:∀x,(e x).length<=10*m x)(l:U α):(lst e l).length<=10*mL m l:=by
 have key:∀l:U α,(l.flatMap e).length<=10*(l.map m).sum:=by
  intro l;induction l with
  |nil=>simp
  |cons x l ih=>
   grind
 grind[gQ,lst,mL]
theorem DU (x:Item):(bJ x).length<=10*dF x:=by grind[gQ,bJ,dF]
theorem KH (x:Keyed):(gU x).length<=10*kV x:=by grind[gQ,gU,kV]
theorem Jq (x:Choice):(cN x).length<=10*iZ x:=by grind[gQ,cN,iZ]
theorem ND (x:Memory):(dI x).length<=10*ib x:=by have:=(gQ x.Sum).1;have:=(gQ x.Dep).1;have:=oh KH x.Keys;grind[dI,ib]
theorem Cg (s:State):(bb s).length<=10*nY s:=by have:=oh (e:=num) (m:=mI) (λx=>by simp[gQ,mI]) s.At;have:=oh (oh DU) s.Rings;have:=oh ND s.Memory;have:=oh Jq s.Choices;have:=oh DU s.Out;grind[bb,nY]
theorem Gj (m:α->Nat)(l:U α):1<=mL m l:=by unfold mL;omega
theorem Lt (g:yR s)(h:nY s<=1048576):jO s/\(bb s).length<=BB:=by
 obtain⟨g1,g2,g3,g4,g5⟩:=g;have e1:s.At.length<=mL mI s.At:=kX (λ_=>by unfold mI;omega) _;have e2:s.Rings.length<=mL (mL dF) s.Rings:=kX (λl=>Gj _ _) _;have e3:s.Memory.length<=mL ib s.Memory:=kX (λ_=>by simp[ib]) _;have e4:s.Choices.length<=mL iZ s.Choices:=kX (λ_=>by simp[iZ]) _;have e5:s.Out.length<=mL dF s.Out:=kX (λ_=>by unfold dF;omega) _;have hm:mL mI s.At+mL (mL dF) s.Rings+mL ib s.Memory+mL iZ s.Choices+mL dF s.Out<=1048576:=h;refine⟨⟨⟨by omega,g1⟩,⟨by omega,λl hl=>⟨?_,g2 l hl⟩⟩,⟨by omega,λx hx=>⟨(g3 x hx).1,(g3 x hx).2.2,?_,(g3 x hx).2.1⟩⟩,⟨by omega,g4⟩,⟨by omega,g5⟩⟩,?_⟩
 .grind[dF,kX,wy]
 .grind[kV,kX,wy,ib]
 .have:=Cg s;grind
theorem DF (h:jO s):SmallS s:=⟨h.1.1,h.2.1.1,h.2.2.1.1,h.2.2.2.1.1,h.2.2.2.2.1,λl hl=>(h.2.1.2 l hl).1,λm hm=>(h.2.2.1.2 m hm).2.2.1⟩
theorem Nm {n:Net}(h:mNet n<=1048576):∀x∈n.Nodes,x.In.length<=1099511627776/\x.Out.length<=1099511627776:=λx hx=>by grind[wy,mNode,mNet,mI,kX]
end
section
variable {n:Net} (items:List (List Item)) (s:State) (hio:∀x∈n.Nodes,x.In.length≤1099511627776∧x.Out.length≤1099511627776) (hs:jO s) (hB:(bb s).length≤BB)
include hio hs hB
theorem Fe:ky n items s=some (if dJ n items s≠0 then([],dJ n items s)else(bb s,0)):=by rw[Dy n items s hs hB,pO n items s hio (DF hs).a6,RF];grind
end
def s0:State:=⟨[1,1],[[],[⟨2,2,0⟩],[⟨1,1,1⟩]],[⟨0,[],0⟩,⟨0,[],0⟩,⟨0,[],0⟩,⟨0,[],0⟩],[⟨2,0⟩],[]⟩
theorem Oq:bN noD:=⟨by decide,by decide,λs h=>(Sd h).elim,λs h=>(Sd h).elim⟩
end
section
def kvI(x:Item):Prop:=gI x.Key/\gI x.Val
def kvM(m:Memory):Prop:=gI m.Sum/\∀y,y∈m.Keys->gI y.Key
structure KV (s:State):Prop where
 rg:∀l,l∈s.Rings->∀x,x∈l->kvI x
 out:∀x,x∈s.Out->kvI x
 mm:∀m,m∈s.Memory->kvM m
theorem vV (z:Int):gI (IntKind.i64.wrap z):=by grind[gI,IntKind.wrap,IntKind.signed,IntKind.bits]
section
variable {key:Int}{l:U Keyed}{n:Net}{items:U (U Item)}{s:State}
theorem N5 (hk:gI key)(hl:∀y,y∈l->gI y.Key):(∀y,y∈(newK key l).1->gI y.Key)/\gI (newK key l).2:=by grind[newK,gI]
theorem P8 (hk:gI key)(hl:∀y,y∈l->gI y.Key):(∀y,y∈(cntP key l).1->gI y.Key)/\gI (cntP key l).2:=by grind[cntP,vV,N5]
theorem Pp (f:Int)(x:Item):gI (mapP f x):=by grind[mapP,vV]
theorem Pb {k f:Int}{m:Memory}{x:Item}(hm:kvM m)(hx:kvI x):kvM (cJ k f m x).1/\kvI (cJ k f m x).2:=by
 unfold cJ;split
 .exact⟨hm,hx.1,Pp f x⟩
 split
 .exact⟨⟨vV _,hm.2⟩,hx.1,vV _⟩
 split
 .obtain⟨h1,h2⟩:=P8 hx.1 hm.2;exact⟨⟨hm.1,h1⟩,hx.1,h2⟩
 grind
theorem F7 {y:Item}(hy:kvI y):∀(l:U Int) (R:U (U Item)),(∀q,q∈R->∀x,x∈q->kvI x)->∀q,q∈dH y l R->∀x,x∈q->kvI x
 |[],R,h=>h
 |r::l,R,h=>by
  show ∀q,q∈dH y l (R.set r.toNat (R.getD r.toNat []++[y]))->_;refine F7 hy l _ λq hq x hx=>?_
  grind
theorem kv_do (hi:gL (gL dO) items)(h:KV s)(i k:Nat):KV (doM n items s i k):=by
 unfold doM;cases hh:dy n items s i k with
 |none=>exact h
 | some it=>
  have hx:kvI it:=by
   unfold dy at hh;split at hh
   .have h1:=RI hh;rw[R1]at h1;cases e:items[(ab n i).A.toNat]? with
    |none=>grind
    |some z=>
     rw[e]at h1;have:=hi z (RI e) it h1;exact⟨this.1,this.2.1⟩
   .have h1:=List.mem_of_mem_head? hh;rw[R1]at h1;cases e:s.Rings[bA (ab n i) k]? with
    |none=>grind
    |some z=>rw[e]at h1;exact h.rg z (RI e) it h1
  have hm:kvM (memN s i):=by
   unfold memN;rw[R1];cases e:s.Memory[i]? with
   |none=>exact⟨by simp[gI],λy hy=>by cases hy⟩
   |some z=>exact h.mm z (RI e)
  have hc:kvI (chD (ab n i) s it):=by unfold chD;split;all_goals assumption
  obtain⟨h1,h2⟩:=Pb (k:=(ab n i).Kind) (f:=(ab n i).A) hm hc;refine⟨?_,λx hx=>?_,λm hm=>?_⟩
  .refine F7 h2 _ _ λq hq x hx=>?_
   split at hq
   .exact h.rg q hq x hx
   .rcases SK hq with hq|hq
    .exact h.rg q hq x hx
    .rw[hq]at hx;have hx:=List.mem_of_mem_tail hx;rw[R1]at hx;cases e:s.Rings[bA (ab n i) k]? with
     |none=>grind
     |some z=>rw[e]at hx;exact h.rg z (RI e) x hx
  .simp only at hx;split at hx
   .rcases RY.1 hx with hx|hx
    .exact h.out x hx
    .rw[RW.1 hx];exact h2
   .exact h.out x hx
  .rcases SK hm with hm|hm
   .exact h.mm m hm
   .rw[hm];exact h1
theorem pW (n:Net)(items:U (U Item)):KV (aS n items):=by
 refine⟨λl hl x hx=>?_,λx hx=>?_,λm hm=>?_⟩
 .have:=(Ta.1 hl).2;grind
 .cases hx
 .have:=(Ta.1 hm).2;subst this;exact⟨by simp[gI],λy hy=>by cases hy⟩
theorem kv_s (hS:RightS n items)(hI:Inv n items s)(h:KV s):jO s:=by
 obtain⟨B,ok,hB⟩:=hI;have h2:=hS.n2;have h3:=hS.r2;have h4:=hS.l4;have hrg:=ok.rg;have hmm:=ok.mm;have hat:=ok.at_;have hch:=ok.ch;have hou:=ok.out;have hg:∀z:Int,0<=z->z<=1000000000000000000->gI z:=λz h1 h2=>by unfold gI;omega
 have hdep:∀x:Item,kvI x->0<=x.Dep->x.Dep<=s.Choices.length->dO x:=λx h1 h2 h3=>⟨h1.1,h1.2,hg _ h2 (by omega)⟩
 refine⟨⟨by omega,λp hp=>?_⟩,⟨by omega,λl hl=>?_⟩,⟨by omega,λm hm=>?_⟩,⟨by omega,λc hc=>?_⟩,⟨by omega,λx hx=>?_⟩⟩
 .obtain⟨a,ha⟩:=RX hp;have h5:=ok.atP a p ha;refine hg p h5.1 ?_;have:(items.getD a []).length<=20:=by
   rw[R1];cases e:items[a]? with
   |none=>simp
   |some z=>exact hS.l20 a z e
  omega
 .obtain⟨r,hr⟩:=RX hl;have:=ok.room r l hr;have:=hS.m2;exact⟨by omega,λx hx=>hdep x (h.rg l hl x hx) (ok.depR r l x hr hx).1 (ok.depR r l x hr hx).2⟩
 .obtain⟨i,hi⟩:=RX hm;obtain⟨o1,o2,o3⟩:=ok.mem i m hi;have hk:=h.mm m hm;refine⟨hk.1,hg _ o1.dep (by omega),by have:=o1.len;omega,λy hy=>⟨hk.2 y hy,?_⟩⟩;have:=o3 y hy;have:=o1.n y hy;grind
 .have:=ok.cho c hc;unfold vH at this;have hin:(ab n c.Node.toNat).In.length<=1000:=by
   have:=xC (hS.ndI c.Node.toNat (by omega)) (hS.inR c.Node.toNat (by omega)) hS.r1;omega
  exact⟨hg _ (by omega) (by omega),hg _ (by omega) (by omega)⟩
 .exact hdep x (h.out x hx) (ok.depO x hx).1 (ok.depO x hx).2
end
end
section
def fN(n:Net)(c:Choice)(m:Move):Bool:=!decide ((ab n m.Node.toNat).Kind=6)||(decide (m.Node=c.Node)&&decide (m.Lane=c.Lane))
def repM(n:Net)(items:List (List Item)):Nat->State->List Choice->Option (State×Int)
 |_,s,[]=>some (s,0)
 |0,s,_::_=>none
 |f+1,s,c::l=>
  match(aB n items s).find? (fN n c)with
  |none=>some (noS,11)
  |some m=>repM n items f (doMv n items s m) (if(ab n m.Node.toNat).Kind=6 then l else c::l)
section
variable {n:Net} {items:List (List Item)}
theorem yU{s:State}{m:Move}(h:m∈aB n items s):(doMv n items s m).Choices=if(ab n m.Node.toNat).Kind=6 then s.Choices++[⟨m.Node,m.Lane⟩]else s.Choices:=by grind[hU,nK,doMv,doM]
theorem yX(hS:RightS n items)(hi:gL (gL dO) items):∀(f:Nat) (s:State) (l:U Choice),Inv n items s->KV s->muN n items s<f ->
  ∃r,repM n items f s l=some r/\(r.2=0->Inv n items r.1/\KV r.1/\r.1.Choices=s.Choices++l)/\(r.2≠0->r=(noS,11))
 |f,s,[],hI,hk,hf=>⟨(s,0),by cases f<;>rfl,λ_=>⟨hI,hk,by simp⟩,λh=>absurd rfl h⟩
 |0,s,c::l,hI,hk,hf=>by omega
 | f+1,s,c::l,hI,hk,hf=>by
  unfold repM;cases hm:(aB n items s).find? (fN n c)with
  |none=>simp
  |some m=>
   have hmem:=SM hm;obtain⟨h1,h2⟩:=hI.doMv hS hmem;have hk':KV (doMv n items s m):=kv_do hi hk _ _;have hch:=yU hmem;obtain⟨r,e1,e2,e3⟩:=yX hS hi f (doMv n items s m) (if(ab n m.Node.toNat).Kind=6 then l else c::l) h1 hk' (by omega);refine⟨r,e1,λh0=>?_,e3⟩;obtain⟨g1,g2,g3⟩:=e2 h0;refine⟨g1,g2,?_⟩;rw[g3,hch];by_cases h6:(ab n m.Node.toNat).Kind=6
   .rw[if_pos h6,if_pos h6];have hb:=List.find?_some hm;simp_all[fN]
   grind
end
end
section
theorem NP(p:U UInt8)(h:okP p):one (frm p)=some p:=by
 have h1:=B6 p [] h;rw[Sg]at h1;have h2:=nS p;have h3:records (frm p).length (frm p)=([p],p.length+3):=by
  rw[h2];unfold records;rw[h1];have h4:(frm p).drop (p.length+3)=[]:=by grind
  have h5:∀m,records m []=([],0):=λm=>by cases m<;>rfl
  grind
 simp_all[one]
theorem Fo(epoch n:Nat)(b:U UInt8)(k:Nat)(hk:k<60):secP (frm (pay epoch n b k)) k=some (pay epoch n b k):=by
 have h1:=yI epoch n b k;unfold secP;rw[NP _ (Gk epoch n b k)];simp only;have h2:((pay epoch n b k).getD 1 0).toNat=k:=by unfold pay;simp;omega
 grind
theorem sE:∀(ws:U Write) (s:U UInt8) (i:Int),(∀w,w∈ws->w.At≠i)->seen s ws i=s
 |[],s,i,h=>rfl
 |w::ws,s,i,h=>by show seen (if w.At=i then w.Bytes else s) ws i=s;rw[if_neg (h w (.head _))];exact sE ws s i λx hx=>h x (.tail _ hx)
theorem Fq:∀(ws:U Write) (s:U UInt8) (i:Int),seen s ws i=s∨∃w,w∈ws/\w.At=i/\seen s ws i=w.Bytes
 |[],s,i=>.inl J
 |w::ws,s,i=>by
  have e:seen s (w::ws) i=seen (if w.At=i then w.Bytes else s) ws i:=rfl;rw[e];rcases Fq ws (if w.At=i then w.Bytes else s) i with h|⟨x,hx,h1,h2⟩
  all_goals grind
section
variable (slot epoch n:Nat) (b:List UInt8)
theorem wd:∀(K:Nat) (w:Write),w∈wsP slot epoch n b K->∃k,k<=K/\w=wOf slot epoch n b k
 |0,w,h=>⟨0,RJ _,by simpa [wsP]using h⟩
 |K+1,w,h=>by
  rcases Sa.1 h with h|h
  .grind
  .obtain⟨k,h1,h2⟩:=wd K w h;grind
theorem Ea:∀(K m:Nat) (w:Write),m<=K->w∈(wsP slot epoch n b K).take m->∃k,1<=k/\k<=K/\w=wOf slot epoch n b k
 |K,0,w,hm,h=>by simp at h
 |0,m+1,w,hm,h=>by omega
 |K+1,m+1,w,hm,h=>by
  rw[show wsP slot epoch n b (K+1)=wOf slot epoch n b (K+1)::wsP slot epoch n b K from J,List.take_succ_cons]at h;rcases Sa.1 h with h|h
  .grind
  .obtain⟨k,h1,h2,h3⟩:=Ea K m w (by omega) h;grind
theorem Er:∀(K k:Nat) (s:U UInt8),k<=K->seen s (wsP slot epoch n b K) ((60*slot+k:Nat):Int)=frm (pay epoch n b k)
 |0,k,s,h=>by
  have:k=0:=by omega
  subst this;show(if(wOf slot epoch n b 0).At=((60*slot+0:Nat):Int)then(wOf slot epoch n b 0).Bytes else s)=_;simp[wOf]
 | K+1,k,s,h=>by
  show seen (if(wOf slot epoch n b (K+1)).At=((60*slot+k:Nat):Int)then(wOf slot epoch n b (K+1)).Bytes else s) (wsP slot epoch n b K) ((60*slot+k:Nat):Int)=_;by_cases hk:k=K+1
  .subst hk;rw[if_pos (show(wOf slot epoch n b (K+1)).At=((60*slot+(K+1):Nat):Int)from J),sE _ _ _ λw hw=>?_]
   .rfl
   .obtain⟨j,h1,rfl⟩:=wd slot epoch n b K w hw;show((60*slot+j:Nat):Int)≠_;omega
  .exact Er K k _ (by omega)
theorem NS(hs:slot<=1){K:Nat}(hK:K<60):∀w,w∈wsP slot epoch n b K->okW w:=λw hw=>by grind[wd,Gw]
end
theorem uV{A B:U (U UInt8)}{slot:Nat}(h:∀k,k<60->gt A (60*slot+k)=gt B (60*slot+k)):dA A slot=dA B slot:=by
 have h0:=h 0 (by omega);rw[SY]at h0;have key:∀(hd:U UInt8) (m k:Nat) (acc:U UInt8),k+m<=60->col A slot hd m k acc=col B slot hd m k acc:=by
  intro hd m;induction m with
  |zero=>intro k acc _;rfl
  |succ m ih=>
   grind[col]
 grind[dA]
theorem KI{S:U (U UInt8)}{slot epoch n:Nat}{b:U UInt8}(he:epoch<=200)(hn:n=(b.length+49)/ 50)(h60:n<60)(h:∀k,k<=n->gt S (60*slot+k)=frm (pay epoch n b k)):dA S slot=some (b,epoch):=by
 have h0:=h 0 (by omega);rw[SY]at h0;have hp0:pay epoch n b 0=[UInt8.ofNat epoch,UInt8.ofNat 0,UInt8.ofNat n]:=by rfl
 have e1:(UInt8.ofNat epoch).toNat=epoch:=by simp;omega
 have e2:(UInt8.ofNat n).toNat=n:=by simp;omega
 have key:∀(m k:Nat) (acc:U UInt8),k+m=n+1->1<=k->acc=b.take (50*(k- 1))->col S slot [UInt8.ofNat epoch,UInt8.ofNat 0,UInt8.ofNat n] m k acc=some b:=by
  intro m;induction m with
  |zero=>
   intro k acc hk h1 ha;show some acc=some b;grind[List.take_of_length_le]
  |succ m ih=>
   intro k acc hk h1 ha;unfold col;rw[h k (by omega),Fo epoch n b k (by omega)];simp only;have hp:pay epoch n b k=[UInt8.ofNat epoch,UInt8.ofNat k,UInt8.ofNat n]++(b.take (50*k)).drop (50*(k- 1)):=by simp_all[pay]
   have hl:(pay epoch n b k).length=3+(min (50*k) b.length- 50*(k- 1)):=by grind
   have hd:(pay epoch n b k).drop 3=(b.take (50*k)).drop (50*(k- 1)):=by rw[hp];rfl
   have g0:(pay epoch n b k).getD 0 0=UInt8.ofNat epoch:=by rw[hp];rfl
   have g2:(pay epoch n b k).getD 2 0=UInt8.ofNat n:=by rw[hp];rfl
   rw[if_pos ⟨g0,g2,by omega⟩];refine ih (k+1) _ (by omega) (by omega) ?_;rw[hd,ha];have:b.take (50*(k- 1))=(b.take (50*k)).take (50*(k- 1)):=by grind
   simp_all
 unfold dA;rw[h0,Fo epoch n b 0 (by omega),hp0];grind
end
def okC(c:Choice):Prop:=0<=c.Node/\c.Node<12/\0<=c.Lane/\c.Lane<16
instance (c:Choice):Decidable (okC c):=by unfold okC;infer_instance
def fO(c:Choice):List UInt8:=[UInt8.ofNat c.Node.toNat,UInt8.ofNat c.Lane.toNat]
def numsC(c:Choice):List Int:=[c.Node,c.Lane]
def dD(l:List Choice):List UInt8×Int:=if 30<l.length then([],2)else if ∀c,c∈l->okC c then(l.flatMap fO,0)else([],3)
theorem PT(c:Choice):((decide (c.Node<0))||((decide (c.Node>=12))||((decide (c.Lane<0))||decide (c.Lane>=16))))=!decide (okC c):=by grind[okC]
theorem C2{n:Int}(h0:0<=n)(h1:n<256):IntKind.u8.wrap n=n:=by
 have:n=((n.toNat:Nat):Int):=by omega
 grind[wj]
theorem Pk(l:U Choice)(h:∀c,c∈l->okC c):ce (l.flatMap numsC)=l.flatMap fO:=by
 induction l with
 |nil=>rfl
 |cons c l ih=>
  grind[ce,numsC,fO]
theorem uE(l:U Choice):rE l=some (dD l):=by
 unfold rE dD;by_cases h1:30<l.length
 .grind
 rw[if_neg (by simp;omega),if_neg h1];have:=py (σ:=U Int) l (by omega) (λk st=>((k:Int),st)) (body:=λss:Int×U Int=>mQ l ss.1 ss.2)
  (λk c st=>if okC c then(app st (numsC c)).map .inl else some (.inr ([],3))) (λst=>some (ce st,0)) []
  (λk c st _ _ h1 h2 h3=>by
   show mQ l (k:Int) st=_;unfold mQ;rw[h2,h1,h3];simp only[if_true,RF,PT];by_cases hc:okC c
   .have hn:=hc;unfold okC at hn;rw[if_neg (by simp[hc]),if_pos hc,C2 (by omega) (by omega),C2 (by omega) (by omega)];grind[app,numsC]
   grind)
  (λst h=>by simp[mQ])
 refine Eq.trans this ?_;have fold:∀(ys:U Choice) (k:Nat) (st:U Int),st.length+2*ys.length<=1099511627776 ->
   eL (σ:=U Int) (λk c st=>if okC c then(app st (numsC c)).map .inl else some (.inr ([],3))) (λst=>some (ce st,0)) k ys st=some (if ∀c,c∈ys->okC c then(ce (st++ys.flatMap numsC),(0:Int))else([],3)):=by
  intro ys
  induction ys with
  |nil=>simp[eL]
  | cons y ys ih=>
   intro k st hl
   simp only[R8]at hl
   unfold eL
   by_cases hy:okC y
   .rw[if_pos hy,cC (by simp[numsC];omega)]
    simp only[SJ]
    rw[ih (k+1) _ (by simp[numsC];omega)]
    grind
   grind
 rw[fold l 0 [] (by simp;omega)];by_cases hall:∀c,c∈l->okC c;all_goals (simp_all[Pk])
def fu:List UInt8->Option (List Choice)
 |[]=>some []
 |[_]=>none
 |a::b::r=>if a.toNat<12/\b.toNat<16 then(fu r).map λl=>⟨a.toNat,b.toNat⟩::l else none
theorem Cr:∀(b:U UInt8) (l:U Choice),fu b=some l->2*l.length=b.length
 |[],l,h=>by grind[fu]
 |[_],l,h=>by grind[fu]
 | a::b::r,l,h=>by
  unfold fu at h;split at h
  .cases hr:fu r with
   |none=>grind
   |some q=>
    rw[hr]at h;cases h;have:=Cr r q hr;simp;omega
  .cases h
theorem BT:∀(b:U UInt8),b.length% 2=1->fu b=none
 |[],h=>by simp at h
 |[_],_=>rfl
 |a::b::r,h=>by unfold fu;rw[BT r (by grind)];split<;>rfl
def lU(b:List UInt8):List Choice×Int:=if 60<b.length then([],2)else match fu b with|none=>([],12)|some l=>(l,0)
theorem HU(b:U UInt8):ro b=some (lU b):=by
 unfold ro lU;by_cases h1:60<b.length
 .grind
 rw[if_neg (by simp;omega),if_neg h1];have hrem:rem (b.length:Int) 2=some ((b.length% 2:Nat):Int):=by rfl
 rw[hrem];simp only[RF];by_cases h2:b.length% 2=1
 .simp_all[BT]
 rw [if_neg (by simp;omega)];have key:∀(n k:Nat) (acc:U Choice),k+2*n=b.length->acc.length<=k ->
   iter (λss:Int×U Choice=>kj b ss.1 ss.2) ((k:Int),acc)=some (match fu (b.drop k)with|none=>([],12)|some l=>(acc++l,0)):=by
  intro n
  induction n with
  |zero=>
   simp_all[kj,aE,fu]
  | succ n ih=>
   intro k acc hk ha
   have hlt:k<b.length:=by omega
   have hlt2:k+1<b.length:=by omega
   have hd:b.drop k=b[k]::b[k+1]::b.drop (k+2):=by simp
   have hx:=bv (RG hlt)
   have hy:=bv (RG hlt2)
   generalize b[k]=x at hd hx
   generalize b[k+1]=y at hd hy
   have w1:=bf (k:=k) (by omega)
   have w2:IntKind.i64.wrap ((k:Int)+2)=((k+2:Nat):Int):=by grind[bG]
   rw[hd]
   unfold fu
   by_cases hc:x.toNat<12/\y.toNat<16
   .have e:kj b (k:Int) acc=some (.inl (((k+2:Nat):Int),acc++[⟨x.toNat,y.toNat⟩])):=by
     unfold kj;rw[if_pos (by simp;omega),hx,w1];simp only[RF];rw[hy];simp only[RF,f9];rw[if_neg (by simp;omega),cC (by simp;omega)];grind
    rw[aE];simp only[e]
    rw[ih (k+2) _ (by omega) (by simp;omega),if_pos hc]
    grind
   .have e:kj b (k:Int) acc=some (.inr ([],12)):=by
     unfold kj;rw[if_pos (by simp;omega),hx,w1];simp only[RF];rw[hy];simp only[RF,f9];grind
    rw[aE];grind
 have:=key (b.length/ 2) 0 [] (by omega) (by simp);grind
theorem AK:∀(l:U Choice),(∀c,c∈l->okC c)->fu (l.flatMap fO)=some l
 |[],_=>rfl
 |c::l,h=>by
  have hc:=h c (by simp);unfold okC at hc;have ih:=AK l (λx hx=>h x (by simp[hx]));simp only[Sl,fO,Tf,SG];unfold fu;have e1:(UInt8.ofNat c.Node.toNat).toNat=c.Node.toNat:=by simp;omega
  have e2:(UInt8.ofNat c.Lane.toNat).toNat=c.Lane.toNat:=by simp;omega
  rw[e1,e2,if_pos (by omega)];have:l.flatMap (λc=>[UInt8.ofNat c.Node.toNat,UInt8.ofNat c.Lane.toNat])=l.flatMap fO:=rfl;rw[show(List.flatMap fO l)=l.flatMap fO from J,ih];simp only[SJ,SV,Tj,and_true];cases c;grind
theorem xy(l:U Choice):(l.flatMap fO).length=2*l.length:=by
 induction l with
 |nil=>rfl
 |cons c l ih=>grind[fO]
def dW(ep:Int)(s:List UInt8):List Choice:=
 match records s.length s with
 |([p],n)=>if n=s.length/\p.head?.map (λc=>(c.toNat:Int))=some ep then(lU p.tail).1 else[]
 |_=>[]
def bj(ep:Int):List (List UInt8)->List Choice×Nat
 |[]=>([],0)
 |s::r=>if dW ep s=[]then([],0)else(dW ep s++(bj ep r).1,1+(bj ep r).2)
theorem MH{b p:U UInt8}(h:ji b=some p):p≠[]/\p.length<=60:=by
 cases b with
 |nil=>cases h
 |cons c t=>
  grind[ji]
theorem A5:∀(n:Nat) (b p:U UInt8),p∈(records n b).1->p≠[]/\p.length<=60
 |0,b,p,h=>by simp[records]at h
 | n+1,b,p,h=>by
  unfold records at h;split at h
  .simp at h
  .rename_i q hq;rcases Sa.1 h with h|h
   .grind[MH]
   .exact A5 n _ p h
theorem BA(ep:Int)(s:U UInt8):
  ((records s.length s).1.length≠1/\dW ep s=[])∨
  ∃c t,(records s.length s).1=[c::t]/\t.length<=59/\(((records s.length s).2≠s.length/\dW ep s=[])∨((records s.length s).2=s.length/\(c.toNat:Int)≠ep/\dW ep s=[])∨((records s.length s).2=s.length/\(c.toNat:Int)=ep/\dW ep s=(lU t).1)):=by
 have hm:=λp=>A5 s.length s p
 unfold dW
 generalize records s.length s=R at hm
 obtain⟨l,n⟩:=R
 match l,hm with
 |[],_=>simp
 |a::b::r,_=>simp
 | [p],hm=>
  have:=hm p (by simp)
  cases p with
  |nil=>grind
  |cons c t=>
   grind
theorem Bo{t:U UInt8}(h:t.length<=59):(lU t).1=(fu t).getD []/\lU t=match fu t with|none=>([],12)|some l=>(l,0):=by
 have e:lU t=match fu t with|none=>([],12)|some l=>(l,0):=by unfold lU;grind
 grind
theorem B8(S:U (U UInt8))(w:U Write)(ep:Int)(k:Nat)(h:∀s,s∈S->okS s):oX (k:Int) S w ep=some (match S[k]? with|some s=>dW ep s|none=>[]):=by
 unfold oX;by_cases hk:S.length<=k
 .grind
 rw[if_neg (by simp;omega)];obtain⟨s,hs⟩:∃s,S[k]?=some s:=⟨_,RG (by omega)⟩
 have hsl:=h s (RI hs);unfold okS at hsl;rw[bv hs];simp only[RF,AE,hs];have hr:readR s=((records s.length s).1,((records s.length s).2:Int),0):=by unfold readR;grind
 rw[hr];simp only;rcases BA ep s with⟨h1,h2⟩|⟨c,t,h1,ht,h3⟩
 .grind
 .rw[h1,if_neg (by simp)];have e0:ixN [c::t] 0=some 0:=cP (xs:=[c::t]) (k:=0) (by simp);have e1:idx (c::t) 0=some c:=by simp[idx]
  have e2:sub (c::t) 1 ((c::t).length:Int)=some t:=by have:=kP (xs:=c::t) (i:=1) (by simp);grind
  rw[e0];simp only[RF,Tn,e1,f9];rcases h3 with⟨h4,h5⟩|⟨h4,h5,h6⟩|⟨h4,h5,h6⟩
  .grind
  all_goals (simp_all[HU])
theorem D2(ep:Int)(s:U UInt8):(dW ep s).length<=30:=by
 rcases BA ep s with⟨h1,h2⟩|⟨c,t,h1,ht,h3⟩
 all_goals (grind[Bo,Cr])
theorem Np{d:Disk}(hd:bN d)(ep:Int)(h0:0<=ep)(h1:ep<=200):pQ d ep=some ((bj ep (d.Sectors.drop 120)).1,((bj ep (d.Sectors.drop 120)).2:Int),0):=by
 have hh:=hd;unfold bN at hh;unfold pQ;rw[kJ hd];simp only[RF];rw[if_neg (by simp),if_neg (by simp;omega)];have r0:=B8 d.Sectors d.Wait ep 120 hd.2.2.1;rw[show((120:Nat):Int)=120 from J]at r0;rw[r0];simp only[RF];have key:∀(n k:Nat) (acc:U Choice),120+k+n=d.Sectors.length∨(n=0/\d.Sectors.length<=120+k/\k<=200)->acc.length<=30*k ->
   iter (λiN:Int×(U Choice)×(U Choice)=>ku d ep iN.1 iN.2.1 iN.2.2) ((k:Int),acc,(match d.Sectors[120+k]? with|some s=>dW ep s|none=>[]))=some (acc++(bj ep (d.Sectors.drop (120+k))).1,((k+(bj ep (d.Sectors.drop (120+k))).2:Nat):Int),0):=by
  intro n
  induction n with
  |zero=>
   intro k acc hk ha
   rw[SF (by omega)]
   have e:ku d ep (k:Int) acc []=some (.inr (acc,(k:Int),0)):=by rfl
   grind[aE,List.drop_of_length_le,bj]
  | succ n ih=>
   intro k acc hk ha
   have hlt:120+k<d.Sectors.length:=by omega
   obtain⟨s,hs⟩:∃s,d.Sectors[120+k]?=some s:=⟨_,RG hlt⟩
   have hdr:d.Sectors.drop (120+k)=s::d.Sectors.drop (120+(k+1)):=by grind[List.drop_eq_getElem_cons]
   rw[hs,hdr]
   simp only
   by_cases hc:dW ep s=[]
   .have e:ku d ep (k:Int) acc (dW ep s)=some (.inr (acc,(k:Int),0)):=by
     simp_all[ku]
    grind[aE,bj]
   .have hlen:=D2 ep s
    have hpos:0<(dW ep s).length:=SX.2 hc
    have r1:=B8 d.Sectors d.Wait ep (120+(k+1)) hd.2.2.1
    have e:ku d ep (k:Int) acc (dW ep s)=some (.inl (((k+1:Nat):Int),acc++dW ep s,(match d.Sectors[120+(k+1)]? with|some s=>dW ep s|none=>[]))):=by unfold ku;rw[if_pos (by simp;omega),cC (by omega),bf (by omega),bG (n:=120+((k+1:Nat):Int)) (by omega) (by omega)];grind
    rw[aE];simp only[e]
    rw[ih (k+1) _ (by omega) (by simp;omega)]
    simp[bj,hc];omega
 by_cases hlong:120<=d.Sectors.length
 .have:=key (d.Sectors.length- 120) 0 [] (.inl (by omega)) (by simp);grind
 .have:=key 0 0 [] (.inr ⟨J,by omega,by omega⟩) (by simp);grind
def bP(ep:Nat)(S:List (List UInt8)):Nat->Nat->List Choice->List Write->Disk×Int×Int
 |0,a,_,w=>(⟨S,w⟩,(a:Int),0)
 |n+1,a,l,w=>
  if l=[]then(⟨S,w⟩,(a:Int),0)
  else if(dD (l.take 29)).2≠0 then(⟨[],[]⟩,0,(dD (l.take 29)).2)
  else if a=80 then(⟨[],[]⟩,0,8)
  else if w.length=300 then(⟨[],[]⟩,0,8)
  else bP ep S n (a+1) (l.drop 29) (w++[⟨((120+a:Nat):Int),frm (UInt8.ofNat ep::(dD (l.take 29)).1)⟩])
theorem A4(l:U Choice)(h:l.length<=29):(dD l).1.length<=58:=by unfold dD;rw[if_neg (by omega)];grind[xy]
theorem MZ(ep:Nat)(hep:ep<=200)(S:U (U UInt8)):∀(n a:Nat) (l:U Choice) (w:U Write),l.length<=n->l.length<=1099511627776->a<=80->bN ⟨S,w⟩ ->
  iter (λoA:Int×(U Choice)×(U (U UInt8))×(U Write)=>gK (ep:Int) oA.1 oA.2.1 oA.2.2.1 oA.2.2.2) ((a:Int),l,S,w)=some (bP ep S n a l w):=by
 intro n
 induction n with
 |zero=>
  intro a l w h hl ha hd
  have hl0:l=[]:=RP (by omega)
  subst hl0
  have e:gK (ep:Int) (a:Int) [] S w=some (.inr (⟨S,w⟩,(a:Int),0)):=by rfl
  rw[aE];rfl
 | succ n ih=>
  intro a l w h hl ha hd
  by_cases hl0:l=[]
  .subst hl0
   simp[gK,aE,bP]
  have hpos:0<l.length:=SX.2 hl0
  have hmin:(if((l).length:Int)<29 then((l).length:Int)else 29)=((min l.length 29:Nat):Int):=by omega
  have htake:l.take (min l.length 29)=l.take 29:=by grind
  have hdrop:l.drop (min l.length 29)=l.drop 29:=by grind
  have s1:sub l 0 ((min l.length 29:Nat):Int)=some (l.take 29):=by grind[sub_0]
  have s2:sub l ((min l.length 29:Nat):Int) (l.length:Int)=some (l.drop 29):=by grind[kP]
  have hcl:=A4 (l.take 29) (by simp;omega)
  unfold bP
  rw[if_neg hl0]
  by_cases hc:(dD (l.take 29)).2≠0
  .have e:gK (ep:Int) (a:Int) l S w=some (.inr (⟨[],[]⟩,0,(dD (l.take 29)).2)):=by
    unfold gK;simp_all[uE]
   rw[aE];grind
  have hput:putFr (UInt8.ofNat ep::(dD (l.take 29)).1)=(frm (UInt8.ofNat ep::(dD (l.take 29)).1),0):=by unfold putFr;grind
  have hfl:(frm (UInt8.ofNat ep::(dD (l.take 29)).1)).length<=62:=by simp[frm];omega
  rw[if_neg hc]
  by_cases ha80:a=80
  .have e:gK (ep:Int) (a:Int) l S w=some (.inr (⟨[],[]⟩,0,8)):=by
    unfold gK;rw[if_pos (by simp;omega),hmin,s1];simp only[RF,uE];rw[if_neg (by grind),str_1,jR (by simp;omega)];simp_all[uO,bG]
   rw[aE];grind
  rw[if_neg ha80]
  have hh:=hd
  unfold bN at hh
  have w120:IntKind.i64.wrap (120+(a:Int))=((120+a:Nat):Int):=by grind[bG]
  by_cases hw:w.length=300
  .have hW:jD ⟨S,w⟩ ((120+a:Nat):Int) (frm (UInt8.ofNat ep::(dD (l.take 29)).1))=some (⟨[],[]⟩,8):=by
    unfold jD;rw[kJ hd];grind
   have e:gK (ep:Int) (a:Int) l S w=some (.inr (⟨[],[]⟩,0,8)):=by unfold gK;rw[if_pos (by simp;omega),hmin,s1];simp only[RF,uE];rw[if_neg (by grind),str_1,jR (by simp;omega)];simp_all[uO]
   rw[aE];grind
  rw[if_neg hw]
  have hW:=Ef hd ((120+a:Nat):Int) (frm (UInt8.ofNat ep::(dD (l.take 29)).1)) (by omega) (by omega) (by omega) (by grind)
  have e:gK (ep:Int) (a:Int) l S w=some (.inl (((a+1:Nat):Int),l.drop 29,S,w++[⟨((120+a:Nat):Int),frm (UInt8.ofNat ep::(dD (l.take 29)).1)⟩])):=by unfold gK;rw[if_pos (by simp;omega),hmin,s1];simp only[RF,uE];rw[if_neg (by grind),str_1,jR (by simp;omega)];simp only[RF,Ts,uO,hput,w120];rw[if_neg (by simp;omega),hW];simp only[RF];rw[if_neg (by simp),s2,bf (by omega)];rfl
  rw[aE];simp only[e]
  refine ih (a+1) (l.drop 29) _ (by simp;omega) (by simp;omega) (by omega) ⟨hh.1,?_,hd.2.2.1,?_⟩
  .grind
  .intro x hx
   rcases RY.1 hx with hx|hx
   .grind
   .simp at hx;subst hx;exact⟨by simp;omega,by simp;omega,by grind⟩
theorem Ly{d:Disk}(hd:bN d)(ep a:Nat)(l:U Choice)(hep:ep<=200)(ha:a<=80)(hl:l.length<=1099511627776):pA d (ep:Int) (a:Int) l=some (bP ep d.Sectors l.length a l d.Wait):=by unfold pA;rw[kJ hd];simp only[RF];rw[if_neg (by simp),if_neg (by simp;omega)];exact MZ ep hep d.Sectors l.length a l d.Wait (RJ _) hl ha hd
def f3:List UInt8:=frm [3,2,1]
theorem Do(ep:Int):∀S:U (U UInt8),(bj ep S).1.length<=30*S.length
 |[]=>by simp[bj]
 |s::S=>by unfold bj;have:=Do ep S;grind[D2]
def je(c:List Choice):Prop:=c≠[]/\c.length<=29/\∀x,x∈c->okC x
def recB(ep:Nat)(c:List Choice):List UInt8:=frm (UInt8.ofNat ep::c.flatMap fO)
def wr(ep:Nat):Nat->List (List Choice)->List Write
 |_,[]=>[]
 |k,c::cs=>⟨((120+k:Nat):Int),recB ep c⟩::wr ep (k+1) cs
theorem FL(ep:Nat):∀(k:Nat) (cs:U (U Choice)),(wr ep k cs).length=cs.length
 |_,[]=>rfl
 |k,c::cs=>by simp[wr,FL ep (k+1) cs]
theorem GE(ep:Nat):∀(k:Nat) (cs ds:U (U Choice)),wr ep k (cs++ds)=wr ep k cs++wr ep (k+cs.length) ds
 |k,[],ds=>by simp[wr]
 |k,c::cs,ds=>by
  have e:k+1+cs.length=k+(cs.length+1):=by omega
  simp[wr,GE ep (k+1) cs ds,e]
theorem tj(ep:Nat):∀(k n:Nat) (cs:U (U Choice)),(wr ep k cs).take n=wr ep k (cs.take n)
 |k,0,cs=>by simp[wr]
 |k,n+1,[]=>by simp[wr]
 |k,n+1,c::cs=>by simp[wr,tj ep (k+1) n cs]
theorem M9(ep:Nat)(c:U Choice)(h:c.length<=29):(recB ep c).length<=62:=by grind[recB,nS,xy]
theorem wr_ok(ep:Nat):∀(k:Nat) (cs:U (U Choice)),k+cs.length<=80->(∀c,c∈cs->je c)->∀w,w∈wr ep k cs->okW w
 |_,[],_,_,w,hw=>by simp[wr]at hw
 |k,c::cs,h,hc,w,hw=>by
  simp only[R8]at h;simp only[wr,Sa]at hw;rcases hw with rfl|hw
  .exact⟨by grind,by grind,by show(recB ep c).length<=64;have:=M9 ep c (hc c (by simp)).2.1;omega⟩
  .exact wr_ok ep (k+1) cs (by omega) (λx hx=>hc x (by simp[hx])) w hw
theorem E0(ep:Nat)(S:U (U UInt8)):∀(n a:Nat) (l:U Choice) (w:U Write),l.length<=n->a<=80->(bP ep S n a l w).2.2=0 ->
  ∃cs:U (U Choice),bP ep S n a l w=(⟨S,w++wr ep a cs⟩,((a+cs.length:Nat):Int),0)/\l=cs.flatten/\(∀c,c∈cs->je c)/\a+cs.length<=80
 |0,a,l,w,h,ha,_=>by
  have hl0:l=[]:=RP (by omega);exact⟨[],by simp[bP,wr],by simp[hl0],by simp,by omega⟩
 | n+ 1,a,l,w,h,ha,he=>by
  unfold bP at he ⊢;by_cases hl0:l=[]
  .rw[if_pos hl0];exact⟨[],by simp[wr],by simp[hl0],by simp,by omega⟩
  rw[if_neg hl0]at he ⊢;by_cases hc:(dD (l.take 29)).2≠0
  .grind
  rw[if_neg hc]at he ⊢;by_cases h80:a=80
  .grind
  rw[if_neg h80]at he ⊢;by_cases h300:w.length=300
  .grind
  rw[if_neg h300]at he ⊢;have hpos:0<l.length:=SX.2 hl0;have hall:∀x,x∈l.take 29->okC x:=by
   by_cases hall:∀x,x∈l.take 29->okC x
   .exact hall
   .exfalso;apply hc;unfold dD;grind
  have hch:dD (l.take 29)=((l.take 29).flatMap fO,0):=by unfold dD;grind
  rw[hch]at he ⊢;obtain⟨cs,h1,h2,h3,h4⟩:=E0 ep S n (a+1) (l.drop 29) _ (by simp;omega) (by omega) he;refine⟨l.take 29::cs,?_,?_,?_,by simp;omega⟩
  .grind[wr,recB]
  .grind[List.take_append_drop]
  .intro c hc;rcases Sa.1 hc with rfl|hc
   .exact⟨λh0=>by simp_all,by simp;omega,hall⟩
   grind
theorem C3(ep ep':Nat)(he:ep<=200)(c:U Choice)(hc:je c):dW (ep':Int) (recB ep c)=if ep=ep' then c else[]:=by
 have hb:=xy c;have hok:okP (UInt8.ofNat ep::c.flatMap fO):=⟨by simp,by rw[R8];have:=hc.2.1;omega⟩
 have hr:records (recB ep c).length (recB ep c)=([UInt8.ofNat ep::c.flatMap fO],(recB ep c).length):=by have hl:(recB ep c).length=(UInt8.ofNat ep::c.flatMap fO).length+3:=nS _;have h0:=B6 (UInt8.ofNat ep::c.flatMap fO) [] hok;grind[ji,recB,records]
 unfold dW;rw[hr];have hep:((UInt8.ofNat ep).toNat:Int)=(ep:Int):=by simp;omega
 simp only[List.head?_cons,SJ,hep,true_and,List.tail_cons,SV];by_cases h:ep=ep'
 .rw[if_pos (by omega),if_pos h,(Bo (by have:=hc.2.1;omega)).1,AK c hc.2.2];rfl
 grind
section
def logW(E:Nat)(w:Write):Prop:=okW w/\120<=w.At/\∀ep:Nat,ep≠E->dW (ep:Int) w.Bytes=[]
theorem qk(E:Nat)(he:E<=200):∀(k:Nat) (cs:U (U Choice)),k+cs.length<=80->(∀c,c∈cs->je c)->∀w,w∈wr E k cs->logW E w
 |_,[],_,_,w,hw=>by simp[wr]at hw
 | k,c::cs,h,hc,w,hw=>by
  have hok:=wr_ok E k (c::cs) h hc w hw;simp only[wr,Sa]at hw;rcases hw with rfl|hw
  .refine⟨hok,by grind,λep hne=>?_⟩;show dW (ep:Int) (recB E c)=[]
   rw[C3 E ep he c (hc c RM),if_neg (λe=>hne e.symm)]
  .exact qk E he (k+1) cs (by grind) (λx hx=>hc x (RQ _ hx)) w hw
structure Held (P:List UInt8->Prop) (E:Nat) (S:List (List UInt8)):Prop where
 own:E≠0->∃b,P b/\dA S (E% 2)=some (b,E)
 old:∀(sl:Nat) (h:List UInt8),sl<=1->secP (gt S (60*sl)) 0=some h->(h.getD 0 0).toNat=0∨(h.getD 0 0).toNat<E∨(sl=E% 2/\(h.getD 0 0).toNat<=E)
 log:∀(i ep:Nat),120<=i->E<ep->dW (ep:Int) (gt S i)=[]
theorem B3{S:U (U UInt8)}{sl:Nat}{x:U UInt8×Nat}(h:dA S sl=some x):∃hd,secP (gt S (60*sl)) 0=some hd/\x.2=(hd.getD 0 0).toNat/\x.2<=200:=by grind[dA,Option.map_eq_some_iff]
section
variable {P:List UInt8→Prop} {E:Nat} {S:List (List UInt8)}
theorem Held.other (h:Held P E S){sl:Nat}{x:U UInt8×Nat}(hs:sl<=1)(hx:dA S sl=some x):x.2=0∨x.2<E∨(sl=E% 2/\x.2<=E):=by obtain⟨hd,h1,h2,_⟩:=B3 hx;rw[h2];exact h.old sl hd hs h1
theorem MF:Held P 0 []:=by refine⟨λh=>absurd J h,λsl h hs h1=>?_,λi ep _ _=>J⟩;have e:gt [] (60*sl)=[]:=rfl;rw[e]at h1;cases h1
variable {ws:U Write}{b:U UInt8}
theorem yB (hw:∀w,w∈ws->logW E w){i:Nat}(hi:i<120):gt (aP S ws) i=gt S i:=by rw[nO ws S i (λw h=>(hw w h).1),sE _ _ _ (λw h=>by have:=(hw w h).2.1;omega)]
theorem Held.logs (h:Held P E S)(hw:∀w,w∈ws->logW E w):Held P E (aP S ws):=by
 have hg:∀sl,sl<=1->dA (aP S ws) sl=dA S sl:=λsl hs=>uV λk hk=>yB hw (by omega)
 refine⟨λh0=>?_,λsl hd hs h1=>?_,λi ep hi he=>?_⟩
 .rw[hg _ (by omega)];exact h.own h0
 .rw[yB hw (by omega)]at h1;exact h.old sl hd hs h1
 .rw[nO ws S i (λw h=>(hw w h).1)];rcases Fq ws (gt S i) i with e|⟨w,h1,_,e⟩
  .rw[e];exact h.log i ep hi he
  .rw[e];exact(hw w h1).2.2 ep (by omega)
def dh(E:Nat)(b:List UInt8):List Write:=wsP ((E+1)% 2) (E+1) ((b.length+49)/ 50) b ((b.length+49)/ 50)
theorem xF (E:Nat)(b:U UInt8):(dh E b).length=(b.length+49)/ 50+1:=FF ..
theorem vP (hb:(b.length+49)/ 50<60):∀w,w∈dh E b->okW w:=NS _ _ _ _ (by omega) hb
theorem lZ (hb:(b.length+49)/ 50<60)(m i:Nat)(hi:120<=i∨∃k,k<60/\i=60*(E% 2)+k):gt (aP S ((dh E b).take m)) i=gt S i:=by rw[nO _ S i (λw h=>vP hb w (RV h)),sE _ _ _ (λw h=>?_)];obtain⟨k,hk,rfl⟩:=wd _ _ _ _ _ w (RV h);show((60*((E+1)% 2)+k:Nat):Int)≠(i:Int);omega
theorem Held.part (h:Held P E S)(hb:(b.length+49)/ 50<60){m:Nat}(hm:m<=(b.length+49)/ 50):Held P E (aP S ((dh E b).take m)):=by
 have hown:dA (aP S ((dh E b).take m)) (E% 2)=dA S (E% 2):=uV λk hk=>lZ hb m _ (.inr ⟨k,hk,J⟩)
 have hhd:∀sl,sl<=1->gt (aP S ((dh E b).take m)) (60*sl)=gt S (60*sl):=λsl hs=>by
  by_cases h2:sl=E% 2
  .simp_all[lZ]
  .rw[nO _ S _ (λw h=>vP hb w (RV h)),sE _ _ _ (λw h=>?_)];obtain⟨k,hk,hk2,rfl⟩:=Ea _ _ _ _ _ m w hm h;show((60*((E+1)% 2)+k:Nat):Int)≠((60*sl:Nat):Int);omega
 refine⟨λh0=>by rw[hown];exact h.own h0,λsl hd hs h1=>?_,λi ep hi he=>?_⟩
 .rw[hhd sl hs]at h1;exact h.old sl hd hs h1
 .rw[lZ hb m i (.inl hi)];exact h.log i ep hi he
theorem xP (hE:E+1<=200)(hb:(b.length+49)/ 50<60):dA (aP S (dh E b)) ((E+1)% 2)=some (b,E+1):=by
 refine KI (n:=(b.length+49)/ 50) hE J hb λk hk=>?_
 rw[nO _ S _ (vP hb)];exact Er _ _ _ _ _ k _ hk
theorem Held.full (h:Held P E S)(hP:P b)(hE:E+1<=200)(hb:(b.length+49)/ 50<60):Held P (E+1) (aP S (dh E b)):=by
 have hf:=xP (S:=S) hE hb;have ht:∀i,(120<=i∨∃k,k<60/\i=60*(E% 2)+k)->gt (aP S (dh E b)) i=gt S i:=λi hi=>by have:=lZ (S:=S) hb (dh E b).length i hi;grind
 refine⟨λ_=>⟨b,hP,hf⟩,λsl hd hs h1=>?_,λi ep hi he=>?_⟩
 .by_cases h2:sl=(E+1)% 2
  .obtain⟨hd',e1,e2,_⟩:=B3 hf;grind
  .have h3:sl=E% 2:=by omega
   rw[ht _ (.inr ⟨0,by omega,by rw[h3];rfl⟩)]at h1;rcases h.old sl hd hs h1 with e|e|⟨_,e⟩
   all_goals omega
 .rw[ht i (.inl hi)];exact h.log i ep hi (by omega)
end
theorem vt (S:U (U UInt8))(a b:U Write):aP S (a++b)=aP (aP S a) b:=List.foldl_append
inductive Waits (P:List UInt8->Prop) (E:Nat):Bool->List Write->Prop
 |log {ws:List Write} (h:∀w,w∈ws->logW E w):Waits P E false ws
 |slot {ws:List Write} {b:List UInt8} (h:∀w,w∈ws->logW E w) (hP:P b) (hE:E+1<=200) (hb:(b.length+49)/ 50<60):Waits P E true (ws++dh E b)
section
variable {P:U UInt8->Prop}{E:Nat}{S:U (U UInt8)}{q:Bool}
theorem Held.cut (h:Held P E S){W:U Write}(hW:Waits P E q W)(n:Nat):Held P E (aP S (W.take n))∨(q=true/\W.length<=n/\Held P (E+1) (aP S (W.take n))):=by
 cases hW with
 |log hw=>exact .inl (h.logs λw hm=>hw w (RV hm))
 | @slot ws b hw hP hE hb=>
  rw[List.take_append,vt];have h1:Held P E (aP S (ws.take n)):=h.logs λw hm=>hw w (RV hm)
  by_cases hn:n- ws.length<=(b.length+49)/ 50
  .exact .inl (h1.part hb hn)
  .right;have hl:=xF E b;rw[SD (l:=dh E b) (by omega)];exact⟨J,by grind,h1.full hP hE hb⟩
theorem Held.flush (h:Held P E S){W:U Write}(hW:Waits P E q W):Held P (if q=true then E+1 else E) (aP S W):=by
 cases hW with
 |log hw=>exact h.logs hw
 |slot hw hP hE hb=>rw[vt];exact(h.logs hw).full hP hE hb
end
end
section
def Rd{α:Type}(rd:List UInt8->Option ((α×List UInt8)⊕Unit))(ok:α->Prop)(m:α->Nat):Prop:=
 ∀b,b.length<=1048576->rd b=some (.inr ())∨∃x r,rd b=some (.inl (x,r))/\ok x/\m x+r.length<=b.length
theorem NZ (z:Int):gI (IntKind.i64.wrap z):=by grind[gI,IntKind.wrap,IntKind.signed,IntKind.bits]
theorem L5 (z k:Int)(h:0<=k):∃y:Nat,shl .u64 z k=some (y:Int)/\y<18446744073709551616:=by unfold shl;rw[if_pos h,th];generalize z*2 ^ (min k.toNat IntKind.u64.bits)=c;refine⟨(c% 18446744073709551616).toNat,?_,by omega⟩;grind
theorem or_lt (a b:Nat)(ha:a<18446744073709551616)(hb:b<18446744073709551616):a ||| b<18446744073709551616:=Nat.or_lt_two_pow (n:=64) ha hb
theorem jb:Rd dQ gI mI:=by
 intro b hb;have key:∀(f i s1:Nat),i+f=10->s1<18446744073709551616 ->
   iter (λak:Int×Int=>e7 b ak.1 ak.2) ((s1:Int),(i:Int))=some (.inr ())∨
   ∃n r,iter (λak:Int×Int=>e7 b ak.1 ak.2) ((s1:Int),(i:Int))=some (.inl (n,r))/\gI n/\mI n+r.length<=b.length:=by
  intro f
  induction f with
  |zero=>
   intro i s1 hi hs
   left
   have h1:e7 b (s1:Int) (i:Int)=some (.inr (.inr ())):=by unfold e7;grind
   grind[aE]
  | succ f ih=>
   intro i s1 hi hs
   by_cases hlt:i<b.length
   .have hx:b[i]?=some b[i]:=RG hlt
    generalize b[i]=x at hx
    have hix:=bv hx
    obtain⟨y,hy,hy2⟩:=L5 (IntKind.u64.wrap (ibits .and .u8 (x.toNat:Int) 127)) (IntKind.i64.wrap (7*(i:Int))) (by grind[bG])
    have hor:=or_lt s1 y hs hy2
    by_cases hc:x.toNat<128
    .right
     have hsh:shr .u64 ((s1 ||| y:Nat):Int) 1=some (((s1 ||| y)/ 2:Nat):Int):=by unfold shr;rw[if_pos (by omega)];show some (((s1 ||| y:Nat):Int).fdiv 2)=_;grind
     have h1:e7 b (s1:Int) (i:Int)=some (.inr (.inl (ibits .xor .i64 (IntKind.i64.wrap (((s1 ||| y)/ 2:Nat):Int)) (IntKind.i64.wrap (0- (IntKind.i64.wrap (ibits .and .u64 ((s1 ||| y:Nat):Int) 1)))),b.drop (i+1)))):=by unfold e7;rw[if_pos (by simp_all<;>omega),hix,RF,hy,RF,RF,if_pos (by simp;omega),bf (by omega),kP (by omega),RF,vI _ _ hs hy2,hsh];rfl
     rw[aE]
     simp only[h1]
     refine⟨_,_,J,?_,?_⟩
     .exact NZ _
     .show 1+(b.drop (i+1)).length<=b.length
      grind
    .have h1:e7 b (s1:Int) (i:Int)=some (.inl (((s1 ||| y:Nat):Int),((i+1:Nat):Int))):=by
      unfold e7;rw[if_pos (by simp_all<;>omega),hix,RF,hy,RF,RF,if_neg (by simp;omega),bf (by omega),vI _ _ hs hy2]
     rw[aE]
     simp only[h1]
     exact ih (i+1) (s1 ||| y) (by omega) hor
   .left
    have h1:e7 b (s1:Int) (i:Int)=some (.inr (.inr ())):=by unfold e7;grind
    grind[aE]
 exact key 10 0 0 (by omega) (by omega)
section
variable {α:Type}{m:α->Nat}
theorem EG (hm:∀x,1<=m x):∀l:U α,l.length<=(l.map m).sum
 |[]=>by simp
 |x::l=>by have:=hm x;have:=EG hm l;grind
theorem pY {rd:U UInt8->QbQ ((α×U UInt8)⊕Unit)}{ok:α->Prop}(hrd:Rd rd ok m)(hm:∀x,1<=m x){L:U UInt8->QbQ ((U α×U UInt8)⊕Unit)}{body:(Int×U UInt8)->Int×U UInt8×U α->QbQ ((Int×U UInt8×U α)⊕((U α×U UInt8)⊕Unit))}(hL:∀b,L b=b6 (dQ b) (some (.inr ())) λx2=>(if((decide (x2.1<0))||decide (x2.1> ((x2.2).length:Int)))=true then(some (.inr ()))else iter (body x2) (0,x2.2,[])))(h1:∀(x2:Int×U UInt8) (k:Nat) b acc,decide ((k:Int)<x2.1)=true->IntKind.i64.wrap ((k:Int)+1)=((k+1:Nat):Int)->body x2 ((k:Int),b,acc)=b6 (rd b) (Option.map Sum.inr (some (.inr ()))) λx=>Option.bind (app acc [x.1]) λy=>some (.inl (((k+1:Nat):Int),x.2,y)))(h2:∀(x2:Int×U UInt8) (k:Int) b acc,decide (k<x2.1)=false->body x2 (k,b,acc)=some (.inr (.inl (acc,b)))):Rd L (λl=>∀x,x∈l->ok x) (mL m):=by
 intro b hb
 rw[hL]
 rcases jb b hb with h|⟨N,b0,h,hN,hlen⟩
 .left;rw[h];rfl
 .rw [h,bS]
  have hlen':1+b0.length<=b.length:=hlen
  by_cases hbad:N<0∨N> (b0.length:Int)
  .grind
  .rw [if_neg (by grind)]
   obtain⟨M,rfl⟩:=Sv (show 0<=N by omega)
   have key:∀(f k:Nat) (c:U UInt8) (acc:U α),k+f=M->acc.length=k->(∀x,x∈acc->ok x)->(acc.map m).sum+c.length<=b0.length ->
     iter (body ((M:Int),b0)) ((k:Int),c,acc)=some (.inr ())∨∃l r,iter (body ((M:Int),b0)) ((k:Int),c,acc)=some (.inl (l,r))/\(∀x,x∈l->ok x)/\(l.map m).sum+r.length<=b0.length:=by
    intro f
    induction f with
    |zero=>
     grind[aE]
    | succ f ih=>
     intro k c acc hk ha ho hs
     rw[aE,h1 _ k c acc (by grind) (bf (by omega))]
     have:=EG hm acc
     rcases hrd c (by omega)with e|⟨x,r,e,hx,hl⟩
     .left;rw[e];rfl
     .rw[e,bS,cC (by simp;omega),RF]
      simp only
      exact ih (k+1) r (acc++[x]) (by omega) (by simp[ha]) (λy hy=>by
       grind) (by
       simp_all<;>omega)
   rcases key M 0 b0 [] (by omega) J (λx hx=>(Sd hx).elim) (by simp)with e|⟨l,r,e,ho,hs⟩
   all_goals (grind[mL])
theorem N6:Rd oS (gL gI) (mL mI):=
 pY jb (λ_=>RJ _) (body:=λx2 ak=>ki x2 ak.1 ak.2.1 ak.2.2) (λb=>J)
  (λx2 k b acc hd hw=>by simp_all[ki]) (λx2 k b acc hd=>by grind[ki])
theorem NE:Rd mE dO dF:=by
 intro b hb;unfold mE;rcases jb b hb with h|⟨x,r,h,gx,hx⟩
 .left;rw[h];rfl
 rw[h,bS];have hx':1+r.length<=b.length:=hx;rcases jb r (by omega)with h|⟨y,s,h,gy,hy⟩
 .left;simp only[h];rfl
 simp only[h,bS];have hy':1+s.length<=r.length:=hy;rcases jb s (by omega)with h|⟨z,t,h,gz,hz⟩
 .left;simp only[h];rfl
 simp only[h,bS];have hz':1+t.length<=s.length:=hz;exact .inr ⟨_,_,J,⟨gx,gy,gz⟩,by show 3+t.length<=b.length;omega⟩
theorem Mk:Rd mM mf kV:=by
 intro b hb;unfold mM;rcases jb b hb with h|⟨x,r,h,gx,hx⟩
 .left;rw[h];rfl
 rw[h,bS];have hx':1+r.length<=b.length:=hx;rcases jb r (by omega)with h|⟨y,s,h,gy,hy⟩
 .left;simp only[h];rfl
 simp only[h,bS];have hy':1+s.length<=r.length:=hy;exact .inr ⟨_,_,J,⟨gx,gy⟩,by show 2+s.length<=b.length;omega⟩
theorem Lq:Rd mS l6 iZ:=by
 intro b hb;unfold mS;rcases jb b hb with h|⟨x,r,h,gx,hx⟩
 .left;rw[h];rfl
 rw[h,bS];have hx':1+r.length<=b.length:=hx;rcases jb r (by omega)with h|⟨y,s,h,gy,hy⟩
 .left;simp only[h];rfl
 simp only[h,bS];have hy':1+s.length<=r.length:=hy;exact .inr ⟨_,_,J,⟨gx,gy⟩,by show 2+s.length<=b.length;omega⟩
theorem Ld:Rd ra (gL dO) (mL dF):=
 pY NE (λ_=>by unfold dF;omega) (body:=λx2 ak=>ke x2 ak.1 ak.2.1 ak.2.2) (λb=>J)
  (λx2 k b acc hd hw=>by simp_all[ke]) (λx2 k b acc hd=>by grind[ke])
theorem D3:Rd lx (gL dO) (mL dF):=by
 intro b hb;unfold lx;rcases Ld b hb with h|⟨x,r,h,gx,hx⟩
 .left;rw[h];rfl
 grind[bS]
theorem M4:Rd oR (gL (gL dO)) (mL (mL dF)):=
 pY D3 (λ_=>Gj _ _) (body:=λx2 ak=>kg x2 ak.1 ak.2.1 ak.2.2) (λb=>J)
  (λx2 k b acc hd hw=>by simp_all[kg]) (λx2 k b acc hd=>by grind[kg])
theorem NB:Rd oM (gL mf) (mL kV):=
 pY Mk (λ_=>by simp[kV]) (body:=λx2 ak=>kb x2 ak.1 ak.2.1 ak.2.2) (λb=>J)
  (λx2 k b acc hd hw=>by simp_all[kb]) (λx2 k b acc hd=>by grind[kb])
theorem P3:Rd mU yM ib:=by
 intro b hb;unfold mU;rcases jb b hb with h|⟨x,r,h,gx,hx⟩
 .left;rw[h];rfl
 rw[h,bS];have hx':1+r.length<=b.length:=hx;rcases jb r (by omega)with h|⟨y,s,h,gy,hy⟩
 .left;simp only[h];rfl
 simp only[h,bS];have hy':1+s.length<=r.length:=hy;rcases NB s (by omega)with h|⟨z,t,h,gz,hz⟩
 .left;simp only[h];rfl
 simp only[h,bS];exact .inr ⟨_,_,J,⟨gx,gz,gy⟩,by show mL kV z+2+t.length<=b.length;omega⟩
theorem Ol:Rd oL (gL yM) (mL ib):=
 pY P3 (λ_=>by simp[ib]) (body:=λx2 ak=>j9 x2 ak.1 ak.2.1 ak.2.2) (λb=>J)
  (λx2 k b acc hd hw=>by simp_all[j9]) (λx2 k b acc hd=>by grind[j9])
theorem J7:Rd oK (gL l6) (mL iZ):=
 pY Lq (λ_=>by simp[iZ]) (body:=λx2 ak=>ka x2 ak.1 ak.2.1 ak.2.2) (λb=>J)
  (λx2 k b acc hd hw=>by simp_all[ka]) (λx2 k b acc hd=>by grind[ka])
theorem PX {n:Net}(items:U (U Item))(hio:∀x∈n.Nodes,x.In.length<=1099511627776/\x.Out.length<=1099511627776)(hsrc:bt n items=0)(b:U UInt8)(hb:b.length<=1048576):
  iD n items b=some (noS,12)∨∃t,iD n items b=some (t,0)/\yR t/\nY t<=1048576/\ky n items t=some (b,0):=by
 unfold iD
 rw[o4 n items hio,hsrc,RF,if_neg (by decide)]
 rcases N6 b hb with h|⟨x1,r1,h,g1,m1⟩
 .left;rw[h];rfl
 rw[h,bS]
 rcases M4 r1 (by omega)with h|⟨x2,r2,h,g2,m2⟩
 .left;simp only[h];rfl
 simp only[h,bS]
 rcases Ol r2 (by omega)with h|⟨x3,r3,h,g3,m3⟩
 .left;simp only[h];rfl
 simp only[h,bS]
 rcases J7 r3 (by omega)with h|⟨x4,r4,h,g4,m4⟩
 .left;simp only[h];rfl
 simp only[h,bS]
 rcases D3 r4 (by omega)with h|⟨x5,r5,h,g5,m5⟩
 .left;simp only[h];rfl
 simp only[h,bS]
 have gt:yR ⟨x1,x2,x3,x4,x5⟩:=⟨g1,g2,g3,g4,g5⟩
 have mt:nY ⟨x1,x2,x3,x4,x5⟩<=1048576:=by show mL mI x1+mL (mL dF) x2+mL ib x3+mL iZ x4+mL dF x5<=1048576;omega
 obtain⟨hs,hB⟩:=Lt gt mt
 have hby:=Fe items ⟨x1,x2,x3,x4,x5⟩ hio hs hB
 rw[hby,RF]
 by_cases hc:dJ n items ⟨x1,x2,x3,x4,x5⟩=0
 .rw[if_neg (show ¬dJ n items ⟨x1,x2,x3,x4,x5⟩≠0 by simp[hc])]
  by_cases he:bb ⟨x1,x2,x3,x4,x5⟩=b
  .grind
  .left
   rw[if_pos (by simp[he])]
   rfl
 .left
  rw[if_pos hc,if_pos (by simp[hc])]
  rfl
end
end
def eU(l:List Item)(s:Int):Nat:=(l.takeWhile λx=>decide (x.Dep<=s)).length
theorem Dj(l:U Item)(s:Int):eU l s<=l.length:=(List.takeWhile_sublist _).length_le
theorem HG(l:U Item)(s:Int)(hl:l.length<=1099511627776):q4 l s=some (if eU l s<l.length then(eU l s:Int)else-1):=by
 unfold q4;have:=py (σ:=Unit) l hl (λk _=>(k:Int)) (body:=λs1=>oG l s s1)
  (λk x _=>if x.Dep> s then some (.inr (k:Int))else some (.inl ())) (λ_=>some (-1)) ()
  (λk x _ _ _ h1 h2 h3=>by grind[oG,uB])
  (λ_ h=>by simp[oG])
 refine Eq.trans this ?_;have key:∀(ys:U Item) (k:Nat),eL (σ:=Unit) (λk x _=>if x.Dep> s then some (.inr (k:Int))else some (.inl ())) (λ_=>some (-1)) k ys ()=some (if eU ys s<ys.length then((k+eU ys s:Nat):Int)else-1):=by
  intro ys;induction ys with
  |nil=>simp[eL]
  | cons y ys ih=>
   intro k;unfold eL;by_cases h:y.Dep> s
   .simp_all[eU]
   .have h':y.Dep<=s:=by omega
    rw[if_neg h];simp only;rw[ih (k+1)];have e:eU (y::ys) s=eU ys s+1:=by simp[eU,h']
    grind
 grind
def gj(l:List Item)(s:Int):Int×Int:=if 2000<l.length then(0,2)else if s<0∨500<s then(0,3)else(eU l s,0)
theorem IL(l:U Item)(s:Int):sh l s=some (gj l s):=by
 unfold sh gj;by_cases h1:2000<l.length
 .grind
 rw[if_neg (by simp;omega),if_neg h1];by_cases h2:s<0∨500<s
 .grind
 rw[if_neg (by simp;omega),if_neg h2,HG l s (by omega)];grind[Dj]
def ic(x:Item):Item:=⟨x.Key,x.Val,0⟩
def y0(l:List Item):List Item×Int:=if 2000<l.length then([],2)else(l.map ic,0)
theorem Ix(l:U Item):kw l=some (y0 l):=by
 unfold kw y0;by_cases h1:2000<l.length
 .grind
 rw[if_neg (by simp;omega),if_neg h1];unfold fh;rw[cC (by simp;omega)];simp only[SG,RF];have key:∀(ys pre:U Item),pre.length+ys.length<=2000->∀(x2:U Item),x2.length=pre.length+ys.length ->
   iter (λss:Int×U Item=>iS x2 ss.1 ss.2) ((pre.length:Int),pre++ys)=some (pre++ys.map ic,0):=by
  intro ys
  induction ys with
  |nil=>
   simp_all[aE,iS]
  |cons y ys ih=>
   intro pre hp x2 hx
   simp only[R8]at hp hx
   have e1:ixN (pre++y::ys) (pre.length:Int)=some pre.length:=cP (by simp)
   have e2:(pre++y::ys)[pre.length]?=some y:=by simp
   have e3:(pre++y::ys).set pre.length (ic y)=(pre++[ic y])++ys:=by simp
   have e4:IntKind.i64.wrap ((pre.length:Int)+1)=((pre++[ic y]).length:Int):=by rw[bf (by omega)];simp
   have e5:iS x2 (pre.length:Int) (pre++y::ys)=some (.inl (((pre++[ic y]).length:Int),(pre++[ic y])++ys)):=by unfold iS;rw[if_pos (by grind),e1,RF,e2,RF,e4,show(⟨y.Key,y.Val,0⟩:Item)=ic y from J,e3]
   rw[aE,e5]
   simp only
   have:=ih (pre++[ic y]) (by simp;omega) x2 (by simp;omega)
   grind
 have:=key l [] (by simp;omega) l (by simp);grind
def kv(x:Item):Int×Int:=(x.Key,x.Val)
def kQ(a b:List Item):Bool:=decide (a.map kv=b.map kv)
def fw(a b:List Item):Bool:=decide (a.map kv=(b.take a.length).map kv/\a.length<=b.length)
theorem kv_eq(x y:Item):((x.Key==y.Key)&&x.Val==y.Val)=decide (kv x=kv y):=by rw[Bool.eq_iff_iff];simp[kv]
theorem BH(a b:U Item)(ha:a.length<=1099511627776)(hl:a.length=b.length){body:Int->QbQ (Int⊕Bool)}
  (h1:∀(k:Nat) x y,decide ((k:Int)<(a.length:Int))=true->idx a (k:Int)=some x->idx b (k:Int)=some y->IntKind.i64.wrap ((k:Int)+1)=((k+1:Nat):Int)->body k=if kv x=kv y then some (.inl ((k+1:Nat):Int))else some (.inr false))
  (h2:decide ((a.length:Int)<(a.length:Int))=false->body a.length=some (.inr true)):iter body 0=some (kQ a b):=by
 have im:∀(l:U Item) (k:Nat) (p:Int×Int),idx (l.map kv) (k:Int)=some p->∃x,idx l (k:Int)=some x/\kv x=p:=by simp[idx]
 have:=Jv (a.map kv) (b.map kv) (by grind) (by grind) (body:=body) (λk x y h3 h4 h5 h6=>by grind) (λh=>by grind)
 exact this
theorem Ib(a b:U Item)(ha:a.length<=1099511627776):qQ a b=some (kQ a b):=by
 unfold qQ;by_cases hl:a.length=b.length
 .rw[if_neg (by simp;omega)];exact BH a b ha hl (λk x y h1 h2 h3 h4=>by
   unfold qP uJ;rw[h1,h2,h3,h4];simp only[RF,if_true,kv_eq];simp) (λh=>by
   simp[qP])
 .rw[if_pos (by simp;omega)];have:a.map kv≠b.map kv:=λe=>hl (by have:=congrArg List.length e;grind)
  simp[kQ,this]
theorem xb(a b:U Item)(ha:a.length<=1099511627776):lP a b=some (fw a b):=by unfold lP fw;by_cases h:a.length<=b.length;all_goals (simp_all[sub_0,Ib,kQ,if_neg])
theorem Cf(a b:U Item)(ha:a.length<=1099511627776):o7 a b=some (kQ a b):=by
 unfold o7;have:qR a b=some (kQ a b):=by
  unfold qR;by_cases hl:a.length=b.length
  .rw[if_neg (by simp;omega)];exact BH a b ha hl (λk x y h1 h2 h3 h4=>by
    unfold qN uC;rw[h1,h2,h3,h4];simp only[RF,if_true,kv_eq];by_cases h:kv x=kv y<;>simp[h]) (λh=>by
    unfold qN;rw[h];simp)
  .rw[if_pos (by simp;omega)];have:a.map kv≠b.map kv:=λe=>hl (by have:=congrArg List.length e;simp at this;exact this)
   simp[kQ,this]
 rw[this];rfl
def cB(t l:List Item)(s:Int):List Item×Int:=
 if 2000<t.length then([],2)
 else if(gj l s).2≠0 then([],(gj l s).2)
 else if fw t l=false/\fw l t=false then([],4)
 else if eU l s<=t.length then([],0)
 else(((l.take (eU l s)).drop t.length).map ic,0)
theorem MU{l:U Item}{s:Int}(h:(gj l s).2=0):l.length<=2000/\(gj l s).1=eU l s:=by unfold gj at h ⊢;grind
theorem Is(t l:U Item)(s:Int):rS t l s=some (cB t l s):=by
 unfold rS cB;by_cases h1:2000<t.length
 .grind
 rw[if_neg (by simp;omega),if_neg h1,IL];simp only[RF];by_cases h2:(gj l s).2≠0
 .grind
 have h2':(gj l s).2=0:=by omega
 obtain⟨h3,h4⟩:=MU h2';rw[if_neg (by simp[h2']),if_neg h2,xb t l (by omega)];simp only[RF];have hc:(if(!fw t l)=true then(lP l t).bind λx4=>some (!x4)else some false)=some (!fw t l&& !fw l t):=by grind[xb]
 rw[hc];simp only[RF];by_cases h5:fw t l=false/\fw l t=false
 .grind
 rw[if_neg (by grind),if_neg h5,h4];by_cases h6:eU l s<=t.length
 .grind
 rw[if_neg (by simp;omega),if_neg h6];grind[Dj,ql,Ix,y0]
section
def chE(n:Net)(_:Nat)(c:Choice):Option Int:=
 if c.Node<0∨c.Node>=(n.Nodes.length:Int)∨(ab n c.Node.toNat).Kind≠6 then some 5
 else if c.Lane<0∨c.Lane>=((ab n c.Node.toNat).In.length:Int)then some 3 else none
def cW(n:Net)(l:List Choice):Int:=
 if(eO n).2≠0 then(eO n).2 else if 500<l.length then 2 else(fb (chE n) 0 l).getD 0
theorem N8(n:Net)(c:Choice)(k:Nat)(z:Int):
  (Option.bind (if(decide (c.Node<0))=true then(some true)else(if(decide (c.Node>=((n.Nodes).length:Int)))=true then(some true)else(Option.bind (idx n.Nodes c.Node) λx6=>(some (x6.Kind !=6))))) λc7=>(if c7=true then(Option.map Sum.inr (some (5:Int)))else(Option.bind (if(decide (c.Lane<0))=true then(some true)else(Option.bind (idx n.Nodes c.Node) λx8=>(some (decide (c.Lane>=((x8.In).length:Int)))))) λc9=>(if c9=true then(Option.map Sum.inr (some 3))else(some (.inl z))))))
  =match chE n k c with|some r=>some (.inr r)|none=>some (.inl z:Int⊕Int):=by
 by_cases h0:c.Node<0
 .simp_all[chE]
 rw[if_neg (show ¬decide (c.Node<0)=true by grind)]
 by_cases h1:c.Node>=(n.Nodes.length:Int)
 .simp_all[chE]
 rw[if_neg (show ¬decide (c.Node>=(n.Nodes.length:Int))=true by grind)]
 have hi:idx n.Nodes c.Node=some (ab n c.Node.toNat):=jg _ (by omega) (by omega)
 rw[hi,RF,RF]
 by_cases h6:(ab n c.Node.toNat).Kind=6
 .have hn:¬(c.Node<0∨c.Node>=(n.Nodes.length:Int)∨(ab n c.Node.toNat).Kind≠6):=λh=>h.elim h0 λh=>h.elim h1 λh=>h h6
  rw[if_neg (show ¬((ab n c.Node.toNat).Kind !=6)=true by simp[h6])]
  by_cases h2:c.Lane<0
  .simp_all[chE,if_neg]
  .rw[if_neg (show ¬decide (c.Lane<0)=true by grind),RF,RF]
   by_cases h3:c.Lane>=((ab n c.Node.toNat).In.length:Int)
   all_goals (simp_all[chE,if_neg])
 simp_all[chE]
section
variable (n:Net) (hio:∀x∈n.Nodes,x.In.length≤1099511627776∧x.Out.length≤1099511627776)
include hio
theorem uH(l:U Choice):kr n l=some (cW n l):=by
 unfold kr cW;rw[AT n hio,RF];by_cases h:(eO n).2=0
 .rw[if_neg (show ¬((eO n).2 !=0)=true by simp[h]),if_neg (show ¬(eO n).2≠0 by simp[h])];by_cases h5:500<l.length
  .grind
  .rw[if_neg (show ¬decide ((l.length:Int)> 500)=true by simp;omega),if_neg h5];rw[sV l (by omega) (chE n) (some 0) (λk x hx hk e1 e2 e3=>by
    unfold rC;rw[e2,e1,e3];simp only[if_true,RF];rw[N8 n x k];grind) (λe=>by simp[rC])]
   grind
 grind
end
section
variable {n:Net}{k N i:Nat}{c:Choice}{α:Type}{l:U Choice}
theorem M5 (h:chE n k c=none):0<=c.Node/\c.Node<n.Nodes.length/\(ab n c.Node.toNat).Kind=6/\0<=c.Lane/\c.Lane<(ab n c.Node.toNat).In.length:=by unfold chE at h;grind
theorem Of {e:Int}(h:chE n k c=some e):e≠0:=by grind[chE]
theorem Bi {f:Nat->α->QbQ Int}(hf:∀k x e,f k x=some e->e≠0):∀{xs:U α} {k:Nat} {e:Int},fb f k xs=some e->e≠0
 |[],k,e,h=>by cases h
 |x::xs,k,e,h=>by
  unfold fb at h;split at h
  .grind
  .exact Bi hf h
structure RightC (n:Net) (l:List Choice):Prop where
 net:(eO n).2=0
 len:l.length<=500
 each:∀c,c∈l->0<=c.Node/\c.Node<n.Nodes.length/\(ab n c.Node.toNat).Kind=6/\0<=c.Lane/\c.Lane<(ab n c.Node.toNat).In.length
theorem CM (h:cW n l=0):RightC n l:=by
 unfold cW at h;split at h
 .omega
 .rename_i h1;split at h
  .cases h
  .rename_i h2;refine⟨Classical.byContradiction λe=>h1 e,by omega,λc hc=>?_⟩;cases hf:fb (chE n) 0 l with
   |some e=>grind[Bi,Of]
   |none=>
    obtain⟨j,hj⟩:=RX hc;exact M5 (lQ.1 hf j c hj)
theorem si (h:RightC n l):cW n l=0:=by
 unfold cW;rw[if_neg (by simp[h.net]),if_neg (by have:=h.len;omega)];have:fb (chE n) 0 l=none:=lQ.2 λj x hx=>by obtain⟨a,b,c,d,e⟩:=h.each x (RI hx);simp_all[chE,if_neg]
 grind
theorem rI (l:U Choice)(c:Choice)(i:Nat):bp (l++[c]) i=if c.Node=(i:Int)then bp l i++[c.Lane]else bp l i:=by unfold bp;grind
theorem rW (l:U Choice)(i:Nat):(bp l i).length<=l.length:=by simp[bp,List.length_filter_le]
theorem pJ {l:U α}{x:α}(h:l[k]?=some x):l.take (k+1)=l.take k++[x]:=by grind[List.take_add_one]
def df(n:Net)(l:List Choice):List (List Int):=(List.range n.Nodes.length).map (bp l)
def ownL(N:Nat)(l:List Choice):List (Bool×List Int):=(List.range N).map λi=>(false,bp l i)
theorem yp (l:U Choice)(h:i<N):(ownL N l)[i]?=some (false,bp l i):=by grind[ownL]
theorem yc (N:Nat)(l:U Choice):(ownL N l).length=N:=by unfold ownL;simp
theorem L7 (l:U Choice)(c:Choice)(hi:c.Node=(i:Int))(h:i<N):own (ownL N l) i (bp l i++[c.Lane])=ownL N (l++[c]):=by
 unfold own;refine Sw λj=>?_
 rw[R5,yc];by_cases hj:j<N
 .rw[yp _ hj,yp _ hj,rI];grind
 grind[yc]
theorem BF (hC:RightC n l):∀(m k:Nat),k+m=l.length ->
  iter (λoA:Int×(U (Bool×U Int))=>lD l oA.1 oA.2) ((k:Int),ownL n.Nodes.length (l.take k))=some (df n l,0)
 |0,k,h=>by
  have hk:k=l.length:=by omega
  subst hk;have:lD l (l.length:Int) (ownL n.Nodes.length (l.take l.length))=some (.inr (df n l,0)):=by unfold lD;rw[if_neg (by simp),SS];unfold ownL df;rw[SQ];rfl
  rw[aE];simp only[this]
 |m+1,k,h=>by
  have hlt:k<l.length:=by omega
  have hg:l[k]?=some l[k]:=RG hlt;obtain⟨a,b,c,d,e⟩:=hC.each _ (R6 hlt);have hl:=hC.len;have hN:l[k].Node.toNat<n.Nodes.length:=by omega
  have hle:(bp (l.take k) l[k].Node.toNat).length<=500:=SA (rW _ _) (by simp;omega);have:lD l (k:Int) (ownL n.Nodes.length (l.take k))=some (.inl (((k+1:Nat):Int),ownL n.Nodes.length (l.take (k+1)))):=by unfold lD;rw[if_pos (by simp;omega),bv hg,RF,ixN_D a (by rw[yc];omega),RF];unfold atc owc;rw[yp _ hN];simp only[SJ,RF];rw[cC (by simp;omega),RF,bf (by omega),L7 (l.take k) l[k] (by omega) hN,pJ hg]
  rw[aE];simp only[this];exact BF hC m (k+1) (by omega)
def zc(n:Net)(l:List Choice):List (List Int)×Int:=if cW n l≠0 then([],cW n l)else(df n l,0)
end
section
variable (n:Net) (hio:∀x∈n.Nodes,x.In.length≤1099511627776∧x.Out.length≤1099511627776)
include hio
theorem Ir(l:U Choice):pp n l=some (zc n l):=by
 unfold pp zc;rw[uH n hio,RF];by_cases h:cW n l=0
 .have hC:=CM h;have hn:=(CK hC.net).n2;rw[if_neg (by simp[h]),if_neg (by simp[h])];have hm:mk ((n.Nodes.length:Nat):Int) (false,([]:U Int))=some (ownL n.Nodes.length (l.take 0)):=by
   unfold mk;rw[if_pos (by omega)];unfold ownL;congr 1;refine List.ext_getElem (by simp) λi h1 h2=>by simp[bp]
  rw[hm,RF];exact BF hC l.length 0 (by omega)
 .rw[if_pos (by simpa using h),if_pos h]
omit hio in
theorem u4(l:U Choice):(df n l).length=n.Nodes.length:=by unfold df;simp
end
theorem Bp{n:Net}{i:Nat}(l:U Choice)(h:i<n.Nodes.length):(df n l)[i]?=some (bp l i):=by grind[df]
def begN(n:Net)(a b:List Choice):Prop:=∀i,i<n.Nodes.length->bp a i <+: bp b i
noncomputable instance (n:Net) (a b:List Choice):Decidable (begN n a b):=Classical.propDecidable _
section
variable (n:Net) (hio:∀x∈n.Nodes,x.In.length≤1099511627776∧x.Out.length≤1099511627776)
include hio
end
end
noncomputable section
def noH:Shop:=⟨⟨[],0,0⟩,[],noS,noD,0,0,0,0,0,[],false⟩
def ofM(n:Net)(items:List (List Item))(b:List UInt8):State×Int:=(iD n items b).getD (noS,12)
def fE(n:Net)(items:List (List Item))(S:List (List UInt8))(sl:Nat)(st:State×Nat):State×Nat:=
 match dA S sl with
 |none=>st
 |some x=>if x.2<=st.2 then st else if(ofM n items x.1).2=0 then((ofM n items x.1).1,x.2)else st
def dl(n:Net)(items:List (List Item))(S:List (List UInt8)):State×Nat:=fE n items S 1 (fE n items S 0 (aS n items,0))
def ck(n:Net)(items:List (List Item))(s:State)(l:List Choice):State×Int:=if 500<s.Choices.length+l.length then(noS,2)else(repM n items (muN n items s+1) s l).getD (noS,0)
def doP(h:Shop)(k a:Int):Shop×Int:=
 if h.Down=true then
  if k≠6 then(noH,13)
  else
   let q:=dl h.N h.Items h.D.Sectors
   let l:=bj (q.2:Int) (h.D.Sectors.drop 120)
   if cW h.N l.1≠0 then(noH,cW h.N l.1)
   else
    let r:=ck h.N h.Items q.1 l.1
    if r.2≠0 then(noH,r.2)else({ h with S:=r.1,Logged:=r.1.Choices.length,Safe:=r.1.Choices.length,Epoch:=(q.2:Int),Next:=(l.2:Int),Down:=false },0)
 else if k=1 then
  if aB h.N h.Items h.S=[]then(noH,10)else({ h with S:=doMv h.N h.Items h.S (dg (aB h.N h.Items h.S) a) },0)
 else if k=2 then
  if 0<=h.Laid then(noH,10)
  else
   let r:=bP h.Epoch.toNat h.D.Sectors (h.S.Choices.drop h.Logged.toNat).length h.Next.toNat (h.S.Choices.drop h.Logged.toNat) h.D.Wait
   if r.2.2≠0 then(noH,r.2.2)else({ h with D:=r.1,Next:=r.2.1,Logged:=h.S.Choices.length },0)
 else if k=3 then
  if 0<=h.Laid then({ h with D:=⟨aP h.D.Sectors h.D.Wait,[]⟩,Epoch:=h.Epoch+1,Next:=0,Logged:=h.Laid,Safe:=h.Laid,Laid:= -1 },0)
  else({ h with D:=⟨aP h.D.Sectors h.D.Wait,[]⟩,Safe:=h.Logged },0)
 else if k=4 then
  let r:=cB h.Told h.S.Out h.Safe
  if r.2≠0 then(noH,r.2)else({ h with Told:=h.Told++r.1 },0)
 else if k=5 then
  if a<0∨h.D.Wait.length<a then(noH,3)
  else({ h with D:=⟨aP h.D.Sectors (h.D.Wait.take a.toNat),[]⟩,S:=aS h.N h.Items,Logged:=0,Safe:=0,Epoch:=0,Laid:= -1,Next:=0,Down:=true },0)
 else if k=7 then
  if 0<=h.Laid then(noH,10)
  else if h.Epoch=200 then(noH,8)
  else if 60<=((bb h.S).length+49)/ 50∨300<h.D.Wait.length+(((bb h.S).length+49)/ 50+1)then(noH,8)
  else({ h with D:=⟨h.D.Sectors,h.D.Wait++dh h.Epoch.toNat (bb h.S)⟩,Laid:=h.S.Choices.length },0)
 else(noH,13)
section
variable (n:Net) (items:List (List Item))
def PB(b:List UInt8):Prop:=∃s,Inv n items s/\KV s/\b=bb s/\b.length<=3000
structure JS (E:Nat) (h:Shop):Prop where
 N:h.N=n
 I:h.Items=items
 inv:Inv n items h.S
 kv:KV h.S
 e2:E<=200
 okD:bN h.D
 held:Held (PB n items) E h.D.Sectors
 wait:Waits (PB n items) E (decide (0<=h.Laid)) h.D.Wait
 ep:h.Down=false->h.Epoch=(E:Int)
 down:h.Down=true->h.D.Wait=[]/\h.Epoch=0/\h.S=aS n items/\h.Laid= -1
 laid: -1<=h.Laid/\h.Laid<=h.S.Choices.length
 log:0<=h.Safe/\h.Safe<=h.Logged/\h.Logged<=h.S.Choices.length
 next:0<=h.Next/\h.Next<=80
 told:h.Told.length<=2000
structure SrcQ:Prop where
 S:RightS n items
 src:bt n items=0
 io:∀x∈n.Nodes,x.In.length<=1099511627776/\x.Out.length<=1099511627776
 g:gL (gL dO) items
end
section
variable {P:U UInt8->Prop}{E:Nat}{q:Bool}
theorem Waits.low {W:U Write}(h:Waits P E q W)(hq:q=false):∀w,w∈W->logW E w:=by
 cases h with
 |log hw=>exact hw
 |slot hw hP hE hb=>cases hq
theorem Waits.e {W:U Write}(h:Waits P E q W)(hq:q=true):E+1<=200:=by
 cases h with
 |log hw=>cases hq
 |slot hw hP hE hb=>exact hE
theorem Dx (ep:Nat)(S:U (U UInt8)):∀(n a:Nat) (l:U Choice) (w:U Write),a<=80->bN ⟨S,w⟩->(bP ep S n a l w).2.2=0->bN (bP ep S n a l w).1
 |0,a,l,w,ha,hd,_=>hd
 |n+1,a,l,w,ha,hd,he=>by
  unfold bP at he ⊢;by_cases hl0:l=[]
  .grind
  rw[if_neg hl0]at he ⊢;by_cases hc:(dD (l.take 29)).2≠0
  .grind
  rw[if_neg hc]at he ⊢;by_cases h80:a=80
  .grind
  rw[if_neg h80]at he ⊢;by_cases h300:w.length=300
  .grind
  rw[if_neg h300]at he ⊢;have hcl:=A4 (l.take 29) (by grind);refine Dx ep S n (a+1) (l.drop 29) _ (by omega) (D6 hd ⟨?_,?_,?_⟩ (by have:=hd.2.1;grind)) he;all_goals (grind[nS])
theorem yG {d:Disk}(h:bN d)(k:Nat):bN ⟨aP d.Sectors (d.Wait.take k),[]⟩:=by obtain⟨h1,h2,h3,h4⟩:=h;obtain⟨q1,q2⟩:=FE (d.Wait.take k) d.Sectors (λw hw=>h4 w (RV hw)) h1 h3;exact⟨q1,by simp,q2,λw hw=>by cases hw⟩
theorem Ec (ep:Int):∀S:U (U UInt8),(bj ep S).2<=S.length
 |[]=>by simp[bj]
 |s::S=>by have:=Ec ep S;grind[bj]
theorem BN {t l:U Item}{s:Int}(ht:t.length<=2000)(hl:l.length<=2000):(t++(cB t l s).1).length<=2000:=by grind[cB]
end
section
variable {n:Net} {items:List (List Item)} {E:Nat} {h:Shop}
theorem doP_1 (hd:h.Down=false)(a:Int):doP h 1 a=if aB h.N h.Items h.S=[]then(noH,10)else({ h with S:=doMv h.N h.Items h.S (dg (aB h.N h.Items h.S) a) },0):=by simp_all[doP]
theorem doP_2 (hd:h.Down=false)(a:Int):doP h 2 a=if 0<=h.Laid then(noH,10)else if(bP h.Epoch.toNat h.D.Sectors (h.S.Choices.drop h.Logged.toNat).length h.Next.toNat (h.S.Choices.drop h.Logged.toNat) h.D.Wait).2.2≠0 then(noH,(bP h.Epoch.toNat h.D.Sectors (h.S.Choices.drop h.Logged.toNat).length h.Next.toNat (h.S.Choices.drop h.Logged.toNat) h.D.Wait).2.2)else({ h with D:=(bP h.Epoch.toNat h.D.Sectors (h.S.Choices.drop h.Logged.toNat).length h.Next.toNat (h.S.Choices.drop h.Logged.toNat) h.D.Wait).1,Next:=(bP h.Epoch.toNat h.D.Sectors (h.S.Choices.drop h.Logged.toNat).length h.Next.toNat (h.S.Choices.drop h.Logged.toNat) h.D.Wait).2.1,Logged:=h.S.Choices.length },0):=by simp_all[doP]
theorem doP_3 (hd:h.Down=false)(a:Int):doP h 3 a=if 0<=h.Laid then({ h with D:=⟨aP h.D.Sectors h.D.Wait,[]⟩,Epoch:=h.Epoch+1,Next:=0,Logged:=h.Laid,Safe:=h.Laid,Laid:= -1 },0)else({ h with D:=⟨aP h.D.Sectors h.D.Wait,[]⟩,Safe:=h.Logged },0):=by simp_all[doP]
theorem doP_4 (hd:h.Down=false)(a:Int):doP h 4 a=if(cB h.Told h.S.Out h.Safe).2≠0 then(noH,(cB h.Told h.S.Out h.Safe).2)else({ h with Told:=h.Told++(cB h.Told h.S.Out h.Safe).1 },0):=by simp_all[doP]
theorem doP_5 (hd:h.Down=false)(a:Int):doP h 5 a=if a<0∨h.D.Wait.length<a then(noH,3)else({ h with D:=⟨aP h.D.Sectors (h.D.Wait.take a.toNat),[]⟩,S:=aS h.N h.Items,Logged:=0,Safe:=0,Epoch:=0,Laid:= -1,Next:=0,Down:=true },0):=by simp_all[doP]
theorem doP_7 (hd:h.Down=false)(a:Int):doP h 7 a=if 0<=h.Laid then(noH,10)else if h.Epoch=200 then(noH,8)else if 60<=((bb h.S).length+49)/ 50∨300<h.D.Wait.length+(((bb h.S).length+49)/ 50+1)then(noH,8)else({ h with D:=⟨h.D.Sectors,h.D.Wait++dh h.Epoch.toNat (bb h.S)⟩,Laid:=h.S.Choices.length },0):=by simp_all[doP]
theorem gS (hd:h.Down=true)(k a:Int):doP h k a=if k≠6 then(noH,13)else if cW h.N (bj ((dl h.N h.Items h.D.Sectors).2:Int) (h.D.Sectors.drop 120)).1≠0 then(noH,cW h.N (bj ((dl h.N h.Items h.D.Sectors).2:Int) (h.D.Sectors.drop 120)).1)
  else if(ck h.N h.Items (dl h.N h.Items h.D.Sectors).1 (bj ((dl h.N h.Items h.D.Sectors).2:Int) (h.D.Sectors.drop 120)).1).2≠0 then(noH,(ck h.N h.Items (dl h.N h.Items h.D.Sectors).1 (bj ((dl h.N h.Items h.D.Sectors).2:Int) (h.D.Sectors.drop 120)).1).2)
  else({ h with S:=(ck h.N h.Items (dl h.N h.Items h.D.Sectors).1 (bj ((dl h.N h.Items h.D.Sectors).2:Int) (h.D.Sectors.drop 120)).1).1,Logged:=(ck h.N h.Items (dl h.N h.Items h.D.Sectors).1 (bj ((dl h.N h.Items h.D.Sectors).2:Int) (h.D.Sectors.drop 120)).1).1.Choices.length,Safe:=(ck h.N h.Items (dl h.N h.Items h.D.Sectors).1 (bj ((dl h.N h.Items h.D.Sectors).2:Int) (h.D.Sectors.drop 120)).1).1.Choices.length,Epoch:=((dl h.N h.Items h.D.Sectors).2:Int),Next:=((bj ((dl h.N h.Items h.D.Sectors).2:Int) (h.D.Sectors.drop 120)).2:Int),Down:=false },0):=by
 unfold doP;grind
theorem te (hd:h.Down=false){k:Int}(a:Int)(hk:k≠1/\k≠2/\k≠3/\k≠4/\k≠5/\k≠7):doP h k a=(noH,13):=by simp_all[doP]
theorem Bh (hS:RightS n items):JS n items 0 ⟨n,items,aS n items,noD,0,0,0, -1,0,[],false⟩ where
 N:=rfl
 I:=rfl
 inv:=iA hS
 kv:=pW n items
 e2:=by omega
 okD:=Oq
 held:=MF
 wait:=.log λw hw=>by cases hw
 ep:=λ_=>J
 down:=λh=>by cases h
 laid:=⟨by simp,by simp⟩
 log:=⟨Sj _,Sj _,by simp⟩
 next:=⟨Sj _,by simp⟩
 told:=by simp
variable {s:State}
theorem Inv.ch (hI:Inv n items s):s.Choices.length<=500/\s.Out.length<=2000:=by obtain⟨B,ok,_⟩:=hI;exact⟨ok.ch,ok.out⟩
theorem JS.go (q:SrcQ n items)(j:JS n items E h)(hd:h.Down=false){m:Move}(hm:m∈aB n items h.S):JS n items E { h with S:=doMv n items h.S m }:=by
 have hch:=yU hm;have hle:(h.S.Choices.length:Int)<=((doMv n items h.S m).Choices.length:Int):=by grind
 exact⟨j.N,j.I,(j.inv.doMv q.S hm).1,kv_do q.g j.kv _ _,j.e2,j.okD,j.held,j.wait,j.ep,λh0=>(by grind),⟨j.laid.1,Int.le_trans j.laid.2 hle⟩,⟨j.log.1,j.log.2.1,Int.le_trans j.log.2.2 hle⟩,j.next,j.told⟩
theorem JS.write (j:JS n items E h)(hd:h.Down=false)(hl:¬0<=h.Laid)(h0:(bP h.Epoch.toNat h.D.Sectors (h.S.Choices.drop h.Logged.toNat).length h.Next.toNat (h.S.Choices.drop h.Logged.toNat) h.D.Wait).2.2=0):
  ∃cs:U (U Choice),bP h.Epoch.toNat h.D.Sectors (h.S.Choices.drop h.Logged.toNat).length h.Next.toNat (h.S.Choices.drop h.Logged.toNat) h.D.Wait=(⟨h.D.Sectors,h.D.Wait++wr E h.Next.toNat cs⟩,((h.Next.toNat+cs.length:Nat):Int),0) /\
   h.S.Choices.drop h.Logged.toNat=cs.flatten/\(∀c,c∈cs->je c)/\h.Next.toNat+cs.length<=80 /\
   JS n items E { h with D:=⟨h.D.Sectors,h.D.Wait++wr E h.Next.toNat cs⟩,Next:=((h.Next.toNat+cs.length:Nat):Int),Logged:=h.S.Choices.length }:=by
 have hep:=j.ep hd
 have hE:h.Epoch.toNat=E:=by omega
 rw[hE]at h0⊢
 have hn:=j.next
 obtain⟨cs,h1,h2,h3,h4⟩:=E0 E h.D.Sectors _ h.Next.toNat _ h.D.Wait (RJ _) (by omega) h0
 have hok:=Dx E h.D.Sectors _ h.Next.toNat _ h.D.Wait (by omega) j.okD h0
 rw[h1]at hok
 refine⟨cs,h1,h2,h3,h4,⟨j.N,j.I,j.inv,j.kv,j.e2,hok,j.held,?_,j.ep,λhx=>(by grind),j.laid,⟨j.log.1,by show h.Safe<=(h.S.Choices.length:Int);have:=j.log;omega,by simp⟩,⟨by grind,by grind⟩,j.told⟩⟩
 have hq:decide (0<=h.Laid)=false:=by grind
 have hw:=j.wait.low hq
 show Waits _ E (decide (0<=h.Laid)) _
 rw[hq]
 refine .log λw hw'=>?_
 rcases RY.1 hw' with hw'|hw'
 .grind
 .exact qk E j.e2 _ cs h4 h3 w hw'
theorem JS.flush (j:JS n items E h)(hd:h.Down=false)(a:Int):JS n items (if 0<=h.Laid then E+1 else E) (doP h 3 a).1:=by
 have hdd:¬h.Down=true:=by grind
 have hf:=j.held.flush j.wait;have hokd:bN ⟨aP h.D.Sectors h.D.Wait,[]⟩:=by have:=yG j.okD h.D.Wait.length;grind
 rw[doP_3 hd];by_cases hl:0<=h.Laid
 .rw[if_pos hl,if_pos hl];rw[if_pos (by grind)]at hf;exact⟨j.N,j.I,j.inv,j.kv,j.wait.e (by grind),hokd,hf,.log λw hw=>(by cases hw),λ_=>(by show h.Epoch+1=((E+1:Nat):Int);rw[j.ep hd];omega),λhx=>absurd hx hdd,⟨Sj _,by simp⟩,⟨hl,Sj _,j.laid.2⟩,⟨Sj _,by simp⟩,j.told⟩
 .rw[if_neg hl,if_neg hl];have hq:decide (0<=h.Laid)=false:=by grind
  rw[hq]at hf;exact⟨j.N,j.I,j.inv,j.kv,j.e2,hokd,hf,(by show Waits _ E (decide (0<=h.Laid)) [];rw[hq];exact .log λw hw=>(by cases hw)),j.ep,λhx=>absurd hx hdd,j.laid,⟨by show 0<=h.Logged;have:=j.log;omega,Sj _,j.log.2.2⟩,j.next,j.told⟩
theorem JS.tell (j:JS n items E h):JS n items E { h with Told:=h.Told++(cB h.Told h.S.Out h.Safe).1 }:=
 ⟨j.N,j.I,j.inv,j.kv,j.e2,j.okD,j.held,j.wait,j.ep,j.down,j.laid,j.log,j.next,BN j.told j.inv.ch.2⟩
theorem JS.cut (q:SrcQ n items)(j:JS n items E h)(k:Nat):
  ∃E',(E'=E∨(E'=E+1/\0<=h.Laid/\h.D.Wait.length<=k))/\JS n items E' { h with D:=⟨aP h.D.Sectors (h.D.Wait.take k),[]⟩,S:=aS h.N h.Items,Logged:=0,Safe:=0,Epoch:=0,Laid:= -1,Next:=0,Down:=true }:=by
 have key:∀E',E'<=200->Held (PB n items) E' (aP h.D.Sectors (h.D.Wait.take k))->JS n items E' { h with D:=⟨aP h.D.Sectors (h.D.Wait.take k),[]⟩,S:=aS h.N h.Items,Logged:=0,Safe:=0,Epoch:=0,Laid:= -1,Next:=0,Down:=true }:=λE' h2 hh=>by
  have e:aS h.N h.Items=aS n items:=by rw[j.N,j.I]
  rw[e];exact⟨j.N,j.I,iA q.S,pW n items,h2,yG j.okD k,hh,.log λw hw=>(by cases hw),λhx=>(by cases hx),λ_=>⟨rfl,rfl,rfl,rfl⟩,⟨Sj _,by simp⟩,⟨Sj _,Sj _,by simp⟩,⟨Sj _,by simp⟩,j.told⟩
 rcases j.held.cut j.wait k with hh|⟨hq,hl,hh⟩
 .exact⟨E,.inl J,key E j.e2 hh⟩
 .exact⟨E+1,.inr ⟨J,by grind,hl⟩,key (E+1) (j.wait.e hq) hh⟩
theorem JS.lay (j:JS n items E h)(hd:h.Down=false)(hl:¬0<=h.Laid)(h200:h.Epoch≠200)(hb:¬(60<=((bb h.S).length+49)/ 50∨300<h.D.Wait.length+(((bb h.S).length+49)/ 50+1))):
  JS n items E { h with D:=⟨h.D.Sectors,h.D.Wait++dh E (bb h.S)⟩,Laid:=h.S.Choices.length }:=by
 have hep:=j.ep hd
 have he2:=j.e2
 have hq:decide (0<=h.Laid)=false:=by grind
 have hw:=j.wait.low hq
 have hsl:=xF E (bb h.S)
 refine⟨j.N,j.I,j.inv,j.kv,j.e2,⟨j.okD.1,?_,j.okD.2.2.1,λw hw'=>?_⟩,j.held,?_,j.ep,λhx=>(by grind),⟨by simp,Sj _⟩,j.log,j.next,j.told⟩
 .grind
 .rcases RY.1 hw' with hw'|hw'
  .exact(hw w hw').1
  grind[vP]
 .show Waits _ E (decide (0<=(h.S.Choices.length:Int))) _
  have:decide (0<=(h.S.Choices.length:Int))=true:=by simp
  rw[this]
  exact .slot hw ⟨h.S,j.inv,j.kv,J,by omega⟩ (by omega) (by omega)
theorem L9 (q:SrcQ n items)(hI:Inv n items s)(hk:KV s)(hb:(bb s).length<=3000):iD n items (bb s)=some (s,0):=by have hs:=kv_s q.S hI hk;obtain⟨B,ok,_⟩:=hI;refine Of_eq n items s hs (by grind) (by rw[o4 n items q.io,q.src]) ?_;rw[pO n items s q.io (DF hs).a6,k0 q.src ok]
theorem we (q:SrcQ n items){S:U (U UInt8)}(hh:Held (PB n items) E S):∃s,dl n items S=(s,E)/\Inv n items s/\KV s/\(E=0->s=aS n items)/\(E≠0->dA S (E% 2)=some (bb s,E)/\(bb s).length<=3000):=by
 have low:∀sl st,sl<=1->(sl=E% 2->E=0)->st.2<=E->(fE n items S sl st).2<E∨fE n items S sl st=st:=λsl st hs hne hst=>by
  unfold fE;cases hx:dA S sl with
  |none=>simp
  | some x=>
   simp only;by_cases h1:x.2<=st.2
   .grind
   .rw[if_neg h1];rcases hh.other hs hx with e|e|⟨e1,e2⟩
    all_goals grind
 by_cases h0:E=0
 .subst h0;refine⟨aS n items,?_,iA q.S,pW n items,λ_=>J,λh=>absurd J h⟩;simp_all[dl]
 .obtain⟨b,⟨s,hI,hk,rfl,hb⟩,hg⟩:=hh.own h0;have hof:=L9 q hI hk hb;have hof':ofM n items (bb s)=(s,0):=by grind[ofM]
  have own:∀st:State×Nat,st.2<E->fE n items S (E% 2) st=(s,E):=λst hst=>by simp_all[fE,if_neg]
  refine⟨s,?_,hI,hk,λh=>absurd h h0,λ_=>⟨hg,hb⟩⟩;unfold dl;rcases Nat.mod_two_eq_zero_or_one E with e|e
  .have h1:=own (aS n items,0) (by omega);rw[e]at h1;rw[h1];rcases low 1 (s,E) (by omega) (λh=>by omega) (RJ _)with h|h
   .exfalso;unfold fE at h;grind
   .exact h
  grind[fE]
theorem Oo (q:SrcQ n items)(hI:Inv n items s)(hk:KV s)(l:U Choice):((ck n items s l).2=0->Inv n items (ck n items s l).1/\KV (ck n items s l).1/\(ck n items s l).1.Choices=s.Choices++l)/\((ck n items s l).2≠0->(ck n items s l).1=noS):=by
 unfold ck;by_cases h5:500<s.Choices.length+l.length
 .grind
 rw[if_neg h5];obtain⟨r,e1,e2,e3⟩:=yX q.S q.g (muN n items s+1) s l hI hk (by omega);simp_all
theorem JS.up (q:SrcQ n items)(j:JS n items E h)(hd:h.Down=true){a:Int}(h0:(doP h 6 a).2=0):
  ∃s t,dl n items h.D.Sectors=(s,E)/\Inv n items s/\KV s/\ck n items s (bj (E:Int) (h.D.Sectors.drop 120)).1=(t,0)/\cW n (bj (E:Int) (h.D.Sectors.drop 120)).1=0/\t.Choices=s.Choices++(bj (E:Int) (h.D.Sectors.drop 120)).1 /\
   doP h 6 a=({ h with S:=t,Logged:=t.Choices.length,Safe:=t.Choices.length,Epoch:=(E:Int),Next:=((bj (E:Int) (h.D.Sectors.drop 120)).2:Int),Down:=false },0)/\JS n items E (doP h 6 a).1:=by
 obtain⟨s,hn,hI,hk,_⟩:=we q j.held
 have eN:=j.N
 have eI:=j.I
 subst eN
 subst eI
 rw[gS hd,if_neg (show ¬(6:Int)≠6 by decide),hn]at h0⊢
 simp only at h0⊢
 by_cases h1:cW h.N (bj (E:Int) (h.D.Sectors.drop 120)).1=0
 .rw[if_neg (by omega)]at h0⊢
  by_cases h2:(ck h.N h.Items s (bj (E:Int) (h.D.Sectors.drop 120)).1).2=0
  .rw[if_neg (by omega)]
   obtain⟨g1,g2,g3⟩:=(Oo q hI hk (bj (E:Int) (h.D.Sectors.drop 120)).1).1 h2
   have hsc:=Ec (E:Int) (h.D.Sectors.drop 120)
   have hl:=j.okD.1
   have hdn:=j.down hd
   rw[TF]at hsc
   refine⟨s,(ck h.N h.Items s (bj (E:Int) (h.D.Sectors.drop 120)).1).1,J,hI,hk,Prod.ext J h2,h1,g3,J,?_⟩
   exact⟨J,J,g1,g2,j.e2,j.okD,j.held,j.wait,λ_=>J,λhx=>(by cases hx),⟨j.laid.1,by grind⟩,⟨by simp,Sj _,Sj _⟩,⟨by simp,by grind⟩,j.told⟩
  grind
 grind
theorem Fj {l:U Move}(h:l≠[])(a:Int):dg l a∈l:=(vB h a).1
theorem JS.do (q:SrcQ n items)(j:JS n items E h)(k a:Int)(h0:(doP h k a).2=0):∃E',JS n items E' (doP h k a).1:=by
 by_cases hd:h.Down=true
 .by_cases h6:k=6
  .subst h6;obtain⟨_,_,_,_,_,_,_,_,_,hj⟩:=j.up q hd h0;grind
  simp_all[gS]
 have hdf:h.Down=false:=by grind
 by_cases h1:k=1
 .subst h1;rw[doP_1 hdf]at h0 ⊢;by_cases hr:aB h.N h.Items h.S=[]
  .grind
  .rw[if_neg hr];have eN:=j.N;have eI:=j.I;subst eN;subst eI;exact⟨E,j.go q hdf (Fj hr a)⟩
 by_cases h2:k=2
 .subst h2;rw[doP_2 hdf]at h0 ⊢;by_cases hl:0<=h.Laid
  .grind
  rw[if_neg hl]at h0 ⊢;by_cases he:(bP h.Epoch.toNat h.D.Sectors (h.S.Choices.drop h.Logged.toNat).length h.Next.toNat (h.S.Choices.drop h.Logged.toNat) h.D.Wait).2.2=0
  .obtain⟨cs,e1,_,_,_,hj⟩:=j.write hdf hl he;grind
  grind
 by_cases h3:k=3
 .subst h3;exact⟨_,j.flush hdf a⟩
 by_cases h4:k=4
 .subst h4;rw[doP_4 hdf]at h0 ⊢;by_cases he:(cB h.Told h.S.Out h.Safe).2=0
  .rw[if_neg (by omega)];exact⟨E,j.tell⟩
  grind
 by_cases h5:k=5
 .subst h5;rw[doP_5 hdf]at h0 ⊢;by_cases hc:a<0∨h.D.Wait.length<a
  .grind
  .rw[if_neg hc];obtain⟨E',_,hj⟩:=j.cut q a.toNat;grind
 by_cases h7:k=7
 .subst h7;rw[doP_7 hdf]at h0 ⊢;by_cases hl:0<=h.Laid
  .grind
  rw[if_neg hl]at h0 ⊢;by_cases h200:h.Epoch=200
  .grind
  rw[if_neg h200]at h0 ⊢;by_cases hb:60<=((bb h.S).length+49)/ 50∨300<h.D.Wait.length+(((bb h.S).length+49)/ 50+1)
  .grind
  rw[if_neg hb];have hE:h.Epoch.toNat=E:=by have:=j.ep hdf;omega
  rw[hE];exact⟨E,j.lay hdf hl h200 hb⟩
 grind[te]
end
end
section
section
variable {n:Net} {items:List (List Item)}
abbrev RRun(n:Net)(items:List (List Item)):=Run (bh n items) n (some n.Room.toNat)
def Lim(c:MSt Item Memory (List Choice)):Prop:=c.tr.length<=500/\c.out.length<=2000
variable {w:U (Nat×Nat)}{s:State}{D:MSt Item Memory (U Choice)}
theorem xY {room:QbQ Nat}{c d:MSt Item Memory (U Choice)}(h:Run (bh n items) n room c w d):d.out.length=c.out.length+(w.filter λm=>decide ((ab n m.1).Kind=8)).length:=by
 induction h with
 |nil c=>simp
 | @cons c c1 d m w h t ih=>
  obtain⟨_,x,_,_,rfl⟩:=h;rw[ih];show(if(ab n m.1).Kind=8 then c.out++[_]else c.out).length+_=_;grind
theorem yr (hI:Inv n items s):Lim (aX s):=hI.ch
theorem PW (q:SrcQ n items)(hI:Inv n items s){m:Nat×Nat}(hr:RRun n items (aX s) (m::w) D)(hl:Lim D):(⟨m.1,m.2⟩:Move)∈aB n items s:=by
 cases hr with
 | @cons _ c1 _ _ _ h0 t0=>
  refine r7 h0.1.1 h0.1.2 (vh q.S h0 (λh6 e=>?_) (λh8 e=>?_))
  .have h1:=jP (Run.cons h0 t0);rw[fJ,if_pos h6]at h1;have h2:=congrArg List.length h1;rw[RN,R8]at h2;have h3:(aX s).tr.length=500:=e;have:=hl.1;omega
  .have h1:=xY (Run.cons h0 t0);rw[S6 (by grind),R8]at h1;have h3:(aX s).out.length=2000:=e;have:=hl.2;omega
theorem Kf (q:SrcQ n items)(hI:Inv n items s){i k:Nat}(hi:i<n.Nodes.length)(hk:k<bD (ab n i))(hc:eG n items s i k=true)(h6:(ab n i).Kind≠6)(hr:RRun n items (aX s) w D)(hl:Lim D):
  ∃w' D',RRun n items (aX (doM n items s i k)) w' D'/\Lim D'/\chW n w'=chW n w:=by
 have hR:=q.S.toRightN
 have hsrc:=pX q.S
 obtain⟨B,ok,hB⟩:=id hI
 have hx:=yN q.S ok hi hk hc
 rcases xH (nG hr) hx.1 h6 with hp|⟨p,q',e,hp⟩
 .obtain⟨e,e1,e2⟩:=so hR hsrc hr hx hp (.inl h6)
  refine⟨w,e,e1,⟨?_,?_⟩,J⟩
  .have t1:=jP e1
   have t2:=jP hr
   have t3:(aX (doM n items s i k)).tr=(aX s).tr:=by obtain⟨_,x,_,_,e3⟩:=hx;rw[e3];show(if(ab n i).Kind=6 then _ else _)=_;grind
   rw[t1,t3,<- t2];exact hl.1
  .have o1:=xY e1
   have o2:=xY hr
   obtain⟨_,x,_,_,e3⟩:=id hx
   have o3:(aX (doM n items s i k)).out.length=(aX s).out.length+(if(ab n i).Kind=8 then 1 else 0):=by rw[e3];show(if(ab n i).Kind=8 then(aX s).out++[_]else(aX s).out).length=_;grind
   by_cases h8:(ab n i).Kind=8
   .have hf:(w.filter λm=>decide ((ab n m.1).Kind=8))=[]:=by
     rw[List.filter_eq_nil_iff];intro m hm h;have h8':(ab n m.1).Kind=8:=by simpa using h
     have hv:=nG hr m hm;have:m.1=i:=hR.sink1 m.1 i hv.1 hi h8' h8;have hmem:m∈bI i w:=SL.2 ⟨hm,by grind⟩;grind
    obtain⟨it,hh,_,_,h2000⟩:=nK hc
    have:s.Out.length≠2000:=h2000 h8
    have h3:(aX s).out.length=s.Out.length:=rfl
    have:=hI.ch.2
    grind
   .rw[if_neg h8]at o3
    have:=hl.2
    omega
 .subst e
  refine⟨p++q',D,vi hR hsrc hr hx hp (.inl h6),hl,?_⟩
  simp_all[jL,fJ]
theorem yC (q:SrcQ n items):∀(f:Nat) (s:State) (l r:U Choice) (w:U (Nat×Nat)) (D:MSt Item Memory (U Choice)),Inv n items s->muN n items s<f->RRun n items (aX s) w D->chW n w=l++r->Lim D ->
  ∃t u w' D',repM n items f s l=some (t,0)/\Inv n items t/\RRun n items (aX s) u (aX t)/\chW n u=l/\RRun n items (aX t) w' D'/\chW n w'=r/\Lim D'
 |f,s,[],r,w,D,hI,hf,hr,hc,hl=>⟨s,[],w,D,by cases f<;>rfl,hI,.nil _,rfl,hr,hc,hl⟩
 |0,s,c::l,r,w,D,hI,hf,hr,hc,hl=>by omega
 | f + 1,s,c::l,r,w,D,hI,hf,hr,hc,hl=>by
  have hR:=q.S.toRightN;have hsrc:=pX q.S;obtain⟨B,ok,hB⟩:=id hI;have hex:∃m,(aB n items s).find? (fN n c)=some m:=by
   cases w with
   |nil=>cases hc
   | cons m0 w0=>
    have hm:=PW q hI hr hl;cases hfd:(aB n items s).find? (fN n c)with
    |some m=>simp
    |none=>
     exfalso;have:=List.find?_eq_none.1 hfd _ hm;apply this;unfold fN;simp only[R7];by_cases h6:(ab n m0.1).Kind=6
     .rw[fJ,if_pos h6]at hc;grind
     .simp[h6]
  obtain⟨m,hfd⟩:=hex;have hmem:=SM hfd;have hag:=List.find?_some hfd;obtain⟨h1,h2⟩:=hI.doMv q.S hmem;obtain⟨i,k,hm,hi,hk,hcan⟩:=hU hmem;subst hm;have hdo:doMv n items s ⟨(i:Int),(k:Int)⟩=doM n items s i k:=by rfl
  unfold fN at hag;simp only[R7]at hag;rw[hdo]at h1 h2;have hx:=yN q.S ok hi hk hcan;unfold repM;rw[hfd];simp only[hdo,R7];by_cases h6:(ab n i).Kind=6
  .rw[if_pos h6];simp only[h6,decide_true,Th,Bool.false_or,SR,decide_eq_true_eq]at hag;obtain⟨p,q',m',e1,e2,e3,e4,e5⟩:=KW hc;have em:m'=(i,k):=by
    grind
   subst em;subst e1;have hpull:=vi hR hsrc hr hx (Bm e2 h6) (.inr e2);obtain⟨t,u,w',D',g1,g2,g3,g4,g5,g6,g7⟩:=yC q f (doM n items s i k) l r (p++q') D h1 (by omega) hpull (by rw[jL,e2,e3];rfl) hl;refine⟨t,(i,k)::u,w',D',g1,g2,.cons hx g3,?_,g5,g6,g7⟩;rw[fJ,if_pos h6,g4,e5]
  .rw[if_neg h6];obtain⟨w1,D1,r1,r2,r3⟩:=Kf q hI hi hk hcan h6 hr hl;obtain⟨t,u,w',D',g1,g2,g3,g4,g5,g6,g7⟩:=yC q f (doM n items s i k) (c::l) r w1 D1 h1 (by omega) r1 (by rw[r3,hc]) r2;refine⟨t,(i,k)::u,w',D',g1,g2,.cons hx g3,?_,g5,g6,g7⟩;simp_all[fJ]
end
end
section
theorem BU(l:U Choice)(hl:l.length<=1000000)(i:Nat):∀(m k:Nat),k+m=l.length ->
  iter (λak:Int×Int=>lC l (i:Int) ak.1 ak.2) (((bp (l.take k) i).length:Int),(k:Int))=some ((bp l i).length:Int)
 |0,k,h=>by
  have hk:k=l.length:=by omega
  subst hk;have e:lC l (i:Int) ((bp (l.take l.length) i).length:Int) (l.length:Int)=some (.inr ((bp l i).length:Int)):=by unfold lC;rw[if_neg (by simp),SS];rfl
  rw[aE];simp only[e]
 | m+1,k,h=>by
  have hlt:k<l.length:=by omega
  have hg:l[k]?=some l[k]:=RG hlt;have hle:=rW (l.take k) i;rw[S2]at hle;have e:lC l (i:Int) ((bp (l.take k) i).length:Int) (k:Int)=some (.inl (((bp (l.take (k+1)) i).length:Int),((k+1:Nat):Int))):=by
   unfold lC;rw[if_pos (by simp;omega),bv hg,RF,pJ hg,rI,bf (by omega)];by_cases hi:l[k].Node=(i:Int)
   .rw[if_pos (show(l[k].Node==(i:Int))=true by simpa using hi),if_pos hi,bf (by omega)];simp
   .rw[if_neg (show ¬(l[k].Node==(i:Int))=true by simpa using hi),if_neg hi,bf (by omega)]
  rw[aE];simp only[e];exact BU l hl i m (k+1) (by omega)
theorem MJ(l:U Choice)(hl:l.length<=1000000)(i:Nat):rT l (i:Int)=some ((bp l i).length:Int):=by have:=BU l hl i l.length 0 (by omega);unfold rT;exact this
def nextI(l:List Int)(k:Nat):Int:=match l[k]? with|some x=>x|none=> -1
theorem IP(c:Choice)(l:U Choice)(i:Nat):bp (c::l) i=if c.Node=(i:Int)then c.Lane::bp l i else bp l i:=by unfold bp;grind
theorem xB(l:U Choice)(hl:l.length<=1000000)(i:Nat):∀(m k q:Nat),k+m=l.length->q<=1000000 ->
  iter (λaU:Int×Int=>jA l (i:Int) aU.1 aU.2) ((q:Int),(k:Int))=some (nextI (bp (l.drop k) i) q)
 |0,k,q,h,hq=>by
  have hk:k=l.length:=by omega
  subst hk;have e:jA l (i:Int) (q:Int) (l.length:Int)=some (.inr (-1)):=by unfold jA;rw[if_neg (by simp)];rfl
  rw[aE];simp only[e,Sr];rfl
 | m+ 1,k,q,h,hq=>by
  have hlt:k<l.length:=by omega
  have hg:l[k]?=some l[k]:=RG hlt;rw[RL hlt,IP,aE];have hstep:∀z,jA l (i:Int) (q:Int) (k:Int)=some z->z=(if l[k].Node=(i:Int)then if q=0 then .inr l[k].Lane else .inl (((q- 1:Nat):Int),((k+1:Nat):Int))else .inl ((q:Int),((k+1:Nat):Int))):=λz hz=>by
   unfold jA at hz;rw[if_pos (by simp;omega),bv hg,RF,bf (by omega)]at hz;by_cases hi:l[k].Node=(i:Int)
   .rw[if_neg (show ¬(l[k].Node !=(i:Int))=true by simpa using hi)]at hz;rw[if_pos hi];by_cases h0:q=0
    .rw[if_pos (show((q:Int)==0)=true by simpa using h0)]at hz;rw[if_pos h0];cases hz;rfl
    .rw[if_neg (show ¬((q:Int)==0)=true by simpa using h0),bG (by omega) (by omega)]at hz;rw[if_neg h0,<- RR hz];congr 2;omega
   .rw[if_pos (show(l[k].Node !=(i:Int))=true by simpa using hi)]at hz;rw[if_neg hi];exact(RR hz).symm
  have htot:∃z,jA l (i:Int) (q:Int) (k:Int)=some z:=by
   unfold jA;rw[if_pos (by simp;omega),bv hg,RF];split
   .exact⟨_,J⟩
   .split<;>exact⟨_,J⟩
  obtain⟨z,hz⟩:=htot;have he:=hstep z hz;simp only[hz,he];by_cases hi:l[k].Node=(i:Int)
  .rw[if_pos hi,if_pos hi];by_cases h0:q=0
   .subst h0;rw[if_pos J];rfl
   .rw[if_neg h0];simp only;rw[xB l hl i m (k+1) (q- 1) (by omega) (by omega)];obtain⟨q',rfl⟩:=Nat.exists_eq_succ_of_ne_zero h0;simp[nextI]
  .rw[if_neg hi,if_neg hi];exact xB l hl i m (k+1) q (by omega) hq
theorem NM(l:U Choice)(hl:l.length<=1000000)(i q:Nat)(hq:q<=1000000):rZ l (i:Int) (q:Int)=some (nextI (bp l i) q):=by have:=xB l hl i l.length 0 q (by omega) hq;unfold rZ;exact this
def cy(n:Net)(ch forced:List Choice)(m:Move):Bool:=
 if 0<=m.Node/\m.Node<(n.Nodes.length:Int)/\(ab n m.Node.toNat).Kind=6 then
  match(bp forced m.Node.toNat)[(bp ch m.Node.toNat).length]? with
  |some l=>decide (l=m.Lane)
  |none=>true
 else true
theorem LD{n:Net}{l:U Choice}(hC:RightC n l){i:Nat}:∀x,x∈bp l i->0<=x:=λx hx=>by obtain⟨c,hc,rfl⟩:=R3.1 hx;exact(hC.each c (SL.1 hc).1).2.2.2.1
theorem xE{n:Net}{forced:U Choice}(hC:RightC n forced)(s:State)(hch:s.Choices.length<=1000000)(m:Move)(R Q:Int):oN m n.Nodes R Q forced s.At s.Rings s.Memory s.Choices s.Out=some (!cy n s.Choices forced m):=by
 unfold oN;by_cases h0:m.Node<0
 .have e:cy n s.Choices forced m=true:=by unfold cy;rw[if_neg (by omega)]
  rw[e,if_pos (show decide (m.Node<0)=true by simpa using h0)];rfl
 rw[if_neg (show ¬decide (m.Node<0)=true by simpa using h0)];by_cases h1:m.Node>=(n.Nodes.length:Int)
 .have e:cy n s.Choices forced m=true:=by unfold cy;rw[if_neg (by omega)]
  rw[e,if_pos (show decide (m.Node>=(n.Nodes.length:Int))=true by simpa using h1)];rfl
 rw[if_neg (show ¬decide (m.Node>=(n.Nodes.length:Int))=true by simpa using h1)];have hi:idx n.Nodes m.Node=some (ab n m.Node.toNat):=jg _ (by omega) (by omega);rw[hi,RF,RF];by_cases h6:(ab n m.Node.toNat).Kind=6
 .rw[if_neg (show ¬((ab n m.Node.toNat).Kind !=6)=true by simp[h6])];obtain⟨i,hmi⟩:∃i:Nat,m.Node=(i:Int):=⟨m.Node.toNat,by omega⟩
  have hle:=rW s.Choices i;have hl:=hC.len;rw[hmi,MJ _ hch,RF,NM _ (by omega) i _ (by omega),RF];have e:cy n s.Choices forced m=match(bp forced i)[(bp s.Choices i).length]? with|some l=>decide (l=m.Lane)|none=>true:=by unfold cy;rw[if_pos ⟨by omega,by omega,h6⟩,hmi];rfl
  rw[e];unfold nextI;cases hx:(bp forced i)[(bp s.Choices i).length]? with
  |none=>rfl
  | some x=>
   have:=LD hC x (RI hx);by_cases hxl:x=m.Lane
   .simp[hxl]
   .have h2:(x !=m.Lane)=true:=by simpa using hxl
    simp[hxl,this]
 .have e:cy n s.Choices forced m=true:=by unfold cy;rw[if_neg (λh=>h6 h.2.2)]
  rw[e,if_pos (show((ab n m.Node.toNat).Kind !=6)=true by simpa using h6)];rfl
section
variable {n:Net} {forced:List Choice} {s:State} (hC:RightC n forced) (hch:s.Choices.length≤1000000) (R Q:Int)
include hC hch
theorem My (l:U Move)(hl:l.length<=1099511627776):q5 l n.Nodes R Q forced s.At s.Rings s.Memory s.Choices s.Out=some (idxI (λm=>!cy n s.Choices forced m) l):=by
 unfold q5;rw[u0 l hl (λm=>!cy n s.Choices forced m) (λk x hx hk h1 h2 h3=>by
  unfold qX;rw[h2,cP hk,h3];simp only[if_true,RF,hx];rw[xE hC s hch,RF];rfl) (λh=>by
  unfold qX;rw[h];rfl)]
theorem DY (l:U Move)(hl:l.length<=1099511627776):∀(m j:Nat) (a:Move) (mid:U Move),j+m=l.length->((l.take j).filter (cy n s.Choices forced)).length+(mid.length+1)=j ->
  iter (λbO:Int×Int×(U Move)=>jw n.Nodes R Q forced s.At s.Rings s.Memory s.Choices s.Out bO.1 bO.2.1 bO.2.2)
   ((((l.take j).filter (cy n s.Choices forced)).length:Int),(j:Int),(l.take j).filter (cy n s.Choices forced)++(a::mid)++l.drop j)=some (l.filter (cy n s.Choices forced))
 | 0,j,a,mid,h,hm=>by
  have hj:j=l.length:=by omega
  subst hj;rw[SS]at hm ⊢;rw[Sr,Sg];generalize hF:l.filter (cy n s.Choices forced)=F at hm ⊢;have hlen:(F++a::mid).length=l.length:=by simp;omega
  have e:jw n.Nodes R Q forced s.At s.Rings s.Memory s.Choices s.Out (F.length:Int) (l.length:Int) (F++a::mid)=some (.inr F):=by
   unfold jw;rw[if_neg (by rw[hlen];simp)];have v1:∀x y:Int,0<=x->x<=y->y<=((F++a::mid).length:Int)->vwok (F++a::mid).length x y=some ():=λx y h1 h2 h3=>by unfold vwok;rw[if_pos ⟨h1,h2,h3⟩]
   rw[v1 _ _ (by omega) (by simp;omega) (by omega),RF,v1 _ _ (by omega) (by omega) (by simp;omega),RF];have hs:sub (clr (F++a::mid) ((F.length:Int).toNat) ((((F++a::mid).length:Int)).toNat- (F.length:Int).toNat) (⟨0,0⟩:Move)) 0 (F.length:Int)=some F:=by
    unfold clr;have:((F++a::mid).take ((F.length:Int).toNat))=F:=by simp
    rw[this,RT,sub_0 (by simp)];simp
   rw[hs];rfl
  rw[aE];simp only[e]
 | m+ 1,j,a,mid,h,hm=>by
  have hlt:j<l.length:=by omega
  have hg:l[j]?=some l[j]:=RG hlt;have htk:(l.take (j+1)).filter (cy n s.Choices forced)=(l.take j).filter (cy n s.Choices forced)++if cy n s.Choices forced l[j]=true then[l[j]]else[]:=by
   rw[pJ hg,List.filter_append];congr 1;by_cases hk:cy n s.Choices forced l[j]=true
   .rw[if_pos hk,S6 hk];rfl
   .rw[if_neg hk,SU hk];rfl
  have hd:l.drop j=l[j]::l.drop (j+1):=RL hlt;have ih:=DY l hl m (j+1);rw[htk]at ih;generalize (l.take j).filter (cy n s.Choices forced)=F at hm htk ih ⊢;have hlen:(F++(a::mid)++l.drop j).length=l.length:=by simp;omega
  have hgj:(F++(a::mid)++l.drop j)[j]?=some l[j]:=by
   rw[hd,Sn (by simp;omega)];have:j- (F++a::mid).length=0:=by simp;omega
   rw[this];rfl
  have hgF:(F++(a::mid)++l.drop j)[F.length]?=some a:=by rw[RT,Sn (RJ _),Tc];rfl
  rw[aE];by_cases hk:cy n s.Choices forced l[j]=true
  .have e:jw n.Nodes R Q forced s.At s.Rings s.Memory s.Choices s.Out (F.length:Int) (j:Int) (F++(a::mid)++l.drop j)=some (.inl (((F++[l[j]]).length:Int),((j+1:Nat):Int),F++[l[j]]++(mid++[l[j]])++l.drop (j+1))):=by
    unfold jw;rw[if_pos (by rw[hlen];simp;omega),cP (by rw[hlen];omega),RF,hgj,RF,xE hC s hch,RF,hk];simp only[Th,Bool.not_false,if_true];rw[cP (by rw[hlen];omega),RF,hgF,RF,bf (by omega),bf (by omega)];have hset:(F++(a::mid)++l.drop j).set F.length l[j]=F++[l[j]]++(mid++[l[j]])++l.drop (j+1):=by rw[hd,RT,List.set_append_right _ _ (RJ _),Tc];simp
    rw[hset];simp
   simp only[e];rw[if_pos hk]at ih;cases hmd:mid++[l[j]]with
   |nil=>simp at hmd
   |cons b md=>
    have hml:md.length+1=mid.length+1:=by have:=congrArg List.length hmd;simp at this;omega
    exact ih b md (by omega) (by simp;omega)
  .have e:jw n.Nodes R Q forced s.At s.Rings s.Memory s.Choices s.Out (F.length:Int) (j:Int) (F++(a::mid)++l.drop j)=some (.inl ((F.length:Int),((j+1:Nat):Int),F++(a::(mid++[l[j]]))++l.drop (j+1))):=by
    unfold jw;rw[if_pos (by rw[hlen];simp;omega),cP (by rw[hlen];omega),RF,hgj,RF,xE hC s hch,RF];have hf:cy n s.Choices forced l[j]=false:=by simpa using hk
    rw[hf];simp only[Th,Bool.not_false,if_true,RU,if_false];rw[bf (by omega),hd];simp
   simp only[e];rw[if_neg hk,Sg]at ih;exact ih a (mid++[l[j]]) (by omega) (by simp;omega)
variable {l:U Move}{p:Move->Bool}
omit hC hch in
theorem KM (h:idxI p l= -1):∀x,x∈l->p x=false:=by have:=ym p l;grind
omit hC hch in
theorem Kt (h:idxI p l≠ -1):∃k:Nat,∃x,idxI p l=(k:Int)/\l[k]?=some x/\p x=true/\∀(j:Nat) y,j<k->l[j]?=some y->p y=false:=by
 unfold idxI at h ⊢;cases hf:l.findIdx? p with
 |none=>grind
 |some k=>
  grind[List.findIdx?_eq_some_iff_getElem]
theorem JE (l:U Move)(hl:l.length<=1099511627776)(hn:n.Nodes.length<=1000000):jB n s forced l=some (l.filter (cy n s.Choices forced)):=by
 unfold jB uy um;rw[cC (by simpa using hl),RF,SG,My hC hch _ _ l hl,RF];by_cases h:idxI (λm=>!cy n s.Choices forced m) l= -1
 .rw[h,if_pos (by decide),RF];congr 1;refine(List.filter_eq_self.2 λx hx=>?_).symm;have:=KM h x hx;simpa using this
 .rw[if_neg (show ¬(idxI (λm=>!cy n s.Choices forced m) l== -1)=true by simpa using h)];obtain⟨k,x,hk,hx,hp,hb⟩:=Kt h;rw[hk];have hlt:=(RH.1 hx).1;have hF:(l.take k).filter (cy n s.Choices forced)=l.take k:=List.filter_eq_self.2 λy hy=>by
   obtain⟨j,hj⟩:=RX hy;rw[Sm]at hj;split at hj
   .rename_i hjk;have:=hb j y hjk hj;simpa using this
   .cases hj
  have hF1:(l.take (k+1)).filter (cy n s.Choices forced)=l.take k:=by rw[pJ hx,List.filter_append,hF,SU (by simpa using hp)];simp
  have hmin:(l.take k).length=k:=by rw[S2];omega
  have:=DY hC hch n.Rings n.Room l hl (l.length- (k+1)) (k+1) x [] (by omega) (by rw[hF1,hmin];rfl);rw[hF1,hmin]at this;have hl2:l.take k++[x]++l.drop (k+1)=l:=by rw[<- pJ hx,So]
  rw[hl2]at this;rw[bf (by omega),this];rfl
end
end
noncomputable section
def bW(n:Net)(items:List (List Item))(forced:List Choice)(s:State):List Move:=(aB n items s).filter (cy n s.Choices forced)
def tw(n:Net)(items:List (List Item))(forced:List Choice):List Int->State->State
 |[],s=>s
 |c::cs,s=>if bW n items forced s=[]then s else tw n items forced cs (doMv n items s (dg (bW n items forced s) c))
def iK(n:Net)(items:List (List Item))(forced:List Choice):Nat->State->State
 |0,s=>s
 |f+1,s=>match bW n items forced s with
  |[]=>s
  |m::_=>iK n items forced f (doMv n items s m)
section
variable {n:Net} {items:List (List Item)} {forced:List Choice} {B:Int} {s:State}
theorem lV{m:Move}(h:m∈bW n items forced s):m∈aB n items s:=(SL.1 h).1
theorem Ki(hR:RightN n):(bW n items forced s).length<=192:=SA (List.length_filter_le _ _) (nC hR)
theorem Dk(hS:RightS n items):∀(f:Nat) (s:State),Inv n items s->muN n items s<=f->bW n items forced (iK n items forced f s)=[]
 |0,s,h,hf=>by
  show bW n items forced s=[]
  cases hr:bW n items forced s with
  |nil=>rfl
  |cons m l=>have:=(Inv.doMv hS h (show m∈aB n items s from lV (forced:=forced) (by grind))).2;omega
 |f+1,s,h,hf=>by
  unfold iK;split
  .assumption
  .rename_i m l hm;have:=Inv.doMv hS h (show m∈aB n items s from lV (forced:=forced) (by grind));exact Dk hS f _ this.1 (by omega)
section
variable (hio:∀x∈n.Nodes,x.In.length≤1099511627776∧x.Out.length≤1099511627776) (hsrc:bt n items=0) (hC:RightC n forced)
include hio hsrc
theorem sM(ok:OkS n items B s):fk n items s=some (aB n items s,0):=by
 have hS:=eq hsrc;rw[yd n items s hio (λl hl=>by obtain⟨r,hr⟩:=RX hl;have:=ok.room r l hr;have:=hS.m2;omega),if_neg (by grind[k0])]
include hC
omit hio in
theorem yi(ok:OkS n items B s):jB n s forced (aB n items s)=some (bW n items forced s):=by have hS:=eq hsrc;have h192:=nC (items:=items) (s:=s) hS.toRightN;have:=hS.n2;have:=ok.ch;exact JE hC (by omega) _ (by omega) (by omega)
theorem BR(p:U Int)(hp:p.length<=2000):∀(m j:Nat) (s:State),j+m=p.length->Inv n items s ->
  iter (λss:Int×(U Int)×(U (U Item))×(U Memory)×(U Choice)×(U Item)=>jz n items forced p ss.1 ss.2.1 ss.2.2.1 ss.2.2.2.1 ss.2.2.2.2.1 ss.2.2.2.2.2) ((j:Int),s.At,s.Rings,s.Memory,s.Choices,s.Out)=some (tw n items forced (p.drop j) s,0)
 |0,j,s,h,hI=>by
  have hj:j=p.length:=by omega
  subst hj;have e:jz n items forced p (p.length:Int) s.At s.Rings s.Memory s.Choices s.Out=some (.inr (s,0)):=by unfold jz;rw[if_neg (by simp)];rfl
  rw[aE];simp only[e,Sr,tw]
 | m+1,j,s,h,hI=>by
  have hS:=eq hsrc;have hlt:j<p.length:=by omega
  obtain⟨B,ok,hB⟩:=hI;have hrd:fk n items (⟨s.At,s.Rings,s.Memory,s.Choices,s.Out⟩:State)=some (aB n items s,0):=sM hio hsrc ok;have hal:jB n (⟨s.At,s.Rings,s.Memory,s.Choices,s.Out⟩:State) forced (aB n items s)=some (bW n items forced s):=yi hsrc hC ok;rw[RL hlt,tw,aE];by_cases h0:bW n items forced s=[]
  .have e:jz n items forced p (j:Int) s.At s.Rings s.Memory s.Choices s.Out=some (.inr (s,0)):=by
    unfold jz;rw[if_pos (by simp;omega),bv (RG hlt),RF,hrd,RF,hal,RF,h0,if_pos (by simp)];rfl
   simp only[e];rw[if_pos h0]
  .obtain⟨hmem,hix⟩:=vB h0 p[j];have hpos:0<(bW n items forced s).length:=SX.2 h0;have h192:=Ki (items:=items) (forced:=forced) (s:=s) hS.toRightN;have hrem:=Gu p[j] (bW n items forced s).length hpos (by omega);obtain⟨r1,hr1,hr2⟩:=bind_some hrem;have hn:=Tk p[j] (show((bW n items forced s).length:Int)≠0 by omega);have hget:(bW n items forced s)[(p[j]% ((bW n items forced s).length:Int)).toNat]?=some (dg (bW n items forced s) p[j]):=dZ _ hix;have hdo:fq n items (⟨s.At,s.Rings,s.Memory,s.Choices,s.Out⟩:State) (dg (bW n items forced s) p[j])=some (doMv n items s (dg (bW n items forced s) p[j]),0):=vG hsrc ok (lV hmem) hio;have e:jz n items forced p (j:Int) s.At s.Rings s.Memory s.Choices s.Out=some (.inl (((j+1:Nat):Int),(doMv n items s (dg (bW n items forced s) p[j])).At,(doMv n items s (dg (bW n items forced s) p[j])).Rings,(doMv n items s (dg (bW n items forced s) p[j])).Memory,(doMv n items s (dg (bW n items forced s) p[j])).Choices,(doMv n items s (dg (bW n items forced s) p[j])).Out)):=by
    unfold jz;rw[if_pos (by simp;omega),bv (RG hlt),RF,hrd,RF,hal,RF,if_neg (by simp;omega),hr1,RF,hr2,RF,ixN_D hn (by omega),RF,hget,RF,hdo,RF,bf (by omega)]
   simp only[e];rw[if_neg h0];exact BR p hp m (j+1) _ (by omega) (Inv.doMv hS ⟨B,ok,hB⟩ (lV hmem)).1
theorem K0:∀(f:Nat) (s:State),Inv n items s->bW n items forced (iK n items forced f s)=[] ->
  iter (λss:(U Int)×(U (U Item))×(U Memory)×(U Choice)×(U Item)=>ko n items forced ss.1 ss.2.1 ss.2.2.1 ss.2.2.2.1 ss.2.2.2.2) (s.At,s.Rings,s.Memory,s.Choices,s.Out)=some (iK n items forced f s,0):=by
 have hS:=eq hsrc
 have stop:∀s,Inv n items s->bW n items forced s=[]->iter (λss:(U Int)×(U (U Item))×(U Memory)×(U Choice)×(U Item)=>ko n items forced ss.1 ss.2.1 ss.2.2.1 ss.2.2.2.1 ss.2.2.2.2) (s.At,s.Rings,s.Memory,s.Choices,s.Out)=some (s,0):=λs hI h=>by
  obtain⟨B,ok,hB⟩:=hI;have hrd:fk n items (⟨s.At,s.Rings,s.Memory,s.Choices,s.Out⟩:State)=some (aB n items s,0):=sM hio hsrc ok;have hal:jB n (⟨s.At,s.Rings,s.Memory,s.Choices,s.Out⟩:State) forced (aB n items s)=some (bW n items forced s):=yi hsrc hC ok;have e:ko n items forced s.At s.Rings s.Memory s.Choices s.Out=some (.inr (s,0)):=by unfold ko;rw[hrd,RF,hal,RF,h,if_pos (by simp)];rfl
  rw[aE];simp only[e]
 intro f
 induction f with
 |zero=>intro s h hr;exact stop s h hr
 | succ f ih=>
  intro s h hr
  unfold iK at hr⊢
  split at hr
  .rename_i h0;first|exact stop s h h0|(simp only[h0];exact stop s h h0)
  .rename_i m l hm
   have hI:=h
   obtain⟨B,ok,hB⟩:=h
   have hmem:m∈bW n items forced s:=by rw[hm];exact RM
   have hrd:fk n items (⟨s.At,s.Rings,s.Memory,s.Choices,s.Out⟩:State)=some (aB n items s,0):=sM hio hsrc ok
   have hal:jB n (⟨s.At,s.Rings,s.Memory,s.Choices,s.Out⟩:State) forced (aB n items s)=some (bW n items forced s):=yi hsrc hC ok
   have hdo:fq n items (⟨s.At,s.Rings,s.Memory,s.Choices,s.Out⟩:State) m=some (doMv n items s m,0):=vG hsrc ok (lV hmem) hio
   have e:ko n items forced s.At s.Rings s.Memory s.Choices s.Out=some (.inl ((doMv n items s m).At,(doMv n items s m).Rings,(doMv n items s m).Memory,(doMv n items s m).Choices,(doMv n items s m).Out)):=by
    unfold ko;have h0:ixN (m::l) 0=some 0:=by unfold ixN;rw[if_pos (by simp<;>omega)];rfl
    rw[hrd,RF,hal,RF,hm,if_neg (by simp<;>omega),h0,RF];show Option.bind (some m) _=_;rw[RF,hdo,RF]
   rw[aE]
   simp only[e]
   have:=ih _ (Inv.doMv hS hI (lV hmem)).1 hr
   simpa only[hm]using this
end
theorem LF(n:Net)(items:U (U Item))(forced:U Choice)(p:U Int)(hio:∀x∈n.Nodes,x.In.length<=1099511627776/\x.Out.length<=1099511627776):
  pz n items forced p=some (if bt n items≠0 then(noS,bt n items)else if cW n forced≠0 then(noS,cW n forced)else if 2000<p.length then(noS,2)else(tw n items forced p (aS n items),0)):=by
 unfold pz gM
 rw[o4 n items hio,RF]
 by_cases h:bt n items=0
 .have hS:=eq h
  rw[if_neg (by simp[h]),if_neg (by simp[h]),yn hS hio,RF,RF,if_neg (by simp),uH n hio,RF]
  by_cases hc:cW n forced=0
  .rw[if_neg (show ¬(cW n forced !=0)=true by simp[hc]),if_neg (show ¬cW n forced≠0 by simp[hc])]
   by_cases hp:2000<p.length
   .rw[if_pos (by simp;omega),if_pos hp];rfl
   .rw[if_neg (by simp;omega),if_neg hp]
    have:=BR hio h (CM hc) p (by omega) p.length 0 (aS n items) (by omega) (iA hS)
    rw[Ss,Sy]at this
    exact this
  .rw[if_pos (by simpa using hc),if_pos hc];rfl
 .rw[if_pos (by simpa using h),if_pos h,RF,if_pos (by simpa using h)];rfl
theorem JY(n:Net)(items:U (U Item))(forced:U Choice)(s:State)(hsrc:bt n items=0)(hC:RightC n forced)(hI:Inv n items s)(hio:∀x∈n.Nodes,x.In.length<=1099511627776/\x.Out.length<=1099511627776){f:Nat}
  (hf:bW n items forced (iK n items forced f s)=[]):pj n items forced s=some (iK n items forced f s,0):=by
 have hS:=eq hsrc
 have hI2:=hI
 obtain⟨B,ok,hB⟩:=hI
 unfold pj
 rw[pO n items s hio (λl hl=>by obtain⟨r,hr⟩:=RX hl;have:=ok.room r l hr;have:=hS.m2;omega),k0 hsrc ok,RF,if_neg (by simp),uH n hio,si hC,RF,if_neg (by simp),yx hS ok,RF]
 exact K0 hio hsrc hC f s hI2 hf
def tfinS(n:Net)(items:List (List Item))(forced:List Choice)(s:State):State:=iK n items forced (muN n items s) s
theorem KC(hS:RightS n items)(hI:Inv n items s):bW n items forced (tfinS n items forced s)=[]:=Dk hS _ s hI (RJ _)
end
end
section
theorem sW{α:Type}(l:U α)(h:l.length<=1099511627776):app ([]:U α) l=some l:=by grind[cC]
section
variable {n:Net} {items:List (List Item)} {B:Int} {s:State}
end
end
theorem vC(n:Net)(items:U (U Item))(hio:∀x∈n.Nodes,x.In.length<=1099511627776/\x.Out.length<=1099511627776):gM n items=some (if bt n items≠0 then(noS,bt n items)else(aS n items,0)):=by
 unfold gM;rw[o4 n items hio,RF];by_cases h:bt n items=0
 .simp_all[yn,eq]
 .rw[if_pos (show(bt n items !=0)=true by simpa using h),if_pos h];rfl
section
section
variable {n:Net}{l:U (U Item)}
theorem AH (hN:n.Nodes.length<=1000)(hio:∀x∈n.Nodes,x.In.length<=1099511627776/\x.Out.length<=1099511627776):∀(m k:Nat),k+m=n.Nodes.length ->
  iter (λss:Int×(U Node)=>iv n n.Nodes ss.1 ss.2) ((k:Int),n.Nodes)=some n
 |0,k,h=>by
  simp_all[iv,aE]
 |m+1,k,h=>by
  have hlt:k<n.Nodes.length:=by omega
  have hx:n.Nodes[k]?=some n.Nodes[k]:=RG hlt;have hio':=hio n.Nodes[k] (R6 hlt);generalize n.Nodes[k]=x at hx hio';have hs:List.set n.Nodes k x=n.Nodes:=vM hx;have c1:km x.In=some x.In:=sW _ hio'.1;have c2:km x.Out=some x.Out:=sW _ hio'.2;have e:iv n n.Nodes (k:Int) n.Nodes=some (.inl (((k+1:Nat):Int),n.Nodes)):=by unfold iv;rw[if_pos (by simp;omega)];simp only[cP hlt,RF,hx,c1,c2,hs,bf (show k<4611686018427387904 by omega)]
  rw[aE];simp only[e];exact AH hN hio m (k+1) (by omega)
theorem Bw (hN:n.Nodes.length<=1000)(hio:∀x∈n.Nodes,x.In.length<=1099511627776/\x.Out.length<=1099511627776):kG n=some n:=by unfold kG;rw[show ri n.Nodes=some n.Nodes from sW _ (by omega),RF];exact AH hN hio n.Nodes.length 0 (by omega)
theorem Ay (hl:l.length<=1000)(hi:∀x∈l,x.length<=1000):∀(m k:Nat),k+m=l.length ->
  iter (λss:Int×(U (U Item))=>mK l ss.1 ss.2) ((k:Int),l.take k)=some l
 |0,k,h=>by
  simp_all[mK,aE]
 |m+1,k,h=>by
  have hlt:k<l.length:=by omega
  have hx:l[k]?=some l[k]:=RG hlt;have hi':=hi l[k] (R6 hlt);have hts:=pJ hx;generalize l[k]=x at hx hi' hts;have c1:fh x=some x:=sW _ (by omega);have e:mK l (k:Int) (l.take k)=some (.inl (((k+1:Nat):Int),l.take (k+1))):=by unfold mK;rw[if_pos (by simp;omega),bv hx,RF,c1,RF,cC (by grind),RF,bf (by omega),hts]
  rw[aE];simp only[e];exact Ay hl hi m (k+1) (by omega)
theorem AO (hl:l.length<=1000)(hi:∀x∈l,x.length<=1000):rz l=some l:=
 Ay hl hi l.length 0 (by omega)
end
section
variable {n:Net} {items:List (List Item)} {E:Nat} {h:Shop}
theorem SrcQ.l (q:SrcQ n items):n.Nodes.length<=1000/\items.length<=1000/\∀x∈items,x.length<=1000:=by have h1:=q.S.n2;have h2:=q.S.l4;refine⟨by omega,by omega,λx hx=>?_⟩;obtain⟨a,ha⟩:=RX hx;have:=q.S.l20 a x ha;omega
variable {s:State}{α:Type}{d:Disk}{e:Nat}
theorem K9 (q:SrcQ n items)(hI:Inv n items s):SmallS s:=by obtain⟨B,ok,_⟩:=hI;exact sk q.S ok
theorem Fm (q:SrcQ n items)(hI:Inv n items s):dJ n items s=0:=by obtain⟨B,ok,_⟩:=hI;exact k0 q.src ok
theorem Mm (q:SrcQ n items)(j:JS n items E h):iT h=some h:=by
 obtain⟨l1,l2,l3⟩:=q.l;have hd:=j.okD;have hc:kC h.S=some h.S:=by obtain⟨B,ok,_⟩:=j.inv;exact yx q.S ok
 unfold iT;rw[j.N,j.I,Bw l1 q.io,RF,AO l2 l3,RF,hc,RF,yj h.D.Sectors (by have:=hd.1;omega),RF,Cm h.D.Wait (by have:=hd.2.1;omega),RF,
  show fh h.Told=some h.Told from sW _ (by have:=j.told;omega),RF]
 have e1:=j.N;have e2:=j.I;subst e1;subst e2;rfl
theorem Ot (q:SrcQ n items)(j:JS n items E h):rX h=some 0:=by
 have hs:=K9 q j.inv;have h1:iw h.N h.Items h.S=some 0:=by rw[j.N,j.I,pO n items h.S q.io hs.a6,Fm q j.inv]
 have hl:=j.laid;have hg:=j.log;have hn:=j.next;have he:=j.e2;have hep:0<=h.Epoch/\h.Epoch<=200:=by
  by_cases hd:h.Down=true
  .rw[(j.down hd).2.1];omega
  .rw[j.ep (by grind)];omega
 have ht:=j.told;unfold rX;rw[h1,RF,if_neg (by decide),kJ j.okD,RF,if_neg (by decide),if_neg (by simp;omega),if_neg (by simp;omega)]
theorem Pf (q:SrcQ n items)(hI:Inv n items s)(a:Int)(S:U (U UInt8))(W:U Write)(z1 z2 z3 z4 z5:Int)(dn:Bool)(td:U Item):
  rn a n.Nodes n.Rings n.Room items s.At s.Rings s.Memory s.Choices s.Out S W z1 z2 z3 z4 z5 dn td=some (if aB n items s=[]then(10,s.At,s.Rings,s.Memory,s.Choices,s.Out)
   else(0,(doMv n items s (dg (aB n items s) a)).At,(doMv n items s (dg (aB n items s) a)).Rings,(doMv n items s (dg (aB n items s) a)).Memory,(doMv n items s (dg (aB n items s) a)).Choices,(doMv n items s (dg (aB n items s) a)).Out)):=by
 obtain⟨B,ok,hB⟩:=hI
 have hrd:fk (⟨n.Nodes,n.Rings,n.Room⟩:Net) items (⟨s.At,s.Rings,s.Memory,s.Choices,s.Out⟩:State)=some (aB n items s,0):=sM q.io q.src ok
 unfold rn
 rw[hrd,RF]
 by_cases h0:aB n items s=[]
 .grind
 .obtain⟨hmem,hix⟩:=vB h0 a
  have hpos:0<(aB n items s).length:=SX.2 h0
  have h192:=nC (items:=items) (s:=s) q.S.toRightN
  have hrem:=Gu a (aB n items s).length hpos (by omega)
  obtain⟨r1,hr1,hr2⟩:=bind_some hrem
  have hn:=Tk a (show((aB n items s).length:Int)≠0 by omega)
  have hget:(aB n items s)[(a% ((aB n items s).length:Int)).toNat]?=some (dg (aB n items s) a):=dZ _ hix
  have hdo:fq (⟨n.Nodes,n.Rings,n.Room⟩:Net) items (⟨s.At,s.Rings,s.Memory,s.Choices,s.Out⟩:State) (dg (aB n items s) a)=some (doMv n items s (dg (aB n items s) a),0):=vG q.src ok hmem q.io
  have hixn:ixN (aB n items s) (a% ((aB n items s).length:Int))=some (a% ((aB n items s).length:Int)).toNat:=ixN_D hn (by omega)
  grind
theorem D0 (p:α->Bool):∀xs:U α,(xs.find? p=none/\idxI p xs= -1)∨∃(k:Nat) (x:α),k<xs.length/\idxI p xs=(k:Int)/\xs[k]?=some x/\xs.find? p=some x
 |[]=>.inl ⟨J,J⟩
 | a::xs=>by
  by_cases h:p a=true
  .right;refine⟨0,a,by simp,?_,J,by grind⟩;simp_all[idxI,List.findIdx?_cons]
  .have h':p a=false:=by simpa using h
   rcases D0 p xs with⟨h1,h2⟩|⟨k,x,h1,h2,h3,h4⟩
   .left;refine⟨by grind,?_⟩;unfold idxI at h2 ⊢;grind
   .right;refine⟨k+1,x,by grind,?_,by grind,by grind⟩;unfold idxI at h2 ⊢;grind
theorem Ov (q:SrcQ n items){m:Move}(hm:m∈aB n items s)(c:Choice)(l:U Choice):re m n.Nodes n.Rings n.Room (c::l)=some (fN n c m):=by
 obtain⟨i,k,rfl,hi,hk,hc⟩:=hU hm;unfold re fN;rw[bv (jG hi),RF];simp only[R7];by_cases h6:(ab n i).Kind=6
 .rw[if_neg (by grind),show idx (c::l) 0=some c from J];grind
 grind
theorem Jc (q:SrcQ n items)(c:Choice)(l:U Choice):q6 (aB n items s) n.Nodes n.Rings n.Room (c::l)=some (idxI (fN n c) (aB n items s)):=by
 have h192:=nC (items:=items) (s:=s) q.S.toRightN;unfold q6;rw[u0 (aB n items s) (by omega) (fN n c) (λk x hx hk h1 h2 h3=>by
  unfold qW;rw[h2,cP hk,h3];simp only[if_true,RF,hx];grind[Ov]) (λh=>by
  simp[qW])]
theorem CP (q:SrcQ n items):∀(f:Nat) (s:State) (l:U Choice),Inv n items s->muN n items s<f->l.length<=1000000 ->
  iter (λss:(U Int)×(U (U Item))×(U Memory)×(U Choice)×(U Item)×(U Choice)=>mW n items ss.1 ss.2.1 ss.2.2.1 ss.2.2.2.1 ss.2.2.2.2.1 ss.2.2.2.2.2) (s.At,s.Rings,s.Memory,s.Choices,s.Out,l)=repM n items f s l
 |f,s,[],hI,hf,hl=>by
  have e:mW n items s.At s.Rings s.Memory s.Choices s.Out []=some (.inr (s,0)):=by rfl
  rw[aE];simp only[e];cases f<;>rfl
 |0,s,c::l,hI,hf,hl=>by omega
 | f+ 1,s,c::l,hI,hf,hl=>by
  obtain⟨B,ok,hB⟩:=id hI;have hrd:fk n items (⟨s.At,s.Rings,s.Memory,s.Choices,s.Out⟩:State)=some (aB n items s,0):=sM q.io q.src ok;rw[aE];unfold repM;have e0:mW n items s.At s.Rings s.Memory s.Choices s.Out (c::l)=match(aB n items s).find? (fN n c)with
    |none=>some (.inr (noS,11))
    |some m=>some (.inl ((doMv n items s m).At,(doMv n items s m).Rings,(doMv n items s m).Memory,(doMv n items s m).Choices,(doMv n items s m).Out,if(ab n m.Node.toNat).Kind=6 then l else c::l)):=by
   unfold mW
   rw[if_pos (by simp),hrd,RF,Jc q,RF]
   rcases D0 (fN n c) (aB n items s)with⟨h1,h2⟩|⟨k,m,h1,h2,h3,h4⟩
   .rw[h1,h2,if_pos (by decide)];rfl
   .have hmem:=RI h3
    have hdo:fq n items (⟨s.At,s.Rings,s.Memory,s.Choices,s.Out⟩:State) m=some (doMv n items s m,0):=vG q.src ok hmem q.io
    have hk1:∀z:U Choice,mV n items s.At s.Rings s.Memory s.Choices s.Out (aB n items s,0) (k:Int) z=some (.inl ((doMv n items s m).At,(doMv n items s m).Rings,(doMv n items s m).Memory,(doMv n items s m).Choices,(doMv n items s m).Out,z)):=λz=>by grind[mV,cP]
    obtain⟨i,k',hm,hi,hk',hc⟩:=hU hmem
    have hix:idx n.Nodes m.Node=some (ab n m.Node.toNat):=by grind[bv,jG]
    have hsub:sub (c::l) 1 ((c::l).length:Int)=some l:=kP (i:=1) (by simp)
    rw[h2,if_neg (by simp),cP h1,RF]
    grind
  simp only[e0];cases hm:(aB n items s).find? (fN n c)with
  |none=>rfl
  |some m=>
   have hmem:=SM hm;obtain⟨h1,h2⟩:=hI.doMv q.S hmem;simp only;exact CP q f (doMv n items s m) _ h1 (by omega) (by grind)
theorem Kh (q:SrcQ n items)(hI:Inv n items s){l:U Choice}(hl:l.length<=1000000):pq n items s l=some (ck n items s l):=by
 have h5:=hI.ch.1;unfold pq ck;rw[bG (by omega) (by omega)];by_cases h:500<s.Choices.length+l.length
 .rw[if_pos (by simp;omega),if_pos h];rfl
 .rw [if_neg (by simp;omega),if_neg h];have:=CP q (muN n items s+1) s l hI (by omega) hl;rw[this];cases hr:repM n items (muN n items s+1) s l with
  | none=>
   exfalso;have key:∀(f:Nat) (s:State) (l:U Choice),Inv n items s->muN n items s<f->repM n items f s l≠none:=by
    intro f;induction f with
    |zero=>omega
    | succ f ih=>
     intro s l hI hf;cases l with
     |nil=>intro h;cases h
     | cons c l=>
      unfold repM;cases hm:(aB n items s).find? (fN n c)with
      |none=>simp
      |some m=>
       obtain⟨h1,h2⟩:=hI.doMv q.S (SM hm);grind
   simp_all
  |some r=>rfl
theorem Mz (hd:bN d){ch:U Choice}{L x:Nat}(hL:L<=ch.length)(hc:ch.length<=500)(he:e<=200)(hx:x<=80)(a:Int)(N:U Node)(R Ro:Int)(I:U (U Item))(At:U Int)(Rg:U (U Item))(M:U Memory)(O:U Item)(sf la:Int)(dn:Bool)(td:U Item):
  rm a N R Ro I At Rg M ch O d.Sectors d.Wait (L:Int) sf (e:Int) la (x:Int) dn td=some (if 0<=la then(10,d.Sectors,d.Wait,(L:Int),(x:Int))
   else if(bP e d.Sectors (ch.drop L).length x (ch.drop L) d.Wait).2.2≠0 then((bP e d.Sectors (ch.drop L).length x (ch.drop L) d.Wait).2.2,d.Sectors,d.Wait,(L:Int),(x:Int))
   else(0,(bP e d.Sectors (ch.drop L).length x (ch.drop L) d.Wait).1.Sectors,(bP e d.Sectors (ch.drop L).length x (ch.drop L) d.Wait).1.Wait,(ch.length:Int),(bP e d.Sectors (ch.drop L).length x (ch.drop L) d.Wait).2.1)):=by
 unfold rm
 by_cases hl:0<=la
 .grind
 rw[if_neg (by grind),if_neg hl,kP hL,RF,show pA (⟨d.Sectors,d.Wait⟩:Disk) (e:Int) (x:Int) (ch.drop L)=_ from Ly hd e x (ch.drop L) he hx (by grind),RF]
 grind
theorem Mj (hd:bN d){ep:Int}(he:0<=ep/\ep<=200)(a:Int)(N:U Node)(R Ro:Int)(I:U (U Item))(At:U Int)(Rg:U (U Item))(M:U Memory)(C:U Choice)(O:U Item)(lg sf la nx:Int)(dn:Bool)(td:U Item):
  rl a N R Ro I At Rg M C O d.Sectors d.Wait lg sf ep la nx dn td=some (if 0<=la then(0,aP d.Sectors d.Wait,[],la,la,ep+1, -1,0)else(0,aP d.Sectors d.Wait,[],lg,lg,ep,la,nx)):=by
 unfold rl
 rw[show pu (⟨d.Sectors,d.Wait⟩:Disk)=_ from MG hd,RF]
 by_cases hl:0<=la
 .rw[if_pos (by grind),if_pos hl,bG (by omega) (by omega)]
 grind
theorem N9 {td O:U Item}(ht:td.length<=2000)(hO:O.length<=2000)(sf a:Int)(N:U Node)(R Ro:Int)(I:U (U Item))(At:U Int)(Rg:U (U Item))(M:U Memory)(C:U Choice)(S:U (U UInt8))(W:U Write)(lg ep la nx:Int)(dn:Bool):
  rp a N R Ro I At Rg M C O S W lg sf ep la nx dn td=some (if(cB td O sf).2≠0 then((cB td O sf).2,td)else(0,td++(cB td O sf).1)):=by
 unfold rp
 rw[Is,RF]
 by_cases h0:(cB td O sf).2=0
 .have:=BN (s:=sf) ht hO
  rw[RN]at this
  rw[if_neg (by grind),if_neg (by omega),cC (by omega),RF]
 grind
theorem Pz (q:SrcQ n items)(hd:bN d)(a:Int)(At:U Int)(Rg:U (U Item))(M:U Memory)(C:U Choice)(O:U Item)(lg sf ep la nx:Int)(dn:Bool)(td:U Item):
  rr a n.Nodes n.Rings n.Room items At Rg M C O d.Sectors d.Wait lg sf ep la nx dn td=some (if a<0∨d.Wait.length<a then(3,At,Rg,M,C,O,d.Sectors,d.Wait,lg,sf,ep,la,nx,dn)
   else(0,(aS n items).At,(aS n items).Rings,(aS n items).Memory,(aS n items).Choices,(aS n items).Out,aP d.Sectors (d.Wait.take a.toNat),[],0,0,0, -1,0,true)):=by
 have hst:gM (⟨n.Nodes,n.Rings,n.Room⟩:Net) items=some (aS n items,0):=by have:=vC n items q.io;rwa [if_neg (by simp[q.src])]at this
 unfold rr
 by_cases h:a<0∨d.Wait.length<a
 .have hc:kM (⟨d.Sectors,d.Wait⟩:Disk) a=some (⟨[],[]⟩,3):=by
   unfold kM;rw[show gN (⟨d.Sectors,d.Wait⟩:Disk)=_ from kJ hd,RF,if_neg (by decide),if_pos (by grind)]
  grind
 .have hc:kM (⟨d.Sectors,d.Wait⟩:Disk) a=some (⟨aP d.Sectors (d.Wait.take a.toNat),[]⟩,0):=by
   have:=Gh hd a.toNat (by omega);rwa [Sh (by omega)]at this
  grind
theorem mL_le {m:α->Nat}{c:Nat}:∀{l:U α},(∀x,x∈l->m x<=c)->mL m l<=l.length*c+1
 |[],_=>by simp[mL]
 |a::l,h=>by
  have h1:=mL_le (l:=l) λx hx=>h x (RQ _ hx)
  grind[P5,Nat.add_mul]
theorem Lg (q:SrcQ n items)(hI:Inv n items s):nY s<=10000:=by
 obtain⟨B,ok,hB⟩:=hI;have h2:=q.S.n2;have h3:=q.S.r2;have h4:=q.S.l4;have h6:=q.S.m2;have hrg:=ok.rg;have hmm:=ok.mm;have hat:=ok.at_;have hch:=ok.ch;have hou:=ok.out;have a1:=mL_le (m:=mI) (c:=1) (l:=s.At) λx _=>RJ _
 have a2:=mL_le (m:=mL dF) (c:=19) (l:=s.Rings) λl hl=>by
  obtain⟨r,hr⟩:=RX hl;have:=ok.room r l hr;have:=mL_le (m:=dF) (c:=3) (l:=l) λx _=>RJ _
  omega
 have a3:=mL_le (m:=ib) (c:=15) (l:=s.Memory) λm hm=>by
  obtain⟨i,hi⟩:=RX hm;have:=(ok.mem i m hi).1.len;have:=mL_le (m:=kV) (c:=2) (l:=m.Keys) λx _=>RJ _
  grind[ib]
 have a4:=mL_le (m:=iZ) (c:=2) (l:=s.Choices) λx _=>RJ _
 have a5:=mL_le (m:=dF) (c:=3) (l:=s.Out) λx _=>RJ _
 grind[nY]
theorem PK (q:SrcQ n items)(hI:Inv n items s)(hk:KV s)(hd:bN d)(he:e<=200)(a lg sf la nx:Int)(dn:Bool)(td:U Item):
  rx a n.Nodes n.Rings n.Room items s.At s.Rings s.Memory s.Choices s.Out d.Sectors d.Wait lg sf (e:Int) la nx dn td=some (if 0<=la then(10,d.Sectors,d.Wait,la)else if e=200 then(8,d.Sectors,d.Wait,la)
   else if 60<=((bb s).length+49)/ 50∨300<d.Wait.length+(((bb s).length+49)/ 50+1)then(8,[],[],la)else(0,d.Sectors,d.Wait++dh e (bb s),(s.Choices.length:Int))):=by
 have hbl:=SA (Cg s) (Nat.mul_le_mul_left 10 (Lg q hI))
 unfold rx
 by_cases hl:0<=la
 .grind
 rw[if_neg (by grind),if_neg hl]
 by_cases h2:e=200
 .grind
 have hb:ky (⟨n.Nodes,n.Rings,n.Room⟩:Net) items (⟨s.At,s.Rings,s.Memory,s.Choices,s.Out⟩:State)=some (bb s,0):=by have:=Fe (n:=n) items s q.io (kv_s q.S hI hk) (by grind);simp_all[Fm]
 have hr:rem (IntKind.i64.wrap ((e:Int)+1)) 2=some (((e+1)% 2:Nat):Int):=by rw[bf (by omega)];rfl
 obtain⟨e0,g1,g2,g3⟩:=P7 d (((e+1)% 2:Nat):Int) ((e+1:Nat):Int) (bb s) (by omega)
 have ge:e0=0:=g2.2 hd
 rw[if_neg (by simp[ge]),if_neg (by omega)]at g3
 rw[if_neg (by simp;omega),if_neg h2,hb,RF,if_neg (by simp),hr,RF,bf (by omega),show pT (⟨d.Sectors,d.Wait⟩:Disk) _ _ _=_ from g3,RF]
 by_cases h3:60<=((bb s).length+49)/ 50∨300<d.Wait.length+(((bb s).length+49)/ 50+1)
 .grind
 .rw[if_neg h3,if_neg h3]
  rfl
theorem Ey (S:U (U UInt8))(slot:Nat)(hd:U UInt8):∀(m k:Nat) (acc b:U UInt8),col S slot hd m k acc=some b->b.length<=acc.length+53*m
 |0,k,acc,b,h=>by cases h;omega
 | m+1,k,acc,b,h=>by
  unfold col at h;split at h
  .cases h
  .rename_i p hp;split at h
   .rename_i hc;have:=Ey S slot hd m (k+1) _ b h;grind
   .cases h
theorem Na {S:U (U UInt8)}{slot:Nat}{x:U UInt8×Nat}(h:dA S slot=some x):x.1.length<=4000:=by
 unfold dA at h;split at h
 .cases h
 split at h
 .rename_i hc;obtain⟨b,hb,rfl⟩:=Sf.1 h;have:=Ey _ _ _ _ _ _ _ hb;grind
 .cases h
theorem PD (q:SrcQ n items){b:U UInt8}(hb:b.length<=4000):iD n items b=some (ofM n items b):=by unfold ofM;rcases PX items q.io q.src b (by omega)with h|⟨t,h,_⟩<;>rw[h]<;>rfl
theorem Bf (q:SrcQ n items)(hd:bN d)(sl:Nat)(hs:sl<=1)(st:State×Nat):
  oQ n.Nodes n.Rings n.Room items d.Sectors d.Wait (st.2:Int) (sl:Int) st.1.At st.1.Rings st.1.Memory st.1.Choices st.1.Out=
   some (.inl (((fE n items d.Sectors sl st).2:Int),((sl+1:Nat):Int),(fE n items d.Sectors sl st).1.At,(fE n items d.Sectors sl st).1.Rings,(fE n items d.Sectors sl st).1.Memory,(fE n items d.Sectors sl st).1.Choices,(fE n items d.Sectors sl st).1.Out)):=by
 have hg:pR (⟨d.Sectors,d.Wait⟩:Disk) (sl:Int)=some (getR d.Sectors sl):=PC hd sl hs
 unfold oQ
 rw[if_pos (by simp;omega),hg,RF]
 unfold getR fE
 cases hm:dA d.Sectors sl with
 |none=>
  simp only
  rw[if_pos (by simp),bf (by omega)]
 | some x=>
  simp only
  by_cases h1:x.2<=st.2
  .rw[if_pos (by simp;omega),if_pos h1,bf (by omega)]
  .have hof:iD (⟨n.Nodes,n.Rings,n.Room⟩:Net) items x.1=some (ofM n items x.1):=PD q (Na hm)
   rw[if_neg (by simp;omega),if_neg h1,hof,RF]
   by_cases h2:(ofM n items x.1).2=0
   .rw[if_pos (by grind),if_pos h2,bf (by omega)]
   .rw[if_neg (by grind),if_neg h2,bf (by omega)]
theorem Lp (q:SrcQ n items)(hd:bN d)(At:U Int)(Rg:U (U Item))(M:U Memory)(C:U Choice)(O:U Item)(lg sf ep la nx:Int)(dn:Bool)(td:U Item):
  rk n.Nodes n.Rings n.Room items At Rg M C O d.Sectors d.Wait lg sf ep la nx dn td=some ((dl n items d.Sectors).1,((dl n items d.Sectors).2:Int)):=by
 have hst:gM (⟨n.Nodes,n.Rings,n.Room⟩:Net) items=some (aS n items,0):=by have:=vC n items q.io;rwa [if_neg (by simp[q.src])]at this
 unfold rk
 rw[hst,RF]
 have s0:=Bf q hd 0 (by omega) (aS n items,0)
 have s1:=Bf q hd 1 (by omega) (fE n items d.Sectors 0 (aS n items,0))
 simp_all[oQ,dl,aE]
theorem up_eq (q:SrcQ n items)(hd:bN d)(hn:dl n items d.Sectors=(s,E))(hI:Inv n items s)(hE:E<=200)(a:Int)(At:U Int)(Rg:U (U Item))(M:U Memory)(C:U Choice)(O:U Item)(lg sf ep la nx:Int)(dn:Bool)(td:U Item):
  rG a n.Nodes n.Rings n.Room items At Rg M C O d.Sectors d.Wait lg sf ep la nx dn td=some (if cW n (bj (E:Int) (d.Sectors.drop 120)).1≠0 then(cW n (bj (E:Int) (d.Sectors.drop 120)).1,At,Rg,M,C,O,lg,sf,ep,nx,dn)
   else if(ck n items s (bj (E:Int) (d.Sectors.drop 120)).1).2≠0 then((ck n items s (bj (E:Int) (d.Sectors.drop 120)).1).2,At,Rg,M,C,O,lg,sf,ep,nx,dn)
   else(0,(ck n items s (bj (E:Int) (d.Sectors.drop 120)).1).1.At,(ck n items s (bj (E:Int) (d.Sectors.drop 120)).1).1.Rings,(ck n items s (bj (E:Int) (d.Sectors.drop 120)).1).1.Memory,(ck n items s (bj (E:Int) (d.Sectors.drop 120)).1).1.Choices,(ck n items s (bj (E:Int) (d.Sectors.drop 120)).1).1.Out,
    ((ck n items s (bj (E:Int) (d.Sectors.drop 120)).1).1.Choices.length:Int),((ck n items s (bj (E:Int) (d.Sectors.drop 120)).1).1.Choices.length:Int),(E:Int),((bj (E:Int) (d.Sectors.drop 120)).2:Int),false)):=by
 have hsl:=Do (E:Int) (d.Sectors.drop 120)
 have hd1:=hd.1
 rw[TF]at hsl
 unfold rG
 rw[Lp q hd,hn,RF,show pQ (⟨d.Sectors,d.Wait⟩:Disk) (E:Int)=_ from Np hd (E:Int) (by omega) (by omega),RF,if_neg (by simp),show kr (⟨n.Nodes,n.Rings,n.Room⟩:Net) (bj (E:Int) (d.Sectors.drop 120)).1=some (cW n (bj (E:Int) (d.Sectors.drop 120)).1)from uH n q.io _,RF]
 simp only
 by_cases h1:cW n (bj (E:Int) (d.Sectors.drop 120)).1=0
 .rw[if_neg (by grind),if_neg (by omega),show pq (⟨n.Nodes,n.Rings,n.Room⟩:Net) items s (bj (E:Int) (d.Sectors.drop 120)).1=_ from Kh q hI (by omega),RF]
  grind
 grind
theorem Cv (q:SrcQ n items)(j:JS n items E h)(k a:Int):eJ h ⟨k,a⟩=some (if k<1∨7<k then(noH,5)else doP h k a):=by
 obtain⟨s0,hn0,hI0,_⟩:=we q j.held;have hcp:=Mm q j;have eN:=j.N;have eI:=j.I;subst eN;subst eI;have hlog:=j.log;have hnx:=j.next;have hE:=j.e2;have⟨hc5,hO⟩:=j.inv.ch;have hne:∀{x y:Int},x≠y->¬((x==y)=true):=λh1 h2=>h1 (by grind)
 have dn6:h.Down=true->∀{x:Int},x≠6->(!(h.Down==(x==6)))=true:=λh1 x h2=>by grind
 have up6:h.Down=false->∀{x:Int},x≠6->¬(!(h.Down==(x==6)))=true:=λh1 x h2=>by grind
 have er:∀{x:Int},x≠0->(x !=0)=true:=λh1=>by grind
 unfold eJ;rw[Ot q j,RF,if_neg (by decide)];dsimp only;by_cases h1:k=1
 .subst h1;rw[if_pos (show((1:Int)==1)=true from J),if_neg (show ¬((1:Int)<1∨7<(1:Int)) by omega)];by_cases hd:h.Down=true
  .rw[if_pos (dn6 hd (by decide)),gS hd,if_pos (by decide)];rfl
  have hdf:h.Down=false:=by grind
  rw[if_neg (up6 hdf (by decide)),hcp,RF,Pf q j.inv,RF,doP_1 hdf];by_cases h0:aB h.N h.Items h.S=[]
  .rw[if_pos h0,if_pos h0,if_pos (by simp)];rfl
  .rw[if_neg h0,if_neg h0,if_neg (by simp)];rfl
 rw[if_neg (hne h1)];by_cases h2:k=2
 .subst h2;rw[if_pos (show((2:Int)==2)=true from J),if_neg (show ¬((2:Int)<1∨7<(2:Int)) by omega)];by_cases hd:h.Down=true
  .rw[if_pos (dn6 hd (by decide)),gS hd,if_pos (by decide)];rfl
  have hdf:h.Down=false:=by grind
  have hep:=j.ep hdf;obtain⟨L,hL⟩:∃L:Nat,h.Logged=(L:Int):=⟨h.Logged.toNat,by omega⟩
  obtain⟨X,hX⟩:∃X:Nat,h.Next=(X:Int):=⟨h.Next.toNat,by omega⟩
  have hw:=Mz j.okD (ch:=h.S.Choices) (L:=L) (e:=E) (x:=X) (by omega) hc5 hE (by omega) a h.N.Nodes h.N.Rings h.N.Room h.Items h.S.At h.S.Rings h.S.Memory h.S.Out h.Safe h.Laid h.Down h.Told;rw[<- hL,<- hX,<- hep]at hw;rw[if_neg (up6 hdf (by decide)),hcp,RF,hw,RF,doP_2 hdf];have e1:h.Epoch.toNat=E:=by omega
  have e2:h.Logged.toNat=L:=by omega
  have e3:h.Next.toNat=X:=by omega
  rw[e1,e2,e3];by_cases hl:0<=h.Laid
  .rw[if_pos hl,if_pos hl,if_pos (by simp)];rfl
  rw[if_neg hl,if_neg hl];by_cases h0:(bP E h.D.Sectors (h.S.Choices.drop L).length X (h.S.Choices.drop L) h.D.Wait).2.2=0
  .rw[if_neg (not_not_intro h0),if_neg (not_not_intro h0),if_neg (by simp)];rfl
  .rw[if_pos h0,if_pos h0,if_pos (er h0)];rfl
 rw[if_neg (hne h2)];by_cases h3:k=3
 .subst h3;rw[if_pos (show((3:Int)==3)=true from J),if_neg (show ¬((3:Int)<1∨7<(3:Int)) by omega)];by_cases hd:h.Down=true
  .rw[if_pos (dn6 hd (by decide)),gS hd,if_pos (by decide)];rfl
  have hdf:h.Down=false:=by grind
  have hep:=j.ep hdf;rw[if_neg (up6 hdf (by decide)),hcp,RF,Mj j.okD (by omega),RF,doP_3 hdf];by_cases hl:0<=h.Laid
  .rw[if_pos hl,if_pos hl,if_neg (by simp)];rfl
  .rw[if_neg hl,if_neg hl,if_neg (by simp)];rfl
 rw[if_neg (hne h3)];by_cases h4:k=4
 .subst h4;rw[if_pos (show((4:Int)==4)=true from J),if_neg (show ¬((4:Int)<1∨7<(4:Int)) by omega)];by_cases hd:h.Down=true
  .rw[if_pos (dn6 hd (by decide)),gS hd,if_pos (by decide)];rfl
  have hdf:h.Down=false:=by grind
  rw[if_neg (up6 hdf (by decide)),hcp,RF,N9 j.told hO,RF,doP_4 hdf];by_cases h0:(cB h.Told h.S.Out h.Safe).2=0
  .rw[if_neg (not_not_intro h0),if_neg (not_not_intro h0),if_neg (by simp)];rfl
  .rw[if_pos h0,if_pos h0,if_pos (er h0)];rfl
 rw[if_neg (hne h4)];by_cases h5:k=5
 .subst h5;rw[if_pos (show((5:Int)==5)=true from J),if_neg (show ¬((5:Int)<1∨7<(5:Int)) by omega)];by_cases hd:h.Down=true
  .rw[if_pos (dn6 hd (by decide)),gS hd,if_pos (by decide)];rfl
  have hdf:h.Down=false:=by grind
  rw[if_neg (up6 hdf (by decide)),hcp,RF,Pz q j.okD,RF,doP_5 hdf];by_cases h0:a<0∨h.D.Wait.length<a
  .rw[if_pos h0,if_pos h0,if_pos (by simp)];rfl
  .rw[if_neg h0,if_neg h0,if_neg (by simp)];rfl
 rw[if_neg (hne h5)];by_cases h6:k=6
 .subst h6;rw[if_pos (show((6:Int)==6)=true from J),if_neg (show ¬((6:Int)<1∨7<(6:Int)) by omega)];by_cases hd:h.Down=true
  .rw[if_neg (by grind),hcp,RF,up_eq q j.okD hn0 hI0 hE,RF,gS hd,if_neg (show ¬(6:Int)≠6 by decide),hn0];simp only;by_cases g1:cW h.N (bj (E:Int) (h.D.Sectors.drop 120)).1=0
   .rw[if_neg (not_not_intro g1),if_neg (not_not_intro g1)];by_cases g2:(ck h.N h.Items s0 (bj (E:Int) (h.D.Sectors.drop 120)).1).2=0
    .rw[if_neg (not_not_intro g2),if_neg (not_not_intro g2),if_neg (by simp)];rfl
    .rw[if_pos g2,if_pos g2,if_pos (er g2)];rfl
   .rw[if_pos g1,if_pos g1,if_pos (er g1)];rfl
  have hdf:h.Down=false:=by grind
  rw[if_pos (by grind),te hdf a (by decide)];rfl
 rw[if_neg (hne h6)];by_cases h7:k=7
 .subst h7;rw[if_pos (show((7:Int)==7)=true from J),if_neg (show ¬((7:Int)<1∨7<(7:Int)) by omega)];by_cases hd:h.Down=true
  .rw[if_pos (dn6 hd (by decide)),gS hd,if_pos (by decide)];rfl
  have hdf:h.Down=false:=by grind
  have hep:=j.ep hdf;have hl:=PK q j.inv j.kv j.okD hE a h.Logged h.Safe h.Laid h.Next h.Down h.Told;rw[<- hep]at hl;have e1:h.Epoch.toNat=E:=by omega
  rw[if_neg (up6 hdf (by decide)),hcp,RF,hl,RF,doP_7 hdf,e1];by_cases hla:0<=h.Laid
  .rw[if_pos hla,if_pos hla,if_pos (by simp)];rfl
  rw[if_neg hla,if_neg hla];by_cases h2:E=200
  .rw[if_pos h2,if_pos (show h.Epoch=200 by omega),if_pos (by simp)];rfl
  rw[if_neg h2,if_neg (show ¬h.Epoch=200 by omega)];by_cases hb:60<=((bb h.S).length+49)/ 50∨300<h.D.Wait.length+(((bb h.S).length+49)/ 50+1)
  .rw[if_pos hb,if_pos hb,if_pos (by simp)];rfl
  .rw[if_neg hb,if_neg hb,if_neg (by simp)];rfl
 rw[if_neg (hne h7),if_pos (by omega)];rfl
end
end
noncomputable section
def hapP(h:Shop)(x:Happening):Shop×Int:=if x.Kind<1∨7<x.Kind then(noH,5)else doP h x.Kind x.N
def cZ(h:Shop)(x:Happening):Shop:=if(hapP h x).2=0 then(hapP h x).1 else h
def runP:Shop->List Happening->Shop
 |h,[]=>h
 |h,x::l=>runP (cZ h x) l
def saysP:Shop->List Happening->List Int
 |h,[]=>[]
 |h,x::l=>(hapP h x).2::saysP (cZ h x) l
def newH(n:Net)(items:List (List Item)):Shop:=⟨n,items,aS n items,noD,0,0,0, -1,0,[],false⟩
section
variable {n:Net} {items:List (List Item)} {E:Nat} {h:Shop}
theorem JS.step(q:SrcQ n items)(j:JS n items E h){x:Happening}(h0:(hapP h x).2=0):∃E',JS n items E' (hapP h x).1:=by
 unfold hapP at h0 ⊢;by_cases hx:x.Kind<1∨7<x.Kind
 .grind
 .rw[if_neg hx]at h0 ⊢;exact j.do q x.Kind x.N h0
theorem JS.nextH(q:SrcQ n items)(j:JS n items E h)(x:Happening):∃E',JS n items E' (cZ h x):=by
 unfold cZ;by_cases h0:(hapP h x).2=0
 .rw[if_pos h0];exact j.step q h0
 grind
theorem L4(q:SrcQ n items)(j:JS n items E h)(x:Happening):eJ h x=some (hapP h x):=Cv q j x.Kind x.N
theorem C9:∀(l:U Happening) (h:Shop),(saysP h l).length=l.length
 |[],h=>rfl
 |x::l,h=>by simp[saysP,C9 l]
theorem D7(q:SrcQ n items)(script:U Happening)(hs:script.length<=2000):∀(m k:Nat) (E:Nat) (h:Shop) (acc:U Int),k+m=script.length->acc.length=k->JS n items E h ->
  iter (λss:Int×(U Node)×Int×Int×(U (U Item))×(U Int)×(U (U Item))×(U Memory)×(U Choice)×(U Item)×(U (U UInt8))×(U Write)×Int×Int×Int×Int×Int×(U Item)×Bool×(U Int)=>nk script ss.1 ss.2.1 ss.2.2.1 ss.2.2.2.1 ss.2.2.2.2.1 ss.2.2.2.2.2.1 ss.2.2.2.2.2.2.1 ss.2.2.2.2.2.2.2.1 ss.2.2.2.2.2.2.2.2.1 ss.2.2.2.2.2.2.2.2.2.1 ss.2.2.2.2.2.2.2.2.2.2.1 ss.2.2.2.2.2.2.2.2.2.2.2.1 ss.2.2.2.2.2.2.2.2.2.2.2.2.1 ss.2.2.2.2.2.2.2.2.2.2.2.2.2.1 ss.2.2.2.2.2.2.2.2.2.2.2.2.2.2.1 ss.2.2.2.2.2.2.2.2.2.2.2.2.2.2.2.1 ss.2.2.2.2.2.2.2.2.2.2.2.2.2.2.2.2.1 ss.2.2.2.2.2.2.2.2.2.2.2.2.2.2.2.2.2.1 ss.2.2.2.2.2.2.2.2.2.2.2.2.2.2.2.2.2.2.1 ss.2.2.2.2.2.2.2.2.2.2.2.2.2.2.2.2.2.2.2) ((k:Int),h.N.Nodes,h.N.Rings,h.N.Room,h.Items,h.S.At,h.S.Rings,h.S.Memory,h.S.Choices,h.S.Out,h.D.Sectors,h.D.Wait,h.Logged,h.Safe,h.Epoch,h.Laid,h.Next,h.Told,h.Down,acc)=some (runP h (script.drop k),acc++saysP h (script.drop k),0)
 |0,k,E,h,acc,hk,ha,j=>by
  simp_all[nk,aE,runP,saysP]
 | m+1,k,E,h,acc,hk,ha,j=>by
  have hlt:k<script.length:=by omega
  have hx:script[k]?=some script[k]:=RG hlt;have hdr:=RL hlt;generalize script[k]=x at hx hdr;have hdo:=L4 q j x;obtain⟨E',j'⟩:=j.nextH q x;have e:nk script (k:Int) h.N.Nodes h.N.Rings h.N.Room h.Items h.S.At h.S.Rings h.S.Memory h.S.Choices h.S.Out h.D.Sectors h.D.Wait h.Logged h.Safe h.Epoch h.Laid h.Next h.Told h.Down acc=some (.inl (((k+1:Nat):Int),(cZ h x).N.Nodes,(cZ h x).N.Rings,(cZ h x).N.Room,(cZ h x).Items,(cZ h x).S.At,(cZ h x).S.Rings,(cZ h x).S.Memory,(cZ h x).S.Choices,(cZ h x).S.Out,(cZ h x).D.Sectors,(cZ h x).D.Wait,(cZ h x).Logged,(cZ h x).Safe,(cZ h x).Epoch,(cZ h x).Laid,(cZ h x).Next,(cZ h x).Told,(cZ h x).Down,acc++[(hapP h x).2])):=by
   unfold nk;rw[if_pos (by simp;omega),bv hx,RF,hdo,RF];unfold cZ;by_cases h0:(hapP h x).2=0
   .rw[if_pos (by grind),if_pos h0,cC (by simp;omega),RF,bf (by omega)]
   .rw[if_neg (by grind),if_neg h0,cC (by simp;omega),RF,bf (by omega)]
  rw[aE];simp only[e];have:=D7 q script hs m (k+1) E' (cZ h x) (acc++[(hapP h x).2]) (by omega) (by simp;omega) j';grind[runP,saysP]
theorem PA(q:SrcQ n items):nM n items=some (newH n items,0):=by obtain⟨l1,l2,l3⟩:=q.l;have hst:=vC n items q.io;rw[if_neg (by simp[q.src])]at hst;unfold nM;rw[hst,RF,if_neg (by simp),Bw l1 q.io,RF,AO l2 l3];rfl
theorem Pa(hio:∀x∈n.Nodes,x.In.length<=1099511627776/\x.Out.length<=1099511627776)(hs:bt n items≠0):nM n items=some (noH,bt n items):=by have hst:=vC n items hio;rw[if_pos hs]at hst;unfold nM;rw[hst,RF,if_pos (by grind)];rfl
theorem Gt(q:SrcQ n items)(script:U Happening)(hs:script.length<=1200):lX n items script=some (runP (newH n items) script,saysP (newH n items) script,0):=by unfold lX;rw[PA q,RF,if_neg (by simp),if_neg (by simp;omega)];have:=D7 q script (by omega) script.length 0 0 (newH n items) [] (by omega) J (Bh q.S);grind
theorem Pe(hio:∀x∈n.Nodes,x.In.length<=1099511627776/\x.Out.length<=1099511627776)(hs:bt n items≠0)(script:U Happening):lX n items script=some (noH,[],bt n items):=by unfold lX;rw[Pa hio hs,RF,if_pos (by grind)];rfl
end
end
section
structure LogIs (E:Nat) (S:List (List UInt8)) (cs:List (List Choice)):Prop where
 at_:∀(k:Nat) c,cs[k]?=some c->gt S (120+k)=recB E c
 end_:∀k,cs.length<=k->dW (E:Int) (gt S (120+k))=[]
 good:∀c,c∈cs->je c
theorem EU (E:Nat)(he:E<=200)(S:U (U UInt8)):∀(cs:U (U Choice)) (off:Nat),(∀(k:Nat) c,cs[k]?=some c->gt S (off+k)=recB E c)->(∀k,cs.length<=k->dW (E:Int) (gt S (off+k))=[])->(∀c,c∈cs->je c) ->
  bj (E:Int) (S.drop off)=(cs.flatten,cs.length)
 | [],off,h1,h2,h3=>by
  have h0:=h2 0 (RJ _);rw[SY]at h0;cases hd:S.drop off with
  |nil=>rfl
  |cons s r=>
   have hs:gt S off=s:=by unfold gt;rw[R1];have:=congrArg (λl=>l[0]?) hd;grind
   simp_all[bj]
 | c::cs,off,h1,h2,h3=>by
  have h0:=h1 0 c J;rw[SY]at h0;have hg:=h3 c RM;have hlt:off<S.length:=by
   by_cases h:off<S.length
   .exact h
   .exfalso;unfold gt at h0;rw[R1,SF (by omega)]at h0;have:=congrArg List.length h0;grind[recB,nS]
  rw[RL hlt];have hs:S[off]=recB E c:=by grind[gt]
  rw[hs];have ih:=EU E he S cs (off+1) (λk x hx=>by rw[<- h1 (k+1) x hx];grind) (λk hk=>by rw[<- h2 (k+1) (by grind)];grind) (λx hx=>h3 x (RQ _ hx));unfold bj;rw[C3 E E he c hg,if_pos J,if_neg hg.1,ih];simp;omega
section
variable {E:Nat}{S:U (U UInt8)}{cs:U (U Choice)}
theorem LogIs.scan (h:LogIs E S cs)(he:E<=200):bj (E:Int) (S.drop 120)=(cs.flatten,cs.length):=EU E he S cs 120 h.at_ h.end_ h.good
theorem Ew (E:Nat):∀(cs:U (U Choice)) (k j:Nat) (s:U UInt8),seen s (wr E k cs) ((120+j:Nat):Int)=if k<=j then(match cs[j- k]? with|some c=>recB E c|none=>s)else s
 |[],k,j,s=>by
  show s=_;simp
 |c::cs,k,j,s=>by show seen (if((120+k:Nat):Int)=((120+j:Nat):Int)then recB E c else s) (wr E (k+1) cs) ((120+j:Nat):Int)=_;rw[Ew E cs (k+1) j];grind
theorem LogIs.write (h:LogIs E S cs){cs2:U (U Choice)}(hg:∀c,c∈cs2->je c)(hl:cs.length+cs2.length<=80):LogIs E (aP S (wr E cs.length cs2)) (cs++cs2):=by
 have hw:∀j,gt (aP S (wr E cs.length cs2)) (120+j)=if cs.length<=j then(match cs2[j- cs.length]? with|some c=>recB E c|none=>gt S (120+j))else gt S (120+j):=λj=>by grind[nO,wr_ok,Ew]
 refine⟨λk c hk=>?_,λk hk=>?_,λc hc=>?_⟩
 .rw[hw k];by_cases h1:cs.length<=k
  .grind
  .rw[R2 (by omega)]at hk;rw[if_neg h1];exact h.at_ k c hk
 .rw[RN]at hk;rw[hw k,if_pos (by omega),SF (by omega)];exact h.end_ k (by omega)
 .rcases RY.1 hc with hc|hc
  .exact h.good c hc
  grind
theorem LogIs.congr {S':U (U UInt8)}(h:LogIs E S cs)(he:∀i,120<=i->gt S' i=gt S i):LogIs E S' cs:=
 ⟨λk c hk=>by rw[he _ (by omega)];exact h.at_ k c hk,λk hk=>by rw[he _ (by omega)];exact h.end_ k hk,h.good⟩
end
section
variable (n:Net) (items:List (List Item))
structure BaseIs (E:Nat) (S:List (List UInt8)) (b:State):Prop where
 inv:Inv n items b
 kv:KV b
 reach:∃w,RRun n items (aX (aS n items)) w (aX b)
 none:E=0->b=aS n items
 slot:E≠0->dA S (E% 2)=some (bb b,E)
def RunIs(b:State)(l:List Choice):Prop:=∃w D r,RRun n items (aX b) w D/\Lim D/\chW n w=l++r
inductive PendIs (E:Nat) (h:Shop) (b:State) (cs:List (List Choice)):Prop
 |log {w:List (Nat×Nat)} {cs2:List (List Choice)} {r:List Choice} (hl:¬0<=h.Laid) (run:RRun n items (aX b) w (aX h.S)) (ch:chW n w=(cs++cs2).flatten++r) (good:∀c,c∈cs2->je c) (len:cs.length+cs2.length<=80)
  (wait:h.D.Wait=wr E cs.length cs2) (next:h.Next=((cs.length+cs2.length:Nat):Int)) (logged:h.Logged=((b.Choices.length+(cs++cs2).flatten.length:Nat):Int)) (safe:h.Safe=((b.Choices.length+cs.flatten.length:Nat):Int))
 |slot {w:List (Nat×Nat)} {cs2:List (List Choice)} {r:List Choice} {s':State} {w2:List (Nat×Nat)} (hl:0<=h.Laid) (run:RRun n items (aX b) w (aX s')) (ch:chW n w=(cs++cs2).flatten++r) (good:∀c,c∈cs2->je c) (len:cs.length+cs2.length<=80)
  (wait:h.D.Wait=wr E cs.length cs2++dh E (bb s')) (inv:Inv n items s') (kv:KV s') (hb:((bb s').length+49)/ 50<60) (run2:RRun n items (aX s') w2 (aX h.S)) (laid:h.Laid=(s'.Choices.length:Int)) (safe:h.Safe=((b.Choices.length+cs.flatten.length:Nat):Int))
structure JR (E:Nat) (h:Shop):Prop extends JS n items E h where
 base:∃b cs,BaseIs n items E h.D.Sectors b/\LogIs E h.D.Sectors cs/\(h.Down=true->RunIs n items b cs.flatten)/\(h.Down=false->PendIs n items E h b cs)
end
section
variable {n:Net} {items:List (List Item)} {E:Nat} {h:Shop}
variable {s b:State}{w:U (Nat×Nat)}{S:U (U UInt8)}{ws:U Write}
theorem nX {t:State}(hr:RRun n items (aX s) w (aX t)):t.Choices=s.Choices++chW n w:=jP hr
theorem JR.start (hS:RightS n items):JR n items 0 (newH n items):=by refine⟨Bh hS,aS n items,[],⟨iA hS,pW n items,⟨[],.nil _⟩,λ_=>J,λh=>absurd J h⟩,⟨λk c hk=>by simp at hk,λk hk=>J,λc hc=>by cases hc⟩,λhd=>(by cases hd),λ_=>?_⟩;exact .log (w:=[]) (cs2:=[]) (r:=[]) (by show ¬(0:Int) <= -1;omega) (.nil _) J (λc hc=>by cases hc) (by simp) rfl rfl rfl rfl
theorem JR.go (q:SrcQ n items)(j:JR n items E h)(hd:h.Down=false){m:Move}(hm:m∈aB n items h.S):JR n items E { h with S:=doMv n items h.S m }:=by
 obtain⟨b,cs,hb,hl,_,hp⟩:=j.base;obtain⟨B,ok,_⟩:=j.inv;have hx:=ex_mv q.S ok hm;have hrun:∀{c:MSt Item Memory (U Choice)} {w:U (Nat×Nat)},RRun n items c w (aX h.S)->RRun n items c (w++[(m.Node.toNat,m.Lane.toNat)]) (aX (doMv n items h.S m)):=λhr=>hr.app (.cons hx (.nil _))
 refine⟨j.toJS.go q hd hm,b,cs,hb,hl,λhx=>(by grind),λ_=>?_⟩;cases hp hd with
 | @log w cs2 r hla run ch good len wait next logged safe=>exact .log (w:=w++[(m.Node.toNat,m.Lane.toNat)]) (r:=r++chW n [(m.Node.toNat,m.Lane.toNat)]) hla (hrun run) (by grind[jL]) good len wait next logged safe
 |slot hla run ch good len wait inv kv hb run2 laid safe=>exact .slot hla run ch good len wait inv kv hb (hrun run2) laid safe
theorem JR.write (j:JR n items E h)(hd:h.Down=false)(hl:¬0<=h.Laid){cs3:U (U Choice)}(h1:h.S.Choices.drop h.Logged.toNat=cs3.flatten)(h2:∀c,c∈cs3->je c)(h3:h.Next.toNat+cs3.length<=80)(js:JS n items E { h with D:=⟨h.D.Sectors,h.D.Wait++wr E h.Next.toNat cs3⟩,Next:=((h.Next.toNat+cs3.length:Nat):Int),Logged:=h.S.Choices.length }):
  JR n items E { h with D:=⟨h.D.Sectors,h.D.Wait++wr E h.Next.toNat cs3⟩,Next:=((h.Next.toNat+cs3.length:Nat):Int),Logged:=h.S.Choices.length }:=by
 obtain⟨b,cs,hb,hlg,_,hp⟩:=j.base
 refine⟨js,b,cs,hb,hlg,λhx=>(by grind),λ_=>?_⟩
 cases hp hd with
 |slot hla=>omega
 | @log w cs2 r hla run ch good len wait next logged safe=>
  have hch:=nX run
  rw[ch]at hch
  have hlog:h.Logged.toNat=b.Choices.length+(cs++cs2).flatten.length:=by omega
  have hr:cs3.flatten=r:=by grind
  have hn:h.Next.toNat=cs.length+cs2.length:=by omega
  refine .log (w:=w) (cs2:=cs2++cs3) (r:=[]) hla run ?_ (λc hc=>?_) (by grind) ?_ ?_ ?_ safe
  .grind
  all_goals (grind[GE])
theorem KZ (hw:∀w,w∈ws->logW E w){sl:Nat}(hs:sl<=1):dA (aP S ws) sl=dA S sl:=uV λk hk=>yB hw (by omega)
theorem BaseIs.logs (hb:BaseIs n items E S b)(hw:∀w,w∈ws->logW E w):BaseIs n items E (aP S ws) b:=
 ⟨hb.inv,hb.kv,hb.reach,hb.none,λh0=>by rw[KZ hw (by omega)];exact hb.slot h0⟩
theorem BaseIs.part (hb:BaseIs n items E S b){y:U UInt8}(hy:(y.length+49)/ 50<60)(m:Nat):BaseIs n items E (aP S ((dh E y).take m)) b:=
 ⟨hb.inv,hb.kv,hb.reach,hb.none,λh0=>by rw[uV λk hk=>lZ hy m _ (.inr ⟨k,hk,J⟩)];exact hb.slot h0⟩
def Grows(n:Net)(items:List (List Item))(E:Nat)(S:List (List UInt8))(E':Nat)(S':List (List UInt8)):Prop:=∃b cs b' cs',BaseIs n items E S b/\LogIs E S cs/\BaseIs n items E' S' b'/\LogIs E' S' cs'/\(b.Choices++cs.flatten) <+: (b'.Choices++cs'.flatten)
theorem JR.cutG (q:SrcQ n items)(j:JR n items E h)(hd:h.Down=false)(k:Nat):
  ∃E',Grows n items E h.D.Sectors E' (aP h.D.Sectors (h.D.Wait.take k))/\JR n items E' { h with D:=⟨aP h.D.Sectors (h.D.Wait.take k),[]⟩,S:=aS h.N h.Items,Logged:=0,Safe:=0,Epoch:=0,Laid:= -1,Next:=0,Down:=true }:=by
 obtain⟨b,cs,hb,hlg,_,hp⟩:=j.base
 have mk:∀E',E'<=200->Held (PB n items) E' (aP h.D.Sectors (h.D.Wait.take k))->JS n items E' { h with D:=⟨aP h.D.Sectors (h.D.Wait.take k),[]⟩,S:=aS h.N h.Items,Logged:=0,Safe:=0,Epoch:=0,Laid:= -1,Next:=0,Down:=true }:=λE' h2 hh=>by
  have e:aS h.N h.Items=aS n items:=by rw[j.N,j.I]
  rw[e];exact⟨j.N,j.I,iA q.S,pW n items,h2,yG j.okD k,hh,.log λw hw=>(by cases hw),λhx=>(by cases hx),λ_=>⟨rfl,rfl,rfl,rfl⟩,⟨Sj _,by simp⟩,⟨Sj _,Sj _,by simp⟩,⟨Sj _,by simp⟩,j.told⟩
 cases hp hd with
 | @log w cs2 r hla run ch good len wait next logged safe=>
  have hwl:∀m w,w∈(wr E cs.length cs2).take m->logW E w:=λm w hw=>qk E j.e2 _ cs2 len good w (RV hw)
  have hb2:BaseIs n items E (aP h.D.Sectors (h.D.Wait.take k)) b:=by rw[wait];exact hb.logs (hwl k)
  have hl2:LogIs E (aP h.D.Sectors (h.D.Wait.take k)) (cs++cs2.take k):=by rw[wait,tj];exact hlg.write (λc hc=>good c (RV hc)) (by grind)
  refine⟨E,⟨b,cs,b,_,hb,hlg,hb2,hl2,by simp⟩,mk E j.e2 (by rw[wait];exact j.held.logs (hwl k)),b,cs++cs2.take k,hb2,hl2,λ_=>⟨w,aX h.S,(cs2.drop k).flatten++r,run,yr j.inv,?_⟩,λhx=>(by cases hx)⟩
  grind[List.take_append_drop]
 | @slot w cs2 r s' w2 hla run ch good len wait inv kv hb' run2 laid safe=>
  have hwl:∀m w,w∈(wr E cs.length cs2).take m->logW E w:=λm w hw=>qk E j.e2 _ cs2 len good w (RV hw)
  have he1:E+1<=200:=j.wait.e (by grind)
  have htk:h.D.Wait.take k=(wr E cs.length cs2).take k++(dh E (bb s')).take (k- cs2.length):=by grind[List.take_append,FL]
  have hS:aP h.D.Sectors (h.D.Wait.take k)=aP (aP h.D.Sectors (wr E cs.length (cs2.take k))) ((dh E (bb s')).take (k- cs2.length)):=by grind[vt,tj]
  have hl1:LogIs E (aP h.D.Sectors (wr E cs.length (cs2.take k))) (cs++cs2.take k):=hlg.write (λc hc=>good c (RV hc)) (by simp_all<;>omega)
  have hh1:Held (PB n items) E (aP h.D.Sectors (wr E cs.length (cs2.take k))):=by rw[<- tj];exact j.held.logs (hwl k)
  have hb1:BaseIs n items E (aP h.D.Sectors (wr E cs.length (cs2.take k))) b:=by rw[<- tj];exact hb.logs (hwl k)
  generalize aP h.D.Sectors (wr E cs.length (cs2.take k))=S1 at hS hl1 hh1 hb1
  have hsl:=xF E (bb s')
  by_cases hk:k- cs2.length<=((bb s').length+49)/ 50
  .have hb2:BaseIs n items E (aP h.D.Sectors (h.D.Wait.take k)) b:=by rw[hS];exact hb1.part hb' _
   have hl2:LogIs E (aP h.D.Sectors (h.D.Wait.take k)) (cs++cs2.take k):=by rw[hS];exact hl1.congr λi hi=>lZ hb' _ i (.inl hi)
   refine⟨E,⟨b,cs,b,_,hb,hlg,hb2,hl2,by simp⟩,mk E j.e2 (by rw[hS];exact hh1.part hb' hk),b,cs++cs2.take k,hb2,hl2,λ_=>⟨w,aX s',(cs2.drop k).flatten++r,run,yr inv,?_⟩,λhx=>(by cases hx)⟩
   grind[List.take_append_drop]
  .have hfull:(dh E (bb s')).take (k- cs2.length)=dh E (bb s'):=SD (by omega)
   rw[hfull]at hS
   have hh2:=hh1.full ⟨s',inv,kv,J,by omega⟩ he1 hb'
   have hb2:BaseIs n items (E+1) (aP h.D.Sectors (h.D.Wait.take k)) s':=by rw[hS];obtain⟨w0,hw0⟩:=hb.reach;exact⟨inv,kv,⟨w0++w,hw0.app run⟩,λh0=>absurd h0 (by omega),λ_=>xP he1 hb'⟩
   have hl2:LogIs (E+1) (aP h.D.Sectors (h.D.Wait.take k)) []:=by rw[hS];refine⟨λk c hk=>by simp at hk,λi _=>?_,λc hc=>by cases hc⟩;have:=lZ (S:=S1) (E:=E) hb' (dh E (bb s')).length (120+i) (.inl (by omega));rw[SS]at this;rw[this];exact hh1.log (120+i) (E+1) (by omega) (by omega)
   have hch:=nX run
   exact⟨E+1,⟨b,cs,s',[],hb,hlg,hb2,hl2,by grind⟩,mk (E+1) he1 (by grind),s',[],hb2,hl2,λ_=>⟨w2,aX h.S,chW n w2,run2,yr j.inv,by simp⟩,λhx=>(by cases hx)⟩
theorem JR.cut (q:SrcQ n items)(j:JR n items E h)(hd:h.Down=false)(k:Nat):
  ∃E',JR n items E' { h with D:=⟨aP h.D.Sectors (h.D.Wait.take k),[]⟩,S:=aS h.N h.Items,Logged:=0,Safe:=0,Epoch:=0,Laid:= -1,Next:=0,Down:=true }:=by
 obtain⟨E',_,j'⟩:=j.cutG q hd k
 grind
theorem DG (q:SrcQ n items)(hb:BaseIs n items E S b)(hI:Inv n items s)(hk:KV s)(h0:E=0->s=aS n items)(h1:E≠0->dA S (E% 2)=some (bb s,E)):s=b:=by
 by_cases h:E=0
 .rw[h0 h,hb.none h]
 .have e:=h1 h;rw[hb.slot h]at e;have:bb b=bb s:=(Prod.mk.inj (RR e)).1;exact((JA (kv_s q.S hb.inv hb.kv) (kv_s q.S hI hk)).1 this).symm
theorem K3 (q:SrcQ n items){c:MSt Item Memory (U Choice)}{D:MSt Item Memory (U Choice)}(hr:RRun n items c w D)(hl:Lim D){l r:U Choice}(hc:chW n w=l++r):cW n l=0:=by
 have hR:=q.S.toRightN;refine si ⟨?_,?_,λx hx=>?_⟩
 .have h:=q.src;unfold bt at h;omega
 .have h1:=congrArg List.length (jP hr);rw[hc]at h1;simp only[RN]at h1;have:=hl.1;omega
 .have hx:x∈chW n w:=by grind
  unfold chW at hx;obtain⟨m,hm,rfl⟩:=R3.1 hx;obtain⟨hm1,hm2⟩:=SL.1 hm;have h6:(ab n m.1).Kind=6:=by grind
  obtain⟨v1,v2⟩:=nG hr m hm1;simp_all[bD]
theorem JR.up (q:SrcQ n items)(j:JR n items E h)(hd:h.Down=true)(a:Int):
  ∃b cs t,BaseIs n items E h.D.Sectors b/\LogIs E h.D.Sectors cs/\t.Choices=b.Choices++cs.flatten/\doP h 6 a=({ h with S:=t,Logged:=t.Choices.length,Safe:=t.Choices.length,Epoch:=(E:Int),Next:=(cs.length:Int),Down:=false },0)/\JR n items E (doP h 6 a).1:=by
 obtain⟨b,cs,hb,hlg,hrn,_⟩:=j.base
 obtain⟨w,D,r,hr,hlim,hch⟩:=hrn hd
 obtain⟨s,hn,hI,hk,z0,z1⟩:=we q j.held
 have hsb:s=b:=DG q hb hI hk z0 (λh=>(z1 h).1)
 subst hsb
 obtain⟨t,u,w',D',g1,g2,g3,g4,g5,g6,g7⟩:=yC q (muN n items s+1) s cs.flatten r w D hb.inv (by omega) hr hch hlim
 have htr:=K3 q hr hlim hch
 have hch2:=nX g3
 rw[g4]at hch2
 have h5:s.Choices.length+cs.flatten.length<=500:=by have:=g2.ch.1;grind
 have hrp:ck n items s cs.flatten=(t,0):=by simp_all[ck]
 have hup:doP h 6 a=({ h with S:=t,Logged:=t.Choices.length,Safe:=t.Choices.length,Epoch:=(E:Int),Next:=(cs.length:Int),Down:=false },0):=by rw[gS hd,if_neg (show ¬(6:Int)≠6 by decide),j.N,j.I,hn];simp only;rw[hlg.scan j.e2];grind
 have h0:(doP h 6 a).2=0:=by rw[hup]
 obtain⟨_,_,_,_,_,_,_,_,_,hjs⟩:=j.toJS.up q hd h0
 have hdn:=j.down hd
 refine⟨s,cs,t,hb,hlg,hch2,hup,?_⟩
 rw[hup]at hjs⊢
 refine⟨hjs,s,cs,hb,hlg,λhx=>(by cases hx),λ_=>?_⟩
 have hl80:cs.length<=80:=by have:=hjs.next.2;grind
 refine .log (w:=u) (cs2:=[]) (r:=[]) (by grind) g3 (by simp[g4]) (λc hc=>by cases hc) (by omega) ?_ ?_ ?_ ?_
 .exact hdn.1
 all_goals grind
end
end
section
section
variable {n:Net}{items:U (U Item)}{s:State}{l:U Choice}{h:Shop}
theorem xV:∀(f:Nat) (s:State) (l:U Choice) (r:State×Int) (k:Nat),repM n items f s l=some r->repM n items (f+k) s l=some r
 |f,s,[],r,k,h=>by
  have:some (s,(0:Int))=some r:=by rw[<- h];cases f<;>rfl
  rw[<- this];cases f+k<;>rfl
 |0,s,c::l,r,k,h=>by cases h
 |f+1,s,c::l,r,k,h=>by
  have e:f+1+k=(f+k)+1:=by omega
  rw[e];unfold repM at h ⊢;cases hm:(aB n items s).find? (fN n c)with
  |none=>grind
  |some m=>rw[hm]at h;exact xV f _ _ r k h
theorem OO (q:SrcQ n items)(hI:Inv n items s)(hk:KV s)(h5:s.Choices.length+l.length<=500){f:Nat}{r:State×Int}(h:repM n items f s l=some r):ck n items s l=r:=by obtain⟨r',e1,_⟩:=yX q.S q.g (muN n items s+1) s l hI hk (by omega);have h1:=xV _ _ _ _ f e1;simp_all[xV,Tu,ck,if_neg]
theorem srcT:SrcQ meetN twoN:=⟨eq Ee,Ee,OJ,λl hl x hx=>by simp only[twoN,Sa,Sd,or_false]at hl;grind[dO,gI]⟩
theorem nx {h':Shop}{k a:Int}(hk:1<=k/\k<=7)(e:doP h k a=(h',0)):cZ h ⟨k,a⟩=h':=by simp_all[hapP,if_neg,cZ]
def mT:List Memory:=[⟨0,[],0⟩,⟨0,[],0⟩,⟨0,[],0⟩,⟨0,[],0⟩]
def sT1:State:=⟨[0,1],[[],[⟨2,2,0⟩],[]],mT,[],[]⟩
def sT2:State:=⟨[0,1],[[],[],[⟨2,2,1⟩]],mT,[⟨2,1⟩],[]⟩
def sT3:State:=⟨[0,1],[[],[],[]],mT,[⟨2,1⟩],[⟨2,2,1⟩]⟩
def sT4:State:=⟨[1,1],[[⟨1,1,0⟩],[],[⟨2,2,1⟩]],mT,[⟨2,1⟩],[]⟩
def wT:List Write:=[⟨120,[3,0,2,1,105,95]⟩]
def hT(S:State)(D:Disk)(lg sf nx:Int)(td:List Item)(dn:Bool):Shop:=⟨meetN,twoN,S,D,lg,sf,0, -1,nx,td,dn⟩
theorem eT1:doP (newH meetN twoN) 1 1=(hT sT1 noD 0 0 0 [] false,0):=by rfl
theorem eT2:doP (hT sT1 noD 0 0 0 [] false) 1 1=(hT sT2 noD 0 0 0 [] false,0):=by rfl
theorem eT3:doP (hT sT2 noD 0 0 0 [] false) 1 1=(hT sT3 noD 0 0 0 [] false,0):=by rfl
theorem eT4:doP (hT sT3 noD 0 0 0 [] false) 4 0=(hT sT3 noD 0 0 0 [] false,0):=by rfl
theorem eT5:doP (hT sT3 noD 0 0 0 [] false) 2 0=(hT sT3 ⟨[],wT⟩ 1 0 1 [] false,0):=by
 have e:bP (hT sT3 noD 0 0 0 [] false).Epoch.toNat (hT sT3 noD 0 0 0 [] false).D.Sectors ((hT sT3 noD 0 0 0 [] false).S.Choices.drop (hT sT3 noD 0 0 0 [] false).Logged.toNat).length (hT sT3 noD 0 0 0 [] false).Next.toNat ((hT sT3 noD 0 0 0 [] false).S.Choices.drop (hT sT3 noD 0 0 0 [] false).Logged.toNat) (hT sT3 noD 0 0 0 [] false).D.Wait=(⟨[],wT⟩,1,0):=by decide+kernel
 simp_all[doP_2,hT,sT3]
theorem eT6:doP (hT sT3 ⟨[],wT⟩ 1 0 1 [] false) 3 0=(hT sT3 ⟨aP [] wT,[]⟩ 1 1 1 [] false,0):=by rfl
theorem eT7:doP (hT sT3 ⟨aP [] wT,[]⟩ 1 1 1 [] false) 4 0=(hT sT3 ⟨aP [] wT,[]⟩ 1 1 1 [⟨2,2,0⟩] false,0):=by rfl
theorem eT8:doP (hT sT3 ⟨aP [] wT,[]⟩ 1 1 1 [⟨2,2,0⟩] false) 5 0=(hT (aS meetN twoN) ⟨aP [] wT,[]⟩ 0 0 0 [⟨2,2,0⟩] true,0):=by rfl
theorem newT:dl meetN twoN (aP [] wT)=(aS meetN twoN,0):=by rfl
theorem up_of (hd:h.Down=true){t:State}{E u:Nat}(hn:dl h.N h.Items h.D.Sectors=(s,E))(hsc:bj (E:Int) (h.D.Sectors.drop 120)=(l,u))(htr:cW h.N l=0)(hrp:ck h.N h.Items s l=(t,0))(a:Int):
  doP h 6 a=({ h with S:=t,Logged:=t.Choices.length,Safe:=t.Choices.length,Epoch:=(E:Int),Next:=(u:Int),Down:=false },0):=by
 simp_all[gS]
theorem eT9:doP (hT (aS meetN twoN) ⟨aP [] wT,[]⟩ 0 0 0 [⟨2,2,0⟩] true) 6 0=(hT sT4 ⟨aP [] wT,[]⟩ 1 1 1 [⟨2,2,0⟩] false,0):=by
 have hsc:bj ((0:Nat):Int) ((aP [] wT).drop 120)=([⟨2,1⟩],1):=by decide+kernel
 have htr:cW meetN [⟨2,1⟩]=0:=si ⟨by rfl,by decide,λc hc=>by simp only[RW]at hc;subst hc;exact⟨by decide,by decide,by decide,by decide,by decide⟩⟩;have hrp:ck meetN twoN (aS meetN twoN) [⟨2,1⟩]=(sT4,0):=OO srcT (iA srcT.S) (pW _ _) (by decide) (f:=10) (by rfl);exact up_of (h:=hT (aS meetN twoN) ⟨aP [] wT,[]⟩ 0 0 0 [⟨2,2,0⟩] true) J newT hsc htr hrp 0
theorem eT10:doP (hT sT4 ⟨aP [] wT,[]⟩ 1 1 1 [⟨2,2,0⟩] false) 4 0=(hT sT4 ⟨aP [] wT,[]⟩ 1 1 1 [⟨2,2,0⟩] false,0):=by rfl
theorem AS:oW=some true:=by
 unfold oW;rw[JJ,P6];simp only[dB,RF];rw[Gt srcT _ (by simp),RF];have hr:runP (newH meetN twoN) [⟨1,1⟩,⟨1,1⟩,⟨1,1⟩,⟨4,0⟩,⟨2,0⟩,⟨3,0⟩,⟨4,0⟩,⟨5,0⟩,⟨6,0⟩,⟨4,0⟩]=hT sT4 ⟨aP [] wT,[]⟩ 1 1 1 [⟨2,2,0⟩] false:=by simp only[runP];rw[nx (by omega) eT1,nx (by omega) eT2,nx (by omega) eT3,nx (by omega) eT4,nx (by omega) eT5,nx (by omega) eT6,nx (by omega) eT7,nx (by omega) eT8,nx (by omega) eT9,nx (by omega) eT10]
 simp only[hr,C9];rfl
end
end
section
section
variable {n:Net} {items:List (List Item)} {E:Nat} {h:Shop}
theorem JR.flushG(j:JR n items E h)(hd:h.Down=false)(a:Int):∃E',Grows n items E h.D.Sectors E' (doP h 3 a).1.D.Sectors/\JR n items E' (doP h 3 a).1:=by
 obtain⟨b,cs,hb,hlg,_,hp⟩:=j.base;have js:=j.toJS.flush hd a;rw[doP_3 hd]at js ⊢;have hdd:¬h.Down=true:=by grind
 cases hp hd with
 | @log w cs2 r hla run ch good len wait next logged safe=>
  rw[if_neg hla,if_neg hla]at js;rw[if_neg hla];have hwl:∀w,w∈wr E cs.length cs2->logW E w:=qk E j.e2 _ cs2 len good;have hb2:BaseIs n items E (aP h.D.Sectors h.D.Wait) b:=by rw[wait];exact hb.logs hwl
  have hl2:LogIs E (aP h.D.Sectors h.D.Wait) (cs++cs2):=by rw[wait];exact hlg.write good len
  refine⟨E,⟨b,cs,b,_,hb,hlg,hb2,hl2,by simp⟩,js,b,cs++cs2,hb2,hl2,λhx=>absurd hx hdd,λ_=>?_⟩
  .exact .log (w:=w) (cs2:=[]) (r:=r) hla run (by grind) (λc hc=>by cases hc) (by grind) rfl (by grind) (by grind) (by omega)
 | @slot w cs2 r s' w2 hla run ch good len wait inv kv hb' run2 laid safe=>
  rw[if_pos hla,if_pos hla]at js;rw[if_pos hla];have he1:=js.e2;have hwl:∀w,w∈wr E cs.length cs2->logW E w:=qk E j.e2 _ cs2 len good;have hS:aP h.D.Sectors h.D.Wait=aP (aP h.D.Sectors (wr E cs.length cs2)) (dh E (bb s')):=by rw[wait,vt]
  have hh1:Held (PB n items) E (aP h.D.Sectors (wr E cs.length cs2)):=j.held.logs hwl;have hb2:BaseIs n items (E+1) (aP h.D.Sectors h.D.Wait) s':=by rw[hS];obtain⟨w0,hw0⟩:=hb.reach;exact⟨inv,kv,⟨w0++w,hw0.app run⟩,λh0=>absurd h0 (by omega),λ_=>xP he1 hb'⟩
  have hl2:LogIs (E+1) (aP h.D.Sectors h.D.Wait) []:=by rw[hS];refine⟨λk c hk=>by simp at hk,λi _=>?_,λc hc=>by cases hc⟩;have:=lZ (S:=aP h.D.Sectors (wr E cs.length cs2)) (E:=E) hb' (dh E (bb s')).length (120+i) (.inl (by omega));rw[SS]at this;rw[this];exact hh1.log (120+i) (E+1) (by omega) (by omega)
  have hch:=nX run;refine⟨E+1,⟨b,cs,s',[],hb,hlg,hb2,hl2,by grind⟩,js,s',[],hb2,hl2,λhx=>absurd hx hdd,λ_=>?_⟩
  .exact .log (w:=w2) (cs2:=[]) (r:=chW n w2) (by simp) run2 (by simp) (λc hc=>by cases hc) (by simp) rfl rfl (by grind) (by grind)
theorem JR.flush(j:JR n items E h)(hd:h.Down=false)(a:Int):∃E',JR n items E' (doP h 3 a).1:=by obtain⟨E',_,j'⟩:=j.flushG hd a;grind
theorem JR.tell(j:JR n items E h)(td:U Item)(js:JS n items E { h with Told:=td }):JR n items E { h with Told:=td }:=by
 obtain⟨b,cs,hb,hlg,hr,hp⟩:=j.base;refine⟨js,b,cs,hb,hlg,hr,λhd=>?_⟩;cases hp hd with
 |log hla run ch good len wait next logged safe=>exact .log hla run ch good len wait next logged safe
 |slot hla run ch good len wait inv kv hb' run2 laid safe=>exact .slot hla run ch good len wait inv kv hb' run2 laid safe
theorem JR.lay(j:JR n items E h)(hd:h.Down=false)(hl:¬0<=h.Laid)(hb':((bb h.S).length+49)/ 50<60)(js:JS n items E { h with D:=⟨h.D.Sectors,h.D.Wait++dh E (bb h.S)⟩,Laid:=h.S.Choices.length }):
  JR n items E { h with D:=⟨h.D.Sectors,h.D.Wait++dh E (bb h.S)⟩,Laid:=h.S.Choices.length }:=by
 obtain⟨b,cs,hb,hlg,_,hp⟩:=j.base
 refine⟨js,b,cs,hb,hlg,λhx=>absurd (show h.Down=true from hx) (by grind),λ_=>?_⟩
 cases hp hd with
 |slot hla=>omega
 | @log w cs2 r hla run ch good len wait next logged safe=>
  exact .slot (w:=w) (cs2:=cs2) (r:=r) (s':=h.S) (w2:=[]) (by simp) run ch good len (by grind) j.inv j.kv hb' (.nil _) J safe
theorem JR.do(q:SrcQ n items)(j:JR n items E h)(k a:Int)(h0:(doP h k a).2=0):∃E',JR n items E' (doP h k a).1:=by
 by_cases hd:h.Down=true
 .by_cases h6:k=6
  .subst h6;obtain⟨_,_,_,_,_,_,_,hj⟩:=j.up q hd a;grind
  simp_all[gS]
 have hdf:h.Down=false:=by grind
 by_cases h1:k=1
 .subst h1;rw[doP_1 hdf]at h0 ⊢;by_cases hr:aB h.N h.Items h.S=[]
  .grind
  .rw[if_neg hr];have eN:=j.N;have eI:=j.I;subst eN;subst eI;exact⟨E,j.go q hdf (Fj hr a)⟩
 by_cases h2:k=2
 .subst h2;rw[doP_2 hdf]at h0 ⊢;by_cases hl:0<=h.Laid
  .grind
  rw[if_neg hl]at h0 ⊢;by_cases he:(bP h.Epoch.toNat h.D.Sectors (h.S.Choices.drop h.Logged.toNat).length h.Next.toNat (h.S.Choices.drop h.Logged.toNat) h.D.Wait).2.2=0
  .obtain⟨cs,e1,e2,e3,e4,hj⟩:=j.toJS.write hdf hl he;rw[if_neg (by omega),e1];exact⟨E,j.write hdf hl e2 e3 e4 hj⟩
  grind
 by_cases h3:k=3
 .subst h3;exact j.flush hdf a
 by_cases h4:k=4
 .subst h4;rw[doP_4 hdf]at h0 ⊢;by_cases he:(cB h.Told h.S.Out h.Safe).2=0
  .rw[if_neg (by omega)];exact⟨E,j.tell _ j.toJS.tell⟩
  grind
 by_cases h5:k=5
 .subst h5;rw[doP_5 hdf]at h0 ⊢;by_cases hc:a<0∨h.D.Wait.length<a
  .grind
  .rw[if_neg hc];exact j.cut q hdf a.toNat
 by_cases h7:k=7
 .subst h7;rw[doP_7 hdf]at h0 ⊢;by_cases hl:0<=h.Laid
  .grind
  rw[if_neg hl]at h0 ⊢;by_cases h200:h.Epoch=200
  .grind
  rw[if_neg h200]at h0 ⊢;by_cases hb:60<=((bb h.S).length+49)/ 50∨300<h.D.Wait.length+(((bb h.S).length+49)/ 50+1)
  .grind
  rw[if_neg hb];have hE:h.Epoch.toNat=E:=by have:=j.ep hdf;omega
  rw[hE];exact⟨E,j.lay hdf hl (by omega) (j.toJS.lay hdf hl h200 hb)⟩
 grind[te]
end
end
section
def smW(φ:Item->Nat)(l:List Item):Nat:=(l.map φ).sum
theorem OG(φ:Item->Nat)(l m:U Item):smW φ (l++m)=smW φ l+smW φ m:=by simp[smW]
theorem vF{α:Type}(f g:α->Nat):∀(l:U α) (i:α),l.Nodup->i∈l->(∀j,j∈l->j≠i->f j=g j)->(l.map f).sum+g i=(l.map g).sum+f i
 |[],i,_,h,_=>by cases h
 | a::l,i,hd,h,he=>by
  rw[S8]at hd;simp only[Se,S0];by_cases ha:a=i
  .subst ha;have:l.map f=l.map g:=Si λj hj=>he j (RQ _ hj) (λe=>hd.1 (e▸hj))
   rw[this];omega
  .have hi:i∈l:=by
    rcases Sa.1 h with e|e
    .exact absurd e.symm ha
    .exact e
   have:=vF f g l i hd.2 hi λj hj=>he j (RQ _ hj)
   have:=he a RM ha;omega
theorem Fs(ψ:Nat->Nat)(R:Nat):∀(l:U Int),l.Nodup->(∀r,r∈l->0<=r/\r<(R:Int))->((List.range R).map λr:Nat=>if(r:Int)∈l then ψ r else 0).sum=(l.map λr=>ψ r.toNat).sum
 | [],_,_=>by
  have:∀l:U Nat,(l.map λr:Nat=>if(r:Int)∈([]:U Int)then ψ r else 0).sum=0:=by
   intro l;induction l with
   |nil=>rfl
   |cons a l ih=>rw[Se,S0,ih];rfl
  exact this _
 | a::l,hd,hr=>by
  rw[S8]at hd;have ih:=Fs ψ R l hd.2 λr h=>hr r (RQ _ h)
  have ha:=hr a RM;have e:((a.toNat:Nat):Int)=a:=Sh ha.1;have:=vF (λr:Nat=>if(r:Int)∈a::l then ψ r else 0) (λr:Nat=>if(r:Int)∈l then ψ r else 0) (List.range R) a.toNat List.nodup_range (Tv.2 (by omega)) λj _ hj=>by
   have:¬(j:Int)=a:=λe=>hj (by omega)
   simp[this]
  simp only[e,hd.1,if_false,RM,if_true]at this;rw[Se,S0,<- ih];omega
def vN(n:Net)(δ:Nat->Nat):Nat->Nat->Int->Nat
 |0,_,_=>0
 |f+1,i,key=>δ i+((bK (ab n i) key).map λr=>vN n δ f (dE n r.toNat) key).sum
def phiN(n:Net)(δ:Nat->Nat)(i:Nat)(x:Item):Nat:=vN n δ 12 i x.Key
section
variable {n:Net} {items:List (List Item)} (δ:Nat→Nat)
variable {i:Nat}
theorem CC (hR:RightN n)(hi:i<n.Nodes.length){key r:Int}(hr:r∈bK (ab n i) key):dE n r.toNat<n.Nodes.length/\d9 n i<d9 n (dE n r.toNat):=by have ho:=kO hR hi key r hr;have h0:=hR.outR i hi r ho;obtain⟨j,hj,hrj⟩:=hR.toI r.toNat (by omega);rw[Sh h0.1]at hrj;rw[vo hR hj hrj];exact⟨hj,(vk hR).2.2 i j r hi hj ho hrj⟩
theorem CO (hR:RightN n)(key:Int):∀(f i:Nat),i<n.Nodes.length->12- d9 n i<=f->vN n δ f i key=vN n δ (f+1) i key
 |0,i,hi,h=>by
  have:=(vk hR).1 i hi;have:=hR.n2;omega
 |f+1,i,hi,h=>by
  rw[vN,vN.eq_2 n δ i key (f+1)];congr 2;refine Si λr hr=>?_
  obtain⟨h1,h2⟩:=CC hR hi hr;exact CO hR key f _ h1 (by omega)
theorem Om (f i:Nat)(key:Int):vN n δ (f+1) i key=δ i+((bK (ab n i) key).map λr=>vN n δ f (dE n r.toNat) key).sum:=rfl
theorem vN_eq (hR:RightN n)(hi:i<n.Nodes.length)(key:Int):vN n δ 12 i key=δ i+((bK (ab n i) key).map λr=>vN n δ 12 (dE n r.toNat) key).sum:=by
 have e:((bK (ab n i) key).map λr=>vN n δ 11 (dE n r.toNat) key)=(bK (ab n i) key).map λr=>vN n δ 12 (dE n r.toNat) key:=Si λr hr=>by obtain⟨h1,h2⟩:=CC hR hi hr;exact CO δ hR key 11 _ h1 (by omega)
 have h:=Om (n:=n) δ 11 i key;rw[e]at h;exact h
def uW(n:Net)(δ:Nat->Nat)(items:List (List Item))(pos:Nat->Nat)(i:Nat):Nat:=if(ab n i).Kind=1 then smW (phiN n δ i) ((items.getD (ab n i).A.toNat []).drop (pos (ab n i).A.toNat))else 0
def totW(n:Net)(items:List (List Item))(c:MSt Item Memory (List Choice)):Nat:=((List.range n.Nodes.length).map (uW n δ items c.pos)).sum+((List.range n.Rings.toNat).map λr=>smW (phiN n δ (dE n r)) (c.rg r)).sum
theorem MC (k f:Int)(m:Memory)(x:Item):(cJ k f m x).2.Key=x.Key:=by unfold cJ;(repeat' split)<;>rfl
theorem Qn (c:MSt Item Memory (U Choice))(m:Nat×Nat)(x:Item):(mkM (bh n items) n c m x).2.Key=x.Key:=by show(cJ _ _ _ (inM (bh n items) n c m x)).2.Key=_;rw[MC];unfold inM;split<;>rfl
theorem MW (hR:RightN n)(hi:i<n.Nodes.length)(key:Int):(bK (ab n i) key).Nodup:=by
 unfold bK;split
 .simp
 .exact hR.ndO i hi
theorem FQ {room:QbQ Nat}(hS:RightS n items){c d:MSt Item Memory (U Choice)}{m:Nat×Nat}(h:Ex (bh n items) n room c m d):totW δ n items d+δ m.1=totW δ n items c:=by
 have hR:=hS.toRightN;obtain⟨hm,x,hx,_,rfl⟩:=h;have hnd:(toM (bh n items) n m x).Nodup   :=MW hR hm.1 _;have hrr:∀r,r∈toM (bh n items) n m x->0<=r/\r<((n.Rings.toNat:Nat):Int):=λr hr=>by have:=hR.outR m.1 hm.1 r (kO hR hm.1 _ r hr);omega
 have hy:=Qn (n:=n) (items:=items) c m x;have hv:=vN_eq δ hR hm.1 x.Key;have hput:((List.range n.Rings.toNat).map λr=>smW (phiN n δ (dE n r)) ((goM (bh n items) n c m x).rg r)).sum=
   ((List.range n.Rings.toNat).map λr=>smW (phiN n δ (dE n r)) (if(ab n m.1).Kind≠1/\r=bA (ab n m.1) m.2 then(c.rg r).tail else c.rg r)).sum+((toM (bh n items) n m x).map λr=>vN n δ 12 (dE n r.toNat) x.Key).sum:=by
  rw[<- Fs (λr=>vN n δ 12 (dE n r) x.Key) n.Rings.toNat _ hnd hrr]
  have:∀l:U Nat,(l.map λr=>smW (phiN n δ (dE n r)) ((goM (bh n items) n c m x).rg r)).sum=(l.map λr=>smW (phiN n δ (dE n r)) (if(ab n m.1).Kind≠1/\r=bA (ab n m.1) m.2 then(c.rg r).tail else c.rg r)).sum+(l.map λr:Nat=>if(r:Int)∈toM (bh n items) n m x then vN n δ 12 (dE n r) x.Key else 0).sum:=by
   intro l;induction l with
   |nil=>rfl
   | cons a l ih=>
    simp only[Se,S0,ih];have e:(goM (bh n items) n c m x).rg a=(if(ab n m.1).Kind≠1/\a=bA (ab n m.1) m.2 then(c.rg a).tail else c.rg a)++if(a:Int)∈toM (bh n items) n m x then[(mkM (bh n items) n c m x).2]else[]:=rfl
    have e2:smW (phiN n δ (dE n a)) (if(a:Int)∈toM (bh n items) n m x then[(mkM (bh n items) n c m x).2]else[])=if(a:Int)∈toM (bh n items) n m x then vN n δ 12 (dE n a) x.Key else 0:=by
     split
     .simp[smW,phiN,hy]
     .rfl
    rw[e,OG,e2];omega
  exact this _
 unfold totW;rw[hput];have hto:toM (bh n items) n m x=bK (ab n m.1) x.Key:=rfl;rw[hto];by_cases h1:(ab n m.1).Kind=1
 .have hb:∀l:U Nat,(l.map λr=>smW (phiN n δ (dE n r)) (if(ab n m.1).Kind≠1/\r=bA (ab n m.1) m.2 then(c.rg r).tail else c.rg r))=l.map λr=>smW (phiN n δ (dE n r)) (c.rg r):=λl=>Si λr _=>by rw[if_neg (λe=>e.1 h1)]
  rw[hb];have hp:(goM (bh n items) n c m x).pos=upd c.pos (ab n m.1).A.toNat (c.pos (ab n m.1).A.toNat+1):=by show(if(ab n m.1).Kind=1 then _ else _)=_;rw[if_pos h1]
  have hsum:=vF (uW n δ items (goM (bh n items) n c m x).pos) (uW n δ items c.pos) (List.range n.Nodes.length) m.1 List.nodup_range (Tv.2 hm.1) (λj hj hne=>by
   have hj:=Tv.1 hj;unfold uW;split
   .rename_i hj1;rw[hp,wl _ _ (λe=>hne (pX hS j m.1 hj hm.1 hj1 h1 e))]
   .rfl)
  have hu:uW n δ items c.pos m.1=uW n δ items (goM (bh n items) n c m x).pos m.1+vN n δ 12 m.1 x.Key:=by unfold uW;rw[if_pos h1,if_pos h1,hp,MA];unfold hdM at hx;rw[if_pos h1]at hx;have hx:(items.getD (ab n m.1).A.toNat [])[c.pos (ab n m.1).A.toNat]?=some x:=hx;obtain⟨hlt,hg⟩:=RH.1 hx;rw[RL hlt,hg];simp[smW,phiN];omega
  omega
 .have hp:(goM (bh n items) n c m x).pos=c.pos:=by
   show(if(ab n m.1).Kind=1 then _ else _)=_;rw[if_neg h1]
  rw[hp];have hin:=tc hR hm h1;have hrl:=hR.inR m.1 hm.1 _ hin;have htk:dE n (bA (ab n m.1) m.2)=m.1:=by have:=vo hR hm.1 hin;simpa using this
  have hsum:=vF (λr=>smW (phiN n δ (dE n r)) (if(ab n m.1).Kind≠1/\r=bA (ab n m.1) m.2 then(c.rg r).tail else c.rg r)) (λr=>smW (phiN n δ (dE n r)) (c.rg r)) (List.range n.Rings.toNat) (bA (ab n m.1) m.2) List.nodup_range (Tv.2 (by omega)) (λj _ hne=>by rw[if_neg (λe=>hne e.2)])
  simp only[htk,ne_eq,h1,not_false_eq_true,true_and,if_true]at hsum;unfold hdM at hx;rw[if_neg h1]at hx;have htl:smW (phiN n δ m.1) (c.rg (bA (ab n m.1) m.2))=vN n δ 12 m.1 x.Key+smW (phiN n δ m.1) (c.rg (bA (ab n m.1) m.2)).tail:=by
   cases hl:c.rg (bA (ab n m.1) m.2)with
   |nil=>rw[hl]at hx;cases hx
   |cons z zs=>rw[hl]at hx;cases hx;simp[smW,phiN]
  simp only[ne_eq,h1,not_false_eq_true,true_and];omega
end
end
end Go.Proofs.YtfglbbhdfgjheaaGreatDoor
