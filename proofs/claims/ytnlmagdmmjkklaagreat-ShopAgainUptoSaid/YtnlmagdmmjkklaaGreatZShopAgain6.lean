/-
  Part 6 of the proof of shopAgainLaw.proved: the code computes these functions, and the law holds of them, with no condition beyond the statement's own; put together by a program of ours (wip/decl.py) out of texts of ours.
-/
import Derived.Test.YtnlmagdmmjkklaaGreatZShopAgain5
set_option linter.unusedVariables false
set_option linter.unusedSimpArgs false
namespace Go.Proofs.YtnlmagdmmjkklaaGreat
def Rd {α:Type} (rd:List UInt8->Option ((α × List UInt8) ⊕ Unit)) (ok:α->Prop) (m:α->Nat):Prop :=
 ∀ b,b.length<=1048576->rd b=some (.inr ())∨∃ x r,rd b=some (.inl (x,r))/\ok x/\m x+r.length<=b.length
theorem JE (z:Int):gI (IntKind.i64.wrap z):=by unfold gI;simp [IntKind.wrap,IntKind.signed,IntKind.bits];omega
theorem HR (z k:Int) (h:0<=k):∃ y:Nat,shl .u64 z k=some (y:Int)/\y<18446744073709551616:=by unfold shl;rw [if_pos h,ma];generalize z*2 ^ (min k.toNat IntKind.u64.bits)=c;refine ⟨(c % 18446744073709551616).toNat,?_,by omega⟩;congr 1;omega
theorem or_lt (a b:Nat) (ha:a<18446744073709551616) (hb:b<18446744073709551616):a ||| b<18446744073709551616:=Nat.or_lt_two_pow (n:=64) ha hb
theorem gV:Rd dl gI mI:=by
 intro b hb;have key:∀ (f i s1:Nat),i+f=10->s1<18446744073709551616 ->
   iter (fun al:Int × Int=>d9 b al.1 al.2) ((s1:Int),(i:Int))=some (.inr ()) ∨
   ∃ n r,iter (fun al:Int × Int=>d9 b al.1 al.2) ((s1:Int),(i:Int))=some (.inl (n,r))/\gI n/\mI n+r.length<=b.length:=by
  intro f
  induction f with
  | zero =>
   intro i s1 hi hs
   left
   have h1:d9 b (s1:Int) (i:Int)=some (.inr (.inr ())):=by unfold d9;rw [if_neg (by rw [decide_eq_true_eq];split<;>omega)];rfl
   rw [aH]
   simp only [h1]
  | succ f ih =>
   intro i s1 hi hs
   by_cases hlt:i<b.length
   ·have hx:b[i]?=some b[i]:=LR hlt
    generalize b[i]=x at hx
    have hix:=bt hx
    obtain ⟨y,hy,hy2⟩:=HR (IntKind.u64.wrap (ibits .and .u8 (x.toNat:Int) 127)) (IntKind.i64.wrap (7*(i:Int))) (by rw [bB (by omega) (by omega)];omega)
    have hor:=or_lt s1 y hs hy2
    by_cases hc:x.toNat<128
    ·right
     have hsh:shr .u64 ((s1 ||| y:Nat):Int) 1=some (((s1 ||| y) / 2:Nat):Int):=by unfold shr;rw [if_pos (by omega)];show some (((s1 ||| y:Nat):Int).fdiv 2)=_;rw [MY _ (by omega)];rfl
     have h1:d9 b (s1:Int) (i:Int)=some (.inr (.inl (ibits .xor .i64 (IntKind.i64.wrap (((s1 ||| y) / 2:Nat):Int)) (IntKind.i64.wrap (0 - (IntKind.i64.wrap (ibits .and .u64 ((s1 ||| y:Nat):Int) 1)))),b.drop (i+1)))):=by unfold d9;rw [if_pos (by rw [decide_eq_true_eq];split<;>omega),hix,LP,hy,LP,LP,if_pos (by simp;omega),bu (by omega),jj (by omega),LP,sR _ _ hs hy2,hsh];rfl
     rw [aH]
     simp only [h1]
     refine ⟨_,_,rfl,?_,?_⟩
     ·exact JE _
     ·show 1+(b.drop (i+1)).length<=b.length
      rw [Mn];omega
    ·have h1:d9 b (s1:Int) (i:Int)=some (.inl (((s1 ||| y:Nat):Int),((i+1:Nat):Int))):=by
      unfold d9;rw [if_pos (by rw [decide_eq_true_eq];split<;>omega),hix,LP,hy,LP,LP,if_neg (by simp;omega),bu (by omega),sR _ _ hs hy2]
     rw [aH]
     simp only [h1]
     exact ih (i+1) (s1 ||| y) (by omega) hor
   ·left
    have h1:d9 b (s1:Int) (i:Int)=some (.inr (.inr ())):=by unfold d9;rw [if_neg (by rw [decide_eq_true_eq];split<;>omega)];rfl
    rw [aH]
    simp only [h1]
 exact key 10 0 0 (by omega) (by omega)
theorem BD {α:Type} {m:α->Nat} (hm:∀ x,1<=m x):∀ l:List α,l.length<=(l.map m).sum
 | []=>by simp
 | x::l=>by have:=hm x;have:=BD hm l;simp only [MC,NL,L5];omega
theorem om {α:Type} {rd:List UInt8->Option ((α × List UInt8) ⊕ Unit)} {ok:α->Prop} {m:α->Nat} (hrd:Rd rd ok m) (hm:∀ x,1<=m x) {L:List UInt8->Option ((List α × List UInt8) ⊕ Unit)} {body:(Int × List UInt8)->Int × List UInt8 × List α->Option ((Int × List UInt8 × List α) ⊕ ((List α × List UInt8) ⊕ Unit))}
  (hL:∀ b,L b=bP (dl b) (some (.inr ())) fun x2=>(if ((decide (x2.1<0)) || decide (x2.1 > ((x2.2).length:Int)))=true then (some (.inr ())) else iter (body x2) (0,x2.2,[])))
  (h1:∀ (x2:Int × List UInt8) (k:Nat) b acc,decide ((k:Int)<x2.1)=true->IntKind.i64.wrap ((k:Int)+1)=((k+1:Nat):Int)->body x2 ((k:Int),b,acc)=bP (rd b) (Option.map Sum.inr (some (.inr ()))) fun x=>Option.bind (app acc [x.1]) fun y=>some (.inl (((k+1:Nat):Int),x.2,y)))
  (h2:∀ (x2:Int × List UInt8) (k:Int) b acc,decide (k<x2.1)=false->body x2 (k,b,acc)=some (.inr (.inl (acc,b)))):Rd L (fun l=>∀ x,x∈l->ok x) (mL m):=by
 intro b hb
 rw [hL]
 rcases gV b hb with h | ⟨N,b0,h,hN,hlen⟩
 ·left;rw [h];rfl
 ·rw [h,bK]
  have hlen':1+b0.length<=b.length:=hlen
  by_cases hbad:N<0∨N > (b0.length:Int)
  ·left
   rw [if_pos (by simpa [decide_eq_true_eq] using hbad)]
  ·rw [if_neg (by simpa [decide_eq_true_eq] using hbad)]
   obtain ⟨M,rfl⟩:=Na (show 0<=N by omega)
   have key:∀ (f k:Nat) (c:List UInt8) (acc:List α),k+f=M->acc.length=k->(∀ x,x∈acc->ok x)->(acc.map m).sum+c.length<=b0.length ->
     iter (body ((M:Int),b0)) ((k:Int),c,acc)=some (.inr ())∨∃ l r,iter (body ((M:Int),b0)) ((k:Int),c,acc)=some (.inl (l,r))/\(∀ x,x∈l->ok x)/\(l.map m).sum+r.length<=b0.length:=by
    intro f
    induction f with
    | zero =>
     intro k c acc hk ha ho hs
     right
     have:k=M:=by omega
     subst this
     rw [aH,h2 _ _ c acc (by simp)]
     exact ⟨acc,c,rfl,ho,hs⟩
    | succ f ih =>
     intro k c acc hk ha ho hs
     rw [aH,h1 _ k c acc (by simp only [decide_eq_true_eq];omega) (bu (by omega))]
     have:=BD hm acc
     rcases hrd c (by omega) with e | ⟨x,r,e,hx,hl⟩
     ·left;rw [e];rfl
     ·rw [e,bK,cH (by simp;omega),LP]
      simp only
      exact ih (k+1) r (acc++[x]) (by omega) (by simp [ha]) (fun y hy=>by
       rcases L8.1 hy with hy | hy
       ·exact ho y hy
       ·rw [M3] at hy;subst hy;exact hx) (by
       rw [NB,List.sum_append];simp only [MC,NZ,NL,List.sum_nil];omega)
   rcases key M 0 b0 [] (by omega) rfl (fun x hx=>(NK hx).elim) (by simp) with e | ⟨l,r,e,ho,hs⟩
   ·exact .inl e
   ·refine .inr ⟨l,r,e,ho,?_⟩
    have:mL m l=(l.map m).sum+1:=rfl
    omega
theorem Jj:Rd nf (gL gI) (mL mI) :=
 om gV (fun _=>LX _) (body:=fun x2 al=>iS x2 al.1 al.2.1 al.2.2) (fun b=>rfl)
  (fun x2 k b acc hd hw=>by simp only;unfold iS;rw [if_pos hd,hw]) (fun x2 k b acc hd=>by simp only;unfold iS;rw [hd];rfl)
theorem IX:Rd lb dk cI:=by
 intro b hb;unfold lb;rcases gV b hb with h | ⟨x,r,h,gx,hx⟩
 ·left;rw [h];rfl
 rw [h,bK];have hx':1+r.length<=b.length:=hx;rcases gV r (by omega) with h | ⟨y,s,h,gy,hy⟩
 ·left;simp only [h];rfl
 simp only [h,bK];have hy':1+s.length<=r.length:=hy;rcases gV s (by omega) with h | ⟨z,t,h,gz,hz⟩
 ·left;simp only [h];rfl
 simp only [h,bK];have hz':1+t.length<=s.length:=hz;exact .inr ⟨_,_,rfl,⟨gx,gy,gz⟩,by show 3+t.length<=b.length;omega⟩
theorem Hx:Rd lj kC gU:=by
 intro b hb;unfold lj;rcases gV b hb with h | ⟨x,r,h,gx,hx⟩
 ·left;rw [h];rfl
 rw [h,bK];have hx':1+r.length<=b.length:=hx;rcases gV r (by omega) with h | ⟨y,s,h,gy,hy⟩
 ·left;simp only [h];rfl
 simp only [h,bK];have hy':1+s.length<=r.length:=hy;exact .inr ⟨_,_,rfl,⟨gx,gy⟩,by show 2+s.length<=b.length;omega⟩
theorem F7:Rd lr ky gP:=by
 intro b hb;unfold lr;rcases gV b hb with h | ⟨x,r,h,gx,hx⟩
 ·left;rw [h];rfl
 rw [h,bK];have hx':1+r.length<=b.length:=hx;rcases gV r (by omega) with h | ⟨y,s,h,gy,hy⟩
 ·left;simp only [h];rfl
 simp only [h,bK];have hy':1+s.length<=r.length:=hy;exact .inr ⟨_,_,rfl,⟨gx,gy⟩,by show 2+s.length<=b.length;omega⟩
theorem Gf:Rd pf (gL dk) (mL cI) :=
 om IX (fun _=>by unfold cI;omega) (body:=fun x2 al=>iQ x2 al.1 al.2.1 al.2.2) (fun b=>rfl)
  (fun x2 k b acc hd hw=>by simp only;unfold iQ;rw [if_pos hd,hw]) (fun x2 k b acc hd=>by simp only;unfold iQ;rw [hd];rfl)
theorem Ar:Rd jI (gL dk) (mL cI):=by
 intro b hb;unfold jI;rcases Gf b hb with h | ⟨x,r,h,gx,hx⟩
 ·left;rw [h];rfl
 rw [h,bK];exact .inr ⟨x,r,rfl,gx,hx⟩
theorem H0:Rd ne (gL (gL dk)) (mL (mL cI)) :=
 om Ar (fun _=>BZ _ _) (body:=fun x2 al=>iR x2 al.1 al.2.1 al.2.2) (fun b=>rfl)
  (fun x2 k b acc hd hw=>by simp only;unfold iR;rw [if_pos hd,hw]) (fun x2 k b acc hd=>by simp only;unfold iR;rw [hd];rfl)
theorem I6:Rd nc (gL kC) (mL gU) :=
 om Hx (fun _=>by unfold gU;omega) (body:=fun x2 al=>iP x2 al.1 al.2.1 al.2.2) (fun b=>rfl)
  (fun x2 k b acc hd hw=>by simp only;unfold iP;rw [if_pos hd,hw]) (fun x2 k b acc hd=>by simp only;unfold iP;rw [hd];rfl)
theorem JO:Rd lq u7 fF:=by
 intro b hb;unfold lq;rcases gV b hb with h | ⟨x,r,h,gx,hx⟩
 ·left;rw [h];rfl
 rw [h,bK];have hx':1+r.length<=b.length:=hx;rcases gV r (by omega) with h | ⟨y,s,h,gy,hy⟩
 ·left;simp only [h];rfl
 simp only [h,bK];have hy':1+s.length<=r.length:=hy;rcases I6 s (by omega) with h | ⟨z,t,h,gz,hz⟩
 ·left;simp only [h];rfl
 simp only [h,bK];exact .inr ⟨_,_,rfl,⟨gx,gz,gy⟩,by show mL gU z+2+t.length<=b.length;omega⟩
theorem IE:Rd na (gL u7) (mL fF) :=
 om JO (fun _=>by unfold fF;omega) (body:=fun x2 al=>iN x2 al.1 al.2.1 al.2.2) (fun b=>rfl)
  (fun x2 k b acc hd hw=>by simp only;unfold iN;rw [if_pos hd,hw]) (fun x2 k b acc hd=>by simp only;unfold iN;rw [hd];rfl)
theorem FV:Rd nb (gL ky) (mL gP) :=
 om F7 (fun _=>by unfold gP;omega) (body:=fun x2 al=>iO x2 al.1 al.2.1 al.2.2) (fun b=>rfl)
  (fun x2 k b acc hd hw=>by simp only;unfold iO;rw [if_pos hd,hw]) (fun x2 k b acc hd=>by simp only;unfold iO;rw [hd];rfl)
theorem JU {n:Net} (items:List (List Item)) (hio:∀ x∈n.Nodes,x.In.length<=1099511627776/\x.Out.length<=1099511627776) (hsrc:cr n items=0) (b:List UInt8) (hb:b.length<=1048576) :
  f6 n items b=some (noS,12)∨∃ t,f6 n items b=some (t,0)/\vP t/\my t<=1048576/\iX n items t=some (b,0):=by
 unfold f6
 rw [rU n items hio,hsrc,LP,if_neg (by decide)]
 rcases Jj b hb with h | ⟨x1,r1,h,g1,m1⟩
 ·left;rw [h];rfl
 rw [h,bK]
 rcases H0 r1 (by omega) with h | ⟨x2,r2,h,g2,m2⟩
 ·left;simp only [h];rfl
 simp only [h,bK]
 rcases IE r2 (by omega) with h | ⟨x3,r3,h,g3,m3⟩
 ·left;simp only [h];rfl
 simp only [h,bK]
 rcases FV r3 (by omega) with h | ⟨x4,r4,h,g4,m4⟩
 ·left;simp only [h];rfl
 simp only [h,bK]
 rcases Ar r4 (by omega) with h | ⟨x5,r5,h,g5,m5⟩
 ·left;simp only [h];rfl
 simp only [h,bK]
 have gt:vP ⟨x1,x2,x3,x4,x5⟩:=⟨g1,g2,g3,g4,g5⟩
 have mt:my ⟨x1,x2,x3,x4,x5⟩<=1048576:=by show mL mI x1+mL (mL cI) x2+mL fF x3+mL gP x4+mL cI x5<=1048576;omega
 obtain ⟨hs,hB⟩:=GX gt mt
 have hby:=Be items ⟨x1,x2,x3,x4,x5⟩ hio hs hB
 rw [hby,LP]
 by_cases hc:cE n items ⟨x1,x2,x3,x4,x5⟩=0
 ·rw [if_neg (show ¬ cE n items ⟨x1,x2,x3,x4,x5⟩≠0 by simp [hc])]
  by_cases he:aY ⟨x1,x2,x3,x4,x5⟩=b
  ·right
   rw [if_neg (by simp [he])]
   refine ⟨_,rfl,gt,mt,?_⟩
   rw [hby,if_neg (show ¬ cE n items ⟨x1,x2,x3,x4,x5⟩≠0 by simp [hc]),he]
  ·left
   rw [if_pos (by simp [he])]
   rfl
 ·left
  rw [if_pos hc,if_pos (by simp [hc])]
  rfl
def eq (l:List Item) (s:Int):Nat:=(l.takeWhile fun x=>decide (x.Dep<=s)).length
theorem uS (l:List Item) (s:Int):eq l s<=l.length:=(List.takeWhile_sublist _).length_le
theorem Dv (l:List Item) (s:Int) (hl:l.length<=1099511627776):pc l s=some (if eq l s<l.length then (eq l s:Int) else -1):=by
 unfold pc;have:=nR (σ:=Unit) l hl (fun k _=>(k:Int)) (body:=fun s1=>m7 l s s1)
  (fun k x _=>if x.Dep > s then some (.inr (k:Int)) else some (.inl ())) (fun _=>some (-1)) ()
  (fun k x _ _ _ h1 h2 h3=>by unfold m7 rJ;rw [h2,h1,h3];by_cases h:x.Dep > s<;>simp [h])
  (fun _ h=>by unfold m7;rw [h];simp)
 refine Eq.trans this ?_;have key:∀ (ys:List Item) (k:Nat),dO (σ:=Unit) (fun k x _=>if x.Dep > s then some (.inr (k:Int)) else some (.inl ())) (fun _=>some (-1)) k ys ()=some (if eq ys s<ys.length then ((k+eq ys s:Nat):Int) else -1):=by
  intro ys;induction ys with
  | nil=>intro k;simp [dO,eq]
  | cons y ys ih =>
   intro k;unfold dO;by_cases h:y.Dep > s
   ·have h':¬ y.Dep<=s:=by omega
    simp [h,eq,h']
   ·have h':y.Dep<=s:=by omega
    rw [if_neg h];simp only;rw [ih (k+1)];have e:eq (y::ys) s=eq ys s+1:=by simp [eq,h']
    rw [e];by_cases hh:eq ys s<ys.length
    ·rw [if_pos hh,if_pos (by simp;omega)];congr 1;omega
    ·rw [if_neg hh,if_neg (by simp;omega)]
 rw [key l 0];simp
def freeR (l:List Item) (s:Int):Int × Int:=if 2000<l.length then (0,2) else if s<0∨500<s then (0,3) else (eq l s,0)
theorem EI (l:List Item) (s:Int):ql l s=some (freeR l s):=by
 unfold ql freeR;by_cases h1:2000<l.length
 ·rw [if_pos (by simp;omega),if_pos h1]
 rw [if_neg (by simp;omega),if_neg h1];by_cases h2:s<0∨500<s
 ·rw [if_pos (by simp;omega),if_pos h2]
 rw [if_neg (by simp;omega),if_neg h2,Dv l s (by omega)];have:=uS l s;by_cases h3:eq l s<l.length
 ·simp [h3];omega
 ·simp [h3];omega
def iw (x:Item):Item:=⟨x.Key,x.Val,0⟩
def vG (l:List Item):List Item × Int:=if 2000<l.length then ([],2) else (l.map iw,0)
theorem Ep (l:List Item):pY l=some (vG l):=by
 unfold pY vG;by_cases h1:2000<l.length
 ·rw [if_pos (by simp;omega),if_pos h1]
 rw [if_neg (by simp;omega),if_neg h1];unfold eQ;rw [cH (by simp;omega)];simp only [MH,LP];have key:∀ (ys pre:List Item),pre.length+ys.length<=2000->∀ (x2:List Item),x2.length=pre.length+ys.length ->
   iter (fun ss:Int × List Item=>lx x2 ss.1 ss.2) ((pre.length:Int),pre++ys)=some (pre++ys.map iw,0):=by
  intro ys
  induction ys with
  | nil =>
   intro pre hp x2 hx
   rw [aH]
   unfold lx
   simp at hx
   rw [if_neg (by simp [hx])]
   simp
  | cons y ys ih =>
   intro pre hp x2 hx
   simp only [L5] at hp hx
   have e1:ixN (pre++y::ys) (pre.length:Int)=some pre.length:=fG (by simp)
   have e2:(pre++y::ys)[pre.length]?=some y:=by simp
   have e3:(pre++y::ys).set pre.length (iw y)=(pre++[iw y])++ys:=by simp [List.set_append]
   have e4:IntKind.i64.wrap ((pre.length:Int)+1)=((pre++[iw y]).length:Int):=by rw [bu (by omega)];simp
   have e5:lx x2 (pre.length:Int) (pre++y::ys)=some (.inl (((pre++[iw y]).length:Int),(pre++[iw y])++ys)):=by unfold lx;rw [if_pos (by simp [hx];omega),e1,LP,e2,LP,e4,show (⟨y.Key,y.Val,0⟩:Item)=iw y from rfl,e3]
   rw [aH,e5]
   simp only
   have:=ih (pre++[iw y]) (by simp;omega) x2 (by simp;omega)
   rw [this]
   simp
 have:=key l [] (by simp;omega) l (by simp);simpa using this
def kv (x:Item):Int × Int:=(x.Key,x.Val)
def tu (a b:List Item):Bool:=decide (a.map kv=b.map kv)
def ii (a b:List Item):Bool:=decide (a.map kv=(b.take a.length).map kv/\a.length<=b.length)
theorem kv_eq (x y:Item):((x.Key==y.Key) && x.Val==y.Val)=decide (kv x=kv y):=by rw [M8];simp [kv]
theorem FO (a b:List Item) (ha:a.length<=1099511627776) (hl:a.length=b.length) {body:Int->Option (Int ⊕ Bool)}
  (h1:∀ (k:Nat) x y,decide ((k:Int)<(a.length:Int))=true->idx a (k:Int)=some x->idx b (k:Int)=some y->IntKind.i64.wrap ((k:Int)+1)=((k+1:Nat):Int)->body k=if kv x=kv y then some (.inl ((k+1:Nat):Int)) else some (.inr false))
  (h2:decide ((a.length:Int)<(a.length:Int))=false->body a.length=some (.inr true)):iter body 0=some (tu a b):=by
 have im:∀ (l:List Item) (k:Nat) (p:Int × Int),idx (l.map kv) (k:Int)=some p->∃ x,idx l (k:Int)=some x/\kv x=p:=by intro l k p h;unfold idx at h;rw [if_pos (by omega)] at h;simp at h;obtain ⟨x,hx,rfl⟩:=h;exact ⟨x,bt hx,rfl⟩
 have:=lO (a.map kv) (b.map kv) (by simpa using ha) (by simpa using hl) (body:=body) (fun k x y h3 h4 h5 h6=>by obtain ⟨x,h7,rfl⟩:=im a k x h4;obtain ⟨y,h8,rfl⟩:=im b k y h5;exact h1 k x y (by simpa using h3) h7 h8 h6) (fun h=>by have:=h2 (by simp);simp;exact this)
 exact this
theorem D3 (a b:List Item) (ha:a.length<=1099511627776):oZ a b=some (tu a b):=by
 unfold oZ;by_cases hl:a.length=b.length
 ·rw [if_neg (by simp;omega)];exact FO a b ha hl (fun k x y h1 h2 h3 h4=>by
   unfold oY rX;rw [h1,h2,h3,h4];simp only [LP,if_true,kv_eq];by_cases h:kv x=kv y<;>simp [h]) (fun h=>by
   unfold oY;rw [h];simp)
 ·rw [if_pos (by simp;omega)];have:a.map kv≠b.map kv:=fun e=>hl (by have:=congrArg List.length e;simp at this;exact this)
  simp [tu,this]
theorem xp (a b:List Item) (ha:a.length<=1099511627776):lB a b=some (ii a b):=by
 unfold lB ii;by_cases h:a.length<=b.length
 ·rw [if_pos (by simp;omega),sub_0 h];simp only [LP];rw [D3 a _ ha];simp [tu,h]
 ·rw [if_neg (by simp;omega)];simp [h]
def dV (t l:List Item) (s:Int):List Item × Int :=
 if 2000<t.length then ([],2)
 else if (freeR l s).2≠0 then ([],(freeR l s).2)
 else if ii t l=false/\ii l t=false then ([],4)
 else if eq l s<=t.length then ([],0)
 else (((l.take (eq l s)).drop t.length).map iw,0)
theorem Hm {l:List Item} {s:Int} (h:(freeR l s).2=0):l.length<=2000/\(freeR l s).1=eq l s:=by
 unfold freeR at h ⊢;split at h
 ·simp at h
 ·split at h
  ·simp at h
  ·rename_i h1 h2;rw [if_neg h1,if_neg h2];exact ⟨by omega,rfl⟩
theorem Em (t l:List Item) (s:Int):pV t l s=some (dV t l s):=by
 unfold pV dV;by_cases h1:2000<t.length
 ·rw [if_pos (by simp;omega),if_pos h1]
 rw [if_neg (by simp;omega),if_neg h1,EI];simp only [LP];by_cases h2:(freeR l s).2≠0
 ·rw [if_pos (by simpa using h2),if_pos h2]
 have h2':(freeR l s).2=0:=by simpa using h2
 obtain ⟨h3,h4⟩:=Hm h2';rw [if_neg (by simp [h2']),if_neg h2,xp t l (by omega)];simp only [LP];have hc:(if (!ii t l)=true then (lB l t).bind fun x4=>some (!x4) else some false)=some (!ii t l && !ii l t):=by rw [xp l t (by omega)];cases ii t l<;>simp
 rw [hc];simp only [LP];by_cases h5:ii t l=false/\ii l t=false
 ·rw [if_pos (by simp [h5]),if_pos h5]
 rw [if_neg (by simpa using h5),if_neg h5,h4];by_cases h6:eq l s<=t.length
 ·rw [if_pos (by simp;omega),if_pos h6]
 rw [if_neg (by simp;omega),if_neg h6];have h7:=uS l s;rw [ox (by omega) h7];simp only [LP];rw [Ep];have:¬ 2000<min (eq l s) l.length - t.length:=by omega
 simp [vG,this]
section
def chE (n:Net) (_:Nat) (c:Choice):Option Int :=
 if c.Node<0∨c.Node >= (n.Nodes.length:Int)∨(ab n c.Node.toNat).Kind≠6 then some 5
 else if c.Lane<0∨c.Lane >= ((ab n c.Node.toNat).In.length:Int) then some 3 else none
def dY (n:Net) (l:List Choice):Int :=
 if (netR n).2≠0 then (netR n).2 else if 500<l.length then 2 else (fc (chE n) 0 l).getD 0
theorem Jp (n:Net) (c:Choice) (k:Nat) (z:Int) :
  (Option.bind (if (decide (c.Node<0))=true then (some true) else (if (decide (c.Node >= ((n.Nodes).length:Int)))=true then (some true) else (Option.bind (idx n.Nodes c.Node) fun x6=>(some (x6.Kind != 6))))) fun c7=>(if c7=true then (Option.map Sum.inr (some (5:Int))) else (Option.bind (if (decide (c.Lane<0))=true then (some true) else (Option.bind (idx n.Nodes c.Node) fun x8=>(some (decide (c.Lane >= ((x8.In).length:Int)))))) fun c9=>(if c9=true then (Option.map Sum.inr (some 3)) else (some (.inl z))))))
  = match chE n k c with | some r=>some (.inr r) | none=>some (.inl z:Int ⊕ Int):=by
 by_cases h0:c.Node<0
 ·have e:chE n k c=some 5:=by unfold chE;rw [if_pos (.inl h0)]
  rw [e,if_pos (show decide (c.Node<0)=true by simpa using h0)];rfl
 rw [if_neg (show ¬ decide (c.Node<0)=true by simpa using h0)]
 by_cases h1:c.Node >= (n.Nodes.length:Int)
 ·have e:chE n k c=some 5:=by unfold chE;rw [if_pos (.inr (.inl h1))]
  rw [e,if_pos (show decide (c.Node >= (n.Nodes.length:Int))=true by simpa using h1)];rfl
 rw [if_neg (show ¬ decide (c.Node >= (n.Nodes.length:Int))=true by simpa using h1)]
 have hi:idx n.Nodes c.Node=some (ab n c.Node.toNat):=idx_D _ (by omega) (by omega)
 rw [hi,LP,LP]
 by_cases h6:(ab n c.Node.toNat).Kind=6
 ·have hn:¬ (c.Node<0∨c.Node >= (n.Nodes.length:Int)∨(ab n c.Node.toNat).Kind≠6):=fun h=>h.elim h0 fun h=>h.elim h1 fun h=>h h6
  rw [if_neg (show ¬ ((ab n c.Node.toNat).Kind != 6)=true by simp [h6])]
  by_cases h2:c.Lane<0
  ·have e:chE n k c=some 3:=by unfold chE;rw [if_neg hn,if_pos (.inl h2)]
   rw [e,if_pos (show decide (c.Lane<0)=true by simpa using h2)];rfl
  ·rw [if_neg (show ¬ decide (c.Lane<0)=true by simpa using h2),LP,LP]
   by_cases h3:c.Lane >= ((ab n c.Node.toNat).In.length:Int)
   ·have e:chE n k c=some 3:=by unfold chE;rw [if_neg hn,if_pos (.inr h3)]
    rw [e,if_pos (show decide (c.Lane >= ((ab n c.Node.toNat).In.length:Int))=true by simpa using h3)];rfl
   ·have e:chE n k c=none:=by unfold chE;rw [if_neg hn,if_neg (fun h=>h.elim h2 h3)]
    rw [e,if_neg (show ¬ decide (c.Lane >= ((ab n c.Node.toNat).In.length:Int))=true by simpa using h3)]
 ·have e:chE n k c=some 5:=by unfold chE;rw [if_pos (.inr (.inr h6))]
  rw [e,if_pos (show ((ab n c.Node.toNat).Kind != 6)=true by simpa using h6)];rfl
section
variable (n:Net) (hio:∀ x∈n.Nodes,x.In.length≤1099511627776∧x.Out.length≤1099511627776)
include hio
theorem El (l:List Choice):nJ n l=some (dY n l):=by
 unfold nJ dY;rw [xB n hio,LP];by_cases h:(netR n).2=0
 ·rw [if_neg (show ¬ ((netR n).2 != 0)=true by simp [h]),if_neg (show ¬ (netR n).2≠0 by simp [h])];by_cases h5:500<l.length
  ·rw [if_pos (show decide ((l.length:Int) > 500)=true by simp;omega),if_pos h5]
  ·rw [if_neg (show ¬ decide ((l.length:Int) > 500)=true by simp;omega),if_neg h5];rw [qz l (by omega) (chE n) (some 0) (fun k x hx hk e1 e2 e3=>by
    unfold pN;rw [e2,e1,e3];simp only [if_true,LP];rw [Jp n x k];cases chE n k x<;>rfl) (fun e=>by unfold pN;rw [e];rfl)]
   exact yu _ _
 ·rw [if_pos (by simpa using h),if_pos h]
end
structure RightC (n:Net) (l:List Choice):Prop where
 net:(netR n).2=0
 len:l.length<=500
 each:∀ c,c∈l->0<=c.Node/\c.Node<n.Nodes.length/\(ab n c.Node.toNat).Kind=6/\0<=c.Lane/\c.Lane<(ab n c.Node.toNat).In.length
theorem yY {n:Net} {l:List Choice} (h:RightC n l):dY n l=0:=by
 unfold dY;rw [if_neg (by simp [h.net]),if_neg (by have:=h.len;omega)];have:fc (chE n) 0 l=none:=lF.2 fun j x hx=>by obtain ⟨a,b,c,d,e⟩:=h.each x (LT hx);unfold chE;rw [if_neg (by omega),if_neg (by omega)]
 rw [this];rfl
theorem GD {α:Type} {l:List α} {k:Nat} {x:α} (h:l[k]?=some x):l.take (k+1)=l.take k++[x]:=by rw [List.take_add_one,h];rfl
section
variable (n:Net) (hio:∀ x∈n.Nodes,x.In.length≤1099511627776∧x.Out.length≤1099511627776)
include hio
omit hio in
end
def begN (n:Net) (a b:List Choice):Prop:=∀ i,i<n.Nodes.length->sX a i <+: sX b i
noncomputable instance (n:Net) (a b:List Choice):Decidable (begN n a b):=Classical.propDecidable _
section
variable (n:Net) (hio:∀ x∈n.Nodes,x.In.length≤1099511627776∧x.Out.length≤1099511627776)
include hio
end
end
noncomputable section
def noH:Shop:=⟨⟨[],0,0⟩,[],noS,noD,0,0,0,0,0,[],false⟩
def ofM (n:Net) (items:List (List Item)) (b:List UInt8):State × Int:=(f6 n items b).getD (noS,12)
def dN (n:Net) (items:List (List Item)) (S:List (List UInt8)) (sl:Nat) (st:State × Nat):State × Nat :=
 match cq S sl with
 | none=>st
 | some x=>if x.2<=st.2 then st else if (ofM n items x.1).2=0 then ((ofM n items x.1).1,x.2) else st
def cn (n:Net) (items:List (List Item)) (S:List (List UInt8)):State × Nat:=dN n items S 1 (dN n items S 0 (bb n items,0))
def bL (n:Net) (items:List (List Item)) (s:State) (l:List Choice):State × Int:=if 500<s.Choices.length+l.length then (noS,2) else (repM n items (muN n items s+1) s l).getD (noS,0)
def doP (h:Shop) (k a:Int):Shop × Int :=
 if h.Down=true then
  if k≠6 then (noH,13)
  else
   let q:=cn h.N h.Items h.D.Sectors
   let l:=bd (q.2:Int) (h.D.Sectors.drop 120)
   if dY h.N l.1≠0 then (noH,dY h.N l.1)
   else
    let r:=bL h.N h.Items q.1 l.1
    if r.2≠0 then (noH,r.2) else ({ h with S:=r.1,Logged:=r.1.Choices.length,Safe:=r.1.Choices.length,Epoch:=(q.2:Int),Next:=(l.2:Int),Down:=false },0)
 else if k=1 then
  if bc h.N h.Items h.S=[] then (noH,10) else ({ h with S:=doMv h.N h.Items h.S (fg (bc h.N h.Items h.S) a) },0)
 else if k=2 then
  if 0<=h.Laid then (noH,10)
  else
   let r:=cu h.Epoch.toNat h.D.Sectors (h.S.Choices.drop h.Logged.toNat).length h.Next.toNat (h.S.Choices.drop h.Logged.toNat) h.D.Wait
   if r.2.2≠0 then (noH,r.2.2) else ({ h with D:=r.1,Next:=r.2.1,Logged:=h.S.Choices.length },0)
 else if k=3 then
  if 0<=h.Laid then ({ h with D:=⟨aL h.D.Sectors h.D.Wait,[]⟩,Epoch:=h.Epoch+1,Next:=0,Logged:=h.Laid,Safe:=h.Laid,Laid := -1 },0)
  else ({ h with D:=⟨aL h.D.Sectors h.D.Wait,[]⟩,Safe:=h.Logged },0)
 else if k=4 then
  let r:=dV h.Told h.S.Out h.Safe
  if r.2≠0 then (noH,r.2) else ({ h with Told:=h.Told++r.1 },0)
 else if k=5 then
  if a<0∨h.D.Wait.length<a then (noH,3)
  else ({ h with D:=⟨aL h.D.Sectors (h.D.Wait.take a.toNat),[]⟩,S:=bb h.N h.Items,Logged:=0,Safe:=0,Epoch:=0,Laid := -1,Next:=0,Down:=true },0)
 else if k=7 then
  if 0<=h.Laid then (noH,10)
  else if h.Epoch=200 then (noH,8)
  else if 60<=((aY h.S).length+49) / 50∨300<h.D.Wait.length+(((aY h.S).length+49) / 50+1) then (noH,8)
  else ({ h with D:=⟨h.D.Sectors,h.D.Wait++cA h.Epoch.toNat (aY h.S)⟩,Laid:=h.S.Choices.length },0)
 else (noH,13)
section
variable (n:Net) (items:List (List Item))
def PB (b:List UInt8):Prop:=∃ s,Inv n items s/\KV s/\b=aY s/\b.length<=3000
structure JS (E:Nat) (h:Shop):Prop where
 N:h.N=n
 I:h.Items=items
 inv:Inv n items h.S
 kv:KV h.S
 e2:E<=200
 okD:bH h.D
 held:Held (PB n items) E h.D.Sectors
 wait:Waits (PB n items) E (decide (0<=h.Laid)) h.D.Wait
 ep:h.Down=false->h.Epoch=(E:Int)
 down:h.Down=true->h.D.Wait=[]/\h.Epoch=0/\h.S=bb n items/\h.Laid = -1
 laid : -1<=h.Laid/\h.Laid<=h.S.Choices.length
 log:0<=h.Safe/\h.Safe<=h.Logged/\h.Logged<=h.S.Choices.length
 next:0<=h.Next/\h.Next<=80
 told:h.Told.length<=2000
structure SrcQ:Prop where
 S:RightS n items
 src:cr n items=0
 io:∀ x∈n.Nodes,x.In.length<=1099511627776/\x.Out.length<=1099511627776
 g:gL (gL dk) items
end
theorem Waits.low {P:List UInt8->Prop} {E:Nat} {q:Bool} {W:List Write} (h:Waits P E q W) (hq:q=false):∀ w,w∈W->logW E w:=by
 cases h with
 | log hw=>exact hw
 | slot hw hP hE hb=>cases hq
theorem Waits.e {P:List UInt8->Prop} {E:Nat} {q:Bool} {W:List Write} (h:Waits P E q W) (hq:q=true):E+1<=200:=by
 cases h with
 | log hw=>cases hq
 | slot hw hP hE hb=>exact hE
theorem AW (ep:Nat) (S:List (List UInt8)):∀ (n a:Nat) (l:List Choice) (w:List Write),a<=80->bH ⟨S,w⟩->(cu ep S n a l w).2.2=0->bH (cu ep S n a l w).1
 | 0,a,l,w,ha,hd,_=>hd
 | n+1,a,l,w,ha,hd,he=>by
  unfold cu at he ⊢;by_cases hl0:l=[]
  ·rw [if_pos hl0];exact hd
  rw [if_neg hl0] at he ⊢;by_cases hc:(dL (l.take 29)).2≠0
  ·rw [if_pos hc] at he;exact absurd he hc
  rw [if_neg hc] at he ⊢;by_cases h80:a=80
  ·rw [if_pos h80] at he;exact absurd he (by decide)
  rw [if_neg h80] at he ⊢;by_cases h300:w.length=300
  ·rw [if_pos h300] at he;exact absurd he (by decide)
  rw [if_neg h300] at he ⊢;have hcl:=xZ (l.take 29) (by rw [Mg];omega);refine AW ep S n (a+1) (l.drop 29) _ (by omega) (AM hd ⟨?_,?_,?_⟩ (by have:=hd.2.1;simp only at this;omega)) he
  ·show (0:Int)<=((120+a:Nat):Int);omega
  ·show ((120+a:Nat):Int)<200;omega
  ·show (frm _).length<=64;rw [l8,L5];omega
theorem vv {d:Disk} (h:bH d) (k:Nat):bH ⟨aL d.Sectors (d.Wait.take k),[]⟩:=by obtain ⟨h1,h2,h3,h4⟩:=h;obtain ⟨q1,q2⟩:=Bf (d.Wait.take k) d.Sectors (fun w hw=>h4 w (L4 hw)) h1 h3;exact ⟨q1,by show 0<=300;omega,q2,fun w hw=>by cases hw⟩
theorem zQ (ep:Int):∀ S:List (List UInt8),(bd ep S).2<=S.length
 | []=>by simp [bd]
 | s::S=>by
  have:=zQ ep S;unfold bd;split
  ·simp
  ·simp only [L5];omega
theorem yv {t l:List Item} {s:Int} (ht:t.length<=2000) (hl:l.length<=2000):(t++(dV t l s).1).length<=2000:=by
 have hf:=uS l s;rw [LU];unfold dV;split
 ·simpa using ht
 split
 ·simpa using ht
 split
 ·simpa using ht
 split
 ·simpa using ht
 ·simp only [L6,Mn,Mg];omega
section
variable {n:Net} {items:List (List Item)} {E:Nat} {h:Shop}
theorem doP_1 (hd:h.Down=false) (a:Int):doP h 1 a=if bc h.N h.Items h.S=[] then (noH,10) else ({ h with S:=doMv h.N h.Items h.S (fg (bc h.N h.Items h.S) a) },0):=by unfold doP;rw [if_neg (show ¬ h.Down=true by rw [hd];decide),if_pos rfl]
theorem doP_2 (hd:h.Down=false) (a:Int):doP h 2 a=if 0<=h.Laid then (noH,10) else if (cu h.Epoch.toNat h.D.Sectors (h.S.Choices.drop h.Logged.toNat).length h.Next.toNat (h.S.Choices.drop h.Logged.toNat) h.D.Wait).2.2≠0 then (noH,(cu h.Epoch.toNat h.D.Sectors (h.S.Choices.drop h.Logged.toNat).length h.Next.toNat (h.S.Choices.drop h.Logged.toNat) h.D.Wait).2.2) else ({ h with D:=(cu h.Epoch.toNat h.D.Sectors (h.S.Choices.drop h.Logged.toNat).length h.Next.toNat (h.S.Choices.drop h.Logged.toNat) h.D.Wait).1,Next:=(cu h.Epoch.toNat h.D.Sectors (h.S.Choices.drop h.Logged.toNat).length h.Next.toNat (h.S.Choices.drop h.Logged.toNat) h.D.Wait).2.1,Logged:=h.S.Choices.length },0):=by unfold doP;rw [if_neg (show ¬ h.Down=true by rw [hd];decide),if_neg (show ¬ (2:Int)=1 by decide),if_pos rfl]
theorem doP_3 (hd:h.Down=false) (a:Int):doP h 3 a=if 0<=h.Laid then ({ h with D:=⟨aL h.D.Sectors h.D.Wait,[]⟩,Epoch:=h.Epoch+1,Next:=0,Logged:=h.Laid,Safe:=h.Laid,Laid := -1 },0) else ({ h with D:=⟨aL h.D.Sectors h.D.Wait,[]⟩,Safe:=h.Logged },0):=by unfold doP;rw [if_neg (show ¬ h.Down=true by rw [hd];decide),if_neg (show ¬ (3:Int)=1 by decide),if_neg (show ¬ (3:Int)=2 by decide),if_pos rfl]
theorem doP_4 (hd:h.Down=false) (a:Int):doP h 4 a=if (dV h.Told h.S.Out h.Safe).2≠0 then (noH,(dV h.Told h.S.Out h.Safe).2) else ({ h with Told:=h.Told++(dV h.Told h.S.Out h.Safe).1 },0):=by unfold doP;rw [if_neg (show ¬ h.Down=true by rw [hd];decide),if_neg (show ¬ (4:Int)=1 by decide),if_neg (show ¬ (4:Int)=2 by decide),if_neg (show ¬ (4:Int)=3 by decide),if_pos rfl]
theorem doP_5 (hd:h.Down=false) (a:Int):doP h 5 a=if a<0∨h.D.Wait.length<a then (noH,3) else ({ h with D:=⟨aL h.D.Sectors (h.D.Wait.take a.toNat),[]⟩,S:=bb h.N h.Items,Logged:=0,Safe:=0,Epoch:=0,Laid := -1,Next:=0,Down:=true },0):=by unfold doP;rw [if_neg (show ¬ h.Down=true by rw [hd];decide),if_neg (show ¬ (5:Int)=1 by decide),if_neg (show ¬ (5:Int)=2 by decide),if_neg (show ¬ (5:Int)=3 by decide),if_neg (show ¬ (5:Int)=4 by decide),if_pos rfl]
theorem doP_7 (hd:h.Down=false) (a:Int):doP h 7 a=if 0<=h.Laid then (noH,10) else if h.Epoch=200 then (noH,8) else if 60<=((aY h.S).length+49) / 50∨300<h.D.Wait.length+(((aY h.S).length+49) / 50+1) then (noH,8) else ({ h with D:=⟨h.D.Sectors,h.D.Wait++cA h.Epoch.toNat (aY h.S)⟩,Laid:=h.S.Choices.length },0):=by unfold doP;rw [if_neg (show ¬ h.Down=true by rw [hd];decide),if_neg (show ¬ (7:Int)=1 by decide),if_neg (show ¬ (7:Int)=2 by decide),if_neg (show ¬ (7:Int)=3 by decide),if_neg (show ¬ (7:Int)=4 by decide),if_neg (show ¬ (7:Int)=5 by decide),if_pos rfl]
theorem fH (hd:h.Down=true) (k a:Int):doP h k a=if k≠6 then (noH,13) else if dY h.N (bd ((cn h.N h.Items h.D.Sectors).2:Int) (h.D.Sectors.drop 120)).1≠0 then (noH,dY h.N (bd ((cn h.N h.Items h.D.Sectors).2:Int) (h.D.Sectors.drop 120)).1)
  else if (bL h.N h.Items (cn h.N h.Items h.D.Sectors).1 (bd ((cn h.N h.Items h.D.Sectors).2:Int) (h.D.Sectors.drop 120)).1).2≠0 then (noH,(bL h.N h.Items (cn h.N h.Items h.D.Sectors).1 (bd ((cn h.N h.Items h.D.Sectors).2:Int) (h.D.Sectors.drop 120)).1).2)
  else ({ h with S:=(bL h.N h.Items (cn h.N h.Items h.D.Sectors).1 (bd ((cn h.N h.Items h.D.Sectors).2:Int) (h.D.Sectors.drop 120)).1).1,Logged:=(bL h.N h.Items (cn h.N h.Items h.D.Sectors).1 (bd ((cn h.N h.Items h.D.Sectors).2:Int) (h.D.Sectors.drop 120)).1).1.Choices.length,Safe:=(bL h.N h.Items (cn h.N h.Items h.D.Sectors).1 (bd ((cn h.N h.Items h.D.Sectors).2:Int) (h.D.Sectors.drop 120)).1).1.Choices.length,Epoch:=((cn h.N h.Items h.D.Sectors).2:Int),Next:=((bd ((cn h.N h.Items h.D.Sectors).2:Int) (h.D.Sectors.drop 120)).2:Int),Down:=false },0):=by
 unfold doP;rw [if_pos hd]
theorem vh (hd:h.Down=false) {k:Int} (a:Int) (hk:k≠1/\k≠2/\k≠3/\k≠4/\k≠5/\k≠7):doP h k a=(noH,13):=by unfold doP;rw [if_neg (show ¬ h.Down=true by rw [hd];decide),if_neg hk.1,if_neg hk.2.1,if_neg hk.2.2.1,if_neg hk.2.2.2.1,if_neg hk.2.2.2.2.1,if_neg hk.2.2.2.2.2]
theorem yi (hS:RightS n items):JS n items 0 ⟨n,items,bb n items,noD,0,0,0, -1,0,[],false⟩ where
 N:=rfl
 I:=rfl
 inv:=nX hS
 kv:=oc n items
 e2:=by omega
 okD:=IR
 held:=HX
 wait:=.log fun w hw=>by cases hw
 ep:=fun _=>rfl
 down:=fun h=>by cases h
 laid:=⟨by show (-1:Int) <= -1;omega,by show (-1:Int)<=_;omega⟩
 log:=⟨Mu _,Mu _,by show (0:Int)<=_;omega⟩
 next:=⟨Mu _,by show (0:Int)<=80;omega⟩
 told:=by show 0<=2000;omega
theorem Inv.ch {s:State} (hI:Inv n items s):s.Choices.length<=500/\s.Out.length<=2000:=by obtain ⟨B,ok,_⟩:=hI;exact ⟨ok.ch,ok.out⟩
theorem JS.go (q:SrcQ n items) (j:JS n items E h) (hd:h.Down=false) {m:Move} (hm:m∈bc n items h.S):JS n items E { h with S:=doMv n items h.S m }:=by
 have hch:=B7 hm;have hle:(h.S.Choices.length:Int)<=((doMv n items h.S m).Choices.length:Int):=by
  rw [hch];split
  ·rw [LU];omega
  ·omega
 exact ⟨j.N,j.I,(j.inv.doMv q.S hm).1,kv_do q.g j.kv _ _,j.e2,j.okD,j.held,j.wait,j.ep,fun h0=>(by rw [show h.Down=true from h0] at hd;cases hd),⟨j.laid.1,Int.le_trans j.laid.2 hle⟩,⟨j.log.1,j.log.2.1,Int.le_trans j.log.2.2 hle⟩,j.next,j.told⟩
theorem JS.write (j:JS n items E h) (hd:h.Down=false) (hl:¬ 0<=h.Laid)
  (h0:(cu h.Epoch.toNat h.D.Sectors (h.S.Choices.drop h.Logged.toNat).length h.Next.toNat (h.S.Choices.drop h.Logged.toNat) h.D.Wait).2.2=0) :
  ∃ cs:List (List Choice),cu h.Epoch.toNat h.D.Sectors (h.S.Choices.drop h.Logged.toNat).length h.Next.toNat (h.S.Choices.drop h.Logged.toNat) h.D.Wait=(⟨h.D.Sectors,h.D.Wait++wr E h.Next.toNat cs⟩,((h.Next.toNat+cs.length:Nat):Int),0) /\
   h.S.Choices.drop h.Logged.toNat=cs.flatten/\(∀ c,c∈cs->gX c)/\h.Next.toNat+cs.length<=80 /\
   JS n items E { h with D:=⟨h.D.Sectors,h.D.Wait++wr E h.Next.toNat cs⟩,Next:=((h.Next.toNat+cs.length:Nat):Int),Logged:=h.S.Choices.length }:=by
 have hep:=j.ep hd
 have hE:h.Epoch.toNat=E:=by omega
 rw [hE] at h0 ⊢
 have hn:=j.next
 obtain ⟨cs,h1,h2,h3,h4⟩:=Bl E h.D.Sectors _ h.Next.toNat _ h.D.Wait (LX _) (by omega) h0
 have hok:=AW E h.D.Sectors _ h.Next.toNat _ h.D.Wait (by omega) j.okD h0
 rw [h1] at hok
 refine ⟨cs,h1,h2,h3,h4,⟨j.N,j.I,j.inv,j.kv,j.e2,hok,j.held,?_,j.ep,fun hx=>(by rw [show h.Down=true from hx] at hd;cases hd),j.laid,⟨j.log.1,by show h.Safe<=(h.S.Choices.length:Int);have:=j.log;omega,by show (h.S.Choices.length:Int)<=_;exact Mu _⟩,⟨by show (0:Int)<=((h.Next.toNat+cs.length:Nat):Int);omega,by show ((h.Next.toNat+cs.length:Nat):Int)<=80;omega⟩,j.told⟩⟩
 have hq:decide (0<=h.Laid)=false:=by simpa using hl
 have hw:=j.wait.low hq
 show Waits _ E (decide (0<=h.Laid)) _
 rw [hq]
 refine .log fun w hw'=>?_
 rcases L8.1 hw' with hw' | hw'
 ·exact hw w hw'
 ·exact oC E j.e2 _ cs h4 h3 w hw'
theorem JS.flush (j:JS n items E h) (hd:h.Down=false) (a:Int):JS n items (if 0<=h.Laid then E+1 else E) (doP h 3 a).1:=by
 have hdd:¬ h.Down=true:=by rw [hd];decide
 have hf:=j.held.flush j.wait;have hokd:bH ⟨aL h.D.Sectors h.D.Wait,[]⟩:=by have:=vv j.okD h.D.Wait.length;rwa [MT] at this
 rw [doP_3 hd];by_cases hl:0<=h.Laid
 ·rw [if_pos hl,if_pos hl];rw [if_pos (by simpa using hl)] at hf;exact ⟨j.N,j.I,j.inv,j.kv,j.wait.e (by simpa using hl),hokd,hf,.log fun w hw=>(by cases hw),fun _=>(by show h.Epoch+1=((E+1:Nat):Int);rw [j.ep hd];omega),fun hx=>absurd hx hdd,⟨Mu _,by show (-1:Int)<=_;omega⟩,⟨hl,Mu _,j.laid.2⟩,⟨Mu _,by show (0:Int)<=80;omega⟩,j.told⟩
 ·rw [if_neg hl,if_neg hl];have hq:decide (0<=h.Laid)=false:=by simpa using hl
  rw [hq] at hf;exact ⟨j.N,j.I,j.inv,j.kv,j.e2,hokd,hf,(by show Waits _ E (decide (0<=h.Laid)) [];rw [hq];exact .log fun w hw=>(by cases hw)),j.ep,fun hx=>absurd hx hdd,j.laid,⟨by show 0<=h.Logged;have:=j.log;omega,Mu _,j.log.2.2⟩,j.next,j.told⟩
theorem JS.tell (j:JS n items E h):JS n items E { h with Told:=h.Told++(dV h.Told h.S.Out h.Safe).1 } :=
 ⟨j.N,j.I,j.inv,j.kv,j.e2,j.okD,j.held,j.wait,j.ep,j.down,j.laid,j.log,j.next,yv j.told j.inv.ch.2⟩
theorem JS.cut (q:SrcQ n items) (j:JS n items E h) (k:Nat) :
  ∃ E',(E'=E∨(E'=E+1/\0<=h.Laid/\h.D.Wait.length<=k))/\JS n items E' { h with D:=⟨aL h.D.Sectors (h.D.Wait.take k),[]⟩,S:=bb h.N h.Items,Logged:=0,Safe:=0,Epoch:=0,Laid := -1,Next:=0,Down:=true }:=by
 have key:∀ E',E'<=200->Held (PB n items) E' (aL h.D.Sectors (h.D.Wait.take k))->JS n items E' { h with D:=⟨aL h.D.Sectors (h.D.Wait.take k),[]⟩,S:=bb h.N h.Items,Logged:=0,Safe:=0,Epoch:=0,Laid := -1,Next:=0,Down:=true }:=fun E' h2 hh=>by
  have e:bb h.N h.Items=bb n items:=by rw [j.N,j.I]
  rw [e];exact ⟨j.N,j.I,nX q.S,oc n items,h2,vv j.okD k,hh,.log fun w hw=>(by cases hw),fun hx=>(by cases hx),fun _=>⟨rfl,rfl,rfl,rfl⟩,⟨Mu _,by show (-1:Int)<=_;omega⟩,⟨Mu _,Mu _,by show (0:Int)<=_;omega⟩,⟨Mu _,by show (0:Int)<=80;omega⟩,j.told⟩
 rcases j.held.cut j.wait k with hh | ⟨hq,hl,hh⟩
 ·exact ⟨E,.inl rfl,key E j.e2 hh⟩
 ·exact ⟨E+1,.inr ⟨rfl,by simpa using hq,hl⟩,key (E+1) (j.wait.e hq) hh⟩
theorem JS.lay (j:JS n items E h) (hd:h.Down=false) (hl:¬ 0<=h.Laid) (h200:h.Epoch≠200) (hb:¬ (60<=((aY h.S).length+49) / 50∨300<h.D.Wait.length+(((aY h.S).length+49) / 50+1))) :
  JS n items E { h with D:=⟨h.D.Sectors,h.D.Wait++cA E (aY h.S)⟩,Laid:=h.S.Choices.length }:=by
 have hep:=j.ep hd
 have he2:=j.e2
 have hq:decide (0<=h.Laid)=false:=by simpa using hl
 have hw:=j.wait.low hq
 have hsl:=uE E (aY h.S)
 refine ⟨j.N,j.I,j.inv,j.kv,j.e2,⟨j.okD.1,?_,j.okD.2.2.1,fun w hw'=>?_⟩,j.held,?_,j.ep,fun hx=>(by rw [show h.Down=true from hx] at hd;cases hd),⟨by show (-1:Int)<=(h.S.Choices.length:Int);omega,Mu _⟩,j.log,j.next,j.told⟩
 ·show (h.D.Wait++cA E (aY h.S)).length<=300
  rw [LU];omega
 ·rcases L8.1 hw' with hw' | hw'
  ·exact (hw w hw').1
  ·exact qE (by omega) w hw'
 ·show Waits _ E (decide (0<=(h.S.Choices.length:Int))) _
  have:decide (0<=(h.S.Choices.length:Int))=true:=by simp
  rw [this]
  exact .slot hw ⟨h.S,j.inv,j.kv,rfl,by omega⟩ (by omega) (by omega)
theorem HY (q:SrcQ n items) {s:State} (hI:Inv n items s) (hk:KV s) (hb:(aY s).length<=3000):f6 n items (aY s)=some (s,0):=by have hs:=kv_s q.S hI hk;obtain ⟨B,ok,_⟩:=hI;refine Of_eq n items s hs (by unfold BB;omega) (by rw [rU n items q.io,q.src]) ?_;rw [qD n items s q.io (AK hs).a6,tF q.src ok]
theorem vi (q:SrcQ n items) {S:List (List UInt8)} (hh:Held (PB n items) E S):∃ s,cn n items S=(s,E)/\Inv n items s/\KV s/\(E=0->s=bb n items)/\(E≠0->cq S (E % 2)=some (aY s,E)/\(aY s).length<=3000):=by
 have low:∀ sl st,sl<=1->(sl=E % 2->E=0)->st.2<=E->(dN n items S sl st).2<E∨dN n items S sl st=st:=fun sl st hs hne hst=>by
  unfold dN;cases hx:cq S sl with
  | none=>exact .inr rfl
  | some x =>
   simp only;by_cases h1:x.2<=st.2
   ·rw [if_pos h1];exact .inr rfl
   ·rw [if_neg h1];rcases hh.other hs hx with e | e | ⟨e1,e2⟩
    ·omega
    ·by_cases h2:(ofM n items x.1).2=0
     ·rw [if_pos h2];exact .inl e
     ·rw [if_neg h2];exact .inr rfl
    ·have:=hne e1;omega
 by_cases h0:E=0
 ·subst h0;refine ⟨bb n items,?_,nX q.S,oc n items,fun _=>rfl,fun h=>absurd rfl h⟩;unfold cn;have a0:dN n items S 0 (bb n items,0)=(bb n items,0):=by
   rcases low 0 (bb n items,0) (by omega) (fun _=>rfl) (LX _) with h | h
   ·omega
   ·exact h
  have a1:dN n items S 1 (bb n items,0)=(bb n items,0):=by
   rcases low 1 (bb n items,0) (by omega) (fun _=>rfl) (LX _) with h | h
   ·omega
   ·exact h
  rw [a0,a1]
 ·obtain ⟨b,⟨s,hI,hk,rfl,hb⟩,hg⟩:=hh.own h0;have hof:=HY q hI hk hb;have hof':ofM n items (aY s)=(s,0):=by unfold ofM;rw [hof];rfl
  have own:∀ st:State × Nat,st.2<E->dN n items S (E % 2) st=(s,E):=fun st hst=>by unfold dN;rw [hg];simp only;rw [if_neg (by omega),hof',if_pos rfl]
  refine ⟨s,?_,hI,hk,fun h=>absurd h h0,fun _=>⟨hg,hb⟩⟩;unfold cn;rcases Nat.mod_two_eq_zero_or_one E with e | e
  ·have h1:=own (bb n items,0) (by show 0<E;omega);rw [e] at h1;rw [h1];rcases low 1 (s,E) (by omega) (fun h=>by omega) (LX _) with h | h
   ·exfalso;unfold dN at h;cases hx:cq S 1 with
    | none=>rw [hx] at h;simp at h
    | some x =>
     rw [hx] at h;simp only at h;by_cases h2:x.2<=E
     ·rw [if_pos h2] at h;simp at h
     ·rcases hh.other (by omega) hx with e' | e' | ⟨e',_⟩<;>omega
   ·exact h
  ·have h1:=low 0 (bb n items,0) (by omega) (fun h=>by omega) (by show 0<=E;omega);have h2:(dN n items S 0 (bb n items,0)).2<E:=by
    rcases h1 with h1 | h1
    ·exact h1
    ·rw [h1];show 0<E;omega
   have h3:=own _ h2;rw [e] at h3;exact h3
theorem Ji (q:SrcQ n items) {s:State} (hI:Inv n items s) (hk:KV s) (l:List Choice):((bL n items s l).2=0->Inv n items (bL n items s l).1/\KV (bL n items s l).1/\(bL n items s l).1.Choices=s.Choices++l)/\((bL n items s l).2≠0->(bL n items s l).1=noS):=by
 unfold bL;by_cases h5:500<s.Choices.length+l.length
 ·rw [if_pos h5];exact ⟨fun h=>absurd h (by decide),fun _=>rfl⟩
 rw [if_neg h5];obtain ⟨r,e1,e2,e3⟩:=vT q.S q.g (muN n items s+1) s l hI hk (by omega);rw [e1];exact ⟨e2,fun h=>by rw [show (some r).getD (noS,0)=r from rfl,e3 h]⟩
theorem JS.up (q:SrcQ n items) (j:JS n items E h) (hd:h.Down=true) {a:Int} (h0:(doP h 6 a).2=0) :
  ∃ s t,cn n items h.D.Sectors=(s,E)/\Inv n items s/\KV s/\bL n items s (bd (E:Int) (h.D.Sectors.drop 120)).1=(t,0)/\dY n (bd (E:Int) (h.D.Sectors.drop 120)).1=0/\t.Choices=s.Choices++(bd (E:Int) (h.D.Sectors.drop 120)).1 /\
   doP h 6 a=({ h with S:=t,Logged:=t.Choices.length,Safe:=t.Choices.length,Epoch:=(E:Int),Next:=((bd (E:Int) (h.D.Sectors.drop 120)).2:Int),Down:=false },0)/\JS n items E (doP h 6 a).1:=by
 obtain ⟨s,hn,hI,hk,_⟩:=vi q j.held
 have eN:=j.N
 have eI:=j.I
 subst eN
 subst eI
 rw [fH hd,if_neg (show ¬ (6:Int)≠6 by decide),hn] at h0 ⊢
 simp only at h0 ⊢
 by_cases h1:dY h.N (bd (E:Int) (h.D.Sectors.drop 120)).1=0
 ·rw [if_neg (by simpa using h1)] at h0 ⊢
  by_cases h2:(bL h.N h.Items s (bd (E:Int) (h.D.Sectors.drop 120)).1).2=0
  ·rw [if_neg (by simpa using h2)]
   obtain ⟨g1,g2,g3⟩:=(Ji q hI hk (bd (E:Int) (h.D.Sectors.drop 120)).1).1 h2
   have hsc:=zQ (E:Int) (h.D.Sectors.drop 120)
   have hl:=j.okD.1
   have hdn:=j.down hd
   rw [Mn] at hsc
   refine ⟨s,(bL h.N h.Items s (bd (E:Int) (h.D.Sectors.drop 120)).1).1,rfl,hI,hk,Prod.ext rfl h2,h1,g3,rfl,?_⟩
   exact ⟨rfl,rfl,g1,g2,j.e2,j.okD,j.held,j.wait,fun _=>rfl,fun hx=>(by cases hx),⟨j.laid.1,by show h.Laid<=_;rw [hdn.2.2.2];omega⟩,⟨by show (0:Int)<=((_:Nat):Int);omega,Mu _,Mu _⟩,⟨by show (0:Int)<=((_:Nat):Int);omega,by show (((bd (E:Int) (h.D.Sectors.drop 120)).2:Nat):Int)<=80;omega⟩,j.told⟩
  ·rw [if_pos h2] at h0;exact absurd h0 h2
 ·rw [if_pos h1] at h0;exact absurd h0 h1
theorem Bs {l:List Move} (h:l≠[]) (a:Int):fg l a∈l:=(Ae h a).1
theorem JS.do (q:SrcQ n items) (j:JS n items E h) (k a:Int) (h0:(doP h k a).2=0):∃ E',JS n items E' (doP h k a).1:=by
 by_cases hd:h.Down=true
 ·by_cases h6:k=6
  ·subst h6;obtain ⟨_,_,_,_,_,_,_,_,_,hj⟩:=j.up q hd h0;exact ⟨E,hj⟩
  ·exfalso;rw [fH hd,if_pos h6] at h0;exact absurd h0 (by decide)
 have hdf:h.Down=false:=by simpa using hd
 by_cases h1:k=1
 ·subst h1;rw [doP_1 hdf] at h0 ⊢;by_cases hr:bc h.N h.Items h.S=[]
  ·rw [if_pos hr] at h0;exact absurd h0 (by decide)
  ·rw [if_neg hr];have eN:=j.N;have eI:=j.I;subst eN;subst eI;exact ⟨E,j.go q hdf (Bs hr a)⟩
 by_cases h2:k=2
 ·subst h2;rw [doP_2 hdf] at h0 ⊢;by_cases hl:0<=h.Laid
  ·rw [if_pos hl] at h0;exact absurd h0 (by decide)
  rw [if_neg hl] at h0 ⊢;by_cases he:(cu h.Epoch.toNat h.D.Sectors (h.S.Choices.drop h.Logged.toNat).length h.Next.toNat (h.S.Choices.drop h.Logged.toNat) h.D.Wait).2.2=0
  ·obtain ⟨cs,e1,_,_,_,hj⟩:=j.write hdf hl he;rw [if_neg (by simpa using he),e1];exact ⟨E,hj⟩
  ·rw [if_pos he] at h0;exact absurd h0 he
 by_cases h3:k=3
 ·subst h3;exact ⟨_,j.flush hdf a⟩
 by_cases h4:k=4
 ·subst h4;rw [doP_4 hdf] at h0 ⊢;by_cases he:(dV h.Told h.S.Out h.Safe).2=0
  ·rw [if_neg (by simpa using he)];exact ⟨E,j.tell⟩
  ·rw [if_pos he] at h0;exact absurd h0 he
 by_cases h5:k=5
 ·subst h5;rw [doP_5 hdf] at h0 ⊢;by_cases hc:a<0∨h.D.Wait.length<a
  ·rw [if_pos hc] at h0;exact absurd h0 (by decide)
  ·rw [if_neg hc];obtain ⟨E',_,hj⟩:=j.cut q a.toNat;exact ⟨E',hj⟩
 by_cases h7:k=7
 ·subst h7;rw [doP_7 hdf] at h0 ⊢;by_cases hl:0<=h.Laid
  ·rw [if_pos hl] at h0;exact absurd h0 (by decide)
  rw [if_neg hl] at h0 ⊢;by_cases h200:h.Epoch=200
  ·rw [if_pos h200] at h0;exact absurd h0 (by decide)
  rw [if_neg h200] at h0 ⊢;by_cases hb:60<=((aY h.S).length+49) / 50∨300<h.D.Wait.length+(((aY h.S).length+49) / 50+1)
  ·rw [if_pos hb] at h0;exact absurd h0 (by decide)
  rw [if_neg hb];have hE:h.Epoch.toNat=E:=by have:=j.ep hdf;omega
  rw [hE];exact ⟨E,j.lay hdf hl h200 hb⟩
 ·exfalso;rw [vh hdf a ⟨h1,h2,h3,h4,h5,h7⟩] at h0;exact absurd h0 (by decide)
end
end
section
section
variable {n:Net} {items:List (List Item)}
abbrev RRun (n:Net) (items:List (List Item)):=Run (fullE n items) n (some n.Room.toNat)
def Lim (c:MSt Item Memory (List Choice)):Prop:=c.tr.length<=500/\c.out.length<=2000
theorem u0 {room:Option Nat} {c d:MSt Item Memory (List Choice)} {w:List (Nat × Nat)} (h:Run (fullE n items) n room c w d):d.out.length=c.out.length+(w.filter fun m=>decide ((ab n m.1).Kind=8)).length:=by
 induction h with
 | nil c=>simp
 | @cons c c1 d m w h t ih =>
  obtain ⟨_,x,_,_,rfl⟩:=h;rw [ih];show (if (ab n m.1).Kind=8 then c.out++[_] else c.out).length+_=_;by_cases h8:(ab n m.1).Kind=8
  ·rw [if_pos h8,MD (by simpa using h8)];simp;omega
  ·rw [if_neg h8,MW (by simpa using h8)]
theorem vo {s:State} (hI:Inv n items s):Lim (bA s):=hI.ch
theorem J1 (q:SrcQ n items) {s:State} (hI:Inv n items s) {m:Nat × Nat} {w:List (Nat × Nat)} {D:MSt Item Memory (List Choice)} (hr:RRun n items (bA s) (m::w) D) (hl:Lim D):(⟨m.1,m.2⟩:Move)∈bc n items s:=by
 cases hr with
 | @cons _ c1 _ _ _ h0 t0 =>
  refine FR h0.1.1 h0.1.2 (GT q.S h0 (fun h6 e=>?_) (fun h8 e=>?_))
  ·have h1:=qT (Run.cons h0 t0);rw [lZ,if_pos h6] at h1;have h2:=congrArg List.length h1;rw [LU,L5] at h2;have h3:(bA s).tr.length=500:=e;have:=hl.1;omega
  ·have h1:=u0 (Run.cons h0 t0);rw [MD (by simpa using h8),L5] at h1;have h3:(bA s).out.length=2000:=e;have:=hl.2;omega
theorem GN (q:SrcQ n items) {s:State} (hI:Inv n items s) {i k:Nat} (hi:i<n.Nodes.length) (hk:k<bw (ab n i)) (hc:dI n items s i k=true) (h6:(ab n i).Kind≠6) {w:List (Nat × Nat)} {D:MSt Item Memory (List Choice)} (hr:RRun n items (bA s) w D) (hl:Lim D) :
  ∃ w' D',RRun n items (bA (doM n items s i k)) w' D'/\Lim D'/\chW n w'=chW n w:=by
 have hR:=q.S.toRightN
 have hsrc:=BK q.S
 obtain ⟨B,ok,hB⟩:=id hI
 have hx:=vA q.S ok hi hk hc
 rcases GR (uD hr) hx.1 h6 with hp | ⟨p,q',e,hp⟩
 ·obtain ⟨e,e1,e2⟩:=yW hR hsrc hr hx hp (.inl h6)
  refine ⟨w,e,e1,⟨?_,?_⟩,rfl⟩
  ·have t1:=qT e1
   have t2:=qT hr
   have t3:(bA (doM n items s i k)).tr=(bA s).tr:=by obtain ⟨_,x,_,_,e3⟩:=hx;rw [e3];show (if (ab n i).Kind=6 then _ else _)=_;rw [if_neg h6]
   rw [t1,t3,<- t2];exact hl.1
  ·have o1:=u0 e1
   have o2:=u0 hr
   obtain ⟨_,x,_,_,e3⟩:=id hx
   have o3:(bA (doM n items s i k)).out.length=(bA s).out.length+(if (ab n i).Kind=8 then 1 else 0):=by rw [e3];show (if (ab n i).Kind=8 then (bA s).out++[_] else (bA s).out).length=_;split<;>simp
   by_cases h8:(ab n i).Kind=8
   ·have hf:(w.filter fun m=>decide ((ab n m.1).Kind=8))=[]:=by
     rw [List.filter_eq_nil_iff];intro m hm h;have h8':(ab n m.1).Kind=8:=by simpa using h
     have hv:=uD hr m hm;have:m.1=i:=hR.sink1 m.1 i hv.1 hi h8' h8;have hmem:m∈eM i w:=NP.2 ⟨hm,by simpa using this⟩;rw [hp] at hmem;cases hmem
    obtain ⟨it,hh,_,_,h2000⟩:=ol hc
    have:s.Out.length≠2000:=h2000 h8
    have h3:(bA s).out.length=s.Out.length:=rfl
    have:=hI.ch.2
    rw [hf,NC] at o1
    rw [if_pos h8] at o3
    omega
   ·rw [if_neg h8] at o3
    have:=hl.2
    omega
 ·subst e
  refine ⟨p++q',D,yX hR hsrc hr hx hp (.inl h6),hl,?_⟩
  rw [sY,sY,lZ,if_neg h6]
theorem vt (q:SrcQ n items):∀ (f:Nat) (s:State) (l r:List Choice) (w:List (Nat × Nat)) (D:MSt Item Memory (List Choice)),Inv n items s->muN n items s<f->RRun n items (bA s) w D->chW n w=l++r->Lim D ->
  ∃ t u w' D',repM n items f s l=some (t,0)/\Inv n items t/\RRun n items (bA s) u (bA t)/\chW n u=l/\RRun n items (bA t) w' D'/\chW n w'=r/\Lim D'
 | f,s,[],r,w,D,hI,hf,hr,hc,hl=>⟨s,[],w,D,by cases f<;>rfl,hI,.nil _,rfl,hr,hc,hl⟩
 | 0,s,c::l,r,w,D,hI,hf,hr,hc,hl=>by omega
 | f + 1,s,c::l,r,w,D,hI,hf,hr,hc,hl=>by
  have hR:=q.S.toRightN;have hsrc:=BK q.S;obtain ⟨B,ok,hB⟩:=id hI;have hex:∃ m,(bc n items s).find? (eY n c)=some m:=by
   cases w with
   | nil=>cases hc
   | cons m0 w0 =>
    have hm:=J1 q hI hr hl;cases hfd:(bc n items s).find? (eY n c) with
    | some m=>exact ⟨m,rfl⟩
    | none =>
     exfalso;have:=List.find?_eq_none.1 hfd _ hm;apply this;unfold eY;simp only [Md];by_cases h6:(ab n m0.1).Kind=6
     ·rw [lZ,if_pos h6] at hc;have:(⟨m0.1,m0.2⟩:Choice)=c:=(N7 hc).1;rw [<- this];simp
     ·simp [h6]
  obtain ⟨m,hfd⟩:=hex;have hmem:=Nk hfd;have hag:=List.find?_some hfd;obtain ⟨h1,h2⟩:=hI.doMv q.S hmem;obtain ⟨i,k,hm,hi,hk,hcan⟩:=lQ hmem;subst hm;have hdo:doMv n items s ⟨(i:Int),(k:Int)⟩=doM n items s i k:=by unfold doMv;simp
  unfold eY at hag;simp only [Md] at hag;rw [hdo] at h1 h2;have hx:=vA q.S ok hi hk hcan;unfold repM;rw [hfd];simp only [hdo,Md];by_cases h6:(ab n i).Kind=6
  ·rw [if_pos h6];simp only [h6,decide_true,NM,N5,MN,decide_eq_true_eq] at hag;obtain ⟨p,q',m',e1,e2,e3,e4,e5⟩:=G8 hc;have em:m'=(i,k):=by
    have g1:=congrArg Choice.Node e5;have g2:=congrArg Choice.Lane e5;cases m';simp only at g1 g2;have:((i:Nat):Int)=_:=hag.1;have:((k:Nat):Int)=_:=hag.2;exact Prod.ext (by show _=i;omega) (by show _=k;omega)
   subst em;subst e1;have hpull:=yX hR hsrc hr hx (FD e2 h6) (.inr e2);obtain ⟨t,u,w',D',g1,g2,g3,g4,g5,g6,g7⟩:=vt q f (doM n items s i k) l r (p++q') D h1 (by omega) hpull (by rw [sY,e2,e3];rfl) hl;refine ⟨t,(i,k)::u,w',D',g1,g2,.cons hx g3,?_,g5,g6,g7⟩;rw [lZ,if_pos h6,g4,e5]
  ·rw [if_neg h6];obtain ⟨w1,D1,r1,r2,r3⟩:=GN q hI hi hk hcan h6 hr hl;obtain ⟨t,u,w',D',g1,g2,g3,g4,g5,g6,g7⟩:=vt q f (doM n items s i k) (c::l) r w1 D1 h1 (by omega) r1 (by rw [r3,hc]) r2;refine ⟨t,(i,k)::u,w',D',g1,g2,.cons hx g3,?_,g5,g6,g7⟩;rw [lZ,if_neg h6,g4]
end
end
section
section
variable {n:Net} {items:List (List Item)} {forced:List Choice} {B:Int} {s:State}
section
variable (hio:∀ x∈n.Nodes,x.In.length≤1099511627776∧x.Out.length≤1099511627776) (hsrc:cr n items=0) (hC:RightC n forced)
include hio hsrc
theorem AG (ok:OkS n items B s):iW n items s=some (bc n items s,0):=by
 have hS:=km hsrc;rw [H6 n items s hio (fun l hl=>by obtain ⟨r,hr⟩:=L9 hl;have:=ok.room r l hr;have:=hS.m2;omega),if_neg (by rw [tF hsrc ok];simp)]
include hC
omit hio in
end
end
end
section
theorem qw {α:Type} (l:List α) (h:l.length<=1099511627776):app ([]:List α) l=some l:=by rw [cH (by simpa using h)];rfl
section
variable {n:Net} {items:List (List Item)} {B:Int} {s:State}
end
end
theorem sK (n:Net) (items:List (List Item)) (hio:∀ x∈n.Nodes,x.In.length<=1099511627776/\x.Out.length<=1099511627776):iV n items=some (if cr n items≠0 then (noS,cr n items) else (bb n items,0)):=by
 unfold iV;rw [rU n items hio,LP];by_cases h:cr n items=0
 ·rw [if_neg (show ¬ (cr n items != 0)=true by simp [h]),if_neg (show ¬ cr n items≠0 by simp [h]),HM (km h) hio,LP]
 ·rw [if_pos (show (cr n items != 0)=true by simpa using h),if_pos h];rfl
section
theorem xK {n:Net} (hN:n.Nodes.length<=1000) (hio:∀ x∈n.Nodes,x.In.length<=1099511627776/\x.Out.length<=1099511627776):∀ (m k:Nat),k+m=n.Nodes.length ->
  iter (fun ss:Int × (List Node)=>j8 n n.Nodes ss.1 ss.2) ((k:Int),n.Nodes)=some n
 | 0,k,h=>by
  have e:j8 n n.Nodes (k:Int) n.Nodes=some (.inr n):=by unfold j8;rw [if_neg (by simp;omega)];rfl
  rw [aH];simp only [e]
 | m+1,k,h=>by
  have hlt:k<n.Nodes.length:=by omega
  have hx:n.Nodes[k]?=some n.Nodes[k]:=LR hlt;have hio':=hio n.Nodes[k] (Mo hlt);generalize n.Nodes[k]=x at hx hio';have hs:List.set n.Nodes k x=n.Nodes:=uO hx;have c1:jN x.In=some x.In:=qw _ hio'.1;have c2:jN x.Out=some x.Out:=qw _ hio'.2;have e:j8 n n.Nodes (k:Int) n.Nodes=some (.inl (((k+1:Nat):Int),n.Nodes)):=by unfold j8;rw [if_pos (by simp;omega)];simp only [fG hlt,LP,hx,c1,c2,hs,bu (show k<4611686018427387904 by omega)]
  rw [aH];simp only [e];exact xK hN hio m (k+1) (by omega)
theorem yl {n:Net} (hN:n.Nodes.length<=1000) (hio:∀ x∈n.Nodes,x.In.length<=1099511627776/\x.Out.length<=1099511627776):oa n=some n:=by unfold oa;rw [show rM n.Nodes=some n.Nodes from qw _ (by omega),LP];exact xK hN hio n.Nodes.length 0 (by omega)
theorem xl {l:List (List Item)} (hl:l.length<=1000) (hi:∀ x∈l,x.length<=1000):∀ (m k:Nat),k+m=l.length ->
  iter (fun ss:Int × (List (List Item))=>jM l ss.1 ss.2) ((k:Int),l.take k)=some l
 | 0,k,h=>by
  have e:jM l (k:Int) (l.take k)=some (.inr l):=by unfold jM;rw [if_neg (by simp;omega),Mt (by omega)];rfl
  rw [aH];simp only [e]
 | m+1,k,h=>by
  have hlt:k<l.length:=by omega
  have hx:l[k]?=some l[k]:=LR hlt;have hi':=hi l[k] (Mo hlt);have hts:=GD hx;generalize l[k]=x at hx hi' hts;have c1:eQ x=some x:=qw _ (by omega);have e:jM l (k:Int) (l.take k)=some (.inl (((k+1:Nat):Int),l.take (k+1))):=by unfold jM;rw [if_pos (by simp;omega),bt hx,LP,c1,LP,cH (by rw [Mg];simp;omega),LP,bu (by omega),hts]
  rw [aH];simp only [e];exact xl hl hi m (k+1) (by omega)
theorem xx {l:List (List Item)} (hl:l.length<=1000) (hi:∀ x∈l,x.length<=1000):pL l=some l :=
 xl hl hi l.length 0 (by omega)
section
variable {n:Net} {items:List (List Item)} {E:Nat} {h:Shop}
theorem SrcQ.l (q:SrcQ n items):n.Nodes.length<=1000/\items.length<=1000/\∀ x∈items,x.length<=1000:=by have h1:=q.S.n2;have h2:=q.S.l4;refine ⟨by omega,by omega,fun x hx=>?_⟩;obtain ⟨a,ha⟩:=L9 hx;have:=q.S.l20 a x ha;omega
theorem y5 (q:SrcQ n items) {s:State} (hI:Inv n items s):SmallS s:=by obtain ⟨B,ok,_⟩:=hI;exact yU q.S ok
theorem BQ (q:SrcQ n items) {s:State} (hI:Inv n items s):cE n items s=0:=by obtain ⟨B,ok,_⟩:=hI;exact tF q.src ok
theorem Im (q:SrcQ n items) (j:JS n items E h):gB h=some h:=by
 obtain ⟨l1,l2,l3⟩:=q.l;have hd:=j.okD;have hc:kj h.S=some h.S:=by obtain ⟨B,ok,_⟩:=j.inv;exact Bh q.S ok
 unfold gB;rw [j.N,j.I,yl l1 q.io,LP,xx l2 l3,LP,hc,LP,uY h.D.Sectors (by have:=hd.1;omega),LP,zh h.D.Wait (by have:=hd.2.1;omega),LP,
  show eQ h.Told=some h.Told from qw _ (by have:=j.told;omega),LP]
 have e1:=j.N;have e2:=j.I;subst e1;subst e2;rfl
theorem Jm (q:SrcQ n items) (j:JS n items E h):qd h=some 0:=by
 have hs:=y5 q j.inv;have h1:gC h.N h.Items h.S=some 0:=by rw [j.N,j.I,qD n items h.S q.io hs.a6,BQ q j.inv]
 have hl:=j.laid;have hg:=j.log;have hn:=j.next;have he:=j.e2;have hep:0<=h.Epoch/\h.Epoch<=200:=by
  by_cases hd:h.Down=true
  ·rw [(j.down hd).2.1];omega
  ·rw [j.ep (by simpa using hd)];omega
 have ht:=j.told;unfold qd;rw [h1,LP,if_neg (by decide),jd j.okD,LP,if_neg (by decide),if_neg (by simp;omega),if_neg (by simp;omega)]
theorem IL (q:SrcQ n items) {s:State} (hI:Inv n items s) (a:Int) (S:List (List UInt8)) (W:List Write) (z1 z2 z3 z4 z5:Int) (dn:Bool) (td:List Item) :
  pI a n.Nodes n.Rings n.Room items s.At s.Rings s.Memory s.Choices s.Out S W z1 z2 z3 z4 z5 dn td=some (if bc n items s=[] then (10,s.At,s.Rings,s.Memory,s.Choices,s.Out)
   else (0,(doMv n items s (fg (bc n items s) a)).At,(doMv n items s (fg (bc n items s) a)).Rings,(doMv n items s (fg (bc n items s) a)).Memory,(doMv n items s (fg (bc n items s) a)).Choices,(doMv n items s (fg (bc n items s) a)).Out)):=by
 obtain ⟨B,ok,hB⟩:=hI
 have hrd:iW (⟨n.Nodes,n.Rings,n.Room⟩:Net) items (⟨s.At,s.Rings,s.Memory,s.Choices,s.Out⟩:State)=some (bc n items s,0):=AG q.io q.src ok
 unfold pI
 rw [hrd,LP]
 by_cases h0:bc n items s=[]
 ·rw [if_pos (by simp [h0]),if_pos h0]
 ·obtain ⟨hmem,hix⟩:=Ae h0 a
  have hpos:0<(bc n items s).length:=No.2 h0
  have h192:=ye (items:=items) (s:=s) q.S.toRightN
  have hrem:=Kq a (bc n items s).length hpos (by omega)
  obtain ⟨r1,hr1,hr2⟩:=bind_some hrem
  have hn:=N2 a (show ((bc n items s).length:Int)≠0 by omega)
  have hget:(bc n items s)[(a % ((bc n items s).length:Int)).toNat]?=some (fg (bc n items s) a):=dp _ hix
  have hdo:jm (⟨n.Nodes,n.Rings,n.Room⟩:Net) items (⟨s.At,s.Rings,s.Memory,s.Choices,s.Out⟩:State) (fg (bc n items s) a)=some (doMv n items s (fg (bc n items s) a),0):=zU q.src ok hmem q.io
  have hixn:ixN (bc n items s) (a % ((bc n items s).length:Int))=some (a % ((bc n items s).length:Int)).toNat:=ixN_D hn (by omega)
  rw [if_neg (by simpa using h0),if_neg h0,hr1,LP,hr2,LP]
  simp only [hixn,LP,hget,hdo]
theorem zB {α:Type} (p:α->Bool):∀ xs:List α,(xs.find? p=none/\idxI p xs = -1)∨∃ (k:Nat) (x:α),k<xs.length/\idxI p xs=(k:Int)/\xs[k]?=some x/\xs.find? p=some x
 | []=>.inl ⟨rfl,rfl⟩
 | a::xs=>by
  by_cases h:p a=true
  ·right;refine ⟨0,a,by simp,?_,rfl,by rw [List.find?_cons,h]⟩;unfold idxI;rw [NQ,if_pos h]
  ·have h':p a=false:=by simpa using h
   rcases zB p xs with ⟨h1,h2⟩ | ⟨k,x,h1,h2,h3,h4⟩
   ·left;refine ⟨by rw [List.find?_cons,h'];exact h1,?_⟩;unfold idxI at h2 ⊢;rw [NQ,if_neg h];cases hf:xs.findIdx? p with
    | none=>rfl
    | some i=>rw [hf] at h2;simp only at h2;omega
   ·right;refine ⟨k+1,x,by simp only [L5];omega,?_,by simpa using h3,by rw [List.find?_cons,h'];exact h4⟩;unfold idxI at h2 ⊢;rw [NQ,if_neg h];cases hf:xs.findIdx? p with
    | none=>rw [hf] at h2;simp only at h2;omega
    | some i=>rw [hf] at h2;simp only [MG] at h2 ⊢;omega
theorem JI (q:SrcQ n items) {s:State} {m:Move} (hm:m∈bc n items s) (c:Choice) (l:List Choice):pm m n.Nodes n.Rings n.Room (c::l)=some (eY n c m):=by
 obtain ⟨i,k,rfl,hi,hk,hc⟩:=lQ hm;unfold pm eY;rw [bt (ib hi),LP];simp only [Md];by_cases h6:(ab n i).Kind=6
 ·rw [if_neg (by simpa using h6),show idx (c::l) 0=some c from rfl];simp only [LP,h6,decide_true,NM,N5];by_cases h1:(i:Int)=c.Node
  ·rw [if_pos (by simpa using h1)];simp [h1];rfl
  ·rw [if_neg (by simpa using h1)];simp [h1]
 ·rw [if_pos (by simpa using h6)];simp [h6]
theorem Fg (q:SrcQ n items) {s:State} (c:Choice) (l:List Choice):pb (bc n items s) n.Nodes n.Rings n.Room (c::l)=some (idxI (eY n c) (bc n items s)):=by
 have h192:=ye (items:=items) (s:=s) q.S.toRightN;unfold pb;rw [ut (bc n items s) (by omega) (eY n c) (fun k x hx hk h1 h2 h3=>by
  unfold o7;rw [h2,fG hk,h3];simp only [if_true,LP,hx];rw [JI q (LT hx) c l,LP];rfl) (fun h=>by
  unfold o7;rw [h];rfl)]
theorem zi (q:SrcQ n items):∀ (f:Nat) (s:State) (l:List Choice),Inv n items s->muN n items s<f->l.length<=1000000 ->
  iter (fun ss:(List Int) × (List (List Item)) × (List Memory) × (List Choice) × (List Item) × (List Choice)=>jR n items ss.1 ss.2.1 ss.2.2.1 ss.2.2.2.1 ss.2.2.2.2.1 ss.2.2.2.2.2) (s.At,s.Rings,s.Memory,s.Choices,s.Out,l)=repM n items f s l
 | f,s,[],hI,hf,hl=>by
  have e:jR n items s.At s.Rings s.Memory s.Choices s.Out []=some (.inr (s,0)):=by unfold jR;rw [if_neg (by simp)];rfl
  rw [aH];simp only [e];cases f<;>rfl
 | 0,s,c::l,hI,hf,hl=>by omega
 | f + 1,s,c::l,hI,hf,hl=>by
  obtain ⟨B,ok,hB⟩:=id hI;have hrd:iW n items (⟨s.At,s.Rings,s.Memory,s.Choices,s.Out⟩:State)=some (bc n items s,0):=AG q.io q.src ok;rw [aH];unfold repM;have e0:jR n items s.At s.Rings s.Memory s.Choices s.Out (c::l)=match (bc n items s).find? (eY n c) with
    | none=>some (.inr (noS,11))
    | some m=>some (.inl ((doMv n items s m).At,(doMv n items s m).Rings,(doMv n items s m).Memory,(doMv n items s m).Choices,(doMv n items s m).Out,if (ab n m.Node.toNat).Kind=6 then l else c::l)):=by
   unfold jR
   rw [if_pos (by simp),hrd,LP,Fg q,LP]
   rcases zB (eY n c) (bc n items s) with ⟨h1,h2⟩ | ⟨k,m,h1,h2,h3,h4⟩
   ·rw [h1,h2,if_pos (by decide)];rfl
   ·have hmem:=LT h3
    have hdo:jm n items (⟨s.At,s.Rings,s.Memory,s.Choices,s.Out⟩:State) m=some (doMv n items s m,0):=zU q.src ok hmem q.io
    have hk1:∀ z:List Choice,lu n items s.At s.Rings s.Memory s.Choices s.Out (bc n items s,0) (k:Int) z=some (.inl ((doMv n items s m).At,(doMv n items s m).Rings,(doMv n items s m).Memory,(doMv n items s m).Choices,(doMv n items s m).Out,z)):=fun z=>by unfold lu;rw [fG h1,LP];simp only [h3,LP,hdo]
    obtain ⟨i,k',hm,hi,hk',hc⟩:=lQ hmem
    have hix:idx n.Nodes m.Node=some (ab n m.Node.toNat):=by rw [hm];exact bt (ib hi)
    have hsub:sub (c::l) 1 ((c::l).length:Int)=some l:=jj (i:=1) (by simp)
    rw [h2,if_neg (by simp),fG h1,LP]
    simp only [h3,h4,LP,hix]
    by_cases h6:(ab n m.Node.toNat).Kind=6
    ·rw [if_pos (by simpa using h6),hsub,LP,hk1,if_pos h6]
    ·rw [if_neg (by simpa using h6),hk1,if_neg h6]
  simp only [e0];cases hm:(bc n items s).find? (eY n c) with
  | none=>rfl
  | some m =>
   have hmem:=Nk hm;obtain ⟨h1,h2⟩:=hI.doMv q.S hmem;simp only;exact zi q f (doMv n items s m) _ h1 (by omega) (by split<;>simp only [L5] at hl ⊢<;>omega)
theorem GK (q:SrcQ n items) {s:State} (hI:Inv n items s) {l:List Choice} (hl:l.length<=1000000):nI n items s l=some (bL n items s l):=by
 have h5:=hI.ch.1;unfold nI bL;rw [bB (by omega) (by omega)];by_cases h:500<s.Choices.length+l.length
 ·rw [if_pos (by simp;omega),if_pos h];rfl
 ·rw [if_neg (by simp;omega),if_neg h];have:=zi q (muN n items s+1) s l hI (by omega) hl;rw [this];cases hr:repM n items (muN n items s+1) s l with
  | none =>
   exfalso;have key:∀ (f:Nat) (s:State) (l:List Choice),Inv n items s->muN n items s<f->repM n items f s l≠none:=by
    intro f;induction f with
    | zero=>intro s l hI hf;omega
    | succ f ih =>
     intro s l hI hf;cases l with
     | nil=>intro h;cases h
     | cons c l =>
      unfold repM;cases hm:(bc n items s).find? (eY n c) with
      | none=>intro h;cases h
      | some m =>
       obtain ⟨h1,h2⟩:=hI.doMv q.S (Nk hm);exact ih _ _ h1 (by omega)
   exact key _ _ _ hI (by omega) hr
  | some r=>rfl
theorem HQ {d:Disk} (hd:bH d) {ch:List Choice} {L e x:Nat} (hL:L<=ch.length) (hc:ch.length<=500) (he:e<=200) (hx:x<=80) (a:Int) (N:List Node) (R Ro:Int) (I:List (List Item)) (At:List Int) (Rg:List (List Item)) (M:List Memory) (O:List Item) (sf la:Int) (dn:Bool) (td:List Item) :
  pD a N R Ro I At Rg M ch O d.Sectors d.Wait (L:Int) sf (e:Int) la (x:Int) dn td=some (if 0<=la then (10,d.Sectors,d.Wait,(L:Int),(x:Int))
   else if (cu e d.Sectors (ch.drop L).length x (ch.drop L) d.Wait).2.2≠0 then ((cu e d.Sectors (ch.drop L).length x (ch.drop L) d.Wait).2.2,d.Sectors,d.Wait,(L:Int),(x:Int))
   else (0,(cu e d.Sectors (ch.drop L).length x (ch.drop L) d.Wait).1.Sectors,(cu e d.Sectors (ch.drop L).length x (ch.drop L) d.Wait).1.Wait,(ch.length:Int),(cu e d.Sectors (ch.drop L).length x (ch.drop L) d.Wait).2.1)):=by
 unfold pD
 by_cases hl:0<=la
 ·rw [if_pos (by simpa using hl),if_pos hl]
 rw [if_neg (by simpa using hl),if_neg hl,jj hL,LP,show nQ (⟨d.Sectors,d.Wait⟩:Disk) (e:Int) (x:Int) (ch.drop L)=_ from Gc hd e x (ch.drop L) he hx (by rw [Mn];omega),LP]
 by_cases h0:(cu e d.Sectors (ch.drop L).length x (ch.drop L) d.Wait).2.2=0
 ·rw [if_neg (by simpa using h0),if_neg (by simpa using h0)]
 ·rw [if_pos (by simpa using h0),if_pos h0]
theorem Hs {d:Disk} (hd:bH d) {ep:Int} (he:0<=ep/\ep<=200) (a:Int) (N:List Node) (R Ro:Int) (I:List (List Item)) (At:List Int) (Rg:List (List Item)) (M:List Memory) (C:List Choice) (O:List Item) (lg sf la nx:Int) (dn:Bool) (td:List Item) :
  pF a N R Ro I At Rg M C O d.Sectors d.Wait lg sf ep la nx dn td=some (if 0<=la then (0,aL d.Sectors d.Wait,[],la,la,ep+1, -1,0) else (0,aL d.Sectors d.Wait,[],lg,lg,ep,la,nx)):=by
 unfold pF
 rw [show nK (⟨d.Sectors,d.Wait⟩:Disk)=_ from HT hd,LP]
 by_cases hl:0<=la
 ·rw [if_pos (by simpa using hl),if_pos hl,bB (by omega) (by omega)]
 ·rw [if_neg (by simpa using hl),if_neg hl]
theorem IW {td O:List Item} (ht:td.length<=2000) (hO:O.length<=2000) (sf a:Int) (N:List Node) (R Ro:Int) (I:List (List Item)) (At:List Int) (Rg:List (List Item)) (M:List Memory) (C:List Choice) (S:List (List UInt8)) (W:List Write) (lg ep la nx:Int) (dn:Bool) :
  pG a N R Ro I At Rg M C O S W lg sf ep la nx dn td=some (if (dV td O sf).2≠0 then ((dV td O sf).2,td) else (0,td++(dV td O sf).1)):=by
 unfold pG
 rw [Em,LP]
 by_cases h0:(dV td O sf).2=0
 ·have:=yv (s:=sf) ht hO
  rw [LU] at this
  rw [if_neg (by simpa using h0),if_neg (by simpa using h0),cH (by omega),LP]
 ·rw [if_pos (by simpa using h0),if_pos h0]
theorem JX (q:SrcQ n items) {d:Disk} (hd:bH d) (a:Int) (At:List Int) (Rg:List (List Item)) (M:List Memory) (C:List Choice) (O:List Item) (lg sf ep la nx:Int) (dn:Bool) (td:List Item) :
  pM a n.Nodes n.Rings n.Room items At Rg M C O d.Sectors d.Wait lg sf ep la nx dn td=some (if a<0∨d.Wait.length<a then (3,At,Rg,M,C,O,d.Sectors,d.Wait,lg,sf,ep,la,nx,dn)
   else (0,(bb n items).At,(bb n items).Rings,(bb n items).Memory,(bb n items).Choices,(bb n items).Out,aL d.Sectors (d.Wait.take a.toNat),[],0,0,0, -1,0,true)):=by
 have hst:iV (⟨n.Nodes,n.Rings,n.Room⟩:Net) items=some (bb n items,0):=by have:=sK n items q.io;rwa [if_neg (by simp [q.src])] at this
 unfold pM
 by_cases h:a<0∨d.Wait.length<a
 ·have hc:jh (⟨d.Sectors,d.Wait⟩:Disk) a=some (⟨[],[]⟩,3):=by
   unfold jh;rw [show fD (⟨d.Sectors,d.Wait⟩:Disk)=_ from jd hd,LP,if_neg (by decide),if_pos (by simp only [Nt,decide_eq_true_eq];omega)]
  rw [if_pos h,hc];rfl
 ·have hc:jh (⟨d.Sectors,d.Wait⟩:Disk) a=some (⟨aL d.Sectors (d.Wait.take a.toNat),[]⟩,0):=by
   have:=Cw hd a.toNat (by omega);rwa [Ms (by omega)] at this
  rw [if_neg h,hc,LP,if_neg (by simp),hst];rfl
theorem mL_le {α:Type} {m:α->Nat} {c:Nat}:∀ {l:List α},(∀ x,x∈l->m x<=c)->mL m l<=l.length*c+1
 | [],_=>by simp [mL]
 | a::l,h=>by
  have h1:=mL_le (l:=l) fun x hx=>h x (Me _ hx)
  have h2:=h a Mf;rw [JP,L5,Mi];omega
theorem G5 (q:SrcQ n items) {s:State} (hI:Inv n items s):my s<=10000:=by
 obtain ⟨B,ok,hB⟩:=hI;have h2:=q.S.n2;have h3:=q.S.r2;have h4:=q.S.l4;have h6:=q.S.m2;have hrg:=ok.rg;have hmm:=ok.mm;have hat:=ok.at_;have hch:=ok.ch;have hou:=ok.out;have a1:=mL_le (m:=mI) (c:=1) (l:=s.At) fun x _=>LX _
 have a2:=mL_le (m:=mL cI) (c:=19) (l:=s.Rings) fun l hl=>by
  obtain ⟨r,hr⟩:=L9 hl;have:=ok.room r l hr;have:=mL_le (m:=cI) (c:=3) (l:=l) fun x _=>LX _
  omega
 have a3:=mL_le (m:=fF) (c:=15) (l:=s.Memory) fun m hm=>by
  obtain ⟨i,hi⟩:=L9 hm;have:=(ok.mem i m hi).1.len;have:=mL_le (m:=gU) (c:=2) (l:=m.Keys) fun x _=>LX _
  unfold fF;omega
 have a4:=mL_le (m:=gP) (c:=2) (l:=s.Choices) fun x _=>LX _
 have a5:=mL_le (m:=cI) (c:=3) (l:=s.Out) fun x _=>LX _
 unfold my;omega
theorem Kb (q:SrcQ n items) {s:State} (hI:Inv n items s) (hk:KV s) {d:Disk} (hd:bH d) {e:Nat} (he:e<=200) (a lg sf la nx:Int) (dn:Bool) (td:List Item) :
  pJ a n.Nodes n.Rings n.Room items s.At s.Rings s.Memory s.Choices s.Out d.Sectors d.Wait lg sf (e:Int) la nx dn td=some (if 0<=la then (10,d.Sectors,d.Wait,la) else if e=200 then (8,d.Sectors,d.Wait,la)
   else if 60<=((aY s).length+49) / 50∨300<d.Wait.length+(((aY s).length+49) / 50+1) then (8,[],[],la) else (0,d.Sectors,d.Wait++cA e (aY s),(s.Choices.length:Int))):=by
 have hbl:=Nd (zl s) (Nat.mul_le_mul_left 10 (G5 q hI))
 unfold pJ
 by_cases hl:0<=la
 ·rw [if_pos (by simpa using hl),if_pos hl]
 rw [if_neg (by simpa using hl),if_neg hl]
 by_cases h2:e=200
 ·rw [if_pos (by simp [h2]),if_pos h2]
 have hb:iX (⟨n.Nodes,n.Rings,n.Room⟩:Net) items (⟨s.At,s.Rings,s.Memory,s.Choices,s.Out⟩:State)=some (aY s,0):=by have:=Be (n:=n) items s q.io (kv_s q.S hI hk) (by unfold BB;omega);rwa [if_neg (by simp [BQ q hI])] at this
 have hr:rem (IntKind.i64.wrap ((e:Int)+1)) 2=some (((e+1) % 2:Nat):Int):=by rw [bu (by omega)];unfold rem;rw [if_neg (by decide),Int.tmod_eq_emod_of_nonneg (by omega)];congr 1
 obtain ⟨e0,g1,g2,g3⟩:=KB d (((e+1) % 2:Nat):Int) ((e+1:Nat):Int) (aY s) (by omega)
 have ge:e0=0:=g2.2 hd
 rw [if_neg (by simp [ge]),if_neg (by omega)] at g3
 rw [if_neg (by simp;omega),if_neg h2,hb,LP,if_neg (by simp),hr,LP,bu (by omega),show oe (⟨d.Sectors,d.Wait⟩:Disk) _ _ _=_ from g3,LP]
 by_cases h3:60<=((aY s).length+49) / 50∨300<d.Wait.length+(((aY s).length+49) / 50+1)
 ·rw [if_pos h3,if_pos h3];rfl
 ·rw [if_neg h3,if_neg h3]
  simp only [Md]
  rfl
theorem Bt (S:List (List UInt8)) (slot:Nat) (hd:List UInt8):∀ (m k:Nat) (acc b:List UInt8),col S slot hd m k acc=some b->b.length<=acc.length+53*m
 | 0,k,acc,b,h=>by cases h;omega
 | m+1,k,acc,b,h=>by
  unfold col at h;split at h
  ·cases h
  ·rename_i p hp;split at h
   ·rename_i hc;have:=Bt S slot hd m (k+1) _ b h;rw [LU,Mn] at this;have:p.length<=53:=by omega
    omega
   ·cases h
theorem Ic {S:List (List UInt8)} {slot:Nat} {x:List UInt8 × Nat} (h:cq S slot=some x):x.1.length<=4000:=by
 unfold cq at h;split at h
 ·cases h
 split at h
 ·rename_i hc;obtain ⟨b,hb,rfl⟩:=Mc.1 h;have:=Bt _ _ _ _ _ _ _ hb;simp only [NC] at this;show b.length<=4000;omega
 ·cases h
theorem KD (q:SrcQ n items) {b:List UInt8} (hb:b.length<=4000):f6 n items b=some (ofM n items b):=by unfold ofM;rcases JU items q.io q.src b (by omega) with h | ⟨t,h,_⟩<;>rw [h]<;>rfl
theorem xS (q:SrcQ n items) {d:Disk} (hd:bH d) (sl:Nat) (hs:sl<=1) (st:State × Nat) :
  ld n.Nodes n.Rings n.Room items d.Sectors d.Wait (st.2:Int) (sl:Int) st.1.At st.1.Rings st.1.Memory st.1.Choices st.1.Out =
   some (.inl (((dN n items d.Sectors sl st).2:Int),((sl+1:Nat):Int),(dN n items d.Sectors sl st).1.At,(dN n items d.Sectors sl st).1.Rings,(dN n items d.Sectors sl st).1.Memory,(dN n items d.Sectors sl st).1.Choices,(dN n items d.Sectors sl st).1.Out)):=by
 have hg:od (⟨d.Sectors,d.Wait⟩:Disk) (sl:Int)=some (getR d.Sectors sl):=Kt hd sl hs
 unfold ld
 rw [if_pos (by simp;omega),hg,LP]
 unfold getR dN
 cases hm:cq d.Sectors sl with
 | none =>
  simp only
  rw [if_pos (by simp),bu (by omega)]
 | some x =>
  simp only
  by_cases h1:x.2<=st.2
  ·rw [if_pos (by simp;omega),if_pos h1,bu (by omega)]
  ·have hof:f6 (⟨n.Nodes,n.Rings,n.Room⟩:Net) items x.1=some (ofM n items x.1):=KD q (Ic hm)
   rw [if_neg (by simp;omega),if_neg h1,hof,LP]
   by_cases h2:(ofM n items x.1).2=0
   ·rw [if_pos (by simpa using h2),if_pos h2,bu (by omega)]
   ·rw [if_neg (by simpa using h2),if_neg h2,bu (by omega)]
theorem Gl (q:SrcQ n items) {d:Disk} (hd:bH d) (At:List Int) (Rg:List (List Item)) (M:List Memory) (C:List Choice) (O:List Item) (lg sf ep la nx:Int) (dn:Bool) (td:List Item) :
  pB n.Nodes n.Rings n.Room items At Rg M C O d.Sectors d.Wait lg sf ep la nx dn td=some ((cn n items d.Sectors).1,((cn n items d.Sectors).2:Int)):=by
 have hst:iV (⟨n.Nodes,n.Rings,n.Room⟩:Net) items=some (bb n items,0):=by have:=sK n items q.io;rwa [if_neg (by simp [q.src])] at this
 unfold pB
 rw [hst,LP]
 have s0:=xS q hd 0 (by omega) (bb n items,0)
 have s1:=xS q hd 1 (by omega) (dN n items d.Sectors 0 (bb n items,0))
 have s2:∀ st:State × Nat,ld n.Nodes n.Rings n.Room items d.Sectors d.Wait (st.2:Int) ((1+1:Nat):Int) st.1.At st.1.Rings st.1.Memory st.1.Choices st.1.Out=some (.inr (st.1,(st.2:Int))):=fun st=>by unfold ld;rw [if_neg (by decide)];rfl
 have s2:=s2 (cn n items d.Sectors)
 rw [aH]
 simp only [Mq] at s0
 simp only [s0]
 rw [aH]
 simp only [MP,Int.natCast_one] at s1 ⊢
 simp only [s1]
 rw [aH]
 unfold cn at s2 ⊢
 simp only [s2]
theorem up_eq (q:SrcQ n items) {d:Disk} (hd:bH d) {s:State} (hn:cn n items d.Sectors=(s,E)) (hI:Inv n items s) (hE:E<=200) (a:Int) (At:List Int) (Rg:List (List Item)) (M:List Memory) (C:List Choice) (O:List Item) (lg sf ep la nx:Int) (dn:Bool) (td:List Item) :
  pQ a n.Nodes n.Rings n.Room items At Rg M C O d.Sectors d.Wait lg sf ep la nx dn td=some (if dY n (bd (E:Int) (d.Sectors.drop 120)).1≠0 then (dY n (bd (E:Int) (d.Sectors.drop 120)).1,At,Rg,M,C,O,lg,sf,ep,nx,dn)
   else if (bL n items s (bd (E:Int) (d.Sectors.drop 120)).1).2≠0 then ((bL n items s (bd (E:Int) (d.Sectors.drop 120)).1).2,At,Rg,M,C,O,lg,sf,ep,nx,dn)
   else (0,(bL n items s (bd (E:Int) (d.Sectors.drop 120)).1).1.At,(bL n items s (bd (E:Int) (d.Sectors.drop 120)).1).1.Rings,(bL n items s (bd (E:Int) (d.Sectors.drop 120)).1).1.Memory,(bL n items s (bd (E:Int) (d.Sectors.drop 120)).1).1.Choices,(bL n items s (bd (E:Int) (d.Sectors.drop 120)).1).1.Out,
    ((bL n items s (bd (E:Int) (d.Sectors.drop 120)).1).1.Choices.length:Int),((bL n items s (bd (E:Int) (d.Sectors.drop 120)).1).1.Choices.length:Int),(E:Int),((bd (E:Int) (d.Sectors.drop 120)).2:Int),false)):=by
 have hsl:=zZ (E:Int) (d.Sectors.drop 120)
 have hd1:=hd.1
 rw [Mn] at hsl
 unfold pQ
 rw [Gl q hd,hn,LP,show ob (⟨d.Sectors,d.Wait⟩:Disk) (E:Int)=_ from Iw hd (E:Int) (by omega) (by omega),LP,if_neg (by simp),show nJ (⟨n.Nodes,n.Rings,n.Room⟩:Net) (bd (E:Int) (d.Sectors.drop 120)).1=some (dY n (bd (E:Int) (d.Sectors.drop 120)).1) from El n q.io _,LP]
 simp only
 by_cases h1:dY n (bd (E:Int) (d.Sectors.drop 120)).1=0
 ·rw [if_neg (by simpa using h1),if_neg (by simpa using h1),show nI (⟨n.Nodes,n.Rings,n.Room⟩:Net) items s (bd (E:Int) (d.Sectors.drop 120)).1=_ from GK q hI (by omega),LP]
  by_cases h2:(bL n items s (bd (E:Int) (d.Sectors.drop 120)).1).2=0
  ·rw [if_neg (by simpa using h2),if_neg (by simpa using h2)]
  ·rw [if_pos (by simpa using h2),if_pos h2]
 ·rw [if_pos (by simpa using h1),if_pos h1]
theorem qr (q:SrcQ n items) (j:JS n items E h) (k a:Int):eG h ⟨k,a⟩=some (if k<1∨7<k then (noH,5) else doP h k a):=by
 obtain ⟨s0,hn0,hI0,_⟩:=vi q j.held;have hcp:=Im q j;have eN:=j.N;have eI:=j.I;subst eN;subst eI;have hlog:=j.log;have hnx:=j.next;have hE:=j.e2;have ⟨hc5,hO⟩:=j.inv.ch;have hne:∀ {x y:Int},x≠y->¬ ((x==y)=true):=fun h1 h2=>h1 (by simpa using h2)
 have dn6:h.Down=true->∀ {x:Int},x≠6->(!(h.Down==(x==6)))=true:=fun h1 x h2=>by rw [h1];simpa using h2
 have up6:h.Down=false->∀ {x:Int},x≠6->¬ (!(h.Down==(x==6)))=true:=fun h1 x h2=>by rw [h1];simpa using h2
 have er:∀ {x:Int},x≠0->(x != 0)=true:=fun h1=>by simpa using h1
 unfold eG;rw [Jm q j,LP,if_neg (by decide)];dsimp only;by_cases h1:k=1
 ·subst h1;rw [if_pos (show ((1:Int)==1)=true from rfl),if_neg (show ¬ ((1:Int)<1∨7<(1:Int)) by omega)];by_cases hd:h.Down=true
  ·rw [if_pos (dn6 hd (by decide)),fH hd,if_pos (by decide)];rfl
  have hdf:h.Down=false:=by simpa using hd
  rw [if_neg (up6 hdf (by decide)),hcp,LP,IL q j.inv,LP,doP_1 hdf];by_cases h0:bc h.N h.Items h.S=[]
  ·rw [if_pos h0,if_pos h0,if_pos (by simp)];rfl
  ·rw [if_neg h0,if_neg h0,if_neg (by simp)];rfl
 rw [if_neg (hne h1)];by_cases h2:k=2
 ·subst h2;rw [if_pos (show ((2:Int)==2)=true from rfl),if_neg (show ¬ ((2:Int)<1∨7<(2:Int)) by omega)];by_cases hd:h.Down=true
  ·rw [if_pos (dn6 hd (by decide)),fH hd,if_pos (by decide)];rfl
  have hdf:h.Down=false:=by simpa using hd
  have hep:=j.ep hdf;obtain ⟨L,hL⟩:∃ L:Nat,h.Logged=(L:Int):=⟨h.Logged.toNat,by omega⟩
  obtain ⟨X,hX⟩:∃ X:Nat,h.Next=(X:Int):=⟨h.Next.toNat,by omega⟩
  have hw:=HQ j.okD (ch:=h.S.Choices) (L:=L) (e:=E) (x:=X) (by omega) hc5 hE (by omega) a h.N.Nodes h.N.Rings h.N.Room h.Items h.S.At h.S.Rings h.S.Memory h.S.Out h.Safe h.Laid h.Down h.Told;rw [<- hL,<- hX,<- hep] at hw;rw [if_neg (up6 hdf (by decide)),hcp,LP,hw,LP,doP_2 hdf];have e1:h.Epoch.toNat=E:=by omega
  have e2:h.Logged.toNat=L:=by omega
  have e3:h.Next.toNat=X:=by omega
  rw [e1,e2,e3];by_cases hl:0<=h.Laid
  ·rw [if_pos hl,if_pos hl,if_pos (by simp)];rfl
  rw [if_neg hl,if_neg hl];by_cases h0:(cu E h.D.Sectors (h.S.Choices.drop L).length X (h.S.Choices.drop L) h.D.Wait).2.2=0
  ·rw [if_neg (not_not_intro h0),if_neg (not_not_intro h0),if_neg (by simp)];rfl
  ·rw [if_pos h0,if_pos h0,if_pos (er h0)];rfl
 rw [if_neg (hne h2)];by_cases h3:k=3
 ·subst h3;rw [if_pos (show ((3:Int)==3)=true from rfl),if_neg (show ¬ ((3:Int)<1∨7<(3:Int)) by omega)];by_cases hd:h.Down=true
  ·rw [if_pos (dn6 hd (by decide)),fH hd,if_pos (by decide)];rfl
  have hdf:h.Down=false:=by simpa using hd
  have hep:=j.ep hdf;rw [if_neg (up6 hdf (by decide)),hcp,LP,Hs j.okD (by omega),LP,doP_3 hdf];by_cases hl:0<=h.Laid
  ·rw [if_pos hl,if_pos hl,if_neg (by simp)];rfl
  ·rw [if_neg hl,if_neg hl,if_neg (by simp)];rfl
 rw [if_neg (hne h3)];by_cases h4:k=4
 ·subst h4;rw [if_pos (show ((4:Int)==4)=true from rfl),if_neg (show ¬ ((4:Int)<1∨7<(4:Int)) by omega)];by_cases hd:h.Down=true
  ·rw [if_pos (dn6 hd (by decide)),fH hd,if_pos (by decide)];rfl
  have hdf:h.Down=false:=by simpa using hd
  rw [if_neg (up6 hdf (by decide)),hcp,LP,IW j.told hO,LP,doP_4 hdf];by_cases h0:(dV h.Told h.S.Out h.Safe).2=0
  ·rw [if_neg (not_not_intro h0),if_neg (not_not_intro h0),if_neg (by simp)];rfl
  ·rw [if_pos h0,if_pos h0,if_pos (er h0)];rfl
 rw [if_neg (hne h4)];by_cases h5:k=5
 ·subst h5;rw [if_pos (show ((5:Int)==5)=true from rfl),if_neg (show ¬ ((5:Int)<1∨7<(5:Int)) by omega)];by_cases hd:h.Down=true
  ·rw [if_pos (dn6 hd (by decide)),fH hd,if_pos (by decide)];rfl
  have hdf:h.Down=false:=by simpa using hd
  rw [if_neg (up6 hdf (by decide)),hcp,LP,JX q j.okD,LP,doP_5 hdf];by_cases h0:a<0∨h.D.Wait.length<a
  ·rw [if_pos h0,if_pos h0,if_pos (by simp)];rfl
  ·rw [if_neg h0,if_neg h0,if_neg (by simp)];rfl
 rw [if_neg (hne h5)];by_cases h6:k=6
 ·subst h6;rw [if_pos (show ((6:Int)==6)=true from rfl),if_neg (show ¬ ((6:Int)<1∨7<(6:Int)) by omega)];by_cases hd:h.Down=true
  ·rw [if_neg (by rw [hd];decide),hcp,LP,up_eq q j.okD hn0 hI0 hE,LP,fH hd,if_neg (show ¬ (6:Int)≠6 by decide),hn0];simp only;by_cases g1:dY h.N (bd (E:Int) (h.D.Sectors.drop 120)).1=0
   ·rw [if_neg (not_not_intro g1),if_neg (not_not_intro g1)];by_cases g2:(bL h.N h.Items s0 (bd (E:Int) (h.D.Sectors.drop 120)).1).2=0
    ·rw [if_neg (not_not_intro g2),if_neg (not_not_intro g2),if_neg (by simp)];rfl
    ·rw [if_pos g2,if_pos g2,if_pos (er g2)];rfl
   ·rw [if_pos g1,if_pos g1,if_pos (er g1)];rfl
  have hdf:h.Down=false:=by simpa using hd
  rw [if_pos (by rw [hdf];decide),vh hdf a (by decide)];rfl
 rw [if_neg (hne h6)];by_cases h7:k=7
 ·subst h7;rw [if_pos (show ((7:Int)==7)=true from rfl),if_neg (show ¬ ((7:Int)<1∨7<(7:Int)) by omega)];by_cases hd:h.Down=true
  ·rw [if_pos (dn6 hd (by decide)),fH hd,if_pos (by decide)];rfl
  have hdf:h.Down=false:=by simpa using hd
  have hep:=j.ep hdf;have hl:=Kb q j.inv j.kv j.okD hE a h.Logged h.Safe h.Laid h.Next h.Down h.Told;rw [<- hep] at hl;have e1:h.Epoch.toNat=E:=by omega
  rw [if_neg (up6 hdf (by decide)),hcp,LP,hl,LP,doP_7 hdf,e1];by_cases hla:0<=h.Laid
  ·rw [if_pos hla,if_pos hla,if_pos (by simp)];rfl
  rw [if_neg hla,if_neg hla];by_cases h2:E=200
  ·rw [if_pos h2,if_pos (show h.Epoch=200 by omega),if_pos (by simp)];rfl
  rw [if_neg h2,if_neg (show ¬ h.Epoch=200 by omega)];by_cases hb:60<=((aY h.S).length+49) / 50∨300<h.D.Wait.length+(((aY h.S).length+49) / 50+1)
  ·rw [if_pos hb,if_pos hb,if_pos (by simp)];rfl
  ·rw [if_neg hb,if_neg hb,if_neg (by simp)];rfl
 rw [if_neg (hne h7),if_pos (by omega)];rfl
end
end
noncomputable section
def hapP (h:Shop) (x:Happening):Shop × Int:=if x.Kind<1∨7<x.Kind then (noH,5) else doP h x.Kind x.N
def cz (h:Shop) (x:Happening):Shop:=if (hapP h x).2=0 then (hapP h x).1 else h
def runP:Shop->List Happening->Shop
 | h,[]=>h
 | h,x::l=>runP (cz h x) l
def saysP:Shop->List Happening->List Int
 | h,[]=>[]
 | h,x::l=>(hapP h x).2::saysP (cz h x) l
def newH (n:Net) (items:List (List Item)):Shop:=⟨n,items,bb n items,noD,0,0,0, -1,0,[],false⟩
section
variable {n:Net} {items:List (List Item)} {E:Nat} {h:Shop}
theorem JS.step (q:SrcQ n items) (j:JS n items E h) {x:Happening} (h0:(hapP h x).2=0):∃ E',JS n items E' (hapP h x).1:=by
 unfold hapP at h0 ⊢;by_cases hx:x.Kind<1∨7<x.Kind
 ·rw [if_pos hx] at h0;exact absurd h0 (by decide)
 ·rw [if_neg hx] at h0 ⊢;exact j.do q x.Kind x.N h0
theorem JS.nextH (q:SrcQ n items) (j:JS n items E h) (x:Happening):∃ E',JS n items E' (cz h x):=by
 unfold cz;by_cases h0:(hapP h x).2=0
 ·rw [if_pos h0];exact j.step q h0
 ·rw [if_neg h0];exact ⟨E,j⟩
theorem JS.run (q:SrcQ n items):∀ (l:List Happening) {E:Nat} {h:Shop},JS n items E h->∃ E',JS n items E' (runP h l)
 | [],E,h,j=>⟨E,j⟩
 | x::l,E,h,j=>by obtain ⟨E',j'⟩:=j.nextH q x;exact JS.run q l j'
theorem Hh (q:SrcQ n items) (j:JS n items E h) (x:Happening):eG h x=some (hapP h x):=qr q j x.Kind x.N
theorem AJ:∀ (l:List Happening) (h:Shop),(saysP h l).length=l.length
 | [],h=>rfl
 | x::l,h=>by simp [saysP,AJ l]
theorem Ad (q:SrcQ n items) (script:List Happening) (hs:script.length<=2000):∀ (m k:Nat) (E:Nat) (h:Shop) (acc:List Int),k+m=script.length->acc.length=k->JS n items E h ->
  iter (fun ss:Int × (List Node) × Int × Int × (List (List Item)) × (List Int) × (List (List Item)) × (List Memory) × (List Choice) × (List Item) × (List (List UInt8)) × (List Write) × Int × Int × Int × Int × Int × (List Item) × Bool × (List Int)=>j7 script ss.1 ss.2.1 ss.2.2.1 ss.2.2.2.1 ss.2.2.2.2.1 ss.2.2.2.2.2.1 ss.2.2.2.2.2.2.1 ss.2.2.2.2.2.2.2.1 ss.2.2.2.2.2.2.2.2.1 ss.2.2.2.2.2.2.2.2.2.1 ss.2.2.2.2.2.2.2.2.2.2.1 ss.2.2.2.2.2.2.2.2.2.2.2.1 ss.2.2.2.2.2.2.2.2.2.2.2.2.1 ss.2.2.2.2.2.2.2.2.2.2.2.2.2.1 ss.2.2.2.2.2.2.2.2.2.2.2.2.2.2.1 ss.2.2.2.2.2.2.2.2.2.2.2.2.2.2.2.1 ss.2.2.2.2.2.2.2.2.2.2.2.2.2.2.2.2.1 ss.2.2.2.2.2.2.2.2.2.2.2.2.2.2.2.2.2.1 ss.2.2.2.2.2.2.2.2.2.2.2.2.2.2.2.2.2.2.1 ss.2.2.2.2.2.2.2.2.2.2.2.2.2.2.2.2.2.2.2) ((k:Int),h.N.Nodes,h.N.Rings,h.N.Room,h.Items,h.S.At,h.S.Rings,h.S.Memory,h.S.Choices,h.S.Out,h.D.Sectors,h.D.Wait,h.Logged,h.Safe,h.Epoch,h.Laid,h.Next,h.Told,h.Down,acc)=some (runP h (script.drop k),acc++saysP h (script.drop k),0)
 | 0,k,E,h,acc,hk,ha,j=>by
  have e:j7 script (k:Int) h.N.Nodes h.N.Rings h.N.Room h.Items h.S.At h.S.Rings h.S.Memory h.S.Choices h.S.Out h.D.Sectors h.D.Wait h.Logged h.Safe h.Epoch h.Laid h.Next h.Told h.Down acc=some (.inr (h,acc,0)):=by unfold j7;rw [if_neg (by simp;omega)];rfl
  rw [aH];simp only [e];rw [Mm (by omega)];simp [runP,saysP]
 | m+1,k,E,h,acc,hk,ha,j=>by
  have hlt:k<script.length:=by omega
  have hx:script[k]?=some script[k]:=LR hlt;have hdr:=L0 hlt;generalize script[k]=x at hx hdr;have hdo:=Hh q j x;obtain ⟨E',j'⟩:=j.nextH q x;have e:j7 script (k:Int) h.N.Nodes h.N.Rings h.N.Room h.Items h.S.At h.S.Rings h.S.Memory h.S.Choices h.S.Out h.D.Sectors h.D.Wait h.Logged h.Safe h.Epoch h.Laid h.Next h.Told h.Down acc=some (.inl (((k+1:Nat):Int),(cz h x).N.Nodes,(cz h x).N.Rings,(cz h x).N.Room,(cz h x).Items,(cz h x).S.At,(cz h x).S.Rings,(cz h x).S.Memory,(cz h x).S.Choices,(cz h x).S.Out,(cz h x).D.Sectors,(cz h x).D.Wait,(cz h x).Logged,(cz h x).Safe,(cz h x).Epoch,(cz h x).Laid,(cz h x).Next,(cz h x).Told,(cz h x).Down,acc++[(hapP h x).2])):=by
   unfold j7;rw [if_pos (by simp;omega),bt hx,LP,hdo,LP];unfold cz;by_cases h0:(hapP h x).2=0
   ·rw [if_pos (by simpa using h0),if_pos h0,cH (by simp;omega),LP,bu (by omega)]
   ·rw [if_neg (by simpa using h0),if_neg h0,cH (by simp;omega),LP,bu (by omega)]
  rw [aH];simp only [e];have:=Ad q script hs m (k+1) E' (cz h x) (acc++[(hapP h x).2]) (by omega) (by simp;omega) j';rw [this,hdr];simp [runP,saysP]
theorem Ke (q:SrcQ n items):l6 n items=some (newH n items,0):=by obtain ⟨l1,l2,l3⟩:=q.l;have hst:=sK n items q.io;rw [if_neg (by simp [q.src])] at hst;unfold l6;rw [hst,LP,if_neg (by simp),yl l1 q.io,LP,xx l2 l3];rfl
theorem IN (hio:∀ x∈n.Nodes,x.In.length<=1099511627776/\x.Out.length<=1099511627776) (hs:cr n items≠0):l6 n items=some (noH,cr n items):=by have hst:=sK n items hio;rw [if_pos hs] at hst;unfold l6;rw [hst,LP,if_pos (by simpa using hs)];rfl
theorem Ct (q:SrcQ n items) (script:List Happening) (hs:script.length<=1200):kp n items script=some (runP (newH n items) script,saysP (newH n items) script,0):=by unfold kp;rw [Ke q,LP,if_neg (by simp),if_neg (by simp;omega)];have:=Ad q script (by omega) script.length 0 0 (newH n items) [] (by omega) rfl (yi q.S);simp only [MB,MH] at this;exact this
theorem IV (hio:∀ x∈n.Nodes,x.In.length<=1099511627776/\x.Out.length<=1099511627776) (hs:cr n items≠0) (script:List Happening):kp n items script=some (noH,[],cr n items):=by unfold kp;rw [IN hio hs,LP,if_pos (by simpa using hs)];rfl
end
end
section
structure LogIs (E:Nat) (S:List (List UInt8)) (cs:List (List Choice)):Prop where
 at_:∀ (k:Nat) c,cs[k]?=some c->gt S (120+k)=dQ E c
 end_:∀ k,cs.length<=k->dw (E:Int) (gt S (120+k))=[]
 good:∀ c,c∈cs->gX c
theorem A8 (E:Nat) (he:E<=200) (S:List (List UInt8)):∀ (cs:List (List Choice)) (off:Nat),(∀ (k:Nat) c,cs[k]?=some c->gt S (off+k)=dQ E c)->(∀ k,cs.length<=k->dw (E:Int) (gt S (off+k))=[])->(∀ c,c∈cs->gX c) ->
  bd (E:Int) (S.drop off)=(cs.flatten,cs.length)
 | [],off,h1,h2,h3=>by
  have h0:=h2 0 (LX _);rw [MJ] at h0;cases hd:S.drop off with
  | nil=>rfl
  | cons s r =>
   have hs:gt S off=s:=by unfold gt;rw [LV];have:=congrArg (fun l=>l[0]?) hd;simp only [Mr,MJ,Ny] at this;rw [this];rfl
   rw [hs] at h0;unfold bd;rw [if_pos h0];rfl
 | c::cs,off,h1,h2,h3=>by
  have h0:=h1 0 c rfl;rw [MJ] at h0;have hg:=h3 c Mf;have hlt:off<S.length:=by
   by_cases h:off<S.length
   ·exact h
   ·exfalso;unfold gt at h0;rw [LV,Mk (by omega)] at h0;have:=congrArg List.length h0;unfold dQ at this;rw [l8] at this;simp at this
  rw [L0 hlt];have hs:S[off]=dQ E c:=by rw [<- h0];unfold gt;rw [LV,LR hlt];rfl
  rw [hs];have ih:=A8 E he S cs (off+1) (fun k x hx=>by rw [<- h1 (k+1) x hx];congr 1;omega) (fun k hk=>by rw [<- h2 (k+1) (by simp only [L5];omega)];congr 2;omega) (fun x hx=>h3 x (Me _ hx));unfold bd;rw [zI E E he c hg,if_pos rfl,if_neg hg.1,ih];simp;omega
theorem LogIs.scan {E:Nat} {S:List (List UInt8)} {cs:List (List Choice)} (h:LogIs E S cs) (he:E<=200):bd (E:Int) (S.drop 120)=(cs.flatten,cs.length):=A8 E he S cs 120 h.at_ h.end_ h.good
theorem A3 (E:Nat):∀ (cs:List (List Choice)) (k j:Nat) (s:List UInt8),seen s (wr E k cs) ((120+j:Nat):Int)=if k<=j then (match cs[j - k]? with | some c=>dQ E c | none=>s) else s
 | [],k,j,s=>by
  show s=_;simp
 | c::cs,k,j,s=>by
  show seen (if ((120+k:Nat):Int)=((120+j:Nat):Int) then dQ E c else s) (wr E (k+1) cs) ((120+j:Nat):Int)=_;rw [A3 E cs (k+1) j];by_cases h1:k=j
  ·subst h1;rw [if_neg (show ¬ k+1<=k by omega),if_pos rfl,if_pos (LX _),NE];rfl
  ·have hne:¬ ((120+k:Nat):Int)=((120+j:Nat):Int):=by omega
   by_cases h2:k+1<=j
   ·obtain ⟨m,hm⟩:∃ m,j=k+1+m:=⟨j - (k+1),by omega⟩
    subst hm;rw [if_pos h2,if_neg hne,if_pos (show k<=k+1+m by omega),show k+1+m - (k+1)=m by omega,show k+1+m - k=m+1 by omega];rfl
   ·rw [if_neg h2,if_neg hne,if_neg (show ¬ k<=j by omega)]
theorem LogIs.write {E:Nat} {S:List (List UInt8)} {cs:List (List Choice)} (h:LogIs E S cs) {cs2:List (List Choice)} (hg:∀ c,c∈cs2->gX c) (hl:cs.length+cs2.length<=80):LogIs E (aL S (wr E cs.length cs2)) (cs++cs2):=by
 have hw:∀ j,gt (aL S (wr E cs.length cs2)) (120+j)=if cs.length<=j then (match cs2[j - cs.length]? with | some c=>dQ E c | none=>gt S (120+j)) else gt S (120+j):=fun j=>by rw [l7 _ S _ (fun w hw=>wr_ok E cs.length cs2 hl hg w hw),A3]
 refine ⟨fun k c hk=>?_,fun k hk=>?_,fun c hc=>?_⟩
 ·rw [hw k];by_cases h1:cs.length<=k
  ·rw [Ml h1] at hk;rw [if_pos h1,hk]
  ·rw [LW (by omega)] at hk;rw [if_neg h1];exact h.at_ k c hk
 ·rw [LU] at hk;rw [hw k,if_pos (by omega),Mk (by omega)];exact h.end_ k (by omega)
 ·rcases L8.1 hc with hc | hc
  ·exact h.good c hc
  ·exact hg c hc
theorem LogIs.congr {E:Nat} {S S':List (List UInt8)} {cs:List (List Choice)} (h:LogIs E S cs) (he:∀ i,120<=i->gt S' i=gt S i):LogIs E S' cs :=
 ⟨fun k c hk=>by rw [he _ (by omega)];exact h.at_ k c hk,fun k hk=>by rw [he _ (by omega)];exact h.end_ k hk,h.good⟩
section
variable (n:Net) (items:List (List Item))
structure BaseIs (E:Nat) (S:List (List UInt8)) (b:State):Prop where
 inv:Inv n items b
 kv:KV b
 none:E=0->b=bb n items
 slot:E≠0->cq S (E % 2)=some (aY b,E)
def RunIs (b:State) (l:List Choice):Prop:=∃ w D r,RRun n items (bA b) w D/\Lim D/\chW n w=l++r
inductive PendIs (E:Nat) (h:Shop) (b:State) (cs:List (List Choice)):Prop
 | log {w:List (Nat × Nat)} {cs2:List (List Choice)} {r:List Choice} (hl:¬ 0<=h.Laid) (run:RRun n items (bA b) w (bA h.S)) (ch:chW n w=(cs++cs2).flatten++r) (good:∀ c,c∈cs2->gX c) (len:cs.length+cs2.length<=80)
  (wait:h.D.Wait=wr E cs.length cs2) (next:h.Next=((cs.length+cs2.length:Nat):Int)) (logged:h.Logged=((b.Choices.length+(cs++cs2).flatten.length:Nat):Int)) (safe:h.Safe=((b.Choices.length+cs.flatten.length:Nat):Int))
 | slot {w:List (Nat × Nat)} {cs2:List (List Choice)} {r:List Choice} {s':State} {w2:List (Nat × Nat)} (hl:0<=h.Laid) (run:RRun n items (bA b) w (bA s')) (ch:chW n w=(cs++cs2).flatten++r) (good:∀ c,c∈cs2->gX c) (len:cs.length+cs2.length<=80)
  (wait:h.D.Wait=wr E cs.length cs2++cA E (aY s')) (inv:Inv n items s') (kv:KV s') (hb:((aY s').length+49) / 50<60) (run2:RRun n items (bA s') w2 (bA h.S)) (laid:h.Laid=(s'.Choices.length:Int)) (safe:h.Safe=((b.Choices.length+cs.flatten.length:Nat):Int))
structure JR (E:Nat) (h:Shop):Prop extends JS n items E h where
 base:∃ b cs,BaseIs n items E h.D.Sectors b/\LogIs E h.D.Sectors cs/\(h.Down=true->RunIs n items b cs.flatten)/\(h.Down=false->PendIs n items E h b cs)
end
section
variable {n:Net} {items:List (List Item)} {E:Nat} {h:Shop}
theorem Cm {s t:State} {w:List (Nat × Nat)} (hr:RRun n items (bA s) w (bA t)):t.Choices=s.Choices++chW n w:=qT hr
theorem JR.start (hS:RightS n items):JR n items 0 (newH n items):=by refine ⟨yi hS,bb n items,[],⟨nX hS,oc n items,fun _=>rfl,fun h=>absurd rfl h⟩,⟨fun k c hk=>by simp at hk,fun k hk=>rfl,fun c hc=>by cases hc⟩,fun hd=>(by cases hd),fun _=>?_⟩;exact .log (w:=[]) (cs2:=[]) (r:=[]) (by show ¬ (0:Int) <= -1;omega) (.nil _) rfl (fun c hc=>by cases hc) (by simp) rfl rfl rfl rfl
theorem JR.go (q:SrcQ n items) (j:JR n items E h) (hd:h.Down=false) {m:Move} (hm:m∈bc n items h.S):JR n items E { h with S:=doMv n items h.S m }:=by
 obtain ⟨b,cs,hb,hl,_,hp⟩:=j.base;obtain ⟨B,ok,_⟩:=j.inv;have hx:=ex_mv q.S ok hm;have hrun:∀ {c:MSt Item Memory (List Choice)} {w:List (Nat × Nat)},RRun n items c w (bA h.S)->RRun n items c (w++[(m.Node.toNat,m.Lane.toNat)]) (bA (doMv n items h.S m)):=fun hr=>hr.app (.cons hx (.nil _))
 refine ⟨j.toJS.go q hd hm,b,cs,hb,hl,fun hx=>(by rw [show h.Down=true from hx] at hd;cases hd),fun _=>?_⟩;cases hp hd with
 | @log w cs2 r hla run ch good len wait next logged safe=>exact .log (w:=w++[(m.Node.toNat,m.Lane.toNat)]) (r:=r++chW n [(m.Node.toNat,m.Lane.toNat)]) hla (hrun run) (by rw [sY,ch,L3]) good len wait next logged safe
 | slot hla run ch good len wait inv kv hb run2 laid safe=>exact .slot hla run ch good len wait inv kv hb (hrun run2) laid safe
theorem JR.write (j:JR n items E h) (hd:h.Down=false) (hl:¬ 0<=h.Laid) {cs3:List (List Choice)} (h1:h.S.Choices.drop h.Logged.toNat=cs3.flatten) (h2:∀ c,c∈cs3->gX c) (h3:h.Next.toNat+cs3.length<=80)
  (js:JS n items E { h with D:=⟨h.D.Sectors,h.D.Wait++wr E h.Next.toNat cs3⟩,Next:=((h.Next.toNat+cs3.length:Nat):Int),Logged:=h.S.Choices.length }) :
  JR n items E { h with D:=⟨h.D.Sectors,h.D.Wait++wr E h.Next.toNat cs3⟩,Next:=((h.Next.toNat+cs3.length:Nat):Int),Logged:=h.S.Choices.length }:=by
 obtain ⟨b,cs,hb,hlg,_,hp⟩:=j.base
 refine ⟨js,b,cs,hb,hlg,fun hx=>(by rw [show h.Down=true from hx] at hd;cases hd),fun _=>?_⟩
 cases hp hd with
 | slot hla=>exact absurd hla hl
 | @log w cs2 r hla run ch good len wait next logged safe =>
  have hch:=Cm run
  rw [ch] at hch
  have hlog:h.Logged.toNat=b.Choices.length+(cs++cs2).flatten.length:=by omega
  have hr:cs3.flatten=r:=by rw [<- h1,hlog,hch,<- L3,<- LU];exact Np
  have hn:h.Next.toNat=cs.length+cs2.length:=by omega
  refine .log (w:=w) (cs2:=cs2++cs3) (r:=[]) hla run ?_ (fun c hc=>?_) (by rw [LU];omega) ?_ ?_ ?_ safe
  ·rw [ch,Mj,<- L3,M7 (L₁:=cs++cs2),hr]
  ·rcases L8.1 hc with hc | hc
   ·exact good c hc
   ·exact h2 c hc
  ·show h.D.Wait++wr E h.Next.toNat cs3=_
   rw [wait,B8,hn]
  ·show ((h.Next.toNat+cs3.length:Nat):Int)=_
   rw [hn,LU];congr 1;omega
  ·show (h.S.Choices.length:Int)=_
   rw [hch,<- L3 cs cs2 cs3,M7 (L₁:=cs++cs2),hr]
   simp only [LU]
theorem GF {S:List (List UInt8)} {ws:List Write} (hw:∀ w,w∈ws->logW E w) {sl:Nat} (hs:sl<=1):cq (aL S ws) sl=cq S sl:=se fun k hk=>vp hw (by omega)
theorem BaseIs.logs {S:List (List UInt8)} {b:State} (hb:BaseIs n items E S b) {ws:List Write} (hw:∀ w,w∈ws->logW E w):BaseIs n items E (aL S ws) b :=
 ⟨hb.inv,hb.kv,hb.none,fun h0=>by rw [GF hw (by omega)];exact hb.slot h0⟩
theorem BaseIs.part {S:List (List UInt8)} {b:State} (hb:BaseIs n items E S b) {y:List UInt8} (hy:(y.length+49) / 50<60) (m:Nat):BaseIs n items E (aL S ((cA E y).take m)) b :=
 ⟨hb.inv,hb.kv,hb.none,fun h0=>by rw [se fun k hk=>ku hy m _ (.inr ⟨k,hk,rfl⟩)];exact hb.slot h0⟩
theorem JR.cut (q:SrcQ n items) (j:JR n items E h) (hd:h.Down=false) (k:Nat) :
  ∃ E',JR n items E' { h with D:=⟨aL h.D.Sectors (h.D.Wait.take k),[]⟩,S:=bb h.N h.Items,Logged:=0,Safe:=0,Epoch:=0,Laid := -1,Next:=0,Down:=true }:=by
 obtain ⟨b,cs,hb,hlg,_,hp⟩:=j.base
 have mk:∀ E',E'<=200->Held (PB n items) E' (aL h.D.Sectors (h.D.Wait.take k))->JS n items E' { h with D:=⟨aL h.D.Sectors (h.D.Wait.take k),[]⟩,S:=bb h.N h.Items,Logged:=0,Safe:=0,Epoch:=0,Laid := -1,Next:=0,Down:=true }:=fun E' h2 hh=>by
  have e:bb h.N h.Items=bb n items:=by rw [j.N,j.I]
  rw [e];exact ⟨j.N,j.I,nX q.S,oc n items,h2,vv j.okD k,hh,.log fun w hw=>(by cases hw),fun hx=>(by cases hx),fun _=>⟨rfl,rfl,rfl,rfl⟩,⟨Mu _,by show (-1:Int)<=_;omega⟩,⟨Mu _,Mu _,by show (0:Int)<=_;omega⟩,⟨Mu _,by show (0:Int)<=80;omega⟩,j.told⟩
 cases hp hd with
 | @log w cs2 r hla run ch good len wait next logged safe =>
  have hwl:∀ m w,w∈(wr E cs.length cs2).take m->logW E w:=fun m w hw=>oC E j.e2 _ cs2 len good w (L4 hw)
  refine ⟨E,mk E j.e2 (by rw [wait];exact j.held.logs (hwl k)),b,cs++cs2.take k,?_,?_,fun _=>⟨w,bA h.S,(cs2.drop k).flatten++r,run,vo j.inv,?_⟩,fun hx=>(by cases hx)⟩
  ·show BaseIs n items E (aL h.D.Sectors (h.D.Wait.take k)) b
   rw [wait];exact hb.logs (hwl k)
  ·show LogIs E (aL h.D.Sectors (h.D.Wait.take k)) _
   rw [wait,qI]
   exact hlg.write (fun c hc=>good c (L4 hc)) (by rw [Mg];omega)
  ·rw [ch,<- L3,<- M7,L3,MK]
 | @slot w cs2 r s' w2 hla run ch good len wait inv kv hb' run2 laid safe =>
  have hwl:∀ m w,w∈(wr E cs.length cs2).take m->logW E w:=fun m w hw=>oC E j.e2 _ cs2 len good w (L4 hw)
  have he1:E+1<=200:=j.wait.e (by simpa using hla)
  have htk:h.D.Wait.take k=(wr E cs.length cs2).take k++(cA E (aY s')).take (k - cs2.length):=by rw [wait,List.take_append,Ce]
  have hS:aL h.D.Sectors (h.D.Wait.take k)=aL (aL h.D.Sectors (wr E cs.length (cs2.take k))) ((cA E (aY s')).take (k - cs2.length)):=by rw [htk,sG,qI]
  have hl1:LogIs E (aL h.D.Sectors (wr E cs.length (cs2.take k))) (cs++cs2.take k):=hlg.write (fun c hc=>good c (L4 hc)) (by rw [Mg];omega)
  have hh1:Held (PB n items) E (aL h.D.Sectors (wr E cs.length (cs2.take k))):=by rw [<- qI];exact j.held.logs (hwl k)
  have hb1:BaseIs n items E (aL h.D.Sectors (wr E cs.length (cs2.take k))) b:=by rw [<- qI];exact hb.logs (hwl k)
  generalize aL h.D.Sectors (wr E cs.length (cs2.take k))=S1 at hS hl1 hh1 hb1
  have hsl:=uE E (aY s')
  by_cases hk:k - cs2.length<=((aY s').length+49) / 50
  ·refine ⟨E,mk E j.e2 (by rw [hS];exact hh1.part hb' hk),b,cs++cs2.take k,?_,?_,fun _=>⟨w,bA s',(cs2.drop k).flatten++r,run,vo inv,?_⟩,fun hx=>(by cases hx)⟩
   ·show BaseIs n items E (aL h.D.Sectors (h.D.Wait.take k)) b
    rw [hS];exact hb1.part hb' _
   ·show LogIs E (aL h.D.Sectors (h.D.Wait.take k)) _
    rw [hS];exact hl1.congr fun i hi=>ku hb' _ i (.inl hi)
   ·rw [ch,<- L3,<- M7,L3,MK]
  ·have hfull:(cA E (aY s')).take (k - cs2.length)=cA E (aY s'):=Mt (by omega)
   rw [hfull] at hS
   have hh2:=hh1.full ⟨s',inv,kv,rfl,by omega⟩ he1 hb'
   refine ⟨E+1,mk (E+1) he1 (by rw [hS];exact hh2),s',[],?_,?_,fun _=>⟨w2,bA h.S,chW n w2,run2,vo j.inv,by simp⟩,fun hx=>(by cases hx)⟩
   ·show BaseIs n items (E+1) (aL h.D.Sectors (h.D.Wait.take k)) s'
    rw [hS]
    exact ⟨inv,kv,fun h0=>absurd h0 (by omega),fun _=>uK he1 hb'⟩
   ·show LogIs (E+1) (aL h.D.Sectors (h.D.Wait.take k)) []
    rw [hS]
    refine ⟨fun k c hk=>by simp at hk,fun i _=>?_,fun c hc=>by cases hc⟩
    have:=ku (S:=S1) (E:=E) hb' (cA E (aY s')).length (120+i) (.inl (by omega))
    rw [MT] at this
    rw [this]
    exact hh1.log (120+i) (E+1) (by omega) (by omega)
theorem H7 (q:SrcQ n items) {S:List (List UInt8)} {b s:State} (hb:BaseIs n items E S b) (hI:Inv n items s) (hk:KV s) (h0:E=0->s=bb n items) (h1:E≠0->cq S (E % 2)=some (aY s,E)):s=b:=by
 by_cases h:E=0
 ·rw [h0 h,hb.none h]
 ·have e:=h1 h;rw [hb.slot h] at e;have:aY b=aY s:=(Prod.mk.inj (LY e)).1;exact ((Fu (kv_s q.S hb.inv hb.kv) (kv_s q.S hI hk)).1 this).symm
theorem GI (q:SrcQ n items) {c:MSt Item Memory (List Choice)} {w:List (Nat × Nat)} {D:MSt Item Memory (List Choice)} (hr:RRun n items c w D) (hl:Lim D) {l r:List Choice} (hc:chW n w=l++r):dY n l=0:=by
 have hR:=q.S.toRightN;refine yY ⟨?_,?_,fun x hx=>?_⟩
 ·have h:=q.src;unfold cr at h;by_cases h1:(netR n).2=0
  ·exact h1
  ·rw [if_pos h1] at h;exact absurd h h1
 ·have h1:=congrArg List.length (qT hr);rw [hc] at h1;simp only [LU] at h1;have:=hl.1;omega
 ·have hx:x∈chW n w:=by rw [hc];exact List.mem_append_left _ hx
  unfold chW at hx;obtain ⟨m,hm,rfl⟩:=Mh.1 hx;obtain ⟨hm1,hm2⟩:=NP.1 hm;have h6:(ab n m.1).Kind=6:=by simpa using hm2
  obtain ⟨v1,v2⟩:=uD hr m hm1;unfold bw at v2;rw [if_pos h6] at v2;simp only [Md];exact ⟨by omega,by omega,h6,by omega,by omega⟩
theorem JR.up (q:SrcQ n items) (j:JR n items E h) (hd:h.Down=true) (a:Int) :
  ∃ b cs t,BaseIs n items E h.D.Sectors b/\LogIs E h.D.Sectors cs/\t.Choices=b.Choices++cs.flatten/\doP h 6 a=({ h with S:=t,Logged:=t.Choices.length,Safe:=t.Choices.length,Epoch:=(E:Int),Next:=(cs.length:Int),Down:=false },0)/\JR n items E (doP h 6 a).1:=by
 obtain ⟨b,cs,hb,hlg,hrn,_⟩:=j.base
 obtain ⟨w,D,r,hr,hlim,hch⟩:=hrn hd
 obtain ⟨s,hn,hI,hk,z0,z1⟩:=vi q j.held
 have hsb:s=b:=H7 q hb hI hk z0 (fun h=>(z1 h).1)
 subst hsb
 obtain ⟨t,u,w',D',g1,g2,g3,g4,g5,g6,g7⟩:=vt q (muN n items s+1) s cs.flatten r w D hb.inv (by omega) hr hch hlim
 have htr:=GI q hr hlim hch
 have hch2:=Cm g3
 rw [g4] at hch2
 have h5:s.Choices.length+cs.flatten.length<=500:=by have:=g2.ch.1;rw [hch2,LU] at this;exact this
 have hrp:bL n items s cs.flatten=(t,0):=by unfold bL;rw [if_neg (by omega),g1];rfl
 have hup:doP h 6 a=({ h with S:=t,Logged:=t.Choices.length,Safe:=t.Choices.length,Epoch:=(E:Int),Next:=(cs.length:Int),Down:=false },0):=by rw [fH hd,if_neg (show ¬ (6:Int)≠6 by decide),j.N,j.I,hn];simp only;rw [hlg.scan j.e2];simp only;rw [htr,if_neg (by simp),hrp,if_neg (by simp)]
 have h0:(doP h 6 a).2=0:=by rw [hup]
 obtain ⟨_,_,_,_,_,_,_,_,_,hjs⟩:=j.toJS.up q hd h0
 have hdn:=j.down hd
 refine ⟨s,cs,t,hb,hlg,hch2,hup,?_⟩
 rw [hup] at hjs ⊢
 refine ⟨hjs,s,cs,hb,hlg,fun hx=>(by cases hx),fun _=>?_⟩
 have hl80:cs.length<=80:=by have:=hjs.next.2;simp only at this;omega
 refine .log (w:=u) (cs2:=[]) (r:=[]) (by show ¬ 0<=h.Laid;rw [hdn.2.2.2];omega) g3 (by simp [g4]) (fun c hc=>by cases hc) (by simpa using hl80) ?_ ?_ ?_ ?_
 ·exact hdn.1
 ·show (cs.length:Int)=_;simp
 ·show (t.Choices.length:Int)=_;rw [hch2];simp
 ·show (t.Choices.length:Int)=_;rw [hch2];simp
end
end
theorem uV {n:Net} {items:List (List Item)}:∀ (f:Nat) (s:State) (l:List Choice) (r:State × Int) (k:Nat),repM n items f s l=some r->repM n items (f+k) s l=some r
 | f,s,[],r,k,h=>by
  have:some (s,(0:Int))=some r:=by rw [<- h];cases f<;>rfl
  rw [<- this];cases f+k<;>rfl
 | 0,s,c::l,r,k,h=>by cases h
 | f+1,s,c::l,r,k,h=>by
  have e:f+1+k=(f+k)+1:=by omega
  rw [e];unfold repM at h ⊢;cases hm:(bc n items s).find? (eY n c) with
  | none=>rw [hm] at h;exact h
  | some m=>rw [hm] at h;exact uV f _ _ r k h
theorem Jy {n:Net} {items:List (List Item)} (q:SrcQ n items) {s:State} (hI:Inv n items s) (hk:KV s) {l:List Choice} (h5:s.Choices.length+l.length<=500) {f:Nat} {r:State × Int} (h:repM n items f s l=some r):bL n items s l=r:=by obtain ⟨r',e1,_⟩:=vT q.S q.g (muN n items s+1) s l hI hk (by omega);have h1:=uV _ _ _ _ f e1;have h2:=uV _ _ _ _ (muN n items s+1) h;rw [NG] at h2;rw [h1] at h2;cases h2;unfold bL;rw [if_neg (by omega),e1];rfl
theorem srcT:SrcQ meetN dR:=⟨km Ao,Ao,ID,fun l hl x hx=>by simp only [dR,Mp,NK,or_false] at hl;rcases hl with rfl | rfl<;>(rw [M3.1 hx];unfold dk gI;decide)⟩
theorem nx {h h':Shop} {k a:Int} (hk:1<=k/\k<=7) (e:doP h k a=(h',0)):cz h ⟨k,a⟩=h':=by
 have e1:hapP h ⟨k,a⟩=(h',0):=by unfold hapP;rw [if_neg (show ¬ (k<1∨7<k) by omega)];exact e
 unfold cz;rw [e1,if_pos rfl]
def mT:List Memory:=[⟨0,[],0⟩,⟨0,[],0⟩,⟨0,[],0⟩,⟨0,[],0⟩]
def sT1:State:=⟨[0,1],[[],[⟨2,2,0⟩],[]],mT,[],[]⟩
def sT2:State:=⟨[0,1],[[],[],[⟨2,2,1⟩]],mT,[⟨2,1⟩],[]⟩
def sT3:State:=⟨[0,1],[[],[],[]],mT,[⟨2,1⟩],[⟨2,2,1⟩]⟩
def sT4:State:=⟨[1,1],[[⟨1,1,0⟩],[],[⟨2,2,1⟩]],mT,[⟨2,1⟩],[]⟩
def wT:List Write:=[⟨120,[3,0,2,1,105,95]⟩]
def hT (S:State) (D:Disk) (lg sf nx:Int) (td:List Item) (dn:Bool):Shop:=⟨meetN,dR,S,D,lg,sf,0, -1,nx,td,dn⟩
theorem eT1:doP (newH meetN dR) 1 1=(hT sT1 noD 0 0 0 [] false,0):=by rw [doP_1 rfl,if_neg (by decide +kernel),show doMv (newH meetN dR).N (newH meetN dR).Items (newH meetN dR).S (fg (bc (newH meetN dR).N (newH meetN dR).Items (newH meetN dR).S) 1)=sT1 by decide +kernel];rfl
theorem eT2:doP (hT sT1 noD 0 0 0 [] false) 1 1=(hT sT2 noD 0 0 0 [] false,0):=by rw [doP_1 rfl,if_neg (by decide +kernel),show doMv (hT sT1 noD 0 0 0 [] false).N (hT sT1 noD 0 0 0 [] false).Items (hT sT1 noD 0 0 0 [] false).S (fg (bc (hT sT1 noD 0 0 0 [] false).N (hT sT1 noD 0 0 0 [] false).Items (hT sT1 noD 0 0 0 [] false).S) 1)=sT2 by decide +kernel];rfl
theorem eT3:doP (hT sT2 noD 0 0 0 [] false) 1 1=(hT sT3 noD 0 0 0 [] false,0):=by rw [doP_1 rfl,if_neg (by decide +kernel),show doMv (hT sT2 noD 0 0 0 [] false).N (hT sT2 noD 0 0 0 [] false).Items (hT sT2 noD 0 0 0 [] false).S (fg (bc (hT sT2 noD 0 0 0 [] false).N (hT sT2 noD 0 0 0 [] false).Items (hT sT2 noD 0 0 0 [] false).S) 1)=sT3 by decide +kernel];rfl
theorem eT4:doP (hT sT3 noD 0 0 0 [] false) 4 0=(hT sT3 noD 0 0 0 [] false,0):=by rw [doP_4 rfl,show dV (hT sT3 noD 0 0 0 [] false).Told (hT sT3 noD 0 0 0 [] false).S.Out (hT sT3 noD 0 0 0 [] false).Safe=([],0) by decide +kernel,if_neg (by simp)];rfl
theorem eT5:doP (hT sT3 noD 0 0 0 [] false) 2 0=(hT sT3 ⟨[],wT⟩ 1 0 1 [] false,0):=by
 have e:cu (hT sT3 noD 0 0 0 [] false).Epoch.toNat (hT sT3 noD 0 0 0 [] false).D.Sectors ((hT sT3 noD 0 0 0 [] false).S.Choices.drop (hT sT3 noD 0 0 0 [] false).Logged.toNat).length (hT sT3 noD 0 0 0 [] false).Next.toNat ((hT sT3 noD 0 0 0 [] false).S.Choices.drop (hT sT3 noD 0 0 0 [] false).Logged.toNat) (hT sT3 noD 0 0 0 [] false).D.Wait=(⟨[],wT⟩,1,0):=by decide +kernel
 rw [doP_2 rfl,if_neg (show ¬ 0<=(hT sT3 noD 0 0 0 [] false).Laid by decide),e,if_neg (by simp)];rfl
theorem eT6:doP (hT sT3 ⟨[],wT⟩ 1 0 1 [] false) 3 0=(hT sT3 ⟨aL [] wT,[]⟩ 1 1 1 [] false,0):=by rw [doP_3 rfl,if_neg (show ¬ 0<=(hT sT3 ⟨[],wT⟩ 1 0 1 [] false).Laid by decide)];rfl
theorem eT7:doP (hT sT3 ⟨aL [] wT,[]⟩ 1 1 1 [] false) 4 0=(hT sT3 ⟨aL [] wT,[]⟩ 1 1 1 [⟨2,2,0⟩] false,0):=by rw [doP_4 rfl,show dV (hT sT3 ⟨aL [] wT,[]⟩ 1 1 1 [] false).Told (hT sT3 ⟨aL [] wT,[]⟩ 1 1 1 [] false).S.Out (hT sT3 ⟨aL [] wT,[]⟩ 1 1 1 [] false).Safe=([⟨2,2,0⟩],0) by decide +kernel,if_neg (by simp)];rfl
theorem eT8:doP (hT sT3 ⟨aL [] wT,[]⟩ 1 1 1 [⟨2,2,0⟩] false) 5 0=(hT (bb meetN dR) ⟨aL [] wT,[]⟩ 0 0 0 [⟨2,2,0⟩] true,0):=by rw [doP_5 rfl,if_neg (show ¬ ((0:Int)<0∨((hT sT3 ⟨aL [] wT,[]⟩ 1 1 1 [⟨2,2,0⟩] false).D.Wait.length:Int)<0) by decide)];rfl
theorem newT:cn meetN dR (aL [] wT)=(bb meetN dR,0):=by
 have g0:cq (aL [] wT) 0=none:=by decide +kernel
 have g1:cq (aL [] wT) 1=none:=by decide +kernel
 unfold cn dN;rw [g0,g1]
theorem up_of {h:Shop} (hd:h.Down=true) {s t:State} {E u:Nat} {l:List Choice} (hn:cn h.N h.Items h.D.Sectors=(s,E)) (hsc:bd (E:Int) (h.D.Sectors.drop 120)=(l,u)) (htr:dY h.N l=0) (hrp:bL h.N h.Items s l=(t,0)) (a:Int) :
  doP h 6 a=({ h with S:=t,Logged:=t.Choices.length,Safe:=t.Choices.length,Epoch:=(E:Int),Next:=(u:Int),Down:=false },0):=by
 rw [fH hd,if_neg (show ¬ (6:Int)≠6 by decide),hn]
 simp only
 rw [hsc]
 simp only
 rw [htr,if_neg (by simp),hrp,if_neg (by simp)]
theorem eT9:doP (hT (bb meetN dR) ⟨aL [] wT,[]⟩ 0 0 0 [⟨2,2,0⟩] true) 6 0=(hT sT4 ⟨aL [] wT,[]⟩ 1 1 1 [⟨2,2,0⟩] false,0):=by
 have hsc:bd ((0:Nat):Int) ((aL [] wT).drop 120)=([⟨2,1⟩],1):=by decide +kernel
 have htr:dY meetN [⟨2,1⟩]=0:=yY ⟨by decide +kernel,by decide,fun c hc=>by simp only [M3] at hc;subst hc;exact ⟨by decide,by decide,by decide,by decide,by decide⟩⟩;have hrp:bL meetN dR (bb meetN dR) [⟨2,1⟩]=(sT4,0):=Jy srcT (nX srcT.S) (oc _ _) (by decide) (f:=10) (by decide +kernel);exact up_of (h:=hT (bb meetN dR) ⟨aL [] wT,[]⟩ 0 0 0 [⟨2,2,0⟩] true) rfl newT hsc htr hrp 0
theorem eT10:doP (hT sT4 ⟨aL [] wT,[]⟩ 1 1 1 [⟨2,2,0⟩] false) 4 0=(hT sT4 ⟨aL [] wT,[]⟩ 1 1 1 [⟨2,2,0⟩] false,0):=by rw [doP_4 rfl,show dV (hT sT4 ⟨aL [] wT,[]⟩ 1 1 1 [⟨2,2,0⟩] false).Told (hT sT4 ⟨aL [] wT,[]⟩ 1 1 1 [⟨2,2,0⟩] false).S.Out (hT sT4 ⟨aL [] wT,[]⟩ 1 1 1 [⟨2,2,0⟩] false).Safe=([],0) by decide +kernel,if_neg (by simp)];rfl
theorem xL:lm=some true:=by
 unfold lm;rw [FE,JN];simp only [dK,LP];rw [Ct srcT _ (by simp),LP];have hr:runP (newH meetN dR) [⟨1,1⟩,⟨1,1⟩,⟨1,1⟩,⟨4,0⟩,⟨2,0⟩,⟨3,0⟩,⟨4,0⟩,⟨5,0⟩,⟨6,0⟩,⟨4,0⟩]=hT sT4 ⟨aL [] wT,[]⟩ 1 1 1 [⟨2,2,0⟩] false:=by simp only [runP];rw [nx (by omega) eT1,nx (by omega) eT2,nx (by omega) eT3,nx (by omega) eT4,nx (by omega) eT5,nx (by omega) eT6,nx (by omega) eT7,nx (by omega) eT8,nx (by omega) eT9,nx (by omega) eT10]
 simp only [hr,AJ];rfl
section
section
variable {n:Net} {items:List (List Item)} {E:Nat} {h:Shop}
theorem JR.flush (j:JR n items E h) (hd:h.Down=false) (a:Int):∃ E',JR n items E' (doP h 3 a).1:=by
 obtain ⟨b,cs,hb,hlg,_,hp⟩:=j.base;have js:=j.toJS.flush hd a;rw [doP_3 hd] at js ⊢;have hdd:¬ h.Down=true:=by rw [hd];decide
 cases hp hd with
 | @log w cs2 r hla run ch good len wait next logged safe =>
  rw [if_neg hla,if_neg hla] at js;rw [if_neg hla];have hwl:∀ w,w∈wr E cs.length cs2->logW E w:=oC E j.e2 _ cs2 len good;refine ⟨E,js,b,cs++cs2,?_,?_,fun hx=>absurd hx hdd,fun _=>?_⟩
  ·show BaseIs n items E (aL h.D.Sectors h.D.Wait) b;rw [wait];exact hb.logs hwl
  ·show LogIs E (aL h.D.Sectors h.D.Wait) _;rw [wait];exact hlg.write good len
  ·exact .log (w:=w) (cs2:=[]) (r:=r) hla run (by rw [Mj];exact ch) (fun c hc=>by cases hc) (by simpa using len) rfl (by show h.Next=_;rw [next];simp) (by show h.Logged=_;rw [logged];simp) (by show h.Logged=_;rw [logged])
 | @slot w cs2 r s' w2 hla run ch good len wait inv kv hb' run2 laid safe =>
  rw [if_pos hla,if_pos hla] at js;rw [if_pos hla];have he1:=js.e2;have hwl:∀ w,w∈wr E cs.length cs2->logW E w:=oC E j.e2 _ cs2 len good;have hS:aL h.D.Sectors h.D.Wait=aL (aL h.D.Sectors (wr E cs.length cs2)) (cA E (aY s')):=by rw [wait,sG]
  have hh1:Held (PB n items) E (aL h.D.Sectors (wr E cs.length cs2)):=j.held.logs hwl;refine ⟨E+1,js,s',[],?_,?_,fun hx=>absurd hx hdd,fun _=>?_⟩
  ·show BaseIs n items (E+1) (aL h.D.Sectors h.D.Wait) s';rw [hS];exact ⟨inv,kv,fun h0=>absurd h0 (by omega),fun _=>uK he1 hb'⟩
  ·show LogIs (E+1) (aL h.D.Sectors h.D.Wait) [];rw [hS];refine ⟨fun k c hk=>by simp at hk,fun i _=>?_,fun c hc=>by cases hc⟩;have:=ku (S:=aL h.D.Sectors (wr E cs.length cs2)) (E:=E) hb' (cA E (aY s')).length (120+i) (.inl (by omega));rw [MT] at this;rw [this];exact hh1.log (120+i) (E+1) (by omega) (by omega)
  ·exact .log (w:=w2) (cs2:=[]) (r:=chW n w2) (by show ¬ (0:Int) <= -1;omega) run2 (by simp) (fun c hc=>by cases hc) (by simp) rfl rfl (by show h.Laid=_;rw [laid];simp) (by show h.Laid=_;rw [laid];simp)
theorem JR.tell (j:JR n items E h) (td:List Item) (js:JS n items E { h with Told:=td }):JR n items E { h with Told:=td }:=by
 obtain ⟨b,cs,hb,hlg,hr,hp⟩:=j.base;refine ⟨js,b,cs,hb,hlg,hr,fun hd=>?_⟩;cases hp hd with
 | log hla run ch good len wait next logged safe=>exact .log hla run ch good len wait next logged safe
 | slot hla run ch good len wait inv kv hb' run2 laid safe=>exact .slot hla run ch good len wait inv kv hb' run2 laid safe
theorem JR.lay (j:JR n items E h) (hd:h.Down=false) (hl:¬ 0<=h.Laid) (hb':((aY h.S).length+49) / 50<60) (js:JS n items E { h with D:=⟨h.D.Sectors,h.D.Wait++cA E (aY h.S)⟩,Laid:=h.S.Choices.length }) :
  JR n items E { h with D:=⟨h.D.Sectors,h.D.Wait++cA E (aY h.S)⟩,Laid:=h.S.Choices.length }:=by
 obtain ⟨b,cs,hb,hlg,_,hp⟩:=j.base
 refine ⟨js,b,cs,hb,hlg,fun hx=>absurd (show h.Down=true from hx) (by rw [hd];decide),fun _=>?_⟩
 cases hp hd with
 | slot hla=>exact absurd hla hl
 | @log w cs2 r hla run ch good len wait next logged safe =>
  exact .slot (w:=w) (cs2:=cs2) (r:=r) (s':=h.S) (w2:=[]) (by show (0:Int)<=(h.S.Choices.length:Int);omega) run ch good len (by show h.D.Wait++_=_;rw [wait]) j.inv j.kv hb' (.nil _) rfl safe
theorem JR.do (q:SrcQ n items) (j:JR n items E h) (k a:Int) (h0:(doP h k a).2=0):∃ E',JR n items E' (doP h k a).1:=by
 by_cases hd:h.Down=true
 ·by_cases h6:k=6
  ·subst h6;obtain ⟨_,_,_,_,_,_,_,hj⟩:=j.up q hd a;exact ⟨E,hj⟩
  ·exfalso;rw [fH hd,if_pos h6] at h0;exact absurd h0 (by decide)
 have hdf:h.Down=false:=by simpa using hd
 by_cases h1:k=1
 ·subst h1;rw [doP_1 hdf] at h0 ⊢;by_cases hr:bc h.N h.Items h.S=[]
  ·rw [if_pos hr] at h0;exact absurd h0 (by decide)
  ·rw [if_neg hr];have eN:=j.N;have eI:=j.I;subst eN;subst eI;exact ⟨E,j.go q hdf (Bs hr a)⟩
 by_cases h2:k=2
 ·subst h2;rw [doP_2 hdf] at h0 ⊢;by_cases hl:0<=h.Laid
  ·rw [if_pos hl] at h0;exact absurd h0 (by decide)
  rw [if_neg hl] at h0 ⊢;by_cases he:(cu h.Epoch.toNat h.D.Sectors (h.S.Choices.drop h.Logged.toNat).length h.Next.toNat (h.S.Choices.drop h.Logged.toNat) h.D.Wait).2.2=0
  ·obtain ⟨cs,e1,e2,e3,e4,hj⟩:=j.toJS.write hdf hl he;rw [if_neg (by simpa using he),e1];exact ⟨E,j.write hdf hl e2 e3 e4 hj⟩
  ·rw [if_pos he] at h0;exact absurd h0 he
 by_cases h3:k=3
 ·subst h3;exact j.flush hdf a
 by_cases h4:k=4
 ·subst h4;rw [doP_4 hdf] at h0 ⊢;by_cases he:(dV h.Told h.S.Out h.Safe).2=0
  ·rw [if_neg (by simpa using he)];exact ⟨E,j.tell _ j.toJS.tell⟩
  ·rw [if_pos he] at h0;exact absurd h0 he
 by_cases h5:k=5
 ·subst h5;rw [doP_5 hdf] at h0 ⊢;by_cases hc:a<0∨h.D.Wait.length<a
  ·rw [if_pos hc] at h0;exact absurd h0 (by decide)
  ·rw [if_neg hc];exact j.cut q hdf a.toNat
 by_cases h7:k=7
 ·subst h7;rw [doP_7 hdf] at h0 ⊢;by_cases hl:0<=h.Laid
  ·rw [if_pos hl] at h0;exact absurd h0 (by decide)
  rw [if_neg hl] at h0 ⊢;by_cases h200:h.Epoch=200
  ·rw [if_pos h200] at h0;exact absurd h0 (by decide)
  rw [if_neg h200] at h0 ⊢;by_cases hb:60<=((aY h.S).length+49) / 50∨300<h.D.Wait.length+(((aY h.S).length+49) / 50+1)
  ·rw [if_pos hb] at h0;exact absurd h0 (by decide)
  rw [if_neg hb];have hE:h.Epoch.toNat=E:=by have:=j.ep hdf;omega
  rw [hE];exact ⟨E,j.lay hdf hl (by omega) (j.toJS.lay hdf hl h200 hb)⟩
 ·exfalso;rw [vh hdf a ⟨h1,h2,h3,h4,h5,h7⟩] at h0;exact absurd h0 (by decide)
theorem JR.nextH (q:SrcQ n items) (j:JR n items E h) (x:Happening):∃ E',JR n items E' (cz h x):=by
 unfold cz;by_cases h0:(hapP h x).2=0
 ·rw [if_pos h0];unfold hapP at h0 ⊢;by_cases hx:x.Kind<1∨7<x.Kind
  ·rw [if_pos hx] at h0;exact absurd h0 (by decide)
  ·rw [if_neg hx] at h0 ⊢;exact j.do q x.Kind x.N h0
 ·rw [if_neg h0];exact ⟨E,j⟩
theorem JR.run (q:SrcQ n items):∀ (l:List Happening) {E:Nat} {h:Shop},JR n items E h->∃ E',JR n items E' (runP h l)
 | [],E,h,j=>⟨E,j⟩
 | x::l,E,h,j=>by obtain ⟨E',j'⟩:=j.nextH q x;exact JR.run q l j'
end
theorem EV {x:Node} (h1:x.In.length<=1099511627776) (h2:x.Out.length<=1099511627776):pt x x=some true:=by unfold pt;rw [if_pos (by simp),if_pos (by simp),t5 x.In x.In h1,t5 x.Out x.Out h2];simp
theorem xD {n:Net} (hl:n.Nodes.length<=1000) (hio:∀ x∈n.Nodes,x.In.length<=1099511627776/\x.Out.length<=1099511627776):∀ (m k:Nat),k+m=n.Nodes.length->iter (fun ss:Int=>jF n.Nodes n.Nodes ss) (k:Int)=some true
 | 0,k,h=>by
  rw [aH];have e:jF n.Nodes n.Nodes (k:Int)=some (.inr true):=by unfold jF;rw [if_neg (by simp;omega)];rfl
  simp only [e]
 | m+1,k,h=>by
  have hlt:k<n.Nodes.length:=by omega
  have hx:n.Nodes[k]?=some n.Nodes[k]:=LR hlt;have hio':=hio n.Nodes[k] (Mo hlt);generalize n.Nodes[k]=x at hx hio';rw [aH];have e:jF n.Nodes n.Nodes (k:Int)=some (.inl ((k+1:Nat):Int)):=by unfold jF;rw [if_pos (by simp;omega),bt hx,LP,LP,EV hio'.1 hio'.2,LP,if_neg (by simp),bu (by omega)]
  simp only [e];exact xD hl hio m (k+1) (by omega)
theorem EJ {n:Net} (hl:n.Nodes.length<=1000) (hio:∀ x∈n.Nodes,x.In.length<=1099511627776/\x.Out.length<=1099511627776):pE n n=some true:=by unfold pE;rw [if_pos (by simp),if_pos (by simp)];unfold rv;rw [if_neg (by simp)];have:=xD hl hio n.Nodes.length 0 (by omega);rw [Mq] at this;rw [this];rfl
theorem GS (a b:List Write) (ha:a.length<=1099511627776):pw a b=some (decide (a=b)):=by
 unfold pw;by_cases hl:a.length=b.length
 ·rw [if_neg (by simp;omega)];exact lO a b ha hl (fun k x y h1 h2 h3 h4=>by
   unfold pi;rw [h1,h2,h3,h4];by_cases h:x=y<;>simp [h]) (fun h=>by
   unfold pi;rw [h];simp)
 ·rw [if_pos (by simp;omega)];have:a≠b:=fun e=>hl (by rw [e])
  simp [this]
theorem Et {n:Net} {items:List (List Item)} {E:Nat} {h:Shop} (q:SrcQ n items) (j:JS n items E h):ni h h=some true:=by
 obtain ⟨l1,l2,l3⟩:=q.l;have hd:=j.okD;have eD:pC h.D h.D=some true:=by unfold pC;rw [Ds _ _ (by have:=hd.1;omega),LP,if_pos (by simp),GS _ _ (by have:=hd.2.1;omega)];simp
 unfold ni;rw [j.N,j.I,EJ l1 q.io,LP,if_pos rfl,xI items items (by omega) (fun l hl=>by have:=l3 l hl;omega),LP,if_pos (by simp),EQ h.S h.S (y5 q j.inv),LP,if_pos (by simp),eD,LP,if_pos rfl,
  if_pos (by simp),if_pos (by simp),if_pos (by simp),if_pos (by simp),if_pos (by simp),uk h.Told h.Told (by have:=j.told;omega),LP,if_pos (by simp),LP]
 simp
theorem AH {n:Net} {items:List (List Item)} {E:Nat} {h:Shop} (q:SrcQ n items) (j:JR n items E h) (hd:h.Down=true):lc h.N.Nodes h.N.Rings h.N.Room h.Items h.S.At h.S.Rings h.S.Memory h.S.Choices h.S.Out h.D.Sectors h.D.Wait h.Logged h.Safe h.Epoch h.Laid h.Next h.Told h.Down=some true:=by
 obtain ⟨b,cs,t,_,_,_,hup,ja⟩:=j.up q hd 0;have hw:=(j.down hd).1;have hlaid:=(j.down hd).2.2.2;have d1:eG h ⟨6,0⟩=some (doP h 6 0):=qr q j.toJS 6 0;rw [hup] at d1 ja;generalize ha:({ h with S:=t,Logged:=t.Choices.length,Safe:=t.Choices.length,Epoch:=(E:Int),Next:=(cs.length:Int),Down:=false }:Shop)=x at d1 ja;have dx:x.Down=false:=by rw [<- ha]
 have wx:x.D.Wait=[]:=by rw [<- ha];exact hw
 have d2:eG x ⟨5,0⟩=some (doP x 5 0):=qr q ja.toJS 5 0;have f2:doP x 5 0=({ x with D:=⟨aL x.D.Sectors (x.D.Wait.take 0),[]⟩,S:=bb x.N x.Items,Logged:=0,Safe:=0,Epoch:=0,Laid := -1,Next:=0,Down:=true },0):=by rw [doP_5 dx,if_neg (by omega)];rfl
 rw [f2] at d2;have jb:=ja.cut q dx 0;obtain ⟨E2,jb⟩:=jb;have hS:h={ x with D:=⟨aL x.D.Sectors (x.D.Wait.take 0),[]⟩,S:=bb x.N x.Items,Logged:=h.Logged,Safe:=h.Safe,Epoch:=h.Epoch,Laid := -1,Next:=h.Next,Down:=true }:=by
  rw [<- ha];have e1:h.D=⟨h.D.Sectors,h.D.Wait⟩:=rfl;have e2:h.S=bb h.N h.Items:=by rw [(j.down hd).2.2.1,j.N,j.I]
  show h=⟨h.N,h.Items,bb h.N h.Items,⟨h.D.Sectors,[]⟩,h.Logged,h.Safe,h.Epoch, -1,h.Next,h.Told,true⟩
  rw [<- e2,<- hw,<- hlaid,<- hd]
 generalize hb:({ x with D:=⟨aL x.D.Sectors (x.D.Wait.take 0),[]⟩,S:=bb x.N x.Items,Logged:=0,Safe:=0,Epoch:=0,Laid := -1,Next:=0,Down:=true }:Shop)=y at d2 jb;have dy:y.Down=true:=by rw [<- hb]
 have d3:eG y ⟨6,0⟩=some (doP y 6 0):=qr q jb.toJS 6 0;have f3:doP y 6 0=(x,0):=by
  have e1:y.N=h.N:=by rw [<- hb,<- ha]
  have e2:y.Items=h.Items:=by rw [<- hb,<- ha]
  have e3:y.D.Sectors=h.D.Sectors:=by rw [<- hb,<- ha];rfl
  have h6:=hup;rw [fH hd,if_neg (show ¬ (6:Int)≠6 by decide)] at h6;rw [fH dy,if_neg (show ¬ (6:Int)≠6 by decide),e1,e2,e3];by_cases c1:dY h.N (bd ((cn h.N h.Items h.D.Sectors).2:Int) (h.D.Sectors.drop 120)).1=0
  ·rw [if_neg (not_not_intro c1)] at h6 ⊢;by_cases c2:(bL h.N h.Items (cn h.N h.Items h.D.Sectors).1 (bd ((cn h.N h.Items h.D.Sectors).2:Int) (h.D.Sectors.drop 120)).1).2=0
   ·rw [if_neg (not_not_intro c2)] at h6 ⊢;have h7:=(Prod.mk.inj h6).1;rw [ha] at h7;rw [<- h7,<- hb,<- ha];show ((⟨_,_,_,⟨h.D.Sectors,[]⟩,_,_,_, -1,_,_,_⟩:Shop),(0:Int))=(⟨_,_,_,h.D,_,_,_,h.Laid,_,_,_⟩,0)
    rw [hlaid,<- hw]
   ·rw [if_pos c2] at h6;exact absurd (Prod.mk.inj h6).2 c2
  ·rw [if_pos c1] at h6;exact absurd (Prod.mk.inj h6).2 c1
 rw [f3] at d3;unfold lc;rw [show dK 6 0=some ⟨6,0⟩ from rfl,LP,show eG (⟨⟨h.N.Nodes,h.N.Rings,h.N.Room⟩,h.Items,⟨h.S.At,h.S.Rings,h.S.Memory,h.S.Choices,h.S.Out⟩,⟨h.D.Sectors,h.D.Wait⟩,h.Logged,h.Safe,h.Epoch,h.Laid,h.Next,h.Told,h.Down⟩:Shop) ⟨6,0⟩=_ from d1,LP,if_neg (by simp),
  show dK 5 0=some ⟨5,0⟩ from rfl,LP,show eG (x,(0:Int)).1 ⟨5,0⟩=_ from d2,LP,if_neg (by simp),LP,show eG (y,(0:Int)).1 ⟨6,0⟩=_ from d3,LP,if_pos (by simp),show ni (x,(0:Int)).1 (x,(0:Int)).1=_ from Et q ja.toJS]
 rfl
theorem Hi {n:Net} {items:List (List Item)} (q:SrcQ n items) (script:List Happening) (hs:script.length<=60) (hcl:lm=some true):iT n items script=some true:=by
 obtain ⟨E,j⟩:=JR.run q script (JR.start q.S);unfold iT;rw [Ct q script (by omega),LP,hcl,LP,if_neg (by simp)];dsimp only;generalize runP (newH n items) script=h at j;by_cases hd:h.Down=true
 ·rw [if_neg (by rw [hd];decide)];exact AH q j hd
 have hdf:h.Down=false:=by simpa using hd
 rw [if_pos (by rw [hdf];decide),show dK 5 0=some ⟨5,0⟩ from rfl,LP,show eG h ⟨5,0⟩=some (doP h 5 0) from qr q j.toJS 5 0,LP,doP_5 hdf,if_neg (show ¬ ((0:Int)<0∨(h.D.Wait.length:Int)<0) by omega),if_neg (by simp)];obtain ⟨E',j'⟩:=j.cut q hdf 0;exact AH q j' rfl
theorem Ek (n:Net) (items:List (List Item)) (script:List Happening) (gn:gNet n) (gi:gL (gL dk) items) (gs:gL uw script) (hb:mNet n+(mL (mL cI) items+(mL so script+0))<=1048576):rI n items script=some true:=by
 have hio:=Ju (show mNet n<=1048576 by omega);have key:∀ z:List Happening,z.length<=60->iT n items z=some true:=fun z hz=>by
  by_cases hs:cr n items=0
  ·exact Hi ⟨km hs,hs,hio,gi⟩ z hz xL
  ·unfold iT;rw [IV hio hs,LP,xL,LP];dsimp only;rw [if_pos (by simp [hs])];rfl
 unfold rI;by_cases h:60<script.length
 ·rw [if_pos (by simp;omega),show sub script 0 60=some (script.take 60) from sub_0 (j:=60) (by omega),LP];exact key _ (by rw [Mg];omega)
 ·rw [if_neg (by simp;omega)];exact key _ (by omega)
end
end Go.Proofs.YtnlmagdmmjkklaaGreat
namespace Go.Proofs.YtnlmagdmmjkklaaGreat.shopAgainLaw
open Go.ChangeShapes Go.WideShapes Go.ChangeAt Go.RowKit
theorem own:ownKnob Tryz.prog.godebug=none:=by kernel_rfl
theorem laid:laidOutB Tryz.prog=true:=by kernel_rfl
theorem ok:(Tryz.f4.params.toList.all fun t=>Tryz.prog.readableRec t && decide (t<Tryz.prog.types.size))=true:=by kernel_rfl
set_option maxRecDepth 100000 in
theorem contract (H:Type) (enc:TypeId × Value->H) (W:World) (base:Nat) (args:Array Value) (ds gs:List (DataW H)) (before:List MemPlace)
  (hval:∀ (j:Nat) t v,Tryz.f4.params[j]?=some t->args[j]?=some v->Value.okWide Tryz.prog W .any base t v)
  (hW:DataW.Whole enc Tryz.prog Tryz.f4.params.toList Rows.shopAgainSpec.vars false W args.toList ds gs before) (hk:Rows.uptoSmall H (ds++gs)=true) :
  Calls Tryz.prog 4 args W fun e W'=>∃ v,e=.returned v/\Rows.shopAgainSpec.post enc Tryz.prog Tryz.f4 false true false false W args v W':=by
 have hW':=hW
 obtain ⟨p,q,hA0,hV,rfl,hfz,hnd⟩:=hW
 have hA:DataW.TrodAll enc Tryz.prog W 0 (fun _=>true) true Tryz.f4.params.toList args.toList ds p:=hA0
 rw [Tryz.params4] at hA hval
 obtain ⟨v0,vs0,d0,ds0,p0,q0,hargs,rfl,rfl,h0,r0⟩:=trodAll_cons hA
 obtain ⟨v1,vs1,d1,ds1,p1,q1,rfl,rfl,rfl,h1,r1⟩:=trodAll_cons r0
 obtain ⟨v2,vs2,d2,ds2,p2,q2,rfl,rfl,rfl,h2,r2⟩:=trodAll_cons r1
 obtain ⟨rfl,rfl,rfl⟩:=trodAll_nil r2
 obtain rfl:args=#[v0,v1,v2]:=by cases args;simp_all
 obtain ⟨rfl,rfl⟩:=trodVars_none hV
 obtain ⟨x0,a0,g0,m0⟩:=Opn.args on24 Tryz.underlying24 (hval 0 _ v0 rfl rfl) h0
 obtain ⟨x1,a1,g1,m1⟩:=Opn.arg on25 (by rw [Tryz.underlying25]) (hval 1 _ v1 rfl rfl) h1
 obtain ⟨x2,a2,g2,m2⟩:=Opn.arg on26 (by rw [Tryz.underlying26]) (hval 2 _ v2 rfl rfl) h2
 have hb:Rows.uptoBulkAll ([d0,d1,d2]:List (DataW H))<=1048576:=of_decide_eq_true hk
 simp only [Rows.uptoBulkAll] at hb
 refine Hr laid Tryz.underlying4 (by kernel_rfl) ok rfl rfl rfl rfl hW' (av:=[_,_,_]) (.cons a0 (.cons a1 (.cons a2 (.nil)))) (DF (Ek x0 x1 x2 g0 g1 g2 (by omega)))
set_option maxRecDepth 100000 in
theorem lifted (os:Os) (started:os.Started) (H:Type) (enc:TypeId × Value->H) (F:Stop.Interp) :
  ReturnsInHanded {} Tryz.checked os 4 .any ((Rows.OpenSpec.upto Rows.shopAgainSpec).pre6 enc Tryz.prog Tryz.f4 Rows.shopAgainUptoRow.domain false) (((Rows.OpenSpec.upto Rows.shopAgainSpec).at F).post enc Tryz.prog Tryz.f4 false true false false):=by
 refine returnsInHanded_of_cond (C:=Tryz.checked) (s:=Rows.OpenSpec.upto Rows.shopAgainSpec) (k:=Rows.uptoSmall) rfl own started (by kernel_rfl) Tryz.func4
  (OpenSpec.witness (enc:=enc) (C:=Tryz.checked) (s:=Rows.OpenSpec.upto Rows.shopAgainSpec) (k:=Rows.uptoSmall) rfl false ⟨#[],#[.agg #[.slice none 0 0,.int .i64 0,.int .i64 0],.slice none 0 0,.slice none 0 0],[]⟩ 8 (by kernel_rfl) (by kernel_rfl) (by kernel_rfl)
   (x:=([.agg [.nil,.lit (.int .i64 0),.lit (.int .i64 0)],.nil,.nil],[],[])) (by kernel_rfl) rfl (by kernel_rfl)) ?_
 intro W base args ds gs before hval hW _ hk _
 exact contract H enc W base args ds gs before hval hW hk
theorem proved:Rows.ShopAgainUptoSaid :=
 OpenClaim.holds_of_cond 4 Tryz.f4 rfl rfl rfl rfl rfl rfl rfl ⟨rfl,rfl,rfl,rfl,rfl⟩ rfl rfl rfl rfl rfl (by kernel_rfl) Tryz.func4 (by kernel_rfl)
  (of_decide_eq_true (by kernel_rfl)) (by unfold Func.isWrapper;first | (rw [if_pos (by decide +kernel)];kernel_rfl) | (rw [if_neg (by decide +kernel)];exact ⟨rfl,rfl⟩))
  (fun os started H enc _ F=>lifted os started H enc F)
#print axioms proved
end Go.Proofs.YtnlmagdmmjkklaaGreat.shopAgainLaw
