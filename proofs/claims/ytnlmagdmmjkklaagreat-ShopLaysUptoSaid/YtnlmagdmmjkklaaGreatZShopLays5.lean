/-
  Part 5 of the proof of shopLaysLaw.proved: the code computes these functions, and the law holds of them, with no condition beyond the statement's own; put together by a program of ours (wip/decl.py) out of texts of ours.
-/
import Derived.Test.YtnlmagdmmjkklaaGreatZShopLays4
set_option linter.unusedVariables false
set_option linter.unusedSimpArgs false
namespace Go.Proofs.YtnlmagdmmjkklaaGreat
theorem nc (a:Nat) (ha:a<9223372036854775808):(BitVec.ofInt 64 (a:Int)).toNat=a:=by rw [BitVec.toNat_ofInt];omega
theorem GV (a b:Nat) (ha:a<9223372036854775808) (hb:b<9223372036854775808):ibits .and .i64 (a:Int) (b:Int)=((a &&& b:Nat):Int):=by have hx:a &&& b<2 ^ 63:=Nat.lt_of_le_of_lt Nat.and_le_left (by omega);show IntKind.i64.wrap ((BitVec.ofInt 64 (a:Int) &&& BitVec.ofInt 64 (b:Int)).toNat:Int)=_;rw [BitVec.toNat_and,nc a ha,nc b hb,bw (by omega) (by omega)]
theorem zV (a b:Nat) (ha:a<9223372036854775808) (hb:b<9223372036854775808):ibits .or .i64 (a:Int) (b:Int)=((a ||| b:Nat):Int):=by
 have hx:a ||| b<2 ^ 63:=Nat.or_lt_two_pow (by omega) (by omega)
 show IntKind.i64.wrap ((BitVec.ofInt 64 (a:Int) ||| BitVec.ofInt 64 (b:Int)).toNat:Int)=_;rw [BitVec.toNat_or,nc a ha,nc b hb,bw (by omega) (by omega)]
theorem t5 (a b:Nat) (ha:a<9223372036854775808) (hb:b<9223372036854775808):ibits .xor .i64 (a:Int) (b:Int)=((a ^^^ b:Nat):Int):=by have hx:a ^^^ b<2 ^ 63:=Nat.xor_lt_two_pow (by omega) (by omega);show IntKind.i64.wrap ((BitVec.ofInt 64 (a:Int) ^^^ BitVec.ofInt 64 (b:Int)).toNat:Int)=_;rw [BitVec.toNat_xor,nc a ha,nc b hb,bw (by omega) (by omega)]
def crc1 (n:Nat):Nat:=if (n*2) &&& 65536≠0 then (n*2) ^^^ 69665 else n*2
def crcN:Nat->Nat->Nat
 | 0,n=>n
 | k+1,n=>crcN k (crc1 n)
def crcB (n:Nat) (b:UInt8):Nat:=crcN 8 (n ^^^ (b.toNat*256))
def crc (l:List UInt8):Nat:=l.foldl crcB 65535
theorem Bj (q r q' r':Nat) (hr:r<65536) (hr':r' < 65536):(65536*q+r) &&& (65536*q' + r')=65536*(q &&& q')+(r &&& r'):=by
 have hrr:r &&& r' < 2 ^ 16:=Nat.lt_of_le_of_lt Nat.and_le_left hr;apply Nat.eq_of_testBit_eq;intro i;have e:(65536:Nat)=2 ^ 16:=by decide
 rw [e] at hr hr' ⊢;rw [Nat.testBit_and,LC _ hr,LC _ hr',LC _ hrr];split<;>simp [Nat.testBit_and]
theorem IW (q r q' r':Nat) (hr:r<65536) (hr':r' < 65536):(65536*q+r) ^^^ (65536*q' + r')=65536*(q ^^^ q')+(r ^^^ r'):=by
 have hrr:r ^^^ r' < 2 ^ 16:=Nat.xor_lt_two_pow (n:=16) (by omega) (by omega);apply Nat.eq_of_testBit_eq;intro i;have e:(65536:Nat)=2 ^ 16:=by decide
 rw [e] at hr hr' ⊢;rw [Nat.testBit_xor,LC _ hr,LC _ hr',LC _ hrr];split<;>simp [Nat.testBit_xor]
theorem yG {a b:Nat} (ha:a<65536) (hb:b<65536):a ^^^ b<65536:=Nat.xor_lt_two_pow (n:=16) ha hb
theorem HY {n:Nat} (h:n<32768):crc1 n=n*2:=by
 have e:(n*2) &&& 65536=0:=by have:=Bj 0 (n*2) 1 0 (by omega) (by omega);simpa using this
 unfold crc1;rw [e];rfl
theorem G8 {n:Nat} (h:32768<=n) (h':n<65536):crc1 n=(n*2 - 65536) ^^^ 4129:=by
 have e:n*2=65536*1+(n*2 - 65536):=by omega
 have e1:(n*2) &&& 65536=65536:=by have:=Bj 1 (n*2 - 65536) 1 0 (by omega) (by omega);rw [<- e] at this;simpa using this
 have e2:=IW 1 (n*2 - 65536) 1 4129 (by omega) (by omega);rw [<- e] at e2;unfold crc1;rw [e1,if_pos (by decide)];simpa using e2
theorem Aa {n:Nat} (h:n<65536):crc1 n<65536:=by
 by_cases h':n<32768
 ·rw [HY h'];omega
 ·rw [G8 (by omega) h];exact yG (by omega) (by decide)
theorem HH {k n:Nat} (h:n<65536):crcN k n<65536:=by
 induction k generalizing n with
 | zero=>exact h
 | succ k ih=>exact ih (Aa h)
theorem AB {n:Nat} {b:UInt8} (h:n<65536):n ^^^ (b.toNat*256)<65536:=yG h (by have:=b.toNat_lt;omega)
theorem uo {n:Nat} {b:UInt8} (h:n<65536):crcB n b<65536:=HH (AB h)
theorem HE (l:List UInt8):∀ {n:Nat},n<65536->l.foldl crcB n<65536:=by
 induction l with
 | nil=>exact fun h=>h
 | cons b l ih=>exact fun h=>ih (uo h)
theorem uH (l:List UInt8):crc l<65536:=HE l (by decide)
theorem pZ {n:Nat} (h:n<9223372036854775808):IntKind.i64.wrap (n:Int)=(n:Int):=bw (by omega) (by omega)
theorem eU (c:UInt8):IntKind.i64.wrap (c.toNat:Int)=(c.toNat:Int):=pZ (by have:=c.toNat_lt;omega)
theorem sk (n:Nat):IntKind.u8.wrap (n:Int)=((n % 256:Nat):Int):=by simp [IntKind.wrap,IntKind.signed,IntKind.bits]
theorem str_1 (n:Nat):bR [IntKind.u8.wrap (n:Int)]=[UInt8.ofNat n]:=by unfold bR;rw [sk];simp only [Ll,My,KW];congr 1;exact UInt8.toNat_inj.1 (by simp)
theorem str_2 (n m:Nat):bR [IntKind.u8.wrap (n:Int),IntKind.u8.wrap (m:Int)]=[UInt8.ofNat n,UInt8.ofNat m]:=by have h1:=str_1 n;have h2:=str_1 m;unfold bR at *;simp only [Ll,My,LW,and_true] at *;exact ⟨h1,h2⟩
theorem shl_n {x k:Nat} (hk:k<=64) (h:x*2 ^ k<9223372036854775808):shl .i64 (x:Int) (k:Int)=some ((x*2 ^ k:Nat):Int):=by
 unfold shl;rw [if_pos (by omega)];have e:min (k:Int).toNat IntKind.i64.bits=k:=by have:IntKind.i64.bits=64:=rfl;rw [this];simp;omega
 rw [e];congr 1;have:((x:Int)*2 ^ k)=((x*2 ^ k:Nat):Int):=by push_cast;rfl
 rw [this,pZ h]
theorem shr8 {x:Nat} (h:x<9223372036854775808):shr .i64 (x:Int) 8=some ((x / 256:Nat):Int):=by unfold shr;rw [if_pos (by omega)];have e:min (8:Int).toNat IntKind.i64.bits=8:=rfl;rw [e];congr 1;rw [Lu _ (by decide)];omega
theorem xV (s2:Int):∀ (n j x:Nat),j+n=8->x<65536->iter (fun ss:Int × Int=>jD s2 ss.1 ss.2) ((x:Int),(j:Int))=some (.inl (((crcN n x:Nat):Int),IntKind.i64.wrap (s2+1)))
 | 0,j,x,hj,hx=>by
  have e:jD s2 (x:Int) (j:Int)=some (.inr (.inl ((x:Int),IntKind.i64.wrap (s2+1)))):=by unfold jD;rw [if_neg (by simp;omega)];rfl
  rw [aG];simp only [e];rfl
 | n+1,j,x,hj,hx=>by
  have h1:shl .i64 (x:Int) 1=some ((x*2:Nat):Int):=by have:=shl_n (x:=x) (k:=1) (by omega) (by omega);simpa using this
  have ha:ibits .and .i64 ((x*2:Nat):Int) 65536=(((x*2) &&& 65536:Nat):Int):=GV (x*2) 65536 (by omega) (by decide);have hb:ibits .xor .i64 ((x*2:Nat):Int) 69665=(((x*2) ^^^ 69665:Nat):Int):=t5 (x*2) 69665 (by omega) (by decide);have e:jD s2 (x:Int) (j:Int)=some (.inl (((crc1 x:Nat):Int),((j+1:Nat):Int))):=by
   unfold jD;rw [if_pos (by simp;omega),h1];simp only [Kr];rw [ha,hb,br (by omega)];unfold crc1;by_cases hc:(x*2) &&& 65536=0
   ·rw [if_neg (by simp [hc]),if_neg (by simp [hc])]
   ·rw [if_pos (by simpa using hc),if_pos (by simpa using hc)]
  rw [aG];simp only [e];exact xV s2 n (j+1) (crc1 x) (by omega) (Aa hx)
theorem wl (b:List UInt8) (hb:b.length<=1099511627776):nn b=some ((crc b:Nat):Int):=by
 unfold nn;have:=mW (σ:=Fin 65536) b hb (fun k st=>((st.val:Int),(k:Int))) (body:=fun ss:Int × Int=>jA b ss.1 ss.2)
  (fun k x st=>some (.inl ⟨crcB st.val x,uo st.isLt⟩)) (fun st=>some (st.val:Int)) ⟨65535,by decide⟩
  (fun k x st _ hk h1 h2 h3=>by
   show jA b (st.val:Int) (k:Int)=_;unfold jA;rw [h2,h1];simp only [if_true,Kr,eU];have hx:=x.toNat_lt;have hst:=st.isLt;have h4:shl .i64 (x.toNat:Int) 8=some ((x.toNat*256:Nat):Int):=by have:=shl_n (x:=x.toNat) (k:=8) (by omega) (by omega);simpa using this
   rw [h4];simp only [Kr];rw [t5 _ _ (by omega) (by omega)];have:=xV (k:Int) 8 0 (st.val ^^^ x.toNat*256) (by omega) (AB st.isLt);rw [h3] at this;exact this)
  (fun st h=>by show jA b (st.val:Int) (b.length:Int)=_;unfold jA;rw [h];rfl)
 refine Eq.trans this ?_;have fold:∀ (ys:List UInt8) (k:Nat) (st:Fin 65536),dG (σ:=Fin 65536) (ρ:=Int) (fun k x st=>some (.inl ⟨crcB st.val x,uo st.isLt⟩)) (fun st=>some (st.val:Int)) k ys st=some ((ys.foldl crcB st.val:Nat):Int):=by
  intro ys;induction ys with
  | nil=>intro k st;rfl
  | cons y ys ih=>intro k st;unfold dG;simp only;rw [ih];rfl
 rw [fold];rfl
def frm (b:List UInt8):List UInt8:=UInt8.ofNat b.length::b++[UInt8.ofNat (crc (UInt8.ofNat b.length::b) / 256),UInt8.ofNat (crc (UInt8.ofNat b.length::b))]
def putFr (b:List UInt8):List UInt8 × Int:=if b=[] then ([],4) else if 60<b.length then ([],2) else (frm b,0)
theorem rc (b:List UInt8):nq b=some (putFr b):=by
 unfold nq putFr;by_cases h1:b=[]
 ·rw [if_pos (by simp [h1]),if_pos h1]
 rw [if_neg (by simpa using h1),if_neg h1];by_cases h2:60<b.length
 ·rw [if_pos (by simp;omega),if_pos h2]
 rw [if_neg (by simp;omega),if_neg h2,str_1,lJ (by simp;omega)];simp only [Kr,LO];rw [wl _ (by simp;omega)];simp only [Kr];have hc:=uH (UInt8.ofNat b.length::b);rw [shr8 (by omega)];simp only [Kr];rw [str_2,lJ (by simp;omega)];simp [frm]
def fS (r:List UInt8):Option (List UInt8) :=
 match r with
 | []=>none
 | h::t =>
  if h.toNat<1∨60<h.toNat∨t.length+1<h.toNat+3 then none
  else if (t.getD h.toNat 0).toNat*256+(t.getD (h.toNat+1) 0).toNat≠crc (h::t.take h.toNat) then none
  else some (t.take h.toNat)
def records:Nat->List UInt8->List (List UInt8) × Nat
 | 0,_=>([],0)
 | n+1,r =>
  match fS r with
  | none=>([],0)
  | some p=>(p::(records n (r.drop (p.length+3))).1,p.length+3+(records n (r.drop (p.length+3))).2)
def readR (b:List UInt8):List (List UInt8) × Int × Int :=
 if 12800<b.length then ([],0,2) else ((records b.length b).1,((records b.length b).2:Int),0)
theorem wg (b:List UInt8):mY b=some (readR b):=by
 unfold mY readR;by_cases h0:12800<b.length
 ·rw [if_pos (by simp;omega),if_pos h0]
 rw [if_neg (by simp;omega),if_neg h0];have key:∀ (n u:Nat) (acc:List (List UInt8)),u<=b.length->acc.length<=u->b.length<=u+n ->
   iter (fun ss:Int × List (List UInt8)=>fw b ss.1 ss.2) ((u:Int),acc)=some (acc++(records n (b.drop u)).1,((u+(records n (b.drop u)).2:Nat):Int),0):=by
  intro n
  induction n with
  | zero =>
   intro u acc hu ha hn
   have e:fw b (u:Int) acc=some (.inr (acc,(u:Int),0)):=by unfold fw;rw [if_neg (by simp;omega)];rfl
   rw [aG];simp only [e];simp [records]
  | succ n ih =>
   intro u acc hu ha hn
   have stop:fS (b.drop u)=none->fw b (u:Int) acc=some (.inr (acc,(u:Int),0))->iter (fun ss:Int × List (List UInt8)=>fw b ss.1 ss.2) ((u:Int),acc)=some (acc++(records (n+1) (b.drop u)).1,((u+(records (n+1) (b.drop u)).2:Nat):Int),0):=by intro h1 h2;rw [aG];simp only [h2];simp [records,h1]
   by_cases hlt:u<b.length
   ·have hr:b.drop u=b[u]::b.drop (u+1):=KC hlt
    generalize hc:b[u]=c at hr
    generalize ht:b.drop (u+1)=t at hr
    have hlen:t.length+1+u=b.length:=by rw [<- ht];simp;omega
    have hcl:=c.toNat_lt
    have w1:IntKind.i64.wrap ((c.toNat:Int)+1)=((c.toNat+1:Nat):Int):=by rw [bw (by omega) (by omega)];rfl
    have w2:IntKind.i64.wrap ((c.toNat:Int)+2)=((c.toNat+2:Nat):Int):=by rw [bw (by omega) (by omega)];rfl
    have w3:IntKind.i64.wrap ((c.toNat:Int)+3)=((c.toNat+3:Nat):Int):=by rw [bw (by omega) (by omega)];rfl
    have e1:sub b (u:Int) (b.length:Int)=some (c::t):=by rw [iQ hu,hr]
    have e2:idx (c::t) 0=some c:=by simp [idx]
    rw [hr] at stop ⊢
    by_cases hbad:c.toNat<1∨60<c.toNat∨t.length+1<c.toNat+3
    ·refine stop (by simp only [fS];rw [if_pos hbad]) ?_
     unfold fw
     rw [if_pos (by simp;omega),e1]
     simp only [Kr]
     rw [e2]
     simp only [Kr,eU,w1,w2,w3]
     rw [if_pos (by simp;omega)];rfl
    have e3:sub (c::t) 0 ((c.toNat+1:Nat):Int)=some (c::t.take c.toNat):=by rw [sub_0 (by simp;omega)];simp
    have e4:sub (c::t) 1 ((c.toNat+1:Nat):Int)=some (t.take c.toNat):=by have:=nF (xs:=c::t) (i:=1) (j:=c.toNat+1) (by omega) (by simp;omega);simpa using this
    have hs:=wl (c::t.take c.toNat) (by simp;omega)
    have hcs:=uH (c::t.take c.toNat)
    have hx:∃ x,t[c.toNat]?=some x:=⟨_,Ks (by omega)⟩
    have hy:∃ y,t[c.toNat+1]?=some y:=⟨_,Ks (by omega)⟩
    obtain ⟨x,hx⟩:=hx
    obtain ⟨y,hy⟩:=hy
    have ix:idx (c::t) ((c.toNat+1:Nat):Int)=some x:=bu (by simpa using hx)
    have iy:idx (c::t) ((c.toNat+2:Nat):Int)=some y:=bu (by simpa using hy)
    have hxl:=x.toNat_lt
    have hyl:=y.toNat_lt
    have h8:shl .i64 (x.toNat:Int) 8=some ((x.toNat*256:Nat):Int):=by have:=shl_n (x:=x.toNat) (k:=8) (by omega) (by omega);simpa using this
    have hor:x.toNat*256 ||| y.toNat=x.toNat*256+y.toNat:=by have:=Nat.two_pow_add_eq_or_of_lt (i:=8) (b:=y.toNat) hyl x.toNat;rw [LG x.toNat 256,show (256:Nat)=2 ^ 8 by decide,<- this]
    have hx':t.getD c.toNat 0=x:=by rw [Kw,hx];rfl
    have hy':t.getD (c.toNat+1) 0=y:=by rw [Kw,hy];rfl
    by_cases hsum:x.toNat*256+y.toNat=crc (c::t.take c.toNat)
    ·have hsome:fS (c::t)=some (t.take c.toNat):=by simp only [fS,hx',hy'];rw [if_neg hbad,if_neg (by omega)]
     have hp:(t.take c.toNat).length=c.toNat:=by simp;omega
     have e:fw b (u:Int) acc=some (.inl (((u+(c.toNat+3):Nat):Int),acc++[t.take c.toNat])):=by unfold fw;rw [if_pos (by simp;omega),e1];simp only [Kr];rw [e2];simp only [Kr,eU,w1,w2,w3];rw [if_neg (by simp;omega),e3];simp only [Kr];rw [hs];simp only [Kr];rw [ix];simp only [Kr,eU];rw [h8];simp only [Kr];rw [iy];simp only [Kr,eU];rw [zV _ _ (by omega) (by omega),hor,if_neg (by simp [hsum]),e4];simp only [Kr];rw [cx (by simp;omega)];simp only [Kr];rw [show (u:Int)+((c.toNat+3:Nat):Int)=((u+(c.toNat+3):Nat):Int) by omega,pZ (by omega)]
     rw [aG];simp only [e]
     have hdrop:(c::t).drop (c.toNat+3)=b.drop (u+(c.toNat+3)):=by rw [<- hr,L3]
     rw [ih (u+(c.toNat+3)) (acc++[t.take c.toNat]) (by omega) (by simp;omega) (by omega)]
     have hstep:records (n+1) (c::t)=(t.take c.toNat::(records n (b.drop (u+(c.toNat+3)))).1,c.toNat+3+(records n (b.drop (u+(c.toNat+3)))).2):=by simp only [records,hsome,hp,hdrop]
     rw [hstep]
     simp;omega
    ·refine stop (by simp only [fS,hx',hy'];rw [if_neg hbad,if_pos hsum]) ?_
     unfold fw
     rw [if_pos (by simp;omega),e1]
     simp only [Kr]
     rw [e2]
     simp only [Kr,eU,w1,w2,w3]
     rw [if_neg (by simp;omega),e3]
     simp only [Kr]
     rw [hs]
     simp only [Kr]
     rw [ix]
     simp only [Kr,eU]
     rw [h8]
     simp only [Kr]
     rw [iy]
     simp only [Kr,eU]
     rw [zV _ _ (by omega) (by omega),hor,if_pos (by simp;omega)];rfl
   ·have hnil:b.drop u=[]:=KU (by omega)
    refine stop (by rw [hnil];rfl) ?_
    unfold fw
    rw [if_neg (by simp;omega)];rfl
 have:=key b.length 0 [] (by omega) (by simp) (by omega);simpa using this
def bZ (l:List UInt8):List Int:=l.map fun b=>(b.toNat:Int)
theorem I5 (l:List UInt8):bR (bZ l)=l:=by
 unfold bR bZ;rw [LV];have:(fun n:Int=>UInt8.ofNat n.toNat) ∘ (fun b:UInt8=>(b.toNat:Int))=id:=by funext b;simp
 rw [this,List.map_id]
theorem Jm (l:List UInt8) (h:l≠[]):pe (bZ l)=some l:=by
 unfold pe bldS;rw [if_pos ⟨by cases l<;>simp_all [bZ],fun x hx=>by obtain ⟨b,_,rfl⟩:=KT.1 hx;have:=b.toNat_lt;omega⟩,I5]
theorem I4 (l m:List UInt8):bZ (l++m)=bZ l++bZ m:=by simp [bZ]
theorem IU (l:List UInt8):(bZ l).length=l.length:=by simp [bZ]
theorem xm (acc:List UInt8) (n:Nat) (h:acc.length+1<=1099511627776) (hn:n<256):l7 (n:Int) (bZ acc)=some ((),bZ (acc++[UInt8.ofNat n])):=by
 unfold l7 tf;rw [Kr,cx (by rw [IU];exact h),Kr];have:bZ [UInt8.ofNat n]=[(n:Int)]:=by simp [bZ,LM hn]
 rw [I4,this]
theorem HW:∀ x:Fin 256,ibits .or .u8 (x.val:Int) 128=((x.val % 128+128:Nat):Int):=by decide +kernel
theorem shr7 (u:Nat):shr .u64 (u:Int) 7=some ((u / 128:Nat):Int):=by unfold shr;rw [if_pos (by omega)];show some ((u:Int).fdiv 128)=_;rw [Lu _ (by omega)];rfl
theorem HV:∀ (f u:Nat) (acc:List UInt8),u<128 ^ (f+1)->acc.length+f+1<=1099511627776 ->
  iter (fun ck:Int × (List Int)=>je ck.1 ck.2) ((u:Int),bZ acc)=some (bZ (acc++vb f u)):=by
 have stop:∀ (u:Nat) (acc:List UInt8),u<128->acc.length+1<=1099511627776->je (u:Int) (bZ acc)=some (.inr (bZ (acc++[UInt8.ofNat u]))):=fun u acc hu ha=>by unfold je;rw [if_neg (by simp;omega),sk,LM (by omega),xm acc u ha (by omega)];rfl
 intro f
 induction f with
 | zero =>
  intro u acc hu ha
  rw [aG,stop u acc (by omega) (by omega)]
  rfl
 | succ f ih =>
  intro u acc hu ha
  by_cases h:u<128
  ·rw [aG,stop u acc h (by omega)]
   simp only [vb,if_pos h]
  ·have hb:ibits .or .u8 (IntKind.u8.wrap (u:Int)) 128=((u % 128+128:Nat):Int):=by
    rw [sk,HW ⟨u % 256,by omega⟩];simp only;omega
   have hq:u / 128<128 ^ (f+1):=by rw [MF] at hu;exact LS (by rw [LG];exact hu)
   have h1:je (u:Int) (bZ acc)=some (.inl (((u / 128:Nat):Int),bZ (acc++[UInt8.ofNat (u % 128+128)]))):=by unfold je;rw [if_pos (by simp;omega),hb,xm acc _ (by omega) (by omega),Kr,shr7];rfl
   rw [aG,h1]
   simp only
   rw [ih _ _ hq (by simp;omega)]
   simp only [vb,if_neg h,KM,Mg,K9]
theorem lx (n:Int):IntKind.u64.wrap n=n % 18446744073709551616:=by simp [IntKind.wrap,IntKind.signed,IntKind.bits]
theorem Hc (n:Int) (h:gI n):∃ a b,shl .u64 (IntKind.u64.wrap n) 1=some a/\shr .i64 n 63=some b/\ibits .xor .u64 a (IntKind.u64.wrap b)=(zz n:Int):=by
 unfold gI at h;refine ⟨(n % 18446744073709551616*2) % 18446744073709551616,n.fdiv 9223372036854775808,by unfold shl;rw [if_pos (by omega),lx,lx];rfl,by unfold shr;rw [if_pos (by omega)];rfl,?_⟩;have key:∀ (x:Nat) (hx:x<18446744073709551616) (y:Int),ibits .xor .u64 (x:Int) y=((BitVec.ofNat 64 x ^^^ BitVec.ofInt 64 y).toNat:Int):=fun x hx y=>by unfold ibits;simp only [IntKind.bits];rw [lx,BitVec.ofInt_natCast];have:(BitVec.ofNat 64 x ^^^ BitVec.ofInt 64 y).toNat<18446744073709551616:=(BitVec.ofNat 64 x ^^^ BitVec.ofInt 64 y).isLt;exact Int.emod_eq_of_lt (by omega) (Int.ofNat_lt.2 this)
 by_cases h0:0<=n
 ·have e1:n.fdiv 9223372036854775808=0:=by rw [Lu _ (by omega)];omega
  have e2:(n % 18446744073709551616*2) % 18446744073709551616=((2*n.toNat:Nat):Int):=by omega
  rw [e1,e2,lx,key _ (by omega)];have:BitVec.ofInt 64 (0 % 18446744073709551616)=0#64:=by decide
  rw [this,BitVec.xor_zero,BitVec.toNat_ofNat,LM (by omega)];unfold zz;rw [if_pos h0];omega
 ·have e1:n.fdiv 9223372036854775808 = -1:=by rw [Lu _ (by omega)];omega
  have e2:(n % 18446744073709551616*2) % 18446744073709551616=((2*(n+9223372036854775808).toNat:Nat):Int):=by omega
  rw [e1,e2,lx,key _ (by omega)];have:BitVec.ofInt 64 (-1 % 18446744073709551616)=BitVec.allOnes 64:=by decide
  rw [this,BitVec.xor_allOnes,BitVec.toNat_not,BitVec.toNat_ofNat,LM (by omega)];unfold zz;rw [if_neg h0];omega
theorem eE (n:Int) (h:gI n) (acc:List UInt8) (ha:acc.length+(num n).length<=1099511627776 - 20):da n (bZ acc)=some (bZ (acc++num n)):=by obtain ⟨a,b,h1,h2,h3⟩:=Hc n h;unfold da;rw [h1,Kr,h2,Kr,h3];exact HV 9 _ acc (Lv (zz_lt h) (by decide)) (by omega)
theorem y0 {α ρ:Type} (xs:List α) (hx:xs.length<=1099511627776) (e:α->List UInt8) {body:Int × List Int->Option ((Int × List Int) ⊕ ρ)} (fin:List UInt8->Option ρ) (B:Nat)
  (h1:∀ (k:Nat) x acc,xs[k]?=some x->acc.length+(e x).length<=B->idx xs (k:Int)=some x->decide ((k:Int)<(xs.length:Int))=true->IntKind.i64.wrap ((k:Int)+1)=((k+1:Nat):Int)->body ((k:Int),bZ acc)=some (.inl (((k+1:Nat):Int),bZ (acc++e x))))
  (h2:∀ acc,acc≠[]->acc.length<=B->decide ((xs.length:Int)<(xs.length:Int))=false->body ((xs.length:Int),bZ acc)=(fin acc).map .inr) :
  ∀ (n k:Nat) acc,acc≠[]->k+n=xs.length->acc.length+((xs.drop k).flatMap e).length<=B->iter body ((k:Int),bZ acc)=fin (acc++(xs.drop k).flatMap e)
 | 0,k,acc,hne,h,hB=>by
  have hk:k=xs.length:=by omega
  subst hk;rw [aG,h2 acc hne (by omega) (by simp),Lm];simp only [List.flatMap_nil,LZ];cases fin acc<;>rfl
 | n+1,k,acc,hne,h,hB=>by
  have hlt:k<xs.length:=by omega
  have hg:xs[k]?=some xs[k]:=Ks hlt;rw [KC hlt,Ls,Kv] at hB;rw [aG,h1 k xs[k] acc hg (by omega) (bu hg) (by simp;omega) (br (by omega)),KC hlt,Ls,<- KM];exact y0 xs hx e fin B h1 h2 n (k+1) _ (by simp [hne]) (by omega) (by rw [Kv];omega)
theorem nf {α ρ:Type} (xs:List α) (hx:xs.length<=1099511627776) (e:α->List UInt8) {body:Int × List Int->Option ((Int × List Int) ⊕ ρ)} (fin:List UInt8->Option ρ) (B:Nat) (acc:List UInt8)
  (h1:∀ (k:Nat) x acc,xs[k]?=some x->acc.length+(e x).length<=B->idx xs (k:Int)=some x->decide ((k:Int)<(xs.length:Int))=true->IntKind.i64.wrap ((k:Int)+1)=((k+1:Nat):Int)->body ((k:Int),bZ acc)=some (.inl (((k+1:Nat):Int),bZ (acc++e x))))
  (h2:∀ acc,acc≠[]->acc.length<=B->decide ((xs.length:Int)<(xs.length:Int))=false->body ((xs.length:Int),bZ acc)=(fin acc).map .inr)
  (hne:acc≠[]) (hB:acc.length+(xs.flatMap e).length<=B):iter body (0,bZ acc)=fin (acc++xs.flatMap e):=by
 have:=y0 xs hx e fin B h1 h2 xs.length 0 acc hne (by omega) (by simpa using hB)
 simpa using this
abbrev BB:Nat:=1099511627776 - 20
theorem lB {α:Type} {l:List α} (h:l.length<=1099511627776):gI (l.length:Int):=by unfold gI;omega
theorem nJ (a:List UInt8) (x:Int):a++num x≠[]:=fun h=>by have:=(dY x).2;have:=congrArg List.length h;rw [Kv,Mm] at this;omega
theorem yY (l:List Item) (hl:short dc l) (acc:List UInt8) (ha:acc.length+(lst bv l).length<=BB):kp l (bZ acc)=some (bZ (acc++lst bv l)):=by
 unfold lst at ha ⊢;rw [Kv] at ha;unfold kp;rw [eE _ (lB hl.1) acc (by unfold BB at ha;omega),Kr,<- KM];exact nf l hl.1 bv (fun a=>some (bZ a)) BB (acc++num (l.length:Int)) (fun k x acc hx hc hi hd hw=>by
  have hg:=hl.2 x (Ku hx);unfold bv BB at hc;simp only [Kv] at hc;unfold ow;rw [if_pos hd,hi,Kr,eE _ hg.1 acc (by omega),Kr,eE _ hg.2.1 _ (by simp only [Kv];omega),Kr,eE _ hg.2.2 _ (by simp only [Kv];omega),Kr,hw];simp [bv]) (fun acc _ _ hd=>by
  unfold ow;(rw [hd,if_neg (by simp)])<;>rfl) (nJ _ _) (by rw [Kv];omega)
theorem EB (n:Net) (items:List (List Item)) (s:State) (hs:hM s) (hB:(aZ s).length<=BB) :
  (Option.bind (da ((s.At).length:Int) ([]:List Int)) fun x4=>(iter (fun dJ:Int × (List Int)=>mF s dJ.1 dJ.2) (0,x4)))=some (aZ s,0):=by
 obtain ⟨h1,h2,h3,h4,h5⟩:=hs
 have hn0:=eE _ (lB h1.1) [] (by unfold aZ lst at hB;simp only [Kv] at hB;unfold BB at hB;simp only [Mm];omega)
 rw [show bZ []=([]:List Int) from rfl] at hn0
 rw [hn0,Kr,K9]
 generalize hb1:num (s.At.length:Int)=b1
 have e5:∀ a:List UInt8,a.length+(lst bv s.Out).length<=BB->a≠[]->(Option.bind (kp s.Out (bZ a)) fun x46=>(Option.bind (pe x46) fun x48=>(some (x48,(0:Int)))))=some (a++lst bv s.Out,0):=fun a ha hne=>by rw [yY _ h5 a ha,Kr,Jm _ (by simp [hne]),Kr]
 have e4:∀ a:List UInt8,a.length+(lst cg s.Choices).length+(lst bv s.Out).length<=BB->(Option.bind (da ((s.Choices).length:Int) (bZ a)) fun x37=>(iter (fun gJ:Int × (List Int)=>mM s gJ.1 gJ.2) (0,x37)))=some (a++(lst cg s.Choices++lst bv s.Out),0):=fun a ha=>by
  rw [show lst cg s.Choices=num (s.Choices.length:Int)++s.Choices.flatMap cg from rfl,Kv] at ha;rw [eE _ (lB h4.1) a (by unfold BB at ha;omega),Kr];rw [nf s.Choices h4.1 cg (fun b=>some (b++lst bv s.Out,(0:Int))) (BB - (lst bv s.Out).length) (a++num (s.Choices.length:Int)) (fun k x acc hx hc hi hd hw=>by
   have hg:=h4.2 x (Ku hx);unfold cg BB at hc;simp only [Kv] at hc;unfold mM;rw [if_pos hd,hi,Kr,eE _ hg.1 acc (by omega),Kr,eE _ hg.2 _ (by simp only [Kv];omega),Kr,hw];simp [cg]) (fun acc hne hac hd=>by
   unfold mM;rw [hd,if_neg (by simp),e5 acc (by omega) hne]) (nJ _ _) (by rw [Kv];omega)]
  simp [lst]
 have e3:∀ a:List UInt8,a.length+(lst cX s.Memory).length+((lst cg s.Choices).length+(lst bv s.Out).length)<=BB->(Option.bind (da ((s.Memory).length:Int) (bZ a)) fun x18=>(iter (fun dH:Int × (List Int)=>mG s dH.1 dH.2) (0,x18)))=some (a++(lst cX s.Memory++(lst cg s.Choices++lst bv s.Out)),0):=fun a ha=>by
  rw [show lst cX s.Memory=num (s.Memory.length:Int)++s.Memory.flatMap cX from rfl,Kv] at ha;rw [eE _ (lB h3.1) a (by unfold BB at ha;omega),Kr];rw [nf s.Memory h3.1 cX (fun b=>some (b++(lst cg s.Choices++lst bv s.Out),(0:Int))) (BB - ((lst cg s.Choices).length+(lst bv s.Out).length)) (a++num (s.Memory.length:Int)) (fun k x acc hx hc hi hd hw=>by
   obtain ⟨g1,g2,g3⟩:=h3.2 x (Ku hx);unfold cX lst BB at hc;simp only [Kv] at hc;unfold mG;rw [if_pos hd,hi,Kr,eE _ g1 acc (by omega),Kr,eE _ g2 _ (by simp only [Kv];omega),Kr,eE _ (lB g3.1) _ (by simp only [Kv];omega),Kr];rw [nf x.Keys g3.1 fg (fun b=>some (.inl (((k+1:Nat):Int),bZ b))) BB _ (fun k2 y acc hy hc hi hd hw=>by
    have hg:=g3.2 y (Ku hy);unfold fg BB at hc;simp only [Kv] at hc;unfold o6;rw [if_pos hd,hi,Kr,eE _ hg.1 acc (by omega),Kr,eE _ hg.2 _ (by simp only [Kv];omega),Kr,hw];simp [fg]) (fun acc _ _ hd=>by
    unfold o6;(rw [hd,if_neg (by simp),hw])<;>rfl) (nJ _ _) (by unfold BB;simp only [Kv];omega)]
   simp [cX,lst]) (fun acc hne hac hd=>by
   unfold mG;rw [hd,if_neg (by simp),e4 acc (by omega)]) (nJ _ _) (by rw [Kv];omega)]
  simp [lst]
 have e2:∀ a:List UInt8,a.length+(lst (lst bv) s.Rings).length+((lst cX s.Memory).length+((lst cg s.Choices).length+(lst bv s.Out).length))<=BB->(Option.bind (da ((s.Rings).length:Int) (bZ a)) fun x11=>(iter (fun fE:Int × (List Int)=>mD s fE.1 fE.2) (0,x11)))=some (a++(lst (lst bv) s.Rings++(lst cX s.Memory++(lst cg s.Choices++lst bv s.Out))),0):=fun a ha=>by
  rw [show lst (lst bv) s.Rings=num (s.Rings.length:Int)++s.Rings.flatMap (lst bv) from rfl,Kv] at ha;rw [eE _ (lB h2.1) a (by unfold BB at ha;omega),Kr];rw [nf s.Rings h2.1 (lst bv) (fun b=>some (b++(lst cX s.Memory++(lst cg s.Choices++lst bv s.Out)),(0:Int))) (BB - ((lst cX s.Memory).length+((lst cg s.Choices).length+(lst bv s.Out).length))) (a++num (s.Rings.length:Int)) (fun k x acc hx hc hi hd hw=>by
   have hg:=h2.2 x (Ku hx);unfold mD;rw [if_pos hd,hi,Kr,yY _ hg acc (by unfold BB at hc ⊢;omega),Kr,hw]) (fun acc hne hac hd=>by
   unfold mD;rw [hd,if_neg (by simp),e3 acc (by omega)]) (nJ _ _) (by rw [Kv];omega)]
  simp [lst]
 unfold aZ at hB
 rw [show lst num s.At=num (s.At.length:Int)++s.At.flatMap num from rfl,hb1] at hB
 simp only [Kv] at hB
 rw [nf s.At h1.1 num (fun b=>some (b++(lst (lst bv) s.Rings++(lst cX s.Memory++(lst cg s.Choices++lst bv s.Out))),(0:Int))) (BB - ((lst (lst bv) s.Rings).length+((lst cX s.Memory).length+((lst cg s.Choices).length+(lst bv s.Out).length)))) b1 (fun k x acc hx hc hi hd hw=>by
  have hg:=h1.2 x (Ku hx);unfold BB at hc;unfold mF;rw [if_pos hd,hi,Kr,eE _ hg acc (by omega),Kr,hw]) (fun acc hne hac hd=>by
  unfold mF;rw [hd,if_neg (by simp),e2 acc (by omega)]) (by rw [<- hb1];exact nJ [] _) (by omega)]
 rw [<- hb1]
 simp [aZ,lst]
theorem y5 (n:Net) (items:List (List Item)) (s:State) (hs:hM s) (hB:(aZ s).length<=BB) :
  iC n items s=Option.bind (gc n items s) fun x2=>(if (x2 != 0)=true then (some ([],x2)) else some (aZ s,0)):=by
 unfold iC
 rw [EB n items s hs hB]
noncomputable section
theorem zl:∀ x:Fin 256,ibits .and .u8 (x.val:Int) 127=((x.val % 128:Nat):Int):=by decide +kernel
theorem px (a:Nat) (ha:a<18446744073709551616):(BitVec.ofInt 64 (a:Int)).toNat=a:=by rw [BitVec.toNat_ofInt];omega
theorem u64_in (a:Nat) (ha:a<18446744073709551616):IntKind.u64.wrap (a:Int)=(a:Int):=by rw [lx];omega
theorem rE (a b:Nat) (ha:a<18446744073709551616) (hb:b<18446744073709551616):ibits .or .u64 (a:Int) (b:Int)=((a ||| b:Nat):Int):=by
 have hx:a ||| b<2 ^ 64:=Nat.or_lt_two_pow (by omega) (by omega)
 show IntKind.u64.wrap ((BitVec.ofInt 64 (a:Int) ||| BitVec.ofInt 64 (b:Int)).toNat:Int)=_;rw [BitVec.toNat_or,px a ha,px b hb,u64_in _ (by omega)]
theorem El (a:Nat) (ha:a<18446744073709551616):ibits .and .u64 (a:Int) 1=((a % 2:Nat):Int):=by have hx:a &&& 1<2 ^ 64:=Nat.lt_of_le_of_lt Nat.and_le_left (by omega);show IntKind.u64.wrap ((BitVec.ofInt 64 (a:Int) &&& BitVec.ofInt 64 ((1:Nat):Int)).toNat:Int)=_;rw [BitVec.toNat_and,px a ha,px 1 (by omega),u64_in _ (by omega),Nat.and_one_is_mod]
theorem AS (i s c:Nat) (h:s<2 ^ i):s ||| c*2 ^ i=s+c*2 ^ i:=by rw [Nat.or_comm,LG,<- Nat.two_pow_add_eq_or_of_lt h,Md]
def decZ (v:Int):Option Int:=Option.bind (shr .u64 v 1) fun x=>some (ibits .xor .i64 (IntKind.i64.wrap x) (IntKind.i64.wrap (0 - (IntKind.i64.wrap (ibits .and .u64 v 1)))))
theorem IT (c:Nat) (h:9223372036854775808<=c) (h2:c<18446744073709551616):IntKind.i64.wrap (c:Int)=(c:Int) - 18446744073709551616:=by simp [IntKind.wrap,IntKind.signed,IntKind.bits];omega
theorem H1 (n:Int) (h:gI n):decZ (zz n:Int)=some n:=by
 have hz:=zz_lt h;unfold decZ;have h1:shr .u64 (zz n:Int) 1=some ((zz n / 2:Nat):Int):=by unfold shr;rw [if_pos (by omega)];show some ((zz n:Int).fdiv 2)=_;rw [Lu _ (by omega)];rfl
 rw [h1,Kr,El _ hz,pZ (by omega),pZ (by omega)];unfold gI at h;by_cases h0:0<=n
 ·have e:zz n=2*n.toNat:=by unfold zz;rw [if_pos h0];omega
  rw [e,show 2*n.toNat / 2=n.toNat by omega,show 2*n.toNat % 2=0 by omega];rw [show IntKind.i64.wrap (0 - ((0:Nat):Int))=((0:Nat):Int) by decide,t5 _ _ (by omega) (by omega),Nat.xor_zero];congr 1;omega
 ·have e:zz n=2*(-n - 1).toNat+1:=by unfold zz;rw [if_neg h0];omega
  rw [e,show (2*(-n - 1).toNat+1) / 2=(-n - 1).toNat by omega,show (2*(-n - 1).toNat+1) % 2=1 by omega];rw [show IntKind.i64.wrap (0 - ((1:Nat):Int)) = -1 by decide];congr 1;show IntKind.i64.wrap ((BitVec.ofInt 64 (((-n - 1).toNat:Nat):Int) ^^^ BitVec.ofInt 64 (-1)).toNat:Int)=n;rw [show BitVec.ofInt 64 (-1)=BitVec.allOnes 64 by decide,BitVec.xor_allOnes,BitVec.toNat_not,px _ (by omega)];rw [IT _ (by omega) (by omega)];omega
theorem A6 (pre:List UInt8) (b:UInt8) (t:List UInt8):idx (pre++b::t) (pre.length:Int)=some b:=bu (by simp)
theorem GB:∀ (f u i s1:Nat) (pre r:List UInt8),pre.length=i->i+f=9->u<128 ^ (f+1)->s1<2 ^ (7*i)->s1+u*2 ^ (7*i)<18446744073709551616 ->
    iter (fun ak:Int × Int=>dV (pre++(vb f u++r)) ak.1 ak.2) ((s1:Int),(i:Int))=Option.bind (decZ ((s1+u*2 ^ (7*i):Nat):Int)) fun n=>some (.inl (n,r)):=by
  have hd:∀ (i:Nat) (pre t:List UInt8) (b:UInt8),pre.length=i->i<10->decide ((i:Int)<(if ((pre++b::t).length:Int)<10 then ((pre++b::t).length:Int) else 10))=true:=fun i pre t b hp hi=>by
    have hl:(pre++b::t).length=i+1+t.length:=by simp;omega
    rw [decide_eq_true_eq,hl]
    split<;>omega
  have hp2:∀ i:Nat,0<2 ^ (7*i):=fun i=>Nat.pow_pos (by omega)
  have hx6:∀ (i c s1 u:Nat),i<=9->c<128->c<=u->s1+u*2 ^ (7*i)<18446744073709551616->shl .u64 (IntKind.u64.wrap (c:Int)) (IntKind.i64.wrap (7*(i:Int)))=some ((c*2 ^ (7*i):Nat):Int):=fun i c s1 u hi hc hu h=>by
    have hle:c*2 ^ (7*i)<=u*2 ^ (7*i):=KL _ hu
    rw [u64_in _ (by omega),bw (by omega) (by omega)]
    unfold shl
    rw [if_pos (by omega)]
    have e1:min (7*(i:Int)).toNat IntKind.u64.bits=7*i:=by show min (7*(i:Int)).toNat 64=7*i;omega
    rw [e1]
    have e2:(c:Int)*2 ^ (7*i)=((c*2 ^ (7*i):Nat):Int):=by push_cast;rfl
    rw [e2,u64_in _ (by omega)]
  have stop:∀ (u i s1:Nat) (pre r:List UInt8),pre.length=i->i<=9->u<128->s1<2 ^ (7*i)->s1+u*2 ^ (7*i)<18446744073709551616 ->
      dV (pre++(UInt8.ofNat u::r)) (s1:Int) (i:Int)=Option.map Sum.inr (Option.bind (decZ ((s1+u*2 ^ (7*i):Nat):Int)) fun n=>some (.inl (n,r))):=fun u i s1 pre r hp hi hu hs hv=>by
    subst hp
    have hb:(UInt8.ofNat u).toNat=u:=by simp;omega
    unfold dV
    rw [if_pos (hd _ pre r _ rfl (by omega)),A6,Kr,hb,zl ⟨u,by omega⟩]
    simp only
    rw [LM hu,hx6 _ u s1 u hi hu (Kx _) hv,Kr,Kr,hb,if_pos (by simp;omega),br (by omega)]
    have hsub:sub (pre++(UInt8.ofNat u::r)) ((pre.length+1:Nat):Int) ((pre++(UInt8.ofNat u::r)).length:Int)=some r:=by
      rw [iQ (by simp)]
      congr 1
      rw [show pre++UInt8.ofNat u::r=(pre++[UInt8.ofNat u])++r by simp]
      exact List.drop_left' (by simp)
    have hle:s1<18446744073709551616:=by omega
    rw [hsub,Kr,rE _ _ hle (by omega),AS _ _ _ hs]
    unfold decZ
    cases shr .u64 ((s1+u*2 ^ (7*pre.length):Nat):Int) 1<;>rfl
  intro f
  induction f with
  | zero =>
    intro u i s1 pre r hp hi hu hs hv
    have e:pre++(vb 0 u++r)=pre++(UInt8.ofNat u::r):=rfl
    rw [e,aG]
    simp only [stop u i s1 pre r hp (by omega) (by omega) hs hv]
    cases (Option.bind (decZ ((s1+u*2 ^ (7*i):Nat):Int)) fun n=>(some (.inl (n,r)):Option ((Int × List UInt8) ⊕ Unit)))<;>rfl
  | succ f ih =>
    intro u i s1 pre r hp hi hu hs hv
    by_cases h:u<128
    · have e:pre++(vb (f+1) u++r)=pre++(UInt8.ofNat u::r):=by simp [vb,h]
      rw [e,aG]
      simp only [stop u i s1 pre r hp (by omega) h hs hv]
      cases (Option.bind (decZ ((s1+u*2 ^ (7*i):Nat):Int)) fun n=>(some (.inl (n,r)):Option ((Int × List UInt8) ⊕ Unit)))<;>rfl
    · have e:pre++(vb (f+1) u++r)=pre++(UInt8.ofNat (u % 128+128)::(vb f (u / 128)++r)):=by simp [vb,h]
      have hq:u / 128<128 ^ (f+1):=by
        rw [MF] at hu
        exact LS (by rw [LG];exact hu)
      have hb:(UInt8.ofNat (u % 128+128)).toNat=u % 128+128:=by simp;omega
      have hpow:2 ^ (7*(i+1))=128*2 ^ (7*i):=by rw [show 7*(i+1)=7+7*i by omega,Nat.pow_add]
      have hsum:s1+u % 128*2 ^ (7*i)+u / 128*2 ^ (7*(i+1))=s1+u*2 ^ (7*i):=by
        rw [hpow]
        have:u=u % 128+128*(u / 128):=by omega
        calc s1+u % 128*2 ^ (7*i)+u / 128*(128*2 ^ (7*i))=s1+(u % 128+128*(u / 128))*2 ^ (7*i):=by
              rw [KP,L0]
              congr 2
              rw [<- Nat.mul_assoc,LG (u / 128) 128]
          _=s1+u*2 ^ (7*i):=by rw [<- this]
      have hlt:s1+u % 128*2 ^ (7*i)<2 ^ (7*(i+1)):=by
        rw [hpow]
        have:u % 128*2 ^ (7*i)<=127*2 ^ (7*i):=KL _ (by omega)
        omega
      have hc:u % 128*2 ^ (7*i)<=u*2 ^ (7*i):=KL _ (Nat.mod_le _ _)
      have h1:dV (pre++(UInt8.ofNat (u % 128+128)::(vb f (u / 128)++r))) (s1:Int) (i:Int)=some (.inl (((s1+u % 128*2 ^ (7*i):Nat):Int),((i+1:Nat):Int))):=by
        subst hp
        unfold dV
        rw [if_pos (hd _ pre _ _ rfl (by omega)),A6,Kr,hb,zl ⟨u % 128+128,by omega⟩]
        simp only
        rw [show (u % 128+128) % 128=u % 128 by omega,hx6 _ (u % 128) s1 u (by omega) (by omega) (Nat.mod_le _ _) hv,Kr,Kr,hb,if_neg (by simp;omega),br (by omega),rE _ _ (by omega) (by omega),AS _ _ _ hs]
      rw [e,aG]
      simp only [h1]
      have:=ih (u / 128) (i+1) (s1+u % 128*2 ^ (7*i)) (pre++[UInt8.ofNat (u % 128+128)]) r (by simp [hp]) (by omega) hq hlt (by rw [hsum];exact hv)
      rw [hsum] at this
      rw [<- this]
      simp
theorem bH {A B:Type} (y:A) (p:Option B) (k:A->Option B):bN (some (.inl y)) p k=k y:=rfl
theorem gj (n:Int) (h:gI n) (r:List UInt8):de (num n++r)=some (.inl (n,r)):=by have:=GB 9 (zz n) 0 0 [] r rfl (by omega) (Lv (zz_lt h) (by decide)) (by decide) (by have:=zz_lt h;omega);unfold de;simp only [K9,K3,Nat.mul_zero,Nat.pow_zero,Nat.mul_one,Ln] at this;unfold num;rw [this,H1 n h];rfl
theorem xC {α:Type} (e:α->List UInt8) (rd:List UInt8->Option ((α × List UInt8) ⊕ Unit)) (ok:α->Prop) (hrd:∀ x r,ok x->rd (e x++r)=some (.inl (x,r))) (N:Nat) {body:Int × List UInt8 × List α->Option ((Int × List UInt8 × List α) ⊕ ((List α × List UInt8) ⊕ Unit))}
  (h1:∀ (k:Nat) b acc,k<N->acc.length+1<=1099511627776->IntKind.i64.wrap ((k:Int)+1)=((k+1:Nat):Int)->decide ((k:Int)<(N:Int))=true->body ((k:Int),b,acc)=bN (rd b) (Option.map Sum.inr (some (.inr ()))) fun x=>Option.bind (app acc [x.1]) fun y=>some (.inl (((k+1:Nat):Int),x.2,y)))
  (h2:∀ b acc,decide ((N:Int)<(N:Int))=false->body ((N:Int),b,acc)=some (.inr (.inl (acc,b)))) :
  ∀ (xs:List α) (k:Nat) (acc:List α) (r:List UInt8),k+xs.length=N->acc.length=k->N<=1099511627776->(∀ x,x∈xs->ok x)->iter body ((k:Int),xs.flatMap e++r,acc)=some (.inl (acc++xs,r))
 | [],k,acc,r,hk,ha,hN,ho=>by
  have:k=N:=by simpa using hk
  subst this;rw [aG];simp only [List.flatMap_nil,K9,LZ];rw [h2 r acc (by simp)]
 | x::xs,k,acc,r,hk,ha,hN,ho=>by
  have hk':k+(xs.length+1)=N:=by simpa using hk
  rw [aG,h1 k _ acc (by omega) (by omega) (br (by omega)) (by simp;omega),Ls,KM,hrd x _ (ho x (.head _)),bH,cx (by simp;omega),Kr];simp only;rw [xC e rd ok hrd N h1 h2 xs (k+1) (acc++[x]) r (by omega) (by simp [ha]) hN (fun y hy=>ho y (.tail _ hy))];simp
theorem yS {α:Type} {e:α->List UInt8} (he:∀ x,1<=(e x).length):∀ l:List α,l.length<=(l.flatMap e).length
 | []=>by simp
 | x::l=>by have:=he x;have:=yS he l;simp only [Ls,Kv,KH];omega
theorem ni {α:Type} (e:α->List UInt8) (rd:List UInt8->Option ((α × List UInt8) ⊕ Unit)) (ok:α->Prop) (hrd:∀ x r,ok x->rd (e x++r)=some (.inl (x,r))) (he:∀ x,1<=(e x).length) (l:List α) (hl:short ok l) (r:List UInt8)
  {L:List UInt8->Option ((List α × List UInt8) ⊕ Unit)} {body:(Int × List UInt8)->Int × List UInt8 × List α->Option ((Int × List UInt8 × List α) ⊕ ((List α × List UInt8) ⊕ Unit))}
  (hL:∀ b,L b=bN (de b) (some (.inr ())) fun x2=>(if ((decide (x2.1<0)) || decide (x2.1 > ((x2.2).length:Int)))=true then (some (.inr ())) else iter (body x2) (0,x2.2,[])))
  (h1:∀ (x2:Int × List UInt8) (k:Nat) b acc,decide ((k:Int)<x2.1)=true->IntKind.i64.wrap ((k:Int)+1)=((k+1:Nat):Int)->body x2 ((k:Int),b,acc)=bN (rd b) (Option.map Sum.inr (some (.inr ()))) fun x=>Option.bind (app acc [x.1]) fun y=>some (.inl (((k+1:Nat):Int),x.2,y)))
  (h2:∀ (x2:Int × List UInt8) (k:Int) b acc,decide (k<x2.1)=false->body x2 (k,b,acc)=some (.inr (.inl (acc,b)))):L (lst e l++r)=some (.inl (l,r)):=by
 rw [hL]
 unfold lst
 rw [KM,gj _ (lB hl.1),bH]
 have:=yS he l
 rw [if_neg (by rw [LY,decide_eq_true_eq,decide_eq_true_eq];simp only [Kv];omega)]
 have:=xC e rd ok hrd l.length (body:=body ((l.length:Int),l.flatMap e++r)) (fun k b acc _ _ hw hd=>h1 _ k b acc hd hw) (fun b acc hd=>h2 _ _ b acc hd) l 0 [] r (by omega) rfl hl.1 hl.2
 simpa using this
theorem E8 (l:List Int) (hl:short gI l) (r:List UInt8):mj (lst num l++r)=some (.inl (l,r)) :=
 ni num _ gI (fun x r h=>gj x h r) (fun x=>(dY x).2) l hl r (L:=mj) (body:=fun x2 ak=>iz x2 ak.1 ak.2.1 ak.2.2) (fun b=>rfl)
  (fun x2 k b acc hd hw=>by simp only;unfold iz;rw [if_pos hd,hw]) (fun x2 k b acc hd=>by simp only;unfold iz;rw [hd];rfl)
theorem FP (x:Item):1<=(bv x).length:=by have:=(dY x.Key).2;simp only [bv,Kv];omega
theorem D5 (x:Keyed):1<=(fg x).length:=by have:=(dY x.Key).2;simp only [fg,Kv];omega
theorem DP (x:Choice):1<=(cg x).length:=by have:=(dY x.Node).2;simp only [cg,Kv];omega
theorem Gb (x:Memory):1<=(cX x).length:=by have:=(dY x.Sum).2;simp only [cX,Kv];omega
theorem H7 {α:Type} (e:α->List UInt8) (l:List α):1<=(lst e l).length:=by have:=(dY (l.length:Int)).2;simp only [lst,Kv];omega
theorem E5 (x:Item) (r:List UInt8) (h:dc x):kr (bv x++r)=some (.inl (x,r)):=by unfold kr bv;simp only [KM];rw [gj _ h.1,bH,gj _ h.2.1,bH,gj _ h.2.2,bH]
theorem xp (l:List Item) (r:List UInt8) (hl:short dc l):jg (lst bv l++r)=some (.inl (l,r)):=by
 unfold jg;rw [ni bv _ dc E5 FP l hl r (L:=oz) (body:=fun x2 ak=>iv x2 ak.1 ak.2.1 ak.2.2) (fun b=>rfl)
  (fun x2 k b acc hd hw=>by simp only;unfold iv;rw [if_pos hd,hw]) (fun x2 k b acc hd=>by simp only;unfold iv;rw [hd];rfl),bH]
theorem Ep (l:List (List Item)) (hl:short (short dc) l) (r:List UInt8):mh (lst (lst bv) l++r)=some (.inl (l,r)) :=
 ni (lst bv) _ (short dc) xp (H7 _) l hl r (L:=mh) (body:=fun x2 ak=>iw x2 ak.1 ak.2.1 ak.2.2) (fun b=>rfl)
  (fun x2 k b acc hd hw=>by simp only;unfold iw;rw [if_pos hd,hw]) (fun x2 k b acc hd=>by simp only;unfold iw;rw [hd];rfl)
theorem Ea (x:Keyed) (r:List UInt8) (h:j5 x):kx (fg x++r)=some (.inl (x,r)):=by unfold kx fg;simp only [KM];rw [gj _ h.1,bH,gj _ h.2,bH]
theorem Fo (l:List Keyed) (hl:short j5 l) (r:List UInt8):mf (lst fg l++r)=some (.inl (l,r)) :=
 ni fg _ j5 Ea D5 l hl r (L:=mf) (body:=fun x2 ak=>iu x2 ak.1 ak.2.1 ak.2.2) (fun b=>rfl)
  (fun x2 k b acc hd hw=>by simp only;unfold iu;rw [if_pos hd,hw]) (fun x2 k b acc hd=>by simp only;unfold iu;rw [hd];rfl)
theorem Gw (x:Memory) (r:List UInt8) (h:sMem x):kE (cX x++r)=some (.inl (x,r)):=by unfold kE cX;simp only [KM];rw [gj _ h.1,bH,gj _ h.2.1,bH,Fo _ h.2.2,bH]
theorem FH (l:List Memory) (hl:short sMem l) (r:List UInt8):me (lst cX l++r)=some (.inl (l,r)) :=
 ni cX _ sMem Gw Gb l hl r (L:=me) (body:=fun x2 ak=>ir x2 ak.1 ak.2.1 ak.2.2) (fun b=>rfl)
  (fun x2 k b acc hd hw=>by simp only;unfold ir;rw [if_pos hd,hw]) (fun x2 k b acc hd=>by simp only;unfold ir;rw [hd];rfl)
theorem DR (x:Choice) (r:List UInt8) (h:jV x):kD (cg x++r)=some (.inl (x,r)):=by unfold kD cg;simp only [KM];rw [gj _ h.1,bH,gj _ h.2,bH]
theorem DH (l:List Choice) (hl:short jV l) (r:List UInt8):mc (lst cg l++r)=some (.inl (l,r)) :=
 ni cg _ jV DR DP l hl r (L:=mc) (body:=fun x2 ak=>iq x2 ak.1 ak.2.1 ak.2.2) (fun b=>rfl)
  (fun x2 k b acc hd hw=>by simp only;unfold iq;rw [if_pos hd,hw]) (fun x2 k b acc hd=>by simp only;unfold iq;rw [hd];rfl)
theorem Of_eq (n:Net) (items:List (List Item)) (s:State) (hs:hM s) (hB:(aZ s).length<=BB) (h0:jM n items=some 0) (h1:gc n items s=some 0):fM n items (aZ s)=some (s,0):=by have hw:=y5 n items s hs hB;obtain ⟨g1,g2,g3,g4,g5⟩:=hs;have e5:=xp s.Out [] g5;rw [LZ] at e5;unfold fM;rw [h0,Kr,if_neg (by decide)];rw [show aZ s=lst num s.At++(lst (lst bv) s.Rings++(lst cX s.Memory++(lst cg s.Choices++lst bv s.Out))) from rfl,E8 _ g1,bH,Ep _ g2,bH,FH _ g3,bH,DH _ g4,bH,e5,bH];simp only;rw [hw,h1,Kr,if_neg (by decide),Kr,if_neg (by simp [aZ])]
end
def okS (s:List UInt8):Prop:=s.length<=64
def okW (w:Write):Prop:=0<=w.At/\w.At<200/\w.Bytes.length<=64
def bD (d:Disk):Prop:=d.Sectors.length<=200/\d.Wait.length<=300/\(∀ s,s∈d.Sectors->okS s)/\∀ w,w∈d.Wait->okW w
theorem we {α:Type} {l:List α} {k:Nat} {x y:α} (hx:l[k]?=some x) (h:y∈l.take (k+1)):y∈l.take k∨y=x:=by rw [List.take_add_one,hx] at h;simpa using h
theorem ze (d:Disk):∃ e,fd d=some e/\(e=0 ↔ bD d):=by
 unfold fd;by_cases h0:d.Sectors.length > 200∨d.Wait.length > 300
 ·rw [if_pos (by simp;omega)];exact ⟨2,rfl,by simp [bD];omega⟩
 rw [if_neg (by simp;omega)];refine rK (body:=fun fE:Int=>iB d fE) (fun s=>∃ k:Nat,s=(k:Int)/\k<=d.Sectors.length/\∀ x,x∈d.Sectors.take k->okS x) (fun s=>d.Sectors.length - s.toNat) (fun e=>e=0 ↔ bD d) ?_ d.Sectors.length 0 (by simp) ⟨0,rfl,by omega,by simp⟩;rintro _ ⟨k,rfl,hk,hP⟩;by_cases hlt:k<d.Sectors.length
 ·obtain ⟨x,hx⟩:∃ x,d.Sectors[k]?=some x:=⟨_,Ks hlt⟩
  show (∃ s',iB d (k:Int)=_/\_)∨∃ r,iB d (k:Int)=_/\_;unfold iB;rw [if_pos (by simp;omega),bu hx,br (by omega)];simp only [Kr];by_cases hs:x.length > 64
  ·rw [if_pos (by simp;omega)];refine .inr ⟨2,rfl,by simp;intro h;have:=h.2.2.1 x (Ku hx);unfold okS at this;omega⟩
  ·rw [if_neg (by simp;omega)];refine .inl ⟨_,rfl,⟨k+1,rfl,by omega,fun y hy=>?_⟩,by simp;omega⟩;rcases we hx hy with h | rfl
   ·exact hP y h
   ·unfold okS;omega
 ·have hk':k=d.Sectors.length:=by omega
  subst hk';rw [Lx] at hP;refine .inr ?_;show ∃ r,iB d (d.Sectors.length:Int)=_/\_;unfold iB;rw [if_neg (by simp)];obtain ⟨r,h1,h2⟩:=rK (body:=fun ss:Int=>jv d ss) (fun s=>∃ k:Nat,s=(k:Int)/\k<=d.Wait.length/\∀ x,x∈d.Wait.take k->okW x) (fun s=>d.Wait.length - s.toNat) (fun e=>e=0 ↔ bD d) (by
   rintro _ ⟨k,rfl,hk,hQ⟩;show (∃ s',jv d (k:Int)=_/\_)∨∃ r,jv d (k:Int)=_/\_;by_cases hlt:k<d.Wait.length
   ·obtain ⟨x,hx⟩:∃ x,d.Wait[k]?=some x:=⟨_,Ks hlt⟩
    have hm:=Ku hx;unfold jv;rw [if_pos (by simp;omega),bu hx,br (by omega)];simp only [Kr];by_cases hs:x.At<0∨x.At >= 200
    ·rw [if_pos (by simp;omega)];refine .inr ⟨3,rfl,by simp;intro h;have:=h.2.2.2 x hm;unfold okW at this;omega⟩
    rw [if_neg (by simp;omega)];by_cases hb:x.Bytes.length > 64
    ·rw [if_pos (by simp;omega)];refine .inr ⟨2,rfl,by simp;intro h;have:=h.2.2.2 x hm;unfold okW at this;omega⟩
    rw [if_neg (by simp;omega)];refine .inl ⟨_,rfl,⟨k+1,rfl,by omega,fun y hy=>?_⟩,by simp;omega⟩;rcases we hx hy with h | rfl
    ·exact hQ y h
    ·unfold okW;omega
   ·have hk':k=d.Wait.length:=by omega
    subst hk';rw [Lx] at hQ;refine .inr ?_;unfold jv;rw [if_neg (by simp)];exact ⟨0,rfl,by simp;exact ⟨by omega,by omega,hP,hQ⟩⟩) d.Wait.length 0 (by simp) ⟨0,rfl,by omega,by simp⟩
  rw [h1];exact ⟨r,rfl,h2⟩
theorem iK {d:Disk} (h:bD d):fd d=some 0:=by obtain ⟨e,h1,h2⟩:=ze d;rw [h1,h2.2 h]
def put1 (l:List (List UInt8)) (w:Write):List (List UInt8):=(l++List.replicate (w.At.toNat+1 - l.length) []).set w.At.toNat w.Bytes
def aW (l:List (List UInt8)) (ws:List Write):List (List UInt8):=ws.foldl put1 l
theorem GX (l:List (List UInt8)) (w:Write) (hw:okW w) (hl:l.length<=200):(put1 l w).length<=200:=by unfold okW at hw;simp [put1];omega
theorem Gu (l:List (List UInt8)) (w:Write) (hw:okW w) (hl:∀ s,s∈l->okS s):∀ s,s∈put1 l w->okS s:=by
 intro s hs;unfold put1 at hs;rcases K6 hs with h | h
 ·rcases KJ.1 h with h | h
  ·exact hl s h
  ·rw [(LN.1 h).2];simp [okS]
 ·rw [h];exact hw.2.2
theorem As:∀ (ws:List Write) (l:List (List UInt8)),(∀ w,w∈ws->okW w)->l.length<=200->(∀ s,s∈l->okS s)->(aW l ws).length<=200/\∀ s,s∈aW l ws->okS s
 | [],l,_,h1,h2=>⟨h1,h2⟩
 | w::ws,l,hw,h1,h2=>As ws (put1 l w) (fun x hx=>hw x (by simp [hx])) (GX l w (hw w (by simp)) h1) (Gu l w (hw w (by simp)) h2)
def gt (l:List (List UInt8)) (i:Nat):List UInt8:=l.getD i []
theorem Ii (l:List (List UInt8)) (w:Write) (hw:okW w) (i:Nat):gt (put1 l w) i=if w.At=(i:Int) then w.Bytes else gt l i:=by
 unfold okW at hw;unfold gt put1;simp only [Kw,KF];by_cases h:w.At=(i:Int)
 ·rw [if_pos h,if_pos (by omega),if_pos (by simp;omega)];rfl
 ·rw [if_neg h,if_neg (by omega)];by_cases hi:i<l.length
  ·rw [Kz hi]
  ·rw [KY (by omega),KZ (l:=l) (by omega),LD];split<;>rfl
def seen (s:List UInt8) (ws:List Write) (i:Int):List UInt8:=ws.foldl (fun s w=>if w.At=i then w.Bytes else s) s
theorem nz:∀ (ws:List Write) (l:List (List UInt8)) (i:Nat),(∀ w,w∈ws->okW w)->gt (aW l ws) i=seen (gt l i) ws i
 | [],l,i,_=>rfl
 | w::ws,l,i,h=>by show gt (aW (put1 l w) ws) i=seen (if w.At=(i:Int) then w.Bytes else gt l i) ws i;rw [nz ws _ i (fun x hx=>h x (by simp [hx])),Ii l w (h w (by simp))]
theorem A8 (s1:Int) (w:Write) (hw:okW w) {body:List (List UInt8)->Option (List (List UInt8) ⊕ ((Int × List (List UInt8)) ⊕ List (List UInt8)))}
  (hb:∀ l,body l=(if (decide (((l).length:Int)<=w.At))=true then (Option.bind (app l [[]]) fun x6=>(some (.inl x6))) else (Option.map Sum.inr (Option.bind (ixN l w.At) fun x7=>(Option.bind ((l)[x7]?) fun x8=>(some (.inl (IntKind.i64.wrap (s1+1),(List.set l x7 w.Bytes))))))))) :
  ∀ (n:Nat) (l:List (List UInt8)),w.At.toNat+1 - l.length=n->iter body l=some (.inl (IntKind.i64.wrap (s1+1),put1 l w))
 | 0,l,hn=>by
  have hw':=hw;unfold okW at hw';have hi:ixN l w.At=some w.At.toNat:=by have:=eV (xs:=l) (k:=w.At.toNat) (by omega);rwa [Le hw'.1] at this
  obtain ⟨x,hx⟩:∃ x,l[w.At.toNat]?=some x:=⟨_,Ks (by omega)⟩
  have e:body l=some (.inr (.inl (IntKind.i64.wrap (s1+1),put1 l w))):=by rw [hb,if_neg (by simp;omega),hi];simp only [Kr,hx];unfold put1;rw [hn];simp
  rw [aG];simp only [e]
 | n+1,l,hn=>by
  have hw':=hw;unfold okW at hw';have e:body l=some (.inl (l++[[]])):=by rw [hb,if_pos (by simp;omega),cx (by simp;omega)];rfl
  rw [aG];simp only [e];rw [A8 s1 w hw hb n (l++[[]]) (by simp;omega)];have:put1 (l++[[]]) w=put1 l w:=by
   unfold put1;have e1:w.At.toNat+1 - l.length=(w.At.toNat+1 - (l++[[]]).length)+1:=by simp;omega
   rw [e1,L6,KM];rfl
  rw [this]
theorem yb:∀ (ws:List Write) (k:Nat) (l:List (List UInt8)),dG (σ:=List (List UInt8)) (fun _ w l=>some (.inl (put1 l w))) (fun l=>some l) k ws l=some (aW l ws)
 | [],k,l=>rfl
 | w::ws,k,l=>by unfold dG;exact yb ws (k+1) (put1 l w)
theorem IQ (ws:List Write) (l:List (List UInt8)) (hl:ws.length<=1099511627776) (hw:∀ w,w∈ws->okW w):oY ws l=some (aW l ws):=by
 unfold oY;have:=mW (σ:=List (List UInt8)) ws hl (fun k st=>((k:Int),st)) (body:=fun d8:Int × (List (List UInt8))=>jm ws d8.1 d8.2)
  (fun k w l=>some (.inl (put1 l w))) (fun l=>some l) l
  (fun k w l hx _ h1 h2 h3=>by show jm ws (k:Int) l=_;unfold jm;rw [h2,h1];simp only [if_true,Kr];rw [A8 (body:=fun kg=>qV (k:Int) w kg) (k:Int) w (hw w (Ku hx)) (fun l=>rfl) _ l rfl,h3])
  (fun st h=>by show jm ws (ws.length:Int) st=_;unfold jm;rw [h];rfl)
 refine Eq.trans this ?_;exact yb ws 0 l
theorem tQ (l:List (List UInt8)) (h:l.length<=1099511627776):kw l=some l:=by unfold kw;rw [cx (by simpa using h)];rfl
theorem xL (l:List Write) (h:l.length<=1099511627776):ml l=some l:=by unfold ml;rw [cx (by simpa using h)];rfl
theorem AU {d:Disk} (h:bD d) (n:Nat) (hn:n<=d.Wait.length):iM d (n:Int)=some (⟨aW d.Sectors (d.Wait.take n),[]⟩,0):=by have hh:=h;unfold bD at hh;unfold iM;rw [iK h];simp only [Kr];rw [if_neg (by simp),if_neg (by simp;omega),tQ _ (by omega)];simp only [Kr];rw [sub_0 hn];simp only [Kr];rw [IQ _ _ (by simp;omega) (fun w hw=>h.2.2.2 w (KG hw))];rfl
theorem FSx {d:Disk} (h:bD d):m9 d=some (⟨aW d.Sectors d.Wait,[]⟩,0):=by unfold m9;rw [AU h d.Wait.length (by omega)];simp
theorem yB {d:Disk} (h:bD d) (i:Int) (b:List UInt8) (h0:0<=i) (h1:i<200) (h2:b.length<=64) (h3:d.Wait.length<300):gV d i b=some (⟨d.Sectors,d.Wait++[⟨i,b⟩]⟩,0):=by have hh:=h;unfold bD at hh;unfold gV;rw [iK h];simp only [Kr];rw [if_neg (by simp),if_neg (by simp;omega),if_neg (by simp;omega),if_neg (by simp;omega),tQ _ (by omega)];simp only [Kr];rw [xL _ (by omega)];simp only [Kr];rw [cx (by simp;omega)];rfl
def okP (p:List UInt8):Prop:=p≠[]/\p.length<=60
theorem nA (p:List UInt8):(frm p).length=p.length+3:=by simp [frm]
theorem xZ (p r:List UInt8) (h:okP p):fS (frm p++r)=some p:=by
 obtain ⟨h1,h2⟩:=h;have hl:1<=p.length:=by cases p;exact absurd rfl h1;simp
 have hn:(UInt8.ofNat p.length).toNat=p.length:=by simp;omega
 have hc:=uH (UInt8.ofNat p.length::p);generalize hC:crc (UInt8.ofNat p.length::p)=C at hc;have e:frm p++r=UInt8.ofNat p.length::(p++(UInt8.ofNat (C / 256)::UInt8.ofNat C::r)):=by simp [frm,hC]
 rw [e];simp only [fS,hn];rw [if_neg (by rw [Kv];simp only [KH];omega)];have g1:(p++(UInt8.ofNat (C / 256)::UInt8.ofNat C::r)).getD p.length 0=UInt8.ofNat (C / 256):=by simp [Kw]
 have g2:(p++(UInt8.ofNat (C / 256)::UInt8.ofNat C::r)).getD (p.length+1) 0=UInt8.ofNat C:=by rw [Kw,KY (by omega)];simp
 have g3:(p++(UInt8.ofNat (C / 256)::UInt8.ofNat C::r)).take p.length=p:=by simp
 rw [g1,g2,g3,hC];rw [if_neg (by simp;omega)]
def pay (epoch n:Nat) (b:List UInt8) (k:Nat):List UInt8:=[UInt8.ofNat epoch,UInt8.ofNat k,UInt8.ofNat n]++(if 0<k then (b.take (50*k)).drop (50*(k - 1)) else [])
def wOf (slot epoch n:Nat) (b:List UInt8) (k:Nat):Write:=⟨((60*slot+k:Nat):Int),frm (pay epoch n b k)⟩
def wsP (slot epoch n:Nat) (b:List UInt8):Nat->List Write
 | 0=>[wOf slot epoch n b 0]
 | k+1=>wOf slot epoch n b (k+1)::wsP slot epoch n b k
theorem Ag (slot epoch n:Nat) (b:List UInt8):∀ k,(wsP slot epoch n b k).length=k+1
 | 0=>rfl
 | k+1=>by simp [wsP,Ag slot epoch n b k]
theorem rU (epoch n:Nat) (b:List UInt8) (k:Nat):3<=(pay epoch n b k).length/\(pay epoch n b k).length<=53:=by
 unfold pay;split
 ·simp;omega
 ·simp
theorem AY (epoch n:Nat) (b:List UInt8) (k:Nat):okP (pay epoch n b k):=by have:=rU epoch n b k;refine ⟨fun h=>?_,by omega⟩;rw [h] at this;simp at this
theorem En {d:Disk} (h:bD d) (i:Int) (b:List UInt8) (h0:0<=i) (h1:i<200) (h2:b.length<=64) (h3:¬ d.Wait.length<300):gV d i b=some (⟨[],[]⟩,8):=by have hh:=h;unfold bD at hh;unfold gV;rw [iK h];simp only [Kr];rw [if_neg (by simp),if_neg (by simp;omega),if_neg (by simp;omega),if_pos (by simp;omega)]
theorem Bq (slot epoch n:Nat) (b:List UInt8) (k:Nat) (hs:slot<=1) (hk:k<60):okW (wOf slot epoch n b k):=by have h1:=rU epoch n b k;have h2:=nA (pay epoch n b k);unfold okW wOf;refine ⟨by simp only;omega,by simp only;omega,by simp only;omega⟩
theorem zy {S:List (List UInt8)} {ws:List Write} {w:Write} (h:bD ⟨S,ws⟩) (hw:okW w) (hl:ws.length<300):bD ⟨S,ws++[w]⟩:=by
 obtain ⟨h1,h2,h3,h4⟩:=h;refine ⟨h1,by simp only [Kv,LP];omega,h3,fun x hx=>?_⟩;rcases KJ.1 hx with hx | hx
 ·exact h4 x hx
 ·rw [LB] at hx;subst hx;exact hw
theorem k1_eq (slot epoch n:Nat) (b:List UInt8) (hs:slot<=1) (S:List (List UInt8)) (k:Nat) (ws:List Write) (hk:k<60) (h:bD ⟨S,ws⟩):kO (slot:Int) (k:Int) S ws (pay epoch n b k)=some (if ws.length<300 then .inl ((k:Int) - 1,S,ws++[wOf slot epoch n b k]) else .inr (⟨[],[]⟩,8)):=by
 have hp:=AY epoch n b k;have hl:=rU epoch n b k;have hf:=nA (pay epoch n b k);unfold kO;rw [rc,Kr];have e1:putFr (pay epoch n b k)=(frm (pay epoch n b k),0):=by unfold putFr;rw [if_neg hp.1,if_neg (by have:=hp.2;omega)]
 have e2:IntKind.i64.wrap ((IntKind.i64.wrap ((slot:Int)*60))+(k:Int))=((60*slot+k:Nat):Int):=by have e0:IntKind.i64.wrap ((slot:Int)*60)=(slot:Int)*60:=bw (by omega) (by omega);rw [e0,bw (by omega) (by omega)];omega
 rw [e1,e2];simp only;by_cases h3:ws.length<300
 ·rw [yB h _ _ (by omega) (by omega) (by omega) h3,Kr,if_neg (by simp),if_pos h3,bw (by omega) (by omega)];rfl
 ·rw [En h _ _ (by omega) (by omega) (by omega) h3,Kr,if_pos (by decide),if_neg h3];rfl
theorem l2_eq (slot epoch n:Nat) (b:List UInt8) (hs:slot<=1) (hb:b.length<=1099511627776) (S:List (List UInt8)) (k:Nat) (ws:List Write) (hk:k<60) (h:bD ⟨S,ws⟩) (hkb:50*(k - 1)<=b.length) :
  kV (slot:Int) (epoch:Int) b (n:Int) (k:Int) S ws=some (if ws.length<300 then .inl ((k:Int) - 1,S,ws++[wOf slot epoch n b k]) else .inr (⟨[],[]⟩,8)):=by
 have hstr:bR [IntKind.u8.wrap (epoch:Int),IntKind.u8.wrap (k:Int),IntKind.u8.wrap (n:Int)]=[UInt8.ofNat epoch,UInt8.ofNat k,UInt8.ofNat n]:=by
  have h1:=str_1 epoch;have h2:=str_2 k n;unfold bR at h1 h2 ⊢;simp only [Ll,My] at h1 h2 ⊢;injection h1 with h1
  rw [h1,h2]
 unfold kV
 rw [if_pos (by simp),hstr]
 by_cases h0:0<k
 ·rw [if_pos (by simp;omega)]
  have e1:IntKind.i64.wrap ((IntKind.i64.wrap ((k:Int) - 1))*50)=((50*(k - 1):Nat):Int):=by have e0:IntKind.i64.wrap ((k:Int) - 1)=(k:Int) - 1:=bw (by omega) (by omega);rw [e0,bw (by omega) (by omega)];omega
  have e2:IntKind.i64.wrap ((k:Int)*50)=((50*k:Nat):Int):=by rw [bw (by omega) (by omega)];omega
  have e3:(if (b.length:Int)<((50*k:Nat):Int) then (b.length:Int) else ((50*k:Nat):Int))=((min (50*k) b.length:Nat):Int):=by split<;>omega
  rw [e1,e2,e3,nF (by omega) (by omega),Kr,lJ (by simp;omega),Kr]
  have e4:[UInt8.ofNat epoch,UInt8.ofNat k,UInt8.ofNat n]++List.drop (50*(k - 1)) (List.take (min (50*k) b.length) b)=pay epoch n b k:=by unfold pay;rw [if_pos h0,<- MB,Lx]
  rw [e4]
  exact k1_eq slot epoch n b hs S k ws hk h
 ·rw [if_neg (by simp;omega)]
  have e4:[UInt8.ofNat epoch,UInt8.ofNat k,UInt8.ofNat n]=pay epoch n b k:=by unfold pay;rw [if_neg h0,LZ]
  rw [e4]
  exact k1_eq slot epoch n b hs S k ws hk h
theorem FY (slot epoch n:Nat) (b:List UInt8) (hs:slot<=1) (hb:b.length<=1099511627776) (S:List (List UInt8)):∀ (k:Nat) (ws:List Write),k<60->bD ⟨S,ws⟩->50*(k - 1)<=b.length ->
  iter (fun fh:Int × (List (List UInt8)) × (List Write)=>kV (slot:Int) (epoch:Int) b (n:Int) fh.1 fh.2.1 fh.2.2) ((k:Int),S,ws)=some (if ws.length+(k+1)<=300 then (⟨S,ws++wsP slot epoch n b k⟩,0) else (⟨[],[]⟩,8)):=by
 intro k
 induction k with
 | zero =>
  intro ws hk h hkb
  rw [aG]
  simp only [l2_eq slot epoch n b hs hb S 0 ws hk h hkb]
  by_cases h3:ws.length<300
  ·rw [if_pos h3,if_pos (by omega)]
   simp only
   rw [aG]
   simp only
   unfold kV
   rfl
  ·rw [if_neg h3,if_neg (by omega)]
 | succ k ih =>
  intro ws hk h hkb
  rw [aG]
  simp only [l2_eq slot epoch n b hs hb S (k+1) ws hk h hkb]
  by_cases h3:ws.length<300
  ·rw [if_pos h3]
   simp only
   rw [show ((k+1:Nat):Int) - 1=(k:Int) by omega,ih _ (by omega) (zy h (Bq slot epoch n b (k+1) hs hk) h3) (by omega)]
   simp only [Kv,LP,KM,LO]
   by_cases h4:ws.length+(k+1+1)<=300
   ·rw [if_pos (by omega),if_pos h4];rfl
   ·rw [if_neg (by omega),if_neg h4]
  ·rw [if_neg h3,if_neg (by omega)]
abbrev noD:Disk:=⟨[],[]⟩
theorem Ja (d:Disk) (slot epoch:Int) (b:List UInt8) (hb:b.length<=1099511627776):∃ e,fd d=some e/\(e=0 ↔ bD d) /\
  ny d slot epoch b=some (if e≠0 then (noD,e) else if slot<0∨1<slot∨epoch<0∨200<epoch then (noD,3) else if 60<=(b.length+49) / 50∨300<d.Wait.length+((b.length+49) / 50+1) then (noD,8)
   else (⟨d.Sectors,d.Wait++wsP slot.toNat epoch.toNat ((b.length+49) / 50) b ((b.length+49) / 50)⟩,0)):=by
 obtain ⟨e,h1,h2⟩:=ze d
 refine ⟨e,h1,h2,?_⟩
 unfold ny
 rw [h1,Kr]
 by_cases he:e=0
 ·subst he
  have hok:=h2.1 rfl
  rw [if_neg (by decide),if_neg (show ¬ ((0:Int)≠0) by simp)]
  by_cases hr:slot<0∨1<slot∨epoch<0∨200<epoch
  ·rw [if_pos (by simp only [LY,decide_eq_true_eq];omega),if_pos hr]
  ·rw [if_neg (by simp only [LY,decide_eq_true_eq];omega),if_neg hr]
   have hq:quo .i64 (IntKind.i64.wrap ((IntKind.i64.wrap ((b.length:Int)+50)) - 1)) 50=some (((b.length+49) / 50:Nat):Int):=by have e0:IntKind.i64.wrap ((b.length:Int)+50)=(b.length:Int)+50:=bw (by omega) (by omega);have e1:IntKind.i64.wrap ((b.length:Int)+50 - 1)=(b.length:Int)+50 - 1:=bw (by omega) (by omega);rw [e0,e1];unfold quo;rw [if_neg (by decide),show (b.length:Int)+50 - 1=((b.length+49:Nat):Int) by omega];have:Int.tdiv ((b.length+49:Nat):Int) 50=(((b.length+49) / 50:Nat):Int):=rfl;rw [this,bw (by omega) (by omega)]
   rw [hq,Kr]
   by_cases hn:60<=(b.length+49) / 50
   ·rw [if_pos (by simp only [decide_eq_true_eq];omega),if_pos (Or.inl hn)]
   ·rw [if_neg (by simp only [decide_eq_true_eq];omega)]
    obtain ⟨sl,rfl⟩:=LH (show 0<=slot by omega)
    obtain ⟨ep,rfl⟩:=LH (show 0<=epoch by omega)
    have:=FY sl ep ((b.length+49) / 50) b (by omega) hb d.Sectors ((b.length+49) / 50) d.Wait (by omega) hok (by omega)
    refine this.trans ?_
    by_cases hw:d.Wait.length+((b.length+49) / 50+1)<=300
    ·rw [if_pos hw,if_neg (by omega)];rfl
    ·rw [if_neg hw,if_pos (by omega)]
 ·rw [if_pos (by simpa using he),if_pos he]
def one (s:List UInt8):Option (List UInt8) :=
 match (records s.length s).1 with
 | [p]=>if (records s.length s).2=s.length then some p else none
 | _=>none
def secP (s:List UInt8) (k:Nat):Option (List UInt8) :=
 match one s with
 | some p=>if 3<=p.length/\(p.getD 1 0).toNat=k then some p else none
 | none=>none
theorem zK {s:List UInt8} {k:Nat} {p:List UInt8} (h:secP s k=some p):3<=p.length/\(p.getD 1 0).toNat=k:=by
 unfold secP at h;split at h
 ·split at h
  ·rename_i h1;injection h with h
   subst h;exact h1
  ·cases h
 ·cases h
theorem xH (S:List (List UInt8)) (W:List Write) (slot k:Nat) (hS:S.length<=200) (hs:∀ s,s∈S->okS s) (hsl:slot<=1) (hk:k<=1000) :
  my (k:Int) (slot:Int) S W=some (match secP (gt S (60*slot+k)) k with | some p=>(p,true) | none=>([],false)):=by
 have e2:IntKind.i64.wrap ((IntKind.i64.wrap ((slot:Int)*60))+(k:Int))=((60*slot+k:Nat):Int):=by have e0:IntKind.i64.wrap ((slot:Int)*60)=(slot:Int)*60:=bw (by omega) (by omega);rw [e0,bw (by omega) (by omega)];omega
 unfold my
 rw [e2]
 by_cases hi:S.length<=60*slot+k
 ·rw [if_pos (by simp only [decide_eq_true_eq];omega)]
  have:gt S (60*slot+k)=[]:=by unfold gt;rw [Kw,KZ hi];rfl
  rw [this]
  rfl
 ·rw [if_neg (by simp only [decide_eq_true_eq];omega)]
  have hlt:60*slot+k<S.length:=by omega
  have hx:S[60*slot+k]?=some (gt S (60*slot+k)):=by unfold gt;rw [Kw,Ks hlt];rfl
  have hm:gt S (60*slot+k)∈S:=Ku hx
  have h64:(gt S (60*slot+k)).length<=64:=hs _ hm
  rw [bu hx]
  generalize gt S (60*slot+k)=s at hx hm h64
  have hrd:readR s=((records s.length s).1,((records s.length s).2:Int),0):=by unfold readR;rw [if_neg (by omega)]
  rw [Kr,wg,Kr,hrd]
  unfold secP one
  rcases hr:records s.length s with ⟨l,u⟩
  simp only
  match l with
  | []=>rfl
  | p::q::l =>
   have hne:((p::q::l).length:Int)≠1:=by simp only [KH];omega
   rw [if_pos (by simpa using hne),Kr,if_pos rfl]
  | [p] =>
   have i0:ixN [p] 0=some 0:=rfl
   rw [if_neg (by simp),Kr]
   by_cases hu:u=s.length
   ·rw [if_neg (by simp [hu]),i0,Kr]
    simp only [L7,Kr]
    by_cases hp:3<=p.length
    ·rw [if_neg (by simp only [decide_eq_true_eq];omega)]
     obtain ⟨a,b,t,rfl⟩:∃ a b t,p=a::b::t:=by
      match p,hp with
      | a::b::t,_=>exact ⟨a,b,t,rfl⟩
      | [],h=>simp at h
      | [_],h=>simp at h
     have i1:idx (a::b::t) 1=some b:=rfl
     have hb:IntKind.i64.wrap (b.toNat:Int)=(b.toNat:Int):=eU b
     simp only [i1,Kr,hb]
     by_cases hk2:b.toNat=k
     ·have:((b.toNat:Int) != (k:Int))=false:=by simp [hk2]
      rw [this,if_neg (by decide),if_pos hu]
      simp only
      rw [if_pos ⟨hp,hk2⟩]
     ·have:((b.toNat:Int) != (k:Int))=true:=by simp;omega
      rw [this,if_pos rfl,if_pos hu]
      simp only
      rw [if_neg (fun h=>hk2 h.2)]
    ·rw [if_pos (by simp only [decide_eq_true_eq];omega),Kr,if_pos rfl,if_pos hu]
     simp only
     rw [if_neg (fun h=>hp h.1)]
   ·rw [if_pos (by simp;omega),Kr,if_pos rfl]
    simp only
    rw [if_neg hu]
def col (S:List (List UInt8)) (slot:Nat) (h:List UInt8):Nat->Nat->List UInt8->Option (List UInt8)
 | 0,_,acc=>some acc
 | m+1,k,acc =>
  match secP (gt S (60*slot+k)) k with
  | none=>none
  | some p=>if p.getD 0 0=h.getD 0 0/\p.getD 2 0=h.getD 2 0/\(p.length=53∨(m=0/\3<p.length/\p.length<53)) then col S slot h m (k+1) (acc++p.drop 3) else none
def cW (S:List (List UInt8)) (slot:Nat):Option (List UInt8 × Nat) :=
 match secP (gt S (60*slot)) 0 with
 | none=>none
 | some h=>if h.length=3/\(h.getD 0 0).toNat<=200/\(h.getD 2 0).toNat<60 then (col S slot h (h.getD 2 0).toNat 1 []).map fun b=>(b,(h.getD 0 0).toNat) else none
theorem Gr {d:Disk} (hd:bD d) (slot:Nat) (hsl:slot<=1) (h0 h1 h2:UInt8) (hh:h2.toNat<60):∀ (m k:Nat) (acc:List UInt8),k+m=h2.toNat+1->1<=k->acc.length<=100*k ->
  iter (fun cV:(List UInt8) × Int=>kX d (slot:Int) ([h0,h1,h2],true) cV.1 cV.2) (acc,(k:Int))=some (match col d.Sectors slot [h0,h1,h2] m k acc with | some b=>(b,(h0.toNat:Int),0) | none=>([],0,12)):=by
 have i2:idx [h0,h1,h2] 2=some h2:=rfl
 have i0:idx [h0,h1,h2] 0=some h0:=rfl
 intro m
 induction m with
 | zero =>
  intro k acc hk h1k ha
  rw [aG]
  simp only
  unfold kX
  simp only [i2,Kr,eU,i0]
  rw [if_neg (by simp only [decide_eq_true_eq];omega)]
  rfl
 | succ m ih =>
  intro k acc hk h1k ha
  rw [aG]
  simp only
  have step:kX d (slot:Int) ([h0,h1,h2],true) acc (k:Int)=some (match secP (gt d.Sectors (60*slot+k)) k with
    | none=>.inr ([],0,12)
    | some p=>if p.getD 0 0=h0/\p.getD 2 0=h2/\(p.length=53∨(m=0/\3<p.length/\p.length<53)) then .inl (acc++p.drop 3,((k+1:Nat):Int)) else .inr ([],0,12)):=by
   unfold kX
   simp only [i2,Kr,eU,i0]
   rw [if_pos (by simp only [decide_eq_true_eq];omega),xH d.Sectors d.Wait slot k hd.1 hd.2.2.1 hsl (by omega),Kr]
   cases hsec:secP (gt d.Sectors (60*slot+k)) k with
   | none =>
    simp only
    rw [if_neg (by decide)]
    by_cases hkn:(k:Int)=(h2.toNat:Int)
    ·rw [if_pos (by simpa using hkn)];rfl
    ·rw [if_neg (by simpa using hkn)];rfl
   | some p =>
    have hp3:=(zK hsec).1
    obtain ⟨a,b,c,t,rfl⟩:∃ a b c t,p=a::b::c::t:=by
     match p,hp3 with
     | a::b::c::t,_=>exact ⟨a,b,c,t,rfl⟩
     | [],h=>simp at h
     | [_],h=>simp at h
     | [_,_],h=>simp at h
    have j0:idx (a::b::c::t) 0=some a:=rfl
    have j2:idx (a::b::c::t) 2=some c:=rfl
    have jl:(a::b::c::t).length=t.length+3:=by simp
    have js:sub (a::b::c::t) 3 ((a::b::c::t).length:Int)=some t:=by have:=iQ (xs:=a::b::c::t) (i:=3) (by omega);exact this
    have ha2:(a.toNat:Int)=(h0.toNat:Int) ↔ a=h0:=⟨fun e=>UInt8.toNat_inj.1 (by omega),fun e=>by rw [e]⟩
    have hc2:(c.toNat:Int)=(h2.toNat:Int) ↔ c=h2:=⟨fun e=>UInt8.toNat_inj.1 (by omega),fun e=>by rw [e]⟩
    simp only [j0,j2,Kr,js]
    rw [show (Bool.not true)=false from rfl]
    have hw:(if (((a::b::c::t).length:Int)==53)=true then (some true) else if ((k:Int)==(h2.toNat:Int))=true then (if (decide (((a::b::c::t).length:Int) > 3))=true then (some (decide (((a::b::c::t).length:Int)<53))) else (some false)) else (some false))=some (decide ((a::b::c::t).length=53∨(m=0/\3<(a::b::c::t).length/\(a::b::c::t).length<53))):=by
     generalize (a::b::c::t).length=L;by_cases q1:L=53
     ·rw [if_pos (by simp;omega)];simp [q1]
     ·rw [if_neg (by simp;omega)];by_cases q2:(k:Int)=(h2.toNat:Int)
      ·rw [if_pos (by simpa using q2)];by_cases q3:3<L
       ·rw [if_pos (by simp only [decide_eq_true_eq];omega)];congr 1;rw [decide_eq_decide];omega
       ·rw [if_neg (by simp only [decide_eq_true_eq];omega)];congr 1;symm;rw [decide_eq_false_iff_not];omega
      ·rw [if_neg (by simpa using q2)];congr 1;symm;rw [decide_eq_false_iff_not];omega
    rw [hw,Kr,if_neg (show ¬ (false=true) by decide)]
    by_cases p1:a=h0
    ·rw [if_neg (by simp [p1])]
     by_cases p2:c=h2
     ·rw [if_neg (by simp [p2]),Kr]
      by_cases p3:((a::b::c::t).length=53∨(m=0/\3<(a::b::c::t).length/\(a::b::c::t).length<53))
      ·rw [decide_eq_true p3,if_neg (by decide),lJ (by omega),Kr,br (by omega),if_pos ⟨p1,p2,p3⟩]
       rfl
      ·rw [decide_eq_false p3,if_pos (by decide),if_neg (fun h=>p3 h.2.2)]
       rfl
     ·rw [if_pos (by rw [bne_iff_ne];exact fun e=>p2 (hc2.1 e)),Kr,if_pos rfl,if_neg (fun h=>p2 h.2.1)]
      rfl
    ·rw [if_pos (by rw [bne_iff_ne];exact fun e=>p1 (ha2.1 e)),Kr,if_pos rfl,if_neg (fun h=>p1 h.1)]
     rfl
  simp only [step]
  unfold col
  cases hsec:secP (gt d.Sectors (60*slot+k)) k with
  | none=>rfl
  | some p =>
   simp only
   by_cases hc:p.getD 0 0=h0/\p.getD 2 0=h2/\(p.length=53∨(m=0/\3<p.length/\p.length<53))
   ·have hc':p.getD 0 0=[h0,h1,h2].getD 0 0/\p.getD 2 0=[h0,h1,h2].getD 2 0/\(p.length=53∨(m=0/\3<p.length/\p.length<53)):=hc
    rw [if_pos hc,if_pos hc']
    simp only
    rw [ih (k+1) _ (by omega) (by omega) (by rw [Kv,KX];omega)]
   ·have hc':¬ (p.getD 0 0=[h0,h1,h2].getD 0 0/\p.getD 2 0=[h0,h1,h2].getD 2 0/\(p.length=53∨(m=0/\3<p.length/\p.length<53))):=hc
    rw [if_neg hc,if_neg hc']
def getR (S:List (List UInt8)) (slot:Nat):List UInt8 × Int × Int :=
 match cW S slot with
 | some x=>(x.1,(x.2:Int),0)
 | none=>([],0,12)
theorem Jh {d:Disk} (hd:bD d) (slot:Nat) (hsl:slot<=1):nt d (slot:Int)=some (getR d.Sectors slot):=by
 unfold nt;rw [iK hd,Kr,if_neg (by decide),if_neg (by simp only [LY,decide_eq_true_eq];omega)];have:=xH d.Sectors d.Wait slot 0 hd.1 hd.2.2.1 hsl (by omega);rw [K3,Lq] at this;rw [this,Kr];unfold getR cW;cases hsec:secP (gt d.Sectors (60*slot)) 0 with
 | none=>rfl
 | some h =>
  simp only;rw [show (Bool.not true)=false from rfl,if_neg (by decide)];have hp3:=(zK hsec).1;by_cases h3:h.length=3
  ·obtain ⟨a,b,c,rfl⟩:∃ a b c,h=[a,b,c]:=by
    match h,h3 with
    | [a,b,c],_=>exact ⟨a,b,c,rfl⟩
   have j0:idx [a,b,c] 0=some a:=rfl;have j2:idx [a,b,c] 2=some c:=rfl;rw [if_neg (by simp)];simp only [j0,j2,Kr,eU];by_cases q1:a.toNat<=200
   ·rw [if_neg (by simp only [decide_eq_true_eq];omega),Kr];by_cases q2:c.toNat<60
    ·rw [if_neg (by simp only [decide_eq_true_eq];omega)];have hc:([a,b,c].length=3/\([a,b,c].getD 0 0).toNat<=200/\([a,b,c].getD 2 0).toNat<60):=⟨rfl,q1,q2⟩
     rw [if_pos hc];have:=Gr hd slot hsl a b c q2 c.toNat 1 [] (by omega) (by omega) (by simp);refine this.trans ?_;rw [show [a,b,c].getD 0 0=a from rfl,show [a,b,c].getD 2 0=c from rfl];cases col d.Sectors slot [a,b,c] c.toNat 1 []<;>rfl
    ·have hc:¬ ([a,b,c].length=3/\([a,b,c].getD 0 0).toNat<=200/\([a,b,c].getD 2 0).toNat<60):=fun h=>q2 h.2.2
     rw [if_pos (by simp only [decide_eq_true_eq];omega),if_neg hc]
   ·have hc:¬ ([a,b,c].length=3/\([a,b,c].getD 0 0).toNat<=200/\([a,b,c].getD 2 0).toNat<60):=fun h=>q1 h.2.1
    rw [if_pos (by simp only [decide_eq_true_eq];omega),Kr,if_pos rfl,if_neg hc]
  ·rw [if_pos (by simp;omega),Kr,if_pos rfl,if_neg (fun h=>h3 h.1)]
def fQ:Ends:=⟨-1, -1⟩
theorem yZ (R:Nat) (hR:R<=16):∀ (n k:Nat) (xs:List Ends),R - k<=n->1<=k->k<=R->xs.length=R->xs.take k=List.replicate k fQ ->
  iter (fun ss:Int × List Ends=>ji ss.1 ss.2) ((k:Int),xs)=some (List.replicate R fQ)
 | n,k,xs,hn,h1,h2,hl,ht=>by
  rw [aG];by_cases hk:k=R
  ·subst hk;unfold ji;rw [if_neg (by simp [hl])];have:xs=List.replicate k fQ:=by rw [<- ht,K7 (by omega)]
   simp [this]
  ·have hkR:k<R:=by omega
   have v1:vwok xs.length (k:Int) (xs.length:Int)=some ():=by unfold vwok;rw [if_pos (by omega)]
   have v2:vwok xs.length 0 (k:Int)=some ():=by unfold vwok;rw [if_pos (by omega)]
   have v3:vwok xs.length ((((k:Int)).toNat:Nat):Int) ((((k:Int).toNat:Nat):Int)+((((xs.length:Int)).toNat - (k:Int).toNat:Nat):Int))=some ():=by unfold vwok;rw [if_pos (by omega)]
   have v4:vwok xs.length ((((0:Int)).toNat:Nat):Int) ((((0:Int).toNat:Nat):Int)+(((k:Int).toNat - (0:Int).toNat:Nat):Int))=some ():=by unfold vwok;rw [if_pos (by simp;omega)]
   have hstep:ji (k:Int) xs=some (.inl (((k+min (R - k) k:Nat):Int),xs.take k++(xs.take k).take (R - k)++xs.drop (k+min (R - k) k))):=by
    unfold ji;rw [if_pos (by simp;omega),v1,Kr,v2,Kr,v3,Kr,v4,Kr];have e1:IntKind.i64.wrap ((k:Int)+((min (((xs.length:Int)).toNat - (k:Int).toNat) ((k:Int).toNat - (0:Int).toNat):Nat):Int))=((k+min (R - k) k:Nat):Int):=by rw [bw (by omega) (by simp only [KW,Int.toNat_zero,hl];omega)];simp only [KW,Int.toNat_zero,hl];omega
    rw [e1];simp only [cpy,KW,Int.toNat_zero,hl,Lc,Mx,KR];congr 5;omega
   rw [hstep];simp only;have hm:1<=min (R - k) k:=by omega
   match n,hn with
   | 0,hn=>omega
   | n+1,hn =>
    refine yZ R hR n (k+min (R - k) k) _ (by omega) (by omega) (by omega) (by simp;omega) ?_
    rw [ht,List.take_replicate]
    have e:(List.replicate k fQ++List.replicate (min (R - k) k) fQ).length=k+min (R - k) k:=by simp
    rw [<- e,Mc,e]
    simp
theorem HB (R:Nat) (hR:R<=16):q7 (IntKind.u64.wrap (([(⟨(-1),(-1)⟩:Ends)]:List Ends).length:Int)) (IntKind.u64.wrap (R:Int))=some (0,(R:Int)):=by
 have:R=0∨R=1∨R=2∨R=3∨R=4∨R=5∨R=6∨R=7∨R=8∨R=9∨R=10∨R=11∨R=12∨R=13∨R=14∨R=15∨R=16:=by omega
 rcases this with rfl | rfl | rfl | rfl | rfl | rfl | rfl | rfl | rfl | rfl | rfl | rfl | rfl | rfl | rfl | rfl | rfl<;>rfl
theorem Ft (R:Nat) (hR:R<=16):oH ([(⟨(-1),(-1)⟩:Ends)]:List Ends) (R:Int)=some (List.replicate R fQ):=by
 unfold oH;rw [if_neg (by simp),HB R hR,Kr,if_neg (by simp;omega),bw (show -9223372036854775808<=(R:Int) by omega) (show (R:Int)<=9223372036854775807 by omega)];have hmk:mk (R:Int) (⟨0,0⟩:Ends)=some (List.replicate R ⟨0,0⟩):=by unfold mk;rw [if_pos (by omega)];rfl
 rw [hmk,Kr];simp only [List.length_replicate,LP];by_cases h0:R=0
 ·subst h0;rw [aG];unfold ji;simp [cpy]
 ·have e:min R 1=1:=by omega
  rw [e];have hc:cpy (List.replicate R (⟨0,0⟩:Ends)) 0 R [(⟨(-1),(-1)⟩:Ends)]=fQ::(List.replicate R (⟨0,0⟩:Ends)).drop 1:=by unfold cpy;have:([(⟨(-1),(-1)⟩:Ends)]:List Ends).take R=[⟨-1, -1⟩]:=K7 (by simp;omega);rw [this];simp [e,fQ]
  rw [hc];exact yZ R hR R 1 _ (by omega) (by omega) (by omega) (by simp;omega) (by simp)
def qa (k:Int):Option (Int × Int):=if k=1 then some (0,1) else if k=2∨k=3∨k=4 then some (1,1) else if k=5∨k=7 then some (1, -1) else if k=6 then some (-1,1) else if k=8 then some (1,0) else none
def eu (n:Nat) (want:Int):Bool:=decide ((n:Int)=want∨want<0/\0<n)
def badA (x:Node):Bool:=decide (x.A<0∨x.Kind=1/\4<=x.A∨x.Kind=2/\3<x.A∨x.Kind≠1/\x.Kind≠2/\x.A≠0)
def jT (x:Node):Int:=match qa x.Kind with
 | none=>5
 | some (i,o)=>if (eu x.In.length i && eu x.Out.length o)=false then 4 else if badA x then 3 else 0
def fU (R i:Int):List Int->List Ends->Int ⊕ List Ends
 | [],l=>.inr l
 | r::rs,l=>if r<0∨R<=r then .inl 3 else match l[r.toNat]? with
  | none=>.inl 99
  | some e=>if 0<=e.dst then .inl 6 else fU R i rs (l.set r.toNat ⟨e.src,i⟩)
def e6 (R i:Int):List Int->List Ends->Int ⊕ List Ends
 | [],l=>.inr l
 | r::rs,l=>if r<0∨R<=r then .inl 3 else match l[r.toNat]? with
  | none=>.inl 99
  | some e=>if 0<=e.src then .inl 6 else e6 R i rs (l.set r.toNat ⟨i,e.dst⟩)
def oneN (R:Int) (i:Nat) (x:Node) (l:List Ends):Int ⊕ List Ends :=
 if jT x≠0 then .inl (jT x) else match fU R i x.In l with
  | .inl e=>.inl e
  | .inr l1=>e6 R i x.Out l1
def hY (R:Int):Nat->List Node->Nat->List Ends->Int ⊕ (Nat × List Ends)
 | _,[],s,l=>.inr (s,l)
 | i,x::xs,s,l=>match oneN R i x l with
  | .inl e=>.inl e
  | .inr l1=>hY R (i+1) xs (if x.Kind=8 then s+1 else s) l1
def ii (n:Net):Int ⊕ List Ends :=
 if n.Nodes.length<1∨12<n.Nodes.length∨n.Rings<0∨16<n.Rings then .inl 2
 else if n.Room<1∨6<n.Room then .inl 3
 else match hY n.Rings 0 n.Nodes 0 (List.replicate n.Rings.toNat fQ) with
  | .inl e=>.inl e
  | .inr (s,l)=>if l.any (fun e=>decide (e.src<0∨e.dst<0)) then .inl 9 else if s≠1 then .inl 4 else .inr l
theorem rp (R i:Int):∀ (rs:List Int) (l l1:List Ends),fU R i rs l=.inr l1->l1.length=l.length
 | [],l,l1,h=>by cases h;rfl
 | r::rs,l,l1,h=>by
  unfold fU at h;split at h
  ·cases h
  ·split at h
   ·cases h
   ·split at h
    ·cases h
    ·have:=rp R i rs _ l1 h;simpa using this
theorem ro (R i:Int):∀ (rs:List Int) (l l1:List Ends),e6 R i rs l=.inr l1->l1.length=l.length
 | [],l,l1,h=>by cases h;rfl
 | r::rs,l,l1,h=>by
  unfold e6 at h;split at h
  ·cases h
  ·split at h
   ·cases h
   ·split at h
    ·cases h
    ·have:=ro R i rs _ l1 h;simpa using this
theorem F7 {R:Int} {i:Nat} {x:Node} {l l1:List Ends} (h:oneN R i x l=.inr l1):l1.length=l.length:=by
 unfold oneN at h;split at h
 ·cases h
 ·split at h
  ·cases h
  ·rename_i l2 h2;exact (ro R i _ _ _ h).trans (rp R i _ _ _ h2)
theorem Ga (k:Int):pA k=some (match qa k with | some (i,o)=>(i,o,true) | none=>(0,0,false)):=by
 unfold pA kK mR qa;by_cases h1:k=1
 ·subst h1;rfl
 by_cases h2:k=2
 ·subst h2;rfl
 by_cases h3:k=3
 ·subst h3;rfl
 by_cases h4:k=4
 ·subst h4;rfl
 by_cases h5:k=5
 ·subst h5;rfl
 by_cases h6:k=6
 ·subst h6;rfl
 by_cases h7:k=7
 ·subst h7;rfl
 by_cases h8:k=8
 ·subst h8;rfl
 simp [h1,h2,h3,h4,h5,h6,h7,h8]
theorem Ib (n:Nat) (w:Int):nu (n:Int) w=some (eu n w):=by unfold nu eu;congr 1;rw [LI];simp
theorem H9 (n:Net) (s:Int) (i:Nat) (x:Node) (hR:n.Rings<=16) (k:Nat) (l:List Ends) (hlt:k<x.Out.length) (hx:x.Out.length<=1099511627776) (hl:(l.length:Int)=n.Rings) :
  jH n i x s k l=if x.Out[k]<0∨n.Rings<=x.Out[k] then some (.inr (.inr ([],3))) else match l[x.Out[k].toNat]? with
   | none=>none
   | some e=>if 0<=e.src then some (.inr (.inr ([],6))) else some (.inl (((k+1:Nat):Int),l.set x.Out[k].toNat ⟨i,e.dst⟩)):=by
 unfold jH
 rw [if_pos (by simp;omega),bu (Ks hlt),Kr]
 by_cases hr:x.Out[k]<0∨n.Rings<=x.Out[k]
 ·rw [if_pos (by simp;omega),if_pos hr];rfl
 ·rw [if_neg (by simp;omega),if_neg hr]
  have hrl:x.Out[k].toNat<l.length:=by omega
  have hix:ixN l x.Out[k]=some x.Out[k].toNat:=by unfold ixN;rw [if_pos (by omega)]
  have hg:=Ks hrl
  simp only [hix,hg,Kr,br (show k<4611686018427387904 by omega)]
  by_cases he:0<=l[x.Out[k].toNat].src
  ·rw [if_pos (by simp;omega),if_pos he];rfl
  ·rw [if_neg (by simp;omega),if_neg he]
theorem H3 (n:Net) (s:Int) (i:Nat) (x:Node) (hR:n.Rings<=16) (k:Nat) (l:List Ends) (hlt:k<x.In.length) (hx:x.In.length<=1099511627776) (hl:(l.length:Int)=n.Rings) :
  jI n i x s k l=if x.In[k]<0∨n.Rings<=x.In[k] then some (.inr (.inr ([],3))) else match l[x.In[k].toNat]? with
   | none=>none
   | some e=>if 0<=e.dst then some (.inr (.inr ([],6))) else some (.inl (((k+1:Nat):Int),l.set x.In[k].toNat ⟨e.src,i⟩)):=by
 unfold jI
 rw [if_pos (by simp;omega),bu (Ks hlt),Kr]
 by_cases hr:x.In[k]<0∨n.Rings<=x.In[k]
 ·rw [if_pos (by simp;omega),if_pos hr];rfl
 ·rw [if_neg (by simp;omega),if_neg hr]
  have hrl:x.In[k].toNat<l.length:=by omega
  have hix:ixN l x.In[k]=some x.In[k].toNat:=by unfold ixN;rw [if_pos (by omega)]
  have hg:=Ks hrl
  simp only [hix,hg,Kr,br (show k<4611686018427387904 by omega)]
  by_cases he:0<=l[x.In[k].toNat].dst
  ·rw [if_pos (by simp;omega),if_pos he];rfl
  ·rw [if_neg (by simp;omega),if_neg he]
theorem Am (n:Net) (s:Int) (i:Nat) (x:Node) (hx:x.Out.length<=1099511627776) (hi:i<=12) (hR:n.Rings<=16) :
  ∀ (m k:Nat) (l:List Ends),k+m=x.Out.length->(l.length:Int)=n.Rings ->
  iter (fun ss:Int × List Ends=>jH n i x s ss.1 ss.2) ((k:Int),l)=match e6 n.Rings i (x.Out.drop k) l with
   | .inl e=>some (.inr ([],e))
   | .inr l1=>some (.inl (s,((i+1:Nat):Int),l1))
 | 0,k,l,h,hl=>by
  have hk:k=x.Out.length:=by omega
  subst hk;have:jH n i x s (x.Out.length:Int) l=some (.inr (.inl (s,((i+1:Nat):Int),l))):=by unfold jH;rw [if_neg (by simp),br (by omega)];rfl
  rw [aG,Lm];simp only [this,e6]
 | m+1,k,l,h,hl=>by
  have hlt:k<x.Out.length:=by omega
  rw [aG,KC hlt];simp only [e6,H9 n s i x hR k l hlt hx hl];by_cases hr:x.Out[k]<0∨n.Rings<=x.Out[k]
  ·simp only [if_pos hr]
  ·simp only [if_neg hr];have hrl:x.Out[k].toNat<l.length:=by omega
   simp only [Ks hrl];by_cases he:0<=l[x.Out[k].toNat].src
   ·simp only [if_pos he]
   ·simp only [if_neg he];exact Am n s i x hx hi hR m (k+1) _ (by omega) (by simpa using hl)
theorem AG (n:Net) (s:Int) (i:Nat) (x:Node) (hx:x.Out.length<=1099511627776) (hx2:x.In.length<=1099511627776) (hi:i<=12) (hR:n.Rings<=16) :
  ∀ (m k:Nat) (l:List Ends),k+m=x.In.length->(l.length:Int)=n.Rings ->
  iter (fun ss:Int × List Ends=>jI n i x s ss.1 ss.2) ((k:Int),l)=match (match fU n.Rings i (x.In.drop k) l with | .inl e=>Sum.inl e | .inr l1=>e6 n.Rings i x.Out l1) with
   | .inl e=>some (.inr ([],e))
   | .inr l1=>some (.inl (s,((i+1:Nat):Int),l1))
 | 0,k,l,h,hl=>by
  have hk:k=x.In.length:=by omega
  subst hk;have:=Am n s i x hx hi hR x.Out.length 0 l (by omega) hl;simp only [Lc,K3] at this;have h2:jI n i x s (x.In.length:Int) l=Option.map Sum.inr (match e6 n.Rings i x.Out l with | .inl e=>some (.inr ([],e)) | .inr l1=>some (.inl (s,((i+1:Nat):Int),l1))):=by unfold jI;rw [if_neg (by simp)];rw [<- this]
  rw [aG,Lm];simp only [h2,fU];cases e6 n.Rings i x.Out l<;>rfl
 | m+1,k,l,h,hl=>by
  have hlt:k<x.In.length:=by omega
  rw [aG,KC hlt];simp only [fU,H3 n s i x hR k l hlt hx2 hl];by_cases hr:x.In[k]<0∨n.Rings<=x.In[k]
  ·simp only [if_pos hr]
  ·simp only [if_neg hr];have hrl:x.In[k].toNat<l.length:=by omega
   simp only [Ks hrl];by_cases he:0<=l[x.In[k].toNat].dst
   ·simp only [if_pos he]
   ·simp only [if_neg he];exact AG n s i x hx hx2 hi hR m (k+1) _ (by omega) (by simpa using hl)
theorem Hx (x:Node):((decide (x.A<0)) || (if (x.Kind==1)=true then ((decide (x.A >= 4)) || (if (x.Kind==2)=true then ((decide (x.A > 3)) || ((x.Kind != 1) && ((x.Kind != 2) && x.A != 0))) else ((x.Kind != 1) && ((x.Kind != 2) && x.A != 0)))) else (if (x.Kind==2)=true then ((decide (x.A > 3)) || ((x.Kind != 1) && ((x.Kind != 2) && x.A != 0))) else ((x.Kind != 1) && ((x.Kind != 2) && x.A != 0)))))=badA x:=by
 unfold badA;by_cases h1:x.Kind=1
 ·rw [LI];simp [h1]
 ·by_cases h2:x.Kind=2
  ·rw [LI];simp [h1,h2]
  ·rw [LI];simp [h1,h2]
theorem HK (s:Int) (l:List Ends) (hl:l.length<=16):iter (fun ss:Int=>kZ s l ss) 0=some (if l.any (fun e=>decide (e.src<0∨e.dst<0)) then ([],9) else if s≠1 then ([],4) else (l,0)):=by
 have:=mW (σ:=Unit) l (by omega) (fun k _=>(k:Int)) (body:=fun ss=>kZ s l ss)
  (fun k e _=>if e.src<0∨e.dst<0 then some (.inr ([],9)) else some (.inl ())) (fun _=>if s≠1 then some ([],4) else some (l,0)) ()
  (fun k e _ hk hlt _ h2 h3=>by
   unfold kZ;rw [h2,eV hlt,h3];simp only [if_true,Kr,hk];by_cases h:e.src<0∨e.dst<0
   ·rw [if_pos (by simp;omega),if_pos h];rfl
   ·rw [if_neg (by simp;omega),if_neg h])
  (fun _ h=>by unfold kZ;rw [h];by_cases hs:s=1<;>simp [hs])
 refine Eq.trans this ?_;have key:∀ (ys:List Ends) (k:Nat),dG (σ:=Unit) (ρ:=List Ends × Int) (fun k e _=>if e.src<0∨e.dst<0 then some (.inr ([],9)) else some (.inl ())) (fun _=>if s≠1 then some ([],4) else some (l,0)) k ys ()=some (if ys.any (fun e=>decide (e.src<0∨e.dst<0)) then ([],9) else if s≠1 then ([],4) else (l,0)):=by
  intro ys;induction ys with
  | nil=>intro k;simp only [dG,List.any_nil];by_cases hs:s=1<;>simp [hs]
  | cons y ys ih =>
   intro k;unfold dG;by_cases h:y.src<0∨y.dst<0
   ·rw [if_pos h];simp [h]
   ·rw [if_neg h];simp only;rw [ih];simp [h]
 exact key l 0
theorem AF (n:Net) (hn:n.Nodes.length<=12) (hR0:0<=n.Rings) (hR:n.Rings<=16) (hio:∀ x∈n.Nodes,x.In.length<=1099511627776/\x.Out.length<=1099511627776) :
  ∀ (m k s:Nat) (l:List Ends),k+m=n.Nodes.length->s<=k->(l.length:Int)=n.Rings ->
  iter (fun ss:Int × Int × List Ends=>jL n ss.1 ss.2.1 ss.2.2) ((s:Int),(k:Int),l)=some (match hY n.Rings k (n.Nodes.drop k) s l with
   | .inl e=>([],e)
   | .inr (s,l)=>if l.any (fun e=>decide (e.src<0∨e.dst<0)) then ([],9) else if s≠1 then ([],4) else (l,0))
 | 0,k,s,l,h,hs,hl=>by
  have hk:k=n.Nodes.length:=by omega
  subst hk;have h5:jL n s (n.Nodes.length:Int) l=some (.inr (if l.any (fun e=>decide (e.src<0∨e.dst<0)) then ([],9) else if (s:Int)≠1 then ([],4) else (l,0))):=by unfold jL;rw [if_neg (by simp),HK _ _ (by omega)];rfl
  have:((s:Int)≠1) ↔ (s≠1):=by omega
  rw [aG,Lm];simp only [h5,hY,this]
 | m + 1,k,s,l,h,hs,hl=>by
  have hlt:k<n.Nodes.length:=by omega
  have hmem:n.Nodes[k]∈n.Nodes:=K1 hlt;rw [aG,KC hlt];simp only [hY];have step:jL n s k l=match oneN n.Rings k n.Nodes[k] l with
    | .inl e=>some (.inr ([],e))
    | .inr l1=>some (.inl (((if n.Nodes[k].Kind=8 then s+1 else s:Nat):Int),((k+1:Nat):Int),l1)):=by
   unfold jL
   rw [if_pos (by simp;omega),bu (Ks hlt),Kr,Ga,Kr]
   generalize n.Nodes[k]=x at hmem
   unfold oneN jT
   cases ha:qa x.Kind with
   | none=>simp
   | some io =>
    obtain ⟨i0,o0⟩:=io
    simp only [Mu,KD,if_false,Ib,Kr]
    have hfit:(if (!eu x.In.length i0)=true then some true else some (!eu x.Out.length o0))=some (!(eu x.In.length i0 && eu x.Out.length o0)):=by cases eu x.In.length i0<;>simp
    rw [hfit,Kr]
    by_cases hf:(eu x.In.length i0 && eu x.Out.length o0)=false
    ·rw [if_pos (by simp [hf])]
     simp [hf]
    ·have hf':(eu x.In.length i0 && eu x.Out.length o0)=true:=by simpa using hf
     rw [if_neg (by simp [hf']),Hx]
     simp only [hf',Bool.true_eq_false,if_false]
     by_cases hb:badA x=true
     ·simp [hb]
     ·simp only [hb,if_false,KD,ne_eq,not_true_eq_false]
      obtain ⟨h1,h2⟩:=hio x hmem
      have k3:∀ s':Int,kQ n k l x s'=match (match fU n.Rings k x.In l with | .inl e=>Sum.inl e | .inr l1=>e6 n.Rings k x.Out l1) with
        | .inl e=>some (.inr ([],e))
        | .inr l1=>some (.inl (s',((k+1:Nat):Int),l1)):=fun s'=>by
       unfold kQ
       have:=AG n s' k x h2 h1 (by omega) hR x.In.length 0 l (by omega) hl
       simpa using this
      by_cases h8:x.Kind=8
      ·rw [if_pos (by simp [h8]),k3,br (by omega)]
       simp only [h8,if_true]
      ·rw [if_neg (by simp [h8]),k3]
       simp only [h8,if_false]
  simp only [step];cases ho:oneN n.Rings k n.Nodes[k] l with
  | inl e=>rfl
  | inr l1 =>
   simp only;exact AF n hn hR0 hR hio m (k+1) _ l1 (by omega) (by split<;>omega) (by rw [F7 ho];exact hl)
theorem DX (n:Net) (hio:∀ x∈n.Nodes,x.In.length<=1099511627776/\x.Out.length<=1099511627776):pE n=some (match ii n with | .inl e=>([],e) | .inr l=>(l,0)):=by
 unfold pE ii;by_cases h1:n.Nodes.length<1∨12<n.Nodes.length∨n.Rings<0∨16<n.Rings
 ·rw [if_pos (by simp;omega),if_pos h1]
 rw [if_neg (by simp;omega),if_neg h1];by_cases h2:n.Room<1∨6<n.Room
 ·rw [if_pos (by simp;omega),if_pos h2]
 rw [if_neg (by simp;omega),if_neg h2];have hRn:n.Rings=((n.Rings.toNat:Nat):Int):=by omega
 rw [hRn,Ft _ (by omega),Kr,<- hRn];have:=AF n (by omega) (by omega) (by omega) hio n.Nodes.length 0 0 (List.replicate n.Rings.toNat fQ) (by omega) (by omega) (by simp;omega);simp only [K3,Lc] at this;rw [this];cases hY n.Rings 0 n.Nodes 0 (List.replicate n.Rings.toNat fQ) with
 | inl e=>rfl
 | inr q =>
  obtain ⟨s,l⟩:=q;simp only;split
  ·rfl
  ·split<;>rfl
theorem xf (R i:Int) (hi:0<=i):∀ (rs:List Int) (l l1:List Ends),(l.length:Int)=R->fU R i rs l=.inr l1 ->
  (∀ r∈rs,0<=r/\r<R/\∀ e,l[r.toNat]?=some e->e.dst<0)/\rs.Nodup/\∀ j:Nat,l1[j]?=if (j:Int)∈rs then (l[j]?).map (fun e=>⟨e.src,i⟩) else l[j]?
 | [],l,l1,hl,h=>by cases h;exact ⟨fun r hr=>by simp at hr,Mq,fun j=>by simp⟩
 | r :: rs,l,l1,hl,h=>by
  unfold fU at h;split at h
  ·cases h
  ·rename_i hr;split at h
   ·cases h
   ·rename_i e he;split at h
    ·cases h
    ·rename_i hd;have hlt:r.toNat<l.length:=(Kt.1 he).1;obtain ⟨h1,h2,h3⟩:=xf R i hi rs _ l1 (by simpa using hl) h;have hnot:r ∉ rs:=fun hm=>by
      have:=(h1 r hm).2.2 ⟨e.src,i⟩ (by rw [KF,if_pos rfl,if_pos hlt]);simp at this;omega
     refine ⟨fun q hq=>?_,Mz.2 ⟨hnot,h2⟩,fun j=>?_⟩
     ·rcases K0.1 hq with rfl | hq
      ·exact ⟨by omega,by omega,fun e' he'=>by rw [he] at he';cases he';omega⟩
      ·obtain ⟨a,b,c⟩:=h1 q hq;refine ⟨a,b,fun e' he'=>?_⟩;have hne:q≠r:=fun e=>hnot (e▸hq)
       exact c e' (by rw [KF,if_neg (by omega)];exact he')
     ·rw [h3 j,KF];by_cases hj:(j:Int)=r
      ·have hjr:r.toNat=j:=by omega
       rw [if_neg (by rw [hj];exact hnot),if_pos hjr,if_pos hlt,if_pos (by rw [hj];exact KQ),<- hjr,he];rfl
      ·have hjr:¬ r.toNat=j:=by omega
       rw [if_neg hjr];by_cases hm:(j:Int)∈rs
       ·rw [if_pos hm,if_pos (KS _ hm)]
       ·rw [if_neg hm,if_neg (by simp [hj,hm])]
theorem xv (R i:Int) (hi:0<=i):∀ (rs:List Int) (l l1:List Ends),(l.length:Int)=R->e6 R i rs l=.inr l1 ->
  (∀ r∈rs,0<=r/\r<R/\∀ e,l[r.toNat]?=some e->e.src<0)/\rs.Nodup/\∀ j:Nat,l1[j]?=if (j:Int)∈rs then (l[j]?).map (fun e=>⟨i,e.dst⟩) else l[j]?
 | [],l,l1,hl,h=>by cases h;exact ⟨fun r hr=>by simp at hr,Mq,fun j=>by simp⟩
 | r :: rs,l,l1,hl,h=>by
  unfold e6 at h;split at h
  ·cases h
  ·rename_i hr;split at h
   ·cases h
   ·rename_i e he;split at h
    ·cases h
    ·rename_i hd;have hlt:r.toNat<l.length:=(Kt.1 he).1;obtain ⟨h1,h2,h3⟩:=xv R i hi rs _ l1 (by simpa using hl) h;have hnot:r ∉ rs:=fun hm=>by
      have:=(h1 r hm).2.2 ⟨i,e.dst⟩ (by rw [KF,if_pos rfl,if_pos hlt]);simp at this;omega
     refine ⟨fun q hq=>?_,Mz.2 ⟨hnot,h2⟩,fun j=>?_⟩
     ·rcases K0.1 hq with rfl | hq
      ·exact ⟨by omega,by omega,fun e' he'=>by rw [he] at he';cases he';omega⟩
      ·obtain ⟨a,b,c⟩:=h1 q hq;refine ⟨a,b,fun e' he'=>?_⟩;have hne:q≠r:=fun e=>hnot (e▸hq)
       exact c e' (by rw [KF,if_neg (by omega)];exact he')
     ·rw [h3 j,KF];by_cases hj:(j:Int)=r
      ·have hjr:r.toNat=j:=by omega
       rw [if_neg (by rw [hj];exact hnot),if_pos hjr,if_pos hlt,if_pos (by rw [hj];exact KQ),<- hjr,he];rfl
      ·have hjr:¬ r.toNat=j:=by omega
       rw [if_neg hjr];by_cases hm:(j:Int)∈rs
       ·rw [if_pos hm,if_pos (KS _ hm)]
       ·rw [if_neg hm,if_neg (by simp [hj,hm])]
structure Looked (ns:List Node) (R:Int) (k:Nat) (l:List Ends):Prop where
 len:(l.length:Int)=R
 src:∀ (j:Nat) e,l[j]?=some e->(e.src<0∨∃ (i:Nat) (x:Node),i<k/\ns[i]?=some x/\e.src=i/\(j:Int)∈x.Out)
 dst:∀ (j:Nat) e,l[j]?=some e->(e.dst<0∨∃ (i:Nat) (x:Node),i<k/\ns[i]?=some x/\e.dst=i/\(j:Int)∈x.In)
 node:∀ (i:Nat) x,i<k->ns[i]?=some x->jT x=0/\x.In.Nodup/\x.Out.Nodup /\
  (∀ r∈x.In,0<=r/\r<R/\∃ e,l[r.toNat]?=some e/\e.dst=i)/\(∀ r∈x.Out,0<=r/\r<R/\∃ e,l[r.toNat]?=some e/\e.src=i)
theorem Looked.one {ns:List Node} {R:Int} {k:Nat} {l l1:List Ends} {x:Node} (h:Looked ns R k l) (hx:ns[k]?=some x) (ho:oneN R k x l=.inr l1):Looked ns R (k+1) l1:=by
 unfold oneN at ho;split at ho
 ·cases ho
 ·rename_i hne;split at ho
  ·cases ho
  ·rename_i l2 h2;have hl2:(l2.length:Int)=R:=by rw [rp R k _ _ _ h2];exact h.len
   obtain ⟨a1,a2,a3⟩:=xf R k (by omega) _ _ _ h.len h2;obtain ⟨b1,b2,b3⟩:=xv R k (by omega) _ _ _ hl2 ho;have hent:∀ (j:Nat) e1,l1[j]?=some e1->∃ e,l[j]?=some e/\e1.src=(if (j:Int)∈x.Out then (k:Int) else e.src)/\e1.dst=(if (j:Int)∈x.In then (k:Int) else e.dst):=fun j e1 he1=>by
    rw [b3 j,a3 j] at he1;cases hj:l[j]? with
    | none=>rw [hj] at he1;split at he1<;>split at he1<;>cases he1
    | some e =>
     rw [hj] at he1;refine ⟨e,rfl,?_⟩;split at he1<;>split at he1<;>cases he1<;>simp_all
   have hent2:∀ (j:Nat) e,l[j]?=some e->∃ e1,l1[j]?=some e1/\e1.src=(if (j:Int)∈x.Out then (k:Int) else e.src)/\e1.dst=(if (j:Int)∈x.In then (k:Int) else e.dst):=fun j e he=>by
    have hlt:j<l1.length:=by have:=ro R k _ _ _ ho;have:=rp R k _ _ _ h2;have:=(Kt.1 he).1;omega
    obtain ⟨e',h1,h3⟩:=hent j _ (Ks hlt);rw [he] at h1;cases h1;exact ⟨_,Ks hlt,h3⟩
   refine ⟨by rw [ro R k _ _ _ ho];exact hl2,fun j e1 he1=>?_,fun j e1 he1=>?_,fun i y hi hy=>?_⟩
   ·obtain ⟨e,he,hs,_⟩:=hent j e1 he1;by_cases hm:(j:Int)∈x.Out
    ·rw [if_pos hm] at hs;exact .inr ⟨k,x,by omega,hx,hs,hm⟩
    ·rw [if_neg hm] at hs;rw [hs];rcases h.src j e he with h1 | ⟨i,y,h1,h2,h3,h4⟩
     ·exact .inl h1
     ·exact .inr ⟨i,y,by omega,h2,h3,h4⟩
   ·obtain ⟨e,he,_,hs⟩:=hent j e1 he1;by_cases hm:(j:Int)∈x.In
    ·rw [if_pos hm] at hs;exact .inr ⟨k,x,by omega,hx,hs,hm⟩
    ·rw [if_neg hm] at hs;rw [hs];rcases h.dst j e he with h1 | ⟨i,y,h1,h2,h3,h4⟩
     ·exact .inl h1
     ·exact .inr ⟨i,y,by omega,h2,h3,h4⟩
   ·rcases Nat.lt_or_ge i k with hik | hik
    ·obtain ⟨c1,c2,c3,c4,c5⟩:=h.node i y hik hy;refine ⟨c1,c2,c3,fun r hr=>?_,fun r hr=>?_⟩
     ·obtain ⟨d1,d2,e,d3,d4⟩:=c4 r hr;refine ⟨d1,d2,?_⟩;obtain ⟨e1,f1,_,f2⟩:=hent2 _ e d3;have hnm:(r.toNat:Int) ∉ x.In:=fun hm=>by
       have:=(a1 _ hm).2.2 e (by rw [KW];exact d3);omega
      rw [if_neg hnm] at f2;exact ⟨e1,f1,f2.trans d4⟩
     ·obtain ⟨d1,d2,e,d3,d4⟩:=c5 r hr;refine ⟨d1,d2,?_⟩;obtain ⟨e1,f1,f2,_⟩:=hent2 _ e d3;have hnm:(r.toNat:Int) ∉ x.Out:=fun hm=>by
       have hl2e:∃ e2,l2[r.toNat]?=some e2/\e2.src=e.src:=by rw [a3];split<;>simp [d3]
       obtain ⟨e2,g1,g2⟩:=hl2e;have:=(b1 _ hm).2.2 e2 (by rw [KW];exact g1);omega
      rw [if_neg hnm] at f2;exact ⟨e1,f1,f2.trans d4⟩
    ·have hik:i=k:=by omega
     subst hik;rw [hx] at hy;cases hy;refine ⟨by simpa using hne,a2,b2,fun r hr=>?_,fun r hr=>?_⟩
     ·obtain ⟨d1,d2,_⟩:=a1 r hr;refine ⟨d1,d2,?_⟩;have hlt:r.toNat<l.length:=by have:=h.len;omega
      obtain ⟨e1,f1,_,f2⟩:=hent2 _ _ (Ks hlt);rw [if_pos (by rw [Le d1];exact hr)] at f2;exact ⟨e1,f1,f2⟩
     ·obtain ⟨d1,d2,_⟩:=b1 r hr;refine ⟨d1,d2,?_⟩;have hlt:r.toNat<l.length:=by have:=h.len;omega
      obtain ⟨e1,f1,f2,_⟩:=hent2 _ _ (Ks hlt);rw [if_pos (by rw [Le d1];exact hr)] at f2;exact ⟨e1,f1,f2⟩
theorem Looked.start (ns:List Node) (R:Nat):Looked ns R 0 (List.replicate R fQ) :=
 ⟨by simp,fun j e he=>by rw [LD] at he;split at he<;>cases he;exact .inl (by decide),fun j e he=>by rw [LD] at he;split at he<;>cases he;exact .inl (by decide),fun i x hi=>by omega⟩
theorem xF (ns:List Node) (R:Int):∀ (xs:List Node) (k s:Nat) (l:List Ends) (s1:Nat) (l1:List Ends),ns.drop k=xs->Looked ns R k l->hY R k xs s l=.inr (s1,l1) ->
  Looked ns R ns.length l1/\s1=s+(xs.filter (fun x=>decide (x.Kind=8))).length
 | [],k,s,l,s1,l1,hd,h,hn=>by
  cases hn;have hk:ns.length<=k:=List.drop_eq_nil_iff.1 hd;refine ⟨⟨h.len,fun j e he=>?_,fun j e he=>?_,fun i x hi hx=>h.node i x (by omega) hx⟩,by simp⟩
  ·rcases h.src j e he with h1 | ⟨i,y,h1,h2,h3⟩
   ·exact .inl h1
   ·exact .inr ⟨i,y,(Kt.1 h2).1,h2,h3⟩
  ·rcases h.dst j e he with h1 | ⟨i,y,h1,h2,h3⟩
   ·exact .inl h1
   ·exact .inr ⟨i,y,(Kt.1 h2).1,h2,h3⟩
 | x::xs,k,s,l,s1,l1,hd,h,hn=>by
  have hx:ns[k]?=some x:=by have:=congrArg (fun l=>l[0]?) hd;simpa [K4] using this
  have hd2:ns.drop (k+1)=xs:=by have:=congrArg (List.drop 1) hd;simpa [L3,Md] using this
  unfold hY at hn;split at hn
  ·cases hn
  ·rename_i l2 h2;obtain ⟨a,b⟩:=xF ns R xs (k+1) _ l2 s1 l1 hd2 (h.one hx h2) hn;refine ⟨a,?_⟩;rw [b];by_cases h8:x.Kind=8
   ·simp [h8];omega
   ·simp [h8]
structure NetL (n:Net) (l:List Ends):Prop where
 n1:1<=n.Nodes.length
 n2:n.Nodes.length<=12
 r1:0<=n.Rings
 r2:n.Rings<=16
 m1:1<=n.Room
 m2:n.Room<=6
 len:(l.length:Int)=n.Rings
 src:∀ (j:Nat) e,l[j]?=some e->∃ (i:Nat) (x:Node),n.Nodes[i]?=some x/\e.src=i/\(j:Int)∈x.Out
 dst:∀ (j:Nat) e,l[j]?=some e->∃ (i:Nat) (x:Node),n.Nodes[i]?=some x/\e.dst=i/\(j:Int)∈x.In
 err:∀ (i:Nat) x,n.Nodes[i]?=some x->jT x=0
 ndI:∀ (i:Nat) x,n.Nodes[i]?=some x->x.In.Nodup
 ndO:∀ (i:Nat) x,n.Nodes[i]?=some x->x.Out.Nodup
 inn:∀ (i:Nat) x,n.Nodes[i]?=some x->∀ r∈x.In,0<=r/\r<n.Rings/\∃ e,l[r.toNat]?=some e/\e.dst=i
 out:∀ (i:Nat) x,n.Nodes[i]?=some x->∀ r∈x.Out,0<=r/\r<n.Rings/\∃ e,l[r.toNat]?=some e/\e.src=i
 sink:(n.Nodes.filter (fun x=>decide (x.Kind=8))).length=1
theorem zo {n:Net} {l:List Ends} (h:ii n=.inr l):NetL n l:=by
 unfold ii at h;split at h
 ·cases h
 ·rename_i h1;split at h
  ·cases h
  ·rename_i h2;split at h
   ·cases h
   ·rename_i s l' hn;split at h
    ·cases h
    ·rename_i hany;split at h
     ·cases h
     ·rename_i hs;cases h;have hst:=Looked.start n.Nodes n.Rings.toNat;rw [Le (by omega)] at hst;obtain ⟨a,b⟩:=xF n.Nodes n.Rings n.Nodes 0 0 _ s l (by simp) hst hn;have hpos:∀ (j:Nat) e,l[j]?=some e->¬ e.src<0/\¬ e.dst<0:=fun j e he=>by
       have hm:=Ku he;simp only [Mw,not_exists,not_and] at hany;have:=hany e hm;simp at this;omega
      refine ⟨by omega,by omega,by omega,by omega,by omega,by omega,a.len,fun j e he=>?_,fun j e he=>?_,fun i x hx=>(a.node i x (Kt.1 hx).1 hx).1,fun i x hx=>(a.node i x (Kt.1 hx).1 hx).2.1,fun i x hx=>(a.node i x (Kt.1 hx).1 hx).2.2.1,fun i x hx=>(a.node i x (Kt.1 hx).1 hx).2.2.2.1,fun i x hx=>(a.node i x (Kt.1 hx).1 hx).2.2.2.2,by omega⟩
      ·rcases a.src j e he with h3 | ⟨i,y,_,h4⟩
       ·exact absurd h3 (hpos j e he).1
       ·exact ⟨i,y,h4⟩
      ·rcases a.dst j e he with h3 | ⟨i,y,_,h4⟩
       ·exact absurd h3 (hpos j e he).2
       ·exact ⟨i,y,h4⟩
section
def jY (ok:Nat->Bool):Nat->Nat->Option Nat
 | 0,_=>none
 | m+1,k=>if ok k then some k else jY ok m (k+1)
theorem wJ {ok:Nat->Bool}:∀ {m k i:Nat},jY ok m k=some i->k<=i/\i<k+m/\ok i=true
 | 0,k,i,h=>by cases h
 | m+1,k,i,h=>by
  unfold jY at h;split at h
  ·rename_i hk;cases h;exact ⟨by omega,by omega,hk⟩
  ·obtain ⟨a,b,c⟩:=wJ h;exact ⟨by omega,by omega,c⟩
def fedN (l:List Ends) (out:List Nat) (x:Node):Bool:=x.In.all fun r=>match l[r.toNat]? with | some e=>out.contains e.src.toNat | none=>false
def okN (l:List Ends) (out:List Nat) (ns:List Node) (i:Nat):Bool:=!(out.contains i) && (match ns[i]? with | some x=>fedN l out x | none=>false)
def ordN (l:List Ends) (ns:List Node):Nat->List Nat->Option (List Nat)
 | 0,out=>some out
 | m+1,out=>match jY (okN l out ns) ns.length 0 with
  | none=>none
  | some i=>ordN l ns m (out++[i])
def netR (n:Net):List Int × Int:=match ii n with
 | .inl e=>([],e)
 | .inr l=>match ordN l n.Nodes n.Nodes.length [] with
  | none=>([],7)
  | some out=>(out.map (fun i:Nat=>(i:Int)),0)
def cM (N:Nat) (out:List Nat):List Bool:=(List.range N).map fun i=>out.contains i
theorem lf {N:Nat} {out:List Nat} {i:Nat} (h:i<N):(cM N out)[i]?=some (out.contains i):=by unfold cM;rw [KA,LT h];rfl
theorem lh {N:Nat} {out:List Nat}:(cM N out).length=N:=by simp [cM]
theorem EX {N:Nat} {out:List Nat} {i:Nat} (h:i<N):(cM N out).set i true=cM N (out++[i]):=by
 apply LE;intro j;rw [KF,lh];by_cases hj:j<N
 ·rw [lf hj];by_cases hij:i=j
  ·subst hij;rw [if_pos rfl,if_pos h,lf h];simp
  ·rw [if_neg hij,lf hj];have:¬ j=i:=fun e=>hij e.symm
   simp [this]
 ·rw [KZ (by rw [lh];omega),KZ (by rw [lh];omega),if_neg (by omega)]
theorem EU (N:Nat):List.replicate N false=cM N []:=by
 apply LE;intro j;rw [LD];by_cases hj:j<N
 ·rw [if_pos hj,lf hj];rfl
 ·rw [if_neg hj,KZ (by rw [lh];omega)]
theorem G3 {n:Net} (out:List Nat) (ho:out.length<=12) (z:Option Nat) (hz:∀ i,z=some i->i<n.Nodes.length):kL (out.map (fun i:Nat=>(i:Int))) (cM n.Nodes.length out) (match z with | some i=>(i:Int) | none => -1)=match z with
  | some i=>some (.inl ((out++[i]).map (fun i:Nat=>(i:Int)),cM n.Nodes.length (out++[i])))
  | none=>some (.inr ([],7)):=by
 unfold kL
 cases z with
 | none=>rfl
 | some i =>
  have hi:=hz i rfl
  simp only
  rw [if_neg (by rw [decide_eq_true_iff];omega)]
  have e1:ixN (cM n.Nodes.length out) (i:Int)=some i:=by unfold ixN;rw [if_pos (by rw [lh];omega)];rfl
  simp only [e1,Kr,lf hi]
  rw [cx (by simp;omega),Kr,EX hi]
  simp
section
variable {n:Net} {l:List Ends} (hn:NetL n l)
include hn
theorem IB {j:Nat} {e:Ends} (h:l[j]?=some e):0<=e.src/\e.src.toNat<n.Nodes.length:=by obtain ⟨i,x,h1,h2,_⟩:=hn.src j e h;have:=(Kt.1 h1).1;omega
theorem ER {i:Nat} {x:Node} (hx:n.Nodes[i]?=some x) (out:List Nat) {r:Int} (hr:r∈x.In) :
  oM r (cM n.Nodes.length out) l=some (!(match l[r.toNat]? with | some e=>out.contains e.src.toNat | none=>false)):=by
 obtain ⟨h1,h2,e,h3,_⟩:=hn.inn i x hx r hr
 have hlt:=(Kt.1 h3).1
 obtain ⟨h4,h5⟩:=IB hn h3
 have e1:ixN l r=some r.toNat:=by unfold ixN;rw [if_pos (by omega)]
 have e2:ixN (cM n.Nodes.length out) e.src=some e.src.toNat:=by unfold ixN;rw [if_pos (by rw [lh];omega)]
 unfold oM
 simp only [e1,Kr,h3,e2,lf h5]
theorem Ev {i:Nat} {x:Node} (hx:n.Nodes[i]?=some x) (out:List Nat) (hl:x.In.length<=1099511627776):l9 x.In (cM n.Nodes.length out) l=some (!fedN l out x):=by
 unfold l9 qM;have:=mW (σ:=Unit) x.In hl (fun k _=>(k:Int)) (body:=fun ss=>ma x.In (cM n.Nodes.length out) l ss)
  (fun k r _=>if (match l[r.toNat]? with | some e=>out.contains e.src.toNat | none=>false)=false then some (.inr (k:Int)) else some (.inl ())) (fun _=>some (-1)) ()
  (fun k r _ hk hlt h1 h2 h3=>by unfold ma;rw [h2,h1,h3];simp only [if_true,Kr];rw [ER hn hx out (Ku hk),Kr];generalize (match l[r.toNat]? with | some e=>out.contains e.src.toNat | none=>false)=b;cases b<;>rfl)
  (fun _ h=>by unfold ma;rw [h];rfl)
 simp only [K3] at this;rw [this];have key:∀ (ys:List Int) (k:Nat),∃ v:Int,dG (σ:=Unit) (fun k r _=>if (match l[r.toNat]? with | some e=>out.contains e.src.toNat | none=>false)=false then some (.inr (k:Int)) else some (.inl ())) (fun _=>some (-1:Int)) k ys ()=some v /\
   decide (v >= 0)=!(ys.all fun r=>match l[r.toNat]? with | some e=>out.contains e.src.toNat | none=>false):=by
  intro ys
  induction ys with
  | nil=>intro k;exact ⟨-1,rfl,by simp⟩
  | cons y ys ih =>
   intro k
   unfold dG
   by_cases h:(match l[y.toNat]? with | some e=>out.contains e.src.toNat | none=>false)=false
   ·rw [if_pos h]
    exact ⟨k,rfl,by rw [MD,h];simp⟩
   ·rw [if_neg h]
    simp only
    obtain ⟨v,h1,h2⟩:=ih (k+1)
    refine ⟨v,h1,?_⟩
    rw [h2,MD]
    have h':(match l[y.toNat]? with | some e=>out.contains e.src.toNat | none=>false)=true:=by simpa using h
    rw [h'];simp
 obtain ⟨v,h1,h2⟩:=key x.In 0;rw [h1,Kr,h2];rfl
theorem zB (hio:∀ x∈n.Nodes,x.In.length<=1099511627776) (q:Int) (out:List Nat) (ho:out.length<=12):∀ (m k:Nat),k+m=n.Nodes.length ->
  iter (fun ss:Int=>jy n (l,q) (out.map (fun i:Nat=>(i:Int))) (cM n.Nodes.length out) ss) (k:Int)=match jY (okN l out n.Nodes) m k with
   | some i=>some (.inl ((out++[i]).map (fun i:Nat=>(i:Int)),cM n.Nodes.length (out++[i])))
   | none=>some (.inr ([],7))
 | 0,k,h=>by
  have hk:k=n.Nodes.length:=by omega
  subst hk;have:jy n (l,q) (out.map (fun i:Nat=>(i:Int))) (cM n.Nodes.length out) (n.Nodes.length:Int)=some (.inr (.inr ([],7))):=by unfold jy;rw [if_neg (by simp)];rfl
  rw [aG,this];rfl
 | m+1,k,h=>by
  have hlt:k<n.Nodes.length:=by omega
  have hn2:=hn.n2;have hx:n.Nodes[k]?=some n.Nodes[k]:=Ks hlt;have e1:ixN (cM n.Nodes.length out) (k:Int)=some k:=by unfold ixN;rw [if_pos (by rw [lh];omega)];rfl
  have hstep:jy n (l,q) (out.map (fun i:Nat=>(i:Int))) (cM n.Nodes.length out) (k:Int)=if okN l out n.Nodes k then some (.inr (.inl ((out++[k]).map (fun i:Nat=>(i:Int)),cM n.Nodes.length (out++[k])))) else some (.inl ((k+1:Nat):Int)):=by
   unfold jy;rw [if_pos (by simp;omega),bu hx,Kr];simp only [e1,Kr,lf hlt];have hok:okN l out n.Nodes k=(!(out.contains k) && fedN l out n.Nodes[k]):=by unfold okN;rw [hx]
   have hin:(if (!(out.contains k))=true then (l9 n.Nodes[k].In (cM n.Nodes.length out) l).bind fun x12=>some (!x12) else some false)=some (okN l out n.Nodes k):=by rw [Ev hn hx out (hio _ (K1 hlt)),hok];cases out.contains k<;>simp
   rw [hin,Kr,br (by omega)];by_cases hb:okN l out n.Nodes k=true
   ·rw [if_pos hb,if_pos hb];have:=G3 (n:=n) out ho (some k) (fun i e=>by cases e;exact hlt);simp only at this;rw [this];rfl
   ·rw [if_neg hb,if_neg hb]
  rw [aG,hstep,jY];by_cases hb:okN l out n.Nodes k=true
  ·simp only [if_pos hb]
  ·simp only [if_neg hb];exact zB hio q out ho m (k+1) (by omega)
theorem yr (hio:∀ x∈n.Nodes,x.In.length<=1099511627776) (q:Int):∀ (m:Nat) (out:List Nat),out.length+m=n.Nodes.length ->
  iter (fun ss:List Int × List Bool=>jC n (l,q) ss.1 ss.2) (out.map (fun i:Nat=>(i:Int)),cM n.Nodes.length out)=some (match ordN l n.Nodes m out with
   | none=>([],7)
   | some out=>(out.map (fun i:Nat=>(i:Int)),0))
 | 0,out,h=>by
  have:jC n (l,q) (out.map (fun i:Nat=>(i:Int))) (cM n.Nodes.length out)=some (.inr (out.map (fun i:Nat=>(i:Int)),0)):=by unfold jC;rw [if_neg (by simp;omega)];rfl
  rw [aG];simp only [this,ordN]
 | m+1,out,h=>by
  have hstep:jC n (l,q) (out.map (fun i:Nat=>(i:Int))) (cM n.Nodes.length out)=match jY (okN l out n.Nodes) n.Nodes.length 0 with
   | some i=>some (.inl ((out++[i]).map (fun i:Nat=>(i:Int)),cM n.Nodes.length (out++[i])))
   | none=>some (.inr ([],7)):=by
   unfold jC
   rw [if_pos (by simp;omega)]
   have:=zB hn hio q out (by have:=hn.n2;omega) n.Nodes.length 0 (by omega)
   simpa using this
  rw [aG];simp only [hstep,ordN];cases jY (okN l out n.Nodes) n.Nodes.length 0 with
  | none=>rfl
  | some i =>
   simp only;exact yr hio q m (out++[i]) (by simp;omega)
end
theorem yN (R i:Int):∀ (rs:List Int) (l:List Ends),fU R i rs l≠.inl 0
 | [],l,h=>by cases h
 | r::rs,l,h=>by
  unfold fU at h;split at h
  ·exact absurd (LR h) (by decide)
  ·split at h
   ·exact absurd (LR h) (by decide)
   ·split at h
    ·exact absurd (LR h) (by decide)
    ·exact yN R i rs _ h
theorem yL (R i:Int):∀ (rs:List Int) (l:List Ends),e6 R i rs l≠.inl 0
 | [],l,h=>by cases h
 | r::rs,l,h=>by
  unfold e6 at h;split at h
  ·exact absurd (LR h) (by decide)
  ·split at h
   ·exact absurd (LR h) (by decide)
   ·split at h
    ·exact absurd (LR h) (by decide)
    ·exact yL R i rs _ h
theorem Hh (R:Int) (i:Nat) (x:Node) (l:List Ends):oneN R i x l≠.inl 0:=fun h=>by
 unfold oneN at h;split at h
 ·rename_i hne;exact hne (LR h)
 ·split at h
  ·rename_i h2;cases h;exact yN _ _ _ _ h2
  ·exact yL _ _ _ _ h
theorem xB (R:Int):∀ (xs:List Node) (k s:Nat) (l:List Ends),hY R k xs s l≠.inl 0
 | [],k,s,l,h=>by cases h
 | x::xs,k,s,l,h=>by
  unfold hY at h;split at h
  ·rename_i h2;cases h;exact Hh _ _ _ _ h2
  ·exact xB R xs _ _ _ h
theorem y6 (n:Net):ii n≠.inl 0:=fun h=>by
 unfold ii at h;split at h
 ·exact absurd (LR h) (by decide)
 ·split at h
  ·exact absurd (LR h) (by decide)
  ·split at h
   ·rename_i h2;cases h;exact xB _ _ _ _ _ h2
   ·split at h
    ·exact absurd (LR h) (by decide)
    ·split at h
     ·exact absurd (LR h) (by decide)
     ·cases h
theorem DC (n:Net) (hio:∀ x∈n.Nodes,x.In.length<=1099511627776/\x.Out.length<=1099511627776):pu n=some (netR n):=by
 unfold pu netR;rw [DX n hio,Kr];cases h:ii n with
 | inl e =>
  simp only;have he:e≠0:=fun e0=>y6 n (e0▸h)
  rw [if_pos (by simpa using he)]
 | inr l =>
  simp only;have hn:=zo h;rw [if_neg (by simp)];have hmk:mk (n.Nodes.length:Int) false=some (cM n.Nodes.length []):=by unfold mk;rw [if_pos (by have:=hn.n2;omega),<- EU];rfl
  rw [hmk,Kr];have:=yr hn (fun x hx=>(hio x hx).1) 0 n.Nodes.length [] (by simp);simp only [My] at this;rw [this]
theorem wj (n:Net) (hio:∀ x∈n.Nodes,x.In.length<=1099511627776/\x.Out.length<=1099511627776):ne n=some (netR n).2:=by unfold ne;rw [DC n hio];rfl
end
section
theorem wc {κ ν:Type} [DecidableEq κ] (k:κ) (v:ν):∀ m:List (κ × ν),mget k (mset k v m)=some v
 | []=>by simp [mset,mget]
 | p::r=>by
  unfold mset;split
  ·simp [mget]
  ·rename_i h;simp only [mget,if_neg h];exact wc k v r
theorem wy {κ ν:Type} [DecidableEq κ] {k k':κ} (v:ν) (hk:k≠k'):∀ m:List (κ × ν),mget k (mset k' v m)=mget k m
 | []=>by simp [mset,mget,hk]
 | p::r=>by
  unfold mset;split
  ·rename_i h;simp only [mget,if_neg hk];rw [if_neg (fun e=>hk (e.trans h.symm))]
  ·simp only [mget];rw [wy v hk r]
theorem wF {κ ν:Type} [DecidableEq κ] {k:κ} (v:ν):∀ {m:List (κ × ν)},mget k m=none->(mset k v m).length=m.length+1
 | [],_=>rfl
 | p::r,h=>by
  simp only [mget] at h;split at h
  ·cases h
  ·rename_i hk;simp only [mset,if_neg hk,KH];rw [wF v h]
structure MRi (v:List Int) (m:List (Int × Int)):Prop where
 len:m.length=v.countP (fun x=>decide (0<=x))
 get:∀ (j:Nat) x,v[j]?=some x->mget (j:Int) m=if x<0 then none else some x
theorem MRi.set {v:List Int} {m:List (Int × Int)} (h:MRi v m) {j:Nat} {x y:Int} (hx:v[j]?=some x) (h0:x<0) (h1:0<=y):MRi (v.set j y) (mset (j:Int) y m):=by
 have hlt:=(Kt.1 hx).1;have hv:v[j]=x:=(Kt.1 hx).2;have hn:mget (j:Int) m=none:=by rw [h.get j x hx,if_pos h0]
 refine ⟨?_,fun k z hz=>?_⟩
 ·rw [wF y hn,h.len,List.countP_set hlt,hv];have a:¬ 0<=x:=by omega
  simp [a,h1]
 ·rw [KF] at hz;by_cases hjk:j=k
  ·subst hjk;rw [if_pos rfl,if_pos hlt] at hz;cases hz;rw [wc,if_neg (by omega)]
  ·rw [if_neg hjk] at hz;rw [wy y (by omega)];exact h.get k z hz
theorem MRi.start (R:Nat):MRi (List.replicate R (-1)) []:=by
 refine ⟨?_,fun j x hx=>?_⟩
 ·simp [List.countP_replicate]
 ·rw [LD] at hx;split at hx<;>cases hx;rfl
section
variable {n:Net} {l:List Ends} (hn:NetL n l) {fr:List (Int × Int)} (hm:MRi (l.map Ends.src) fr)
include hn hm
end
end
theorem Ak {n:Net} (h:(netR n).2=0):∃ l out,ii n=.inr l/\NetL n l/\ordN l n.Nodes n.Nodes.length []=some out/\netR n=(out.map (fun i:Nat=>(i:Int)),0):=by
 unfold netR at h ⊢;cases hl:ii n with
 | inl e=>rw [hl] at h;simp only at h;subst h;exact absurd hl (y6 n)
 | inr l =>
  rw [hl] at h;simp only at h ⊢;cases ho:ordN l n.Nodes n.Nodes.length [] with
  | none=>rw [ho] at h;simp at h
  | some out=>exact ⟨l,out,rfl,zo hl,ho,rfl⟩
def gX:List (List Item)->Int
 | []=>0
 | s::r=>if 20<s.length then 2 else if s.any (fun x=>decide (x.Dep≠0)) then 4 else gX r
def iP (len:Nat):List Node->List Int->Int
 | [],_=>0
 | x::xs,seen=>if x.Kind≠1 then iP len xs seen else if (len:Int)<=x.A then 5 else if x.A∈seen then 6 else iP len xs (x.A::seen)
def cj (n:Net) (l:List (List Item)):Int:=if (netR n).2≠0 then (netR n).2 else if 4<l.length then 2 else if gX l≠0 then gX l else iP l.length n.Nodes []
theorem xa (l:List (List Item)) (hl:l.length<=4) {body:Int->Option (Int ⊕ Int)} {inner:Nat->List Item->Int->Option (Int ⊕ (Int ⊕ Int))} (fin:Option Int)
  (h1:∀ (k:Nat) s,l[k]?=some s->k<l.length->body (k:Int)=if 20<s.length then some (.inr 2) else iter (inner k s) 0)
  (h2:body (l.length:Int)=fin.map Sum.inr)
  (h3:∀ (k:Nat) s (j:Nat) x,l[k]?=some s->k<l.length->s[j]?=some x->j<20->inner k s (j:Int)=if x.Dep≠0 then some (.inr (.inr 4)) else some (.inl ((j+1:Nat):Int)))
  (h4:∀ (k:Nat) s,l[k]?=some s->k<l.length->inner k s (s.length:Int)=some (.inr (.inl ((k+1:Nat):Int)))) :
  ∀ (m k:Nat),k+m=l.length->iter body (k:Int)=if gX (l.drop k)≠0 then some (gX (l.drop k)) else fin
 | 0,k,h=>by
  have hk:k=l.length:=by omega
  subst hk;rw [aG,h2,Lm];simp only [gX,ne_eq,not_true_eq_false,if_false];cases fin<;>rfl
 | m + 1,k,h=>by
  have hlt:k<l.length:=by omega
  have hs:l[k]?=some l[k]:=Ks hlt;rw [aG,h1 k _ hs hlt,KC hlt];generalize hsq:l[k]=s at *;simp only [gX];by_cases h20:20<s.length
  ·simp [h20]
  ·simp only [if_neg h20];have key:∀ (q j:Nat),j+q=s.length->iter (inner k s) (j:Int)=if (s.drop j).any (fun x=>decide (x.Dep≠0)) then some (.inr 4) else some (.inl ((k+1:Nat):Int)):=by
    intro q;induction q with
    | zero =>
     intro j hj;have hj:j=s.length:=by omega
     subst hj;rw [aG,h4 k s hs hlt,Lm];simp
    | succ q ih =>
     intro j hj;have hjl:j<s.length:=by omega
     rw [aG,h3 k s j s[j] hs hlt (Ks hjl) (by omega),KC hjl,List.any_cons];by_cases hd:s[j].Dep≠0
     ·simp [hd]
     ·rw [if_neg hd];simp only;rw [ih (j+1) (by omega)];simp [hd]
   have:=key s.length 0 (by omega);simp only [K3,Lc] at this;rw [this];by_cases hany:s.any (fun x=>decide (x.Dep≠0))=true
   ·simp only [if_pos hany];simp
   ·simp only [if_neg hany];exact xa l hl fin h1 h2 h3 h4 m (k+1) (by omega)
theorem Fs {N:Nat} (hN:N<=4) (seen:List Int) {a:Int} (h0:0<=a) (h1:a<N):((List.range N).map fun i:Nat=>decide ((i:Int)∈seen))[a.toNat]?=some (decide (a∈seen)):=by rw [KA,LT (by omega)];simp only [Lh,LF];rw [Le h0]
theorem tF (n:Net) (l:List (List Item)) (hl:l.length<=4) (hn:n.Nodes.length<=12) (hA:∀ x∈n.Nodes,0<=x.A):∀ (m k:Nat) (seen:List Int),k+m=n.Nodes.length ->
  iter (fun ss:Int × List Bool=>jr n l ss.1 ss.2) ((k:Int),(List.range l.length).map fun i:Nat=>decide ((i:Int)∈seen))=some (iP l.length (n.Nodes.drop k) seen)
 | 0,k,seen,h=>by
  have hk:k=n.Nodes.length:=by omega
  subst hk;have:∀ b,jr n l (n.Nodes.length:Int) b=some (.inr 0):=fun b=>by unfold jr;rw [if_neg (by simp)];rfl
  rw [aG];simp only [this,Lm,iP]
 | m + 1,k,seen,h=>by
  have hlt:k<n.Nodes.length:=by omega
  have hx:n.Nodes[k]?=some n.Nodes[k]:=Ks hlt;have hA':=hA _ (K1 hlt);rw [KC hlt,aG];generalize hxq:n.Nodes[k]=x at *;simp only [iP];have hstep:jr n l (k:Int) ((List.range l.length).map fun i:Nat=>decide ((i:Int)∈seen))=if x.Kind≠1 then some (.inl (((k+1:Nat):Int),(List.range l.length).map fun i:Nat=>decide ((i:Int)∈seen))) else if (l.length:Int)<=x.A then some (.inr 5) else if x.A∈seen then some (.inr 6) else some (.inl (((k+1:Nat):Int),(List.range l.length).map fun i:Nat=>decide ((i:Int)∈x.A::seen))):=by
   unfold jr;rw [if_pos (by simp;omega),bu hx,Kr,br (by omega)];by_cases h1:x.Kind≠1
   ·rw [if_pos (by simpa using h1),if_pos h1]
   ·rw [if_neg (by simpa using h1),if_neg h1];by_cases h2:(l.length:Int)<=x.A
    ·rw [if_pos (by simpa using h2),if_pos h2];rfl
    ·rw [if_neg (by simpa using h2),if_neg h2];have hix:ixN ((List.range l.length).map fun i:Nat=>decide ((i:Int)∈seen)) x.A=some x.A.toNat:=by unfold ixN;rw [if_pos (by simp;omega)]
     have hg:=Fs hl seen hA' (show x.A<l.length by omega);simp only [hix,hg,Kr];by_cases h3:x.A∈seen
     ·simp [h3]
     ·simp only [h3,decide_false,KD,if_false];congr 3;apply LE;intro j;rw [KF,KA,KA];by_cases hj:j<l.length
      ·rw [LT hj];simp only [KE,List.length_range,Lh];by_cases hjx:x.A.toNat=j
       ·rw [if_pos hjx,if_pos (by omega)];have:(j:Int)=x.A:=by omega
        simp [this]
       ·rw [if_neg hjx];have:¬ (j:Int)=x.A:=by omega
        simp [this]
      ·rw [if_neg (by omega),KZ (by simp;omega)];rfl
  rw [hstep];by_cases h1:x.Kind≠1
  ·simp only [if_pos h1];exact tF n l hl hn hA m (k+1) seen (by omega)
  ·simp only [if_neg h1];by_cases h2:(l.length:Int)<=x.A
   ·simp only [if_pos h2]
   ·simp only [if_neg h2];by_cases h3:x.A∈seen
    ·simp only [if_pos h3]
    ·simp only [if_neg h3];exact tF n l hl hn hA m (k+1) (x.A::seen) (by omega)
theorem nodeA {n:Net} {l:List Ends} (h:NetL n l):∀ x∈n.Nodes,0<=x.A:=fun x hx=>by
 obtain ⟨i,hi,rfl⟩:=List.mem_iff_getElem.1 hx;have:=h.err i _ (Ks hi);unfold jT at this;split at this
 ·exact absurd this (by decide)
 ·split at this
  ·exact absurd this (by decide)
  ·split at this
   ·exact absurd this (by decide)
   ·rename_i hb;unfold badA at hb;simp at hb;omega
theorem q4 (n:Net) (l:List (List Item)) (hio:∀ x∈n.Nodes,x.In.length<=1099511627776/\x.Out.length<=1099511627776):jM n l=some (cj n l):=by
 unfold jM cj;rw [wj n hio,Kr];by_cases h:(netR n).2=0
 ·obtain ⟨le,out,_,hl,_,_⟩:=Ak h;rw [if_neg (show ¬ ((netR n).2 != 0)=true by simp [h]),if_neg (show ¬ (netR n).2≠0 by simp [h])];by_cases h4:4<l.length
  ·rw [if_pos (by simp;omega),if_pos h4]
  ·rw [if_neg (by simp;omega),if_neg h4];have hmk:mk (l.length:Int) false=some ((List.range l.length).map fun i:Nat=>decide ((i:Int)∈([]:List Int))):=by
    unfold mk;rw [if_pos (by omega)];congr 1;simp [List.map_const']
   have hseen:=tF n l (by omega) hl.n2 (nodeA hl) n.Nodes.length 0 [] (by omega);simp only [K3,Lc] at hseen;have:=xa l (by omega) (body:=fun ss=>mA n l ss) (inner:=fun k s ss=>mz k s ss) (some (iP l.length n.Nodes []))
    (fun k s hs hlt=>by
     unfold mA;rw [if_pos (by simp;omega),bu hs,Kr];by_cases h20:20<s.length
     ·rw [if_pos (by simp;omega),if_pos h20];rfl
     ·rw [if_neg (by simp;omega),if_neg h20])
    (by unfold mA;rw [if_neg (by simp),hmk,Kr,hseen])
    (fun k s j x hs hlt hx hj=>by
     have hjl:=(Kt.1 hx).1;unfold mz;rw [if_pos (by simp;omega),bu hx,Kr,br (by omega)];by_cases hd:x.Dep≠0
     ·rw [if_pos (by simpa using hd),if_pos hd];rfl
     ·rw [if_neg (by simpa using hd),if_neg hd])
    (fun k s hs hlt=>by unfold mz;rw [if_neg (by simp),br (by omega)];rfl) l.length 0 (by omega)
   simp only [K3,Lc] at this;rw [this];by_cases hi:gX l≠0
   ·rw [if_pos hi,if_pos hi]
   ·rw [if_neg hi,if_neg hi]
 ·rw [if_pos (by simpa using h),if_pos h]
def meetN:Net:=⟨[⟨1,0,[],[0]⟩,⟨1,1,[],[1]⟩,⟨6,0,[0,1],[2]⟩,⟨8,0,[2],[]⟩],3,1⟩
def dI:List (List Item):=[[⟨1,1,0⟩],[⟨2,2,0⟩]]
theorem Ho:∀ x∈meetN.Nodes,x.In.length<=1099511627776/\x.Out.length<=1099511627776:=by decide
theorem yJ:cj meetN dI=0:=by decide
theorem yT (l:List Ends) (ns:List Node):∀ (m:Nat) (out o:List Nat),ordN l ns m out=some o->o.length=out.length+m
 | 0,out,o,h=>by cases h;rfl
 | m+1,out,o,h=>by
  unfold ordN at h;split at h
  ·cases h
  ·have:=yT l ns m _ o h;simp at this;omega
theorem xI {l:List Ends} {ns:List Node}:∀ {m:Nat} {out o:List Nat},ordN l ns m out=some o->out.Nodup->(∀ x∈out,x<ns.length) ->
  o.Nodup/\(∀ x∈o,x<ns.length)/\out <+: o/\∀ (p i:Nat),out.length<=p->o[p]?=some i->okN l (o.take p) ns i=true
 | 0,out,o,h,h1,h2=>by
  cases h;exact ⟨h1,h2,List.prefix_refl _,fun p i hp hi=>by rw [KZ hp] at hi;cases hi⟩
 | m+1,out,o,h,h1,h2=>by
  unfold ordN at h;split at h
  ·cases h
  ·rename_i i hi;obtain ⟨_,hlt,hok⟩:=wJ hi;have hni:i ∉ out:=by
    unfold okN at hok;rw [Ly] at hok;simpa using hok.1
   obtain ⟨a,b,c,d⟩:=xI h (List.nodup_append.2 ⟨h1,by simp,by intro x hx y hy;simp at hy;subst hy;rintro rfl;exact hni hx⟩) (fun x hx=>by
    rcases KJ.1 hx with hx | hx
    ·exact h2 x hx
    ·simp at hx;omega)
   refine ⟨a,b,(List.prefix_append out [i]).trans c,fun p j hp hj=>?_⟩;by_cases hpe:p=out.length
   ·subst hpe;obtain ⟨t,ht⟩:=c;rw [<- ht] at hj ⊢;simp only [KM,LO,KY (Kx _),Mn] at hj;simp at hj;subst hj;rw [KM,Mc];exact hok
   ·exact d p j (by simp;omega) hj
theorem tj:∀ (N:Nat) (l:List Nat),l.Nodup->(∀ x∈l,x<N)->l.length<=N
 | 0,l,_,h=>by
  cases l with
  | nil=>exact Kx _
  | cons x l=>exact absurd (h x KQ) (by omega)
 | N+1,l,hd,h=>by
  have:=tj N (l.erase N) (hd.erase N) (fun x hx=>by have h1:=(List.Nodup.mem_erase_iff hd).1 hx;have:=h x h1.2;omega)
  by_cases hm:N∈l
  ·rw [List.length_erase_of_mem hm] at this;omega
  ·rw [List.erase_of_not_mem hm] at this;omega
theorem Gx {N:Nat} {l:List Nat} (hd:l.Nodup) (h:∀ x∈l,x<N) (hl:l.length=N) {i:Nat} (hi:i<N):i∈l:=by
 refine Classical.byContradiction fun hn=>?_
 have:=tj N (i::l) (Mz.2 ⟨hn,hd⟩) (fun x hx=>by
  rcases K0.1 hx with rfl | hx
  ·exact hi
  ·exact h x hx)
 simp at this;omega
structure OrdL (n:Net) (l:List Ends) (o:List Nat):Prop where
 nd:o.Nodup
 lt:∀ x∈o,x<n.Nodes.length
 len:o.length=n.Nodes.length
 fed:∀ (p i:Nat) (x:Node) (r:Int) (e:Ends),o[p]?=some i->n.Nodes[i]?=some x->r∈x.In->l[r.toNat]?=some e->e.src.toNat∈o.take p
theorem HJ {n:Net} {l:List Ends} {o:List Nat} (h:ordN l n.Nodes n.Nodes.length []=some o):OrdL n l o:=by obtain ⟨a,b,_,d⟩:=xI h Mq (fun x hx=>by simp at hx);have hl:=yT _ _ _ _ _ h;refine ⟨a,b,by simpa using hl,fun p i x r e hp hx hr he=>?_⟩;have:=d p i (Lj _) hp;unfold okN at this;rw [Ly,hx] at this;have h2:=this.2;simp only [fedN,Lk] at h2;have h3:=h2 r hr;rw [he] at h3;simpa using h3
theorem bnd {α β:Type} {o:Option α} {k:α->Option β} {x:α} {r:Option β} (h:o=some x) (h2:k x=r):Option.bind o k=r:=by rw [h];exact h2
theorem fy {n:Nat} {i j:Int} (h:0<=i/\i<=j/\j<=n):vwok n i j=some ():=by unfold vwok;rw [if_pos h]
theorem uh {α:Type} (a c d ys:List α) (n:Nat) (h:c.length=ys.length) (hn:ys.length<=n):cpy (a++(c++d)) a.length n ys=a++(ys++d):=by unfold cpy;rw [Mc,K7 hn,Mf hn,<- h,<- L3,L4,L4,KM]
theorem IG (a b:List Keyed) (y:Keyed) (h:a.length+b.length<=1000000):ox (a.length:Int) (a++b) [y]=some (a++y::b):=by
 unfold ox;refine G6 (fun C hC=>?_);unfold sT;have hl:(a++b).length=a.length+b.length:=Kv;have h1:([y]:List Keyed).length=1:=rfl;have w1:IntKind.i64.wrap ((((a++b).length:Nat):Int)+(([y]:List Keyed).length:Int))=((a.length+b.length+1:Nat):Int):=by rw [bw (by omega) (by omega)];omega
 have w2:IntKind.i64.wrap ((a.length:Int)+(([y]:List Keyed).length:Int))=((a.length+1:Nat):Int):=by rw [bw (by omega) (by omega)];omega
 have w3:IntKind.i64.wrap (((a.length+b.length+1:Nat):Int) - (a.length:Int))=((b.length+1:Nat):Int):=by rw [bw (by omega) (by omega)];omega
 simp only [w1,w2,w3,KW];refine bnd (fy (by omega)) ?_;rw [if_neg (by simp)];by_cases hb:b=[]
 ·subst hb;rw [if_pos (by simp)];refine bnd (cx (by simp;omega)) ?_;simp
 ·have hbl:0<b.length:=LU.2 hb;rw [if_neg (by simp;omega)];by_cases hg:a.length+b.length+1 > C
  ·rw [if_pos (by simp;omega)];refine bnd (fy (by omega)) ?_;have hz:growz (a++b) a.length C ((b.length+1:Nat):Int) (⟨0,0⟩:Keyed)=some (a++([(⟨0,0⟩:Keyed)]++List.replicate b.length (⟨0,0⟩:Keyed))):=by
    unfold growz;rw [if_pos (by rw [hl];omega),Mc,KW,L6];rfl
   refine bnd hz ?_;have hzl:(a++([(⟨0,0⟩:Keyed)]++List.replicate b.length (⟨0,0⟩:Keyed))).length=a.length+(b.length+1):=by simp<;>omega
   have e1:a.length+(b.length+1) - a.length=b.length+1:=by omega
   have c1:=uh a [(⟨0,0⟩:Keyed)] (List.replicate b.length (⟨0,0⟩:Keyed)) [y] (b.length+1) rfl (by simp);have hal:(a++([y]++List.replicate b.length (⟨0,0⟩:Keyed))).length=a.length+(b.length+1):=by simp<;>omega
   have e2:a.length+(b.length+1) - (a.length+1)=b.length:=by omega
   simp only [hzl,e1,c1,hal,e2,hl,Ln,Nat.add_sub_cancel_left,KW];refine bnd (fy (by omega)) (bnd (fy (by omega)) (bnd (fy (by omega)) (bnd (fy (by omega)) (bnd (fy (by omega)) (bnd (fy (by omega)) ?_)))));rw [L4,Lx];have c2:=uh (a++[y]) (List.replicate b.length (⟨0,0⟩:Keyed)) [] b b.length (by simp) (Kx _);simp only [LZ,Kv,LP,KM] at c2;rw [c2];simp
  ·rw [if_neg (by simp;omega)];have hx:roomx (a++b).length C ((a.length+b.length+1:Nat):Int)=some 1:=by
    unfold roomx;rw [if_pos (by rw [hl];omega),hl,KW];congr 1;omega
   refine bnd hx ?_;have e2:a.length+b.length+1 - (a.length+1)=b.length:=by omega
   have e3:a.length+b.length+1 - a.length=b.length+1:=by omega
   simp only [hl,KW,e2,e3];refine bnd (fy (by omega)) ?_;refine bnd (show ovok [y] b.length=some () by unfold ovok;rw [if_pos (by simp;omega)]) ?_;refine bnd (fy (by omega)) (bnd (fy (by omega)) ?_);have hu:cpyU (a++b) 1 (a.length+1) b.length a.length (b.length+1)=some (a++(b.take 1++b)):=by unfold cpyU;rw [if_pos (by rw [hl];omega),L4,List.take_append];simp [K7]
   refine bnd hu ?_;have htl:(b.take 1).length=1:=by simp;omega
   have hul:(a++(b.take 1++b)).length=a.length+(b.length+1):=by rw [Kv,Kv,htl];omega
   have e1:a.length+(b.length+1) - a.length=b.length+1:=by omega
   have c1:=uh a (b.take 1) b [y] (b.length+1) (by rw [htl];rfl) (by simp);simp only [hul,e1,c1,KW];refine bnd (fy (by omega)) (bnd (fy (by omega)) ?_);rfl
theorem Bl (x:Keyed) (k:Int):mS x k=some (if x.Key<k then -1 else if x.Key > k then 1 else 0):=by
 unfold mS;by_cases h1:x.Key<k
 ·simp [h1]
 ·by_cases h2:x.Key > k<;>simp [h1,h2]
def good (l:List Keyed) (i:Nat):Prop:=∀ x,l[i]?=some x->1<=x.N/\∀ j y,i=j+1->l[j]?=some y->y.Key<x.Key
theorem w5 (m : Memory) (hl:m.Keys.length<=6):∀ (n k:Nat),k+n=m.Keys.length->∃ c,iter (fun ss:Int=>gP m ss) (k:Int)=some c/\(c=0 ↔ (∀ i,k<=i->i<m.Keys.length->good m.Keys i)/\0<=m.Dep)
  | 0,k,h=>by
    have hk:k=m.Keys.length:=by omega
    subst hk;by_cases hd:m.Dep<0
    · refine ⟨3,?_,by constructor<;>intro h<;>omega⟩;rw [aG];unfold gP;simp [hd]
    · refine ⟨0,?_,?_⟩
      · rw [aG];unfold gP;simp [hd]
      · exact ⟨fun _=>⟨fun i h1 h2=>by omega,by omega⟩,fun _=>rfl⟩
  | n + 1, k, h => by
    have hk:k<m.Keys.length:=by omega
    have hx:m.Keys[k]?=some m.Keys[k]:=Ks hk;generalize hxv:m.Keys[k]=x at hx;have hkw:decide ((k:Int)<(m.Keys.length:Int))=true:=by simp;omega
    have hw:IntKind.i64.wrap ((k:Int)+1)=((k+1:Nat):Int):=br (by omega);by_cases hg:good m.Keys k
    · obtain ⟨hg1,hg2⟩:=hg x hx;obtain ⟨c,h1,h2⟩:=w5 m hl n (k+1) (by omega);refine ⟨c,?_,?_⟩
      · rw [aG];have e:gP m (k:Int)=some (.inl ((k+1:Nat):Int)):=by
          unfold gP;rw [if_pos hkw,bu hx,Kr,if_neg (show ¬ decide (x.N<1)=true by simp;omega)];cases k with
          | zero=>simp [show IntKind.i64.wrap 1=1 from rfl]
          | succ j =>
            have hy:m.Keys[j]?=some m.Keys[j]:=Ks (by omega);have:=hg2 j _ rfl hy;rw [if_pos (by simp),bw (by omega) (by omega),show ((j+1:Nat):Int) - 1=(j:Int) by omega,bu hy,Kr,Kr,if_neg (by simp;omega),hw]
        simp only [e];exact h1
      · rw [h2];constructor
        · rintro ⟨h3,h4⟩;exact ⟨fun i hi hi2=>by
            by_cases e:i=k
            · subst e;exact hg
            · exact h3 i (by omega) hi2,h4⟩
        · rintro ⟨h3,h4⟩;exact ⟨fun i hi hi2=>h3 i (by omega) hi2,h4⟩
    · refine ⟨4, ?_, by constructor
                        · intro h;omega
                        · rintro ⟨h3,_⟩;exact absurd (h3 k (Kx _) hk) hg⟩
      rw [aG];have e:gP m (k:Int)=some (.inr 4):=by
        unfold gP;rw [if_pos hkw,bu hx,Kr];by_cases hn:x.N<1
        · rw [if_pos (show decide (x.N<1)=true by simpa using hn)];rfl
        · rw [if_neg (show ¬ decide (x.N<1)=true by simpa using hn)];cases k with
          | zero=>exact absurd (fun y hy=>by rw [hx] at hy;cases hy;exact ⟨by omega,fun j z hj=>by omega⟩) hg
          | succ j =>
            have hy:m.Keys[j]?=some m.Keys[j]:=Ks (by omega);rw [if_pos (by simp),bw (by omega) (by omega),show ((j+1:Nat):Int) - 1=(j:Int) by omega,bu hy,Kr,Kr];have:x.Key<=(m.Keys[j]).Key:=by
              apply Int.not_lt.1;intro hlt;exact hg (fun z hz=>by
                rw [hx] at hz;cases hz;exact ⟨by omega,fun i y hi hy2=>by
                  have:i=j:=by omega
                  subst this;rw [hy] at hy2;cases hy2;exact hlt⟩)
            rw [if_pos (by simpa using this)];rfl
      simp only [e]
structure okM (m:Memory):Prop where
 len:m.Keys.length<=6
 n:∀ x,x∈m.Keys->1<=x.N
 lt:∀ (i j:Nat) x y,i<j->m.Keys[i]?=some x->m.Keys[j]?=some y->x.Key<y.Key
 dep:0<=m.Dep
theorem AI {l:List Keyed} (h:∀ i,i<l.length->good l i):∀ (n i j:Nat) x y,j=i+1+n->l[i]?=some x->l[j]?=some y->x.Key<y.Key
 | 0,i,j,x,y,e,hx,hy=>(h j (Kt.1 hy).1 y hy).2 i x (by omega) hx
 | n+1,i,j,x,y,e,hx,hy=>by have hj:=(Kt.1 hy).1;have hz:l[i+1+n]?=some l[i+1+n]:=Ks (by omega);have h1:=AI h n i (i+1+n) x _ rfl hx hz;have h2:=(h j hj y hy).2 (i+1+n) _ (by omega) hz;omega
theorem ya (m:Memory):∃ c,jG m=some c/\(c=0 ↔ okM m):=by
 unfold jG;by_cases hl:m.Keys.length<=6
 ·rw [if_neg (by simp;omega)];obtain ⟨c,h1,h2⟩:=w5 m hl m.Keys.length 0 (by omega);refine ⟨c,h1,h2.trans ⟨fun ⟨h3,h4⟩=>⟨hl,fun x hx=>?_,fun i j x y hij hx hy=>?_,h4⟩,fun h=>⟨fun i _ hi x hx=>⟨h.n x (Ku hx),fun j y e hy=>h.lt j i y x (by omega) hy hx⟩,h.dep⟩⟩⟩
  ·obtain ⟨i,hi⟩:=KI hx;exact (h3 i (Lj _) (Kt.1 hi).1 x hi).1
  ·exact AI (fun i hi=>h3 i (Lj _) hi) (j - i - 1) i j x y (by omega) hx hy
 ·rw [if_pos (by simp;omega)];exact ⟨2,rfl,fun h=>by omega,fun h=>absurd h.len hl⟩
theorem Ff (l:List Keyed) (key:Int) (hl:l.length<=6) (hs:∀ (i j:Nat) x y,i<j->l[i]?=some x->l[j]?=some y->x.Key<y.Key) :
    ∃ (i:Nat) (b:Bool),ol l key=some ((i:Int),b)/\i<=l.length/\(∀ t x,t<i->l[t]?=some x->x.Key<key)/\(∀ t x,i<=t->l[t]?=some x->key<=x.Key)/\(b=true ↔ ∃ x,l[i]?=some x/\x.Key=key):=by
  unfold ol
  obtain ⟨r,h1,i,h2,h3,h4,h5,h6⟩:=rK (body:=fun ss:Int × Int=>oh l key ss.1 ss.2)
    (fun s=>(0<=s.1/\s.1<=s.2/\s.2<=(l.length:Int))/\(∀ (t:Nat) (x:Keyed),(t:Int)<s.1->l[t]?=some x->x.Key<key)/\(∀ (t:Nat) (x:Keyed),s.2<=(t:Int)->l[t]?=some x->key<=x.Key)) (fun s=>(s.2 - s.1).toNat)
    (fun r=>∃ i:Nat,r.1=(i:Int)/\i<=l.length/\(∀ t x,t<i->l[t]?=some x->x.Key<key)/\(∀ t x,i<=t->l[t]?=some x->key<=x.Key)/\(r.2=true ↔ ∃ x,l[i]?=some x/\x.Key=key)) (fun s hs0=>by
      obtain ⟨s1,s2⟩:=s;simp only at hs0 ⊢;obtain ⟨hb,ha,hc⟩:=hs0;unfold oh;by_cases hlt:s1<s2
      · rw [if_pos (by simpa using hlt)];have e1:shr .u64 (IntKind.u64.wrap (IntKind.i64.wrap (s1+s2))) 1=some ((s1+s2) / 2):=by
          rw [bw (by omega) (by omega),IntWalk.u64_in _ ⟨by omega,by omega⟩];unfold shr;rw [if_pos (by decide)];congr 1;show (s1+s2).fdiv 2=_;rw [Lu _ (by decide)]
        rw [e1,Kr];obtain ⟨h,hh⟩:∃ h:Nat,(s1+s2) / 2=(h:Int):=LH (by omega);have hhl:h<l.length:=by omega
        have hx:l[h]?=some l[h]:=Ks hhl;generalize hxv:l[h]=x at hx;have e2:IntKind.i64.wrap (h:Int)=(h:Int):=bw (by omega) (by omega);have e4:IntKind.i64.wrap ((h:Int)+1)=(h:Int)+1:=bw (by omega) (by omega);rw [hh,e2,bu hx,Kr,Bl,Kr,e4];refine .inl ?_;by_cases hk:x.Key<key
        · rw [if_pos hk];refine ⟨((h:Int)+1,s2),rfl,⟨⟨by show 0<=(h:Int)+1;omega,by show (h:Int)+1<=s2;omega,hb.2.2⟩,fun t y ht hy=>?_,hc⟩,by show (s2 - ((h:Int)+1)).toNat<(s2 - s1).toNat;omega⟩;have ht:(t:Int)<(h:Int)+1:=ht;by_cases e:t=h
          · subst e;rw [hx] at hy;cases hy;exact hk
          · have:=hs t h y x (by omega) hy hx;omega
        · have e5:(if decide ((if x.Key<key then (-1:Int) else if x.Key > key then 1 else 0)<0)=true then (some (.inl ((h:Int)+1,s2)):Option ((Int × Int) ⊕ (Int × Bool))) else some (.inl (s1,(h:Int))))=some (.inl (s1,(h:Int))):=by
            rw [if_neg hk];split<;>rfl
          refine ⟨(s1,(h:Int)),e5,⟨⟨hb.1,by show s1<=(h:Int);omega,by show (h:Int)<=_;omega⟩,ha,fun t y ht hy=>?_⟩,by show ((h:Int) - s1).toNat<(s2 - s1).toNat;omega⟩;have ht:(h:Int)<=(t:Int):=ht;by_cases e:t=h
          · subst e;rw [hx] at hy;cases hy;omega
          · have:=hs h t x y (by omega) hx hy;omega
      · rw [if_neg (by simpa using hlt)];refine .inr ?_;obtain ⟨k,rfl⟩:=LH hb.1;have hk2:s2=(k:Int):=by omega
        subst hk2;by_cases hk:k<l.length
        · have hx:l[k]?=some l[k]:=Ks hk;generalize hxv:l[k]=x at hx;rw [if_pos (by simp;omega),bu hx,Kr,Bl];refine ⟨_,rfl,k,rfl,by omega,fun t y ht hy=>ha t y (by omega) hy,fun t y ht hy=>hc t y (by omega) hy,?_⟩;have:=hc k x (by omega) hx;simp only [hx,LF,exists_eq_left'];by_cases e:x.Key=key
          · simp [e]
          · have h1:¬ x.Key<key:=by omega
            have h2:x.Key > key:=by omega
            simp [h1,h2,e]
        · rw [if_neg (by simp;omega)];refine ⟨_,rfl,k,rfl,by omega,fun t y ht hy=>ha t y (by omega) hy,fun t y ht hy=>hc t y (by omega) hy,?_⟩;rw [KZ (by omega)];simp) _ (0,(l.length:Int)) (Kx _) ⟨by simp,fun t x ht=>by
            have ht:(t:Int)<0:=ht;omega,fun t x ht hx=>by
            have ht:(l.length:Int)<=(t:Int):=ht;have:=(Kt.1 hx).1;omega⟩
  obtain ⟨r1,r2⟩:=r
  simp only at h2
  subst h2
  exact ⟨i,r2,h1,h3,h4,h5,h6⟩
inductive StepR (k f:Int) (m:Memory) (x:Item):Memory × Item × Int->Prop
 | err (e:Int) (h:e≠0):StepR k f m x (⟨0,[],0⟩,⟨0,0,0⟩,e)
 | same (s d:Int) (y:Item) (hd:0<=d):StepR k f m x (⟨s,m.Keys,d⟩,y,0)
 | inc (i:Nat) (v:Keyed) (d:Int) (y:Item) (hi:m.Keys[i]?=some v) (hd:0<=d):StepR k f m x (⟨m.Sum,m.Keys.set i ⟨v.Key,IntKind.i64.wrap (v.N+1)⟩,d⟩,y,0)
 | ins (i:Nat) (d:Int) (y:Item) (hd:0<=d) (hl:m.Keys.length<6) (hi:i<=m.Keys.length) (h1:∀ t z,t<i->m.Keys[t]?=some z->z.Key<x.Key) (h2:∀ t z,i<=t->m.Keys[t]?=some z->x.Key<z.Key):StepR k f m x (⟨m.Sum,m.Keys.take i++⟨x.Key,1⟩::m.Keys.drop i,d⟩,y,0)
theorem GD {l:List Keyed} (h:l.Pairwise (fun a b=>a.Key<b.Key)):∀ (i j:Nat) x y,i<j->l[i]?=some x->l[j]?=some y->x.Key<y.Key:=fun i j x y hij hx hy=>by obtain ⟨hi,rfl⟩:=Kt.1 hx;obtain ⟨hj,rfl⟩:=Kt.1 hy;exact List.pairwise_iff_getElem.1 h i j hi hj hij
theorem Iv {l:List Keyed} {i:Nat} {key:Int} (hlt:∀ (i j:Nat) x y,i<j->l[i]?=some x->l[j]?=some y->x.Key<y.Key) (h1:∀ t z,t<i->l[t]?=some z->z.Key<key) (h2:∀ t z,i<=t->l[t]?=some z->key<z.Key) :
  (l.take i++(⟨key,1⟩:Keyed)::l.drop i).Pairwise (fun a b=>a.Key<b.Key):=by
 rw [List.pairwise_append,List.pairwise_cons]
 have hpw:l.Pairwise (fun a b=>a.Key<b.Key):=by rw [List.pairwise_iff_getElem];exact fun a b ha hb hab=>hlt a b _ _ hab (Ks ha) (Ks hb)
 refine ⟨hpw.sublist (List.take_sublist _ _),⟨fun z hz=>?_,hpw.sublist (List.drop_sublist _ _)⟩,fun a ha b hb=>?_⟩
 ·obtain ⟨t,ht⟩:=KI hz
  rw [K4] at ht
  exact h2 (i+t) z (by omega) ht
 ·obtain ⟨t,ht⟩:=KI ha
  rw [K5] at ht
  split at ht
  ·rename_i hti
   have h7:=h1 t a hti ht
   rcases K0.1 hb with rfl | hb
   ·exact h7
   ·obtain ⟨t2,ht2⟩:=KI hb
    rw [K4] at ht2
    have h8:=h2 (i+t2) b (by omega) ht2
    omega
  ·cases ht
theorem GQ {k f:Int} {m:Memory} {x:Item} {R:Memory × Item × Int} (h:StepR k f m x R) (ok:okM m) (B:Int) (h0:0<=B) (hB:∀ y,y∈m.Keys->y.N<=B) (hB2:B<4611686018427387904) (hR:R.2.2=0):okM R.1/\∀ y,y∈R.1.Keys->y.N<=B+1:=by
 cases h with
 | err e he=>exact absurd hR he
 | same s d y hd=>exact ⟨⟨ok.len,ok.n,ok.lt,hd⟩,fun y hy=>by have:=hB y hy;omega⟩
 | inc i v d y hi hd =>
  have hv:=Ku hi;have hv1:=ok.n v hv;have hv2:=hB v hv;have hw:IntKind.i64.wrap (v.N+1)=v.N+1:=bw (by omega) (by omega);have hget:∀ (a:Nat) (z:Keyed),(m.Keys.set i ⟨v.Key,IntKind.i64.wrap (v.N+1)⟩)[a]?=some z->∃ z',m.Keys[a]?=some z'/\z'.Key=z.Key:=fun a z hz=>by
   rw [KF] at hz;split at hz
   ·rename_i e;subst e;split at hz
    ·cases hz;exact ⟨v,hi,rfl⟩
    ·cases hz
   ·exact ⟨z,hz,rfl⟩
  refine ⟨⟨by simpa using ok.len,fun z hz=>?_,fun a b z1 z2 hab hz1 hz2=>?_,hd⟩,fun z hz=>?_⟩
  ·rcases K6 hz with h1 | h1
   ·exact ok.n z h1
   ·subst h1;rw [hw];show 1<=v.N+1;omega
  ·obtain ⟨w1,e1,e2⟩:=hget a z1 hz1;obtain ⟨w2,e3,e4⟩:=hget b z2 hz2;have:=ok.lt a b w1 w2 hab e1 e3;omega
  ·rcases K6 hz with h1 | h1
   ·have:=hB z h1;omega
   ·subst h1;rw [hw];show v.N+1<=B+1;omega
 | ins i d y hd hl hi h1 h2 =>
  have hm:∀ z,z∈m.Keys.take i++(⟨x.Key,1⟩:Keyed)::m.Keys.drop i->z∈m.Keys∨z.N=1:=fun z hz=>by
   rcases KJ.1 hz with h3 | h3
   ·exact .inl (KG h3)
   ·rcases K0.1 h3 with h3 | h3
    ·exact .inr (by rw [h3])
    ·exact .inl (Lo h3)
  refine ⟨⟨by simp;omega,fun z hz=>?_,GD (Iv ok.lt h1 h2),hd⟩,fun z hz=>?_⟩
  ·rcases hm z hz with h3 | h3
   ·exact ok.n z h3
   ·omega
  ·rcases hm z hz with h3 | h3
   ·have:=hB z h3;omega
   ·omega
def maxD (a b:Int):Int:=if b > a then b else a
def mapP (f:Int) (x:Item):Int:=if f=0 then IntKind.i64.wrap (x.Val+1) else if f=1 then IntKind.i64.wrap (2*x.Val) else if f=2 then IntKind.i64.wrap (0 - x.Val) else IntKind.i64.wrap (x.Val+x.Key)
def lowN (key:Int):List Keyed->Nat
 | []=>0
 | y::ys=>if y.Key<key then lowN key ys+1 else 0
def newK (key:Int) (l:List Keyed):List Keyed × Int:=if l.length=6 then (l,0) else (l.take (lowN key l)++⟨key,1⟩::l.drop (lowN key l),1)
def cntP (key:Int) (l:List Keyed):List Keyed × Int :=
 match l[lowN key l]? with
 | some y=>if y.Key=key then (l.set (lowN key l) ⟨y.Key,IntKind.i64.wrap (y.N+1)⟩,IntKind.i64.wrap (y.N+1)) else newK key l
 | none=>newK key l
def dy (k f:Int) (m:Memory) (x:Item):Memory × Item :=
 if k=2 then (m,⟨x.Key,mapP f x,x.Dep⟩)
 else if k=3 then (⟨IntKind.i64.wrap (m.Sum+x.Val),m.Keys,maxD m.Dep x.Dep⟩,⟨x.Key,IntKind.i64.wrap (m.Sum+x.Val),maxD m.Dep x.Dep⟩)
 else if k=4 then (⟨m.Sum,(cntP x.Key m.Keys).1,maxD m.Dep x.Dep⟩,⟨x.Key,(cntP x.Key m.Keys).2,maxD m.Dep x.Dep⟩)
 else (m,x)
def nL (k f:Int):Prop:=1<=k/\k<=8/\(k=2->0<=f/\f<=3)
theorem AD {key:Int}:∀ {l:List Keyed} {i:Nat},i<=l.length->(∀ t x,t<i->l[t]?=some x->x.Key<key)->(∀ t x,i<=t->l[t]?=some x->key<=x.Key)->lowN key l=i
 | [],i,hi,_,_=>by simp at hi;subst hi;rfl
 | y::ys,0,hi,h1,h2=>by
  have:=h2 0 y (Kx _) rfl;unfold lowN;rw [if_neg (by omega)]
 | y::ys,i+1,hi,h1,h2=>by have:=h1 0 y (by omega) rfl;unfold lowN;rw [if_pos this,AD (i:=i) (by simpa using hi) (fun t x ht hx=>h1 (t+1) x (by omega) (by simpa using hx)) (fun t x ht hx=>h2 (t+1) x (by omega) (by simpa using hx))]
theorem Ac (k f:Int) (m:Memory) (x:Item) (ok:okM m) (hx:0<=x.Dep) (hk:nL k f):iD k f m x=some ((dy k f m x).1,(dy k f m x).2,0)/\StepR k f m x ((dy k f m x).1,(dy k f m x).2,0):=by
 obtain ⟨c,hc,hc2⟩:=ya m;have hc0:=hc2.2 ok;subst hc0;have hap:app [] m.Keys=some m.Keys:=by rw [cx (by have:=ok.len;simp;omega)];rfl
 have hcl:oJ m.Keys=some m.Keys:=hap;have hco:lb m=some m:=by unfold lb;rw [hcl];rfl
 have hnd:¬ decide (x.Dep<0)=true:=by simpa using hx
 have hdp:0<=maxD m.Dep x.Dep:=by have:=ok.dep;unfold maxD;split<;>omega
 unfold iD;rw [hc,Kr,if_neg (by simp),if_neg hnd,hco,Kr];by_cases k2:k=2
 ·subst k2;rw [if_pos (show ((2:Int)==2)=true from rfl)];have hf:=hk.2.2 rfl;rw [if_neg (by simp;omega)];have:f=0∨f=1∨f=2∨f=3:=by omega
  rcases this with rfl | rfl | rfl | rfl<;>exact ⟨rfl,.same _ _ _ ok.dep⟩
 ·have n2:¬ (k==2)=true:=by simpa using k2
  rw [if_neg n2];by_cases k3:k=3
  ·subst k3;rw [if_pos (show ((3:Int)==3)=true from rfl)];exact ⟨rfl,.same _ _ _ hdp⟩
  ·have n3:¬ (k==3)=true:=by simpa using k3
   rw [if_neg n3];by_cases k4:k=4
   ·subst k4;rw [if_pos (show ((4:Int)==4)=true from rfl)];obtain ⟨i,b,hs,hi,h1,h2,h3⟩:=Ff m.Keys x.Key ok.len ok.lt;have hlow:=AD hi h1 h2;have hP:dy 4 f m x=(⟨m.Sum,(cntP x.Key m.Keys).1,maxD m.Dep x.Dep⟩,⟨x.Key,(cntP x.Key m.Keys).2,maxD m.Dep x.Dep⟩):=rfl;rw [hs,Kr,hP];cases b with
    | true =>
     obtain ⟨v,hv,hvk⟩:=h3.1 rfl;have hil:=(Kt.1 hv).1;have hcp:cntP x.Key m.Keys=(m.Keys.set i ⟨v.Key,IntKind.i64.wrap (v.N+1)⟩,IntKind.i64.wrap (v.N+1)):=by unfold cntP;rw [hlow,hv];simp only;rw [if_pos hvk]
     rw [if_neg (by simp),if_neg (by simp),hcp];have hset:i<(m.Keys.set i (⟨v.Key,IntKind.i64.wrap (v.N+1)⟩:Keyed)).length:=by simpa using hil
     have hsg:(m.Keys.set i (⟨v.Key,IntKind.i64.wrap (v.N+1)⟩:Keyed))[i]?=some ⟨v.Key,IntKind.i64.wrap (v.N+1)⟩:=by simp [hil]
     refine ⟨?_,.inc i v _ _ hv hdp⟩;unfold kH;simp only [eV hil,Kr,hv,eV hset,hsg];rfl
    | false =>
     have hcn:cntP x.Key m.Keys=newK x.Key m.Keys:=by
      unfold cntP;rw [hlow];cases hv:m.Keys[i]? with
      | none=>rfl
      | some v =>
       simp only;rw [if_neg (fun e=>absurd (h3.2 ⟨v,hv,e⟩) (by decide))]
     rw [hcn];by_cases h6:m.Keys.length=6
     ·rw [if_pos (by simp;omega)];unfold newK;rw [if_pos h6];exact ⟨rfl,.same _ _ _ hdp⟩
     ·have hl6:m.Keys.length<6:=by have:=ok.len;omega
      rw [if_neg (by simp;omega),if_pos (by simp)];have hin:=IG (m.Keys.take i) (m.Keys.drop i) (⟨x.Key,0⟩:Keyed) (by simp;omega);have hti:(m.Keys.take i).length=i:=by simp;omega
      rw [Lz,hti] at hin;have hset:∀ a b:Keyed,(m.Keys.take i++a::m.Keys.drop i).set i b=m.Keys.take i++b::m.Keys.drop i:=fun a b=>by rw [List.set_append_right _ _ (by omega),hti,Mn];rfl
      have hget:∀ a:Keyed,(m.Keys.take i++a::m.Keys.drop i)[i]?=some a:=fun a=>by rw [KY (by omega),hti,Mn];rfl
      have hlen:∀ a:Keyed,i<(m.Keys.take i++a::m.Keys.drop i).length:=fun a=>by simp;omega
      have hw:IntKind.i64.wrap ((0:Int)+1)=1:=rfl;have hnf:∀ t z,i<=t->m.Keys[t]?=some z->x.Key<z.Key:=fun t z ht hz=>by
       have h4:=h2 t z ht hz;rcases Int.lt_or_eq_of_le h4 with h5 | h5
       ·exact h5
       ·exfalso;by_cases e:t=i
        ·subst e;exact absurd (h3.2 ⟨z,hz,h5.symm⟩) (by decide)
        ·have hil:i<m.Keys.length:=by have:=(Kt.1 hz).1;omega
         have hy:m.Keys[i]?=some m.Keys[i]:=Ks hil;have h6:=h2 i _ (Kx _) hy;have h7:=ok.lt i t _ z (by omega) hy hz;omega
      have hnk:newK x.Key m.Keys=(m.Keys.take i++⟨x.Key,1⟩::m.Keys.drop i,1):=by unfold newK;rw [if_neg h6,hlow]
      rw [hnk];refine ⟨?_,.ins i _ _ hdp hl6 hi h1 hnf⟩;simp only;rw [hin,Kr];unfold kH;simp only [eV (hlen _),Kr,hget,hset,hw];rfl
   ·have n4:¬ (k==4)=true:=by simpa using k4
    rw [if_neg n4];have hP:dy k f m x=(m,x):=by unfold dy;rw [if_neg k2,if_neg k3,if_neg k4]
    rw [hP];have hk':k=1∨k=5∨k=6∨k=7∨k=8:=by have:=hk.1;have:=hk.2.1;omega
    rcases hk' with rfl | rfl | rfl | rfl | rfl<;>exact ⟨rfl,.same m.Sum m.Dep x ok.dep⟩
theorem Bp (k f:Int) (m:Memory) (x:Item) (ok:okM m) (hx:0<=x.Dep) (hk:nL k f):iD k f m x=some ((dy k f m x).1,(dy k f m x).2,0):=(Ac k f m x ok hx hk).1
theorem Ha (k f:Int) (m:Memory) (x:Item) (ok:okM m) (hx:0<=x.Dep) (hk:nL k f):StepR k f m x ((dy k f m x).1,(dy k f m x).2,0):=(Ac k f m x ok hx hk).2
theorem FT {k f:Int} {m:Memory} {x:Item} (ok:okM m) (hx:0<=x.Dep) (hk:nL k f) (B:Int) (h0:0<=B) (hB:∀ y,y∈m.Keys->y.N<=B) (hB2:B<4611686018427387904) :
 okM (dy k f m x).1/\∀ y,y∈(dy k f m x).1.Keys->y.N<=B+1:=GQ (Ha k f m x ok hx hk) ok B h0 hB hB2 rfl
def deep (k:Int):Bool:=k==3 || k==4
theorem EL (k f:Int) (m:Memory) (x:Item):(dy k f m x).2.Dep=(if deep k then maxD m.Dep x.Dep else x.Dep)/\(dy k f m x).1.Dep=if deep k then maxD m.Dep x.Dep else m.Dep:=by
 unfold dy deep;by_cases h2:k=2
 ·subst h2;exact ⟨rfl,rfl⟩
 ·by_cases h3:k=3
  ·subst h3;exact ⟨rfl,rfl⟩
  ·by_cases h4:k=4
   ·subst h4;exact ⟨rfl,rfl⟩
   ·rw [if_neg h2,if_neg h3,if_neg h4];have:(k==3 || k==4)=false:=by simp [h3,h4]
    rw [this];exact ⟨rfl,rfl⟩
def ah (n:Net) (i:Nat):Node:=n.Nodes.getD i ⟨0,0,[],[]⟩
structure RightN (n:Net):Prop where
 n1:1<=n.Nodes.length
 n2:n.Nodes.length<=12
 r1:0<=n.Rings
 r2:n.Rings<=16
 m1:1<=n.Room
 m2:n.Room<=6
 kind:∀ i,i<n.Nodes.length->nL (ah n i).Kind (ah n i).A
 a0:∀ i,i<n.Nodes.length->0<=(ah n i).A
 in1:∀ i,i<n.Nodes.length->(ah n i).Kind=1->(ah n i).In=[]
 in6:∀ i,i<n.Nodes.length->(ah n i).Kind=6->1<=(ah n i).In.length
 inx:∀ i,i<n.Nodes.length->(ah n i).Kind≠1->(ah n i).Kind≠6->(ah n i).In.length=1
 out8:∀ i,i<n.Nodes.length->(ah n i).Kind=8->(ah n i).Out=[]
 out1:∀ i,i<n.Nodes.length->(ah n i).Kind≠8->1<=(ah n i).Out.length
 outx:∀ i,i<n.Nodes.length->(ah n i).Kind≠8->(ah n i).Kind≠5->(ah n i).Kind≠7->(ah n i).Out.length=1
 inR:∀ i,i<n.Nodes.length->∀ r,r∈(ah n i).In->0<=r/\r<n.Rings
 outR:∀ i,i<n.Nodes.length->∀ r,r∈(ah n i).Out->0<=r/\r<n.Rings
 ndI:∀ i,i<n.Nodes.length->(ah n i).In.Nodup
 ndO:∀ i,i<n.Nodes.length->(ah n i).Out.Nodup
 oneI:∀ i j r,i<n.Nodes.length->j<n.Nodes.length->r∈(ah n i).In->r∈(ah n j).In->i=j
 oneO:∀ i j r,i<n.Nodes.length->j<n.Nodes.length->r∈(ah n i).Out->r∈(ah n j).Out->i=j
 toI:∀ r:Nat,(r:Int)<n.Rings->∃ i,i<n.Nodes.length/\(r:Int)∈(ah n i).In
 toO:∀ r:Nat,(r:Int)<n.Rings->∃ i,i<n.Nodes.length/\(r:Int)∈(ah n i).Out
 sink:∃ s,s<n.Nodes.length/\(ah n s).Kind=8
 sink1:∀ i j,i<n.Nodes.length->j<n.Nodes.length->(ah n i).Kind=8->(ah n j).Kind=8->i=j
 ord:∃ pos:Nat->Nat,(∀ i,i<n.Nodes.length->pos i<n.Nodes.length)/\(∀ i j,i<n.Nodes.length->j<n.Nodes.length->pos i=pos j->i=j)/\∀ i j r,i<n.Nodes.length->j<n.Nodes.length->r∈(ah n i).Out->r∈(ah n j).In->pos i<pos j
structure RightS (n:Net) (items:List (List Item)):Prop extends RightN n where
 l4:items.length<=4
 l20:∀ (a:Nat) (l:List Item),items[a]?=some l->l.length<=20
 dep0:∀ (a:Nat) (l:List Item) (x:Item),items[a]?=some l->x∈l->x.Dep=0
 srcA:∀ i,i<n.Nodes.length->(ah n i).Kind=1->(ah n i).A<items.length
 src1:∀ i j,i<n.Nodes.length->j<n.Nodes.length->(ah n i).Kind=1->(ah n j).Kind=1->(ah n i).A=(ah n j).A->i=j
theorem gW {n:Net} {i:Nat} (h:i<n.Nodes.length):n.Nodes[i]?=some (ah n i):=by unfold ah;rw [Kw,Ks h];rfl
theorem ES {x:Node} (h:jT x=0):nL x.Kind x.A/\0<=x.A/\(x.Kind=1->x.In=[])/\(x.Kind=6->1<=x.In.length)/\(x.Kind≠1->x.Kind≠6->x.In.length=1)/\(x.Kind=8->x.Out=[])/\(x.Kind≠8->1<=x.Out.length) /\
  (x.Kind≠8->x.Kind≠5->x.Kind≠7->x.Out.length=1):=by
 unfold jT at h
 split at h
 ·exact absurd h (by decide)
 ·rename_i i o har
  split at h
  ·exact absurd h (by decide)
  ·rename_i hf
   split at h
   ·exact absurd h (by decide)
   ·rename_i hb
    have hfi:eu x.In.length i=true/\eu x.Out.length o=true:=by cases h1:eu x.In.length i<;>cases h2:eu x.Out.length o<;>simp [h1,h2] at hf<;>exact ⟨rfl,rfl⟩
    have h1:=of_decide_eq_true hfi.1
    have h2:=of_decide_eq_true hfi.2
    have h3:¬ (x.A<0∨x.Kind=1/\4<=x.A∨x.Kind=2/\3<x.A∨x.Kind≠1/\x.Kind≠2/\x.A≠0):=fun e=>hb (by unfold badA;exact decide_eq_true e)
    unfold qa at har
    have hz:∀ l:List Int,(l.length:Int)=0->l=[]:=fun l hl=>KB (by omega)
    split at har
    ·cases har;rename_i hk
     exact ⟨⟨by omega,by omega,by omega⟩,by omega,fun _=>hz _ (by omega),by omega,by omega,by omega,by omega,by omega⟩
    ·split at har
     ·cases har;rename_i hk1 hk
      exact ⟨⟨by omega,by omega,by omega⟩,by omega,by omega,by omega,by omega,by omega,by omega,by omega⟩
     ·split at har
      ·cases har;rename_i hk1 hk2 hk
       exact ⟨⟨by omega,by omega,by omega⟩,by omega,by omega,by omega,by omega,by omega,by omega,by omega⟩
      ·split at har
       ·cases har;rename_i hk1 hk2 hk3 hk
        exact ⟨⟨by omega,by omega,by omega⟩,by omega,by omega,by omega,by omega,by omega,by omega,by omega⟩
       ·split at har
        ·cases har;rename_i hk1 hk2 hk3 hk4 hk
         exact ⟨⟨by omega,by omega,by omega⟩,by omega,by omega,by omega,by omega,fun _=>hz _ (by omega),by omega,by omega⟩
        ·cases har
theorem xb {α:Type} {p:α->Bool}:∀ {l:List α},(l.filter p).length=1->∃ (i:Nat) (x:α),l[i]?=some x/\p x=true/\∀ (j:Nat) (y:α),l[j]?=some y->p y=true->j=i
 | [],h=>by simp at h
 | a::l,h=>by
  by_cases ha:p a=true
  ·rw [List.filter_cons_of_pos ha] at h;have h0:l.filter p=[]:=KB (by simpa using h);refine ⟨0,a,rfl,ha,fun j y hy hp=>?_⟩;cases j with
   | zero=>rfl
   | succ j =>
    have hm:y∈l.filter p:=List.mem_filter.2 ⟨Ku (by simpa using hy),hp⟩;rw [h0] at hm;cases hm
  ·rw [List.filter_cons_of_neg ha] at h;obtain ⟨i,x,h1,h2,h3⟩:=xb h;refine ⟨i+1,x,by simpa using h1,h2,fun j y hy hp=>?_⟩;cases j with
   | zero=>simp at hy;subst hy;exact absurd hp ha
   | succ j=>rw [h3 j y (by simpa using hy) hp]
theorem FE {n:Net} (h:(netR n).2=0):RightN n:=by
 obtain ⟨l,o,hlk,hl,ho,_⟩:=Ak h;have hord:=HJ ho;have hg:∀ i,i<n.Nodes.length->n.Nodes[i]?=some (ah n i):=fun i hi=>gW hi
 have he:=fun i hi=>ES (hl.err i _ (hg i hi))
 obtain ⟨s,xs,hs,hs8,hsu⟩:=xb hl.sink;have hsl:=(Kt.1 hs).1;have hsx:ah n s=xs:=by have:=hg s hsl;rw [hs] at this;exact (Ky this).symm
 refine ⟨hl.n1,hl.n2,hl.r1,hl.r2,hl.m1,hl.m2,fun i hi=>(he i hi).1,fun i hi=>(he i hi).2.1,fun i hi=>(he i hi).2.2.1,fun i hi=>(he i hi).2.2.2.1,fun i hi=>(he i hi).2.2.2.2.1,fun i hi=>(he i hi).2.2.2.2.2.1,fun i hi=>(he i hi).2.2.2.2.2.2.1,fun i hi=>(he i hi).2.2.2.2.2.2.2,
  fun i hi r hr=>⟨(hl.inn i _ (hg i hi) r hr).1,(hl.inn i _ (hg i hi) r hr).2.1⟩,fun i hi r hr=>⟨(hl.out i _ (hg i hi) r hr).1,(hl.out i _ (hg i hi) r hr).2.1⟩,fun i hi=>hl.ndI i _ (hg i hi),fun i hi=>hl.ndO i _ (hg i hi),
  fun i j r hi hj h1 h2=>?_,fun i j r hi hj h1 h2=>?_,fun r hr=>?_,fun r hr=>?_,⟨s,hsl,by rw [hsx];simpa using hs8⟩,fun i j hi hj h1 h2=>?_,?_⟩
 ·obtain ⟨_,_,e,e1,e2⟩:=hl.inn i _ (hg i hi) r h1;obtain ⟨_,_,e',e3,e4⟩:=hl.inn j _ (hg j hj) r h2;rw [e1] at e3;cases e3;omega
 ·obtain ⟨_,_,e,e1,e2⟩:=hl.out i _ (hg i hi) r h1;obtain ⟨_,_,e',e3,e4⟩:=hl.out j _ (hg j hj) r h2;rw [e1] at e3;cases e3;omega
 ·have hlt:r<l.length:=by have:=hl.len;omega
  obtain ⟨i,x,h1,_,h3⟩:=hl.dst r _ (Ks hlt);have hi:=(Kt.1 h1).1;have:=hg i hi;rw [h1] at this;cases this;exact ⟨i,hi,h3⟩
 ·have hlt:r<l.length:=by have:=hl.len;omega
  obtain ⟨i,x,h1,_,h3⟩:=hl.src r _ (Ks hlt);have hi:=(Kt.1 h1).1;have:=hg i hi;rw [h1] at this;cases this;exact ⟨i,hi,h3⟩
 ·rw [hsu i _ (hg i hi) (by simpa using h1),hsu j _ (hg j hj) (by simpa using h2)]
 ·have hmem:∀ i,i<n.Nodes.length->i∈o:=fun i hi=>Gx hord.nd hord.lt hord.len hi
  have hidx:∀ i,i<n.Nodes.length->o[o.idxOf i]?=some i:=fun i hi=>by rw [Ks (List.idxOf_lt_length_iff.2 (hmem i hi)),List.getElem_idxOf]
  refine ⟨fun i=>o.idxOf i,fun i hi=>?_,fun i j hi hj e=>?_,fun i j r hi hj h1 h2=>?_⟩
  ·show o.idxOf i<_;rw [<- hord.len];exact List.idxOf_lt_length_iff.2 (hmem i hi)
  ·have h1:=hidx i hi;have h2:=hidx j hj;simp only at e;rw [e,h2] at h1;exact (Ky h1).symm
  ·obtain ⟨_,_,e,e1,e2⟩:=hl.out i _ (hg i hi) r h1;have h3:=hord.fed _ j _ r e (hidx j hj) (hg j hj) h2 e1;rw [e2,KW] at h3;show o.idxOf i<o.idxOf j;obtain ⟨q,hq⟩:=KI h3;rw [K5] at hq;split at hq
   ·rename_i hlt;have hq2:=hidx i hi;have:q=o.idxOf i:=by
     have hql:=(Kt.1 hq).1;refine (List.getElem?_inj hql hord.nd).1 ?_;rw [hq,hq2]
    omega
   ·cases hq
theorem xw:∀ {l:List (List Item)},gX l=0->∀ (a:Nat) (s:List Item),l[a]?=some s->s.length<=20/\∀ x:Item,x∈s->x.Dep=0
 | [],_,a,s,h=>by simp at h
 | t :: l,h,a,s,hs=>by
  unfold gX at h;split at h
  ·exact absurd h (by decide)
  ·split at h
   ·exact absurd h (by decide)
   ·rename_i h1 h2;cases a with
    | zero =>
     simp at hs;subst hs;refine ⟨by omega,fun x hx=>?_⟩;refine Classical.byContradiction fun hd=>h2 ?_
     rw [Mw];exact ⟨x,hx,decide_eq_true hd⟩
    | succ a=>exact xw h a s (by simpa using hs)
theorem tB (len:Nat):∀ {ns:List Node} {seen:List Int},iP len ns seen=0->(∀ (i:Nat) x,ns[i]?=some x->x.Kind=1->x.A<len/\x.A ∉ seen)/\∀ (i j:Nat) x y,ns[i]?=some x->ns[j]?=some y->x.Kind=1->y.Kind=1->x.A=y.A->i=j
 | [],seen,_=>⟨fun i x h=>by simp at h,fun i j x y h=>by simp at h⟩
 | z :: ns,seen,h=>by
  unfold iP at h;split at h
  ·rename_i hk;obtain ⟨h1,h2⟩:=tB len h;refine ⟨fun i x hx hx1=>?_,fun i j x y hx hy hx1 hy1 he=>?_⟩
   ·cases i with
    | zero=>simp at hx;subst hx;exact absurd hx1 hk
    | succ i=>exact h1 i x (by simpa using hx) hx1
   ·cases i with
    | zero=>simp at hx;subst hx;exact absurd hx1 hk
    | succ i =>
     cases j with
     | zero=>simp at hy;subst hy;exact absurd hy1 hk
     | succ j=>rw [h2 i j x y (by simpa using hx) (by simpa using hy) hx1 hy1 he]
  ·split at h
   ·exact absurd h (by decide)
   ·split at h
    ·exact absurd h (by decide)
    ·rename_i hk hl hs;obtain ⟨h1,h2⟩:=tB len h;have key:∀ (i:Nat) x,ns[i]?=some x->x.Kind=1->x.A≠z.A:=fun i x hx hx1 e=>(h1 i x hx hx1).2 (by rw [e];exact KQ)
     refine ⟨fun i x hx hx1=>?_,fun i j x y hx hy hx1 hy1 he=>?_⟩
     ·cases i with
      | zero=>simp at hx;subst hx;exact ⟨by omega,hs⟩
      | succ i=>exact ⟨(h1 i x (by simpa using hx) hx1).1,fun hm=>(h1 i x (by simpa using hx) hx1).2 (KS _ hm)⟩
     ·cases i with
      | zero =>
       simp at hx;subst hx;cases j with
       | zero=>rfl
       | succ j=>exact absurd he.symm (key j y (by simpa using hy) hy1)
      | succ i =>
       cases j with
       | zero=>simp at hy;subst hy;exact absurd he (key i x (by simpa using hx) hx1)
       | succ j=>rw [h2 i j x y (by simpa using hx) (by simpa using hy) hx1 hy1 he]
theorem jR {n:Net} {items:List (List Item)} (h:cj n items=0):RightS n items:=by
 unfold cj at h;split at h
 ·rename_i h1;exact absurd h h1
 ·split at h
  ·exact absurd h (by decide)
  ·split at h
   ·rename_i h1;exact absurd h h1
   ·rename_i h1 h2 h3;have hi:=fun a s hs=>xw (Decidable.not_not.1 h3) a s hs
    obtain ⟨s1,s2⟩:=tB items.length h;exact { FE (Decidable.not_not.1 h1) with
     l4:=by omega
     l20:=fun a l hl=>(hi a l hl).1
     dep0:=fun a l x hl hx=>(hi a l hl).2 x hx
     srcA:=fun i hi hk=>(s1 i _ (gW hi) hk).1
     src1:=fun i j hi hj h1 h2 he=>s2 i j _ _ (gW hi) (gW hj) h1 h2 he }
section
def idxI {α:Type} (p:α->Bool) (xs:List α):Int:=match xs.findIdx? p with | some i=>(i:Int) | none => -1
theorem tv {α:Type} (xs:List α) (hx:xs.length<=1099511627776) (p:α->Bool) {body:Int->Option (Int ⊕ Int)}
  (h1:∀ (k:Nat) (x:α),xs[k]?=some x->k<xs.length->idx xs (k:Int)=some x->decide ((k:Int)<(xs.length:Int))=true->IntKind.i64.wrap ((k:Int)+1)=((k+1:Nat):Int)->body k=if p x=true then some (.inr (k:Int)) else some (.inl ((k+1:Nat):Int)))
  (h2:decide ((xs.length:Int)<(xs.length:Int))=false->body xs.length=some (.inr (-1))):iter body 0=some (idxI p xs):=by
 have key:∀ (m k:Nat),k+m=xs.length->iter body k=some (match (xs.drop k).findIdx? p with | some i=>((k+i:Nat):Int) | none => -1):=by
  intro m;induction m with
  | zero =>
   intro k hk;have hk:k=xs.length:=by omega
   subst hk;rw [aG,h2 (by simp),Lm];rfl
  | succ m ih =>
   intro k hk;have hlt:k<xs.length:=by omega
   have hg:xs[k]?=some xs[k]:=Ks hlt;rw [aG,h1 k _ hg hlt (bu hg) (by simp;omega) (br (by omega)),KC hlt,Mo];by_cases hp:p xs[k]=true
   ·rw [if_pos hp,hp];rfl
   ·rw [if_neg hp,Bool.eq_false_iff.2 hp];simp only;rw [ih (k+1) (by omega)];cases (xs.drop (k+1)).findIdx? p with
    | none=>rfl
    | some i =>
     show some (((k+1+i:Nat):Int))=some (((k+(i+1):Nat):Int));congr 1;omega
 have:=key xs.length 0 (by omega)
 simp only [K3,Lc,Ln] at this
 exact this
theorem y7 {α:Type} (p:α->Bool) (xs:List α):decide (idxI p xs >= 0)=xs.any p:=by
 unfold idxI;cases h:xs.findIdx? p with
 | none =>
  rw [List.findIdx?_eq_none_iff] at h;have:xs.any p=false:=by rw [List.any_eq_false];exact fun x hx=>by simpa using h x hx
  rw [this];rfl
 | some i =>
  obtain ⟨hi,hp,_⟩:=List.findIdx?_eq_some_iff_getElem.1 h;have:xs.any p=true:=Mw.2 ⟨_,K1 hi,hp⟩;rw [this];simp
theorem IC (x:Item) (r:Int) (hr:1<=r/\r<=16):po x r=some (x.Key % r,0):=by
 have h1:=Int.tmod_lt_of_pos x.Key (show 0<r by omega);have h2:=Int.lt_tmod_of_pos x.Key (show 0<r by omega);have hn:((r.natAbs:Nat):Int)=r:=by omega
 unfold po;rw [if_neg (by simp;omega)];unfold rem;rw [if_neg (by omega),Kr,if_neg (by omega),Kr];rw [bw (by omega) (by omega)];have h3:(x.Key.tmod r+r).tmod r=x.Key % r:=by rw [Int.tmod_eq_emod_of_nonneg (by omega),Int.add_emod_right,Int.tmod_eq_emod];split<;>simp [hn,Int.sub_emod_right]
 rw [h3]
def cP (x:Node) (k:Nat):Nat:=(x.In.getD k 0).toNat
def bF (x:Node):Nat:=if x.Kind=6 then x.In.length else 1
def memN (s:State) (i:Nat):Memory:=s.Memory.getD i ⟨0,[],0⟩
def dt (n:Net) (items:List (List Item)) (s:State) (i k:Nat):Option Item :=
 if (ah n i).Kind=1 then (items.getD (ah n i).A.toNat [])[(s.At.getD (ah n i).A.toNat 0).toNat]? else (s.Rings.getD (cP (ah n i) k) []).head?
def cc (x:Node) (key:Int):List Int:=if x.Kind=7 then [x.Out.getD (key % x.Out.length).toNat 0] else x.Out
def roomy (n:Net) (s:State) (l:List Int):Bool:=l.all fun r=>decide (((s.Rings.getD r.toNat []).length:Int)<n.Room)
def canM (n:Net) (items:List (List Item)) (s:State) (i k:Nat):Bool :=
 match dt n items s i k with
 | none=>false
 | some it=>roomy n s (cc (ah n i) it.Key) && !(decide ((ah n i).Kind=6/\s.Choices.length=500)) && !(decide ((ah n i).Kind=8/\s.Out.length=2000))
def cA (y:Item) (l:List Int) (R:List (List Item)):List (List Item):=l.foldl (fun R r=>R.set r.toNat (R.getD r.toNat []++[y])) R
def chD (x:Node) (s:State) (it:Item):Item:=if x.Kind=6 then ⟨it.Key,it.Val,(s.Choices.length:Int)+1⟩ else it
def dp (n:Net) (s:State) (i:Nat) (it:Item):Memory × Item:=dy (ah n i).Kind (ah n i).A (memN s i) (chD (ah n i) s it)
def doM (n:Net) (items:List (List Item)) (s:State) (i k:Nat):State :=
  match dt n items s i k with
  | none=>s
  | some it =>
    { At:=if (ah n i).Kind=1 then s.At.set (ah n i).A.toNat (s.At.getD (ah n i).A.toNat 0+1) else s.At
      Rings:=cA (dp n s i it).2 (cc (ah n i) it.Key) (if (ah n i).Kind=1 then s.Rings else s.Rings.set (cP (ah n i) k) (s.Rings.getD (cP (ah n i) k) []).tail)
      Memory:=s.Memory.set i (dp n s i it).1
      Choices:=if (ah n i).Kind=6 then s.Choices++[⟨i,k⟩] else s.Choices
      Out:=if (ah n i).Kind=8 then s.Out++[(dp n s i it).2] else s.Out }
def lG (n:Net) (items:List (List Item)) (s:State) (i:Nat):List Move:=((List.range (bF (ah n i))).filter fun k=>canM n items s i k).map fun k:Nat=>⟨i,k⟩
def bi (n:Net) (items:List (List Item)) (s:State):List Move:=(List.range n.Nodes.length).flatMap fun i=>lG n items s i
def rG (n:Net) (c:Choice):Prop:=0<=c.Node/\c.Node<n.Nodes.length/\(ah n c.Node.toNat).Kind=6/\0<=c.Lane/\c.Lane<(ah n c.Node.toNat).In.length
structure OkS (n:Net) (items:List (List Item)) (B:Int) (s:State):Prop where
 at_:s.At.length=items.length
 rg:(s.Rings.length:Int)=n.Rings
 mm:s.Memory.length=n.Nodes.length
 ch:s.Choices.length<=500
 out:s.Out.length<=2000
 atP:∀ (a:Nat) (p:Int),s.At[a]?=some p->0<=p/\p<=(items.getD a []).length
 room:∀ (r:Nat) (l:List Item),s.Rings[r]?=some l->(l.length:Int)<=n.Room
 depR:∀ (r:Nat) (l:List Item) (x:Item),s.Rings[r]?=some l->x∈l->0<=x.Dep/\x.Dep<=s.Choices.length
 mem:∀ (i:Nat) (m:Memory),s.Memory[i]?=some m->okM m/\m.Dep<=s.Choices.length/\∀ y,y∈m.Keys->y.N<=B
 cho:∀ c,c∈s.Choices->rG n c
 depO:∀ x,x∈s.Out->0<=x.Dep/\x.Dep<=s.Choices.length
section
variable {n:Net} {items:List (List Item)} {B:Int} {s:State}
theorem df {α:Type} {l:List α} {k:Nat} (z:α) (h:k<l.length):l[k]?=some (l.getD k z):=by rw [Kw,Ks h];rfl
theorem idx_D {α:Type} {l:List α} {i:Int} (z:α) (h0:0<=i) (h:i<l.length):idx l i=some (l.getD i.toNat z):=by unfold idx;rw [if_pos h0];exact df z (by omega)
theorem ixN_D {α:Type} {l:List α} {i:Int} (h0:0<=i) (h:i<l.length):ixN l i=some i.toNat:=by unfold ixN;rw [if_pos ⟨h0,h⟩]
theorem rZ (hR:RightN n) {i k:Nat} (hi:i<n.Nodes.length) (hk:k<bF (ah n i)) (h1:(ah n i).Kind≠1):k<(ah n i).In.length:=by
 unfold bF at hk;split at hk
 ·exact hk
 ·rename_i h6;have:=hR.inx i hi h1 h6;omega
theorem rR (hR:RightN n) {i k:Nat} (hi:i<n.Nodes.length) (hk:k<(ah n i).In.length):(ah n i).In.getD k 0∈(ah n i).In/\0<=(ah n i).In.getD k 0/\(ah n i).In.getD k 0<n.Rings:=by have:(ah n i).In.getD k 0∈(ah n i).In:=Ku (df 0 hk);exact ⟨this,hR.inR i hi _ this⟩
theorem at_ok (hS:RightS n items) (ok:OkS n items B s) {i:Nat} (hi:i<n.Nodes.length) (h1:(ah n i).Kind=1) :
  0<=(ah n i).A/\(ah n i).A<s.At.length/\(ah n i).A<items.length/\0<=s.At.getD (ah n i).A.toNat 0/\s.At.getD (ah n i).A.toNat 0<=(items.getD (ah n i).A.toNat []).length/\(items.getD (ah n i).A.toNat []).length<=20:=by
 have h0:=hS.a0 i hi
 have h2:=hS.srcA i hi h1
 have h3:=ok.at_
 have h4:=ok.atP (ah n i).A.toNat _ (df 0 (by omega))
 exact ⟨h0,by omega,h2,h4.1,h4.2,hS.l20 _ _ (df [] (by omega))⟩
theorem Az (hS:RightS n items) (ok:OkS n items B s) {i k:Nat} (hi:i<n.Nodes.length) (hk:k<bF (ah n i)) :
  nb n items s ⟨i,k⟩=some (match dt n items s i k with | some it=>(it,true) | none=>(⟨0,0,0⟩,false)):=by
 unfold nb dt
 simp only
 rw [bu (gW hi),Kr]
 by_cases h1:(ah n i).Kind=1
 ·rw [if_pos (by simpa using h1),if_pos h1]
  obtain ⟨a0,a1,a2,a3,a4,a5⟩:=at_ok hS ok hi h1
  rw [idx_D 0 a0 a1,Kr,idx_D [] a0 a2,Kr]
  by_cases he:s.At.getD (ah n i).A.toNat 0=((items.getD (ah n i).A.toNat []).length:Int)
  ·rw [if_pos (by simpa using he),KZ (by omega)]
  ·rw [if_neg (by simpa using he),Kr,Kr,idx_D ⟨0,0,0⟩ a3 (by omega),Kr,df (⟨0,0,0⟩:Item) (show (s.At.getD (ah n i).A.toNat 0).toNat<_ by omega)]
 ·rw [if_neg (by simpa using h1),if_neg h1]
  have hkl:=rZ hS.toRightN hi hk h1
  obtain ⟨_,b0,b1⟩:=rR hS.toRightN hi hkl
  have hrg:=ok.rg
  rw [idx_D (0:Int) (by omega) (by omega),Kr]
  simp only [KW]
  rw [idx_D [] b0 (by omega),Kr]
  show _=some (match (s.Rings.getD (cP (ah n i) k) []).head? with | some it=>(it,true) | none=>(⟨0,0,0⟩,false))
  unfold cP
  cases hl:s.Rings.getD ((ah n i).In.getD k 0).toNat [] with
  | nil=>rfl
  | cons y ys=>rw [if_neg (by simp;omega)];rfl
theorem pP (hR:RightN n) {i:Nat} (hi:i<n.Nodes.length) (key:Int):∀ r,r∈cc (ah n i) key->r∈(ah n i).Out:=by
 intro r hr;unfold cc at hr;split at hr
 ·rename_i h7;have h1:=hR.out1 i hi (by omega);have hm:=MA key (show ((ah n i).Out.length:Int)≠0 by omega);have hm2:=Int.emod_lt_of_pos key (show (0:Int)<(ah n i).Out.length by omega);simp at hr;subst hr;have hlt:(key % ((ah n i).Out.length:Int)).toNat<(ah n i).Out.length:=by omega
  have:=Ku (df (0:Int) hlt);rwa [Kw] at this
 ·exact hr
theorem tH {l:List Int} {R:Int} (hd:l.Nodup) (h:∀ r,r∈l->0<=r/\r<R) (hR:0<=R):(l.length:Int)<=R:=by
 have h1:(l.map Int.toNat).Nodup:=List.pairwise_map.2 (List.Pairwise.imp_of_mem (fun {a b} ha hb hne e=>hne (by have:=h a ha;have:=h b hb;omega)) hd);have:=tj R.toNat (l.map Int.toNat) h1 (fun x hx=>by obtain ⟨a,ha,rfl⟩:=KT.1 hx;have:=h a ha;omega)
 simp at this;omega
theorem ur (hR:RightN n) {i:Nat} (hi:i<n.Nodes.length) (key:Int):(cc (ah n i) key).Nodup:=by
 unfold cc;split
 ·simp
 ·exact hR.ndO i hi
theorem rY (hR:RightN n) {i:Nat} (hi:i<n.Nodes.length):(ah n i).Out.length<=16:=by have:=tH (hR.ndO i hi) (hR.outR i hi) hR.r1;have:=hR.r2;omega
theorem ww (hR:RightN n) {i:Nat} (hi:i<n.Nodes.length) (it:Item):nj (ah n i) it=some (cc (ah n i) it.Key):=by
 unfold nj cc;by_cases h7:(ah n i).Kind=7
 ·rw [if_neg (by simp [h7]),if_pos h7];have h1:=hR.out1 i hi (by omega);have h2:=rY hR hi;have hm:=MA it.Key (show ((ah n i).Out.length:Int)≠0 by omega);have hm2:=Int.emod_lt_of_pos it.Key (show (0:Int)<(ah n i).Out.length by omega);rw [IC it _ (by omega),Kr];simp only;rw [bw (by omega) (by omega)];obtain ⟨q,hq⟩:=LH hm;rw [hq] at hm2 ⊢;rw [show ((q:Nat):Int)+1=((q+1:Nat):Int) from rfl,nF (by omega) (by omega),Kr];have hql:q<(ah n i).Out.length:=by omega
  congr 1;rw [List.take_succ_eq_append_getElem hql,List.drop_append_of_le_length (by simp;omega),KU (by simp;omega)];simp [Kw,Ks hql]
 ·rw [if_pos (by simpa using h7),if_neg h7]
theorem DJ (hR:RightN n) (ok:OkS n items B s) (l:List Int) (hl:∀ r,r∈l->0<=r/\r<n.Rings) (hll:l.length<=16):ot l s.At s.Rings s.Memory s.Choices s.Out n.Nodes n.Rings n.Room=some (!roomy n s l):=by
 unfold ot qN;have hrg:=ok.rg;rw [tv l (by omega) (fun r=>decide (n.Room<=((s.Rings.getD r.toNat []).length:Int))) (fun k x hx hk h1 h2 h3=>by
  have hm:=hl x (Ku hx);unfold oq qY;rw [h2,h1,h3];simp only [if_true,Kr];rw [idx_D [] hm.1 (by omega),Kr,Kr];rfl) (fun h=>by
  unfold oq;rw [h];rfl)]
 rw [Kr,y7];congr 1;unfold roomy;rw [LI];simp only [Mw,decide_eq_true_eq,Bool.not_eq_true',List.all_eq_false];exact ⟨fun ⟨x,h1,h2⟩=>⟨x,h1,by omega⟩,fun ⟨x,h1,h2⟩=>⟨x,h1,by omega⟩⟩
theorem ua (hS:RightS n items) (ok:OkS n items B s) {i k:Nat} {it:Item} (h:dt n items s i k=some it):0<=it.Dep/\it.Dep<=s.Choices.length:=by
 unfold dt at h;split at h
 ·rename_i h1;have hm:=Ku h;rw [Kw] at hm;cases hg:items[(ah n i).A.toNat]? with
  | none=>rw [hg] at hm;simp at hm
  | some l =>
   rw [hg] at hm;rw [hS.dep0 _ l it hg hm];omega
 ·have hm:=List.mem_of_head? h;rw [Kw] at hm;cases hg:s.Rings[cP (ah n i) k]? with
  | none=>rw [hg] at hm;simp at hm
  | some l=>rw [hg] at hm;exact ok.depR _ l it hg hm
theorem A9 (hS:RightS n items) (ok:OkS n items B s) {i k:Nat} (hi:i<n.Nodes.length) (hk:k<bF (ah n i)) :
  ll n items s ⟨i,k⟩=some (canM n items s i k):=by
 unfold ll canM
 simp only
 rw [bu (gW hi),Kr,Az hS ok hi hk,Kr]
 cases hh:dt n items s i k with
 | none=>rfl
 | some it =>
  simp only [Mu,KD,if_false]
  have hol:(cc (ah n i) it.Key).length<=16:=by
   unfold cc;split
   ·simp
   ·exact rY hS.toRightN hi
  rw [ww hS.toRightN hi,Kr,DJ hS.toRightN ok _ (fun r hr=>hS.outR i hi r (pP hS.toRightN hi _ r hr)) hol,Kr,Kr]
  cases hr:roomy n s (cc (ah n i) it.Key) with
  | false=>rfl
  | true =>
   simp only [Mu,KD,if_false,Bool.true_and]
   have hch:=ok.ch
   have hst:(Option.bind (idx s.Memory (i:Int)) fun x11=>Option.bind (iD (ah n i).Kind (ah n i).A x11 it) fun x12=>some (x12.2.2==0))=some true:=by have hm:=df (⟨0,[],0⟩:Memory) (show i<s.Memory.length by rw [ok.mm];exact hi);rw [bu hm,Kr,Bp _ _ _ _ (ok.mem i _ hm).1 (ua hS ok hh).1 (hS.kind i hi)];rfl
   rw [hst]
   by_cases h6:(ah n i).Kind=6
   ·have h8:¬ (ah n i).Kind=8:=by omega
    by_cases hc:s.Choices.length=500
    ·rw [if_pos (by simp [h6,hc])];simp [h6,hc]
    ·rw [if_neg (by simp [h6];omega)];simp [h6,hc]
   ·by_cases h8:(ah n i).Kind=8
    ·by_cases hc:s.Out.length=2000
     ·rw [if_pos (by simp [h8,hc])];simp [h8,hc]
     ·rw [if_neg (by simp [h8];omega)];simp [h8,hc]
    ·rw [if_neg (by simp [h6,h8])];simp [h6,h8]
end
end
section
theorem uc (y:Item):∀ (l:List Int) (R:List (List Item)),(cA y l R).length=R.length
 | [],R=>rfl
 | r::l,R=>by show (cA y l (R.set r.toNat (R.getD r.toNat []++[y]))).length=_;rw [uc y l];simp
theorem zk {α:Type} (l:List α) (i j:Nat) (a z:α) (h:i<l.length):(l.set i a).getD j z=if j=i then a else l.getD j z:=by
 rw [Kw,KF];by_cases e:j=i
 ·subst e;rw [if_pos rfl,if_pos h,if_pos rfl];rfl
 ·rw [if_neg (fun x=>e x.symm),if_neg e,Kw]
theorem t1 (y:Item):∀ (l:List Int) (R:List (List Item)),l.Nodup->(∀ r,r∈l->0<=r/\r<R.length)->∀ j:Nat,(cA y l R).getD j []=if (j:Int)∈l then R.getD j []++[y] else R.getD j []
 | [],R,_,_,j=>by simp [cA]
 | r::l,R,hd,hl,j=>by
  obtain ⟨hn,hd⟩:=Mz.1 hd;have hr:=hl r KQ;show (cA y l (R.set r.toNat (R.getD r.toNat []++[y]))).getD j []=_;rw [t1 y l _ hd (fun q hq=>by have:=hl q (KS _ hq);simpa using this) j,zk _ _ _ _ _ (by omega)];by_cases e:(j:Int)=r
  ·have ej:j=r.toNat:=by omega
   have hjn:¬ (j:Int)∈l:=by rw [e];exact hn
   rw [if_neg hjn,if_pos ej,if_pos (by rw [e];exact KQ),<- ej]
  ·have ej:¬ j=r.toNat:=by omega
   rw [if_neg ej];have:((j:Int)∈r::l) ↔ (j:Int)∈l:=by simp [e]
   simp only [this]
theorem EI (y:Item) (l:List Int) (r:Int) (R:List (List Item)):cA y (l++[r]) R=(cA y l R).set r.toNat ((cA y l R).getD r.toNat []++[y]):=by unfold cA;rw [List.foldl_append];rfl
theorem DM (l:List Item) (R:Int) (y:Item) (h1:1<=R) (h2:R<=6) (h:(l.length:Int)<R):pH l R y=some (l++[y],0):=by unfold pH;rw [if_neg (by simp;omega),if_neg (by simp;omega),if_neg (by simp;omega)];unfold eB;rw [cx (by simp;omega),Kr,K9,cx (by simp;omega)];rfl
theorem Dv (x:Item) (l:List Item) (h:(x::l).length<=6):pt (x::l)=some (x,l,0):=by
 unfold pt;have h':l.length+1<=6:=by simpa using h
 rw [if_neg (by simp;omega),if_neg (by simp;omega)];have h1:idx (x::l) 0=some x:=rfl;have h2:sub (x::l) 1 (((x::l).length:Nat):Int)=some l:=by have:=iQ (xs:=x::l) (i:=1) (by simp);simpa using this
 unfold eB;rw [h1,Kr,h2,Kr,cx (by simp;omega)];rfl
section
variable {n:Net} {items:List (List Item)} {B:Int} {s:State}
def eJ (n:Net) (s:State) (i k:Nat):List (List Item):=if (ah n i).Kind=1 then s.Rings else s.Rings.set (cP (ah n i) k) (s.Rings.getD (cP (ah n i) k) []).tail
theorem tu (i k:Nat):(eJ n s i k).length=s.Rings.length:=by unfold eJ;split<;>simp
theorem w9 (hR:RightN n) (hrg:(s.Rings.length:Int)=n.Rings) {i k:Nat} (hi:i<n.Nodes.length) (hk:k<bF (ah n i)) (j:Nat) :
  (eJ n s i k).getD j []=if (ah n i).Kind≠1/\j=cP (ah n i) k then (s.Rings.getD j []).tail else s.Rings.getD j []:=by
 unfold eJ
 by_cases h1:(ah n i).Kind=1
 ·rw [if_pos h1,if_neg (fun e=>e.1 h1)]
 ·obtain ⟨_,b0,b1⟩:=rR hR hi (rZ hR hi hk h1)
  rw [if_neg h1,zk _ _ _ _ _ (by unfold cP;omega)]
  by_cases e:j=cP (ah n i) k
  ·rw [if_pos e,if_pos ⟨h1,e⟩,e]
  ·rw [if_neg e,if_neg (fun x=>e x.2)]
theorem rC {i k:Nat} (hc:canM n items s i k=true):∃ it,dt n items s i k=some it/\roomy n s (cc (ah n i) it.Key)=true/\((ah n i).Kind=6->s.Choices.length≠500)/\((ah n i).Kind=8->s.Out.length≠2000):=by
 unfold canM at hc;cases h:dt n items s i k with
 | none=>rw [h] at hc;cases hc
 | some it =>
  rw [h] at hc;simp only [Ly,Bool.not_eq_true',decide_eq_false_iff_not] at hc;exact ⟨it,rfl,hc.1.1,fun h6 e=>hc.1.2 ⟨h6,e⟩,fun h8 e=>hc.2 ⟨h8,e⟩⟩
theorem xS (hR:RightN n) (a2:List Memory) (a3 l:List Int) (a5:List Choice) (M:Memory × Item × Int) (q:Nat) (O:List Item) (R:List (List Item)) (hd:l.Nodup) (hl:∀ r,r∈l->0<=r/\r<R.length/\((R.getD r.toNat []).length:Int)<n.Room) (hll:l.length<=16):∀ (m j:Nat),j+m=l.length ->
  iter (fun ss:Int × (List (List Item))=>jq n a2 a3 l a5 M q O ss.1 ss.2) ((j:Int),cA M.2.1 (l.take j) R)=some (a3,cA M.2.1 l R,a2.set q M.1,a5,O)
 | 0,j,h=>by
  have hj:j=l.length:=by omega
  subst hj;have:jq n a2 a3 l a5 M q O (l.length:Int) (cA M.2.1 (l.take l.length) R)=some (.inr (a3,cA M.2.1 l R,a2.set q M.1,a5,O)):=by unfold jq;rw [if_neg (by simp),Lx];rfl
  rw [aG];simp only [this]
 | m+1,j,h=>by
  have hlt:j<l.length:=by omega
  have hm:=hl _ (K1 hlt);have htk:l.take (j+1)=l.take j++[l[j]]:=List.take_succ_eq_append_getElem hlt;have hnd:(l.take j).Nodup:=hd.sublist (List.take_sublist _ _);have hnm:l[j] ∉ l.take j:=fun hmem=>by
   have:(l.take j++[l[j]]).Nodup:=by rw [<- htk];exact hd.sublist (List.take_sublist _ _)
   rw [List.nodup_append] at this;exact this.2.2 _ hmem _ (by simp) rfl
  have hlen:=uc M.2.1 (l.take j) R;have hget:(cA M.2.1 (l.take j) R).getD l[j].toNat []=R.getD l[j].toNat []:=by rw [t1 _ _ _ hnd (fun r hr=>⟨(hl r (KG hr)).1,(hl r (KG hr)).2.1⟩),if_neg (by rw [Le hm.1];exact hnm)]
  have e:jq n a2 a3 l a5 M q O (j:Int) (cA M.2.1 (l.take j) R)=some (.inl (((j+1:Nat):Int),cA M.2.1 (l.take (j+1)) R)):=by
   unfold jq;rw [if_pos (by simp;omega),bu (Ks hlt),Kr,ixN_D hm.1 (by rw [hlen];exact hm.2.1),Kr,df [] (show l[j].toNat<_ by rw [hlen];omega),Kr,hget,
    DM _ _ _ hR.m1 hR.m2 hm.2.2,Kr,Kr,df [] (show l[j].toNat<_ by rw [hlen];omega),Kr,br (by omega),htk,EI,hget]
  rw [aG];simp only [e];exact xS hR a2 a3 l a5 M q O R hd hl hll m (j+1) (by omega)
theorem w4 (hR:RightN n) (a2:List Memory) (a3 l:List Int) (a5:List Choice) (M:Memory × Item × Int) (q:Nat) (O:List Item) (R:List (List Item)) (hd:l.Nodup) (hl:∀ r,r∈l->0<=r/\r<R.length/\((R.getD r.toNat []).length:Int)<n.Room) (hll:l.length<=16) :
 mu n a2 a3 R l a5 M q O=some (a3,cA M.2.1 l R,a2.set q M.1,a5,O):=xS hR a2 a3 l a5 M q O R hd hl hll l.length 0 (by omega)
theorem do_eq (hS:RightS n items) (ok:OkS n items B s) {i k:Nat} (hi:i<n.Nodes.length) (hk:k<bF (ah n i)) (hc:canM n items s i k=true) :
  mC n items ⟨i,k⟩ s.At s.Rings s.Memory s.Choices s.Out=some ((doM n items s i k).At,(doM n items s i k).Rings,(doM n items s i k).Memory,(doM n items s i k).Choices,(doM n items s i k).Out):=by
 obtain ⟨it,hh,hroom,h500,h2000⟩:=rC hc
 have hhd:=Az hS ok hi hk
 rw [hh] at hhd
 have hrg:=ok.rg
 have hR:=hS.toRightN
 have hlt:∀ r,r∈cc (ah n i) it.Key->0<=r/\r<(eJ n s i k).length/\(((eJ n s i k).getD r.toNat []).length:Int)<n.Room:=fun r hr=>by
  have h1:=hR.outR i hi r (pP hR hi _ r hr);refine ⟨h1.1,by rw [tu];omega,?_⟩;have h2:=Lk.1 hroom r hr;have h2:=of_decide_eq_true h2;rw [w9 hR hrg hi hk];split
  ·rw [List.length_tail];omega
  ·exact h2
 have hol:(cc (ah n i) it.Key).length<=16:=by
  unfold cc;split
  ·simp
  ·exact rY hR hi
 have tail:∀ (At:List Int) (R:List (List Item)),R=eJ n s i k->kC n ⟨i,k⟩ (ah n i) (it,true) s.Memory s.Choices s.Out At R =
   some (At,cA (dp n s i it).2 (cc (ah n i) it.Key) R,s.Memory.set i (dp n s i it).1,if (ah n i).Kind=6 then s.Choices++[⟨i,k⟩] else s.Choices,if (ah n i).Kind=8 then s.Out++[(dp n s i it).2] else s.Out):=fun At R hRe=>by
  subst hRe
  have hmi:i<s.Memory.length:=by rw [ok.mm];exact hi
  have hm:=df (⟨0,[],0⟩:Memory) hmi
  have hdep:=ua hS ok hh
  have hch:=ok.ch
  have k3:∀ (z22:Int) (z23:List Choice),(⟨it.Key,it.Val,z22⟩:Item)=chD (ah n i) s it->0<=z22->ky n ⟨i,k⟩ (ah n i) (it,true) s.Memory s.Out At (eJ n s i k) (cc (ah n i) it.Key) z22 z23 =
    some (At,cA (dp n s i it).2 (cc (ah n i) it.Key) (eJ n s i k),s.Memory.set i (dp n s i it).1,z23,if (ah n i).Kind=8 then s.Out++[(dp n s i it).2] else s.Out):=fun z22 z23 hz hz0=>by
   have hst:iD (ah n i).Kind (ah n i).A (s.Memory.getD i ⟨0,[],0⟩) (⟨it.Key,it.Val,z22⟩:Item)=some ((dp n s i it).1,(dp n s i it).2,0):=by rw [Bp _ _ _ _ (ok.mem i _ hm).1 hz0 (hS.kind i hi),hz];rfl
   unfold ky
   simp only
   rw [eV hmi,Kr,hm,Kr,hst,Kr,Kr,hm,Kr]
   by_cases h8:(ah n i).Kind=8
   ·have:=ok.out
    rw [if_pos (by simpa using h8),cx (by simp;omega),Kr,w4 hR _ _ _ _ _ _ _ _ (ur hR hi _) hlt hol,if_pos h8]
   ·rw [if_neg (by simpa using h8),w4 hR _ _ _ _ _ _ _ _ (ur hR hi _) hlt hol,if_neg h8]
  unfold kC
  rw [ww hR hi,Kr]
  by_cases h6:(ah n i).Kind=6
  ·rw [if_pos (by simpa using h6),cx (by simp;omega),Kr,k3 _ _ (by unfold chD;rw [if_pos h6];simp) (by omega),if_pos h6]
  ·rw [if_neg (by simpa using h6),k3 _ _ (by unfold chD;rw [if_neg h6]) hdep.1,if_neg h6]
 unfold mC doM
 simp only [hh]
 rw [bu (gW hi),Kr,hhd,Kr]
 by_cases h1:(ah n i).Kind=1
 ·rw [if_pos (by simpa using h1)]
  obtain ⟨a0,a1,a2,a3,a4,a5⟩:=at_ok hS ok hi h1
  rw [ixN_D a0 a1,Kr,df 0 (show (ah n i).A.toNat<s.At.length by omega),Kr,Kr,df 0 (show (ah n i).A.toNat<s.At.length by omega),Kr]
  simp only
  rw [tail _ _ (by unfold eJ;rw [if_pos h1]),if_pos h1,if_pos h1,bw (by omega) (by omega)]
 ·rw [if_neg (by simpa using h1)]
  have hkl:=rZ hR hi hk h1
  obtain ⟨_,b0,b1⟩:=rR hR hi hkl
  have hd0:idx (ah n i).In (k:Int)=some ((ah n i).In.getD k 0):=bu (df 0 hkl)
  have hrl:((ah n i).In.getD k 0).toNat<s.Rings.length:=by omega
  unfold dt at hh
  rw [if_neg h1] at hh
  obtain ⟨tl,htl⟩:∃ tl,s.Rings.getD (cP (ah n i) k) []=it::tl:=by
   cases hq:s.Rings.getD (cP (ah n i) k) [] with
   | nil=>rw [hq] at hh;cases hh
   | cons y ys=>rw [hq] at hh;cases hh;exact ⟨ys,rfl⟩
  have hrm:=ok.room _ _ (df [] hrl)
  have hm2:=hS.m2
  rw [hd0,Kr,Kr,ixN_D b0 (by omega),Kr,df [] hrl,Kr]
  have htl':s.Rings.getD ((ah n i).In.getD k 0).toNat []=it::tl:=htl
  rw [htl'] at hrm ⊢
  rw [Dv it tl (by omega),Kr,Kr,df [] hrl,Kr]
  simp only
  rw [tail _ _ (by unfold eJ;rw [if_neg h1,htl];rfl),if_neg h1,if_neg h1,htl]
  rfl
theorem GT (hR:RightN n) (hrg:(s.Rings.length:Int)=n.Rings) {i k:Nat} (hi:i<n.Nodes.length) (hk:k<bF (ah n i)) {it:Item} (hh:dt n items s i k=some it) (j:Nat) :
  (doM n items s i k).Rings.getD j []=(if (ah n i).Kind≠1/\j=cP (ah n i) k then (s.Rings.getD j []).tail else s.Rings.getD j [])++if (j:Int)∈cc (ah n i) it.Key then [(dp n s i it).2] else []:=by
 unfold doM
 simp only [hh]
 show (cA (dp n s i it).2 (cc (ah n i) it.Key) (eJ n s i k)).getD j []=_
 rw [t1 _ _ _ (ur hR hi _) (fun r hr=>by have:=hR.outR i hi r (pP hR hi _ r hr);rw [tu];omega),w9 hR hrg hi hk]
 split<;>simp
theorem Iy {i k:Nat}:(doM n items s i k).Rings.length=s.Rings.length/\(doM n items s i k).At.length=s.At.length/\(doM n items s i k).Memory.length=s.Memory.length:=by
 unfold doM;split
 ·exact ⟨rfl,rfl,rfl⟩
 ·refine ⟨?_,?_,?_⟩
  ·simp only;rw [uc];split<;>simp
  ·simp only;split<;>simp
  ·simp
theorem get_D {α:Type} {l:List α} {k:Nat} {a:α} (z:α) (h:l[k]?=some a):l.getD k z=a:=by rw [Kw,h];rfl
theorem zZ {a b c:Int} (h1:a<=c) (h2:b<=c):maxD a b<=c:=by unfold maxD;split<;>omega
theorem Ht (a b:Int):a<=maxD a b/\b<=maxD a b:=by unfold maxD;split<;>omega
theorem do_ch {i k:Nat} {it:Item} (hh:dt n items s i k=some it):(doM n items s i k).Choices=if (ah n i).Kind=6 then s.Choices++[⟨i,k⟩] else s.Choices:=by unfold doM;simp only [hh]
theorem A5 {i k:Nat} {it:Item} (hh:dt n items s i k=some it):(doM n items s i k).Out=if (ah n i).Kind=8 then s.Out++[(dp n s i it).2] else s.Out:=by unfold doM;simp only [hh]
theorem Ir {i k:Nat} {it:Item} (hh:dt n items s i k=some it):(doM n items s i k).Memory=s.Memory.set i (dp n s i it).1:=by unfold doM;simp only [hh]
theorem do_at {i k:Nat} {it:Item} (hh:dt n items s i k=some it):(doM n items s i k).At=if (ah n i).Kind=1 then s.At.set (ah n i).A.toNat (s.At.getD (ah n i).A.toNat 0+1) else s.At:=by unfold doM;simp only [hh]
theorem AO (hS:RightS n items) (ok:OkS n items B s) {i k:Nat} {it:Item} (hh:dt n items s i k=some it):0<=(chD (ah n i) s it).Dep/\(chD (ah n i) s it).Dep<=(doM n items s i k).Choices.length:=by
 have:=ua hS ok hh;rw [do_ch hh];unfold chD;split
 ·simp<;>omega
 ·exact this
theorem Gh (hS:RightS n items) (ok:OkS n items B s) {i k:Nat} (hi:i<n.Nodes.length) {it:Item} (hh:dt n items s i k=some it) :
  0<=(dp n s i it).2.Dep/\(dp n s i it).2.Dep<=(doM n items s i k).Choices.length/\(dp n s i it).1.Dep<=(doM n items s i k).Choices.length:=by
 have h1:=AO hS ok hh
 have hm:=df (⟨0,[],0⟩:Memory) (show i<s.Memory.length by rw [ok.mm];exact hi)
 have h2:=(ok.mem i _ hm).2.1
 have h3:(s.Choices.length:Int)<=(doM n items s i k).Choices.length:=by
  rw [do_ch hh];split
  ·simp<;>omega
  ·exact Lg _
 have h4:=(ok.mem i _ hm).1.dep
 have h5:=EL (ah n i).Kind (ah n i).A (memN s i) (chD (ah n i) s it)
 have e1:(dp n s i it)=dy (ah n i).Kind (ah n i).A (memN s i) (chD (ah n i) s it):=rfl
 have e2:memN s i=s.Memory.getD i ⟨0,[],0⟩:=rfl
 rw [e1,h5.1,h5.2]
 have h6:=Ht (memN s i).Dep (chD (ah n i) s it).Dep
 refine ⟨?_,?_,?_⟩
 ·split
  ·omega
  ·exact h1.1
 ·split
  ·exact zZ (by rw [e2];omega) h1.2
  ·exact h1.2
 ·split
  ·exact zZ (by rw [e2];omega) h1.2
  ·rw [e2];omega
theorem do_ok (hS:RightS n items) (ok:OkS n items B s) {i k:Nat} (hi:i<n.Nodes.length) (hk:k<bF (ah n i)) (hc:canM n items s i k=true) (hB0:0<=B) (hB:B<4611686018427387904):OkS n items (B+1) (doM n items s i k):=by
 obtain ⟨it,hh,hroom,h500,h2000⟩:=rC hc;obtain ⟨l1,l2,l3⟩:=Iy (n:=n) (items:=items) (s:=s) (i:=i) (k:=k);have hR:=hS.toRightN;have hmi:i<s.Memory.length:=by rw [ok.mm];exact hi
 have hm:=df (⟨0,[],0⟩:Memory) hmi;have hcd:=AO hS ok hh;obtain ⟨d0,d1,d2⟩:=Gh hS ok hi hh;have hcl:(s.Choices.length:Int)<=(doM n items s i k).Choices.length:=by
  rw [do_ch hh];split
  ·simp<;>omega
  ·exact Lg _
 have hrings:∀ (r:Nat) (l:List Item),(doM n items s i k).Rings[r]?=some l->r<s.Rings.length/\l=(if (ah n i).Kind≠1/\r=cP (ah n i) k then (s.Rings.getD r []).tail else s.Rings.getD r [])++if (r:Int)∈cc (ah n i) it.Key then [(dp n s i it).2] else []:=fun r l hl=>by have hr:=(Kt.1 hl).1;rw [l1] at hr;exact ⟨hr,by rw [<- get_D [] hl,GT hR ok.rg hi hk hh]⟩
 refine ⟨by rw [l2];exact ok.at_,by rw [l1];exact ok.rg,by rw [l3];exact ok.mm,?_,?_,fun a p hp=>?_,fun r l hl=>?_,fun r l x hl hx=>?_,fun j m hj=>?_,fun c hcm=>?_,fun x hx=>?_⟩
 ·rw [do_ch hh];have:=ok.ch;split
  ·rename_i h6;have:=h500 h6;simp;omega
  ·exact this
 ·rw [A5 hh];have:=ok.out;split
  ·rename_i h6;have:=h2000 h6;simp;omega
  ·exact this
 ·rw [do_at hh] at hp;split at hp
  ·rename_i h1;obtain ⟨a0,a1,a2,a3,a4,a5⟩:=at_ok hS ok hi h1;rw [KF] at hp;split at hp
   ·rename_i e;split at hp
    ·cases hp;unfold dt at hh;rw [if_pos h1] at hh;have:=(Kt.1 hh).1;rw [<- e];omega
    ·cases hp
   ·exact ok.atP a p hp
  ·exact ok.atP a p hp
 ·obtain ⟨hr,rfl⟩:=hrings r l hl;have h1:=ok.room r _ (df [] hr);have h4:(if (ah n i).Kind≠1/\r=cP (ah n i) k then (s.Rings.getD r []).tail else s.Rings.getD r []).length<=(s.Rings.getD r []).length:=by
   split
   ·rw [List.length_tail];omega
   ·exact Kx _
  rw [Kv];by_cases hin:(r:Int)∈cc (ah n i) it.Key
  ·have h2:=of_decide_eq_true (Lk.1 hroom _ hin);rw [KW] at h2;rw [if_pos hin,LP];omega
  ·rw [if_neg hin,Mm];omega
 ·obtain ⟨hr,rfl⟩:=hrings r l hl;rcases KJ.1 hx with hx | hx
  ·have hx':x∈s.Rings.getD r []:=by
    split at hx
    ·exact List.mem_of_mem_tail hx
    ·exact hx
   have:=ok.depR r _ x (df [] hr) hx';omega
  ·split at hx
   ·simp at hx;subst hx;exact ⟨d0,d1⟩
   ·cases hx
 ·rw [Ir hh,KF] at hj;split at hj
  ·rename_i e;subst e;first
   | (rw [if_pos hmi] at hj)
   | skip
   ·cases hj;obtain ⟨q1,q2⟩:=FT (k:=(ah n i).Kind) (f:=(ah n i).A) (x:=chD (ah n i) s it) (ok.mem i _ hm).1 hcd.1 (hS.kind i hi) B hB0 (ok.mem i _ hm).2.2 hB;exact ⟨q1,d2,q2⟩
  ·obtain ⟨q1,q2,q3⟩:=ok.mem j m hj;exact ⟨q1,by omega,fun y hy=>by have:=q3 y hy;omega⟩
 ·rw [do_ch hh] at hcm;split at hcm
  ·rename_i h6;rcases KJ.1 hcm with h | h
   ·exact ok.cho c h
   ·simp at h;subst h;have:k<(ah n i).In.length:=by unfold bF at hk;rw [if_pos h6] at hk;exact hk
    exact ⟨by simp,by simp;omega,by simpa using h6,by simp,by simpa using this⟩
  ·exact ok.cho c hcm
 ·rw [A5 hh] at hx;split at hx
  ·rcases KJ.1 hx with h | h
   ·have:=ok.depO x h;omega
   ·simp at h;subst h;exact ⟨d0,d1⟩
  ·have:=ok.depO x hx;omega
end
end
noncomputable section
section
variable {n:Net} {items:List (List Item)} {B:Int} {s:State}
theorem tW (hR:RightN n) {i:Nat} (hi:i<n.Nodes.length):bF (ah n i)<=16:=by
 unfold bF;split
 ·have:=tH (hR.ndI i hi) (hR.inR i hi) hR.r1;have:=hR.r2;omega
 ·omega
theorem zg (hS:RightS n items) (ok:OkS n items B s) {i:Nat} (hi:i<n.Nodes.length):∀ (m k:Nat) (acc:List Move),k+m=bF (ah n i)->acc.length+m<=1000000 ->
  iter (fun ss:Int × (List Move)=>f8 n items (i:Int) s (bF (ah n i):Int) ss.1 ss.2) ((k:Int),acc)=some (.inl (((i+1:Nat):Int),acc++(((List.range (bF (ah n i))).drop k).filter fun k=>canM n items s i k).map fun k:Nat=>(⟨i,k⟩:Move)))
 | 0,k,acc,h,ha=>by
  have hk:k=bF (ah n i):=by omega
  have e:f8 n items (i:Int) s (bF (ah n i):Int) (k:Int) acc=some (.inr (.inl (((i+1:Nat):Int),acc))):=by unfold f8;have:=hS.n2;rw [if_neg (by simp;omega),br (by omega)];rfl
  rw [aG];simp only [e];rw [KU (by simp;omega)];simp
 | m+1,k,acc,h,ha=>by
  have hk:k<bF (ah n i):=by omega
  have h16:=tW hS.toRightN hi;have hd:(List.range (bF (ah n i))).drop k=k::(List.range (bF (ah n i))).drop (k+1):=by rw [KC (by simpa using hk),List.getElem_range]
  have e:f8 n items (i:Int) s (bF (ah n i):Int) (k:Int) acc=some (.inl (((k+1:Nat):Int),if canM n items s i k=true then acc++[⟨i,k⟩] else acc)):=by
   unfold f8;rw [if_pos (by simp;omega),A9 hS ok hi hk,Kr,br (by omega)];cases canM n items s i k with
   | true=>rw [if_pos rfl,if_pos rfl,cx (by simp;omega)];rfl
   | false=>rw [if_neg (by decide),if_neg (by decide)]
  rw [aG];simp only [e];rw [zg hS ok hi m (k+1) _ (by omega) (by split<;>(try simp)<;>omega),hd,List.filter_cons];cases canM n items s i k<;>simp
theorem xi (hR:RightN n) {i:Nat} (hi:i<n.Nodes.length):(lG n items s i).length<=16:=by unfold lG;rw [KE];have:=List.length_filter_le (fun k=>canM n items s i k) (List.range (bF (ah n i)));have:=tW hR hi;simp at *;omega
theorem yk (hS:RightS n items) (ok:OkS n items B s):∀ (m i:Nat) (acc:List Move),i+m=n.Nodes.length->acc.length+16*m<=1000 ->
  iter (fun ss:Int × (List Move)=>ju n items s ss.1 ss.2) ((i:Int),acc)=some (acc++((List.range n.Nodes.length).drop i).flatMap fun i=>lG n items s i)
 | 0,i,acc,h,ha=>by
  have hk:i=n.Nodes.length:=by omega
  have e:ju n items s (i:Int) acc=some (.inr acc):=by unfold ju;rw [if_neg (by simp;omega)];rfl
  rw [aG];simp only [e];rw [KU (by simp;omega)];simp
 | m + 1,i,acc,h,ha=>by
  have hi:i<n.Nodes.length:=by omega
  have hd:(List.range n.Nodes.length).drop i=i::(List.range n.Nodes.length).drop (i+1):=by rw [KC (by simpa using hi),List.getElem_range]
  have hin:=zg hS ok hi (bF (ah n i)) 0 acc (by omega) (by have:=tW hS.toRightN hi;omega);have e:ju n items s (i:Int) acc=some (.inl (((i+1:Nat):Int),acc++lG n items s i)):=by
   unfold ju mH;rw [if_pos (by simp;omega),bu (gW hi),Kr];have hl:(if ((ah n i).Kind==6)=true then iter (fun dz:Int × (List Move)=>f8 n items (i:Int) s ((ah n i).In.length:Int) dz.1 dz.2) (0,acc) else iter (fun dz:Int × (List Move)=>f8 n items (i:Int) s 1 dz.1 dz.2) (0,acc)) =
     iter (fun ss:Int × (List Move)=>f8 n items (i:Int) s (bF (ah n i):Int) ss.1 ss.2) (0,acc):=by
    unfold bF
    by_cases h6:(ah n i).Kind=6
    ·rw [if_pos (by simpa using h6),if_pos h6]
    ·rw [if_neg (by simpa using h6),if_neg h6];rfl
   rw [hl];rw [K3] at hin;rw [hin,Lc];rfl
  rw [aG];simp only [e];have h16:=xi (items:=items) (s:=s) hS.toRightN hi;rw [yk hS ok m (i+1) _ (by omega) (by rw [Kv];omega),hd,Ls,KM]
theorem Gk (hS:RightS n items) (ok:OkS n items B s):pn n items s=some (bi n items s):=by unfold pn;have:=yk hS ok n.Nodes.length 0 [] (by omega) (by have:=hS.n2;simp;omega);rw [K3,Lc,K9] at this;exact this
theorem pm {m:Move} (h:m∈bi n items s):∃ i k:Nat,m=⟨i,k⟩/\i<n.Nodes.length/\k<bF (ah n i)/\canM n items s i k=true:=by unfold bi at h;obtain ⟨i,hi,hm⟩:=List.mem_flatMap.1 h;unfold lG at hm;obtain ⟨k,hk,rfl⟩:=KT.1 hm;obtain ⟨h1,h2⟩:=List.mem_filter.1 hk;exact ⟨i,k,rfl,by simpa using hi,by simpa using h1,h2⟩
theorem w8 (hR:RightN n):(bi n items s).length<=192:=by
 have h:∀ (l:List Nat),(∀ i,i∈l->i<n.Nodes.length)->(l.flatMap fun i=>lG n items s i).length<=16*l.length:=by
  intro l;induction l with
  | nil=>intro _;simp
  | cons a l ih =>
   intro h;have h1:=xi (items:=items) (s:=s) hR (h a KQ);have h2:=ih fun i hi=>h i (KS _ hi)
   rw [Ls,Kv,KH];omega
 have:=h (List.range n.Nodes.length) (fun i hi=>by simpa using hi);have h2:=hR.n2;rw [List.length_range] at this;unfold bi;omega
def doMv (n:Net) (items:List (List Item)) (s:State) (m:Move):State:=doM n items s m.Node.toNat m.Lane.toNat
def wsum (w:Nat->Nat):Nat->List (List Item)->Nat
 | _,[]=>0
 | k,l::R=>l.length*w k+wsum w (k+1) R
def gH:List (List Item)->List Int->Nat
 | l::ls,p::ps=>(l.length - p.toNat)+gH ls ps
 | _,_=>0
theorem ud (w:Nat->Nat) (x:List Item):∀ (R:List (List Item)) (k j:Nat),j<R.length->wsum w k (R.set j x)+(R.getD j []).length*w (k+j)=wsum w k R+x.length*w (k+j)
 | [],k,j,h=>by simp at h
 | l::R,k,0,h=>by simp [wsum];omega
 | l::R,k,j+1,h=>by
  have:=ud w x R (k+1) j (by simpa using h);have e:k+1+j=k+(j+1):=by omega
  rw [e] at this;simp only [List.set_cons_succ,wsum,List.getD_cons_succ];omega
theorem xG:∀ (ls:List (List Item)) (ps:List Int) (a:Nat),a<ps.length->0<=ps.getD a 0->(ps.getD a 0).toNat<(ls.getD a []).length->gH ls (ps.set a (ps.getD a 0+1))+1=gH ls ps
 | ls,[],a,h,_,_=>by simp at h
 | [],p::ps,a,h,_,h2=>by simp at h2
 | l::ls,p::ps,0,h,h0,h2=>by
  simp only [List.getD_cons_zero] at h0 h2 ⊢;simp only [List.set_cons_zero,gH];omega
 | l::ls,p::ps,a+1,h,h0,h2=>by simp only [List.getD_cons_succ] at h0 h2 ⊢;have:=xG ls ps a (by simpa using h) h0 h2;simp only [List.set_cons_succ,gH];omega
theorem zI (w:Nat->Nat) (y:Item):∀ (l:List Int) (R:List (List Item)),(∀ r,r∈l->0<=r/\r<R.length)->wsum w 0 (cA y l R)=wsum w 0 R+(l.map fun r=>w r.toNat).sum
 | [],R,_=>by simp [cA]
 | r::l,R,h=>by have hr:=h r KQ;show wsum w 0 (cA y l (R.set r.toNat (R.getD r.toNat []++[y])))=_;rw [zI w y l _ (fun q hq=>by have:=h q (KS _ hq);simpa using this)];have:=ud w (R.getD r.toNat []++[y]) R 0 r.toNat (by omega);rw [Kv,KP,LP,Mj,Ln] at this;rw [Ll,Mi];omega
def uC (n:Net) (r:Nat):Nat:=((List.range n.Nodes.length).find? fun i=>decide ((r:Int)∈(ah n i).In)).getD 0
theorem yd (hR:RightN n) {i:Nat} (hi:i<n.Nodes.length) {r:Int} (hr:r∈(ah n i).In):uC n r.toNat=i:=by
 have h0:=hR.inR i hi r hr;unfold uC;cases h:(List.range n.Nodes.length).find? fun i=>decide ((r.toNat:Int)∈(ah n i).In) with
 | none =>
  rw [List.find?_eq_none] at h;have:=h i (by simpa using hi);rw [Le h0.1] at this;simp [hr] at this
 | some j =>
  have h1:=List.find?_some h;have h2:=L2 h;rw [Le h0.1] at h1;exact hR.oneI j i r (by simpa using h2) hi (by simpa using h1) hr
open Classical in
noncomputable def dA (n:Net):Nat->Nat:=if h:RightN n then Classical.choose h.ord else fun _=>0
theorem FO (hR:RightN n):(∀ i,i<n.Nodes.length->dA n i<n.Nodes.length)/\(∀ i j,i<n.Nodes.length->j<n.Nodes.length->dA n i=dA n j->i=j)/\∀ i j r,i<n.Nodes.length->j<n.Nodes.length->r∈(ah n i).Out->r∈(ah n j).In->dA n i<dA n j:=by
 have:dA n=Classical.choose hR.ord:=by unfold dA;rw [dif_pos hR]
 rw [this];exact Classical.choose_spec hR.ord
def wN (n:Net) (r:Nat):Nat:=17 ^ (12 - dA n (uC n r))
def muN (n:Net) (items:List (List Item)) (s:State):Nat:=wsum (wN n) 0 s.Rings+gH items s.At*17 ^ 12
theorem I0 (hR:RightN n) {i:Nat} (hi:i<n.Nodes.length) (key:Int):((cc (ah n i) key).map fun r=>wN n r.toNat).sum<17 ^ (12 - dA n i):=by
 obtain ⟨p1,_,p2⟩:=FO hR;have hpi:=p1 i hi;have hn:=hR.n2;have hb:∀ r,r∈cc (ah n i) key->wN n r.toNat<=17 ^ (11 - dA n i):=fun r hr=>by have hro:=pP hR hi key r hr;have h0:=hR.outR i hi r hro;obtain ⟨j,hj,hrj⟩:=hR.toI r.toNat (by omega);rw [Le h0.1] at hrj;have h1:=p2 i j r hi hj hro hrj;have h2:=p1 j hj;unfold wN;rw [yd hR hj hrj];exact Nat.pow_le_pow_right (by omega) (by omega)
 have hsum:∀ (l:List Int),(∀ r,r∈l->wN n r.toNat<=17 ^ (11 - dA n i))->(l.map fun r=>wN n r.toNat).sum<=l.length*17 ^ (11 - dA n i):=by
  intro l;induction l with
  | nil=>intro _;simp
  | cons a l ih =>
   intro h;have h1:=h a KQ;have h2:=ih fun r hr=>h r (KS _ hr)
   rw [Ll,Mi,KH,KP,Mj];omega
 have h1:=hsum _ hb;have h2:(cc (ah n i) key).length<=16:=by
  unfold cc;split
  ·simp
  ·exact rY hR hi
 have h3:(cc (ah n i) key).length*17 ^ (11 - dA n i)<=16*17 ^ (11 - dA n i):=KL _ h2;have e:12 - dA n i=(11 - dA n i)+1:=by omega
 have h4:17 ^ (12 - dA n i)=17 ^ (11 - dA n i)*17:=by rw [e,MF]
 have h5:0<17 ^ (11 - dA n i):=Nat.pow_pos (by omega);omega
theorem mu_do (hS:RightS n items) (ok:OkS n items B s) {i k:Nat} (hi:i<n.Nodes.length) (hk:k<bF (ah n i)) (hc:canM n items s i k=true):muN n items (doM n items s i k)+1<=muN n items s:=by
 obtain ⟨it,hh,hroom,h500,h2000⟩:=rC hc;have hR:=hS.toRightN;have hrg:=ok.rg;have hw:=I0 hR hi it.Key;have hrl:∀ r,r∈cc (ah n i) it.Key->0<=r/\r<(eJ n s i k).length:=fun r hr=>by have:=hR.outR i hi r (pP hR hi _ r hr);rw [tu];omega
 have hput:=zI (wN n) (dp n s i it).2 _ _ hrl;have hrings:(doM n items s i k).Rings=cA (dp n s i it).2 (cc (ah n i) it.Key) (eJ n s i k):=by unfold doM;simp only [hh];rfl
 unfold muN;rw [hrings,hput,do_at hh];by_cases h1:(ah n i).Kind=1
 ·obtain ⟨a0,a1,a2,a3,a4,a5⟩:=at_ok hS ok hi h1;unfold dt at hh;rw [if_pos h1] at hh;have h2:=(Kt.1 hh).1;have h3:=xG items s.At (ah n i).A.toNat (by omega) a3 h2;rw [if_pos h1];unfold eJ;rw [if_pos h1];have h4:17 ^ (12 - dA n i)<=17 ^ 12:=Nat.pow_le_pow_right (by omega) (by omega);rw [<- h3,KP,Mj];omega
 ·have hkl:=rZ hR hi hk h1;obtain ⟨hm,b0,b1⟩:=rR hR hi hkl;rw [if_neg h1];unfold eJ;rw [if_neg h1];unfold dt at hh;rw [if_neg h1] at hh;have h2:=ud (wN n) (s.Rings.getD (cP (ah n i) k) []).tail s.Rings 0 (cP (ah n i) k) (by unfold cP;omega);have h3:wN n (cP (ah n i) k)=17 ^ (12 - dA n i):=by
   unfold wN cP;rw [yd hR hi hm]
  cases hq:s.Rings.getD (cP (ah n i) k) [] with
  | nil=>rw [hq] at hh;cases hh
  | cons y ys =>
   rw [hq] at h2;rw [Ln,h3,List.tail_cons,KH,KP,Mj] at h2;rw [List.tail_cons];omega
def Inv (n:Net) (items:List (List Item)) (s:State):Prop:=∃ B:Nat,OkS n items B s/\B+muN n items s<=1000000000000000000
theorem Inv.doM (hS:RightS n items) (h:Inv n items s) {i k:Nat} (hi:i<n.Nodes.length) (hk:k<bF (ah n i)) (hc:canM n items s i k=true):Inv n items (doM n items s i k)/\muN n items (Go.Proofs.YtnlmagdmmjkklaaGreat.doM n items s i k)+1<=muN n items s:=by obtain ⟨B,ok,hB⟩:=h;have:=mu_do hS ok hi hk hc;refine ⟨⟨B+1,do_ok hS ok hi hk hc (by omega) (by omega),by omega⟩,this⟩
theorem Inv.doMv (hS:RightS n items) (h:Inv n items s) {m:Move} (hm:m∈bi n items s):Inv n items (doMv n items s m)/\muN n items (Go.Proofs.YtnlmagdmmjkklaaGreat.doMv n items s m)+1<=muN n items s:=by obtain ⟨i,k,rfl,hi,hk,hc⟩:=pm hm;exact Inv.doM hS h hi hk hc
def bh (n:Net) (items:List (List Item)):State:=⟨List.replicate items.length 0,List.replicate n.Rings.toNat [],List.replicate n.Nodes.length ⟨0,[],0⟩,[],[]⟩
theorem Ba (w:Nat->Nat):∀ (m k:Nat),wsum w k (List.replicate m [])=0
 | 0,k=>rfl
 | m+1,k=>by rw [L6];simp [wsum,Ba w m (k+1)]
theorem zn (L:Nat):∀ (ls:List (List Item)) (ps:List Int),(∀ l,l∈ls->l.length<=L)->gH ls ps<=L*ls.length
 | [],ps,_=>by simp [gH]
 | l::ls,[],_=>by simp [gH]
 | l::ls,p::ps,h=>by
  have h1:=h l KQ;have h2:=zn L ls ps fun x hx=>h x (KS _ hx)
  simp only [gH,KH,Nat.mul_add];omega
theorem ru (hS:RightS n items):Inv n items (bh n items):=by
 have hr:∀ (r:Nat) (l:List Item),(bh n items).Rings[r]?=some l->l=[]:=fun r l h=>by have:=Ku h;exact (LN.1 this).2
 refine ⟨0,⟨by simp [bh],by have:=hS.r1;simp [bh];omega,by simp [bh],by simp [bh],by simp [bh],fun a p hp=>?_,fun r l hl=>?_,fun r l x hl hx=>?_,fun i m hm=>?_,fun c hc=>by simp [bh] at hc,fun x hx=>by simp [bh] at hx⟩,?_⟩
 ·have:=(LN.1 (Ku hp)).2;subst this;exact ⟨Lg _,by omega⟩
 ·rw [hr r l hl];have:=hS.m1;simp;omega
 ·rw [hr r l hl] at hx;cases hx
 ·have:=(LN.1 (Ku hm)).2;subst this;refine ⟨⟨by simp,fun x hx=>(by cases hx),fun i j x y _ h=>(by simp at h),by simp⟩,by simp [bh],fun y hy=>(by cases hy)⟩
 ·have h1:=zn 20 items (bh n items).At (fun l hl=>by
   obtain ⟨a,ha⟩:=KI hl;exact hS.l20 a l ha)
  have h2:=hS.l4;unfold muN;have:wsum (wN n) 0 (bh n items).Rings=0:=Ba _ _ _;rw [this];have h3:gH items (bh n items).At<=80:=by omega
  have h4:=KL (17 ^ 12) h3;omega
theorem GR (hS:RightS n items) (hio:∀ x∈n.Nodes,x.In.length<=1099511627776/\x.Out.length<=1099511627776):ph n items=some (bh n items):=by
 unfold ph;have h1:=hS.r1;have h2:=hS.r2;have h3:=hS.n2;have h4:=hS.l4;have e1:mk ((items.length:Nat):Int) (0:Int)=some (List.replicate items.length 0):=by unfold mk;rw [if_pos (by omega)];simp
 have e2:mk n.Rings ([]:List Item)=some (List.replicate n.Rings.toNat []):=by unfold mk;rw [if_pos (by omega)]
 have e3:mk ((n.Nodes.length:Nat):Int) (⟨0,[],0⟩:Memory)=some (List.replicate n.Nodes.length ⟨0,[],0⟩):=by unfold mk;rw [if_pos (by omega)];simp
 simp only [e1,e2,e3,Kr];rfl
def e7 (l:List Move) (c:Int):Move:=l.getD (c % l.length).toNat ⟨0,0⟩
theorem zC {l:List Move} (h:l≠[]) (c:Int):e7 l c∈l/\(c % l.length).toNat<l.length:=by
 have h1:0<l.length:=LU.2 h;have h2:=MA c (show (l.length:Int)≠0 by omega);have h3:=Int.emod_lt_of_pos c (show (0:Int)<l.length by omega);have h4:(c % l.length).toNat<l.length:=by omega
 exact ⟨Ku (df _ h4),h4⟩
theorem Jl (c:Int) (m:Nat) (h0:0<m) (h:m<=1000):(rem c m).bind (fun x=>(rem (IntKind.i64.wrap (x+m)) m))=some (c % m):=by have h1:=Int.tmod_lt_of_pos c (show (0:Int)<m by omega);have h2:=Int.lt_tmod_of_pos c (show (0:Int)<m by omega);unfold rem;rw [if_neg (by omega),Kr,if_neg (by omega),bw (by omega) (by omega)];congr 1;rw [Int.tmod_eq_emod_of_nonneg (by omega),Int.add_emod_right,Int.tmod_eq_emod];split<;>simp [Int.sub_emod_right]
def noS:State:=⟨[],[],[],[],[]⟩
end
end
noncomputable section
def eW {α ρ:Type} (f:Nat->α->Option ρ):Nat->List α->Option ρ
 | _,[]=>none
 | k,x::xs=>match f k x with
  | some r=>some r
  | none=>eW f (k+1) xs
theorem pF {α ρ:Type} (xs:List α) (hx:xs.length<=1099511627776) (f:Nat->α->Option ρ) (fin:Option ρ) {body:Int->Option (Int ⊕ ρ)}
  (h1:∀ (k:Nat) (x:α),xs[k]?=some x->k<xs.length->idx xs (k:Int)=some x->decide ((k:Int)<(xs.length:Int))=true->IntKind.i64.wrap ((k:Int)+1)=((k+1:Nat):Int)->body k=match f k x with | some r=>some (.inr r) | none=>some (.inl ((k+1:Nat):Int)))
  (h2:decide ((xs.length:Int)<(xs.length:Int))=false->body xs.length=fin.map .inr):iter body 0=match eW f 0 xs with | some r=>some r | none=>fin:=by
 have key:∀ (m k:Nat),k+m=xs.length->iter body k=match eW f k (xs.drop k) with | some r=>some r | none=>fin:=by
  intro m;induction m with
  | zero =>
   intro k hk;have hk:k=xs.length:=by omega
   subst hk;rw [aG,h2 (by simp),Lm];unfold eW;cases fin<;>rfl
  | succ m ih =>
   intro k hk;have hlt:k<xs.length:=by omega
   have hg:xs[k]?=some xs[k]:=Ks hlt;rw [aG,h1 k _ hg hlt (bu hg) (by simp;omega) (br (by omega)),KC hlt];unfold eW;cases f k xs[k] with
   | some r=>rfl
   | none=>exact ih (k+1) (by omega)
 have:=key xs.length 0 (by omega)
 rw [K3,Lc] at this
 exact this
theorem kY {α ρ:Type} {f:Nat->α->Option ρ}:∀ {xs:List α} {k:Nat},eW f k xs=none ↔ ∀ (j:Nat) (x:α),xs[j]?=some x->f (k+j) x=none
 | [],k=>⟨fun _ j x h=>by simp at h,fun _=>rfl⟩
 | y::xs,k=>by
  unfold eW;cases hf:f k y with
  | some r =>
   refine ⟨fun h=>(by cases h),fun h=>?_⟩;have:=h 0 y rfl;rw [Lq,hf] at this;cases this
  | none =>
   simp only;rw [kY];constructor
   ·intro h j x hj;cases j with
    | zero=>simp at hj;subst hj;exact hf
    | succ j=>have:=h j x (by simpa using hj);rwa [show k+1+j=k+(j+1) by omega] at this
   ·intro h j x hj;have:=h (j+1) x (by simpa using hj);rwa [show k+(j+1)=k+1+j by omega] at this
def g7 (s:State) (l:List Item):Bool:=l.any fun x=>decide (x.Dep<0) || decide (x.Dep > (s.Choices.length:Int))
def chkM (m:Memory):Int:=(jG m).getD 0
theorem uu (m:Memory):jG m=some (chkM m)/\(chkM m=0 ↔ okM m):=by
 obtain ⟨c,h1,h2⟩:=ya m;have:chkM m=c:=by unfold chkM;rw [h1];rfl
 rw [this];exact ⟨h1,h2⟩
def jW (n:Net) (c:Choice):Bool:=decide (0<=c.Node/\c.Node<n.Nodes.length/\(ah n c.Node.toNat).Kind=6/\0<=c.Lane/\c.Lane<(ah n c.Node.toNat).In.length)
def cr (n:Net) (items:List (List Item)) (s:State):Int :=
 if cj n items≠0 then cj n items
 else if s.At.length≠items.length∨(s.Rings.length:Int)≠n.Rings∨s.Memory.length≠n.Nodes.length then 4
 else if 500<s.Choices.length∨2000<s.Out.length then 2
 else (eW (fun k (p:Int)=>if p<0∨p > ((items.getD k []).length:Int) then some (3:Int) else none) 0 s.At).getD
  ((eW (fun _ (l:List Item)=>if n.Room<(l.length:Int) then some (2:Int) else if g7 s l=true then some 3 else none) 0 s.Rings).getD
  ((eW (fun _ (m:Memory)=>if chkM m≠0 then some (chkM m) else if m.Dep > (s.Choices.length:Int) then some 3 else none) 0 s.Memory).getD
  ((eW (fun _ (c:Choice)=>if jW n c=true then none else some (5:Int)) 0 s.Choices).getD (if g7 s s.Out=true then 3 else 0))))
theorem xe {α:Type} (o:Option α) (z:α):(match o with | some r=>some r | none=>some z)=some (o.getD z):=by cases o<;>rfl
section
variable {n:Net} {items:List (List Item)} {B:Int} {s:State}
theorem yy (s:State) (l:List Item) (hl:l.length<=1099511627776):mo l s.At s.Rings s.Memory s.Choices s.Out=some (!g7 s l):=by
 unfold mo qJ qL;rw [tv l hl (fun x=>decide (x.Dep<0) || decide (x.Dep > (s.Choices.length:Int))) (fun k x hx hk h1 h2 h3=>by
  unfold om qP;rw [h2,h1,h3];simp only [if_true,Kr];rfl) (fun h=>by
  unfold om;rw [h];rfl)]
 rw [Kr,y7];rfl
theorem EM (n:Net) (c:Choice):o9 n c=some (jW n c):=by
 unfold o9 jW;by_cases h0:0<=c.Node
 ·rw [if_pos (by simpa using h0)];by_cases h1:c.Node<n.Nodes.length
  ·have hi:idx n.Nodes c.Node=some (ah n c.Node.toNat):=idx_D _ h0 h1;rw [if_pos (by simpa using h1),hi,Kr];by_cases h6:(ah n c.Node.toNat).Kind=6
   ·rw [if_pos (by simpa using h6)];by_cases h2:0<=c.Lane
    ·rw [if_pos (by simpa using h2),Kr,Kr];simp [h0,h1,h6,h2]
    ·rw [if_neg (by simpa using h2)];simp [h2]
   ·rw [if_neg (by simpa using h6)];simp [h6]
  ·rw [if_neg (by simpa using h1)];simp [h1]
 ·rw [if_neg (by simpa using h0)];simp [h0]
theorem pD (n:Net) (items:List (List Item)) (s:State) (hio:∀ x∈n.Nodes,x.In.length<=1099511627776/\x.Out.length<=1099511627776) (hr:∀ l,l∈s.Rings->l.length<=1099511627776):gc n items s=some (cr n items s):=by
 unfold gc cr;rw [q4 n items hio,Kr];by_cases h:cj n items=0
 ·have hS:=jR h;rw [if_neg (show ¬ (cj n items != 0)=true by simp [h]),if_neg (show ¬ cj n items≠0 by simp [h])];by_cases hl:s.At.length≠items.length∨(s.Rings.length:Int)≠n.Rings∨s.Memory.length≠n.Nodes.length
  ·rw [if_pos hl,if_pos (by simp;omega)]
  ·have h1:s.At.length=items.length:=by omega
   have h2:(s.Rings.length:Int)=n.Rings:=by omega
   have h3:s.Memory.length=n.Nodes.length:=by omega
   rw [if_neg hl,if_neg (by simp;omega)];by_cases hm:500<s.Choices.length∨2000<s.Out.length
   ·rw [if_pos hm,if_pos (by simp;omega)]
   ·rw [if_neg hm,if_neg (by simp;omega)];have h4:=hS.l4;have h5:=hS.r2;have h6:=hS.n2;rw [pF s.At (by omega) (fun k (p:Int)=>if p<0∨p > ((items.getD k []).length:Int) then some (3:Int) else none) (iter (fun ke:Int=>mJ n s ke) 0) (fun k x hx hk e1 e2 e3=>by
     unfold o5;rw [e2,e1,e3];simp only [if_true,Kr];have hi:=bu (df ([]:List Item) (show k<items.length by omega));by_cases hx0:x<0
     ·rw [if_pos (by simpa using hx0),Kr,if_pos rfl,if_pos (show x<0∨_ from .inl hx0)];rfl
     ·rw [if_neg (by simpa using hx0),hi,Kr,Kr];by_cases hx1:x > ((items.getD k []).length:Int)
      ·rw [if_pos (by simpa using hx1),if_pos (show x<0∨x > ((items.getD k []).length:Int) from .inr hx1)];rfl
      ·rw [if_neg (by simpa using hx1),if_neg (show ¬ (x<0∨x > ((items.getD k []).length:Int)) by omega)]) (fun e=>by
     unfold o5;rw [e];rfl)]
    rw [pF s.Rings (by omega) (fun _ (l:List Item)=>if n.Room<(l.length:Int) then some (2:Int) else if g7 s l=true then some 3 else none) (iter (fun ik:Int=>mK n s ik) 0) (fun k x hx hk e1 e2 e3=>by
     unfold mJ;rw [e2,e1,e3];simp only [if_true,Kr];rw [yy s x (hr x (Ku hx)),Kr];by_cases hx1:n.Room<(x.length:Int)
     ·rw [if_pos (by simpa using hx1),if_pos hx1];rfl
     ·rw [if_neg (by simpa using hx1),if_neg hx1];cases g7 s x<;>rfl) (fun e=>by
     unfold mJ;rw [e];rfl)]
    rw [pF s.Memory (by omega) (fun _ (m:Memory)=>if chkM m≠0 then some (chkM m) else if m.Dep > (s.Choices.length:Int) then some 3 else none) (iter (fun ik:Int=>mE n s ik) 0) (fun k x hx hk e1 e2 e3=>by
     unfold mK;rw [e2,e1,e3];simp only [if_true,Kr];rw [(uu x).1,Kr];by_cases hx1:chkM x=0
     ·rw [if_neg (show ¬ (chkM x != 0)=true by simp [hx1]),if_neg (show ¬ chkM x≠0 by simp [hx1])];by_cases hx2:x.Dep > (s.Choices.length:Int)
      ·rw [if_pos (by simpa using hx2),if_pos hx2];rfl
      ·rw [if_neg (by simpa using hx2),if_neg hx2]
     ·rw [if_pos (show (chkM x != 0)=true by simpa using hx1),if_pos hx1];rfl) (fun e=>by
     unfold mK;rw [e];rfl)]
    rw [pF s.Choices (by omega) (fun _ (c:Choice)=>if jW n c=true then none else some (5:Int)) (some (if g7 s s.Out=true then 3 else 0)) (fun k x hx hk e1 e2 e3=>by
     unfold mE;rw [e2,e1,e3];simp only [if_true,Kr];rw [EM,Kr];cases jW n x<;>rfl) (fun e=>by
     unfold mE;rw [e,yy s s.Out (by omega)];simp only [KD,if_false,Kr];cases g7 s s.Out<;>rfl)]
    simp only [xe]
 ·rw [if_pos (show (cj n items != 0)=true by simpa using h),if_pos h]
theorem q6 {l:List Item}:g7 s l=false ↔ ∀ x,x∈l->0<=x.Dep/\x.Dep<=s.Choices.length:=by unfold g7;rw [List.any_eq_false];simp only [LY,decide_eq_true_eq];exact ⟨fun h x hx=>by have:=h x hx;omega,fun h x hx=>by have:=h x hx;omega⟩
theorem sj {o:Option Int} {z:Int} (h:o.getD z=0) (ho:∀ r,o=some r->r≠0):o=none/\z=0:=by
 cases o with
 | none=>exact ⟨rfl,h⟩
 | some r=>exact absurd h (ho r rfl)
theorem pc {α ρ:Type} {f:Nat->α->Option ρ}:∀ {xs:List α} {k:Nat} {r:ρ},eW f k xs=some r->∃ (j:Nat) (x:α),xs[j]?=some x/\f (k+j) x=some r
 | [],k,r,h=>by cases h
 | y::xs,k,r,h=>by
  unfold eW at h;split at h
  ·rename_i r' hf;cases h;exact ⟨0,y,rfl,hf⟩
  ·obtain ⟨j,x,h1,h2⟩:=pc h;exact ⟨j+1,x,by simpa using h1,by rw [<- h2];congr 1;omega⟩
theorem I9 (h:cr n items s=0) (hB:∀ m,m∈s.Memory->∀ y,y∈m.Keys->y.N<=B):OkS n items B s:=by
 unfold cr at h;split at h
 ·rename_i h1;exact absurd h h1
 ·split at h
  ·exact absurd h (by decide)
  ·split at h
   ·exact absurd h (by decide)
   ·rename_i h1 h2 h3;obtain ⟨e1,h⟩:=sj h (fun r hr=>by obtain ⟨j,x,_,h5⟩:=pc hr;split at h5<;>cases h5;decide);obtain ⟨e2,h⟩:=sj h (fun r hr=>by
     obtain ⟨j,x,_,h5⟩:=pc hr;split at h5
     ·cases h5;decide
     ·split at h5<;>cases h5;decide)
    obtain ⟨e3,h⟩:=sj h (fun r hr=>by
     obtain ⟨j,x,_,h5⟩:=pc hr;split at h5
     ·rename_i h6;cases h5;exact h6
     ·split at h5<;>cases h5;decide)
    obtain ⟨e4,h⟩:=sj h (fun r hr=>by obtain ⟨j,x,_,h5⟩:=pc hr;split at h5<;>cases h5;decide);rw [kY] at e1 e2 e3 e4;refine ⟨by omega,by omega,by omega,by omega,by omega,fun a p hp=>?_,fun r l hl=>?_,fun r l x hl hx=>?_,fun i m hm=>?_,fun c hc=>?_,?_⟩
    ·have:=e1 a p hp;rw [Ln] at this;split at this
     ·cases this
     ·omega
    ·have:=e2 r l hl;split at this
     ·cases this
     ·omega
    ·have:=e2 r l hl;split at this
     ·cases this
     ·split at this
      ·cases this
      ·rename_i hb;exact q6.1 (Bool.eq_false_iff.2 hb) x hx
    ·have:=e3 i m hm;split at this
     ·cases this
     ·rename_i hb;split at this
      ·cases this
      ·exact ⟨(uu m).2.1 (Decidable.not_not.1 hb),by omega,hB m (Ku hm)⟩
    ·obtain ⟨j,hj⟩:=KI hc;have:=e4 j c hj;split at this
     ·rename_i hb;unfold jW at hb;unfold rG;exact of_decide_eq_true hb
     ·cases this
    ·split at h
     ·exact absurd h (by decide)
     ·rename_i hb;exact q6.1 (Bool.eq_false_iff.2 hb)
theorem sm (hsrc:cj n items=0) (ok:OkS n items B s):cr n items s=0:=by
 unfold cr;have h1:=ok.at_;have h2:=ok.rg;have h3:=ok.mm;have h4:=ok.ch;have h5:=ok.out;rw [if_neg (by omega),if_neg (by omega),if_neg (by omega)];rw [kY.2 (fun j p hp=>by have:=ok.atP j p hp;rw [Ln];rw [if_neg (by omega)]),kY.2 (fun r l hl=>by
  have:=ok.room r l hl;rw [if_neg (by omega),if_neg (by rw [q6.2 (fun x hx=>ok.depR r l x hl hx)];decide)]),kY.2 (fun i m hm=>by
  have:=ok.mem i m hm;rw [if_neg (by have:=(uu m).2.2 this.1;omega),if_neg (by omega)]),kY.2 (fun j c hc=>by
  have:=ok.cho c (Ku hc);rw [if_pos (show jW n c=true by unfold jW;unfold rG at this;exact decide_eq_true this)])]
 show (if g7 s s.Out=true then 3 else 0)=(0:Int)
 rw [if_neg (by rw [q6.2 ok.depO];decide)]
theorem tV {α:Type} {l:List α} {k:Nat} {a:α} (h:l[k]?=some a):l.set k a=l:=by obtain ⟨hlt,rfl⟩:=Kt.1 h;exact Lr hlt
theorem HP (s:State) (h1:s.At.length<=1099511627776) (h2:s.Rings.length<=1099511627776) (h3:s.Memory.length<=1099511627776) (h4:s.Choices.length<=1099511627776) (h5:s.Out.length<=1099511627776)
  (h6:∀ l,l∈s.Rings->l.length<=1099511627776) (h7:∀ m,m∈s.Memory->m.Keys.length<=1099511627776):jQ s=some s:=by
 have cl:∀ {α:Type} (l:List α),l.length<=1099511627776->app [] l=some l:=fun l hl=>by rw [cx (by simpa using hl)];rfl
 have l1:∀ (m k:Nat),k+m=s.Memory.length->iter (fun BC:Int × (List Memory)=>jE s s.At s.Rings s.Memory BC.1 BC.2) ((k:Int),s.Memory)=some s:=by
  intro m;induction m with
  | zero =>
   intro k hk;have hk:k=s.Memory.length:=by omega
   subst hk;have e:jE s s.At s.Rings s.Memory (s.Memory.length:Int) s.Memory=some (.inr s):=by unfold jE qQ eB;rw [if_neg (by simp),cl _ h4,Kr,cl _ h5];rfl
   rw [aG];simp only [e]
  | succ m ih =>
   intro k hk;have hlt:k<s.Memory.length:=by omega
   have hg:s.Memory[k]?=some s.Memory[k]:=Ks hlt;have e:jE s s.At s.Rings s.Memory (k:Int) s.Memory=some (.inl (((k+1:Nat):Int),s.Memory)):=by unfold jE lb oJ;rw [if_pos (by simp;omega),eV hlt,Kr,hg,Kr,cl _ (h7 _ (K1 hlt)),Kr,Kr,Kr,hg,Kr,br (by omega),tV hg]
   rw [aG];simp only [e];exact ih (k+1) (by omega)
 have l2:∀ (m k:Nat),k+m=s.Rings.length->iter (fun gM:Int × (List (List Item))=>jz s s.At s.Rings gM.1 gM.2) ((k:Int),s.Rings)=some s:=by
  intro m;induction m with
  | zero =>
   intro k hk;have hk:k=s.Rings.length:=by omega
   subst hk;have e:jz s s.At s.Rings (s.Rings.length:Int) s.Rings=some (.inr s):=by unfold jz qR;have:=l1 s.Memory.length 0 (by omega);rw [K3] at this;rw [if_neg (by simp),cl _ h3,Kr,this];rfl
   rw [aG];simp only [e]
  | succ m ih =>
   intro k hk;have hlt:k<s.Rings.length:=by omega
   have hg:s.Rings[k]?=some s.Rings[k]:=Ks hlt;have e:jz s s.At s.Rings (k:Int) s.Rings=some (.inl (((k+1:Nat):Int),s.Rings)):=by unfold jz eB;rw [if_pos (by simp;omega),eV hlt,Kr,hg,Kr,cl _ (h6 _ (K1 hlt)),Kr,Kr,hg,Kr,br (by omega),tV hg]
   rw [aG];simp only [e];exact ih (k+1) (by omega)
 unfold jQ jo qK
 rw [cl _ h1,Kr,cl _ h2,Kr]
 have:=l2 s.Rings.length 0 (by omega)
 rw [K3] at this
 exact this
theorem Au (hS:RightS n items) (ok:OkS n items B s):jQ s=some s:=by
 have h1:=ok.at_;have h2:=ok.rg;have h3:=ok.mm;have h4:=ok.ch;have h5:=ok.out;have h6:=hS.l4;have h7:=hS.r2;have h8:=hS.n2;have h9:=hS.m2;refine HP s (by omega) (by omega) (by omega) (by omega) (by omega) (fun l hl=>?_) (fun m hm=>?_)
 ·obtain ⟨r,hr⟩:=KI hl;have:=ok.room r l hr;omega
 ·obtain ⟨i,hi⟩:=KI hm;have:=(ok.mem i m hi).1.len;omega
end
theorem Ck (a b:List Choice) (ha:a.length<=1099511627776):oE a b=some (decide (a=b)):=by
 unfold oE;by_cases hl:a.length=b.length
 ·rw [if_neg (by simp;omega)];exact pg a b ha hl (fun k x y h1 h2 h3 h4=>by
   unfold oA;rw [h1,h2,h3,h4];by_cases h:x=y<;>simp [h]) (fun h=>by
   unfold oA;rw [h];simp)
 ·rw [if_pos (by simp;omega)];have:a≠b:=fun e=>hl (by rw [e])
  simp [this]
theorem Cp (a b:List Item) (ha:a.length<=1099511627776):oK a b=some (decide (a=b)):=by
 unfold oK;by_cases hl:a.length=b.length
 ·rw [if_neg (by simp;omega)];exact pg a b ha hl (fun k x y h1 h2 h3 h4=>by
   unfold oC;rw [h1,h2,h3,h4];by_cases h:x=y<;>simp [h]) (fun h=>by
   unfold oC;rw [h];simp)
 ·rw [if_pos (by simp;omega)];have:a≠b:=fun e=>hl (by rw [e])
  simp [this]
theorem EA:qW=some meetN:=rfl
theorem Jf:q9=some dI:=rfl
end
section
theorem zE {α β:Type} [DecidableEq β] (a b:List α) (ha:a.length<=1099511627776) (hl:a.length=b.length) (f:α->β) {body:Int->Option (Int ⊕ Bool)}
  (h1:∀ (k:Nat) (x y:α),a[k]?=some x->b[k]?=some y->decide ((k:Int)<(a.length:Int))=true->idx a (k:Int)=some x->idx b (k:Int)=some y->IntKind.i64.wrap ((k:Int)+1)=((k+1:Nat):Int)->body k=if f x=f y then some (.inl ((k+1:Nat):Int)) else some (.inr false))
  (h2:decide ((a.length:Int)<(a.length:Int))=false->body a.length=some (.inr true)):iter body 0=some (decide (a.map f=b.map f)):=by
 have key:∀ (m k:Nat),k+m=a.length->iter body k=some (decide ((a.drop k).map f=(b.drop k).map f)):=by
  intro m;induction m with
  | zero =>
   intro k hk;have hk:k=a.length:=by omega
   subst hk;rw [aG,h2 (by simp),Lm,KU (by omega)];simp
  | succ m ih =>
   intro k hk;have hlt:k<a.length:=by omega
   have hlt2:k<b.length:=by omega
   rw [aG,h1 k a[k] b[k] (Ks hlt) (Ks hlt2) (by simp;omega) (bu (Ks hlt)) (bu (Ks hlt2)) (br (by omega)),KC hlt,KC hlt2,Ll,Ll];by_cases hxy:f a[k]=f b[k]
   ·rw [if_pos hxy];simp only;rw [ih (k+1) (by omega)];simp [hxy]
   ·rw [if_neg hxy];simp [hxy]
 have:=key a.length 0 (by omega)
 rw [K3,Lc,Lc] at this
 exact this
theorem wD (a b:List Item) (ha:a.length<=1099511627776):mq a b=some (decide (a=b)):=by unfold mq;rw [Cp a b ha];rfl
theorem DG (a b:List (List Item)) (ha:a.length<=1099511627776) (hi:∀ l,l∈a->l.length<=1099511627776):oc a b=some (decide (a=b)):=by
 unfold oc;by_cases hl:a.length=b.length
 ·rw [if_neg (by simp;omega),zE a b ha hl id (fun k x y hx hy e1 e2 e3 e4=>by
   unfold ob;rw [e1,e2,e3,e4];simp only [if_true,Kr];rw [wD x y (hi x (Ku hx)),Kr];by_cases h:x=y<;>simp [h]) (fun h=>by
   unfold ob;rw [h];rfl)]
  simp
 ·rw [if_pos (by simp;omega)];have:a≠b:=fun e=>hl (by rw [e])
  simp [this]
theorem Cl (a b:List Keyed) (ha:a.length<=1099511627776):oI a b=some (decide (a=b)):=by
 unfold oI;by_cases hl:a.length=b.length
 ·rw [if_neg (by simp;omega)];exact pg a b ha hl (fun k x y h1 h2 h3 h4=>by
   unfold oB;rw [h1,h2,h3,h4];by_cases h:x=y<;>simp [h]) (fun h=>by
   unfold oB;rw [h];simp)
 ·rw [if_pos (by simp;omega)];have:a≠b:=fun e=>hl (by rw [e])
  simp [this]
theorem Dk (a b:Memory) (ha:a.Keys.length<=1099511627776):oF a b=some (decide (a=b)):=by
 unfold oF;rw [Cl _ _ ha];cases a with
 | mk s k d =>
  cases b with
  | mk s' k' d' =>
   simp only [Memory.mk.injEq];by_cases h1:s=s'
   ·by_cases h2:d=d'
    ·by_cases h3:k=k'<;>simp [h1,h2,h3]
    ·simp [h1,h2]
   ·simp [h1]
theorem DU (a b:List Memory) (ha:a.length<=1099511627776) (hi:∀ m,m∈a->m.Keys.length<=1099511627776):oa a b=some (decide (a=b)):=by
 unfold oa;by_cases hl:a.length=b.length
 ·rw [if_neg (by simp;omega),zE a b ha hl id (fun k x y hx hy e1 e2 e3 e4=>by
   unfold n9;rw [e1,e2,e3,e4];simp only [if_true,Kr];rw [Dk x y (hi x (Ku hx)),Kr];by_cases h:x=y<;>simp [h]) (fun h=>by
   unfold n9;rw [h];rfl)]
  simp
 ·rw [if_pos (by simp;omega)];have:a≠b:=fun e=>hl (by rw [e])
  simp [this]
structure SmallS (s:State):Prop where
 a1:s.At.length<=1099511627776
 a2:s.Rings.length<=1099511627776
 a3:s.Memory.length<=1099511627776
 a4:s.Choices.length<=1099511627776
 a5:s.Out.length<=1099511627776
 a6:∀ l,l∈s.Rings->l.length<=1099511627776
 a7:∀ m,m∈s.Memory->m.Keys.length<=1099511627776
theorem yl {n:Net} {items:List (List Item)} {B:Int} {s:State} (hS:RightS n items) (ok:OkS n items B s):SmallS s:=by
 have h1:=ok.at_;have h2:=ok.rg;have h3:=ok.mm;have h4:=ok.ch;have h5:=ok.out;have h6:=hS.l4;have h7:=hS.r2;have h8:=hS.n2;have h9:=hS.m2;refine ⟨by omega,by omega,by omega,by omega,by omega,fun l hl=>?_,fun m hm=>?_⟩
 ·obtain ⟨r,hr⟩:=KI hl;have:=ok.room r l hr;omega
 ·obtain ⟨i,hi⟩:=KI hm;have:=(ok.mem i m hi).1.len;omega
theorem Cw (a b:List Int) (ha:a.length<=1099511627776):oN a b=some (decide (a=b)):=by
 unfold oN;by_cases hl:a.length=b.length
 ·rw [if_neg (by simp;omega)];exact pg a b ha hl (fun k x y h1 h2 h3 h4=>by
   unfold oG;rw [h1,h2,h3,h4];by_cases h:x=y<;>simp [h]) (fun h=>by
   unfold oG;rw [h];simp)
 ·rw [if_pos (by simp;omega)];have:a≠b:=fun e=>hl (by rw [e])
  simp [this]
theorem DD (a b:State) (ha:SmallS a):mr a b=some (decide (a=b)):=by
 unfold mr;rw [Cw _ _ ha.a1,DG _ _ ha.a2 ha.a6,DU _ _ ha.a3 ha.a7,Ck _ _ ha.a4,wD _ _ ha.a5];cases a with
 | mk a1 a2 a3 a4 a5 =>
  cases b with
  | mk b1 b2 b3 b4 b5 =>
   simp only [State.mk.injEq,Kr];by_cases h1:a1=b1
   ·by_cases h2:a2=b2
    ·by_cases h3:a3=b3
     ·by_cases h4:a4=b4
      ·by_cases h5:a5=b5<;>simp [h1,h2,h3,h4,h5]
      ·simp [h1,h2,h3,h4]
     ·simp [h1,h2,h3]
    ·simp [h1,h2]
   ·simp [h1]
theorem GJ (l:List Memory):∃ B:Int,0<=B/\∀ m,m∈l->∀ y,y∈m.Keys->y.N<=B:=by
 have h1:∀ ks:List Keyed,∃ B:Int,0<=B/\∀ y,y∈ks->y.N<=B:=by
  intro ks;induction ks with
  | nil=>exact ⟨0,by omega,fun y hy=>by cases hy⟩
  | cons k ks ih =>
   obtain ⟨B,h0,hB⟩:=ih;refine ⟨B+k.N.natAbs,by omega,fun y hy=>?_⟩;rcases K0.1 hy with rfl | hy
   ·omega
   ·have:=hB y hy;omega
 induction l with
 | nil=>exact ⟨0,by omega,fun m hm=>by cases hm⟩
 | cons m l ih =>
  obtain ⟨B,h0,hB⟩:=ih;obtain ⟨B',h0',hB'⟩:=h1 m.Keys;refine ⟨B+B',by omega,fun q hq y hy=>?_⟩;rcases K0.1 hq with rfl | hq
  ·have:=hB' y hy;omega
  ·have:=hB q hq y hy;omega
section
variable {n:Net} {items:List (List Item)} {B:Int} {s:State}
theorem Ae (h:cr n items s=0):cj n items=0:=by
 unfold cr at h;split at h
 ·exact h
 ·rename_i h1;exact Decidable.not_not.1 h1
theorem Bg (h:cr n items s=0):∃ B:Int,0<=B/\OkS n items B s:=by obtain ⟨B,h0,hB⟩:=GJ s.Memory;exact ⟨B,h0,I9 h hB⟩
theorem GL (n:Net) (items:List (List Item)) (s:State) (hio:∀ x∈n.Nodes,x.In.length<=1099511627776/\x.Out.length<=1099511627776) (hr:∀ l,l∈s.Rings->l.length<=1099511627776):iF n items s=some (if cr n items s≠0 then ([],cr n items s) else (bi n items s,0)):=by
 unfold iF;rw [pD n items s hio hr,Kr];by_cases h:cr n items s=0
 ·obtain ⟨B,_,ok⟩:=Bg h;rw [if_neg (show ¬ (cr n items s != 0)=true by simp [h]),if_neg (show ¬ cr n items s≠0 by simp [h]),Gk (jR (Ae h)) ok];rfl
 ·rw [if_pos (show (cr n items s != 0)=true by simpa using h),if_pos h]
def fR (n:Net) (m:Move):Prop:=0<=m.Node/\m.Node<n.Nodes.length/\0<=m.Lane/\m.Lane<bF (ah n m.Node.toNat)
instance (n:Net) (m:Move):Decidable (fR n m):=by unfold fR;infer_instance
def canMv (n:Net) (items:List (List Item)) (s:State) (m:Move):Bool:=canM n items s m.Node.toNat m.Lane.toNat
theorem Do_eq (n:Net) (items:List (List Item)) (s:State) (m:Move) (hio:∀ x∈n.Nodes,x.In.length<=1099511627776/\x.Out.length<=1099511627776) (hr:∀ l,l∈s.Rings->l.length<=1099511627776) :
    iS n items s m=some (if cr n items s≠0 then (noS,cr n items s) else if ¬ fR n m then (noS,5) else if canMv n items s m=false then (noS,10) else (doMv n items s m,0)):=by
  unfold iS
  rw [pD n items s hio hr,Kr]
  by_cases h:cr n items s=0
  · obtain ⟨B,_,ok⟩:=Bg h
    have hS:=jR (Ae h)
    rw [if_neg (show ¬ (cr n items s != 0)=true by simp [h]),if_neg (show ¬ cr n items s≠0 by simp [h])]
    have hb : (if (decide (m.Node<0))=true then (some true) else (if (decide (m.Node >= ((n.Nodes).length:Int)))=true then (some true) else (if (decide (m.Lane<0))=true then (some true) else (if (decide (m.Lane > 0))=true then (Option.bind (idx n.Nodes m.Node) fun x3=>(if (x3.Kind != 6)=true then (some true) else (Option.bind (idx n.Nodes m.Node) fun x4=>(some (decide (m.Lane >= ((x4.In).length:Int))))))) else (some false)))))=some (decide (¬ fR n m)):=by
      by_cases h1:m.Node<0
      · rw [if_pos (by simpa using h1)];simp [fR];omega
      · rw [if_neg (by simpa using h1)];by_cases h2:m.Node >= (n.Nodes.length:Int)
        · rw [if_pos (by simpa using h2)];simp [fR];omega
        · rw [if_neg (by simpa using h2)];by_cases h3:m.Lane<0
          · rw [if_pos (by simpa using h3)];simp [fR];omega
          · rw [if_neg (by simpa using h3)];have hi:idx n.Nodes m.Node=some (ah n m.Node.toNat):=idx_D _ (by omega) (by omega);have hlt:m.Node.toNat<n.Nodes.length:=by omega
            by_cases h4:m.Lane > 0
            · rw [if_pos (by simpa using h4),hi,Kr];by_cases h6:(ah n m.Node.toNat).Kind=6
              · rw [if_neg (by simpa using h6),Kr];have hl:bF (ah n m.Node.toNat)=(ah n m.Node.toNat).In.length:=by unfold bF;rw [if_pos h6]
                congr 1;rw [decide_eq_decide];unfold fR;omega
              · rw [if_pos (by simpa using h6)];have hl:bF (ah n m.Node.toNat)=1:=by unfold bF;rw [if_neg h6]
                congr 1;rw [eq_comm,decide_eq_true_eq];unfold fR;omega
            · rw [if_neg (by simpa using h4)];have hpos:0<bF (ah n m.Node.toNat):=by
                unfold bF;split
                · rename_i h6;exact hS.in6 _ hlt h6
                · omega
              congr 1;rw [eq_comm,decide_eq_false_iff_not];unfold fR;omega
    rw [hb,Kr]
    by_cases hg:fR n m
    · rw [if_neg (by simpa using hg),if_neg (by simpa using hg)]
      obtain ⟨g0,g1,g2,g3⟩:=hg
      have hm:m=⟨(m.Node.toNat:Int),(m.Lane.toNat:Int)⟩:=by cases m;simp at *;omega
      have hi:m.Node.toNat<n.Nodes.length:=by omega
      have hk:m.Lane.toNat<bF (ah n m.Node.toNat):=by omega
      have hc:ll n items s m=some (canMv n items s m):=by rw [hm];exact A9 hS ok hi hk
      rw [hc,Kr]
      cases hcm:canMv n items s m with
      | false=>rfl
      | true =>
        rw [if_neg (by simp),if_neg (by simp),Au hS ok,Kr]
        have hd:mC n items m s.At s.Rings s.Memory s.Choices s.Out=some ((doMv n items s m).At,(doMv n items s m).Rings,(doMv n items s m).Memory,(doMv n items s m).Choices,(doMv n items s m).Out):=by rw [hm];exact do_eq hS ok hi hk hcm
        rw [hd,Kr]
    · rw [if_pos (by simpa using hg),if_pos (by simpa using hg)];rfl
  · rw [if_pos (show (cr n items s != 0)=true by simpa using h),if_pos h];rfl
theorem E3 {m:Move} (hm:m∈bi n items s):fR n m/\canMv n items s m=true:=by obtain ⟨i,k,rfl,hi,hk,hc⟩:=pm hm;exact ⟨⟨by simp,by simpa using hi,by simp,by simpa using hk⟩,hc⟩
theorem zi (hsrc:cj n items=0) (ok:OkS n items B s) {m:Move} (hm:m∈bi n items s) (hio:∀ x∈n.Nodes,x.In.length<=1099511627776/\x.Out.length<=1099511627776):iS n items s m=some (doMv n items s m,0):=by have hS:=jR hsrc;obtain ⟨h1,h2⟩:=E3 hm;rw [Do_eq n items s m hio (yl hS ok).a6,if_neg (by simp [sm hsrc ok]),if_neg (by simpa using h1),if_neg (by simp [h2])]
end
end
section
theorem lH {α:Type} {e:α->List UInt8} {m:α->Nat} (h:∀ x,(e x).length<=10*m x) (l:List α):(lst e l).length<=10*mL m l:=by
 have key:∀ l:List α,(l.flatMap e).length<=10*(l.map m).sum:=by
  intro l;induction l with
  | nil=>simp
  | cons x l ih =>
   have:=h x;rw [Ls,Kv,Ll,Mi];omega
 have:=key l;have:=(dY (l.length:Int)).1;unfold lst mL;rw [Kv];omega
theorem yI (x:Item):(bv x).length<=10*cy x:=by have:=(dY x.Key).1;have:=(dY x.Val).1;have:=(dY x.Dep).1;simp only [bv,cy,Kv];omega
theorem FC (x:Keyed):(fg x).length<=10*gE x:=by have:=(dY x.Key).1;have:=(dY x.N).1;simp only [fg,gE,Kv];omega
theorem D4 (x:Choice):(cg x).length<=10*gr x:=by have:=(dY x.Node).1;have:=(dY x.Lane).1;simp only [cg,gr,Kv];omega
theorem G9 (x:Memory):(cX x).length<=10*ff x:=by have:=(dY x.Sum).1;have:=(dY x.Dep).1;have:=lH FC x.Keys;simp only [cX,ff,Kv];omega
theorem xO (s:State):(aZ s).length<=10*lz s:=by have:=lH (e:=num) (m:=mI) (fun x=>by have:=(dY x).1;unfold mI;omega) s.At;have:=lH (lH yI) s.Rings;have:=lH G9 s.Memory;have:=lH D4 s.Choices;have:=lH yI s.Out;simp only [aZ,lz,Kv];omega
theorem A7 {α:Type} (m:α->Nat) (l:List α):1<=mL m l:=by unfold mL;omega
theorem EP {s:State} (g:ux s) (h:lz s<=1048576):hM s/\(aZ s).length<=BB:=by
 obtain ⟨g1,g2,g3,g4,g5⟩:=g;have e1:s.At.length<=mL mI s.At:=hH (fun _=>by unfold mI;omega) _;have e2:s.Rings.length<=mL (mL cy) s.Rings:=hH (fun l=>A7 _ _) _;have e3:s.Memory.length<=mL ff s.Memory:=hH (fun _=>by unfold ff;omega) _;have e4:s.Choices.length<=mL gr s.Choices:=hH (fun _=>by unfold gr;omega) _;have e5:s.Out.length<=mL cy s.Out:=hH (fun _=>by unfold cy;omega) _;have hm:mL mI s.At+mL (mL cy) s.Rings+mL ff s.Memory+mL gr s.Choices+mL cy s.Out<=1048576:=h;refine ⟨⟨⟨by omega,g1⟩,⟨by omega,fun l hl=>⟨?_,g2 l hl⟩⟩,⟨by omega,fun x hx=>⟨(g3 x hx).1,(g3 x hx).2.2,?_,(g3 x hx).2.1⟩⟩,⟨by omega,g4⟩,⟨by omega,g5⟩⟩,?_⟩
 ·have h1:l.length<=mL cy l:=hH (fun _=>by unfold cy;omega) _;have h2:=sd (m:=mL cy) hl;omega
 ·have h1:x.Keys.length<=mL gE x.Keys:=hH (fun _=>by unfold gE;omega) _;have h2:=sd (m:=ff) hx;have h3:ff x=mL gE x.Keys+2:=rfl;omega
 ·have:=xO s;unfold BB;omega
theorem zt {s:State} (h:hM s):SmallS s:=⟨h.1.1,h.2.1.1,h.2.2.1.1,h.2.2.2.1.1,h.2.2.2.2.1,fun l hl=>(h.2.1.2 l hl).1,fun m hm=>(h.2.2.1.2 m hm).2.2.1⟩
theorem Ik {n:Net} (h:mNet n<=1048576):∀ x∈n.Nodes,x.In.length<=1099511627776/\x.Out.length<=1099511627776:=fun x hx=>by have h1:=sd (m:=mNode) hx;have h2:mNet n=mL mNode n.Nodes+2:=rfl;have h3:mNode x=mL mI x.In+mL mI x.Out+2:=rfl;have h4:x.In.length<=mL mI x.In:=hH (fun _=>by unfold mI;omega) _;have h5:x.Out.length<=mL mI x.Out:=hH (fun _=>by unfold mI;omega) _;omega
section
variable {n:Net} (items:List (List Item)) (s:State) (hio:∀ x∈n.Nodes,x.In.length≤1099511627776∧x.Out.length≤1099511627776) (hs:hM s) (hB:(aZ s).length≤BB)
include hio hs hB
theorem Ar:iC n items s=some (if cr n items s≠0 then ([],cr n items s) else (aZ s,0)):=by
 rw [y5 n items s hs hB,pD n items s hio (zt hs).a6,Kr];by_cases h:cr n items s=0
 ·rw [if_neg (by simp [h]),if_neg (by simp [h])]
 ·rw [if_pos (by simpa using h),if_pos h]
end
def s0:State:=⟨[1,1],[[],[⟨2,2,0⟩],[⟨1,1,1⟩]],[⟨0,[],0⟩,⟨0,[],0⟩,⟨0,[],0⟩,⟨0,[],0⟩],[⟨2,0⟩],[]⟩
theorem Ij:bD noD:=⟨by decide,by decide,fun s h=>(Mh h).elim,fun s h=>(Mh h).elim⟩
end
def kvI (x:Item):Prop:=gI x.Key/\gI x.Val
def kvM (m:Memory):Prop:=gI m.Sum/\∀ y,y∈m.Keys->gI y.Key
structure KV (s:State):Prop where
 rg:∀ l,l∈s.Rings->∀ x,x∈l->kvI x
 out:∀ x,x∈s.Out->kvI x
 mm:∀ m,m∈s.Memory->kvM m
theorem lw (z:Int):gI (IntKind.i64.wrap z):=by unfold gI;simp [IntKind.wrap,IntKind.signed,IntKind.bits];omega
theorem AH {key:Int} {l:List Keyed} (hk:gI key) (hl:∀ y,y∈l->gI y.Key):(∀ y,y∈(newK key l).1->gI y.Key)/\gI (newK key l).2:=by
 unfold newK;split
 ·exact ⟨hl,by unfold gI;omega⟩
 ·refine ⟨fun y hy=>?_,by show gI 1;unfold gI;omega⟩;rcases KJ.1 hy with h | h
  ·exact hl y (KG h)
  ·rcases K0.1 h with rfl | h
   ·exact hk
   ·exact hl y (Lo h)
theorem Jg {key:Int} {l:List Keyed} (hk:gI key) (hl:∀ y,y∈l->gI y.Key):(∀ y,y∈(cntP key l).1->gI y.Key)/\gI (cntP key l).2:=by
 unfold cntP;split
 ·rename_i y hy;split
  ·refine ⟨fun z hz=>?_,lw _⟩;rcases K6 hz with h | h
   ·exact hl z h
   ·rw [h];exact hl y (Ku hy)
  ·exact AH hk hl
 ·exact AH hk hl
theorem IF (f:Int) (x:Item):gI (mapP f x):=by
 unfold mapP;split
 ·exact lw _
 split
 ·exact lw _
 split
 ·exact lw _
 ·exact lw _
theorem HU {k f:Int} {m:Memory} {x:Item} (hm:kvM m) (hx:kvI x):kvM (dy k f m x).1/\kvI (dy k f m x).2:=by
 unfold dy;split
 ·exact ⟨hm,hx.1,IF f x⟩
 split
 ·exact ⟨⟨lw _,hm.2⟩,hx.1,lw _⟩
 split
 ·obtain ⟨h1,h2⟩:=Jg hx.1 hm.2;exact ⟨⟨hm.1,h1⟩,hx.1,h2⟩
 ·exact ⟨hm,hx⟩
theorem AX {y:Item} (hy:kvI y):∀ (l:List Int) (R:List (List Item)),(∀ q,q∈R->∀ x,x∈q->kvI x)->∀ q,q∈cA y l R->∀ x,x∈q->kvI x
 | [],R,h=>h
 | r::l,R,h=>by
  show ∀ q,q∈cA y l (R.set r.toNat (R.getD r.toNat []++[y]))->_;refine AX hy l _ fun q hq x hx=>?_
  rcases K6 hq with hq | hq
  ·exact h q hq x hx
  ·rw [hq] at hx;rcases KJ.1 hx with hx | hx
   ·rw [Kw] at hx;cases e:R[r.toNat]? with
    | none=>rw [e] at hx;cases hx
    | some z=>rw [e] at hx;exact h z (Ku e) x hx
   ·rw [LB.1 hx];exact hy
theorem kv_do {n:Net} {items:List (List Item)} (hi:gL (gL dc) items) {s:State} (h:KV s) (i k:Nat):KV (doM n items s i k):=by
 unfold doM;cases hh:dt n items s i k with
 | none=>exact h
 | some it =>
  have hx:kvI it:=by
   unfold dt at hh;split at hh
   ·have h1:=Ku hh;rw [Kw] at h1;cases e:items[(ah n i).A.toNat]? with
    | none=>rw [e] at h1;cases h1
    | some z =>
     rw [e] at h1;have:=hi z (Ku e) it h1;exact ⟨this.1,this.2.1⟩
   ·have h1:=List.mem_of_mem_head? hh;rw [Kw] at h1;cases e:s.Rings[cP (ah n i) k]? with
    | none=>rw [e] at h1;cases h1
    | some z=>rw [e] at h1;exact h.rg z (Ku e) it h1
  have hm:kvM (memN s i):=by
   unfold memN;rw [Kw];cases e:s.Memory[i]? with
   | none=>exact ⟨by show gI 0;unfold gI;omega,fun y hy=>by cases hy⟩
   | some z=>exact h.mm z (Ku e)
  have hc:kvI (chD (ah n i) s it):=by
   unfold chD;split
   ·exact hx
   ·exact hx
  obtain ⟨h1,h2⟩:=HU (k:=(ah n i).Kind) (f:=(ah n i).A) hm hc;refine ⟨?_,fun x hx=>?_,fun m hm=>?_⟩
  ·refine AX h2 _ _ fun q hq x hx=>?_
   split at hq
   ·exact h.rg q hq x hx
   ·rcases K6 hq with hq | hq
    ·exact h.rg q hq x hx
    ·rw [hq] at hx;have hx:=List.mem_of_mem_tail hx;rw [Kw] at hx;cases e:s.Rings[cP (ah n i) k]? with
     | none=>rw [e] at hx;cases hx
     | some z=>rw [e] at hx;exact h.rg z (Ku e) x hx
  ·simp only at hx;split at hx
   ·rcases KJ.1 hx with hx | hx
    ·exact h.out x hx
    ·rw [LB.1 hx];exact h2
   ·exact h.out x hx
  ·rcases K6 hm with hm | hm
   ·exact h.mm m hm
   ·rw [hm];exact h1
theorem rM (n:Net) (items:List (List Item)):KV (bh n items):=by
 refine ⟨fun l hl x hx=>?_,fun x hx=>?_,fun m hm=>?_⟩
 ·have:=(LN.1 hl).2;subst this;cases hx
 ·cases hx
 ·have:=(LN.1 hm).2;subst this;exact ⟨by show gI 0;unfold gI;omega,fun y hy=>by cases hy⟩
theorem kv_s {n:Net} {items:List (List Item)} (hS:RightS n items) {s:State} (hI:Inv n items s) (h:KV s):hM s:=by
 obtain ⟨B,ok,hB⟩:=hI;have h2:=hS.n2;have h3:=hS.r2;have h4:=hS.l4;have hrg:=ok.rg;have hmm:=ok.mm;have hat:=ok.at_;have hch:=ok.ch;have hou:=ok.out;have hg:∀ z:Int,0<=z->z<=1000000000000000000->gI z:=fun z h1 h2=>by unfold gI;omega
 have hdep:∀ x:Item,kvI x->0<=x.Dep->x.Dep<=s.Choices.length->dc x:=fun x h1 h2 h3=>⟨h1.1,h1.2,hg _ h2 (by omega)⟩
 refine ⟨⟨by omega,fun p hp=>?_⟩,⟨by omega,fun l hl=>?_⟩,⟨by omega,fun m hm=>?_⟩,⟨by omega,fun c hc=>?_⟩,⟨by omega,fun x hx=>?_⟩⟩
 ·obtain ⟨a,ha⟩:=KI hp;have h5:=ok.atP a p ha;refine hg p h5.1 ?_;have:(items.getD a []).length<=20:=by
   rw [Kw];cases e:items[a]? with
   | none=>simp
   | some z=>exact hS.l20 a z e
  omega
 ·obtain ⟨r,hr⟩:=KI hl;have:=ok.room r l hr;have:=hS.m2;exact ⟨by omega,fun x hx=>hdep x (h.rg l hl x hx) (ok.depR r l x hr hx).1 (ok.depR r l x hr hx).2⟩
 ·obtain ⟨i,hi⟩:=KI hm;obtain ⟨o1,o2,o3⟩:=ok.mem i m hi;have hk:=h.mm m hm;refine ⟨hk.1,hg _ o1.dep (by omega),by have:=o1.len;omega,fun y hy=>⟨hk.2 y hy,?_⟩⟩;have:=o3 y hy;have:=o1.n y hy;exact hg _ (by omega) (by omega)
 ·have:=ok.cho c hc;unfold rG at this;have hin:(ah n c.Node.toNat).In.length<=1000:=by
   have:=tH (hS.ndI c.Node.toNat (by omega)) (hS.inR c.Node.toNat (by omega)) hS.r1;omega
  exact ⟨hg _ (by omega) (by omega),hg _ (by omega) (by omega)⟩
 ·exact hdep x (h.out x hx) (ok.depO x hx).1 (ok.depO x hx).2
section
def fP (n:Net) (c:Choice) (m:Move):Bool:=!decide ((ah n m.Node.toNat).Kind=6) || (decide (m.Node=c.Node) && decide (m.Lane=c.Lane))
def repM (n:Net) (items:List (List Item)):Nat->State->List Choice->Option (State × Int)
 | _,s,[]=>some (s,0)
 | 0,s,_::_=>none
 | f+1,s,c::l =>
  match (bi n items s).find? (fP n c) with
  | none=>some (noS,11)
  | some m=>repM n items f (doMv n items s m) (if (ah n m.Node.toNat).Kind=6 then l else c::l)
section
variable {n:Net} {items:List (List Item)}
theorem Bt {s:State} {m:Move} (h:m∈bi n items s):(doMv n items s m).Choices=if (ah n m.Node.toNat).Kind=6 then s.Choices++[⟨m.Node,m.Lane⟩] else s.Choices:=by obtain ⟨i,k,rfl,hi,hk,hc⟩:=pm h;obtain ⟨it,hh,_⟩:=rC hc;unfold doMv doM;simp only [KW,hh]
theorem uD (hS:RightS n items) (hi:gL (gL dc) items):∀ (f:Nat) (s:State) (l:List Choice),Inv n items s->KV s->muN n items s<f ->
  ∃ r,repM n items f s l=some r/\(r.2=0->Inv n items r.1/\KV r.1/\r.1.Choices=s.Choices++l)/\(r.2≠0->r=(noS,11))
 | f,s,[],hI,hk,hf=>⟨(s,0),by cases f<;>rfl,fun _=>⟨hI,hk,by simp⟩,fun h=>absurd rfl h⟩
 | 0,s,c::l,hI,hk,hf=>by omega
 | f+1,s,c::l,hI,hk,hf=>by
  unfold repM;cases hm:(bi n items s).find? (fP n c) with
  | none=>exact ⟨_,rfl,fun h=>absurd h (by decide),fun _=>rfl⟩
  | some m =>
   have hmem:=L2 hm;obtain ⟨h1,h2⟩:=hI.doMv hS hmem;have hk':KV (doMv n items s m):=kv_do hi hk _ _;have hch:=Bt hmem;obtain ⟨r,e1,e2,e3⟩:=uD hS hi f (doMv n items s m) (if (ah n m.Node.toNat).Kind=6 then l else c::l) h1 hk' (by omega);refine ⟨r,e1,fun h0=>?_,e3⟩;obtain ⟨g1,g2,g3⟩:=e2 h0;refine ⟨g1,g2,?_⟩;rw [g3,hch];by_cases h6:(ah n m.Node.toNat).Kind=6
   ·rw [if_pos h6,if_pos h6];have hb:=List.find?_some hm;unfold fP at hb;simp only [h6,decide_true,Mu,Bool.false_or,Ly,decide_eq_true_eq] at hb;have:(⟨m.Node,m.Lane⟩:Choice)=c:=by cases c;simp_all
    rw [this];simp
   ·rw [if_neg h6,if_neg h6]
end
end
section
theorem HI (p:List UInt8) (h:okP p):one (frm p)=some p:=by
 have h1:=xZ p [] h;rw [LZ] at h1;have h2:=nA p;have h3:records (frm p).length (frm p)=([p],p.length+3):=by
  rw [h2];unfold records;rw [h1];have h4:(frm p).drop (p.length+3)=[]:=by rw [<- h2];exact Lm
  have h5:∀ m,records m []=([],0):=fun m=>by cases m<;>rfl
  simp only;rw [h4,h5];rfl
 unfold one;rw [h3];simp only;rw [if_pos h2.symm]
theorem Aw (epoch n:Nat) (b:List UInt8) (k:Nat) (hk:k<60):secP (frm (pay epoch n b k)) k=some (pay epoch n b k):=by
 have h1:=rU epoch n b k;unfold secP;rw [HI _ (AY epoch n b k)];simp only;have h2:((pay epoch n b k).getD 1 0).toNat=k:=by unfold pay;simp;omega
 rw [if_pos ⟨h1.1,h2⟩]
theorem pI:∀ (ws:List Write) (s:List UInt8) (i:Int),(∀ w,w∈ws->w.At≠i)->seen s ws i=s
 | [],s,i,h=>rfl
 | w::ws,s,i,h=>by show seen (if w.At=i then w.Bytes else s) ws i=s;rw [if_neg (h w (.head _))];exact pI ws s i fun x hx=>h x (.tail _ hx)
theorem zO:∀ (ws:List Write) (s:List UInt8) (i:Int),seen s ws i=s∨∃ w,w∈ws/\w.At=i/\seen s ws i=w.Bytes
 | [],s,i=>.inl rfl
 | w::ws,s,i=>by
  have e:seen s (w::ws) i=seen (if w.At=i then w.Bytes else s) ws i:=rfl;rw [e];rcases zO ws (if w.At=i then w.Bytes else s) i with h | ⟨x,hx,h1,h2⟩
  ·by_cases hw:w.At=i
   ·rw [if_pos hw] at h ⊢;exact .inr ⟨w,.head _,hw,h⟩
   ·rw [if_neg hw] at h ⊢;exact .inl h
  ·exact .inr ⟨x,.tail _ hx,h1,h2⟩
section
variable (slot epoch n:Nat) (b:List UInt8)
theorem rS:∀ (K:Nat) (w:Write),w∈wsP slot epoch n b K->∃ k,k<=K/\w=wOf slot epoch n b k
 | 0,w,h=>⟨0,Kx _,by simpa [wsP] using h⟩
 | K+1,w,h=>by
  rcases K0.1 h with h | h
  ·exact ⟨K+1,Kx _,h⟩
  ·obtain ⟨k,h1,h2⟩:=rS K w h;exact ⟨k,by omega,h2⟩
theorem zA:∀ (K m:Nat) (w:Write),m<=K->w∈(wsP slot epoch n b K).take m->∃ k,1<=k/\k<=K/\w=wOf slot epoch n b k
 | K,0,w,hm,h=>by simp at h
 | 0,m+1,w,hm,h=>by omega
 | K+1,m+1,w,hm,h=>by
  rw [show wsP slot epoch n b (K+1)=wOf slot epoch n b (K+1)::wsP slot epoch n b K from rfl,List.take_succ_cons] at h;rcases K0.1 h with h | h
  ·exact ⟨K+1,by omega,Kx _,h⟩
  ·obtain ⟨k,h1,h2,h3⟩:=zA K m w (by omega) h;exact ⟨k,h1,by omega,h3⟩
theorem yp:∀ (K k:Nat) (s:List UInt8),k<=K->seen s (wsP slot epoch n b K) ((60*slot+k:Nat):Int)=frm (pay epoch n b k)
 | 0,k,s,h=>by
  have:k=0:=by omega
  subst this;show (if (wOf slot epoch n b 0).At=((60*slot+0:Nat):Int) then (wOf slot epoch n b 0).Bytes else s)=_;rw [if_pos (show (wOf slot epoch n b 0).At=((60*slot+0:Nat):Int) from rfl)];rfl
 | K+1,k,s,h=>by
  show seen (if (wOf slot epoch n b (K+1)).At=((60*slot+k:Nat):Int) then (wOf slot epoch n b (K+1)).Bytes else s) (wsP slot epoch n b K) ((60*slot+k:Nat):Int)=_;by_cases hk:k=K+1
  ·subst hk;rw [if_pos (show (wOf slot epoch n b (K+1)).At=((60*slot+(K+1):Nat):Int) from rfl),pI _ _ _ fun w hw=>?_]
   ·rfl
   ·obtain ⟨j,h1,rfl⟩:=rS slot epoch n b K w hw;show ((60*slot+j:Nat):Int)≠_;omega
  ·exact yp K k _ (by omega)
theorem HO (hs:slot<=1) {K:Nat} (hK:K<60):∀ w,w∈wsP slot epoch n b K->okW w:=fun w hw=>by obtain ⟨k,h1,rfl⟩:=rS slot epoch n b K w hw;exact Bq slot epoch n b k hs (by omega)
end
theorem w7 {A B:List (List UInt8)} {slot:Nat} (h:∀ k,k<60->gt A (60*slot+k)=gt B (60*slot+k)):cW A slot=cW B slot:=by
 have h0:=h 0 (by omega);rw [Lq] at h0;have key:∀ (hd:List UInt8) (m k:Nat) (acc:List UInt8),k+m<=60->col A slot hd m k acc=col B slot hd m k acc:=by
  intro hd m;induction m with
  | zero=>intro k acc _;rfl
  | succ m ih =>
   intro k acc hk;unfold col;rw [h k (by omega)];split
   ·rfl
   ·split
    ·exact ih (k+1) _ (by omega)
    ·rfl
 unfold cW;rw [h0];split
 ·rfl
 ·split
  ·rename_i hc;rw [key _ _ 1 [] (by omega)]
  ·rfl
theorem Fw {S:List (List UInt8)} {slot epoch n:Nat} {b:List UInt8} (he:epoch<=200) (hn:n=(b.length+49) / 50) (h60:n<60) (h:∀ k,k<=n->gt S (60*slot+k)=frm (pay epoch n b k)):cW S slot=some (b,epoch):=by
 have h0:=h 0 (by omega);rw [Lq] at h0;have hp0:pay epoch n b 0=[UInt8.ofNat epoch,UInt8.ofNat 0,UInt8.ofNat n]:=by unfold pay;rw [if_neg (by omega)];rfl
 have e1:(UInt8.ofNat epoch).toNat=epoch:=by simp;omega
 have e2:(UInt8.ofNat n).toNat=n:=by simp;omega
 have key:∀ (m k:Nat) (acc:List UInt8),k+m=n+1->1<=k->acc=b.take (50*(k - 1))->col S slot [UInt8.ofNat epoch,UInt8.ofNat 0,UInt8.ofNat n] m k acc=some b:=by
  intro m;induction m with
  | zero =>
   intro k acc hk h1 ha;show some acc=some b;rw [ha,K7 (by omega)]
  | succ m ih =>
   intro k acc hk h1 ha;unfold col;rw [h k (by omega),Aw epoch n b k (by omega)];simp only;have hp:pay epoch n b k=[UInt8.ofNat epoch,UInt8.ofNat k,UInt8.ofNat n]++(b.take (50*k)).drop (50*(k - 1)):=by unfold pay;rw [if_pos (by omega)]
   have hl:(pay epoch n b k).length=3+(min (50*k) b.length - 50*(k - 1)):=by rw [hp];simp;omega
   have hd:(pay epoch n b k).drop 3=(b.take (50*k)).drop (50*(k - 1)):=by rw [hp];rfl
   have g0:(pay epoch n b k).getD 0 0=UInt8.ofNat epoch:=by rw [hp];rfl
   have g2:(pay epoch n b k).getD 2 0=UInt8.ofNat n:=by rw [hp];rfl
   rw [if_pos ⟨g0,g2,by omega⟩];refine ih (k+1) _ (by omega) (by omega) ?_;rw [hd,ha];have:b.take (50*(k - 1))=(b.take (50*k)).take (50*(k - 1)):=by rw [MB];congr 1;omega
   rw [this,Lz];congr 1
 unfold cW;rw [h0,Aw epoch n b 0 (by omega),hp0];simp only;have hc:([UInt8.ofNat epoch,UInt8.ofNat 0,UInt8.ofNat n].length=3/\([UInt8.ofNat epoch,UInt8.ofNat 0,UInt8.ofNat n].getD 0 0).toNat<=200/\([UInt8.ofNat epoch,UInt8.ofNat 0,UInt8.ofNat n].getD 2 0).toNat<60):=⟨rfl,by show (UInt8.ofNat epoch).toNat<=200;omega,by show (UInt8.ofNat n).toNat<60;omega⟩
 rw [if_pos hc];have:col S slot [UInt8.ofNat epoch,UInt8.ofNat 0,UInt8.ofNat n] (UInt8.ofNat n).toNat 1 []=some b:=key _ 1 [] (by omega) (by omega) rfl;show (col S slot [UInt8.ofNat epoch,UInt8.ofNat 0,UInt8.ofNat n] (UInt8.ofNat n).toNat 1 []).map (fun b=>(b,(UInt8.ofNat epoch).toNat))=_;rw [this,e1];rfl
end
def okC (c:Choice):Prop:=0<=c.Node/\c.Node<12/\0<=c.Lane/\c.Lane<16
instance (c:Choice):Decidable (okC c):=by unfold okC;infer_instance
def dx (c:Choice):List UInt8:=[UInt8.ofNat c.Node.toNat,UInt8.ofNat c.Lane.toNat]
def numsC (c:Choice):List Int:=[c.Node,c.Lane]
def dD (l:List Choice):List UInt8 × Int:=if 30<l.length then ([],2) else if ∀ c,c∈l->okC c then (l.flatMap dx,0) else ([],3)
theorem okC_t {c:Choice} (h:okC c):(decide (c.Node<0)=false)/\(decide (c.Node >= 12)=false)/\(decide (c.Lane<0)=false)/\(decide (c.Lane >= 16)=false)/\(decide (c.Node > 11)=false)/\(decide (c.Lane > 15)=false):=by unfold okC at h;refine ⟨?_,?_,?_,?_,?_,?_⟩<;>exact decide_eq_false (by omega)
theorem Jd (c:Choice):((decide (c.Node<0)) || ((decide (c.Node >= 12)) || ((decide (c.Lane<0)) || decide (c.Lane >= 16))))=!decide (okC c):=by
 by_cases h:okC c
 ·obtain ⟨a,b,d,e,_,_⟩:=okC_t h;rw [a,b,d,e,decide_eq_true h];rfl
 ·rw [decide_eq_false h];unfold okC at h;by_cases h1:c.Node<0
  ·rw [decide_eq_true h1];rfl
  by_cases h2:c.Node >= 12
  ·rw [decide_eq_true h2];simp
  by_cases h3:c.Lane<0
  ·rw [decide_eq_true h3];simp
  rw [decide_eq_true (show c.Lane >= 16 by omega)];simp
theorem yK {n:Int} (h0:0<=n) (h1:n<256):IntKind.u8.wrap n=n:=by
 have:n=((n.toNat:Nat):Int):=by omega
 rw [this,sk];congr 1;omega
theorem IK (l:List Choice) (h:∀ c,c∈l->okC c):bR (l.flatMap numsC)=l.flatMap dx:=by
 induction l with
 | nil=>rfl
 | cons c l ih =>
  have:=ih (fun x hx=>h x (by simp [hx]));simp only [Ls];rw [<- this];simp [bR,numsC,dx]
theorem qX (l:List Choice):o7 l=some (dD l):=by
 unfold o7 dD;by_cases h1:30<l.length
 ·rw [if_pos (by simp;omega),if_pos h1]
 rw [if_neg (by simp;omega),if_neg h1];have:=mW (σ:=List Int) l (by omega) (fun k st=>((k:Int),st)) (body:=fun ss:Int × List Int=>jp l ss.1 ss.2)
  (fun k c st=>if okC c then (app st (numsC c)).map .inl else some (.inr ([],3))) (fun st=>some (bR st,0)) []
  (fun k c st _ _ h1 h2 h3=>by
   show jp l (k:Int) st=_;unfold jp;rw [h2,h1,h3];simp only [if_true,Kr,Jd];by_cases hc:okC c
   ·have hn:=hc;unfold okC at hn;rw [if_neg (by simp [hc]),if_pos hc,yK (by omega) (by omega),yK (by omega) (by omega)];show (app st (numsC c)).bind _=_;cases app st (numsC c)<;>rfl
   ·rw [if_pos (by simp [hc]),if_neg hc];rfl)
  (fun st h=>by show jp l (l.length:Int) st=_;unfold jp;rw [h];rfl)
 refine Eq.trans this ?_;have fold:∀ (ys:List Choice) (k:Nat) (st:List Int),st.length+2*ys.length<=1099511627776 ->
   dG (σ:=List Int) (fun k c st=>if okC c then (app st (numsC c)).map .inl else some (.inr ([],3))) (fun st=>some (bR st,0)) k ys st=some (if ∀ c,c∈ys->okC c then (bR (st++ys.flatMap numsC),(0:Int)) else ([],3)):=by
  intro ys
  induction ys with
  | nil=>intro k st _;simp [dG]
  | cons y ys ih =>
   intro k st hl
   simp only [KH] at hl
   unfold dG
   by_cases hy:okC y
   ·rw [if_pos hy,cx (by simp [numsC];omega)]
    simp only [Lh]
    rw [ih (k+1) _ (by simp [numsC];omega)]
    by_cases hall:∀ c,c∈ys->okC c
    ·rw [if_pos hall,if_pos (by intro c hc;rcases K0.1 hc with rfl | hc;exact hy;exact hall c hc)]
     simp
    ·rw [if_neg hall,if_neg (fun h=>hall (fun c hc=>h c (by simp [hc])))]
   ·rw [if_neg hy,if_neg (fun h=>hy (h y (by simp)))]
 rw [fold l 0 [] (by simp;omega)];by_cases hall:∀ c,c∈l->okC c
 ·rw [if_pos hall,if_pos hall,K9,IK l hall]
 ·rw [if_neg hall,if_neg hall]
def dw:List UInt8->Option (List Choice)
 | []=>some []
 | [_]=>none
 | a::b::r=>if a.toNat<12/\b.toNat<16 then (dw r).map fun l=>⟨a.toNat,b.toNat⟩::l else none
theorem xM:∀ (b:List UInt8) (l:List Choice),dw b=some l->2*l.length=b.length
 | [],l,h=>by unfold dw at h;cases h;rfl
 | [_],l,h=>by unfold dw at h;cases h
 | a::b::r,l,h=>by
  unfold dw at h;split at h
  ·cases hr:dw r with
   | none=>rw [hr] at h;cases h
   | some q =>
    rw [hr] at h;cases h;have:=xM r q hr;simp;omega
  ·cases h
theorem xj:∀ (b:List UInt8),b.length % 2=1->dw b=none
 | [],h=>by simp at h
 | [_],_=>rfl
 | a::b::r,h=>by unfold dw;rw [xj r (by simp at h;omega)];split<;>rfl
def jN (b:List UInt8):List Choice × Int:=if 60<b.length then ([],2) else match dw b with | none=>([],12) | some l=>(l,0)
theorem CH (b:List UInt8):oT b=some (jN b):=by
 unfold oT jN;by_cases h1:60<b.length
 ·rw [if_pos (by simp;omega),if_pos h1]
 rw [if_neg (by simp;omega),if_neg h1];have hrem:rem (b.length:Int) 2=some ((b.length % 2:Nat):Int):=by unfold rem;rw [if_neg (by decide)];rfl
 rw [hrem];simp only [Kr];by_cases h2:b.length % 2=1
 ·rw [if_pos (by simp [h2]),xj b h2]
 rw [if_neg (by simp;omega)];have key:∀ (n k:Nat) (acc:List Choice),k+2*n=b.length->acc.length<=k ->
   iter (fun ss:Int × List Choice=>gN b ss.1 ss.2) ((k:Int),acc)=some (match dw (b.drop k) with | none=>([],12) | some l=>(acc++l,0)):=by
  intro n
  induction n with
  | zero =>
   intro k acc hk ha
   have e:gN b (k:Int) acc=some (.inr (acc,0)):=by unfold gN;rw [if_neg (by simp;omega)];rfl
   rw [aG];simp only [e]
   rw [KU (by omega)];simp [dw]
  | succ n ih =>
   intro k acc hk ha
   have hlt:k<b.length:=by omega
   have hlt2:k+1<b.length:=by omega
   have hd:b.drop k=b[k]::b[k+1]::b.drop (k+2):=by rw [KC hlt,KC hlt2]
   have hx:=bu (Ks hlt)
   have hy:=bu (Ks hlt2)
   generalize b[k]=x at hd hx
   generalize b[k+1]=y at hd hy
   have w1:=br (k:=k) (by omega)
   have w2:IntKind.i64.wrap ((k:Int)+2)=((k+2:Nat):Int):=by rw [bw (by omega) (by omega)];rfl
   rw [hd]
   unfold dw
   by_cases hc:x.toNat<12/\y.toNat<16
   ·have e:gN b (k:Int) acc=some (.inl (((k+2:Nat):Int),acc++[⟨x.toNat,y.toNat⟩])):=by
     unfold gN;rw [if_pos (by simp;omega),hx,w1];simp only [Kr];rw [hy];simp only [Kr,eU];rw [if_neg (by simp;omega),cx (by simp;omega)];simp only [Kr,w2]
    rw [aG];simp only [e]
    rw [ih (k+2) _ (by omega) (by simp;omega),if_pos hc]
    cases dw (b.drop (k+2))<;>simp
   ·have e:gN b (k:Int) acc=some (.inr ([],12)):=by
     unfold gN;rw [if_pos (by simp;omega),hx,w1];simp only [Kr];rw [hy];simp only [Kr,eU];rw [if_pos (by simp;omega)];rfl
    rw [aG];simp only [e]
    rw [if_neg hc]
 have:=key (b.length / 2) 0 [] (by omega) (by simp);simp only [Lc,K9] at this;exact this
theorem wt:∀ (l:List Choice),(∀ c,c∈l->okC c)->dw (l.flatMap dx)=some l
 | [],_=>rfl
 | c::l,h=>by
  have hc:=h c (by simp);unfold okC at hc;have ih:=wt l (fun x hx=>h x (by simp [hx]));simp only [Ls,dx,Mg,K9];unfold dw;have e1:(UInt8.ofNat c.Node.toNat).toNat=c.Node.toNat:=by simp;omega
  have e2:(UInt8.ofNat c.Lane.toNat).toNat=c.Lane.toNat:=by simp;omega
  rw [e1,e2,if_pos (by omega)];have:l.flatMap (fun c=>[UInt8.ofNat c.Node.toNat,UInt8.ofNat c.Lane.toNat])=l.flatMap dx:=rfl;rw [show (List.flatMap dx l)=l.flatMap dx from rfl,ih];simp only [Lh,LF,LW,and_true];cases c;simp at hc ⊢;omega
theorem tL (l:List Choice):(l.flatMap dx).length=2*l.length:=by
 induction l with
 | nil=>rfl
 | cons c l ih=>simp [Ls,dx,ih];omega
def dv (ep:Int) (s:List UInt8):List Choice :=
 match records s.length s with
 | ([p],n)=>if n=s.length/\p.head?.map (fun c=>(c.toNat:Int))=some ep then (jN p.tail).1 else []
 | _=>[]
def bc (ep:Int):List (List UInt8)->List Choice × Nat
 | []=>([],0)
 | s::r=>if dv ep s=[] then ([],0) else (dv ep s++(bc ep r).1,1+(bc ep r).2)
theorem GS {b p:List UInt8} (h:fS b=some p):p≠[]/\p.length<=60:=by
 cases b with
 | nil=>cases h
 | cons c t =>
  simp only [fS] at h;split at h
  ·cases h
  ·rename_i hb;split at h
   ·cases h
   ·cases h;constructor
    ·intro h0;have:(t.take c.toNat).length=0:=by rw [h0];rfl
     rw [KR] at this;omega
    ·simp;omega
theorem wX:∀ (n:Nat) (b p:List UInt8),p∈(records n b).1->p≠[]/\p.length<=60
 | 0,b,p,h=>by simp [records] at h
 | n+1,b,p,h=>by
  unfold records at h;split at h
  ·simp at h
  ·rename_i q hq;rcases K0.1 h with h | h
   ·rw [h];exact GS hq
   ·exact wX n _ p h
theorem xn (ep:Int) (s:List UInt8) :
  ((records s.length s).1.length≠1/\dv ep s=[]) ∨
  ∃ c t,(records s.length s).1=[c::t]/\t.length<=59/\(((records s.length s).2≠s.length/\dv ep s=[])∨((records s.length s).2=s.length/\(c.toNat:Int)≠ep/\dv ep s=[])∨((records s.length s).2=s.length/\(c.toNat:Int)=ep/\dv ep s=(jN t).1)):=by
 have hm:=fun p=>wX s.length s p
 unfold dv
 generalize records s.length s=R at hm
 obtain ⟨l,n⟩:=R
 match l,hm with
 | [],_=>exact .inl ⟨by simp,rfl⟩
 | a::b::r,_=>exact .inl ⟨by simp,rfl⟩
 | [p],hm =>
  have:=hm p (by simp)
  cases p with
  | nil=>exact absurd rfl this.1
  | cons c t =>
   refine .inr ⟨c,t,rfl,by have:=this.2;simp at this;omega,?_⟩
   by_cases h1:n=s.length
   ·by_cases h2:(c.toNat:Int)=ep
    ·exact .inr (.inr ⟨h1,h2,by simp [h1,h2]⟩)
    ·exact .inr (.inl ⟨h1,h2,by simp [h1,h2]⟩)
   ·exact .inl ⟨h1,by simp [h1]⟩
theorem w6 {t:List UInt8} (h:t.length<=59):(jN t).1=(dw t).getD []/\jN t=match dw t with | none=>([],12) | some l=>(l,0):=by
 have e:jN t=match dw t with | none=>([],12) | some l=>(l,0):=by unfold jN;rw [if_neg (by omega)];try (cases dw t<;>rfl)
 refine ⟨?_,e⟩;rw [e];cases dw t<;>rfl
theorem xR (S:List (List UInt8)) (w:List Write) (ep:Int) (k:Nat) (h:∀ s,s∈S->okS s):mw (k:Int) S w ep=some (match S[k]? with | some s=>dv ep s | none=>[]):=by
 unfold mw;by_cases hk:S.length<=k
 ·rw [if_pos (by simp;omega),KZ hk]
 rw [if_neg (by simp;omega)];obtain ⟨s,hs⟩:∃ s,S[k]?=some s:=⟨_,Ks (by omega)⟩
 have hsl:=h s (Ku hs);unfold okS at hsl;rw [bu hs];simp only [Kr,wg,hs];have hr:readR s=((records s.length s).1,((records s.length s).2:Int),0):=by unfold readR;rw [if_neg (by omega)]
 rw [hr];simp only;rcases xn ep s with ⟨h1,h2⟩ | ⟨c,t,h1,ht,h3⟩
 ·rw [if_pos (by simp;omega),h2];rfl
 ·rw [h1,if_neg (by simp)];have e0:ixN [c::t] 0=some 0:=eV (xs:=[c::t]) (k:=0) (by simp);have e1:idx (c::t) 0=some c:=by simp [idx]
  have e2:sub (c::t) 1 ((c::t).length:Int)=some t:=by have:=iQ (xs:=c::t) (i:=1) (by simp);simpa using this
  rw [e0];simp only [Kr,L7,e1,eU];rcases h3 with ⟨h4,h5⟩ | ⟨h4,h5,h6⟩ | ⟨h4,h5,h6⟩
  ·rw [if_pos (by simp;omega),h5];rfl
  ·rw [if_neg (by simp;omega),h6];simp [h5]
  ·rw [if_neg (by simp;omega),h6,h5];simp only [bne_self_eq_false,Kr,KD,if_false];rw [e2];simp [CH]
theorem yD (ep:Int) (s:List UInt8):(dv ep s).length<=30:=by
 rcases xn ep s with ⟨h1,h2⟩ | ⟨c,t,h1,ht,h3⟩
 ·rw [h2];simp
 ·rcases h3 with ⟨h4,h5⟩ | ⟨h4,h5,h6⟩ | ⟨h4,h5,h6⟩
  ·rw [h5];simp
  ·rw [h6];simp
  ·rw [h6,(w6 ht).1];cases hp:dw t with
   | none=>simp
   | some l=>have:=xM t l hp;simp;omega
theorem HT {d:Disk} (hd:bD d) (ep:Int) (h0:0<=ep) (h1:ep<=200):nr d ep=some ((bc ep (d.Sectors.drop 120)).1,((bc ep (d.Sectors.drop 120)).2:Int),0):=by
 have hh:=hd;unfold bD at hh;unfold nr;rw [iK hd];simp only [Kr];rw [if_neg (by simp),if_neg (by simp;omega)];have r0:=xR d.Sectors d.Wait ep 120 hd.2.2.1;rw [show ((120:Nat):Int)=120 from rfl] at r0;rw [r0];simp only [Kr];have key:∀ (n k:Nat) (acc:List Choice),120+k+n=d.Sectors.length∨(n=0/\d.Sectors.length<=120+k/\k<=200)->acc.length<=30*k ->
   iter (fun f6:Int × (List Choice) × (List Choice)=>gQ d ep f6.1 f6.2.1 f6.2.2) ((k:Int),acc,(match d.Sectors[120+k]? with | some s=>dv ep s | none=>[]))=some (acc++(bc ep (d.Sectors.drop (120+k))).1,((k+(bc ep (d.Sectors.drop (120+k))).2:Nat):Int),0):=by
  intro n
  induction n with
  | zero =>
   intro k acc hk ha
   rw [KZ (by omega)]
   have e:gQ d ep (k:Int) acc []=some (.inr (acc,(k:Int),0)):=by unfold gQ;rw [if_neg (by simp)];rfl
   rw [aG];simp only [e]
   rw [KU (by omega)];simp [bc]
  | succ n ih =>
   intro k acc hk ha
   have hlt:120+k<d.Sectors.length:=by omega
   obtain ⟨s,hs⟩:∃ s,d.Sectors[120+k]?=some s:=⟨_,Ks hlt⟩
   have hdr:d.Sectors.drop (120+k)=s::d.Sectors.drop (120+(k+1)):=by
    rw [KC hlt];have:d.Sectors[120+k]=s:=by rw [Ks hlt] at hs;injection hs
    rw [this];rfl
   rw [hs,hdr]
   simp only
   by_cases hc:dv ep s=[]
   ·have e:gQ d ep (k:Int) acc (dv ep s)=some (.inr (acc,(k:Int),0)):=by
     unfold gQ;rw [hc,if_neg (by simp)];rfl
    rw [aG];simp only [e];simp [bc,hc]
   ·have hlen:=yD ep s
    have hpos:0<(dv ep s).length:=LU.2 hc
    have r1:=xR d.Sectors d.Wait ep (120+(k+1)) hd.2.2.1
    have e:gQ d ep (k:Int) acc (dv ep s)=some (.inl (((k+1:Nat):Int),acc++dv ep s,(match d.Sectors[120+(k+1)]? with | some s=>dv ep s | none=>[]))):=by unfold gQ;rw [if_pos (by simp;omega),cx (by omega),br (by omega),bw (n:=120+((k+1:Nat):Int)) (by omega) (by omega)];simp only [Kr];rw [show (120:Int)+((k+1:Nat):Int)=((120+(k+1):Nat):Int) by omega,r1];rfl
    rw [aG];simp only [e]
    rw [ih (k+1) _ (by omega) (by simp;omega)]
    simp [bc,hc];omega
 by_cases hlong:120<=d.Sectors.length
 ·have:=key (d.Sectors.length - 120) 0 [] (.inl (by omega)) (by simp);simpa using this
 ·have:=key 0 0 [] (.inr ⟨rfl,by omega,by omega⟩) (by simp);simpa using this
def cv (ep:Nat) (S:List (List UInt8)):Nat->Nat->List Choice->List Write->Disk × Int × Int
 | 0,a,_,w=>(⟨S,w⟩,(a:Int),0)
 | n+1,a,l,w =>
  if l=[] then (⟨S,w⟩,(a:Int),0)
  else if (dD (l.take 29)).2≠0 then (⟨[],[]⟩,0,(dD (l.take 29)).2)
  else if a=80 then (⟨[],[]⟩,0,8)
  else if w.length=300 then (⟨[],[]⟩,0,8)
  else cv ep S n (a+1) (l.drop 29) (w++[⟨((120+a:Nat):Int),frm (UInt8.ofNat ep::(dD (l.take 29)).1)⟩])
theorem wS (l:List Choice) (h:l.length<=29):(dD l).1.length<=58:=by
 unfold dD;rw [if_neg (by omega)];split
 ·rw [tL];omega
 ·simp
theorem F5 (ep:Nat) (hep:ep<=200) (S:List (List UInt8)):∀ (n a:Nat) (l:List Choice) (w:List Write),l.length<=n->l.length<=1099511627776->a<=80->bD ⟨S,w⟩ ->
  iter (fun sG:Int × (List Choice) × (List (List UInt8)) × (List Write)=>eC (ep:Int) sG.1 sG.2.1 sG.2.2.1 sG.2.2.2) ((a:Int),l,S,w)=some (cv ep S n a l w):=by
 intro n
 induction n with
 | zero =>
  intro a l w h hl ha hd
  have hl0:l=[]:=KB (by omega)
  subst hl0
  have e:eC (ep:Int) (a:Int) [] S w=some (.inr (⟨S,w⟩,(a:Int),0)):=by unfold eC;rw [if_neg (by simp)];rfl
  rw [aG];simp only [e];rfl
 | succ n ih =>
  intro a l w h hl ha hd
  by_cases hl0:l=[]
  ·subst hl0
   have e:eC (ep:Int) (a:Int) [] S w=some (.inr (⟨S,w⟩,(a:Int),0)):=by unfold eC;rw [if_neg (by simp)];rfl
   rw [aG];simp only [e];simp [cv]
  have hpos:0<l.length:=LU.2 hl0
  have hmin:(if ((l).length:Int)<29 then ((l).length:Int) else 29)=((min l.length 29:Nat):Int):=by split<;>omega
  have htake:l.take (min l.length 29)=l.take 29:=by
   by_cases h29:l.length<=29
   ·rw [Lp h29,K7 (by omega),K7 h29]
   ·rw [Mf (by omega)]
  have hdrop:l.drop (min l.length 29)=l.drop 29:=by
   by_cases h29:l.length<=29
   ·rw [Lp h29,KU (by omega),KU h29]
   ·rw [Mf (by omega)]
  have s1:sub l 0 ((min l.length 29:Nat):Int)=some (l.take 29):=by rw [sub_0 (by omega),htake]
  have s2:sub l ((min l.length 29:Nat):Int) (l.length:Int)=some (l.drop 29):=by rw [iQ (by omega),hdrop]
  have hcl:=wS (l.take 29) (by simp;omega)
  unfold cv
  rw [if_neg hl0]
  by_cases hc:(dD (l.take 29)).2≠0
  ·have e:eC (ep:Int) (a:Int) l S w=some (.inr (⟨[],[]⟩,0,(dD (l.take 29)).2)):=by
    unfold eC;rw [if_pos (by simp;omega),hmin,s1];simp only [Kr,qX];rw [if_pos (by simpa using hc)];rfl
   rw [aG];simp only [e];rw [if_pos hc]
  have hput:putFr (UInt8.ofNat ep::(dD (l.take 29)).1)=(frm (UInt8.ofNat ep::(dD (l.take 29)).1),0):=by unfold putFr;rw [if_neg (by simp),if_neg (by simp;omega)]
  have hfl:(frm (UInt8.ofNat ep::(dD (l.take 29)).1)).length<=62:=by simp [frm];omega
  rw [if_neg hc]
  by_cases ha80:a=80
  ·have e:eC (ep:Int) (a:Int) l S w=some (.inr (⟨[],[]⟩,0,8)):=by
    unfold eC;rw [if_pos (by simp;omega),hmin,s1];simp only [Kr,qX];rw [if_neg (by simpa using hc),str_1,lJ (by simp;omega)];simp only [Kr,LO,rc,hput];rw [bw (n:=120+(a:Int)) (by omega) (by omega),if_pos (by simp;omega)];rfl
   rw [aG];simp only [e];rw [if_pos ha80]
  rw [if_neg ha80]
  have hh:=hd
  unfold bD at hh
  have w120:IntKind.i64.wrap (120+(a:Int))=((120+a:Nat):Int):=by rw [bw (by omega) (by omega)];omega
  by_cases hw:w.length=300
  ·have hW:gV ⟨S,w⟩ ((120+a:Nat):Int) (frm (UInt8.ofNat ep::(dD (l.take 29)).1))=some (⟨[],[]⟩,8):=by
    unfold gV;rw [iK hd];simp only [Kr];rw [if_neg (by simp),if_neg (by simp;omega),if_neg (by simp;omega),if_pos (by simp [hw])]
   have e:eC (ep:Int) (a:Int) l S w=some (.inr (⟨[],[]⟩,0,8)):=by unfold eC;rw [if_pos (by simp;omega),hmin,s1];simp only [Kr,qX];rw [if_neg (by simpa using hc),str_1,lJ (by simp;omega)];simp only [Kr,LO,rc,hput,w120];rw [if_neg (by simp;omega),hW];rfl
   rw [aG];simp only [e];rw [if_pos hw]
  rw [if_neg hw]
  have hW:=yB hd ((120+a:Nat):Int) (frm (UInt8.ofNat ep::(dD (l.take 29)).1)) (by omega) (by omega) (by omega) (by show w.length<300;have:=hh.2.1;simp only at this;omega)
  have e:eC (ep:Int) (a:Int) l S w=some (.inl (((a+1:Nat):Int),l.drop 29,S,w++[⟨((120+a:Nat):Int),frm (UInt8.ofNat ep::(dD (l.take 29)).1)⟩])):=by unfold eC;rw [if_pos (by simp;omega),hmin,s1];simp only [Kr,qX];rw [if_neg (by simpa using hc),str_1,lJ (by simp;omega)];simp only [Kr,LO,rc,hput,w120];rw [if_neg (by simp;omega),hW];simp only [Kr];rw [if_neg (by simp),s2,br (by omega)];rfl
  rw [aG];simp only [e]
  refine ih (a+1) (l.drop 29) _ (by simp;omega) (by simp;omega) (by omega) ⟨hh.1,?_,hd.2.2.1,?_⟩
  ·show (w++[_]).length<=300
   have:=hh.2.1
   simp only at this
   simp;omega
  ·intro x hx
   rcases KJ.1 hx with hx | hx
   ·exact hd.2.2.2 x hx
   ·simp at hx;subst hx;exact ⟨by simp;omega,by simp;omega,by show (frm _).length<=64;omega⟩
theorem E6 {d:Disk} (hd:bD d) (ep a:Nat) (l:List Choice) (hep:ep<=200) (ha:a<=80) (hl:l.length<=1099511627776):m7 d (ep:Int) (a:Int) l=some (cv ep d.Sectors l.length a l d.Wait):=by unfold m7;rw [iK hd];simp only [Kr];rw [if_neg (by simp),if_neg (by simp;omega)];exact F5 ep hep d.Sectors l.length a l d.Wait (Kx _) hl ha hd
def f3:List UInt8:=frm [3,2,1]
theorem zf (ep:Int):∀ S:List (List UInt8),(bc ep S).1.length<=30*S.length
 | []=>by simp [bc]
 | s::S=>by unfold bc;have:=zf ep S;have:=yD ep s;split<;>simp<;>omega
def goodR (c:List Choice):Prop:=c≠[]/\c.length<=29/\∀ x,x∈c->okC x
def recB (ep:Nat) (c:List Choice):List UInt8:=frm (UInt8.ofNat ep::c.flatMap dx)
def wr (ep:Nat):Nat->List (List Choice)->List Write
 | _,[]=>[]
 | k,c::cs=>⟨((120+k:Nat):Int),recB ep c⟩::wr ep (k+1) cs
theorem F6 (ep:Nat) (c:List Choice) (h:c.length<=29):(recB ep c).length<=62:=by unfold recB;rw [nA,KH,tL];omega
theorem wr_ok (ep:Nat):∀ (k:Nat) (cs:List (List Choice)),k+cs.length<=80->(∀ c,c∈cs->goodR c)->∀ w,w∈wr ep k cs->okW w
 | _,[],_,_,w,hw=>by simp [wr] at hw
 | k,c::cs,h,hc,w,hw=>by
  simp only [KH] at h;simp only [wr,K0] at hw;rcases hw with rfl | hw
  ·exact ⟨by show (0:Int)<=((120+k:Nat):Int);omega,by show ((120+k:Nat):Int)<200;omega,by show (recB ep c).length<=64;have:=F6 ep c (hc c (by simp)).2.1;omega⟩
  ·exact wr_ok ep (k+1) cs (by omega) (fun x hx=>hc x (by simp [hx])) w hw
theorem zQ (ep:Nat) (S:List (List UInt8)):∀ (n a:Nat) (l:List Choice) (w:List Write),l.length<=n->a<=80->(cv ep S n a l w).2.2=0 ->
  ∃ cs:List (List Choice),cv ep S n a l w=(⟨S,w++wr ep a cs⟩,((a+cs.length:Nat):Int),0)/\l=cs.flatten/\(∀ c,c∈cs->goodR c)/\a+cs.length<=80
 | 0,a,l,w,h,ha,_=>by
  have hl0:l=[]:=KB (by omega);exact ⟨[],by simp [cv,wr],by simp [hl0],by simp,by simpa using ha⟩
 | n + 1,a,l,w,h,ha,he=>by
  unfold cv at he ⊢;by_cases hl0:l=[]
  ·rw [if_pos hl0];exact ⟨[],by simp [wr],by simp [hl0],by simp,by simpa using ha⟩
  rw [if_neg hl0] at he ⊢;by_cases hc:(dD (l.take 29)).2≠0
  ·rw [if_pos hc] at he;exact absurd he hc
  rw [if_neg hc] at he ⊢;by_cases h80:a=80
  ·rw [if_pos h80] at he;exact absurd he (by decide)
  rw [if_neg h80] at he ⊢;by_cases h300:w.length=300
  ·rw [if_pos h300] at he;exact absurd he (by decide)
  rw [if_neg h300] at he ⊢;have hpos:0<l.length:=LU.2 hl0;have hall:∀ x,x∈l.take 29->okC x:=by
   by_cases hall:∀ x,x∈l.take 29->okC x
   ·exact hall
   ·exfalso;apply hc;unfold dD;rw [if_neg (by simp;omega),if_neg hall];decide
  have hch:dD (l.take 29)=((l.take 29).flatMap dx,0):=by unfold dD;rw [if_neg (by simp;omega),if_pos hall]
  rw [hch] at he ⊢;obtain ⟨cs,h1,h2,h3,h4⟩:=zQ ep S n (a+1) (l.drop 29) _ (by simp;omega) (by omega) he;refine ⟨l.take 29::cs,?_,?_,?_,by simp;omega⟩
  ·rw [h1];have e:a+1+cs.length=a+(l.take 29::cs).length:=by simp;omega
   rw [e];simp [wr,recB]
  ·rw [Lb,<- h2,Lz]
  ·intro c hc;rcases K0.1 hc with rfl | hc
   ·exact ⟨fun h0=>by have:=congrArg List.length h0;rw [KR,Mm] at this;omega,by simp;omega,hall⟩
   ·exact h3 c hc
theorem Gt (ep ep':Nat) (he:ep<=200) (c:List Choice) (hc:goodR c):dv (ep':Int) (recB ep c)=if ep=ep' then c else []:=by
 have hb:=tL c;have hok:okP (UInt8.ofNat ep::c.flatMap dx):=⟨by simp,by rw [KH];have:=hc.2.1;omega⟩
 have hr:records (recB ep c).length (recB ep c)=([UInt8.ofNat ep::c.flatMap dx],(recB ep c).length):=by
  have hl:(recB ep c).length=(UInt8.ofNat ep::c.flatMap dx).length+3:=nA _;have h0:=xZ (UInt8.ofNat ep::c.flatMap dx) [] hok;rw [LZ] at h0;rw [hl];generalize hm:(UInt8.ofNat ep::c.flatMap dx).length+2=m;have e:(UInt8.ofNat ep::c.flatMap dx).length+3=m+1:=by omega
  have hrec:fS (recB ep c)=some (UInt8.ofNat ep::c.flatMap dx):=h0;have hdr:(recB ep c).drop ((UInt8.ofNat ep::c.flatMap dx).length+3)=[]:=KU (by omega);have hnil:∀ q,records q []=([],0):=by intro q;cases q<;>simp [records,fS]
  rw [e];simp only [records,hrec];rw [hdr,hnil];refine Prod.ext rfl ?_;show (UInt8.ofNat ep::c.flatMap dx).length+3+0=m+1;omega
 unfold dv;rw [hr];have hep:((UInt8.ofNat ep).toNat:Int)=(ep:Int):=by simp;omega
 simp only [List.head?_cons,Lh,hep,true_and,List.tail_cons,LF];by_cases h:ep=ep'
 ·rw [if_pos (by omega),if_pos h,(w6 (by have:=hc.2.1;omega)).1,wt c hc.2.2];rfl
 ·rw [if_neg (by omega),if_neg h]
section
def logW (E:Nat) (w:Write):Prop:=okW w/\120<=w.At/\∀ ep:Nat,ep≠E->dv (ep:Int) w.Bytes=[]
theorem Br (E:Nat) (he:E<=200):∀ (k:Nat) (cs:List (List Choice)),k+cs.length<=80->(∀ c,c∈cs->goodR c)->∀ w,w∈wr E k cs->logW E w
 | _,[],_,_,w,hw=>by simp [wr] at hw
 | k,c::cs,h,hc,w,hw=>by
  have hok:=wr_ok E k (c::cs) h hc w hw;simp only [wr,K0] at hw;rcases hw with rfl | hw
  ·refine ⟨hok,by show (120:Int)<=((120+k:Nat):Int);omega,fun ep hne=>?_⟩;show dv (ep:Int) (recB E c)=[]
   rw [Gt E ep he c (hc c KQ),if_neg (fun e=>hne e.symm)]
  ·exact Br E he (k+1) cs (by simp only [KH] at h;omega) (fun x hx=>hc x (KS _ hx)) w hw
structure Held (P:List UInt8->Prop) (E:Nat) (S:List (List UInt8)):Prop where
 own:E≠0->∃ b,P b/\cW S (E % 2)=some (b,E)
 old:∀ (sl:Nat) (h:List UInt8),sl<=1->secP (gt S (60*sl)) 0=some h->(h.getD 0 0).toNat=0∨(h.getD 0 0).toNat<E∨(sl=E % 2/\(h.getD 0 0).toNat<=E)
 log:∀ (i ep:Nat),120<=i->E<ep->dv (ep:Int) (gt S i)=[]
theorem xJ {S:List (List UInt8)} {sl:Nat} {x:List UInt8 × Nat} (h:cW S sl=some x):∃ hd,secP (gt S (60*sl)) 0=some hd/\x.2=(hd.getD 0 0).toNat/\x.2<=200:=by
 unfold cW at h;split at h
 ·cases h
 rename_i hd e;split at h
 ·rename_i hc;obtain ⟨b,_,rfl⟩:=KO.1 h;exact ⟨hd,e,rfl,hc.2.1⟩
 ·cases h
section
variable {P:List UInt8→Prop} {E:Nat} {S:List (List UInt8)}
theorem Held.other (h:Held P E S) {sl:Nat} {x:List UInt8 × Nat} (hs:sl<=1) (hx:cW S sl=some x):x.2=0∨x.2<E∨(sl=E % 2/\x.2<=E):=by obtain ⟨hd,h1,h2,_⟩:=xJ hx;rw [h2];exact h.old sl hd hs h1
theorem Held.mono {Q:List UInt8->Prop} (h:Held P E S) (hq:∀ b,P b->Q b):Held Q E S:=⟨fun h0=>by obtain ⟨b,h1,h2⟩:=h.own h0;exact ⟨b,hq b h1,h2⟩,h.old,h.log⟩
theorem Gg:Held P 0 []:=by refine ⟨fun h=>absurd rfl h,fun sl h hs h1=>?_,fun i ep _ _=>rfl⟩;have e:gt [] (60*sl)=[]:=rfl;rw [e] at h1;cases h1
theorem Ad {ws:List Write} (hw:∀ w,w∈ws->logW E w) {i:Nat} (hi:i<120):gt (aW S ws) i=gt S i:=by rw [nz ws S i (fun w h=>(hw w h).1),pI _ _ _ (fun w h=>by have:=(hw w h).2.1;omega)]
theorem Held.logs (h:Held P E S) {ws:List Write} (hw:∀ w,w∈ws->logW E w):Held P E (aW S ws):=by
 have hg:∀ sl,sl<=1->cW (aW S ws) sl=cW S sl:=fun sl hs=>w7 fun k hk=>Ad hw (by omega)
 refine ⟨fun h0=>?_,fun sl hd hs h1=>?_,fun i ep hi he=>?_⟩
 ·rw [hg _ (by omega)];exact h.own h0
 ·rw [Ad hw (by omega)] at h1;exact h.old sl hd hs h1
 ·rw [nz ws S i (fun w h=>(hw w h).1)];rcases zO ws (gt S i) i with e | ⟨w,h1,_,e⟩
  ·rw [e];exact h.log i ep hi he
  ·rw [e];exact (hw w h1).2.2 ep (by omega)
def di (E:Nat) (b:List UInt8):List Write:=wsP ((E+1) % 2) (E+1) ((b.length+49) / 50) b ((b.length+49) / 50)
theorem xN (E:Nat) (b:List UInt8):(di E b).length=(b.length+49) / 50+1:=Ag ..
theorem pJ {b:List UInt8} (hb:(b.length+49) / 50<60):∀ w,w∈di E b->okW w:=HO _ _ _ _ (by omega) hb
theorem pS {b:List UInt8} (hb:(b.length+49) / 50<60) (m i:Nat) (hi:120<=i∨∃ k,k<60/\i=60*(E % 2)+k):gt (aW S ((di E b).take m)) i=gt S i:=by rw [nz _ S i (fun w h=>pJ hb w (KG h)),pI _ _ _ (fun w h=>?_)];obtain ⟨k,hk,rfl⟩:=rS _ _ _ _ _ w (KG h);show ((60*((E+1) % 2)+k:Nat):Int)≠(i:Int);rcases hi with hi | ⟨q,hq,hi⟩<;>omega
theorem Held.part (h:Held P E S) {b:List UInt8} (hb:(b.length+49) / 50<60) {m:Nat} (hm:m<=(b.length+49) / 50):Held P E (aW S ((di E b).take m)):=by
 have hown:cW (aW S ((di E b).take m)) (E % 2)=cW S (E % 2):=w7 fun k hk=>pS hb m _ (.inr ⟨k,hk,rfl⟩)
 have hhd:∀ sl,sl<=1->gt (aW S ((di E b).take m)) (60*sl)=gt S (60*sl):=fun sl hs=>by
  by_cases h2:sl=E % 2
  ·exact pS hb m _ (.inr ⟨0,by omega,by rw [h2];rfl⟩)
  ·rw [nz _ S _ (fun w h=>pJ hb w (KG h)),pI _ _ _ (fun w h=>?_)];obtain ⟨k,hk,hk2,rfl⟩:=zA _ _ _ _ _ m w hm h;show ((60*((E+1) % 2)+k:Nat):Int)≠((60*sl:Nat):Int);omega
 refine ⟨fun h0=>by rw [hown];exact h.own h0,fun sl hd hs h1=>?_,fun i ep hi he=>?_⟩
 ·rw [hhd sl hs] at h1;exact h.old sl hd hs h1
 ·rw [pS hb m i (.inl hi)];exact h.log i ep hi he
theorem xW {b:List UInt8} (hE:E+1<=200) (hb:(b.length+49) / 50<60):cW (aW S (di E b)) ((E+1) % 2)=some (b,E+1):=by
 refine Fw (n:=(b.length+49) / 50) hE rfl hb fun k hk=>?_
 rw [nz _ S _ (pJ hb)];exact yp _ _ _ _ _ k _ hk
theorem Held.full (h:Held P E S) {b:List UInt8} (hP:P b) (hE:E+1<=200) (hb:(b.length+49) / 50<60):Held P (E+1) (aW S (di E b)):=by
 have hf:=xW (S:=S) hE hb;have ht:∀ i,(120<=i∨∃ k,k<60/\i=60*(E % 2)+k)->gt (aW S (di E b)) i=gt S i:=fun i hi=>by have:=pS (S:=S) hb (di E b).length i hi;rwa [Lx] at this
 refine ⟨fun _=>⟨b,hP,hf⟩,fun sl hd hs h1=>?_,fun i ep hi he=>?_⟩
 ·by_cases h2:sl=(E+1) % 2
  ·obtain ⟨hd',e1,e2,_⟩:=xJ hf;rw [<- h2,h1] at e1;cases e1;right;right;exact ⟨h2,by rw [<- e2];exact Kx _⟩
  ·have h3:sl=E % 2:=by omega
   rw [ht _ (.inr ⟨0,by omega,by rw [h3];rfl⟩)] at h1;rcases h.old sl hd hs h1 with e | e | ⟨_,e⟩
   ·exact .inl e
   ·exact .inr (.inl (by omega))
   ·exact .inr (.inl (by omega))
 ·rw [ht i (.inl hi)];exact h.log i ep hi (by omega)
end
theorem y9 (S:List (List UInt8)) (a b:List Write):aW S (a++b)=aW (aW S a) b:=List.foldl_append
inductive Waits (P:List UInt8->Prop) (E:Nat):Bool->List Write->Prop
 | log {ws:List Write} (h:∀ w,w∈ws->logW E w):Waits P E false ws
 | slot {ws:List Write} {b:List UInt8} (h:∀ w,w∈ws->logW E w) (hP:P b) (hE:E+1<=200) (hb:(b.length+49) / 50<60):Waits P E true (ws++di E b)
theorem Held.cut {P:List UInt8->Prop} {E:Nat} {S:List (List UInt8)} (h:Held P E S) {q:Bool} {W:List Write} (hW:Waits P E q W) (n:Nat):Held P E (aW S (W.take n))∨(q=true/\W.length<=n/\Held P (E+1) (aW S (W.take n))):=by
 cases hW with
 | log hw=>exact .inl (h.logs fun w hm=>hw w (KG hm))
 | @slot ws b hw hP hE hb =>
  rw [List.take_append,y9];have h1:Held P E (aW S (ws.take n)):=h.logs fun w hm=>hw w (KG hm)
  by_cases hn:n - ws.length<=(b.length+49) / 50
  ·exact .inl (h1.part hb hn)
  ·right;have hl:=xN E b;rw [K7 (l:=di E b) (by omega)];exact ⟨rfl,by rw [Kv];omega,h1.full hP hE hb⟩
theorem Held.flush {P:List UInt8->Prop} {E:Nat} {S:List (List UInt8)} (h:Held P E S) {q:Bool} {W:List Write} (hW:Waits P E q W):Held P (if q=true then E+1 else E) (aW S W):=by
 cases hW with
 | log hw=>exact h.logs hw
 | slot hw hP hE hb=>rw [y9];exact (h.logs hw).full hP hE hb
theorem Waits.ok {P:List UInt8->Prop} {E:Nat} {q:Bool} {W:List Write} (h:Waits P E q W):∀ w,w∈W->okW w:=by
 cases h with
 | log hw=>exact fun w hm=>(hw w hm).1
 | slot hw hP hE hb =>
  intro w hm;rcases KJ.1 hm with hm | hm
  ·exact (hw w hm).1
  ·exact pJ hb w hm
end
def Rd {α:Type} (rd:List UInt8->Option ((α × List UInt8) ⊕ Unit)) (ok:α->Prop) (m:α->Nat):Prop :=
 ∀ b,b.length<=1048576->rd b=some (.inr ())∨∃ x r,rd b=some (.inl (x,r))/\ok x/\m x+r.length<=b.length
theorem G5 (z:Int):gI (IntKind.i64.wrap z):=by unfold gI;simp [IntKind.wrap,IntKind.signed,IntKind.bits];omega
theorem GN (z k:Int) (h:0<=k):∃ y:Nat,shl .u64 z k=some (y:Int)/\y<18446744073709551616:=by unfold shl;rw [if_pos h,lx];generalize z*2 ^ (min k.toNat IntKind.u64.bits)=c;refine ⟨(c % 18446744073709551616).toNat,?_,by omega⟩;congr 1;omega
theorem or_lt (a b:Nat) (ha:a<18446744073709551616) (hb:b<18446744073709551616):a ||| b<18446744073709551616:=Nat.or_lt_two_pow (n:=64) ha hb
theorem gD:Rd de gI mI:=by
 intro b hb;have key:∀ (f i s1:Nat),i+f=10->s1<18446744073709551616 ->
   iter (fun ak:Int × Int=>dV b ak.1 ak.2) ((s1:Int),(i:Int))=some (.inr ()) ∨
   ∃ n r,iter (fun ak:Int × Int=>dV b ak.1 ak.2) ((s1:Int),(i:Int))=some (.inl (n,r))/\gI n/\mI n+r.length<=b.length:=by
  intro f
  induction f with
  | zero =>
   intro i s1 hi hs
   left
   have h1:dV b (s1:Int) (i:Int)=some (.inr (.inr ())):=by unfold dV;rw [if_neg (by rw [decide_eq_true_eq];split<;>omega)];rfl
   rw [aG]
   simp only [h1]
  | succ f ih =>
   intro i s1 hi hs
   by_cases hlt:i<b.length
   ·have hx:b[i]?=some b[i]:=Ks hlt
    generalize b[i]=x at hx
    have hix:=bu hx
    obtain ⟨y,hy,hy2⟩:=GN (IntKind.u64.wrap (ibits .and .u8 (x.toNat:Int) 127)) (IntKind.i64.wrap (7*(i:Int))) (by rw [bw (by omega) (by omega)];omega)
    have hor:=or_lt s1 y hs hy2
    by_cases hc:x.toNat<128
    ·right
     have hsh:shr .u64 ((s1 ||| y:Nat):Int) 1=some (((s1 ||| y) / 2:Nat):Int):=by unfold shr;rw [if_pos (by omega)];show some (((s1 ||| y:Nat):Int).fdiv 2)=_;rw [Lu _ (by omega)];rfl
     have h1:dV b (s1:Int) (i:Int)=some (.inr (.inl (ibits .xor .i64 (IntKind.i64.wrap (((s1 ||| y) / 2:Nat):Int)) (IntKind.i64.wrap (0 - (IntKind.i64.wrap (ibits .and .u64 ((s1 ||| y:Nat):Int) 1)))),b.drop (i+1)))):=by unfold dV;rw [if_pos (by rw [decide_eq_true_eq];split<;>omega),hix,Kr,hy,Kr,Kr,if_pos (by simp;omega),br (by omega),iQ (by omega),Kr,rE _ _ hs hy2,hsh];rfl
     rw [aG]
     simp only [h1]
     refine ⟨_,_,rfl,?_,?_⟩
     ·exact G5 _
     ·show 1+(b.drop (i+1)).length<=b.length
      rw [KX];omega
    ·have h1:dV b (s1:Int) (i:Int)=some (.inl (((s1 ||| y:Nat):Int),((i+1:Nat):Int))):=by
      unfold dV;rw [if_pos (by rw [decide_eq_true_eq];split<;>omega),hix,Kr,hy,Kr,Kr,if_neg (by simp;omega),br (by omega),rE _ _ hs hy2]
     rw [aG]
     simp only [h1]
     exact ih (i+1) (s1 ||| y) (by omega) hor
   ·left
    have h1:dV b (s1:Int) (i:Int)=some (.inr (.inr ())):=by unfold dV;rw [if_neg (by rw [decide_eq_true_eq];split<;>omega)];rfl
    rw [aG]
    simp only [h1]
 exact key 10 0 0 (by omega) (by omega)
theorem AK {α:Type} {m:α->Nat} (hm:∀ x,1<=m x):∀ l:List α,l.length<=(l.map m).sum
 | []=>by simp
 | x::l=>by have:=hm x;have:=AK hm l;simp only [Ll,Mi,KH];omega
theorem nC {α:Type} {rd:List UInt8->Option ((α × List UInt8) ⊕ Unit)} {ok:α->Prop} {m:α->Nat} (hrd:Rd rd ok m) (hm:∀ x,1<=m x) {L:List UInt8->Option ((List α × List UInt8) ⊕ Unit)} {body:(Int × List UInt8)->Int × List UInt8 × List α->Option ((Int × List UInt8 × List α) ⊕ ((List α × List UInt8) ⊕ Unit))}
  (hL:∀ b,L b=bN (de b) (some (.inr ())) fun x2=>(if ((decide (x2.1<0)) || decide (x2.1 > ((x2.2).length:Int)))=true then (some (.inr ())) else iter (body x2) (0,x2.2,[])))
  (h1:∀ (x2:Int × List UInt8) (k:Nat) b acc,decide ((k:Int)<x2.1)=true->IntKind.i64.wrap ((k:Int)+1)=((k+1:Nat):Int)->body x2 ((k:Int),b,acc)=bN (rd b) (Option.map Sum.inr (some (.inr ()))) fun x=>Option.bind (app acc [x.1]) fun y=>some (.inl (((k+1:Nat):Int),x.2,y)))
  (h2:∀ (x2:Int × List UInt8) (k:Int) b acc,decide (k<x2.1)=false->body x2 (k,b,acc)=some (.inr (.inl (acc,b)))):Rd L (fun l=>∀ x,x∈l->ok x) (mL m):=by
 intro b hb
 rw [hL]
 rcases gD b hb with h | ⟨N,b0,h,hN,hlen⟩
 ·left;rw [h];rfl
 ·rw [h,bH]
  have hlen':1+b0.length<=b.length:=hlen
  by_cases hbad:N<0∨N > (b0.length:Int)
  ·left
   rw [if_pos (by simpa [decide_eq_true_eq] using hbad)]
  ·rw [if_neg (by simpa [decide_eq_true_eq] using hbad)]
   obtain ⟨M,rfl⟩:=LH (show 0<=N by omega)
   have key:∀ (f k:Nat) (c:List UInt8) (acc:List α),k+f=M->acc.length=k->(∀ x,x∈acc->ok x)->(acc.map m).sum+c.length<=b0.length ->
     iter (body ((M:Int),b0)) ((k:Int),c,acc)=some (.inr ())∨∃ l r,iter (body ((M:Int),b0)) ((k:Int),c,acc)=some (.inl (l,r))/\(∀ x,x∈l->ok x)/\(l.map m).sum+r.length<=b0.length:=by
    intro f
    induction f with
    | zero =>
     intro k c acc hk ha ho hs
     right
     have:k=M:=by omega
     subst this
     rw [aG,h2 _ _ c acc (by simp)]
     exact ⟨acc,c,rfl,ho,hs⟩
    | succ f ih =>
     intro k c acc hk ha ho hs
     rw [aG,h1 _ k c acc (by simp only [decide_eq_true_eq];omega) (br (by omega))]
     have:=AK hm acc
     rcases hrd c (by omega) with e | ⟨x,r,e,hx,hl⟩
     ·left;rw [e];rfl
     ·rw [e,bH,cx (by simp;omega),Kr]
      simp only
      exact ih (k+1) r (acc++[x]) (by omega) (by simp [ha]) (fun y hy=>by
       rcases KJ.1 hy with hy | hy
       ·exact ho y hy
       ·rw [LB] at hy;subst hy;exact hx) (by
       rw [Ma,List.sum_append];simp only [Ll,My,Mi,List.sum_nil];omega)
   rcases key M 0 b0 [] (by omega) rfl (fun x hx=>(Mh hx).elim) (by simp) with e | ⟨l,r,e,ho,hs⟩
   ·exact .inl e
   ·refine .inr ⟨l,r,e,ho,?_⟩
    have:mL m l=(l.map m).sum+1:=rfl
    omega
theorem HZ:Rd mj (gL gI) (mL mI) :=
 nC gD (fun _=>Kx _) (body:=fun x2 ak=>iz x2 ak.1 ak.2.1 ak.2.2) (fun b=>rfl)
  (fun x2 k b acc hd hw=>by simp only;unfold iz;rw [if_pos hd,hw]) (fun x2 k b acc hd=>by simp only;unfold iz;rw [hd];rfl)
theorem HS:Rd kr dc cy:=by
 intro b hb;unfold kr;rcases gD b hb with h | ⟨x,r,h,gx,hx⟩
 ·left;rw [h];rfl
 rw [h,bH];have hx':1+r.length<=b.length:=hx;rcases gD r (by omega) with h | ⟨y,s,h,gy,hy⟩
 ·left;simp only [h];rfl
 simp only [h,bH];have hy':1+s.length<=r.length:=hy;rcases gD s (by omega) with h | ⟨z,t,h,gz,hz⟩
 ·left;simp only [h];rfl
 simp only [h,bH];have hz':1+t.length<=s.length:=hz;exact .inr ⟨_,_,rfl,⟨gx,gy,gz⟩,by show 3+t.length<=b.length;omega⟩
theorem G2:Rd kx j5 gE:=by
 intro b hb;unfold kx;rcases gD b hb with h | ⟨x,r,h,gx,hx⟩
 ·left;rw [h];rfl
 rw [h,bH];have hx':1+r.length<=b.length:=hx;rcases gD r (by omega) with h | ⟨y,s,h,gy,hy⟩
 ·left;simp only [h];rfl
 simp only [h,bH];have hy':1+s.length<=r.length:=hy;exact .inr ⟨_,_,rfl,⟨gx,gy⟩,by show 2+s.length<=b.length;omega⟩
theorem EO:Rd kD jV gr:=by
 intro b hb;unfold kD;rcases gD b hb with h | ⟨x,r,h,gx,hx⟩
 ·left;rw [h];rfl
 rw [h,bH];have hx':1+r.length<=b.length:=hx;rcases gD r (by omega) with h | ⟨y,s,h,gy,hy⟩
 ·left;simp only [h];rfl
 simp only [h,bH];have hy':1+s.length<=r.length:=hy;exact .inr ⟨_,_,rfl,⟨gx,gy⟩,by show 2+s.length<=b.length;omega⟩
theorem FK:Rd oz (gL dc) (mL cy) :=
 nC HS (fun _=>by unfold cy;omega) (body:=fun x2 ak=>iv x2 ak.1 ak.2.1 ak.2.2) (fun b=>rfl)
  (fun x2 k b acc hd hw=>by simp only;unfold iv;rw [if_pos hd,hw]) (fun x2 k b acc hd=>by simp only;unfold iv;rw [hd];rfl)
theorem zu:Rd jg (gL dc) (mL cy):=by
 intro b hb;unfold jg;rcases FK b hb with h | ⟨x,r,h,gx,hx⟩
 ·left;rw [h];rfl
 rw [h,bH];exact .inr ⟨x,r,rfl,gx,hx⟩
theorem GG:Rd mh (gL (gL dc)) (mL (mL cy)) :=
 nC zu (fun _=>A7 _ _) (body:=fun x2 ak=>iw x2 ak.1 ak.2.1 ak.2.2) (fun b=>rfl)
  (fun x2 k b acc hd hw=>by simp only;unfold iw;rw [if_pos hd,hw]) (fun x2 k b acc hd=>by simp only;unfold iw;rw [hd];rfl)
theorem HD:Rd mf (gL j5) (mL gE) :=
 nC G2 (fun _=>by unfold gE;omega) (body:=fun x2 ak=>iu x2 ak.1 ak.2.1 ak.2.2) (fun b=>rfl)
  (fun x2 k b acc hd hw=>by simp only;unfold iu;rw [if_pos hd,hw]) (fun x2 k b acc hd=>by simp only;unfold iu;rw [hd];rfl)
theorem I3:Rd kE uf ff:=by
 intro b hb;unfold kE;rcases gD b hb with h | ⟨x,r,h,gx,hx⟩
 ·left;rw [h];rfl
 rw [h,bH];have hx':1+r.length<=b.length:=hx;rcases gD r (by omega) with h | ⟨y,s,h,gy,hy⟩
 ·left;simp only [h];rfl
 simp only [h,bH];have hy':1+s.length<=r.length:=hy;rcases HD s (by omega) with h | ⟨z,t,h,gz,hz⟩
 ·left;simp only [h];rfl
 simp only [h,bH];exact .inr ⟨_,_,rfl,⟨gx,gz,gy⟩,by show mL gE z+2+t.length<=b.length;omega⟩
theorem Hl:Rd me (gL uf) (mL ff) :=
 nC I3 (fun _=>by unfold ff;omega) (body:=fun x2 ak=>ir x2 ak.1 ak.2.1 ak.2.2) (fun b=>rfl)
  (fun x2 k b acc hd hw=>by simp only;unfold ir;rw [if_pos hd,hw]) (fun x2 k b acc hd=>by simp only;unfold ir;rw [hd];rfl)
theorem Eo:Rd mc (gL jV) (mL gr) :=
 nC EO (fun _=>by unfold gr;omega) (body:=fun x2 ak=>iq x2 ak.1 ak.2.1 ak.2.2) (fun b=>rfl)
  (fun x2 k b acc hd hw=>by simp only;unfold iq;rw [if_pos hd,hw]) (fun x2 k b acc hd=>by simp only;unfold iq;rw [hd];rfl)
theorem Je {n:Net} (items:List (List Item)) (hio:∀ x∈n.Nodes,x.In.length<=1099511627776/\x.Out.length<=1099511627776) (hsrc:cj n items=0) (b:List UInt8) (hb:b.length<=1048576) :
  fM n items b=some (noS,12)∨∃ t,fM n items b=some (t,0)/\ux t/\lz t<=1048576/\iC n items t=some (b,0):=by
 unfold fM
 rw [q4 n items hio,hsrc,Kr,if_neg (by decide)]
 rcases HZ b hb with h | ⟨x1,r1,h,g1,m1⟩
 ·left;rw [h];rfl
 rw [h,bH]
 rcases GG r1 (by omega) with h | ⟨x2,r2,h,g2,m2⟩
 ·left;simp only [h];rfl
 simp only [h,bH]
 rcases Hl r2 (by omega) with h | ⟨x3,r3,h,g3,m3⟩
 ·left;simp only [h];rfl
 simp only [h,bH]
 rcases Eo r3 (by omega) with h | ⟨x4,r4,h,g4,m4⟩
 ·left;simp only [h];rfl
 simp only [h,bH]
 rcases zu r4 (by omega) with h | ⟨x5,r5,h,g5,m5⟩
 ·left;simp only [h];rfl
 simp only [h,bH]
 have gt:ux ⟨x1,x2,x3,x4,x5⟩:=⟨g1,g2,g3,g4,g5⟩
 have mt:lz ⟨x1,x2,x3,x4,x5⟩<=1048576:=by show mL mI x1+mL (mL cy) x2+mL ff x3+mL gr x4+mL cy x5<=1048576;omega
 obtain ⟨hs,hB⟩:=EP gt mt
 have hby:=Ar items ⟨x1,x2,x3,x4,x5⟩ hio hs hB
 rw [hby,Kr]
 by_cases hc:cr n items ⟨x1,x2,x3,x4,x5⟩=0
 ·rw [if_neg (show ¬ cr n items ⟨x1,x2,x3,x4,x5⟩≠0 by simp [hc])]
  by_cases he:aZ ⟨x1,x2,x3,x4,x5⟩=b
  ·right
   rw [if_neg (by simp [he])]
   refine ⟨_,rfl,gt,mt,?_⟩
   rw [hby,if_neg (show ¬ cr n items ⟨x1,x2,x3,x4,x5⟩≠0 by simp [hc]),he]
  ·left
   rw [if_pos (by simp [he])]
   rfl
 ·left
  rw [if_pos hc,if_pos (by simp [hc])]
  rfl
def d7 (l:List Item) (s:Int):Nat:=(l.takeWhile fun x=>decide (x.Dep<=s)).length
theorem tP (l:List Item) (s:Int):d7 l s<=l.length:=(List.takeWhile_sublist _).length_le
theorem Ct (l:List Item) (s:Int) (hl:l.length<=1099511627776):ov l s=some (if d7 l s<l.length then (d7 l s:Int) else -1):=by
 unfold ov;have:=mW (σ:=Unit) l hl (fun k _=>(k:Int)) (body:=fun s1=>l8 l s s1)
  (fun k x _=>if x.Dep > s then some (.inr (k:Int)) else some (.inl ())) (fun _=>some (-1)) ()
  (fun k x _ _ _ h1 h2 h3=>by unfold l8 qS;rw [h2,h1,h3];by_cases h:x.Dep > s<;>simp [h])
  (fun _ h=>by unfold l8;rw [h];simp)
 refine Eq.trans this ?_;have key:∀ (ys:List Item) (k:Nat),dG (σ:=Unit) (fun k x _=>if x.Dep > s then some (.inr (k:Int)) else some (.inl ())) (fun _=>some (-1)) k ys ()=some (if d7 ys s<ys.length then ((k+d7 ys s:Nat):Int) else -1):=by
  intro ys;induction ys with
  | nil=>intro k;simp [dG,d7]
  | cons y ys ih =>
   intro k;unfold dG;by_cases h:y.Dep > s
   ·have h':¬ y.Dep<=s:=by omega
    simp [h,d7,h']
   ·have h':y.Dep<=s:=by omega
    rw [if_neg h];simp only;rw [ih (k+1)];have e:d7 (y::ys) s=d7 ys s+1:=by simp [d7,h']
    rw [e];by_cases hh:d7 ys s<ys.length
    ·rw [if_pos hh,if_pos (by simp;omega)];congr 1;omega
    ·rw [if_neg hh,if_neg (by simp;omega)]
 rw [key l 0];simp
def freeR (l:List Item) (s:Int):Int × Int:=if 2000<l.length then (0,2) else if s<0∨500<s then (0,3) else (d7 l s,0)
theorem DF (l:List Item) (s:Int):pw l s=some (freeR l s):=by
 unfold pw freeR;by_cases h1:2000<l.length
 ·rw [if_pos (by simp;omega),if_pos h1]
 rw [if_neg (by simp;omega),if_neg h1];by_cases h2:s<0∨500<s
 ·rw [if_pos (by simp;omega),if_pos h2]
 rw [if_neg (by simp;omega),if_neg h2,Ct l s (by omega)];have:=tP l s;by_cases h3:d7 l s<l.length
 ·simp [h3];omega
 ·simp [h3];omega
def hU (x:Item):Item:=⟨x.Key,x.Val,0⟩
def uI (l:List Item):List Item × Int:=if 2000<l.length then ([],2) else (l.map hU,0)
theorem De (l:List Item):pf l=some (uI l):=by
 unfold pf uI;by_cases h1:2000<l.length
 ·rw [if_pos (by simp;omega),if_pos h1]
 rw [if_neg (by simp;omega),if_neg h1];unfold eB;rw [cx (by simp;omega)];simp only [K9,Kr];have key:∀ (ys pre:List Item),pre.length+ys.length<=2000->∀ (x2:List Item),x2.length=pre.length+ys.length ->
   iter (fun ss:Int × List Item=>kG x2 ss.1 ss.2) ((pre.length:Int),pre++ys)=some (pre++ys.map hU,0):=by
  intro ys
  induction ys with
  | nil =>
   intro pre hp x2 hx
   rw [aG]
   unfold kG
   simp at hx
   rw [if_neg (by simp [hx])]
   simp
  | cons y ys ih =>
   intro pre hp x2 hx
   simp only [KH] at hp hx
   have e1:ixN (pre++y::ys) (pre.length:Int)=some pre.length:=eV (by simp)
   have e2:(pre++y::ys)[pre.length]?=some y:=by simp
   have e3:(pre++y::ys).set pre.length (hU y)=(pre++[hU y])++ys:=by simp [List.set_append]
   have e4:IntKind.i64.wrap ((pre.length:Int)+1)=((pre++[hU y]).length:Int):=by rw [br (by omega)];simp
   have e5:kG x2 (pre.length:Int) (pre++y::ys)=some (.inl (((pre++[hU y]).length:Int),(pre++[hU y])++ys)):=by unfold kG;rw [if_pos (by simp [hx];omega),e1,Kr,e2,Kr,e4,show (⟨y.Key,y.Val,0⟩:Item)=hU y from rfl,e3]
   rw [aG,e5]
   simp only
   have:=ih (pre++[hU y]) (by simp;omega) x2 (by simp;omega)
   rw [this]
   simp
 have:=key l [] (by simp;omega) l (by simp);simpa using this
def kv (x:Item):Int × Int:=(x.Key,x.Val)
def se (a b:List Item):Bool:=decide (a.map kv=b.map kv)
def g6 (a b:List Item):Bool:=decide (a.map kv=(b.take a.length).map kv/\a.length<=b.length)
theorem kv_eq (x y:Item):((x.Key==y.Key) && x.Val==y.Val)=decide (kv x=kv y):=by rw [LI];simp [kv]
theorem D7 (a b:List Item) (ha:a.length<=1099511627776) (hl:a.length=b.length) {body:Int->Option (Int ⊕ Bool)}
  (h1:∀ (k:Nat) x y,decide ((k:Int)<(a.length:Int))=true->idx a (k:Int)=some x->idx b (k:Int)=some y->IntKind.i64.wrap ((k:Int)+1)=((k+1:Nat):Int)->body k=if kv x=kv y then some (.inl ((k+1:Nat):Int)) else some (.inr false))
  (h2:decide ((a.length:Int)<(a.length:Int))=false->body a.length=some (.inr true)):iter body 0=some (se a b):=by
 have im:∀ (l:List Item) (k:Nat) (p:Int × Int),idx (l.map kv) (k:Int)=some p->∃ x,idx l (k:Int)=some x/\kv x=p:=by intro l k p h;unfold idx at h;rw [if_pos (by omega)] at h;simp at h;obtain ⟨x,hx,rfl⟩:=h;exact ⟨x,bu hx,rfl⟩
 have:=pg (a.map kv) (b.map kv) (by simpa using ha) (by simpa using hl) (body:=body) (fun k x y h3 h4 h5 h6=>by obtain ⟨x,h7,rfl⟩:=im a k x h4;obtain ⟨y,h8,rfl⟩:=im b k y h5;exact h1 k x y (by simpa using h3) h7 h8 h6) (fun h=>by have:=h2 (by simp);simp;exact this)
 exact this
theorem CS (a b:List Item) (ha:a.length<=1099511627776):oe a b=some (se a b):=by
 unfold oe;by_cases hl:a.length=b.length
 ·rw [if_neg (by simp;omega)];exact D7 a b ha hl (fun k x y h1 h2 h3 h4=>by
   unfold od q5;rw [h1,h2,h3,h4];simp only [Kr,if_true,kv_eq];by_cases h:kv x=kv y<;>simp [h]) (fun h=>by
   unfold od;rw [h];simp)
 ·rw [if_pos (by simp;omega)];have:a.map kv≠b.map kv:=fun e=>hl (by have:=congrArg List.length e;simp at this;exact this)
  simp [se,this]
theorem v7 (a b:List Item) (ha:a.length<=1099511627776):k0 a b=some (g6 a b):=by
 unfold k0 g6;by_cases h:a.length<=b.length
 ·rw [if_pos (by simp;omega),sub_0 h];simp only [Kr];rw [CS a _ ha];simp [se,h]
 ·rw [if_neg (by simp;omega)];simp [h]
def dZ (t l:List Item) (s:Int):List Item × Int :=
 if 2000<t.length then ([],2)
 else if (freeR l s).2≠0 then ([],(freeR l s).2)
 else if g6 t l=false/\g6 l t=false then ([],4)
 else if d7 l s<=t.length then ([],0)
 else (((l.take (d7 l s)).drop t.length).map hU,0)
theorem G4 {l:List Item} {s:Int} (h:(freeR l s).2=0):l.length<=2000/\(freeR l s).1=d7 l s:=by
 unfold freeR at h ⊢;split at h
 ·simp at h
 ·split at h
  ·simp at h
  ·rename_i h1 h2;rw [if_neg h1,if_neg h2];exact ⟨by omega,rfl⟩
theorem Dd (t l:List Item) (s:Int):pb t l s=some (dZ t l s):=by
 unfold pb dZ;by_cases h1:2000<t.length
 ·rw [if_pos (by simp;omega),if_pos h1]
 rw [if_neg (by simp;omega),if_neg h1,DF];simp only [Kr];by_cases h2:(freeR l s).2≠0
 ·rw [if_pos (by simpa using h2),if_pos h2]
 have h2':(freeR l s).2=0:=by simpa using h2
 obtain ⟨h3,h4⟩:=G4 h2';rw [if_neg (by simp [h2']),if_neg h2,v7 t l (by omega)];simp only [Kr];have hc:(if (!g6 t l)=true then (k0 l t).bind fun x4=>some (!x4) else some false)=some (!g6 t l && !g6 l t):=by rw [v7 l t (by omega)];cases g6 t l<;>simp
 rw [hc];simp only [Kr];by_cases h5:g6 t l=false/\g6 l t=false
 ·rw [if_pos (by simp [h5]),if_pos h5]
 rw [if_neg (by simpa using h5),if_neg h5,h4];by_cases h6:d7 l s<=t.length
 ·rw [if_pos (by simp;omega),if_pos h6]
 rw [if_neg (by simp;omega),if_neg h6];have h7:=tP l s;rw [nF (by omega) h7];simp only [Kr];rw [De];have:¬ 2000<min (d7 l s) l.length - t.length:=by omega
 simp [uI,this]
section
structure Mach (I M T:Type) where
 key:I->Int
 step:Nat->M->I->M × I
 stamp:T->I->I
 tick:T->Nat->Nat->T
 src:Nat->List I
structure MSt (I M T:Type) where
 pos:Nat->Nat
 rg:Nat->List I
 mm:Nat->M
 out:List I
 tr:T
def upd {α:Type} (f:Nat->α) (i:Nat) (a:α):Nat->α:=fun j=>if j=i then a else f j
section
variable {I M T:Type} (E:Mach I M T) (n:Net) (room:Option Nat)
def hdM (c:MSt I M T) (m:Nat × Nat):Option I:=if (ah n m.1).Kind=1 then (E.src (ah n m.1).A.toNat)[c.pos (ah n m.1).A.toNat]? else (c.rg (cP (ah n m.1) m.2)).head?
def inM (c:MSt I M T) (m:Nat × Nat) (x:I):I:=if (ah n m.1).Kind=6 then E.stamp c.tr x else x
def mkM (c:MSt I M T) (m:Nat × Nat) (x:I):M × I:=E.step m.1 (c.mm m.1) (inM E n c m x)
def toM (m:Nat × Nat) (x:I):List Int:=cc (ah n m.1) (E.key x)
def goM (c:MSt I M T) (m:Nat × Nat) (x:I):MSt I M T where
 pos:=if (ah n m.1).Kind=1 then upd c.pos (ah n m.1).A.toNat (c.pos (ah n m.1).A.toNat+1) else c.pos
 rg:=fun r=>(if (ah n m.1).Kind≠1/\r=cP (ah n m.1) m.2 then (c.rg r).tail else c.rg r)++if (r:Int)∈toM E n m x then [(mkM E n c m x).2] else []
 mm:=upd c.mm m.1 (mkM E n c m x).1
 out:=if (ah n m.1).Kind=8 then c.out++[(mkM E n c m x).2] else c.out
 tr:=if (ah n m.1).Kind=6 then E.tick c.tr m.1 m.2 else c.tr
def okMv (m:Nat × Nat):Prop:=m.1<n.Nodes.length/\m.2<bF (ah n m.1)
def fitM (c:MSt I M T) (l:List Int):Prop:=∀ R,room=some R->∀ r,r∈l->(c.rg r.toNat).length<R
def Ex (c:MSt I M T) (m:Nat × Nat) (c':MSt I M T):Prop:=okMv n m/\∃ x,hdM E n c m=some x/\fitM room c (toM E n m x)/\c'=goM E n c m x
inductive Run:MSt I M T->List (Nat × Nat)->MSt I M T->Prop
 | nil (c):Run c [] c
 | cons {c c1 d m w} (h:Ex E n room c m c1) (t:Run c1 w d):Run c (m::w) d
variable {E n room}
theorem Ex.det {c c1 c2:MSt I M T} {m:Nat × Nat} (h:Ex E n room c m c1) (h':Ex E n room c m c2):c1=c2:=by obtain ⟨_,x,h1,_,rfl⟩:=h;obtain ⟨_,y,h2,_,rfl⟩:=h';rw [h1] at h2;cases h2;rfl
theorem Run.det {c c1 c2:MSt I M T} {w:List (Nat × Nat)} (h:Run E n room c w c1) (h':Run E n room c w c2):c1=c2:=by
 induction h with
 | nil c=>cases h';rfl
 | cons h t ih=>cases h' with | cons h2 t2=>rw [h.det h2] at ih;exact ih t2
theorem Run.app {c c1 d:MSt I M T} {u w:List (Nat × Nat)} (h:Run E n room c u c1) (h':Run E n room c1 w d):Run E n room c (u++w) d:=by
 induction h with
 | nil c=>exact h'
 | cons h t ih=>exact .cons h (ih h')
theorem Run.split {c d:MSt I M T}:∀ {u w:List (Nat × Nat)},Run E n room c (u++w) d->∃ c1,Run E n room c u c1/\Run E n room c1 w d:=by
 intro u;induction u generalizing c with
 | nil=>intro w h;exact ⟨c,.nil c,h⟩
 | cons m u ih =>
  intro w h;cases h with
  | cons h t =>
   obtain ⟨c1,h1,h2⟩:=ih t;exact ⟨c1,.cons h h1,h2⟩
theorem Ex.free {c c1:MSt I M T} {m:Nat × Nat} (h:Ex E n room c m c1):Ex E n none c m c1:=by obtain ⟨h0,x,h1,_,h3⟩:=h;exact ⟨h0,x,h1,fun R hR=>(by cases hR),h3⟩
theorem Run.free {c d:MSt I M T} {w:List (Nat × Nat)} (h:Run E n room c w d):Run E n none c w d:=by
 induction h with
 | nil c=>exact .nil c
 | cons h t ih=>exact .cons h.free ih
abbrev SrcN (n:Net):Prop:=∀ i j,i<n.Nodes.length->j<n.Nodes.length->(ah n i).Kind=1->(ah n j).Kind=1->(ah n i).A.toNat=(ah n j).A.toNat->i=j
section
variable (hR:RightN n) (hsrc:SrcN n) (htk:∀ t i k,E.tick t i k=t)
include hR hsrc htk
omit hR hsrc htk in
end
end
end
section
section
variable {n:Net} {items:List (List Item)} {B:Int} {s:State}
def zW (l:List Choice) (i:Nat):List Int:=(l.filter fun c=>decide (c.Node=(i:Int))).map Choice.Lane
end
end
section
def chE (n:Net) (_:Nat) (c:Choice):Option Int :=
 if c.Node<0∨c.Node >= (n.Nodes.length:Int)∨(ah n c.Node.toNat).Kind≠6 then some 5
 else if c.Lane<0∨c.Lane >= ((ah n c.Node.toNat).In.length:Int) then some 3 else none
def d5 (n:Net) (l:List Choice):Int :=
 if (netR n).2≠0 then (netR n).2 else if 500<l.length then 2 else (eW (chE n) 0 l).getD 0
theorem Hj (n:Net) (c:Choice) (k:Nat) (z:Int) :
  (Option.bind (if (decide (c.Node<0))=true then (some true) else (if (decide (c.Node >= ((n.Nodes).length:Int)))=true then (some true) else (Option.bind (idx n.Nodes c.Node) fun x6=>(some (x6.Kind != 6))))) fun c7=>(if c7=true then (Option.map Sum.inr (some (5:Int))) else (Option.bind (if (decide (c.Lane<0))=true then (some true) else (Option.bind (idx n.Nodes c.Node) fun x8=>(some (decide (c.Lane >= ((x8.In).length:Int)))))) fun c9=>(if c9=true then (Option.map Sum.inr (some 3)) else (some (.inl z))))))
  = match chE n k c with | some r=>some (.inr r) | none=>some (.inl z:Int ⊕ Int):=by
 by_cases h0:c.Node<0
 ·have e:chE n k c=some 5:=by unfold chE;rw [if_pos (.inl h0)]
  rw [e,if_pos (show decide (c.Node<0)=true by simpa using h0)];rfl
 rw [if_neg (show ¬ decide (c.Node<0)=true by simpa using h0)]
 by_cases h1:c.Node >= (n.Nodes.length:Int)
 ·have e:chE n k c=some 5:=by unfold chE;rw [if_pos (.inr (.inl h1))]
  rw [e,if_pos (show decide (c.Node >= (n.Nodes.length:Int))=true by simpa using h1)];rfl
 rw [if_neg (show ¬ decide (c.Node >= (n.Nodes.length:Int))=true by simpa using h1)]
 have hi:idx n.Nodes c.Node=some (ah n c.Node.toNat):=idx_D _ (by omega) (by omega)
 rw [hi,Kr,Kr]
 by_cases h6:(ah n c.Node.toNat).Kind=6
 ·have hn:¬ (c.Node<0∨c.Node >= (n.Nodes.length:Int)∨(ah n c.Node.toNat).Kind≠6):=fun h=>h.elim h0 fun h=>h.elim h1 fun h=>h h6
  rw [if_neg (show ¬ ((ah n c.Node.toNat).Kind != 6)=true by simp [h6])]
  by_cases h2:c.Lane<0
  ·have e:chE n k c=some 3:=by unfold chE;rw [if_neg hn,if_pos (.inl h2)]
   rw [e,if_pos (show decide (c.Lane<0)=true by simpa using h2)];rfl
  ·rw [if_neg (show ¬ decide (c.Lane<0)=true by simpa using h2),Kr,Kr]
   by_cases h3:c.Lane >= ((ah n c.Node.toNat).In.length:Int)
   ·have e:chE n k c=some 3:=by unfold chE;rw [if_neg hn,if_pos (.inr h3)]
    rw [e,if_pos (show decide (c.Lane >= ((ah n c.Node.toNat).In.length:Int))=true by simpa using h3)];rfl
   ·have e:chE n k c=none:=by unfold chE;rw [if_neg hn,if_neg (fun h=>h.elim h2 h3)]
    rw [e,if_neg (show ¬ decide (c.Lane >= ((ah n c.Node.toNat).In.length:Int))=true by simpa using h3)]
 ·have e:chE n k c=some 5:=by unfold chE;rw [if_pos (.inr (.inr h6))]
  rw [e,if_pos (show ((ah n c.Node.toNat).Kind != 6)=true by simpa using h6)];rfl
section
variable (n:Net) (hio:∀ x∈n.Nodes,x.In.length≤1099511627776∧x.Out.length≤1099511627776)
include hio
theorem Dc (l:List Choice):mV n l=some (d5 n l):=by
 unfold mV d5;rw [wj n hio,Kr];by_cases h:(netR n).2=0
 ·rw [if_neg (show ¬ ((netR n).2 != 0)=true by simp [h]),if_neg (show ¬ (netR n).2≠0 by simp [h])];by_cases h5:500<l.length
  ·rw [if_pos (show decide ((l.length:Int) > 500)=true by simp;omega),if_pos h5]
  ·rw [if_neg (show ¬ decide ((l.length:Int) > 500)=true by simp;omega),if_neg h5];rw [pF l (by omega) (chE n) (some 0) (fun k x hx hk e1 e2 e3=>by
    unfold oW;rw [e2,e1,e3];simp only [if_true,Kr];rw [Hj n x k];cases chE n k x<;>rfl) (fun e=>by unfold oW;rw [e];rfl)]
   exact xe _ _
 ·rw [if_pos (by simpa using h),if_pos h]
end
structure RightC (n:Net) (l:List Choice):Prop where
 net:(netR n).2=0
 len:l.length<=500
 each:∀ c,c∈l->0<=c.Node/\c.Node<n.Nodes.length/\(ah n c.Node.toNat).Kind=6/\0<=c.Lane/\c.Lane<(ah n c.Node.toNat).In.length
theorem ye {n:Net} {l:List Choice} (h:RightC n l):d5 n l=0:=by
 unfold d5;rw [if_neg (by simp [h.net]),if_neg (by have:=h.len;omega)];have:eW (chE n) 0 l=none:=kY.2 fun j x hx=>by obtain ⟨a,b,c,d,e⟩:=h.each x (Ku hx);unfold chE;rw [if_neg (by omega),if_neg (by omega)]
 rw [this];rfl
theorem Fh {α:Type} {l:List α} {k:Nat} {x:α} (h:l[k]?=some x):l.take (k+1)=l.take k++[x]:=by rw [List.take_add_one,h];rfl
section
variable (n:Net) (hio:∀ x∈n.Nodes,x.In.length≤1099511627776∧x.Out.length≤1099511627776)
include hio
omit hio in
end
def begN (n:Net) (a b:List Choice):Prop:=∀ i,i<n.Nodes.length->zW a i <+: zW b i
noncomputable instance (n:Net) (a b:List Choice):Decidable (begN n a b):=Classical.propDecidable _
section
variable (n:Net) (hio:∀ x∈n.Nodes,x.In.length≤1099511627776∧x.Out.length≤1099511627776)
include hio
end
end
end Go.Proofs.YtnlmagdmmjkklaaGreat
