/-
  Part 6 of the proof of shopRunLaw.proved: the code computes these functions, and the law holds of them, with no condition beyond the statement's own; put together by a program of ours (wip/decl.py) out of texts of ours.
-/
import Derived.Test.YtnlmagdmmjkklaaGreatZShopRun5
set_option linter.unusedVariables false
set_option linter.unusedSimpArgs false
namespace Go.Proofs.YtnlmagdmmjkklaaGreat
section
def bZ(l:List UInt8):List Int:=l.map λb=>(b.toNat:Int)
theorem OA (l:U UInt8):cq (bZ l)=l:=by
 unfold cq bZ;rw[Sp];have:(λn:Int=>UInt8.ofNat n.toNat)∘(λb:UInt8=>(b.toNat:Int))=id:=by funext b;simp
 simp_all
theorem NH (l:U UInt8)(h:l≠[]):sI (bZ l)=some l:=by
 unfold sI bldS;rw[if_pos ⟨by simp_all[bZ],λx hx=>by obtain⟨b,_,rfl⟩:=Rs.1 hx;have:=b.toNat_lt;omega⟩,OA]
theorem BR (acc:U UInt8)(n:Nat)(h:acc.length+1<=1099511627776)(hn:n<256):oJ (n:Int) (bZ acc)=some ((),bZ (acc++[UInt8.ofNat n])):=by simp_all[oJ,xr,bT,bZ,RT]
theorem MY:∀x:Fin 256,ibits .or .u8 (x.val:Int) 128=((x.val% 128+128:Nat):Int):=by decide+kernel
theorem shr7 (u:Nat):shr .u64 (u:Int) 7=some ((u/ 128:Nat):Int):=by unfold shr;rw[if_pos (by omega)];show some ((u:Int).fdiv 128)=_;grind
theorem ME:∀(f u:Nat) (acc:U UInt8),u<128 ^ (f+1)->acc.length+f+1<=1099511627776 ->
  iter (λcZ:Int×(U Int)=>k7 cZ.1 cZ.2) ((u:Int),bZ acc)=some (bZ (acc++vb f u)):=by
 have stop:∀(u:Nat) (acc:U UInt8),u<128->acc.length+1<=1099511627776->k7 (u:Int) (bZ acc)=some (.inr (bZ (acc++[UInt8.ofNat u]))):=λu acc hu ha=>by unfold k7;rw[if_neg (by simp;omega),wO,RT (by omega),BR acc u ha (by omega)];rfl
 intro f
 induction f with
 |zero=>
  intro u acc hu ha
  rw[aF,stop u acc (by omega) (by omega)]
  rfl
 | succ f ih=>
  intro u acc hu ha
  by_cases h:u<128
  .rw[aF,stop u acc h (by omega)]
   simp only[vb,if_pos h]
  .have hb:ibits .or .u8 (IntKind.u8.wrap (u:Int)) 128=((u% 128+128:Nat):Int):=by
    rw[wO,MY ⟨u% 256,by omega⟩];simp
   have hq:u/ 128<128 ^ (f+1):=by omega
   have h1:k7 (u:Int) (bZ acc)=some (.inl (((u/ 128:Nat):Int),bZ (acc++[UInt8.ofNat (u% 128+128)]))):=by unfold k7;rw[if_pos (by simp;omega),hb,BR acc _ (by omega) (by omega),QB,shr7];rfl
   rw[aF,h1]
   simp only
   rw[ih _ _ hq (by simp;omega)]
   simp_all[vb,if_neg]
theorem tv (n:Int):IntKind.u64.wrap n=n% 18446744073709551616:=by rfl
theorem M2 (n:Int)(h:gI n):∃a b,shl .u64 (IntKind.u64.wrap n) 1=some a/\shr .i64 n 63=some b/\ibits .xor .u64 a (IntKind.u64.wrap b)=(zz n:Int):=by
 unfold gI at h;refine⟨(n% 18446744073709551616*2)% 18446744073709551616,n.fdiv 9223372036854775808,by rfl,by rfl,?_⟩;have key:∀(x:Nat) (hx:x<18446744073709551616) (y:Int),ibits .xor .u64 (x:Int) y=((BitVec.ofNat 64 x ^^^ BitVec.ofInt 64 y).toNat:Int):=λx hx y=>by unfold ibits;simp only[IntKind.bits];rw[tv,BitVec.ofInt_natCast];have:(BitVec.ofNat 64 x ^^^ BitVec.ofInt 64 y).toNat<18446744073709551616:=(BitVec.ofNat 64 x ^^^ BitVec.ofInt 64 y).isLt;exact Int.emod_eq_of_lt (by omega) (Int.ofNat_lt.2 this)
 by_cases h0:0<=n
 .have e1:n.fdiv 9223372036854775808=0:=by grind
  have e2:(n% 18446744073709551616*2)% 18446744073709551616=((2*n.toNat:Nat):Int):=by omega
  rw[e1,e2,tv,key _ (by omega)];have:BitVec.ofInt 64 (0% 18446744073709551616)=0#64:=by decide
  rw[this,BitVec.xor_zero,BitVec.toNat_ofNat,RT (by omega)];unfold zz;grind
 .have e1:n.fdiv 9223372036854775808= -1:=by grind
  have e2:(n% 18446744073709551616*2)% 18446744073709551616=((2*(n+9223372036854775808).toNat:Nat):Int):=by omega
  rw[e1,e2,tv,key _ (by omega)];have:BitVec.ofInt 64 (-1% 18446744073709551616)=BitVec.allOnes 64:=by decide
  rw[this,BitVec.xor_allOnes,BitVec.toNat_not,BitVec.toNat_ofNat,RT (by omega)];unfold zz;grind
theorem fh (n:Int)(h:gI n)(acc:U UInt8)(ha:acc.length+(num n).length<=1099511627776- 20):dK n (bZ acc)=some (bZ (acc++num n)):=by obtain⟨a,b,h1,h2,h3⟩:=M2 n h;unfold dK;rw[h1,QB,h2,QB,h3];exact ME 9 _ acc (Rz (zz_lt h) (by decide)) (by omega)
section
variable {α ρ:Type}{body:Int×U Int->Qbm ((Int×U Int)⊕ρ)}
theorem Eb (xs:U α)(hx:xs.length<=1099511627776)(e:α->U UInt8)(fin:U UInt8->Qbm ρ)(B:Nat)(h1:∀(k:Nat) x acc,xs[k]?=some x->acc.length+(e x).length<=B->idx xs (k:Int)=some x->decide ((k:Int)<(xs.length:Int))=true->IntKind.i64.wrap ((k:Int)+1)=((k+1:Nat):Int)->body ((k:Int),bZ acc)=some (.inl (((k+1:Nat):Int),bZ (acc++e x))))(h2:∀acc,acc≠[]->acc.length<=B->decide ((xs.length:Int)<(xs.length:Int))=false->body ((xs.length:Int),bZ acc)=(fin acc).map .inr):
  ∀(n k:Nat) acc,acc≠[]->k+n=xs.length->acc.length+((xs.drop k).flatMap e).length<=B->iter body ((k:Int),bZ acc)=fin (acc++(xs.drop k).flatMap e)
 |0,k,acc,hne,h,hB=>by
  have hk:k=xs.length:=by omega
  subst hk;rw[aF,h2 acc hne (by omega) (by simp),RB];simp only[List.flatMap_nil,RV];cases fin acc<;>rfl
 |n+1,k,acc,hne,h,hB=>by
  have hlt:k<xs.length:=by omega
  have hg:xs[k]?=some xs[k]:=QC hlt;rw[QG hlt,RX,QO]at hB;rw[aF,h1 k xs[k] acc hg (by omega) (bj hg) (by simp;omega) (bc (by omega)),QG hlt,RX,<- Rc];exact Eb xs hx e fin B h1 h2 n (k+1) _ (by simp[hne]) (by omega) (by grind)
theorem pS (xs:U α)(hx:xs.length<=1099511627776)(e:α->U UInt8)(fin:U UInt8->Qbm ρ)(B:Nat)(acc:U UInt8)(h1:∀(k:Nat) x acc,xs[k]?=some x->acc.length+(e x).length<=B->idx xs (k:Int)=some x->decide ((k:Int)<(xs.length:Int))=true->IntKind.i64.wrap ((k:Int)+1)=((k+1:Nat):Int)->body ((k:Int),bZ acc)=some (.inl (((k+1:Nat):Int),bZ (acc++e x))))(h2:∀acc,acc≠[]->acc.length<=B->decide ((xs.length:Int)<(xs.length:Int))=false->body ((xs.length:Int),bZ acc)=(fin acc).map .inr)(hne:acc≠[])(hB:acc.length+(xs.flatMap e).length<=B):iter body (0,bZ acc)=fin (acc++xs.flatMap e):=by
 have:=Eb xs hx e fin B h1 h2 xs.length 0 acc hne (by omega) (by grind)
 grind
abbrev BB:Nat:=1099511627776- 20
theorem ol {l:U α}(h:l.length<=1099511627776):gI (l.length:Int):=by unfold gI;omega
theorem qu (a:U UInt8)(x:Int):a++num x≠[]:=λh=>by have:=(gh x).2;simp_all
theorem Dd (l:U Item)(hl:short dW l)(acc:U UInt8)(ha:acc.length+(lst bR l).length<=BB):mG l (bZ acc)=some (bZ (acc++lst bR l)):=by
 unfold lst at ha ⊢;rw[QO]at ha;unfold mG;rw[fh _ (ol hl.1) acc (by grind),QB,<- Rc];exact pS l hl.1 bR (λa=>some (bZ a)) BB (acc++num (l.length:Int)) (λk x acc hx hc hi hd hw=>by
  have hg:=hl.2 x (QE hx);unfold bR BB at hc;simp only[QO]at hc;unfold rn;rw[if_pos hd,hi,QB,fh _ hg.1 acc (by omega),QB,fh _ hg.2.1 _ (by grind),QB,fh _ hg.2.2 _ (by grind),QB,hw];simp[bR]) (λacc _ _ hd=>by
  simp[rn]) (qu _ _) (by grind)
theorem I7 (n:Net)(items:U (U Item))(s:State)(hs:ob s)(hB:(bI s).length<=BB):
  (Option.bind (dK ((s.At).length:Int) ([]:U Int)) λx4=>(iter (λeH:Int×(U Int)=>pm s eH.1 eH.2) (0,x4)))=some (bI s,0):=by
 obtain⟨h1,h2,h3,h4,h5⟩:=hs
 have hn0:=fh _ (ol h1.1) [] (by unfold bI lst at hB;grind)
 rw[show bZ []=([]:U Int)from J]at hn0
 rw[hn0,QB,R6]
 generalize hb1:num (s.At.length:Int)=b1
 have e5:∀a:U UInt8,a.length+(lst bR s.Out).length<=BB->a≠[]->(Option.bind (mG s.Out (bZ a)) λx46=>(Option.bind (sI x46) λx48=>(some (x48,(0:Int)))))=some (a++lst bR s.Out,0):=λa ha hne=>by rw[Dd _ h5 a ha,QB,NH _ (by simp[hne]),QB]
 have e4:∀a:U UInt8,a.length+(lst dj s.Choices).length+(lst bR s.Out).length<=BB->(Option.bind (dK ((s.Choices).length:Int) (bZ a)) λx37=>(iter (λiU:Int×(U Int)=>pr s iU.1 iU.2) (0,x37)))=some (a++(lst dj s.Choices++lst bR s.Out),0):=λa ha=>by
  rw[show lst dj s.Choices=num (s.Choices.length:Int)++s.Choices.flatMap dj from J,QO]at ha;rw[fh _ (ol h4.1) a (by grind),QB];rw[pS s.Choices h4.1 dj (λb=>some (b++lst bR s.Out,(0:Int))) (BB- (lst bR s.Out).length) (a++num (s.Choices.length:Int)) (λk x acc hx hc hi hd hw=>by
   have hg:=h4.2 x (QE hx);unfold dj BB at hc;simp only[QO]at hc;unfold pr;rw[if_pos hd,hi,QB,fh _ hg.1 acc (by omega),QB,fh _ hg.2 _ (by grind),QB,hw];simp[dj]) (λacc hne hac hd=>by
   unfold pr;grind) (qu _ _) (by grind)]
  simp[lst]
 have e3:∀a:U UInt8,a.length+(lst dY s.Memory).length+((lst dj s.Choices).length+(lst bR s.Out).length)<=BB->(Option.bind (dK ((s.Memory).length:Int) (bZ a)) λx18=>(iter (λeE:Int×(U Int)=>po s eE.1 eE.2) (0,x18)))=some (a++(lst dY s.Memory++(lst dj s.Choices++lst bR s.Out)),0):=λa ha=>by
  rw[show lst dY s.Memory=num (s.Memory.length:Int)++s.Memory.flatMap dY from J,QO]at ha;rw[fh _ (ol h3.1) a (by grind),QB];rw[pS s.Memory h3.1 dY (λb=>some (b++(lst dj s.Choices++lst bR s.Out),(0:Int))) (BB- ((lst dj s.Choices).length+(lst bR s.Out).length)) (a++num (s.Memory.length:Int)) (λk x acc hx hc hi hd hw=>by
   obtain⟨g1,g2,g3⟩:=h3.2 x (QE hx);unfold dY lst BB at hc;simp only[QO]at hc;unfold po;rw[if_pos hd,hi,QB,fh _ g1 acc (by omega),QB,fh _ g2 _ (by simp_all<;>omega),QB,fh _ (ol g3.1) _ (by simp_all<;>omega),QB];rw[pS x.Keys g3.1 ia (λb=>some (.inl (((k+1:Nat):Int),bZ b))) BB _ (λk2 y acc hy hc hi hd hw=>by
    have hg:=g3.2 y (QE hy);unfold ia BB at hc;simp only[QO]at hc;unfold sj;rw[if_pos hd,hi,QB,fh _ hg.1 acc (by omega),QB,fh _ hg.2 _ (by grind),QB,hw];simp[ia]) (λacc _ _ hd=>by
    simp_all[sj]) (qu _ _) (by unfold BB;simp_all<;>omega)]
   simp[dY,lst]) (λacc hne hac hd=>by
   unfold po;rw[hd,if_neg (by simp),e4 acc (by omega)]) (qu _ _) (by simp_all<;>omega)]
  simp[lst]
 have e2:∀a:U UInt8,a.length+(lst (lst bR) s.Rings).length+((lst dY s.Memory).length+((lst dj s.Choices).length+(lst bR s.Out).length))<=BB->(Option.bind (dK ((s.Rings).length:Int) (bZ a)) λx11=>(iter (λgY:Int×(U Int)=>pq s gY.1 gY.2) (0,x11)))=some (a++(lst (lst bR) s.Rings++(lst dY s.Memory++(lst dj s.Choices++lst bR s.Out))),0):=λa ha=>by
  rw[show lst (lst bR) s.Rings=num (s.Rings.length:Int)++s.Rings.flatMap (lst bR)from J,QO]at ha;rw[fh _ (ol h2.1) a (by grind),QB];rw[pS s.Rings h2.1 (lst bR) (λb=>some (b++(lst dY s.Memory++(lst dj s.Choices++lst bR s.Out)),(0:Int))) (BB- ((lst dY s.Memory).length+((lst dj s.Choices).length+(lst bR s.Out).length))) (a++num (s.Rings.length:Int)) (λk x acc hx hc hi hd hw=>by
   have hg:=h2.2 x (QE hx);unfold pq;rw[if_pos hd,hi,QB,Dd _ hg acc (by omega),QB,hw]) (λacc hne hac hd=>by
   unfold pq;rw[hd,if_neg (by simp),e3 acc (by omega)]) (qu _ _) (by simp_all<;>omega)]
  simp[lst]
 unfold bI at hB
 rw[show lst num s.At=num (s.At.length:Int)++s.At.flatMap num from J,hb1]at hB
 simp only[QO]at hB
 rw[pS s.At h1.1 num (λb=>some (b++(lst (lst bR) s.Rings++(lst dY s.Memory++(lst dj s.Choices++lst bR s.Out))),(0:Int))) (BB- ((lst (lst bR) s.Rings).length+((lst dY s.Memory).length+((lst dj s.Choices).length+(lst bR s.Out).length)))) b1 (λk x acc hx hc hi hd hw=>by
  have hg:=h1.2 x (QE hx);unfold BB at hc;unfold pm;rw[if_pos hd,hi,QB,fh _ hg acc (by omega),QB,hw]) (λacc hne hac hd=>by
  unfold pm;rw[hd,if_neg (by simp),e2 acc (by omega)]) (by grind[qu]) (by omega)]
 simp_all[bI,lst]
theorem Ed (n:Net)(items:U (U Item))(s:State)(hs:ob s)(hB:(bI s).length<=BB):
  iA n items s=Option.bind (iC n items s) λx2=>(if(x2 !=0)=true then(some ([],x2))else some (bI s,0)):=by
 unfold iA
 rw[I7 n items s hs hB]
end
end
noncomputable section
theorem Dx:∀x:Fin 256,ibits .and .u8 (x.val:Int) 127=((x.val% 128:Nat):Int):=by decide+kernel
theorem KD (a:Nat)(ha:a<18446744073709551616):(BitVec.ofInt 64 (a:Int)).toNat=a:=by grind
theorem u64_in (a:Nat)(ha:a<18446744073709551616):IntKind.u64.wrap (a:Int)=(a:Int):=by rw[tv];omega
theorem vY (a b:Nat)(ha:a<18446744073709551616)(hb:b<18446744073709551616):ibits .or .u64 (a:Int) (b:Int)=((a ||| b:Nat):Int):=by
 have hx:a ||| b<2 ^ 64:=Nat.or_lt_two_pow (by omega) (by omega)
 show IntKind.u64.wrap ((BitVec.ofInt 64 (a:Int) ||| BitVec.ofInt 64 (b:Int)).toNat:Int)=_;grind[u64_in]
theorem Jy (a:Nat)(ha:a<18446744073709551616):ibits .and .u64 (a:Int) 1=((a% 2:Nat):Int):=by have hx:a &&& 1<2 ^ 64:=Nat.lt_of_le_of_lt Nat.and_le_left (by omega);show IntKind.u64.wrap ((BitVec.ofInt 64 (a:Int) &&& BitVec.ofInt 64 ((1:Nat):Int)).toNat:Int)=_;grind[u64_in]
theorem FW (i s c:Nat)(h:s<2 ^ i):s ||| c*2 ^ i=s+c*2 ^ i:=by grind[Nat.mul_comm,Nat.two_pow_add_eq_or_of_lt]
def decZ(v:Int):Option Int:=Option.bind (shr .u64 v 1) λx=>some (ibits .xor .i64 (IntKind.i64.wrap x) (IntKind.i64.wrap (0- (IntKind.i64.wrap (ibits .and .u64 v 1)))))
theorem Oc (c:Nat)(h:9223372036854775808<=c)(h2:c<18446744073709551616):IntKind.i64.wrap (c:Int)=(c:Int)- 18446744073709551616:=by grind[IntKind.wrap,IntKind.signed,IntKind.bits]
theorem MR (n:Int)(h:gI n):decZ (zz n:Int)=some n:=by
 have hz:=zz_lt h;unfold decZ;have h1:shr .u64 (zz n:Int) 1=some ((zz n/ 2:Nat):Int):=by unfold shr;rw[if_pos (by omega)];show some ((zz n:Int).fdiv 2)=_;grind
 rw[h1,QB,Jy _ hz,tJ (by omega),tJ (by omega)];unfold gI at h;by_cases h0:0<=n
 .have e:zz n=2*n.toNat:=by unfold zz;grind
  rw[e,show 2*n.toNat/ 2=n.toNat by omega,show 2*n.toNat% 2=0 by omega];rw[show IntKind.i64.wrap (0- ((0:Nat):Int))=((0:Nat):Int) by decide,yk _ _ (by omega) (by omega),Nat.xor_zero];grind
 .have e:zz n=2*(-n- 1).toNat+1:=by unfold zz;grind
  rw[e,show(2*(-n- 1).toNat+1)/ 2=(-n- 1).toNat by omega,show(2*(-n- 1).toNat+1)% 2=1 by omega];rw[show IntKind.i64.wrap (0- ((1:Nat):Int))= -1 by decide];congr 1;show IntKind.i64.wrap ((BitVec.ofInt 64 (((-n- 1).toNat:Nat):Int) ^^^ BitVec.ofInt 64 (-1)).toNat:Int)=n;rw[show BitVec.ofInt 64 (-1)=BitVec.allOnes 64 by decide,BitVec.xor_allOnes,BitVec.toNat_not,KD _ (by omega)];grind[Oc]
theorem FJ (pre:U UInt8)(b:UInt8)(t:U UInt8):idx (pre++b::t) (pre.length:Int)=some b:=bj (by simp)
theorem L7:∀(f u i s1:Nat) (pre r:U UInt8),pre.length=i->i+f=9->u<128 ^ (f+1)->s1<2 ^ (7*i)->s1+u*2 ^ (7*i)<18446744073709551616 ->
  iter (λam:Int×Int=>eT (pre++(vb f u++r)) am.1 am.2) ((s1:Int),(i:Int))=Option.bind (decZ ((s1+u*2 ^ (7*i):Nat):Int)) λn=>some (.inl (n,r)):=by
 have hd:∀(i:Nat) (pre t:U UInt8) (b:UInt8),pre.length=i->i<10->decide ((i:Int)<(if((pre++b::t).length:Int)<10 then((pre++b::t).length:Int)else 10))=true:=λi pre t b hp hi=>by grind
 have hp2:∀i:Nat,0<2 ^ (7*i):=λi=>Nat.pow_pos (by omega)
 have hx6:∀(i c s1 u:Nat),i<=9->c<128->c<=u->s1+u*2 ^ (7*i)<18446744073709551616->shl .u64 (IntKind.u64.wrap (c:Int)) (IntKind.i64.wrap (7*(i:Int)))=some ((c*2 ^ (7*i):Nat):Int):=λi c s1 u hi hc hu h=>by
  have hle:c*2 ^ (7*i)<=u*2 ^ (7*i):=QP _ hu;rw[u64_in _ (by omega),bq (by omega) (by omega)];unfold shl;rw[if_pos (by omega)];have e1:min (7*(i:Int)).toNat IntKind.u64.bits=7*i:=by show min (7*(i:Int)).toNat 64=7*i;omega
  rw[e1];have e2:(c:Int)*2 ^ (7*i)=((c*2 ^ (7*i):Nat):Int):=by rfl
  rw[e2,u64_in _ (by omega)]
 have stop:∀(u i s1:Nat) (pre r:U UInt8),pre.length=i->i<=9->u<128->s1<2 ^ (7*i)->s1+u*2 ^ (7*i)<18446744073709551616 ->
   eT (pre++(UInt8.ofNat u::r)) (s1:Int) (i:Int)=Option.map Sum.inr (Option.bind (decZ ((s1+u*2 ^ (7*i):Nat):Int)) λn=>some (.inl (n,r))):=λu i s1 pre r hp hi hu hs hv=>by
  subst hp
  have hb:(UInt8.ofNat u).toNat=u:=by simp;omega
  unfold eT
  rw[if_pos (hd _ pre r _ J (by omega)),FJ,QB,hb,Dx ⟨u,by omega⟩]
  simp only
  rw[RT hu,hx6 _ u s1 u hi hu (QJ _) hv,QB,QB,hb,if_pos (by simp;omega),bc (by omega)]
  have hsub:sub (pre++(UInt8.ofNat u::r)) ((pre.length+1:Nat):Int) ((pre++(UInt8.ofNat u::r)).length:Int)=some r:=by rw[jx (by simp)];simp
  have hle:s1<18446744073709551616:=by omega
  rw[hsub,QB,vY _ _ hle (by omega),FW _ _ _ hs]
  rfl
 intro f
 induction f with
 |zero=>
  intro u i s1 pre r hp hi hu hs hv
  have e:pre++(vb 0 u++r)=pre++(UInt8.ofNat u::r):=rfl
  rw[e,aF]
  simp only[stop u i s1 pre r hp (by omega) (by omega) hs hv]
  rfl
 | succ f ih=>
  intro u i s1 pre r hp hi hu hs hv
  by_cases h:u<128
  .have e:pre++(vb (f+1) u++r)=pre++(UInt8.ofNat u::r):=by simp[vb,h]
   rw[e,aF]
   simp only[stop u i s1 pre r hp (by omega) h hs hv]
   rfl
  .have e:pre++(vb (f+1) u++r)=pre++(UInt8.ofNat (u% 128+128)::(vb f (u/ 128)++r)):=by simp[vb,h]
   have hq:u/ 128<128 ^ (f+1):=by omega
   have hb:(UInt8.ofNat (u% 128+128)).toNat=u% 128+128:=by simp;omega
   have hpow:2 ^ (7*(i+1))=128*2 ^ (7*i):=by grind
   have hsum:s1+u% 128*2 ^ (7*i)+u/ 128*2 ^ (7*(i+1))=s1+u*2 ^ (7*i):=by
    rw[hpow];have:u=u% 128+128*(u/ 128):=by omega
    grind
   have hlt:s1+u% 128*2 ^ (7*i)<2 ^ (7*(i+1)):=by rw[hpow];have:u% 128*2 ^ (7*i)<=127*2 ^ (7*i):=QP _ (by omega);omega
   have hc:u% 128*2 ^ (7*i)<=u*2 ^ (7*i):=QP _ (Nat.mod_le _ _)
   have h1:eT (pre++(UInt8.ofNat (u% 128+128)::(vb f (u/ 128)++r))) (s1:Int) (i:Int)=some (.inl (((s1+u% 128*2 ^ (7*i):Nat):Int),((i+1:Nat):Int))):=by subst hp;unfold eT;rw[if_pos (hd _ pre _ _ J (by omega)),FJ,QB,hb,Dx ⟨u% 128+128,by omega⟩];simp only;rw[show(u% 128+128)% 128=u% 128 by omega,hx6 _ (u% 128) s1 u (by omega) (by omega) (Nat.mod_le _ _) hv,QB,QB,hb,if_neg (by simp;omega),bc (by omega),vY _ _ (by omega) (by omega),FW _ _ _ hs]
   rw[e,aF]
   simp only[h1]
   have:=ih (u/ 128) (i+1) (s1+u% 128*2 ^ (7*i)) (pre++[UInt8.ofNat (u% 128+128)]) r (by simp[hp]) (by omega) hq hlt (by omega)
   simp_all
theorem b8 {A B:Type}(y:A)(p:Qbm B)(k:A->Qbm B):cg (some (.inl y)) p k=k y:=rfl
theorem iG (n:Int)(h:gI n)(r:U UInt8):dT (num n++r)=some (.inl (n,r)):=by have:=L7 9 (zz n) 0 0 [] r J (by omega) (Rz (zz_lt h) (by decide)) (by decide) (by grind[zz_lt]);simp_all[dT,num,MR]
section
variable {α:Type}
theorem CK (e:α->U UInt8)(rd:U UInt8->Qbm ((α×U UInt8)⊕Unit))(ok:α->Prop)(hrd:∀x r,ok x->rd (e x++r)=some (.inl (x,r)))(N:Nat){body:Int×U UInt8×U α->Qbm ((Int×U UInt8×U α)⊕((U α×U UInt8)⊕Unit))}(h1:∀(k:Nat) b acc,k<N->acc.length+1<=1099511627776->IntKind.i64.wrap ((k:Int)+1)=((k+1:Nat):Int)->decide ((k:Int)<(N:Int))=true->body ((k:Int),b,acc)=cg (rd b) (Option.map Sum.inr (some (.inr ()))) λx=>Option.bind (app acc [x.1]) λy=>some (.inl (((k+1:Nat):Int),x.2,y)))(h2:∀b acc,decide ((N:Int)<(N:Int))=false->body ((N:Int),b,acc)=some (.inr (.inl (acc,b)))):
  ∀(xs:U α) (k:Nat) (acc:U α) (r:U UInt8),k+xs.length=N->acc.length=k->N<=1099511627776->(∀x,x∈xs->ok x)->iter body ((k:Int),xs.flatMap e++r,acc)=some (.inl (acc++xs,r))
 |[],k,acc,r,hk,ha,hN,ho=>by
  grind[aF]
 |x::xs,k,acc,r,hk,ha,hN,ho=>by
  have hk':k+(xs.length+1)=N:=by omega
  rw[aF,h1 k _ acc (by omega) (by omega) (bc (by omega)) (by simp;omega),RX,Rc,hrd x _ (ho x (.head _)),b8,bT (by simp;omega),QB];simp only;rw[CK e rd ok hrd N h1 h2 xs (k+1) (acc++[x]) r (by omega) (by simp[ha]) hN (λy hy=>ho y (.tail _ hy))];simp
theorem DZ {e:α->U UInt8}(he:∀x,1<=(e x).length):∀l:U α,l.length<=(l.flatMap e).length
 |[]=>by simp
 |x::l=>by have:=he x;have:=DZ he l;grind
theorem pO (e:α->U UInt8)(rd:U UInt8->Qbm ((α×U UInt8)⊕Unit))(ok:α->Prop)(hrd:∀x r,ok x->rd (e x++r)=some (.inl (x,r)))(he:∀x,1<=(e x).length)(l:U α)(hl:short ok l)(r:U UInt8){L:U UInt8->Qbm ((U α×U UInt8)⊕Unit)}{body:(Int×U UInt8)->Int×U UInt8×U α->Qbm ((Int×U UInt8×U α)⊕((U α×U UInt8)⊕Unit))}(hL:∀b,L b=cg (dT b) (some (.inr ())) λx2=>(if((decide (x2.1<0))||decide (x2.1> ((x2.2).length:Int)))=true then(some (.inr ()))else iter (body x2) (0,x2.2,[])))(h1:∀(x2:Int×U UInt8) (k:Nat) b acc,decide ((k:Int)<x2.1)=true->IntKind.i64.wrap ((k:Int)+1)=((k+1:Nat):Int)->body x2 ((k:Int),b,acc)=cg (rd b) (Option.map Sum.inr (some (.inr ()))) λx=>Option.bind (app acc [x.1]) λy=>some (.inl (((k+1:Nat):Int),x.2,y)))(h2:∀(x2:Int×U UInt8) (k:Int) b acc,decide (k<x2.1)=false->body x2 (k,b,acc)=some (.inr (.inl (acc,b)))):L (lst e l++r)=some (.inl (l,r)):=by
 rw[hL]
 unfold lst
 rw[Rc,iG _ (ol hl.1),b8]
 have:=DZ he l
 rw[if_neg (by grind)]
 have:=CK e rd ok hrd l.length (body:=body ((l.length:Int),l.flatMap e++r)) (λk b acc _ _ hw hd=>h1 _ k b acc hd hw) (λb acc hd=>h2 _ _ b acc hd) l 0 [] r (by omega) J hl.1 hl.2
 grind
theorem JQ (l:U Int)(hl:short gI l)(r:U UInt8):oW (lst num l++r)=some (.inl (l,r)):=
 pO num _ gI (λx r h=>iG x h r) (λx=>(gh x).2) l hl r (L:=oW) (body:=λx2 am=>j3 x2 am.1 am.2.1 am.2.2) (λb=>J)
  (λx2 k b acc hd hw=>by simp_all[j3]) (λx2 k b acc hd=>by grind[j3])
theorem Ky (x:Item):1<=(bR x).length:=by grind[gh,bR]
theorem Jz (x:Keyed):1<=(ia x).length:=by grind[gh,ia]
theorem IP (x:Choice):1<=(dj x).length:=by grind[gh,dj]
theorem Ll (x:Memory):1<=(dY x).length:=by grind[gh,dY]
theorem Mm (e:α->U UInt8)(l:U α):1<=(lst e l).length:=by grind[gh,lst]
theorem KE (x:Item)(r:U UInt8)(h:dW x):mH (bR x++r)=some (.inl (x,r)):=by unfold mH bR;simp only[Rc];rw[iG _ h.1,b8,iG _ h.2.1,b8,iG _ h.2.2,b8]
theorem B5 (l:U Item)(r:U UInt8)(hl:short dW l):lc (lst bR l++r)=some (.inl (l,r)):=by
 unfold lc;rw[pO bR _ dW KE Ky l hl r (L:=rr) (body:=λx2 am=>jW x2 am.1 am.2.1 am.2.2) (λb=>J)
  (λx2 k b acc hd hw=>by simp_all[jW]) (λx2 k b acc hd=>by grind[jW]),b8]
theorem Jj (l:U (U Item))(hl:short (short dW) l)(r:U UInt8):oV (lst (lst bR) l++r)=some (.inl (l,r)):=
 pO (lst bR) _ (short dW) B5 (Mm _) l hl r (L:=oV) (body:=λx2 am=>jY x2 am.1 am.2.1 am.2.2) (λb=>J)
  (λx2 k b acc hd hw=>by simp_all[jY]) (λx2 k b acc hd=>by grind[jY])
theorem JF (x:Keyed)(r:U UInt8)(h:od x):mR (ia x++r)=some (.inl (x,r)):=by unfold mR ia;simp only[Rc];rw[iG _ h.1,b8,iG _ h.2,b8]
theorem KT (l:U Keyed)(hl:short od l)(r:U UInt8):oR (lst ia l++r)=some (.inl (l,r)):=
 pO ia _ od JF Jz l hl r (L:=oR) (body:=λx2 am=>jV x2 am.1 am.2.1 am.2.2) (λb=>J)
  (λx2 k b acc hd hw=>by simp_all[jV]) (λx2 k b acc hd=>by grind[jV])
theorem Li (x:Memory)(r:U UInt8)(h:sMem x):m9 (dY x++r)=some (.inl (x,r)):=by unfold m9 dY;simp only[Rc];rw[iG _ h.1,b8,iG _ h.2.1,b8,KT _ h.2.2,b8]
theorem J2 (l:U Memory)(hl:short sMem l)(r:U UInt8):oQ (lst dY l++r)=some (.inl (l,r)):=
 pO dY _ sMem Li Ll l hl r (L:=oQ) (body:=λx2 am=>jT x2 am.1 am.2.1 am.2.2) (λb=>J)
  (λx2 k b acc hd hw=>by simp_all[jT]) (λx2 k b acc hd=>by grind[jT])
theorem I1 (x:Choice)(r:U UInt8)(h:nT x):na (dj x++r)=some (.inl (x,r)):=by unfold na dj;simp only[Rc];rw[iG _ h.1,b8,iG _ h.2,b8]
theorem Iw (l:U Choice)(hl:short nT l)(r:U UInt8):oN (lst dj l++r)=some (.inl (l,r)):=
 pO dj _ nT I1 IP l hl r (L:=oN) (body:=λx2 am=>jU x2 am.1 am.2.1 am.2.2) (λb=>J)
  (λx2 k b acc hd hw=>by simp_all[jU]) (λx2 k b acc hd=>by grind[jU])
theorem Of_eq (n:Net)(items:U (U Item))(s:State)(hs:ob s)(hB:(bI s).length<=BB)(h0:lJ n items=some 0)(h1:iC n items s=some 0):gR n items (bI s)=some (s,0):=by have hw:=Ed n items s hs hB;obtain⟨g1,g2,g3,g4,g5⟩:=hs;have e5:=B5 s.Out [] g5;rw[RV]at e5;unfold gR;rw[h0,QB,if_neg (by decide)];rw[show bI s=lst num s.At++(lst (lst bR) s.Rings++(lst dY s.Memory++(lst dj s.Choices++lst bR s.Out)))from J,JQ _ g1,b8,Jj _ g2,b8,J2 _ g3,b8,Iw _ g4,b8,e5,b8];simp_all[bI]
end
end
section
def okS(s:List UInt8):Prop:=s.length<=64
def okW(w:Write):Prop:=0<=w.At/\w.At<200/\w.Bytes.length<=64
def bS(d:Disk):Prop:=d.Sectors.length<=200/\d.Wait.length<=300/\(∀s,s∈d.Sectors->okS s)/\∀w,w∈d.Wait->okW w
theorem A4 {α:Type}{l:U α}{k:Nat}{x y:α}(hx:l[k]?=some x)(h:y∈l.take (k+1)):y∈l.take k∨y=x:=by grind[List.take_add_one]
theorem DU (d:Disk):∃e,gf d=some e/\(e=0↔bS d):=by
 unfold gf;by_cases h0:d.Sectors.length> 200∨d.Wait.length> 300
 .rw[if_pos (by simp;omega)];grind[bS]
 rw[if_neg (by simp;omega)];refine wa (body:=λgY:Int=>kb d gY) (λs=>∃k:Nat,s=(k:Int)/\k<=d.Sectors.length/\∀x,x∈d.Sectors.take k->okS x) (λs=>d.Sectors.length- s.toNat) (λe=>e=0↔bS d) ?_ d.Sectors.length 0 (by simp) ⟨0,J,by omega,by simp⟩;rintro _ ⟨k,rfl,hk,hP⟩;by_cases hlt:k<d.Sectors.length
 .obtain⟨x,hx⟩:∃x,d.Sectors[k]?=some x:=⟨_,QC hlt⟩
  show(∃s',kb d (k:Int)=_/\_)∨∃r,kb d (k:Int)=_/\_;unfold kb;rw[if_pos (by simp;omega),bj hx,bc (by omega)];simp only[QB];by_cases hs:x.length> 64
  .rw[if_pos (by simp;omega)];refine .inr ⟨2,J,by simp;intro h;have:=h.2.2.1 x (QE hx);grind[okS]⟩
  .rw[if_neg (by simp;omega)];refine .inl ⟨_,J,⟨k+1,J,by omega,λy hy=>?_⟩,by simp;omega⟩;grind[A4,okS]
 .have hk':k=d.Sectors.length:=by omega
  subst hk';rw[Sf]at hP;refine .inr ?_;show ∃r,kb d (d.Sectors.length:Int)=_/\_;unfold kb;rw[if_neg (by simp)];obtain⟨r,h1,h2⟩:=wa (body:=λss:Int=>ly d ss) (λs=>∃k:Nat,s=(k:Int)/\k<=d.Wait.length/\∀x,x∈d.Wait.take k->okW x) (λs=>d.Wait.length- s.toNat) (λe=>e=0↔bS d) (by
   rintro _ ⟨k,rfl,hk,hQ⟩;show(∃s',ly d (k:Int)=_/\_)∨∃r,ly d (k:Int)=_/\_;by_cases hlt:k<d.Wait.length
   .obtain⟨x,hx⟩:∃x,d.Wait[k]?=some x:=⟨_,QC hlt⟩
    have hm:=QE hx;unfold ly;rw[if_pos (by simp;omega),bj hx,bc (by omega)];simp only[QB];by_cases hs:x.At<0∨x.At>=200
    .rw[if_pos (by simp;omega)];refine .inr ⟨3,J,by simp;intro h;have:=h.2.2.2 x hm;grind[okW]⟩
    rw[if_neg (by simp;omega)];by_cases hb:x.Bytes.length> 64
    .rw[if_pos (by simp;omega)];refine .inr ⟨2,J,by simp;intro h;have:=h.2.2.2 x hm;grind[okW]⟩
    rw[if_neg (by simp;omega)];refine .inl ⟨_,J,⟨k+1,J,by omega,λy hy=>?_⟩,by simp;omega⟩;grind[A4,okW]
   .have hk':k=d.Wait.length:=by omega
    subst hk';rw[Sf]at hQ;refine .inr ?_;unfold ly;rw[if_neg (by simp)];exact⟨0,J,by simp;exact⟨by omega,by omega,hP,hQ⟩⟩) d.Wait.length 0 (by simp) ⟨0,J,by omega,by simp⟩
  simp_all
section
variable {d:Disk}
theorem jv (h:bS d):gf d=some 0:=by obtain⟨e,h1,h2⟩:=DU d;grind
def put1(l:List (List UInt8))(w:Write):List (List UInt8):=(l++List.replicate (w.At.toNat+1- l.length) []).set w.At.toNat w.Bytes
def bx(l:List (List UInt8))(ws:List Write):List (List UInt8):=ws.foldl put1 l
theorem L3 (l:U (U UInt8))(w:Write)(hw:okW w)(hl:l.length<=200):(put1 l w).length<=200:=by grind[okW,put1]
theorem Lv (l:U (U UInt8))(w:Write)(hw:okW w)(hl:∀s,s∈l->okS s):∀s,s∈put1 l w->okS s:=by
 intro s hs;unfold put1 at hs;rcases Rx hs with h|h
 .grind[okS]
 .rw[h];exact hw.2.2
theorem E5:∀(ws:U Write) (l:U (U UInt8)),(∀w,w∈ws->okW w)->l.length<=200->(∀s,s∈l->okS s)->(bx l ws).length<=200/\∀s,s∈bx l ws->okS s
 |[],l,_,h1,h2=>⟨h1,h2⟩
 |w::ws,l,hw,h1,h2=>E5 ws (put1 l w) (λx hx=>hw x (by simp[hx])) (L3 l w (hw w (by simp)) h1) (Lv l w (hw w (by simp)) h2)
def gt(l:List (List UInt8))(i:Nat):List UInt8:=l.getD i []
theorem MI (l:U (U UInt8))(w:Write)(hw:okW w)(i:Nat):gt (put1 l w) i=if w.At=(i:Int)then w.Bytes else gt l i:=by unfold okW at hw;unfold gt put1;simp only[QR,QS];grind
def seen(s:List UInt8)(ws:List Write)(i:Int):List UInt8:=ws.foldl (λs w=>if w.At=i then w.Bytes else s) s
theorem qi:∀(ws:U Write) (l:U (U UInt8)) (i:Nat),(∀w,w∈ws->okW w)->gt (bx l ws) i=seen (gt l i) ws i
 |[],l,i,_=>rfl
 |w::ws,l,i,h=>by show gt (bx (put1 l w) ws) i=seen (if w.At=(i:Int)then w.Bytes else gt l i) ws i;rw[qi ws _ i (λx hx=>h x (by simp[hx])),MI l w (h w (by simp))]
theorem FF (s1:Int)(w:Write)(hw:okW w){body:U (U UInt8)->Qbm (U (U UInt8)⊕((Int×U (U UInt8))⊕U (U UInt8)))}(hb:∀l,body l=(if(decide (((l).length:Int)<=w.At))=true then(Option.bind (app l [[]]) λx6=>(some (.inl x6)))else(Option.map Sum.inr (Option.bind (ixN l w.At) λx7=>(Option.bind ((l)[x7]?) λx8=>(some (.inl (IntKind.i64.wrap (s1+1),(List.set l x7 w.Bytes))))))))):
  ∀(n:Nat) (l:U (U UInt8)),w.At.toNat+1- l.length=n->iter body l=some (.inl (IntKind.i64.wrap (s1+1),put1 l w))
 |0,l,hn=>by
  have hw':=hw;unfold okW at hw';have hi:ixN l w.At=some w.At.toNat:=by grind[dL]
  obtain⟨x,hx⟩:∃x,l[w.At.toNat]?=some x:=⟨_,QC (by omega)⟩
  have e:body l=some (.inr (.inl (IntKind.i64.wrap (s1+1),put1 l w))):=by rw[hb,if_neg (by simp;omega),hi];grind[put1]
  grind[aF]
 |n+1,l,hn=>by
  have hw':=hw;unfold okW at hw';have e:body l=some (.inl (l++[[]])):=by rw[hb,if_pos (by simp;omega),bT (by simp;omega)];rfl
  rw[aF];simp only[e];rw[FF s1 w hw hb n (l++[[]]) (by simp;omega)];grind[put1]
theorem Cy:∀(ws:U Write) (k:Nat) (l:U (U UInt8)),d9 (σ:=U (U UInt8)) (λ_ w l=>some (.inl (put1 l w))) (λl=>some l) k ws l=some (bx l ws)
 |[],k,l=>rfl
 |w::ws,k,l=>by unfold d9;exact Cy ws (k+1) (put1 l w)
theorem Oa (ws:U Write)(l:U (U UInt8))(hl:ws.length<=1099511627776)(hw:∀w,w∈ws->okW w):sh ws l=some (bx l ws):=by
 unfold sh;have:=nK (σ:=U (U UInt8)) ws hl (λk st=>((k:Int),st)) (body:=λeY:Int×(U (U UInt8))=>mW ws eY.1 eY.2)
  (λk w l=>some (.inl (put1 l w))) (λl=>some l) l
  (λk w l hx _ h1 h2 h3=>by show mW ws (k:Int) l=_;unfold mW;rw[h2,h1];simp only[if_true,QB];rw[FF (body:=λaZ=>uZ (k:Int) w aZ) (k:Int) w (hw w (QE hx)) (λl=>J) _ l J,h3])
  (λst h=>by simp[mW])
 refine Eq.trans this ?_;simp[Cy]
theorem yD (l:U (U UInt8))(h:l.length<=1099511627776):mN l=some l:=by grind[mN,bT]
theorem Cp (l:U Write)(h:l.length<=1099511627776):o5 l=some l:=by grind[o5,bT]
theorem zj (h:bS d)(n:Nat)(hn:n<=d.Wait.length):gK d (n:Int)=some (⟨bx d.Sectors (d.Wait.take n),[]⟩,0):=by have hh:=h;unfold bS at hh;unfold gK;rw[jv h];simp only[QB];rw[if_neg (by simp),if_neg (by simp;omega),yD _ (by omega)];grind[sub_0,Oa]
theorem Di (h:bS d):nH d=some (⟨bx d.Sectors d.Wait,[]⟩,0):=by grind[nH,zj]
theorem C9 (h:bS d)(i:Int)(b:U UInt8)(h0:0<=i)(h1:i<200)(h2:b.length<=64)(h3:d.Wait.length<300):jt d i b=some (⟨d.Sectors,d.Wait++[⟨i,b⟩]⟩,0):=by have hh:=h;unfold bS at hh;unfold jt;rw[jv h];simp only[QB];rw[if_neg (by simp),if_neg (by simp;omega),if_neg (by simp;omega),if_neg (by simp;omega),yD _ (by omega)];grind[Cp,bT]
end
end
def okP(p:List UInt8):Prop:=p≠[]/\p.length<=60
theorem qg(p:U UInt8):(frm p).length=p.length+3:=by simp[frm]
theorem CO(p r:U UInt8)(h:okP p):iR (frm p++r)=some p:=by
 obtain⟨h1,h2⟩:=h;have hl:1<=p.length:=by grind
 have hn:(UInt8.ofNat p.length).toNat=p.length:=by simp;omega
 have hc:=ze (UInt8.ofNat p.length::p);generalize hC:crc (UInt8.ofNat p.length::p)=C at hc;have e:frm p++r=UInt8.ofNat p.length::(p++(UInt8.ofNat (C/ 256)::UInt8.ofNat C::r)):=by simp[frm,hC]
 rw[e];simp only[iR,hn];simp_all<;>omega
section
def pay(epoch n:Nat)(b:List UInt8)(k:Nat):List UInt8:=[UInt8.ofNat epoch,UInt8.ofNat k,UInt8.ofNat n]++(if 0<k then(b.take (50*k)).drop (50*(k- 1))else[])
def wOf(slot epoch n:Nat)(b:List UInt8)(k:Nat):Write:=⟨((60*slot+k:Nat):Int),frm (pay epoch n b k)⟩
def wsP(slot epoch n:Nat)(b:List UInt8):Nat->List Write
 |0=>[wOf slot epoch n b 0]
 |k+1=>wOf slot epoch n b (k+1)::wsP slot epoch n b k
theorem E6 (slot epoch n:Nat)(b:U UInt8):∀k,(wsP slot epoch n b k).length=k+1
 |0=>rfl
 |k+1=>by simp[wsP,E6 slot epoch n b k]
theorem yH (epoch n:Nat)(b:U UInt8)(k:Nat):3<=(pay epoch n b k).length/\(pay epoch n b k).length<=53:=by grind[pay]
theorem F8 (epoch n:Nat)(b:U UInt8)(k:Nat):okP (pay epoch n b k):=by have:=yH epoch n b k;refine⟨λh=>?_,by omega⟩;grind
section
variable {d:Disk}
theorem Jl (h:bS d)(i:Int)(b:U UInt8)(h0:0<=i)(h1:i<200)(h2:b.length<=64)(h3:¬d.Wait.length<300):jt d i b=some (⟨[],[]⟩,8):=by have hh:=h;unfold bS at hh;unfold jt;rw[jv h];grind
theorem FQ (slot epoch n:Nat)(b:U UInt8)(k:Nat)(hs:slot<=1)(hk:k<60):okW (wOf slot epoch n b k):=by grind[qg,pay,okW,wOf]
theorem Dj {S:U (U UInt8)}{ws:U Write}{w:Write}(h:bS ⟨S,ws⟩)(hw:okW w)(hl:ws.length<300):bS ⟨S,ws++[w]⟩:=by obtain⟨h1,h2,h3,h4⟩:=h;refine⟨h1,by grind,h3,λx hx=>?_⟩;grind
theorem k1_eq (slot epoch n:Nat)(b:U UInt8)(hs:slot<=1)(S:U (U UInt8))(k:Nat)(ws:U Write)(hk:k<60)(h:bS ⟨S,ws⟩):nG (slot:Int) (k:Int) S ws (pay epoch n b k)=some (if ws.length<300 then .inl ((k:Int)- 1,S,ws++[wOf slot epoch n b k])else .inr (⟨[],[]⟩,8)):=by
 have hp:=F8 epoch n b k;have hl:=yH epoch n b k;have hf:=qg (pay epoch n b k);unfold nG;rw[vp,QB];have e1:putFr (pay epoch n b k)=(frm (pay epoch n b k),0):=by unfold putFr;grind
 have e2:IntKind.i64.wrap ((IntKind.i64.wrap ((slot:Int)*60))+(k:Int))=((60*slot+k:Nat):Int):=by grind[bq]
 rw[e1,e2];simp only;by_cases h3:ws.length<300
 .rw[C9 h _ _ (by omega) (by omega) (by omega) h3,QB,if_neg (by simp),if_pos h3,bq (by omega) (by omega)];rfl
 .rw[Jl h _ _ (by omega) (by omega) (by omega) h3,QB,if_pos (by decide),if_neg h3];rfl
theorem l2_eq (slot epoch n:Nat)(b:U UInt8)(hs:slot<=1)(hb:b.length<=1099511627776)(S:U (U UInt8))(k:Nat)(ws:U Write)(hk:k<60)(h:bS ⟨S,ws⟩)(hkb:50*(k- 1)<=b.length):
  pG (slot:Int) (epoch:Int) b (n:Int) (k:Int) S ws=some (if ws.length<300 then .inl ((k:Int)- 1,S,ws++[wOf slot epoch n b k])else .inr (⟨[],[]⟩,8)):=by
 have hstr:cq [IntKind.u8.wrap (epoch:Int),IntKind.u8.wrap (k:Int),IntKind.u8.wrap (n:Int)]=[UInt8.ofNat epoch,UInt8.ofNat k,UInt8.ofNat n]:=by grind[str_1,cq]
 unfold pG
 rw[if_pos (by simp),hstr]
 by_cases h0:0<k
 .rw[if_pos (by simp;omega)]
  have e1:IntKind.i64.wrap ((IntKind.i64.wrap ((k:Int)- 1))*50)=((50*(k- 1):Nat):Int):=by grind[bq]
  have e2:IntKind.i64.wrap ((k:Int)*50)=((50*k:Nat):Int):=by grind[bq]
  have e3:(if(b.length:Int)<((50*k:Nat):Int)then(b.length:Int)else((50*k:Nat):Int))=((min (50*k) b.length:Nat):Int):=by omega
  rw[e1,e2,e3,qr (by omega) (by omega),QB,nW (by simp;omega),QB]
  have e4:[UInt8.ofNat epoch,UInt8.ofNat k,UInt8.ofNat n]++List.drop (50*(k- 1)) (List.take (min (50*k) b.length) b)=pay epoch n b k:=by unfold pay;grind
  grind[k1_eq]
 .rw[if_neg (by simp;omega)]
  have e4:[UInt8.ofNat epoch,UInt8.ofNat k,UInt8.ofNat n]=pay epoch n b k:=by simp_all[pay]
  grind[k1_eq]
theorem Le (slot epoch n:Nat)(b:U UInt8)(hs:slot<=1)(hb:b.length<=1099511627776)(S:U (U UInt8)):∀(k:Nat) (ws:U Write),k<60->bS ⟨S,ws⟩->50*(k- 1)<=b.length ->
  iter (λdX:Int×(U (U UInt8))×(U Write)=>pG (slot:Int) (epoch:Int) b (n:Int) dX.1 dX.2.1 dX.2.2) ((k:Int),S,ws)=some (if ws.length+(k+1)<=300 then(⟨S,ws++wsP slot epoch n b k⟩,0)else(⟨[],[]⟩,8)):=by
 intro k
 induction k with
 | zero=>
  intro ws hk h hkb
  rw[aF]
  simp only[l2_eq slot epoch n b hs hb S 0 ws hk h hkb]
  by_cases h3:ws.length<300
  .rw[if_pos h3,if_pos (by omega)]
   simp only
   rw[aF]
   rfl
  grind
 | succ k ih=>
  intro ws hk h hkb
  rw[aF]
  simp only[l2_eq slot epoch n b hs hb S (k+1) ws hk h hkb]
  by_cases h3:ws.length<300
  .rw[if_pos h3]
   simp only
   rw[show((k+1:Nat):Int)- 1=(k:Int) by omega,ih _ (by omega) (Dj h (FQ slot epoch n b (k+1) hs hk) h3) (by omega)]
   simp only[QO,Sg,Rc,Sh]
   by_cases h4:ws.length+(k+1+1)<=300
   .rw[if_pos (by omega),if_pos h4];rfl
   grind
  grind
abbrev noD:Disk:=⟨[],[]⟩
theorem Fv (d:Disk)(slot epoch:Int)(b:U UInt8)(hb:b.length<=1099511627776):∃e,gf d=some e/\(e=0↔bS d) /\
  nN d slot epoch b=some (if e≠0 then(noD,e)else if slot<0∨1<slot∨epoch<0∨200<epoch then(noD,3)else if 60<=(b.length+49)/ 50∨300<d.Wait.length+((b.length+49)/ 50+1)then(noD,8)
   else(⟨d.Sectors,d.Wait++wsP slot.toNat epoch.toNat ((b.length+49)/ 50) b ((b.length+49)/ 50)⟩,0)):=by
 obtain⟨e,h1,h2⟩:=DU d
 refine⟨e,h1,h2,?_⟩
 unfold nN
 rw[h1,QB]
 by_cases he:e=0
 .subst he
  have hok:=h2.1 J
  rw[if_neg (by decide),if_neg (show ¬((0:Int)≠0) by simp)]
  by_cases hr:slot<0∨1<slot∨epoch<0∨200<epoch
  .grind
  .rw[if_neg (by grind),if_neg hr]
   have hq:quo .i64 (IntKind.i64.wrap ((IntKind.i64.wrap ((b.length:Int)+50))- 1)) 50=some (((b.length+49)/ 50:Nat):Int):=by have e0:IntKind.i64.wrap ((b.length:Int)+50)=(b.length:Int)+50:=bq (by omega) (by omega);have e1:IntKind.i64.wrap ((b.length:Int)+50- 1)=(b.length:Int)+50- 1:=bq (by omega) (by omega);rw[e0,e1];unfold quo;rw[if_neg (by decide),show(b.length:Int)+50- 1=((b.length+49:Nat):Int) by omega];grind[bq]
   rw[hq,QB]
   by_cases hn:60<=(b.length+49)/ 50
   .grind
   .rw[if_neg (by grind)]
    obtain⟨sl,rfl⟩:=RD (show 0<=slot by omega)
    obtain⟨ep,rfl⟩:=RD (show 0<=epoch by omega)
    have:=Le sl ep ((b.length+49)/ 50) b (by omega) hb d.Sectors ((b.length+49)/ 50) d.Wait (by omega) hok (by omega)
    grind
 grind
def one(s:List UInt8):Option (List UInt8):=
 match(records s.length s).1 with
 |[p]=>if(records s.length s).2=s.length then some p else none
 |_=>none
def secP(s:List UInt8)(k:Nat):Option (List UInt8):=
 match one s with
 |some p=>if 3<=p.length/\(p.getD 1 0).toNat=k then some p else none
 |none=>none
theorem DG {s:U UInt8}{k:Nat}{p:U UInt8}(h:secP s k=some p):3<=p.length/\(p.getD 1 0).toNat=k:=by grind[secP]
theorem Ci (S:U (U UInt8))(W:U Write)(slot k:Nat)(hS:S.length<=200)(hs:∀s,s∈S->okS s)(hsl:slot<=1)(hk:k<=1000):
  pf (k:Int) (slot:Int) S W=some (match secP (gt S (60*slot+k)) k with|some p=>(p,true)|none=>([],false)):=by
 have e2:IntKind.i64.wrap ((IntKind.i64.wrap ((slot:Int)*60))+(k:Int))=((60*slot+k:Nat):Int):=by grind[bq]
 unfold pf
 rw[e2]
 by_cases hi:S.length<=60*slot+k
 .rw[if_pos (by grind)]
  have:gt S (60*slot+k)=[]:=by grind[gt]
  rw[this]
  rfl
 .rw [if_neg (by grind)]
  have hlt:60*slot+k<S.length:=by omega
  have hx:S[60*slot+k]?=some (gt S (60*slot+k)):=by grind[gt]
  have hm:gt S (60*slot+k)∈S:=QE hx
  have h64:(gt S (60*slot+k)).length<=64:=hs _ hm
  rw[bj hx]
  generalize gt S (60*slot+k)=s at hx hm h64
  have hrd:readR s=((records s.length s).1,((records s.length s).2:Int),0):=by unfold readR;grind
  rw[QB,A3,QB,hrd]
  unfold secP one
  rcases hr:records s.length s with⟨l,u⟩
  simp only
  match l with
  |[]=>rfl
  |p::q::l=>
   rfl
  | [p]=>
   have i0:ixN [p] 0=some 0:=rfl
   rw[if_neg (by simp),QB]
   by_cases hu:u=s.length
   .rw[if_neg (by simp[hu]),i0,QB]
    simp only[Sc,QB]
    by_cases hp:3<=p.length
    .rw[if_neg (by grind)]
     obtain⟨a,b,t,rfl⟩:∃a b t,p=a::b::t:=by
      match p,hp with
      |a::b::t,_=>simp
      |[],h=>simp at h
      |[_],h=>simp at h
     have i1:idx (a::b::t) 1=some b:=rfl
     have hb:IntKind.i64.wrap (b.toNat:Int)=(b.toNat:Int):=fM b
     grind
    grind
   grind
def col(S:List (List UInt8))(slot:Nat)(h:List UInt8):Nat->Nat->List UInt8->Option (List UInt8)
 |0,_,acc=>some acc
 |m+1,k,acc=>
  match secP (gt S (60*slot+k)) k with
  |none=>none
  |some p=>if p.getD 0 0=h.getD 0 0/\p.getD 2 0=h.getD 2 0/\(p.length=53∨(m=0/\3<p.length/\p.length<53))then col S slot h m (k+1) (acc++p.drop 3)else none
def d6(S:List (List UInt8))(slot:Nat):Option (List UInt8×Nat):=
 match secP (gt S (60*slot)) 0 with
 |none=>none
 |some h=>if h.length=3/\(h.getD 0 0).toNat<=200/\(h.getD 2 0).toNat<60 then(col S slot h (h.getD 2 0).toNat 1 []).map λb=>(b,(h.getD 0 0).toNat)else none
theorem LZ (hd:bS d)(slot:Nat)(hsl:slot<=1)(h0 h1 h2:UInt8)(hh:h2.toNat<60):∀(m k:Nat) (acc:U UInt8),k+m=h2.toNat+1->1<=k->acc.length<=100*k ->
  iter (λcB:(U UInt8)×Int=>nD d (slot:Int) ([h0,h1,h2],true) cB.1 cB.2) (acc,(k:Int))=some (match col d.Sectors slot [h0,h1,h2] m k acc with|some b=>(b,(h0.toNat:Int),0)|none=>([],0,12)):=by
 have i2:idx [h0,h1,h2] 2=some h2:=rfl
 have i0:idx [h0,h1,h2] 0=some h0:=rfl
 intro m
 induction m with
 |zero=>
  intro k acc hk h1k ha
  rw[aF]
  simp only
  unfold nD
  simp only[i2,QB,fM,i0]
  rw[if_neg (by grind)]
  rfl
 | succ m ih=>
  intro k acc hk h1k ha
  rw[aF]
  simp only
  have step:nD d (slot:Int) ([h0,h1,h2],true) acc (k:Int)=some (match secP (gt d.Sectors (60*slot+k)) k with
    |none=>.inr ([],0,12)
    |some p=>if p.getD 0 0=h0/\p.getD 2 0=h2/\(p.length=53∨(m=0/\3<p.length/\p.length<53))then .inl (acc++p.drop 3,((k+1:Nat):Int))else .inr ([],0,12)):=by
   unfold nD
   simp only[i2,QB,fM,i0]
   rw[if_pos (by grind),Ci d.Sectors d.Wait slot k hd.1 hd.2.2.1 hsl (by omega),QB]
   cases hsec:secP (gt d.Sectors (60*slot+k)) k with
   |none=>
    simp
   | some p=>
    have hp3:=(DG hsec).1
    obtain⟨a,b,c,t,rfl⟩:∃a b c t,p=a::b::c::t:=by
     match p,hp3 with
     |a::b::c::t,_=>simp
     |[],h=>simp at h
     |[_],h=>simp at h
     |[_,_],h=>simp at h
    have j0:idx (a::b::c::t) 0=some a:=rfl
    have j2:idx (a::b::c::t) 2=some c:=rfl
    have jl:(a::b::c::t).length=t.length+3:=by simp
    have js:sub (a::b::c::t) 3 ((a::b::c::t).length:Int)=some t:=by have:=jx (xs:=a::b::c::t) (i:=3) (by omega);exact this
    have ha2:(a.toNat:Int)=(h0.toNat:Int)↔a=h0:=⟨λe=>UInt8.toNat_inj.1 (by omega),λe=>by rw[e]⟩
    have hc2:(c.toNat:Int)=(h2.toNat:Int)↔c=h2:=⟨λe=>UInt8.toNat_inj.1 (by omega),λe=>by rw[e]⟩
    simp only[j0,j2,QB,js]
    rw[show(Bool.not true)=false from J]
    have hw:(if(((a::b::c::t).length:Int)==53)=true then(some true)else if((k:Int)==(h2.toNat:Int))=true then(if(decide (((a::b::c::t).length:Int)> 3))=true then(some (decide (((a::b::c::t).length:Int)<53)))else(some false))else(some false))=some (decide ((a::b::c::t).length=53∨(m=0/\3<(a::b::c::t).length/\(a::b::c::t).length<53))):=by
     generalize (a::b::c::t).length=L;by_cases q1:L=53
     .grind
     .rw[if_neg (by simp;omega)];by_cases q2:(k:Int)=(h2.toNat:Int)
      .rw[if_pos (by grind)];by_cases q3:3<L
       .rw[if_pos (by grind)];congr 1;grind
       grind
      simp_all<;>omega
    rw[hw,QB,if_neg (show ¬(false=true) by decide)]
    by_cases p1:a=h0
    .rw[if_neg (by simp[p1])]
     by_cases p2:c=h2
     .rw[if_neg (by simp[p2]),QB]
      by_cases p3:((a::b::c::t).length=53∨(m=0/\3<(a::b::c::t).length/\(a::b::c::t).length<53))
      .rw[decide_eq_true p3,if_neg (by decide),nW (by omega),QB,bc (by omega),if_pos ⟨p1,p2,p3⟩]
       rfl
      grind
     grind
    grind
  simp only[step]
  unfold col
  cases hsec:secP (gt d.Sectors (60*slot+k)) k with
  |none=>rfl
  | some p=>
   simp only
   by_cases hc:p.getD 0 0=h0/\p.getD 2 0=h2/\(p.length=53∨(m=0/\3<p.length/\p.length<53))
   .have hc':p.getD 0 0=[h0,h1,h2].getD 0 0/\p.getD 2 0=[h0,h1,h2].getD 2 0/\(p.length=53∨(m=0/\3<p.length/\p.length<53)):=hc
    rw[if_pos hc,if_pos hc']
    simp only
    rw[ih (k+1) _ (by omega) (by omega) (by simp_all<;>omega)]
   grind
def getR(S:List (List UInt8))(slot:Nat):List UInt8×Int×Int:=
 match d6 S slot with
 |some x=>(x.1,(x.2:Int),0)
 |none=>([],0,12)
theorem FL (hd:bS d)(slot:Nat)(hsl:slot<=1):nQ d (slot:Int)=some (getR d.Sectors slot):=by
 unfold nQ;rw[jv hd,QB,if_neg (by decide),if_neg (by grind)];have:=Ci d.Sectors d.Wait slot 0 hd.1 hd.2.2.1 hsl (by omega);rw[Q0,RL]at this;rw[this,QB];unfold getR d6;cases hsec:secP (gt d.Sectors (60*slot)) 0 with
 |none=>rfl
 | some h=>
  simp only;rw[show(Bool.not true)=false from J,if_neg (by decide)];have hp3:=(DG hsec).1;by_cases h3:h.length=3
  .obtain⟨a,b,c,rfl⟩:∃a b c,h=[a,b,c]:=by
    match h,h3 with
    |[a,b,c],_=>simp
   have j0:idx [a,b,c] 0=some a:=rfl;have j2:idx [a,b,c] 2=some c:=rfl;rw[if_neg (by simp)];simp only[j0,j2,QB,fM];by_cases q1:a.toNat<=200
   .rw[if_neg (by grind),QB];by_cases q2:c.toNat<60
    .rw[if_neg (by grind)];have hc:([a,b,c].length=3/\([a,b,c].getD 0 0).toNat<=200/\([a,b,c].getD 2 0).toNat<60):=⟨J,q1,q2⟩
     rw[if_pos hc];have:=LZ hd slot hsl a b c q2 c.toNat 1 [] (by omega) (by omega) (by simp);grind
    grind
   grind
  grind
end
end
section
theorem DA{α β:Type}[DecidableEq β](a b:U α)(ha:a.length<=1099511627776)(hl:a.length=b.length)(f:α->β){body:Int->Qbm (Int⊕Bool)}
  (h1:∀(k:Nat) (x y:α),a[k]?=some x->b[k]?=some y->decide ((k:Int)<(a.length:Int))=true->idx a (k:Int)=some x->idx b (k:Int)=some y->IntKind.i64.wrap ((k:Int)+1)=((k+1:Nat):Int)->body k=if f x=f y then some (.inl ((k+1:Nat):Int))else some (.inr false))
  (h2:decide ((a.length:Int)<(a.length:Int))=false->body a.length=some (.inr true)):iter body 0=some (decide (a.map f=b.map f)):=by
 have key:∀(m k:Nat),k+m=a.length->iter body k=some (decide ((a.drop k).map f=(b.drop k).map f)):=by
  intro m;induction m with
  |zero=>
   grind[aF]
  |succ m ih=>
   intro k hk;have hlt:k<a.length:=by omega
   have hlt2:k<b.length:=by omega
   rw[aF,h1 k a[k] b[k] (QC hlt) (QC hlt2) (by simp;omega) (bj (QC hlt)) (bj (QC hlt2)) (bc (by omega)),QG hlt,QG hlt2,Re,Re];by_cases hxy:f a[k]=f b[k]
   .rw[if_pos hxy];simp only;rw[ih (k+1) (by omega)];simp[hxy]
   simp_all
 have:=key a.length 0 (by omega)
 grind
theorem xA(a b:U Item)(ha:a.length<=1099511627776):mQ a b=some (decide (a=b)):=by grind[mQ,Hm]
theorem A6(a b:U (U Item))(ha:a.length<=1099511627776)(hi:∀l,l∈a->l.length<=1099511627776):oI a b=some (decide (a=b)):=by
 unfold oI;by_cases hl:a.length=b.length
 .rw[if_neg (by simp;omega),DA a b ha hl id (λk x y hx hy e1 e2 e3 e4=>by
   unfold q8;rw[e1,e2,e3,e4];simp only[if_true,QB];grind[xA]) (λh=>by
   simp[q8])]
  simp
 .rw[if_pos (by simp;omega)];have:a≠b:=λe=>hl (by rw[e])
  simp[this]
theorem Hd(a b:U Keyed)(ha:a.length<=1099511627776):rH a b=some (decide (a=b)):=by
 unfold rH;by_cases hl:a.length=b.length
 .rw[if_neg (by simp;omega)];grind[lO,uQ]
 .rw[if_pos (by simp;omega)];have:a≠b:=λe=>hl (by rw[e])
  simp[this]
theorem Ii(a b:Memory)(ha:a.Keys.length<=1099511627776):rC a b=some (decide (a=b)):=by
 unfold rC;rw[Hd _ _ ha];cases a with
 | mk s k d=>
  cases b with
  |mk s' k' d'=>
   grind[Memory.mk.injEq]
theorem IN(a b:U Memory)(ha:a.length<=1099511627776)(hi:∀m,m∈a->m.Keys.length<=1099511627776):q9 a b=some (decide (a=b)):=by
 unfold q9;by_cases hl:a.length=b.length
 .rw[if_neg (by simp;omega),DA a b ha hl id (λk x y hx hy e1 e2 e3 e4=>by
   unfold q7;rw[e1,e2,e3,e4];simp only[if_true,QB];grind[Ii]) (λh=>by
   simp[q7])]
  simp
 .rw[if_pos (by simp;omega)];have:a≠b:=λe=>hl (by rw[e])
  simp[this]
structure SmallS (s:State):Prop where
 a1:s.At.length<=1099511627776
 a2:s.Rings.length<=1099511627776
 a3:s.Memory.length<=1099511627776
 a4:s.Choices.length<=1099511627776
 a5:s.Out.length<=1099511627776
 a6:∀l,l∈s.Rings->l.length<=1099511627776
 a7:∀m,m∈s.Memory->m.Keys.length<=1099511627776
theorem xV{n:Net}{items:U (U Item)}{B:Int}{s:State}(hS:RightS n items)(ok:OkS n items B s):SmallS s:=by
 have h1:=ok.at_;have h2:=ok.rg;have h3:=ok.mm;have h4:=ok.ch;have h5:=ok.out;have h6:=hS.l4;have h7:=hS.r2;have h8:=hS.n2;have h9:=hS.m2;refine⟨by omega,by omega,by omega,by omega,by omega,λl hl=>?_,λm hm=>?_⟩
 .obtain⟨r,hr⟩:=QL hl;have:=ok.room r l hr;omega
 .obtain⟨i,hi⟩:=QL hm;have:=(ok.mem i m hi).1.len;omega
theorem AE(a b:U Int)(ha:a.length<=1099511627776):mX a b=some (decide (a=b)):=by
 unfold mX;by_cases hl:a.length=b.length
 .rw[if_neg (by simp;omega)];grind[lO,uW]
 .rw[if_pos (by simp;omega)];have:a≠b:=λe=>hl (by rw[e])
  simp[this]
theorem Iu(a b:State)(ha:SmallS a):rQ a b=some (decide (a=b)):=by
 unfold rQ;rw[AE _ _ ha.a1,A6 _ _ ha.a2 ha.a6,IN _ _ ha.a3 ha.a7,G9 _ _ ha.a4,xA _ _ ha.a5];cases a with
 | mk a1 a2 a3 a4 a5=>
  cases b with
  |mk b1 b2 b3 b4 b5=>
   grind[State.mk.injEq]
theorem L9(l:U Memory):∃B:Int,0<=B/\∀m,m∈l->∀y,y∈m.Keys->y.N<=B:=by
 have h1:∀ks:U Keyed,∃B:Int,0<=B/\∀y,y∈ks->y.N<=B:=by
  intro ks;induction ks with
  |nil=>exact⟨0,by omega,λy hy=>by cases hy⟩
  |cons k ks ih=>
   obtain⟨B,h0,hB⟩:=ih;refine⟨B+k.N.natAbs,by omega,λy hy=>?_⟩;grind
 induction l with
 |nil=>exact⟨0,by omega,λm hm=>by cases hm⟩
 |cons m l ih=>
  obtain⟨B,h0,hB⟩:=ih;obtain⟨B',h0',hB'⟩:=h1 m.Keys;refine⟨B+B',by omega,λq hq y hy=>?_⟩;grind
section
variable {n:Net} {items:List (List Item)} {B:Int} {s:State}
theorem Fd(h:dI n items s=0):cX n items=0:=by unfold dI at h;omega
theorem F4(h:dI n items s=0):∃B:Int,0<=B/\OkS n items B s:=by obtain⟨B,h0,hB⟩:=L9 s.Memory;exact⟨B,h0,NS h hB⟩
theorem Lw(n:Net)(items:U (U Item))(s:State)(hio:∀x∈n.Nodes,x.In.length<=1099511627776/\x.Out.length<=1099511627776)(hr:∀l,l∈s.Rings->l.length<=1099511627776):kg n items s=some (if dI n items s≠0 then([],dI n items s)else(aY n items s,0)):=by
 unfold kg;rw[th n items s hio hr,QB];by_cases h:dI n items s=0
 .obtain⟨B,_,ok⟩:=F4 h;rw[if_neg (show ¬(dI n items s !=0)=true by simp[h]),if_neg (show ¬dI n items s≠0 by simp[h]),LX (lP (Fd h)) ok];rfl
 grind
def ib(n:Net)(m:Move):Prop:=0<=m.Node/\m.Node<n.Nodes.length/\0<=m.Lane/\m.Lane<bK (ah n m.Node.toNat)
instance (n:Net) (m:Move):Decidable (ib n m):=by unfold ib;infer_instance
def canMv(n:Net)(items:List (List Item))(s:State)(m:Move):Bool:=dg n items s m.Node.toNat m.Lane.toNat
theorem Do_eq(n:Net)(items:U (U Item))(s:State)(m:Move)(hio:∀x∈n.Nodes,x.In.length<=1099511627776/\x.Out.length<=1099511627776)(hr:∀l,l∈s.Rings->l.length<=1099511627776):
    kz n items s m=some (if dI n items s≠0 then(noS,dI n items s)else if ¬ib n m then(noS,5)else if canMv n items s m=false then(noS,10)else(doMv n items s m,0)):=by
  unfold kz
  rw[th n items s hio hr,QB]
  by_cases h:dI n items s=0
  · obtain ⟨B,_,ok⟩:=F4 h
    have hS:=lP (Fd h)
    rw[if_neg (show ¬(dI n items s !=0)=true by simp[h]),if_neg (show ¬dI n items s≠0 by simp[h])]
    have hb : (if(decide (m.Node<0))=true then(some true)else(if(decide (m.Node>=((n.Nodes).length:Int)))=true then(some true)else(if(decide (m.Lane<0))=true then(some true)else(if(decide (m.Lane> 0))=true then(Option.bind (idx n.Nodes m.Node) λx3=>(if(x3.Kind !=6)=true then(some true)else(Option.bind (idx n.Nodes m.Node) λx4=>(some (decide (m.Lane>=((x4.In).length:Int)))))))else(some false)))))=some (decide (¬ib n m)):=by
      by_cases h1:m.Node<0
      · simp_all[ib]
      · rw[if_neg (by grind)];by_cases h2:m.Node>=(n.Nodes.length:Int)
        · simp_all[ib]
        · rw[if_neg (by grind)];by_cases h3:m.Lane<0
          · simp_all[ib]
          · rw[if_neg (by grind)];have hi:idx n.Nodes m.Node=some (ah n m.Node.toNat):=iT _ (by omega) (by omega);have hlt:m.Node.toNat<n.Nodes.length:=by omega
            by_cases h4:m.Lane> 0
            · rw[if_pos (by grind),hi,QB];by_cases h6:(ah n m.Node.toNat).Kind=6
              · simp_all[bK,ib]
              · rw[if_pos (by grind)];have hl:bK (ah n m.Node.toNat)=1:=by simp_all[bK]
                congr 1;rw[eq_comm,decide_eq_true_eq];unfold ib;omega
            · rw[if_neg (by grind)];have hpos:0<bK (ah n m.Node.toNat):=by
                unfold bK;split
                · rename_i h6;exact hS.in6 _ hlt h6
                · omega
              congr 1;rw[eq_comm,decide_eq_false_iff_not];unfold ib;omega
    rw[hb,QB]
    by_cases hg:ib n m
    · rw[if_neg (by grind),if_neg (by grind)]
      obtain⟨g0,g1,g2,g3⟩:=hg
      have hm:m=⟨(m.Node.toNat:Int),(m.Lane.toNat:Int)⟩:=by cases m;grind
      have hi:m.Node.toNat<n.Nodes.length:=by omega
      have hk:m.Lane.toNat<bK (ah n m.Node.toNat):=by omega
      have hc:nO n items s m=some (canMv n items s m):=by rw[hm];exact Fq hS ok hi hk
      rw[hc,QB]
      cases hcm:canMv n items s m with
      |false=>rfl
      | true=>
        rw[if_neg (by simp),if_neg (by simp),Fk hS ok,QB]
        have hd:pn n items m s.At s.Rings s.Memory s.Choices s.Out=some ((doMv n items s m).At,(doMv n items s m).Rings,(doMv n items s m).Memory,(doMv n items s m).Choices,(doMv n items s m).Out):=by rw[hm];exact do_eq hS ok hi hk hcm
        rw[hd,QB]
    · rw[if_pos (by grind),if_pos (by omega)];rfl
  · rw[if_pos (show(dI n items s !=0)=true by simpa using h),if_pos h];rfl
theorem J3{m:Move}(hm:m∈aY n items s):ib n m/\canMv n items s m=true:=by obtain⟨i,k,rfl,hi,hk,hc⟩:=nJ hm;exact⟨⟨by simp,by grind,by simp,by grind⟩,hc⟩
theorem Ej(hsrc:cX n items=0)(ok:OkS n items B s){m:Move}(hm:m∈aY n items s)(hio:∀x∈n.Nodes,x.In.length<=1099511627776/\x.Out.length<=1099511627776):kz n items s m=some (doMv n items s m,0):=by have hS:=lP hsrc;obtain⟨h1,h2⟩:=J3 hm;rw[Do_eq n items s m hio (xV hS ok).a6,if_neg (by grind[wU]),if_neg (by grind),if_neg (by simp[h2])]
end
end
section
section
variable {α:Type}{s:State}
theorem nX {e:α->U UInt8}{m:α->Nat}(h:∀x,(e x).length<=10*m x)(l:U α):(lst e l).length<=10*mL m l:=by
 have key:∀l:U α,(l.flatMap e).length<=10*(l.map m).sum:=by
  intro l;induction l with
  |nil=>simp
  |cons x l ih=>
   grind
 grind[gh,lst,mL]
theorem DY (x:Item):(bR x).length<=10*dE x:=by grind[gh,bR,dE]
theorem Kq (x:Keyed):(ia x).length<=10*kH x:=by grind[gh,ia,kH]
theorem Js (x:Choice):(dj x).length<=10*iK x:=by grind[gh,dj,iK]
theorem Nt (x:Memory):(dY x).length<=10*gN x:=by have:=(gh x.Sum).1;have:=(gh x.Dep).1;have:=nX Kq x.Keys;grind[dY,gN]
theorem xO (s:State):(bI s).length<=10*oe s:=by have:=nX (e:=num) (m:=mI) (λx=>by simp[gh,mI]) s.At;have:=nX (nX DY) s.Rings;have:=nX Nt s.Memory;have:=nX Js s.Choices;have:=nX DY s.Out;grind[bI,oe]
theorem FI (m:α->Nat)(l:U α):1<=mL m l:=by unfold mL;omega
theorem KR (g:yY s)(h:oe s<=1048576):ob s/\(bI s).length<=BB:=by
 obtain⟨g1,g2,g3,g4,g5⟩:=g;have e1:s.At.length<=mL mI s.At:=kG (λ_=>by unfold mI;omega) _;have e2:s.Rings.length<=mL (mL dE) s.Rings:=kG (λl=>FI _ _) _;have e3:s.Memory.length<=mL gN s.Memory:=kG (λ_=>by simp[gN]) _;have e4:s.Choices.length<=mL iK s.Choices:=kG (λ_=>by simp[iK]) _;have e5:s.Out.length<=mL dE s.Out:=kG (λ_=>by unfold dE;omega) _;have hm:mL mI s.At+mL (mL dE) s.Rings+mL gN s.Memory+mL iK s.Choices+mL dE s.Out<=1048576:=h;refine⟨⟨⟨by omega,g1⟩,⟨by omega,λl hl=>⟨?_,g2 l hl⟩⟩,⟨by omega,λx hx=>⟨(g3 x hx).1,(g3 x hx).2.2,?_,(g3 x hx).2.1⟩⟩,⟨by omega,g4⟩,⟨by omega,g5⟩⟩,?_⟩
 .grind[dE,kG,wM]
 .grind[kH,kG,wM,gN]
 .have:=xO s;grind
theorem D0 (h:ob s):SmallS s:=⟨h.1.1,h.2.1.1,h.2.2.1.1,h.2.2.2.1.1,h.2.2.2.2.1,λl hl=>(h.2.1.2 l hl).1,λm hm=>(h.2.2.1.2 m hm).2.2.1⟩
theorem MX {n:Net}(h:mNet n<=1048576):∀x∈n.Nodes,x.In.length<=1099511627776/\x.Out.length<=1099511627776:=λx hx=>by grind[wM,mNode,mNet,mI,kG]
end
section
variable {n:Net} (items:List (List Item)) (s:State) (hio:∀x∈n.Nodes,x.In.length≤1099511627776∧x.Out.length≤1099511627776) (hs:ob s) (hB:(bI s).length≤BB)
include hio hs hB
theorem yS:iA n items s=some (if dI n items s≠0 then([],dI n items s)else(bI s,0)):=by rw[Ed n items s hs hB,th n items s hio (D0 hs).a6,QB];grind
end
def s0:State:=⟨[1,1],[[],[⟨2,2,0⟩],[⟨1,1,1⟩]],[⟨0,[],0⟩,⟨0,[],0⟩,⟨0,[],0⟩,⟨0,[],0⟩],[⟨2,0⟩],[]⟩
theorem Fi:bS noD:=⟨by decide,by decide,λs h=>(RZ h).elim,λs h=>(RZ h).elim⟩
end
section
def kvI(x:Item):Prop:=gI x.Key/\gI x.Val
def kvM(m:Memory):Prop:=gI m.Sum/\∀y,y∈m.Keys->gI y.Key
structure KV (s:State):Prop where
 rg:∀l,l∈s.Rings->∀x,x∈l->kvI x
 out:∀x,x∈s.Out->kvI x
 mm:∀m,m∈s.Memory->kvM m
theorem wy (z:Int):gI (IntKind.i64.wrap z):=by grind[gI,IntKind.wrap,IntKind.signed,IntKind.bits]
section
variable {key:Int}{l:U Keyed}{n:Net}{items:U (U Item)}{s:State}
theorem Ms (hk:gI key)(hl:∀y,y∈l->gI y.Key):(∀y,y∈(newK key l).1->gI y.Key)/\gI (newK key l).2:=by grind[newK,gI]
theorem NW (hk:gI key)(hl:∀y,y∈l->gI y.Key):(∀y,y∈(cntP key l).1->gI y.Key)/\gI (cntP key l).2:=by grind[cntP,wy,Ms]
theorem NE (f:Int)(x:Item):gI (mapP f x):=by grind[mapP,wy]
theorem MC {k f:Int}{m:Memory}{x:Item}(hm:kvM m)(hx:kvI x):kvM (dV k f m x).1/\kvI (dV k f m x).2:=by
 unfold dV;split
 .exact⟨hm,hx.1,NE f x⟩
 split
 .exact⟨⟨wy _,hm.2⟩,hx.1,wy _⟩
 split
 .obtain⟨h1,h2⟩:=NW hx.1 hm.2;exact⟨⟨hm.1,h1⟩,hx.1,h2⟩
 grind
theorem FG {y:Item}(hy:kvI y):∀(l:U Int) (R:U (U Item)),(∀q,q∈R->∀x,x∈q->kvI x)->∀q,q∈cT y l R->∀x,x∈q->kvI x
 |[],R,h=>h
 |r::l,R,h=>by
  show ∀q,q∈cT y l (R.set r.toNat (R.getD r.toNat []++[y]))->_;refine FG hy l _ λq hq x hx=>?_
  grind
theorem kv_do (hi:gL (gL dW) items)(h:KV s)(i k:Nat):KV (doM n items s i k):=by
 unfold doM;cases hh:dm n items s i k with
 |none=>exact h
 | some it=>
  have hx:kvI it:=by
   unfold dm at hh;split at hh
   .have h1:=QE hh;rw[QR]at h1;cases e:items[(ah n i).A.toNat]? with
    |none=>grind
    |some z=>
     rw[e]at h1;have:=hi z (QE e) it h1;exact⟨this.1,this.2.1⟩
   .have h1:=List.mem_of_mem_head? hh;rw[QR]at h1;cases e:s.Rings[dQ (ah n i) k]? with
    |none=>grind
    |some z=>rw[e]at h1;exact h.rg z (QE e) it h1
  have hm:kvM (memN s i):=by
   unfold memN;rw[QR];cases e:s.Memory[i]? with
   |none=>exact⟨by simp[gI],λy hy=>by cases hy⟩
   |some z=>exact h.mm z (QE e)
  have hc:kvI (chD (ah n i) s it):=by unfold chD;split;all_goals assumption
  obtain⟨h1,h2⟩:=MC (k:=(ah n i).Kind) (f:=(ah n i).A) hm hc;refine⟨?_,λx hx=>?_,λm hm=>?_⟩
  .refine FG h2 _ _ λq hq x hx=>?_
   split at hq
   .exact h.rg q hq x hx
   .rcases Rx hq with hq|hq
    .exact h.rg q hq x hx
    .rw[hq]at hx;have hx:=List.mem_of_mem_tail hx;rw[QR]at hx;cases e:s.Rings[dQ (ah n i) k]? with
     |none=>grind
     |some z=>rw[e]at hx;exact h.rg z (QE e) x hx
  .simp only at hx;split at hx
   .rcases QX.1 hx with hx|hx
    .exact h.out x hx
    .rw[List.mem_singleton.1 hx];exact h2
   .exact h.out x hx
  .rcases Rx hm with hm|hm
   .exact h.mm m hm
   .rw[hm];exact h1
theorem wb (n:Net)(items:U (U Item)):KV (bC n items):=by
 refine⟨λl hl x hx=>?_,λx hx=>?_,λm hm=>?_⟩
 .have:=(RW.1 hl).2;grind
 .cases hx
 .have:=(RW.1 hm).2;subst this;exact⟨by simp[gI],λy hy=>by cases hy⟩
theorem kv_s (hS:RightS n items)(hI:Inv n items s)(h:KV s):ob s:=by
 obtain⟨B,ok,hB⟩:=hI;have h2:=hS.n2;have h3:=hS.r2;have h4:=hS.l4;have hrg:=ok.rg;have hmm:=ok.mm;have hat:=ok.at_;have hch:=ok.ch;have hou:=ok.out;have hg:∀z:Int,0<=z->z<=1000000000000000000->gI z:=λz h1 h2=>by unfold gI;omega
 have hdep:∀x:Item,kvI x->0<=x.Dep->x.Dep<=s.Choices.length->dW x:=λx h1 h2 h3=>⟨h1.1,h1.2,hg _ h2 (by omega)⟩
 refine⟨⟨by omega,λp hp=>?_⟩,⟨by omega,λl hl=>?_⟩,⟨by omega,λm hm=>?_⟩,⟨by omega,λc hc=>?_⟩,⟨by omega,λx hx=>?_⟩⟩
 .obtain⟨a,ha⟩:=QL hp;have h5:=ok.atP a p ha;refine hg p h5.1 ?_;have:(items.getD a []).length<=20:=by
   rw[QR];cases e:items[a]? with
   |none=>simp
   |some z=>exact hS.l20 a z e
  omega
 .obtain⟨r,hr⟩:=QL hl;have:=ok.room r l hr;have:=hS.m2;exact⟨by omega,λx hx=>hdep x (h.rg l hl x hx) (ok.depR r l x hr hx).1 (ok.depR r l x hr hx).2⟩
 .obtain⟨i,hi⟩:=QL hm;obtain⟨o1,o2,o3⟩:=ok.mem i m hi;have hk:=h.mm m hm;refine⟨hk.1,hg _ o1.dep (by omega),by have:=o1.len;omega,λy hy=>⟨hk.2 y hy,?_⟩⟩;have:=o3 y hy;have:=o1.n y hy;grind
 .have:=ok.cho c hc;unfold vX at this;have hin:(ah n c.Node.toNat).In.length<=1000:=by
   have:=xY (hS.ndI c.Node.toNat (by omega)) (hS.inR c.Node.toNat (by omega)) hS.r1;omega
  exact⟨hg _ (by omega) (by omega),hg _ (by omega) (by omega)⟩
 .exact hdep x (h.out x hx) (ok.depO x hx).1 (ok.depO x hx).2
end
end
section
def eC(n:Net)(c:Choice)(m:Move):Bool:=!decide ((ah n m.Node.toNat).Kind=6)||(decide (m.Node=c.Node)&&decide (m.Lane=c.Lane))
def repM(n:Net)(items:List (List Item)):Nat->State->List Choice->Option (State×Int)
 |_,s,[]=>some (s,0)
 |0,s,_::_=>none
 |f+1,s,c::l=>
  match(aY n items s).find? (eC n c)with
  |none=>some (noS,11)
  |some m=>repM n items f (doMv n items s m) (if(ah n m.Node.toNat).Kind=6 then l else c::l)
section
variable {n:Net} {items:List (List Item)}
theorem y0{s:State}{m:Move}(h:m∈aY n items s):(doMv n items s m).Choices=if(ah n m.Node.toNat).Kind=6 then s.Choices++[⟨m.Node,m.Lane⟩]else s.Choices:=by grind[nJ,wg,doMv,doM]
theorem wF(hS:RightS n items)(hi:gL (gL dW) items):∀(f:Nat) (s:State) (l:U Choice),Inv n items s->KV s->muN n items s<f ->
  ∃r,repM n items f s l=some r/\(r.2=0->Inv n items r.1/\KV r.1/\r.1.Choices=s.Choices++l)/\(r.2≠0->r=(noS,11))
 |f,s,[],hI,hk,hf=>⟨(s,0),by cases f<;>rfl,λ_=>⟨hI,hk,by simp⟩,λh=>absurd rfl h⟩
 |0,s,c::l,hI,hk,hf=>by omega
 | f+1,s,c::l,hI,hk,hf=>by
  unfold repM;cases hm:(aY n items s).find? (eC n c)with
  |none=>simp
  |some m=>
   have hmem:=RI hm;obtain⟨h1,h2⟩:=hI.doMv hS hmem;have hk':KV (doMv n items s m):=kv_do hi hk _ _;have hch:=y0 hmem;obtain⟨r,e1,e2,e3⟩:=wF hS hi f (doMv n items s m) (if(ah n m.Node.toNat).Kind=6 then l else c::l) h1 hk' (by omega);refine⟨r,e1,λh0=>?_,e3⟩;obtain⟨g1,g2,g3⟩:=e2 h0;refine⟨g1,g2,?_⟩;rw[g3,hch];by_cases h6:(ah n m.Node.toNat).Kind=6
   .rw[if_pos h6,if_pos h6];have hb:=List.find?_some hm;simp_all[eC]
   grind
end
end
section
theorem M3(p:U UInt8)(h:okP p):one (frm p)=some p:=by
 have h1:=CO p [] h;rw[RV]at h1;have h2:=qg p;have h3:records (frm p).length (frm p)=([p],p.length+3):=by
  rw[h2];unfold records;rw[h1];have h4:(frm p).drop (p.length+3)=[]:=by grind
  have h5:∀m,records m []=([],0):=λm=>by cases m<;>rfl
  grind
 simp_all[one]
theorem Ev(epoch n:Nat)(b:U UInt8)(k:Nat)(hk:k<60):secP (frm (pay epoch n b k)) k=some (pay epoch n b k):=by
 have h1:=yH epoch n b k;unfold secP;rw[M3 _ (F8 epoch n b k)];simp only;have h2:((pay epoch n b k).getD 1 0).toNat=k:=by unfold pay;simp;omega
 grind
theorem tj:∀(ws:U Write) (s:U UInt8) (i:Int),(∀w,w∈ws->w.At≠i)->seen s ws i=s
 |[],s,i,h=>rfl
 |w::ws,s,i,h=>by show seen (if w.At=i then w.Bytes else s) ws i=s;rw[if_neg (h w (.head _))];exact tj ws s i λx hx=>h x (.tail _ hx)
theorem E1:∀(ws:U Write) (s:U UInt8) (i:Int),seen s ws i=s∨∃w,w∈ws/\w.At=i/\seen s ws i=w.Bytes
 |[],s,i=>.inl J
 |w::ws,s,i=>by
  have e:seen s (w::ws) i=seen (if w.At=i then w.Bytes else s) ws i:=rfl;rw[e];rcases E1 ws (if w.At=i then w.Bytes else s) i with h|⟨x,hx,h1,h2⟩
  all_goals grind
section
variable (slot epoch n:Nat) (b:List UInt8)
theorem wv:∀(K:Nat) (w:Write),w∈wsP slot epoch n b K->∃k,k<=K/\w=wOf slot epoch n b k
 |0,w,h=>⟨0,QJ _,by simpa [wsP]using h⟩
 |K+1,w,h=>by
  rcases Rl.1 h with h|h
  .grind
  .obtain⟨k,h1,h2⟩:=wv K w h;grind
theorem DP:∀(K m:Nat) (w:Write),m<=K->w∈(wsP slot epoch n b K).take m->∃k,1<=k/\k<=K/\w=wOf slot epoch n b k
 |K,0,w,hm,h=>by simp at h
 |0,m+1,w,hm,h=>by omega
 |K+1,m+1,w,hm,h=>by
  rw[show wsP slot epoch n b (K+1)=wOf slot epoch n b (K+1)::wsP slot epoch n b K from J,List.take_succ_cons]at h;rcases Rl.1 h with h|h
  .grind
  .obtain⟨k,h1,h2,h3⟩:=DP K m w (by omega) h;grind
theorem DC:∀(K k:Nat) (s:U UInt8),k<=K->seen s (wsP slot epoch n b K) ((60*slot+k:Nat):Int)=frm (pay epoch n b k)
 |0,k,s,h=>by
  have:k=0:=by omega
  subst this;show(if(wOf slot epoch n b 0).At=((60*slot+0:Nat):Int)then(wOf slot epoch n b 0).Bytes else s)=_;simp[wOf]
 | K+1,k,s,h=>by
  show seen (if(wOf slot epoch n b (K+1)).At=((60*slot+k:Nat):Int)then(wOf slot epoch n b (K+1)).Bytes else s) (wsP slot epoch n b K) ((60*slot+k:Nat):Int)=_;by_cases hk:k=K+1
  .subst hk;rw[if_pos (show(wOf slot epoch n b (K+1)).At=((60*slot+(K+1):Nat):Int)from J),tj _ _ _ λw hw=>?_]
   .rfl
   .obtain⟨j,h1,rfl⟩:=wv slot epoch n b K w hw;show((60*slot+j:Nat):Int)≠_;omega
  .exact DC K k _ (by omega)
theorem Nw(hs:slot<=1){K:Nat}(hK:K<60):∀w,w∈wsP slot epoch n b K->okW w:=λw hw=>by grind[wv,FQ]
end
theorem B6{A B:U (U UInt8)}{slot:Nat}(h:∀k,k<60->gt A (60*slot+k)=gt B (60*slot+k)):d6 A slot=d6 B slot:=by
 have h0:=h 0 (by omega);rw[RL]at h0;have key:∀(hd:U UInt8) (m k:Nat) (acc:U UInt8),k+m<=60->col A slot hd m k acc=col B slot hd m k acc:=by
  intro hd m;induction m with
  |zero=>intro k acc _;rfl
  |succ m ih=>
   grind[col]
 grind[d6]
theorem KH{S:U (U UInt8)}{slot epoch n:Nat}{b:U UInt8}(he:epoch<=200)(hn:n=(b.length+49)/ 50)(h60:n<60)(h:∀k,k<=n->gt S (60*slot+k)=frm (pay epoch n b k)):d6 S slot=some (b,epoch):=by
 have h0:=h 0 (by omega);rw[RL]at h0;have hp0:pay epoch n b 0=[UInt8.ofNat epoch,UInt8.ofNat 0,UInt8.ofNat n]:=by rfl
 have e1:(UInt8.ofNat epoch).toNat=epoch:=by simp;omega
 have e2:(UInt8.ofNat n).toNat=n:=by simp;omega
 have key:∀(m k:Nat) (acc:U UInt8),k+m=n+1->1<=k->acc=b.take (50*(k- 1))->col S slot [UInt8.ofNat epoch,UInt8.ofNat 0,UInt8.ofNat n] m k acc=some b:=by
  intro m;induction m with
  |zero=>
   intro k acc hk h1 ha;show some acc=some b;grind[List.take_of_length_le]
  |succ m ih=>
   intro k acc hk h1 ha;unfold col;rw[h k (by omega),Ev epoch n b k (by omega)];simp only;have hp:pay epoch n b k=[UInt8.ofNat epoch,UInt8.ofNat k,UInt8.ofNat n]++(b.take (50*k)).drop (50*(k- 1)):=by simp_all[pay]
   have hl:(pay epoch n b k).length=3+(min (50*k) b.length- 50*(k- 1)):=by grind
   have hd:(pay epoch n b k).drop 3=(b.take (50*k)).drop (50*(k- 1)):=by rw[hp];rfl
   have g0:(pay epoch n b k).getD 0 0=UInt8.ofNat epoch:=by rw[hp];rfl
   have g2:(pay epoch n b k).getD 2 0=UInt8.ofNat n:=by rw[hp];rfl
   rw[if_pos ⟨g0,g2,by omega⟩];refine ih (k+1) _ (by omega) (by omega) ?_;rw[hd,ha];have:b.take (50*(k- 1))=(b.take (50*k)).take (50*(k- 1)):=by grind
   simp_all
 unfold d6;rw[h0,Ev epoch n b 0 (by omega),hp0];grind
end
def okC(c:Choice):Prop:=0<=c.Node/\c.Node<12/\0<=c.Lane/\c.Lane<16
instance (c:Choice):Decidable (okC c):=by unfold okC;infer_instance
def fu(c:Choice):List UInt8:=[UInt8.ofNat c.Node.toNat,UInt8.ofNat c.Lane.toNat]
def numsC(c:Choice):List Int:=[c.Node,c.Lane]
def eq(l:List Choice):List UInt8×Int:=if 30<l.length then([],2)else if ∀c,c∈l->okC c then(l.flatMap fu,0)else([],3)
theorem Ol(c:Choice):((decide (c.Node<0))||((decide (c.Node>=12))||((decide (c.Lane<0))||decide (c.Lane>=16))))=!decide (okC c):=by grind[okC]
theorem DO{n:Int}(h0:0<=n)(h1:n<256):IntKind.u8.wrap n=n:=by
 have:n=((n.toNat:Nat):Int):=by omega
 grind[wO]
theorem Oo(l:U Choice)(h:∀c,c∈l->okC c):cq (l.flatMap numsC)=l.flatMap fu:=by
 induction l with
 |nil=>rfl
 |cons c l ih=>
  grind[cq,numsC,fu]
theorem u7(l:U Choice):sv l=some (eq l):=by
 unfold sv eq;by_cases h1:30<l.length
 .grind
 rw[if_neg (by simp;omega),if_neg h1];have:=nK (σ:=U Int) l (by omega) (λk st=>((k:Int),st)) (body:=λss:Int×U Int=>m7 l ss.1 ss.2)
  (λk c st=>if okC c then(app st (numsC c)).map .inl else some (.inr ([],3))) (λst=>some (cq st,0)) []
  (λk c st _ _ h1 h2 h3=>by
   show m7 l (k:Int) st=_;unfold m7;rw[h2,h1,h3];simp only[if_true,QB,Ol];by_cases hc:okC c
   .have hn:=hc;unfold okC at hn;rw[if_neg (by simp[hc]),if_pos hc,DO (by omega) (by omega),DO (by omega) (by omega)];grind[app,numsC]
   grind)
  (λst h=>by simp[m7])
 refine Eq.trans this ?_;have fold:∀(ys:U Choice) (k:Nat) (st:U Int),st.length+2*ys.length<=1099511627776 ->
   d9 (σ:=U Int) (λk c st=>if okC c then(app st (numsC c)).map .inl else some (.inr ([],3))) (λst=>some (cq st,0)) k ys st=some (if ∀c,c∈ys->okC c then(cq (st++ys.flatMap numsC),(0:Int))else([],3)):=by
  intro ys
  induction ys with
  |nil=>simp[d9]
  | cons y ys ih=>
   intro k st hl
   simp only[Rq]at hl
   unfold d9
   by_cases hy:okC y
   .rw[if_pos hy,bT (by simp[numsC];omega)]
    simp only[Ra]
    rw[ih (k+1) _ (by simp[numsC];omega)]
    grind
   grind
 rw[fold l 0 [] (by simp;omega)];by_cases hall:∀c,c∈l->okC c;all_goals (simp_all[Oo])
def e6:List UInt8->Option (List Choice)
 |[]=>some []
 |[_]=>none
 |a::b::r=>if a.toNat<12/\b.toNat<16 then(e6 r).map λl=>⟨a.toNat,b.toNat⟩::l else none
theorem CM:∀(b:U UInt8) (l:U Choice),e6 b=some l->2*l.length=b.length
 |[],l,h=>by grind[e6]
 |[_],l,h=>by grind[e6]
 | a::b::r,l,h=>by
  unfold e6 at h;split at h
  .cases hr:e6 r with
   |none=>grind
   |some q=>
    rw[hr]at h;cases h;have:=CM r q hr;simp;omega
  .cases h
theorem BT:∀(b:U UInt8),b.length% 2=1->e6 b=none
 |[],h=>by simp at h
 |[_],_=>rfl
 |a::b::r,h=>by unfold e6;rw[BT r (by grind)];split<;>rfl
def lM(b:List UInt8):List Choice×Int:=if 60<b.length then([],2)else match e6 b with|none=>([],12)|some l=>(l,0)
theorem HK(b:U UInt8):r9 b=some (lM b):=by
 unfold r9 lM;by_cases h1:60<b.length
 .grind
 rw[if_neg (by simp;omega),if_neg h1];have hrem:rem (b.length:Int) 2=some ((b.length% 2:Nat):Int):=by rfl
 rw[hrem];simp only[QB];by_cases h2:b.length% 2=1
 .simp_all[BT]
 rw [if_neg (by simp;omega)];have key:∀(n k:Nat) (acc:U Choice),k+2*n=b.length->acc.length<=k ->
   iter (λss:Int×U Choice=>j7 b ss.1 ss.2) ((k:Int),acc)=some (match e6 (b.drop k)with|none=>([],12)|some l=>(acc++l,0)):=by
  intro n
  induction n with
  |zero=>
   simp_all[j7,aF,e6]
  | succ n ih=>
   intro k acc hk ha
   have hlt:k<b.length:=by omega
   have hlt2:k+1<b.length:=by omega
   have hd:b.drop k=b[k]::b[k+1]::b.drop (k+2):=by simp
   have hx:=bj (QC hlt)
   have hy:=bj (QC hlt2)
   generalize b[k]=x at hd hx
   generalize b[k+1]=y at hd hy
   have w1:=bc (k:=k) (by omega)
   have w2:IntKind.i64.wrap ((k:Int)+2)=((k+2:Nat):Int):=by grind[bq]
   rw[hd]
   unfold e6
   by_cases hc:x.toNat<12/\y.toNat<16
   .have e:j7 b (k:Int) acc=some (.inl (((k+2:Nat):Int),acc++[⟨x.toNat,y.toNat⟩])):=by
     unfold j7;rw[if_pos (by simp;omega),hx,w1];simp only[QB];rw[hy];simp only[QB,fM];rw[if_neg (by simp;omega),bT (by simp;omega)];grind
    rw[aF];simp only[e]
    rw[ih (k+2) _ (by omega) (by simp;omega),if_pos hc]
    grind
   .have e:j7 b (k:Int) acc=some (.inr ([],12)):=by
     unfold j7;rw[if_pos (by simp;omega),hx,w1];simp only[QB];rw[hy];simp only[QB,fM];grind
    rw[aF];grind
 have:=key (b.length/ 2) 0 [] (by omega) (by simp);grind
theorem Bd:∀(l:U Choice),(∀c,c∈l->okC c)->e6 (l.flatMap fu)=some l
 |[],_=>rfl
 |c::l,h=>by
  have hc:=h c (by simp);unfold okC at hc;have ih:=Bd l (λx hx=>h x (by simp[hx]));simp only[RX,fu,List.cons_append,R6];unfold e6;have e1:(UInt8.ofNat c.Node.toNat).toNat=c.Node.toNat:=by simp;omega
  have e2:(UInt8.ofNat c.Lane.toNat).toNat=c.Lane.toNat:=by simp;omega
  rw[e1,e2,if_pos (by omega)];have:l.flatMap (λc=>[UInt8.ofNat c.Node.toNat,UInt8.ofNat c.Lane.toNat])=l.flatMap fu:=rfl;rw[show(List.flatMap fu l)=l.flatMap fu from J,ih];simp only[Ra,Rv,Si,and_true];cases c;grind
theorem xX(l:U Choice):(l.flatMap fu).length=2*l.length:=by
 induction l with
 |nil=>rfl
 |cons c l ih=>grind[fu]
def eg(ep:Int)(s:List UInt8):List Choice:=
 match records s.length s with
 |([p],n)=>if n=s.length/\p.head?.map (λc=>(c.toNat:Int))=some ep then(lM p.tail).1 else[]
 |_=>[]
def bw(ep:Int):List (List UInt8)->List Choice×Nat
 |[]=>([],0)
 |s::r=>if eg ep s=[]then([],0)else(eg ep s++(bw ep r).1,1+(bw ep r).2)
theorem Lu{b p:U UInt8}(h:iR b=some p):p≠[]/\p.length<=60:=by
 cases b with
 |nil=>cases h
 |cons c t=>
  grind[iR]
theorem BA:∀(n:Nat) (b p:U UInt8),p∈(records n b).1->p≠[]/\p.length<=60
 |0,b,p,h=>by simp[records]at h
 | n+1,b,p,h=>by
  unfold records at h;split at h
  .simp at h
  .rename_i q hq;rcases Rl.1 h with h|h
   .grind[Lu]
   .exact BA n _ p h
theorem BU(ep:Int)(s:U UInt8):
  ((records s.length s).1.length≠1/\eg ep s=[])∨
  ∃c t,(records s.length s).1=[c::t]/\t.length<=59/\(((records s.length s).2≠s.length/\eg ep s=[])∨((records s.length s).2=s.length/\(c.toNat:Int)≠ep/\eg ep s=[])∨((records s.length s).2=s.length/\(c.toNat:Int)=ep/\eg ep s=(lM t).1)):=by
 have hm:=λp=>BA s.length s p
 unfold eg
 generalize records s.length s=R at hm
 obtain⟨l,n⟩:=R
 match l,hm with
 |[],_=>simp
 |a::b::r,_=>simp
 | [p],hm=>
  have:=hm p (by simp)
  cases p with
  |nil=>grind
  |cons c t=>
   grind
theorem BK{t:U UInt8}(h:t.length<=59):(lM t).1=(e6 t).getD []/\lM t=match e6 t with|none=>([],12)|some l=>(l,0):=by
 have e:lM t=match e6 t with|none=>([],12)|some l=>(l,0):=by unfold lM;grind
 grind
theorem Cq(S:U (U UInt8))(w:U Write)(ep:Int)(k:Nat)(h:∀s,s∈S->okS s):pe (k:Int) S w ep=some (match S[k]? with|some s=>eg ep s|none=>[]):=by
 unfold pe;by_cases hk:S.length<=k
 .grind
 rw[if_neg (by simp;omega)];obtain⟨s,hs⟩:∃s,S[k]?=some s:=⟨_,QC (by omega)⟩
 have hsl:=h s (QE hs);unfold okS at hsl;rw[bj hs];simp only[QB,A3,hs];have hr:readR s=((records s.length s).1,((records s.length s).2:Int),0):=by unfold readR;grind
 rw[hr];simp only;rcases BU ep s with⟨h1,h2⟩|⟨c,t,h1,ht,h3⟩
 .grind
 .rw[h1,if_neg (by simp)];have e0:ixN [c::t] 0=some 0:=dL (xs:=[c::t]) (k:=0) (by simp);have e1:idx (c::t) 0=some c:=by simp[idx]
  have e2:sub (c::t) 1 ((c::t).length:Int)=some t:=by have:=jx (xs:=c::t) (i:=1) (by simp);grind
  rw[e0];simp only[QB,Sc,e1,fM];rcases h3 with⟨h4,h5⟩|⟨h4,h5,h6⟩|⟨h4,h5,h6⟩
  .grind
  all_goals (simp_all[HK])
theorem DN(ep:Int)(s:U UInt8):(eg ep s).length<=30:=by
 rcases BU ep s with⟨h1,h2⟩|⟨c,t,h1,ht,h3⟩
 all_goals (grind[BK,CM])
theorem Fe{d:Disk}(hd:bS d)(ep:Int)(h0:0<=ep)(h1:ep<=200):nP d ep=some ((bw ep (d.Sectors.drop 120)).1,((bw ep (d.Sectors.drop 120)).2:Int),0):=by
 have hh:=hd;unfold bS at hh;unfold nP;rw[jv hd];simp only[QB];rw[if_neg (by simp),if_neg (by simp;omega)];have r0:=Cq d.Sectors d.Wait ep 120 hd.2.2.1;rw[show((120:Nat):Int)=120 from J]at r0;rw[r0];simp only[QB];have key:∀(n k:Nat) (acc:U Choice),120+k+n=d.Sectors.length∨(n=0/\d.Sectors.length<=120+k/\k<=200)->acc.length<=30*k ->
   iter (λip:Int×(U Choice)×(U Choice)=>kf d ep ip.1 ip.2.1 ip.2.2) ((k:Int),acc,(match d.Sectors[120+k]? with|some s=>eg ep s|none=>[]))=some (acc++(bw ep (d.Sectors.drop (120+k))).1,((k+(bw ep (d.Sectors.drop (120+k))).2:Nat):Int),0):=by
  intro n
  induction n with
  |zero=>
   intro k acc hk ha
   rw[RH (by omega)]
   have e:kf d ep (k:Int) acc []=some (.inr (acc,(k:Int),0)):=by rfl
   grind[aF,List.drop_of_length_le,bw]
  | succ n ih=>
   intro k acc hk ha
   have hlt:120+k<d.Sectors.length:=by omega
   obtain⟨s,hs⟩:∃s,d.Sectors[120+k]?=some s:=⟨_,QC hlt⟩
   have hdr:d.Sectors.drop (120+k)=s::d.Sectors.drop (120+(k+1)):=by grind[List.drop_eq_getElem_cons]
   rw[hs,hdr]
   simp only
   by_cases hc:eg ep s=[]
   .have e:kf d ep (k:Int) acc (eg ep s)=some (.inr (acc,(k:Int),0)):=by
     simp_all[kf]
    grind[aF,bw]
   .have hlen:=DN ep s
    have hpos:0<(eg ep s).length:=RE.2 hc
    have r1:=Cq d.Sectors d.Wait ep (120+(k+1)) hd.2.2.1
    have e:kf d ep (k:Int) acc (eg ep s)=some (.inl (((k+1:Nat):Int),acc++eg ep s,(match d.Sectors[120+(k+1)]? with|some s=>eg ep s|none=>[]))):=by unfold kf;rw[if_pos (by simp;omega),bT (by omega),bc (by omega),bq (n:=120+((k+1:Nat):Int)) (by omega) (by omega)];grind
    rw[aF];simp only[e]
    rw[ih (k+1) _ (by omega) (by simp;omega)]
    simp[bw,hc];omega
 by_cases hlong:120<=d.Sectors.length
 .have:=key (d.Sectors.length- 120) 0 [] (.inl (by omega)) (by simp);grind
 .have:=key 0 0 [] (.inr ⟨J,by omega,by omega⟩) (by simp);grind
def dh(ep:Nat)(S:List (List UInt8)):Nat->Nat->List Choice->List Write->Disk×Int×Int
 |0,a,_,w=>(⟨S,w⟩,(a:Int),0)
 |n+1,a,l,w=>
  if l=[]then(⟨S,w⟩,(a:Int),0)
  else if(eq (l.take 29)).2≠0 then(⟨[],[]⟩,0,(eq (l.take 29)).2)
  else if a=80 then(⟨[],[]⟩,0,8)
  else if w.length=300 then(⟨[],[]⟩,0,8)
  else dh ep S n (a+1) (l.drop 29) (w++[⟨((120+a:Nat):Int),frm (UInt8.ofNat ep::(eq (l.take 29)).1)⟩])
theorem BC(l:U Choice)(h:l.length<=29):(eq l).1.length<=58:=by unfold eq;rw[if_neg (by omega)];grind[xX]
theorem KX(ep:Nat)(hep:ep<=200)(S:U (U UInt8)):∀(n a:Nat) (l:U Choice) (w:U Write),l.length<=n->l.length<=1099511627776->a<=80->bS ⟨S,w⟩ ->
  iter (λw6:Int×(U Choice)×(U (U UInt8))×(U Write)=>gc (ep:Int) w6.1 w6.2.1 w6.2.2.1 w6.2.2.2) ((a:Int),l,S,w)=some (dh ep S n a l w):=by
 intro n
 induction n with
 |zero=>
  intro a l w h hl ha hd
  have hl0:l=[]:=QK (by omega)
  subst hl0
  have e:gc (ep:Int) (a:Int) [] S w=some (.inr (⟨S,w⟩,(a:Int),0)):=by rfl
  rw[aF];rfl
 | succ n ih=>
  intro a l w h hl ha hd
  by_cases hl0:l=[]
  .subst hl0
   simp[gc,aF,dh]
  have hpos:0<l.length:=RE.2 hl0
  have hmin:(if((l).length:Int)<29 then((l).length:Int)else 29)=((min l.length 29:Nat):Int):=by omega
  have htake:l.take (min l.length 29)=l.take 29:=by grind
  have hdrop:l.drop (min l.length 29)=l.drop 29:=by grind
  have s1:sub l 0 ((min l.length 29:Nat):Int)=some (l.take 29):=by grind[sub_0]
  have s2:sub l ((min l.length 29:Nat):Int) (l.length:Int)=some (l.drop 29):=by grind[jx]
  have hcl:=BC (l.take 29) (by simp;omega)
  unfold dh
  rw[if_neg hl0]
  by_cases hc:(eq (l.take 29)).2≠0
  .have e:gc (ep:Int) (a:Int) l S w=some (.inr (⟨[],[]⟩,0,(eq (l.take 29)).2)):=by
    unfold gc;simp_all[u7]
   rw[aF];grind
  have hput:putFr (UInt8.ofNat ep::(eq (l.take 29)).1)=(frm (UInt8.ofNat ep::(eq (l.take 29)).1),0):=by unfold putFr;grind
  have hfl:(frm (UInt8.ofNat ep::(eq (l.take 29)).1)).length<=62:=by simp[frm];omega
  rw[if_neg hc]
  by_cases ha80:a=80
  .have e:gc (ep:Int) (a:Int) l S w=some (.inr (⟨[],[]⟩,0,8)):=by
    unfold gc;rw[if_pos (by simp;omega),hmin,s1];simp only[QB,u7];rw[if_neg (by grind),str_1,nW (by simp;omega)];simp_all[vp,bq]
   rw[aF];grind
  rw[if_neg ha80]
  have hh:=hd
  unfold bS at hh
  have w120:IntKind.i64.wrap (120+(a:Int))=((120+a:Nat):Int):=by grind[bq]
  by_cases hw:w.length=300
  .have hW:jt ⟨S,w⟩ ((120+a:Nat):Int) (frm (UInt8.ofNat ep::(eq (l.take 29)).1))=some (⟨[],[]⟩,8):=by
    unfold jt;rw[jv hd];grind
   have e:gc (ep:Int) (a:Int) l S w=some (.inr (⟨[],[]⟩,0,8)):=by unfold gc;rw[if_pos (by simp;omega),hmin,s1];simp only[QB,u7];rw[if_neg (by grind),str_1,nW (by simp;omega)];simp_all[vp]
   rw[aF];grind
  rw[if_neg hw]
  have hW:=C9 hd ((120+a:Nat):Int) (frm (UInt8.ofNat ep::(eq (l.take 29)).1)) (by omega) (by omega) (by omega) (by grind)
  have e:gc (ep:Int) (a:Int) l S w=some (.inl (((a+1:Nat):Int),l.drop 29,S,w++[⟨((120+a:Nat):Int),frm (UInt8.ofNat ep::(eq (l.take 29)).1)⟩])):=by unfold gc;rw[if_pos (by simp;omega),hmin,s1];simp only[QB,u7];rw[if_neg (by grind),str_1,nW (by simp;omega)];simp only[QB,Sh,vp,hput,w120];rw[if_neg (by simp;omega),hW];simp only[QB];rw[if_neg (by simp),s2,bc (by omega)];rfl
  rw[aF];simp only[e]
  refine ih (a+1) (l.drop 29) _ (by simp;omega) (by simp;omega) (by omega) ⟨hh.1,?_,hd.2.2.1,?_⟩
  .grind
  .intro x hx
   rcases QX.1 hx with hx|hx
   .grind
   .simp at hx;subst hx;exact⟨by simp;omega,by simp;omega,by grind⟩
theorem CS{d:Disk}(hd:bS d)(ep a:Nat)(l:U Choice)(hep:ep<=200)(ha:a<=80)(hl:l.length<=1099511627776):nI d (ep:Int) (a:Int) l=some (dh ep d.Sectors l.length a l d.Wait):=by unfold nI;rw[jv hd];simp only[QB];rw[if_neg (by simp),if_neg (by simp;omega)];exact KX ep hep d.Sectors l.length a l d.Wait (QJ _) hl ha hd
def f3:List UInt8:=frm [3,2,1]
theorem yy(ep:Int):∀S:U (U UInt8),(bw ep S).1.length<=30*S.length
 |[]=>by simp[bw]
 |s::S=>by unfold bw;have:=yy ep S;grind[DN]
def goodR(c:List Choice):Prop:=c≠[]/\c.length<=29/\∀x,x∈c->okC x
def recB(ep:Nat)(c:List Choice):List UInt8:=frm (UInt8.ofNat ep::c.flatMap fu)
def wr(ep:Nat):Nat->List (List Choice)->List Write
 |_,[]=>[]
 |k,c::cs=>⟨((120+k:Nat):Int),recB ep c⟩::wr ep (k+1) cs
theorem LD(ep:Nat)(c:U Choice)(h:c.length<=29):(recB ep c).length<=62:=by grind[recB,qg,xX]
theorem wr_ok(ep:Nat):∀(k:Nat) (cs:U (U Choice)),k+cs.length<=80->(∀c,c∈cs->goodR c)->∀w,w∈wr ep k cs->okW w
 |_,[],_,_,w,hw=>by simp[wr]at hw
 |k,c::cs,h,hc,w,hw=>by
  simp only[Rq]at h;simp only[wr,Rl]at hw;rcases hw with rfl|hw
  .exact⟨by grind,by grind,by show(recB ep c).length<=64;have:=LD ep c (hc c (by simp)).2.1;omega⟩
  .exact wr_ok ep (k+1) cs (by omega) (λx hx=>hc x (by simp[hx])) w hw
theorem Fc(ep:Nat)(S:U (U UInt8)):∀(n a:Nat) (l:U Choice) (w:U Write),l.length<=n->a<=80->(dh ep S n a l w).2.2=0 ->
  ∃cs:U (U Choice),dh ep S n a l w=(⟨S,w++wr ep a cs⟩,((a+cs.length:Nat):Int),0)/\l=cs.flatten/\(∀c,c∈cs->goodR c)/\a+cs.length<=80
 |0,a,l,w,h,ha,_=>by
  have hl0:l=[]:=QK (by omega);exact⟨[],by simp[dh,wr],by simp[hl0],by simp,by omega⟩
 | n+ 1,a,l,w,h,ha,he=>by
  unfold dh at he ⊢;by_cases hl0:l=[]
  .rw[if_pos hl0];exact⟨[],by simp[wr],by simp[hl0],by simp,by omega⟩
  rw[if_neg hl0]at he ⊢;by_cases hc:(eq (l.take 29)).2≠0
  .grind
  rw[if_neg hc]at he ⊢;by_cases h80:a=80
  .grind
  rw[if_neg h80]at he ⊢;by_cases h300:w.length=300
  .grind
  rw[if_neg h300]at he ⊢;have hpos:0<l.length:=RE.2 hl0;have hall:∀x,x∈l.take 29->okC x:=by
   by_cases hall:∀x,x∈l.take 29->okC x
   .exact hall
   .exfalso;apply hc;unfold eq;grind
  have hch:eq (l.take 29)=((l.take 29).flatMap fu,0):=by unfold eq;grind
  rw[hch]at he ⊢;obtain⟨cs,h1,h2,h3,h4⟩:=Fc ep S n (a+1) (l.drop 29) _ (by simp;omega) (by omega) he;refine⟨l.take 29::cs,?_,?_,?_,by simp;omega⟩
  .grind[wr,recB]
  .grind[List.take_append_drop]
  .intro c hc;rcases Rl.1 hc with rfl|hc
   .exact⟨λh0=>by simp_all,by simp;omega,hall⟩
   grind
theorem LU(ep ep':Nat)(he:ep<=200)(c:U Choice)(hc:goodR c):eg (ep':Int) (recB ep c)=if ep=ep' then c else[]:=by
 have hb:=xX c;have hok:okP (UInt8.ofNat ep::c.flatMap fu):=⟨by simp,by rw[Rq];have:=hc.2.1;omega⟩
 have hr:records (recB ep c).length (recB ep c)=([UInt8.ofNat ep::c.flatMap fu],(recB ep c).length):=by have hl:(recB ep c).length=(UInt8.ofNat ep::c.flatMap fu).length+3:=qg _;have h0:=CO (UInt8.ofNat ep::c.flatMap fu) [] hok;grind[iR,recB,records]
 unfold eg;rw[hr];have hep:((UInt8.ofNat ep).toNat:Int)=(ep:Int):=by simp;omega
 simp only[List.head?_cons,Ra,hep,true_and,List.tail_cons,Rv];by_cases h:ep=ep'
 .rw[if_pos (by omega),if_pos h,(BK (by have:=hc.2.1;omega)).1,Bd c hc.2.2];rfl
 grind
section
def logW(E:Nat)(w:Write):Prop:=okW w/\120<=w.At/\∀ep:Nat,ep≠E->eg (ep:Int) w.Bytes=[]
theorem Fp(E:Nat)(he:E<=200):∀(k:Nat) (cs:U (U Choice)),k+cs.length<=80->(∀c,c∈cs->goodR c)->∀w,w∈wr E k cs->logW E w
 |_,[],_,_,w,hw=>by simp[wr]at hw
 | k,c::cs,h,hc,w,hw=>by
  have hok:=wr_ok E k (c::cs) h hc w hw;simp only[wr,Rl]at hw;rcases hw with rfl|hw
  .refine⟨hok,by grind,λep hne=>?_⟩;show eg (ep:Int) (recB E c)=[]
   rw[LU E ep he c (hc c Q8),if_neg (λe=>hne e.symm)]
  .exact Fp E he (k+1) cs (by grind) (λx hx=>hc x (Rf _ hx)) w hw
structure Held (P:List UInt8->Prop) (E:Nat) (S:List (List UInt8)):Prop where
 own:E≠0->∃b,P b/\d6 S (E% 2)=some (b,E)
 old:∀(sl:Nat) (h:List UInt8),sl<=1->secP (gt S (60*sl)) 0=some h->(h.getD 0 0).toNat=0∨(h.getD 0 0).toNat<E∨(sl=E% 2/\(h.getD 0 0).toNat<=E)
 log:∀(i ep:Nat),120<=i->E<ep->eg (ep:Int) (gt S i)=[]
theorem Ct{S:U (U UInt8)}{sl:Nat}{x:U UInt8×Nat}(h:d6 S sl=some x):∃hd,secP (gt S (60*sl)) 0=some hd/\x.2=(hd.getD 0 0).toNat/\x.2<=200:=by grind[d6,Option.map_eq_some_iff]
section
variable {P:List UInt8→Prop} {E:Nat} {S:List (List UInt8)}
theorem Held.other (h:Held P E S){sl:Nat}{x:U UInt8×Nat}(hs:sl<=1)(hx:d6 S sl=some x):x.2=0∨x.2<E∨(sl=E% 2/\x.2<=E):=by obtain⟨hd,h1,h2,_⟩:=Ct hx;rw[h2];exact h.old sl hd hs h1
theorem LC:Held P 0 []:=by refine⟨λh=>absurd J h,λsl h hs h1=>?_,λi ep _ _=>J⟩;have e:gt [] (60*sl)=[]:=rfl;rw[e]at h1;cases h1
variable {ws:U Write}{b:U UInt8}
theorem Fl (hw:∀w,w∈ws->logW E w){i:Nat}(hi:i<120):gt (bx S ws) i=gt S i:=by rw[qi ws S i (λw h=>(hw w h).1),tj _ _ _ (λw h=>by have:=(hw w h).2.1;omega)]
theorem Held.logs (h:Held P E S)(hw:∀w,w∈ws->logW E w):Held P E (bx S ws):=by
 have hg:∀sl,sl<=1->d6 (bx S ws) sl=d6 S sl:=λsl hs=>B6 λk hk=>Fl hw (by omega)
 refine⟨λh0=>?_,λsl hd hs h1=>?_,λi ep hi he=>?_⟩
 .rw[hg _ (by omega)];exact h.own h0
 .rw[Fl hw (by omega)]at h1;exact h.old sl hd hs h1
 .rw[qi ws S i (λw h=>(hw w h).1)];rcases E1 ws (gt S i) i with e|⟨w,h1,_,e⟩
  .rw[e];exact h.log i ep hi he
  .rw[e];exact(hw w h1).2.2 ep (by omega)
def fB(E:Nat)(b:List UInt8):List Write:=wsP ((E+1)% 2) (E+1) ((b.length+49)/ 50) b ((b.length+49)/ 50)
theorem CC (E:Nat)(b:U UInt8):(fB E b).length=(b.length+49)/ 50+1:=E6 ..
theorem v8 (hb:(b.length+49)/ 50<60):∀w,w∈fB E b->okW w:=Nw _ _ _ _ (by omega) hb
theorem ww (hb:(b.length+49)/ 50<60)(m i:Nat)(hi:120<=i∨∃k,k<60/\i=60*(E% 2)+k):gt (bx S ((fB E b).take m)) i=gt S i:=by rw[qi _ S i (λw h=>v8 hb w (QN h)),tj _ _ _ (λw h=>?_)];obtain⟨k,hk,rfl⟩:=wv _ _ _ _ _ w (QN h);show((60*((E+1)% 2)+k:Nat):Int)≠(i:Int);omega
theorem Held.part (h:Held P E S)(hb:(b.length+49)/ 50<60){m:Nat}(hm:m<=(b.length+49)/ 50):Held P E (bx S ((fB E b).take m)):=by
 have hown:d6 (bx S ((fB E b).take m)) (E% 2)=d6 S (E% 2):=B6 λk hk=>ww hb m _ (.inr ⟨k,hk,J⟩)
 have hhd:∀sl,sl<=1->gt (bx S ((fB E b).take m)) (60*sl)=gt S (60*sl):=λsl hs=>by
  by_cases h2:sl=E% 2
  .simp_all[ww]
  .rw[qi _ S _ (λw h=>v8 hb w (QN h)),tj _ _ _ (λw h=>?_)];obtain⟨k,hk,hk2,rfl⟩:=DP _ _ _ _ _ m w hm h;show((60*((E+1)% 2)+k:Nat):Int)≠((60*sl:Nat):Int);omega
 refine⟨λh0=>by rw[hown];exact h.own h0,λsl hd hs h1=>?_,λi ep hi he=>?_⟩
 .rw[hhd sl hs]at h1;exact h.old sl hd hs h1
 .rw[ww hb m i (.inl hi)];exact h.log i ep hi he
theorem JZ (hE:E+1<=200)(hb:(b.length+49)/ 50<60):d6 (bx S (fB E b)) ((E+1)% 2)=some (b,E+1):=by
 refine KH (n:=(b.length+49)/ 50) hE J hb λk hk=>?_
 rw[qi _ S _ (v8 hb)];exact DC _ _ _ _ _ k _ hk
theorem Held.full (h:Held P E S)(hP:P b)(hE:E+1<=200)(hb:(b.length+49)/ 50<60):Held P (E+1) (bx S (fB E b)):=by
 have hf:=JZ (S:=S) hE hb;have ht:∀i,(120<=i∨∃k,k<60/\i=60*(E% 2)+k)->gt (bx S (fB E b)) i=gt S i:=λi hi=>by have:=ww (S:=S) hb (fB E b).length i hi;grind
 refine⟨λ_=>⟨b,hP,hf⟩,λsl hd hs h1=>?_,λi ep hi he=>?_⟩
 .by_cases h2:sl=(E+1)% 2
  .obtain⟨hd',e1,e2,_⟩:=Ct hf;grind
  .have h3:sl=E% 2:=by omega
   rw[ht _ (.inr ⟨0,by omega,by rw[h3];rfl⟩)]at h1;rcases h.old sl hd hs h1 with e|e|⟨_,e⟩
   all_goals omega
 .rw[ht i (.inl hi)];exact h.log i ep hi (by omega)
end
theorem DQ (S:U (U UInt8))(a b:U Write):bx S (a++b)=bx (bx S a) b:=List.foldl_append
inductive Waits (P:List UInt8->Prop) (E:Nat):Bool->List Write->Prop
 |log {ws:List Write} (h:∀w,w∈ws->logW E w):Waits P E false ws
 |slot {ws:List Write} {b:List UInt8} (h:∀w,w∈ws->logW E w) (hP:P b) (hE:E+1<=200) (hb:(b.length+49)/ 50<60):Waits P E true (ws++fB E b)
section
variable {P:U UInt8->Prop}{E:Nat}{S:U (U UInt8)}{q:Bool}
theorem Held.cut (h:Held P E S){W:U Write}(hW:Waits P E q W)(n:Nat):Held P E (bx S (W.take n))∨(q=true/\W.length<=n/\Held P (E+1) (bx S (W.take n))):=by
 cases hW with
 |log hw=>exact .inl (h.logs λw hm=>hw w (QN hm))
 | @slot ws b hw hP hE hb=>
  rw[List.take_append,DQ];have h1:Held P E (bx S (ws.take n)):=h.logs λw hm=>hw w (QN hm)
  by_cases hn:n- ws.length<=(b.length+49)/ 50
  .exact .inl (h1.part hb hn)
  .right;have hl:=CC E b;rw[Rt (l:=fB E b) (by omega)];exact⟨J,by grind,h1.full hP hE hb⟩
theorem Held.flush (h:Held P E S){W:U Write}(hW:Waits P E q W):Held P (if q=true then E+1 else E) (bx S W):=by
 cases hW with
 |log hw=>exact h.logs hw
 |slot hw hP hE hb=>rw[DQ];exact(h.logs hw).full hP hE hb
end
end
section
def Rd{α:Type}(rd:List UInt8->Option ((α×List UInt8)⊕Unit))(ok:α->Prop)(m:α->Nat):Prop:=
 ∀b,b.length<=1048576->rd b=some (.inr ())∨∃x r,rd b=some (.inl (x,r))/\ok x/\m x+r.length<=b.length
theorem Nm (z:Int):gI (IntKind.i64.wrap z):=by grind[gI,IntKind.wrap,IntKind.signed,IntKind.bits]
theorem Ln (z k:Int)(h:0<=k):∃y:Nat,shl .u64 z k=some (y:Int)/\y<18446744073709551616:=by unfold shl;rw[if_pos h,tv];generalize z*2 ^ (min k.toNat IntKind.u64.bits)=c;refine⟨(c% 18446744073709551616).toNat,?_,by omega⟩;grind
theorem or_lt (a b:Nat)(ha:a<18446744073709551616)(hb:b<18446744073709551616):a ||| b<18446744073709551616:=Nat.or_lt_two_pow (n:=64) ha hb
theorem iN:Rd dT gI mI:=by
 intro b hb;have key:∀(f i s1:Nat),i+f=10->s1<18446744073709551616 ->
   iter (λam:Int×Int=>eT b am.1 am.2) ((s1:Int),(i:Int))=some (.inr ())∨
   ∃n r,iter (λam:Int×Int=>eT b am.1 am.2) ((s1:Int),(i:Int))=some (.inl (n,r))/\gI n/\mI n+r.length<=b.length:=by
  intro f
  induction f with
  |zero=>
   intro i s1 hi hs
   left
   have h1:eT b (s1:Int) (i:Int)=some (.inr (.inr ())):=by unfold eT;grind
   grind[aF]
  | succ f ih=>
   intro i s1 hi hs
   by_cases hlt:i<b.length
   .have hx:b[i]?=some b[i]:=QC hlt
    generalize b[i]=x at hx
    have hix:=bj hx
    obtain⟨y,hy,hy2⟩:=Ln (IntKind.u64.wrap (ibits .and .u8 (x.toNat:Int) 127)) (IntKind.i64.wrap (7*(i:Int))) (by grind[bq])
    have hor:=or_lt s1 y hs hy2
    by_cases hc:x.toNat<128
    .right
     have hsh:shr .u64 ((s1 ||| y:Nat):Int) 1=some (((s1 ||| y)/ 2:Nat):Int):=by unfold shr;rw[if_pos (by omega)];show some (((s1 ||| y:Nat):Int).fdiv 2)=_;grind
     have h1:eT b (s1:Int) (i:Int)=some (.inr (.inl (ibits .xor .i64 (IntKind.i64.wrap (((s1 ||| y)/ 2:Nat):Int)) (IntKind.i64.wrap (0- (IntKind.i64.wrap (ibits .and .u64 ((s1 ||| y:Nat):Int) 1)))),b.drop (i+1)))):=by unfold eT;rw[if_pos (by simp_all<;>omega),hix,QB,hy,QB,QB,if_pos (by simp;omega),bc (by omega),jx (by omega),QB,vY _ _ hs hy2,hsh];rfl
     rw[aF]
     simp only[h1]
     refine⟨_,_,J,?_,?_⟩
     .exact Nm _
     .show 1+(b.drop (i+1)).length<=b.length
      grind
    .have h1:eT b (s1:Int) (i:Int)=some (.inl (((s1 ||| y:Nat):Int),((i+1:Nat):Int))):=by
      unfold eT;rw[if_pos (by simp_all<;>omega),hix,QB,hy,QB,QB,if_neg (by simp;omega),bc (by omega),vY _ _ hs hy2]
     rw[aF]
     simp only[h1]
     exact ih (i+1) (s1 ||| y) (by omega) hor
   .left
    have h1:eT b (s1:Int) (i:Int)=some (.inr (.inr ())):=by unfold eT;grind
    grind[aF]
 exact key 10 0 0 (by omega) (by omega)
section
variable {α:Type}{m:α->Nat}
theorem EZ (hm:∀x,1<=m x):∀l:U α,l.length<=(l.map m).sum
 |[]=>by simp
 |x::l=>by have:=hm x;have:=EZ hm l;grind
theorem qo {rd:U UInt8->Qbm ((α×U UInt8)⊕Unit)}{ok:α->Prop}(hrd:Rd rd ok m)(hm:∀x,1<=m x){L:U UInt8->Qbm ((U α×U UInt8)⊕Unit)}{body:(Int×U UInt8)->Int×U UInt8×U α->Qbm ((Int×U UInt8×U α)⊕((U α×U UInt8)⊕Unit))}(hL:∀b,L b=cg (dT b) (some (.inr ())) λx2=>(if((decide (x2.1<0))||decide (x2.1> ((x2.2).length:Int)))=true then(some (.inr ()))else iter (body x2) (0,x2.2,[])))(h1:∀(x2:Int×U UInt8) (k:Nat) b acc,decide ((k:Int)<x2.1)=true->IntKind.i64.wrap ((k:Int)+1)=((k+1:Nat):Int)->body x2 ((k:Int),b,acc)=cg (rd b) (Option.map Sum.inr (some (.inr ()))) λx=>Option.bind (app acc [x.1]) λy=>some (.inl (((k+1:Nat):Int),x.2,y)))(h2:∀(x2:Int×U UInt8) (k:Int) b acc,decide (k<x2.1)=false->body x2 (k,b,acc)=some (.inr (.inl (acc,b)))):Rd L (λl=>∀x,x∈l->ok x) (mL m):=by
 intro b hb
 rw[hL]
 rcases iN b hb with h|⟨N,b0,h,hN,hlen⟩
 .left;rw[h];rfl
 .rw [h,b8]
  have hlen':1+b0.length<=b.length:=hlen
  by_cases hbad:N<0∨N> (b0.length:Int)
  .grind
  .rw [if_neg (by grind)]
   obtain⟨M,rfl⟩:=RD (show 0<=N by omega)
   have key:∀(f k:Nat) (c:U UInt8) (acc:U α),k+f=M->acc.length=k->(∀x,x∈acc->ok x)->(acc.map m).sum+c.length<=b0.length ->
     iter (body ((M:Int),b0)) ((k:Int),c,acc)=some (.inr ())∨∃l r,iter (body ((M:Int),b0)) ((k:Int),c,acc)=some (.inl (l,r))/\(∀x,x∈l->ok x)/\(l.map m).sum+r.length<=b0.length:=by
    intro f
    induction f with
    |zero=>
     grind[aF]
    | succ f ih=>
     intro k c acc hk ha ho hs
     rw[aF,h1 _ k c acc (by grind) (bc (by omega))]
     have:=EZ hm acc
     rcases hrd c (by omega)with e|⟨x,r,e,hx,hl⟩
     .left;rw[e];rfl
     .rw[e,b8,bT (by simp;omega),QB]
      simp only
      exact ih (k+1) r (acc++[x]) (by omega) (by simp[ha]) (λy hy=>by
       grind) (by
       simp_all<;>omega)
   rcases key M 0 b0 [] (by omega) J (λx hx=>(RZ hx).elim) (by simp)with e|⟨l,r,e,ho,hs⟩
   all_goals (grind[mL])
theorem Mu:Rd oW (gL gI) (mL mI):=
 qo iN (λ_=>QJ _) (body:=λx2 am=>j3 x2 am.1 am.2.1 am.2.2) (λb=>J)
  (λx2 k b acc hd hw=>by simp_all[j3]) (λx2 k b acc hd=>by grind[j3])
theorem Nq:Rd mH dW dE:=by
 intro b hb;unfold mH;rcases iN b hb with h|⟨x,r,h,gx,hx⟩
 .left;rw[h];rfl
 rw[h,b8];have hx':1+r.length<=b.length:=hx;rcases iN r (by omega)with h|⟨y,s,h,gy,hy⟩
 .left;simp only[h];rfl
 simp only[h,b8];have hy':1+s.length<=r.length:=hy;rcases iN s (by omega)with h|⟨z,t,h,gz,hz⟩
 .left;simp only[h];rfl
 simp only[h,b8];have hz':1+t.length<=s.length:=hz;exact .inr ⟨_,_,J,⟨gx,gy,gz⟩,by show 3+t.length<=b.length;omega⟩
theorem L5:Rd mR od kH:=by
 intro b hb;unfold mR;rcases iN b hb with h|⟨x,r,h,gx,hx⟩
 .left;rw[h];rfl
 rw[h,b8];have hx':1+r.length<=b.length:=hx;rcases iN r (by omega)with h|⟨y,s,h,gy,hy⟩
 .left;simp only[h];rfl
 simp only[h,b8];have hy':1+s.length<=r.length:=hy;exact .inr ⟨_,_,J,⟨gx,gy⟩,by show 2+s.length<=b.length;omega⟩
theorem Kw:Rd na nT iK:=by
 intro b hb;unfold na;rcases iN b hb with h|⟨x,r,h,gx,hx⟩
 .left;rw[h];rfl
 rw[h,b8];have hx':1+r.length<=b.length:=hx;rcases iN r (by omega)with h|⟨y,s,h,gy,hy⟩
 .left;simp only[h];rfl
 simp only[h,b8];have hy':1+s.length<=r.length:=hy;exact .inr ⟨_,_,J,⟨gx,gy⟩,by show 2+s.length<=b.length;omega⟩
theorem Ko:Rd rr (gL dW) (mL dE):=
 qo Nq (λ_=>by unfold dE;omega) (body:=λx2 am=>jW x2 am.1 am.2.1 am.2.2) (λb=>J)
  (λx2 k b acc hd hw=>by simp_all[jW]) (λx2 k b acc hd=>by grind[jW])
theorem El:Rd lc (gL dW) (mL dE):=by
 intro b hb;unfold lc;rcases Ko b hb with h|⟨x,r,h,gx,hx⟩
 .left;rw[h];rfl
 grind[b8]
theorem Lg:Rd oV (gL (gL dW)) (mL (mL dE)):=
 qo El (λ_=>FI _ _) (body:=λx2 am=>jY x2 am.1 am.2.1 am.2.2) (λb=>J)
  (λx2 k b acc hd hw=>by simp_all[jY]) (λx2 k b acc hd=>by grind[jY])
theorem Nx:Rd oR (gL od) (mL kH):=
 qo L5 (λ_=>by simp[kH]) (body:=λx2 am=>jV x2 am.1 am.2.1 am.2.2) (λb=>J)
  (λx2 k b acc hd hw=>by simp_all[jV]) (λx2 k b acc hd=>by grind[jV])
theorem N7:Rd m9 yL gN:=by
 intro b hb;unfold m9;rcases iN b hb with h|⟨x,r,h,gx,hx⟩
 .left;rw[h];rfl
 rw[h,b8];have hx':1+r.length<=b.length:=hx;rcases iN r (by omega)with h|⟨y,s,h,gy,hy⟩
 .left;simp only[h];rfl
 simp only[h,b8];have hy':1+s.length<=r.length:=hy;rcases Nx s (by omega)with h|⟨z,t,h,gz,hz⟩
 .left;simp only[h];rfl
 simp only[h,b8];exact .inr ⟨_,_,J,⟨gx,gz,gy⟩,by show mL kH z+2+t.length<=b.length;omega⟩
theorem ML:Rd oQ (gL yL) (mL gN):=
 qo N7 (λ_=>by simp[gN]) (body:=λx2 am=>jT x2 am.1 am.2.1 am.2.2) (λb=>J)
  (λx2 k b acc hd hw=>by simp_all[jT]) (λx2 k b acc hd=>by grind[jT])
theorem I9:Rd oN (gL nT) (mL iK):=
 qo Kw (λ_=>by simp[iK]) (body:=λx2 am=>jU x2 am.1 am.2.1 am.2.2) (λb=>J)
  (λx2 k b acc hd hw=>by simp_all[jU]) (λx2 k b acc hd=>by grind[jU])
theorem NR {n:Net}(items:U (U Item))(hio:∀x∈n.Nodes,x.In.length<=1099511627776/\x.Out.length<=1099511627776)(hsrc:cX n items=0)(b:U UInt8)(hb:b.length<=1048576):
  gR n items b=some (noS,12)∨∃t,gR n items b=some (t,0)/\yY t/\oe t<=1048576/\iA n items t=some (b,0):=by
 unfold gR
 rw[vh n items hio,hsrc,QB,if_neg (by decide)]
 rcases Mu b hb with h|⟨x1,r1,h,g1,m1⟩
 .left;rw[h];rfl
 rw[h,b8]
 rcases Lg r1 (by omega)with h|⟨x2,r2,h,g2,m2⟩
 .left;simp only[h];rfl
 simp only[h,b8]
 rcases ML r2 (by omega)with h|⟨x3,r3,h,g3,m3⟩
 .left;simp only[h];rfl
 simp only[h,b8]
 rcases I9 r3 (by omega)with h|⟨x4,r4,h,g4,m4⟩
 .left;simp only[h];rfl
 simp only[h,b8]
 rcases El r4 (by omega)with h|⟨x5,r5,h,g5,m5⟩
 .left;simp only[h];rfl
 simp only[h,b8]
 have gt:yY ⟨x1,x2,x3,x4,x5⟩:=⟨g1,g2,g3,g4,g5⟩
 have mt:oe ⟨x1,x2,x3,x4,x5⟩<=1048576:=by show mL mI x1+mL (mL dE) x2+mL gN x3+mL iK x4+mL dE x5<=1048576;omega
 obtain⟨hs,hB⟩:=KR gt mt
 have hby:=yS items ⟨x1,x2,x3,x4,x5⟩ hio hs hB
 rw[hby,QB]
 by_cases hc:dI n items ⟨x1,x2,x3,x4,x5⟩=0
 .rw[if_neg (show ¬dI n items ⟨x1,x2,x3,x4,x5⟩≠0 by simp[hc])]
  by_cases he:bI ⟨x1,x2,x3,x4,x5⟩=b
  .grind
  .left
   rw[if_pos (by simp[he])]
   rfl
 .left
  rw[if_pos hc,if_pos (by simp[hc])]
  rfl
end
end
def gw(l:List Item)(s:Int):Nat:=(l.takeWhile λx=>decide (x.Dep<=s)).length
theorem DI(l:U Item)(s:Int):gw l s<=l.length:=(List.takeWhile_sublist _).length_le
theorem Hk(l:U Item)(s:Int)(hl:l.length<=1099511627776):rm l s=some (if gw l s<l.length then(gw l s:Int)else-1):=by
 unfold rm;have:=nK (σ:=Unit) l hl (λk _=>(k:Int)) (body:=λs1=>oK l s s1)
  (λk x _=>if x.Dep> s then some (.inr (k:Int))else some (.inl ())) (λ_=>some (-1)) ()
  (λk x _ _ _ h1 h2 h3=>by grind[oK,uY])
  (λ_ h=>by simp[oK])
 refine Eq.trans this ?_;have key:∀(ys:U Item) (k:Nat),d9 (σ:=Unit) (λk x _=>if x.Dep> s then some (.inr (k:Int))else some (.inl ())) (λ_=>some (-1)) k ys ()=some (if gw ys s<ys.length then((k+gw ys s:Nat):Int)else-1):=by
  intro ys;induction ys with
  |nil=>simp[d9]
  | cons y ys ih=>
   intro k;unfold d9;by_cases h:y.Dep> s
   .simp_all[gw]
   .have h':y.Dep<=s:=by omega
    rw[if_neg h];simp only;rw[ih (k+1)];have e:gw (y::ys) s=gw ys s+1:=by simp[gw,h']
    grind
 grind
def freeR(l:List Item)(s:Int):Int×Int:=if 2000<l.length then(0,2)else if s<0∨500<s then(0,3)else(gw l s,0)
theorem Ix(l:U Item)(s:Int):sP l s=some (freeR l s):=by
 unfold sP freeR;by_cases h1:2000<l.length
 .grind
 rw[if_neg (by simp;omega),if_neg h1];by_cases h2:s<0∨500<s
 .grind
 rw[if_neg (by simp;omega),if_neg h2,Hk l s (by omega)];grind[DI]
def jD(x:Item):Item:=⟨x.Key,x.Val,0⟩
def zg(l:List Item):List Item×Int:=if 2000<l.length then([],2)else(l.map jD,0)
theorem Ie(l:U Item):sF l=some (zg l):=by
 unfold sF zg;by_cases h1:2000<l.length
 .grind
 rw[if_neg (by simp;omega),if_neg h1];unfold em;rw[bT (by simp;omega)];simp only[R6,QB];have key:∀(ys pre:U Item),pre.length+ys.length<=2000->∀(x2:U Item),x2.length=pre.length+ys.length ->
   iter (λss:Int×U Item=>ne x2 ss.1 ss.2) ((pre.length:Int),pre++ys)=some (pre++ys.map jD,0):=by
  intro ys
  induction ys with
  |nil=>
   simp_all[aF,ne]
  |cons y ys ih=>
   intro pre hp x2 hx
   simp only[Rq]at hp hx
   have e1:ixN (pre++y::ys) (pre.length:Int)=some pre.length:=dL (by simp)
   have e2:(pre++y::ys)[pre.length]?=some y:=by simp
   have e3:(pre++y::ys).set pre.length (jD y)=(pre++[jD y])++ys:=by simp
   have e4:IntKind.i64.wrap ((pre.length:Int)+1)=((pre++[jD y]).length:Int):=by rw[bc (by omega)];simp
   have e5:ne x2 (pre.length:Int) (pre++y::ys)=some (.inl (((pre++[jD y]).length:Int),(pre++[jD y])++ys)):=by unfold ne;rw[if_pos (by grind),e1,QB,e2,QB,e4,show(⟨y.Key,y.Val,0⟩:Item)=jD y from J,e3]
   rw[aF,e5]
   simp only
   have:=ih (pre++[jD y]) (by simp;omega) x2 (by simp;omega)
   grind
 have:=key l [] (by simp;omega) l (by simp);grind
def kv(x:Item):Int×Int:=(x.Key,x.Val)
def wD(a b:List Item):Bool:=decide (a.map kv=b.map kv)
def kE(a b:List Item):Bool:=decide (a.map kv=(b.take a.length).map kv/\a.length<=b.length)
theorem kv_eq(x y:Item):((x.Key==y.Key)&&x.Val==y.Val)=decide (kv x=kv y):=by rw[Sk];simp[kv]
theorem Jf(a b:U Item)(ha:a.length<=1099511627776)(hl:a.length=b.length){body:Int->Qbm (Int⊕Bool)}
  (h1:∀(k:Nat) x y,decide ((k:Int)<(a.length:Int))=true->idx a (k:Int)=some x->idx b (k:Int)=some y->IntKind.i64.wrap ((k:Int)+1)=((k+1:Nat):Int)->body k=if kv x=kv y then some (.inl ((k+1:Nat):Int))else some (.inr false))
  (h2:decide ((a.length:Int)<(a.length:Int))=false->body a.length=some (.inr true)):iter body 0=some (wD a b):=by
 have im:∀(l:U Item) (k:Nat) (p:Int×Int),idx (l.map kv) (k:Int)=some p->∃x,idx l (k:Int)=some x/\kv x=p:=by simp[idx]
 have:=lO (a.map kv) (b.map kv) (by grind) (by grind) (body:=body) (λk x y h3 h4 h5 h6=>by grind) (λh=>by grind)
 exact this
theorem HV(a b:U Item)(ha:a.length<=1099511627776):rc a b=some (wD a b):=by
 unfold rc;by_cases hl:a.length=b.length
 .rw[if_neg (by simp;omega)];exact Jf a b ha hl (λk x y h1 h2 h3 h4=>by
   unfold ra vj;rw[h1,h2,h3,h4];simp only[QB,if_true,kv_eq];simp) (λh=>by
   simp[ra])
 .rw[if_pos (by simp;omega)];have:a.map kv≠b.map kv:=λe=>hl (by have:=congrArg List.length e;grind)
  simp[wD,this]
theorem AR(a b:U Item)(ha:a.length<=1099511627776):nA a b=some (kE a b):=by unfold nA kE;by_cases h:a.length<=b.length;all_goals (simp_all[sub_0,HV,wD,if_neg])
def fo(t l:List Item)(s:Int):List Item×Int:=
 if 2000<t.length then([],2)
 else if(freeR l s).2≠0 then([],(freeR l s).2)
 else if kE t l=false/\kE l t=false then([],4)
 else if gw l s<=t.length then([],0)
 else(((l.take (gw l s)).drop t.length).map jD,0)
theorem LI{l:U Item}{s:Int}(h:(freeR l s).2=0):l.length<=2000/\(freeR l s).1=gw l s:=by unfold freeR at h ⊢;grind
theorem AW(t l:U Item)(s:Int):pE t l s=some (fo t l s):=by
 unfold pE fo;by_cases h1:2000<t.length
 .grind
 rw[if_neg (by simp;omega),if_neg h1,Ix];simp only[QB];by_cases h2:(freeR l s).2≠0
 .grind
 have h2':(freeR l s).2=0:=by omega
 obtain⟨h3,h4⟩:=LI h2';rw[if_neg (by simp[h2']),if_neg h2,AR t l (by omega)];simp only[QB];have hc:(if(!kE t l)=true then(nA l t).bind λx4=>some (!x4)else some false)=some (!kE t l&& !kE l t):=by grind[AR]
 rw[hc];simp only[QB];by_cases h5:kE t l=false/\kE l t=false
 .grind
 rw[if_neg (by grind),if_neg h5,h4];by_cases h6:gw l s<=t.length
 .grind
 rw[if_neg (by simp;omega),if_neg h6];grind[DI,qr,Ie,zg]
section
def chE(n:Net)(_:Nat)(c:Choice):Option Int:=
 if c.Node<0∨c.Node>=(n.Nodes.length:Int)∨(ah n c.Node.toNat).Kind≠6 then some 5
 else if c.Lane<0∨c.Lane>=((ah n c.Node.toNat).In.length:Int)then some 3 else none
def ew(n:Net)(l:List Choice):Int:=
 if(dA n).2≠0 then(dA n).2 else if 500<l.length then 2 else(fN (chE n) 0 l).getD 0
theorem E8(n:Net)(c:Choice)(k:Nat)(z:Int):
  (Option.bind (if(decide (c.Node<0))=true then(some true)else(if(decide (c.Node>=((n.Nodes).length:Int)))=true then(some true)else(Option.bind (idx n.Nodes c.Node) λx6=>(some (x6.Kind !=6))))) λc7=>(if c7=true then(Option.map Sum.inr (some (5:Int)))else(Option.bind (if(decide (c.Lane<0))=true then(some true)else(Option.bind (idx n.Nodes c.Node) λx8=>(some (decide (c.Lane>=((x8.In).length:Int)))))) λc9=>(if c9=true then(Option.map Sum.inr (some 3))else(some (.inl z))))))
  =match chE n k c with|some r=>some (.inr r)|none=>some (.inl z:Int⊕Int):=by
 by_cases h0:c.Node<0
 .simp_all[chE]
 rw[if_neg (show ¬decide (c.Node<0)=true by grind)]
 by_cases h1:c.Node>=(n.Nodes.length:Int)
 .simp_all[chE]
 rw[if_neg (show ¬decide (c.Node>=(n.Nodes.length:Int))=true by grind)]
 have hi:idx n.Nodes c.Node=some (ah n c.Node.toNat):=iT _ (by omega) (by omega)
 rw[hi,QB,QB]
 by_cases h6:(ah n c.Node.toNat).Kind=6
 .have hn:¬(c.Node<0∨c.Node>=(n.Nodes.length:Int)∨(ah n c.Node.toNat).Kind≠6):=λh=>h.elim h0 λh=>h.elim h1 λh=>h h6
  rw[if_neg (show ¬((ah n c.Node.toNat).Kind !=6)=true by simp[h6])]
  by_cases h2:c.Lane<0
  .simp_all[chE,if_neg]
  .rw[if_neg (show ¬decide (c.Lane<0)=true by grind),QB,QB]
   by_cases h3:c.Lane>=((ah n c.Node.toNat).In.length:Int)
   all_goals (simp_all[chE,if_neg])
 simp_all[chE]
section
variable (n:Net) (hio:∀x∈n.Nodes,x.In.length≤1099511627776∧x.Out.length≤1099511627776)
include hio
theorem Ib(l:U Choice):pD n l=some (ew n l):=by
 unfold pD ew;rw[Bn n hio,QB];by_cases h:(dA n).2=0
 .rw[if_neg (show ¬((dA n).2 !=0)=true by simp[h]),if_neg (show ¬(dA n).2≠0 by simp[h])];by_cases h5:500<l.length
  .grind
  .rw[if_neg (show ¬decide ((l.length:Int)> 500)=true by simp;omega),if_neg h5];rw[qa l (by omega) (chE n) (some 0) (λk x hx hk e1 e2 e3=>by
    unfold si;rw[e2,e1,e3];simp only[if_true,QB];rw[E8 n x k];grind) (λe=>by simp[si])]
   grind
 grind
theorem H1(l:U Choice):rA n l=some (ew n l):=by
 unfold rA ew;rw[AC n hio,QB];by_cases h:(dA n).2=0
 .rw[if_neg (show ¬((dA n).2 !=0)=true by simp[h]),if_neg (show ¬(dA n).2≠0 by simp[h])];by_cases h5:500<l.length
  .grind
  .rw[if_neg (show ¬decide ((l.length:Int)> 500)=true by simp;omega),if_neg h5];rw[qa l (by omega) (chE n) (some 0) (λk x hx hk e1 e2 e3=>by
    unfold rp;rw[e2,e1,e3];simp only[if_true,QB];rw[E8 n x k];grind) (λe=>by simp[rp])]
   grind
 grind
end
structure RightC (n:Net) (l:List Choice):Prop where
 net:(dA n).2=0
 len:l.length<=500
 each:∀c,c∈l->0<=c.Node/\c.Node<n.Nodes.length/\(ah n c.Node.toNat).Kind=6/\0<=c.Lane/\c.Lane<(ah n c.Node.toNat).In.length
theorem J0{n:Net}{l:U Choice}(h:RightC n l):ew n l=0:=by
 unfold ew;rw[if_neg (by simp[h.net]),if_neg (by have:=h.len;omega)];have:fN (chE n) 0 l=none:=nu.2 λj x hx=>by obtain⟨a,b,c,d,e⟩:=h.each x (QE hx);simp_all[chE,if_neg]
 grind
theorem xQ{α:Type}{l:U α}{k:Nat}{x:α}(h:l[k]?=some x):l.take (k+1)=l.take k++[x]:=by grind[List.take_add_one]
section
variable (n:Net) (hio:∀x∈n.Nodes,x.In.length≤1099511627776∧x.Out.length≤1099511627776)
include hio
omit hio in
end
def begN(n:Net)(a b:List Choice):Prop:=∀i,i<n.Nodes.length->EG a i <+: EG b i
noncomputable instance (n:Net) (a b:List Choice):Decidable (begN n a b):=Classical.propDecidable _
section
variable (n:Net) (hio:∀x∈n.Nodes,x.In.length≤1099511627776∧x.Out.length≤1099511627776)
include hio
end
end
noncomputable section
def noH:Shop:=⟨⟨[],0,0⟩,[],noS,noD,0,0,0,0,0,[],false⟩
def ofM(n:Net)(items:List (List Item))(b:List UInt8):State×Int:=(gR n items b).getD (noS,12)
def dp(n:Net)(items:List (List Item))(S:List (List UInt8))(sl:Nat)(st:State×Nat):State×Nat:=
 match d6 S sl with
 |none=>st
 |some x=>if x.2<=st.2 then st else if(ofM n items x.1).2=0 then((ofM n items x.1).1,x.2)else st
def dH(n:Net)(items:List (List Item))(S:List (List UInt8)):State×Nat:=dp n items S 1 (dp n items S 0 (bC n items,0))
def cn(n:Net)(items:List (List Item))(s:State)(l:List Choice):State×Int:=if 500<s.Choices.length+l.length then(noS,2)else(repM n items (muN n items s+1) s l).getD (noS,0)
def doP(h:Shop)(k a:Int):Shop×Int:=
 if h.Down=true then
  if k≠6 then(noH,13)
  else
   let q:=dH h.N h.Items h.D.Sectors
   let l:=bw (q.2:Int) (h.D.Sectors.drop 120)
   if ew h.N l.1≠0 then(noH,ew h.N l.1)
   else
    let r:=cn h.N h.Items q.1 l.1
    if r.2≠0 then(noH,r.2)else({ h with S:=r.1,Logged:=r.1.Choices.length,Safe:=r.1.Choices.length,Epoch:=(q.2:Int),Next:=(l.2:Int),Down:=false },0)
 else if k=1 then
  if aY h.N h.Items h.S=[]then(noH,10)else({ h with S:=doMv h.N h.Items h.S (gX (aY h.N h.Items h.S) a) },0)
 else if k=2 then
  if 0<=h.Laid then(noH,10)
  else
   let r:=dh h.Epoch.toNat h.D.Sectors (h.S.Choices.drop h.Logged.toNat).length h.Next.toNat (h.S.Choices.drop h.Logged.toNat) h.D.Wait
   if r.2.2≠0 then(noH,r.2.2)else({ h with D:=r.1,Next:=r.2.1,Logged:=h.S.Choices.length },0)
 else if k=3 then
  if 0<=h.Laid then({ h with D:=⟨bx h.D.Sectors h.D.Wait,[]⟩,Epoch:=h.Epoch+1,Next:=0,Logged:=h.Laid,Safe:=h.Laid,Laid:= -1 },0)
  else({ h with D:=⟨bx h.D.Sectors h.D.Wait,[]⟩,Safe:=h.Logged },0)
 else if k=4 then
  let r:=fo h.Told h.S.Out h.Safe
  if r.2≠0 then(noH,r.2)else({ h with Told:=h.Told++r.1 },0)
 else if k=5 then
  if a<0∨h.D.Wait.length<a then(noH,3)
  else({ h with D:=⟨bx h.D.Sectors (h.D.Wait.take a.toNat),[]⟩,S:=bC h.N h.Items,Logged:=0,Safe:=0,Epoch:=0,Laid:= -1,Next:=0,Down:=true },0)
 else if k=7 then
  if 0<=h.Laid then(noH,10)
  else if h.Epoch=200 then(noH,8)
  else if 60<=((bI h.S).length+49)/ 50∨300<h.D.Wait.length+(((bI h.S).length+49)/ 50+1)then(noH,8)
  else({ h with D:=⟨h.D.Sectors,h.D.Wait++fB h.Epoch.toNat (bI h.S)⟩,Laid:=h.S.Choices.length },0)
 else(noH,13)
section
variable (n:Net) (items:List (List Item))
def PB(b:List UInt8):Prop:=∃s,Inv n items s/\KV s/\b=bI s/\b.length<=3000
structure JS (E:Nat) (h:Shop):Prop where
 N:h.N=n
 I:h.Items=items
 inv:Inv n items h.S
 kv:KV h.S
 e2:E<=200
 okD:bS h.D
 held:Held (PB n items) E h.D.Sectors
 wait:Waits (PB n items) E (decide (0<=h.Laid)) h.D.Wait
 ep:h.Down=false->h.Epoch=(E:Int)
 down:h.Down=true->h.D.Wait=[]/\h.Epoch=0/\h.S=bC n items/\h.Laid= -1
 laid: -1<=h.Laid/\h.Laid<=h.S.Choices.length
 log:0<=h.Safe/\h.Safe<=h.Logged/\h.Logged<=h.S.Choices.length
 next:0<=h.Next/\h.Next<=80
 told:h.Told.length<=2000
structure SrcQ:Prop where
 S:RightS n items
 src:cX n items=0
 io:∀x∈n.Nodes,x.In.length<=1099511627776/\x.Out.length<=1099511627776
 g:gL (gL dW) items
end
section
variable {P:U UInt8->Prop}{E:Nat}{q:Bool}
theorem Waits.low {W:U Write}(h:Waits P E q W)(hq:q=false):∀w,w∈W->logW E w:=by
 cases h with
 |log hw=>exact hw
 |slot hw hP hE hb=>cases hq
theorem Waits.e {W:U Write}(h:Waits P E q W)(hq:q=true):E+1<=200:=by
 cases h with
 |log hw=>cases hq
 |slot hw hP hE hb=>exact hE
theorem DR (ep:Nat)(S:U (U UInt8)):∀(n a:Nat) (l:U Choice) (w:U Write),a<=80->bS ⟨S,w⟩->(dh ep S n a l w).2.2=0->bS (dh ep S n a l w).1
 |0,a,l,w,ha,hd,_=>hd
 |n+1,a,l,w,ha,hd,he=>by
  unfold dh at he ⊢;by_cases hl0:l=[]
  .grind
  rw[if_neg hl0]at he ⊢;by_cases hc:(eq (l.take 29)).2≠0
  .grind
  rw[if_neg hc]at he ⊢;by_cases h80:a=80
  .grind
  rw[if_neg h80]at he ⊢;by_cases h300:w.length=300
  .grind
  rw[if_neg h300]at he ⊢;have hcl:=BC (l.take 29) (by grind);refine DR ep S n (a+1) (l.drop 29) _ (by omega) (Dj hd ⟨?_,?_,?_⟩ (by have:=hd.2.1;grind)) he;all_goals (grind[qg])
theorem Ey {d:Disk}(h:bS d)(k:Nat):bS ⟨bx d.Sectors (d.Wait.take k),[]⟩:=by obtain⟨h1,h2,h3,h4⟩:=h;obtain⟨q1,q2⟩:=E5 (d.Wait.take k) d.Sectors (λw hw=>h4 w (QN hw)) h1 h3;exact⟨q1,by simp,q2,λw hw=>by cases hw⟩
theorem Dv (ep:Int):∀S:U (U UInt8),(bw ep S).2<=S.length
 |[]=>by simp[bw]
 |s::S=>by have:=Dv ep S;grind[bw]
theorem xL {t l:U Item}{s:Int}(ht:t.length<=2000)(hl:l.length<=2000):(t++(fo t l s).1).length<=2000:=by grind[fo]
end
section
variable {n:Net} {items:List (List Item)} {E:Nat} {h:Shop}
theorem doP_1 (hd:h.Down=false)(a:Int):doP h 1 a=if aY h.N h.Items h.S=[]then(noH,10)else({ h with S:=doMv h.N h.Items h.S (gX (aY h.N h.Items h.S) a) },0):=by simp_all[doP]
theorem doP_2 (hd:h.Down=false)(a:Int):doP h 2 a=if 0<=h.Laid then(noH,10)else if(dh h.Epoch.toNat h.D.Sectors (h.S.Choices.drop h.Logged.toNat).length h.Next.toNat (h.S.Choices.drop h.Logged.toNat) h.D.Wait).2.2≠0 then(noH,(dh h.Epoch.toNat h.D.Sectors (h.S.Choices.drop h.Logged.toNat).length h.Next.toNat (h.S.Choices.drop h.Logged.toNat) h.D.Wait).2.2)else({ h with D:=(dh h.Epoch.toNat h.D.Sectors (h.S.Choices.drop h.Logged.toNat).length h.Next.toNat (h.S.Choices.drop h.Logged.toNat) h.D.Wait).1,Next:=(dh h.Epoch.toNat h.D.Sectors (h.S.Choices.drop h.Logged.toNat).length h.Next.toNat (h.S.Choices.drop h.Logged.toNat) h.D.Wait).2.1,Logged:=h.S.Choices.length },0):=by simp_all[doP]
theorem doP_3 (hd:h.Down=false)(a:Int):doP h 3 a=if 0<=h.Laid then({ h with D:=⟨bx h.D.Sectors h.D.Wait,[]⟩,Epoch:=h.Epoch+1,Next:=0,Logged:=h.Laid,Safe:=h.Laid,Laid:= -1 },0)else({ h with D:=⟨bx h.D.Sectors h.D.Wait,[]⟩,Safe:=h.Logged },0):=by simp_all[doP]
theorem doP_4 (hd:h.Down=false)(a:Int):doP h 4 a=if(fo h.Told h.S.Out h.Safe).2≠0 then(noH,(fo h.Told h.S.Out h.Safe).2)else({ h with Told:=h.Told++(fo h.Told h.S.Out h.Safe).1 },0):=by simp_all[doP]
theorem doP_5 (hd:h.Down=false)(a:Int):doP h 5 a=if a<0∨h.D.Wait.length<a then(noH,3)else({ h with D:=⟨bx h.D.Sectors (h.D.Wait.take a.toNat),[]⟩,S:=bC h.N h.Items,Logged:=0,Safe:=0,Epoch:=0,Laid:= -1,Next:=0,Down:=true },0):=by simp_all[doP]
theorem doP_7 (hd:h.Down=false)(a:Int):doP h 7 a=if 0<=h.Laid then(noH,10)else if h.Epoch=200 then(noH,8)else if 60<=((bI h.S).length+49)/ 50∨300<h.D.Wait.length+(((bI h.S).length+49)/ 50+1)then(noH,8)else({ h with D:=⟨h.D.Sectors,h.D.Wait++fB h.Epoch.toNat (bI h.S)⟩,Laid:=h.S.Choices.length },0):=by simp_all[doP]
theorem hY (hd:h.Down=true)(k a:Int):doP h k a=if k≠6 then(noH,13)else if ew h.N (bw ((dH h.N h.Items h.D.Sectors).2:Int) (h.D.Sectors.drop 120)).1≠0 then(noH,ew h.N (bw ((dH h.N h.Items h.D.Sectors).2:Int) (h.D.Sectors.drop 120)).1)
  else if(cn h.N h.Items (dH h.N h.Items h.D.Sectors).1 (bw ((dH h.N h.Items h.D.Sectors).2:Int) (h.D.Sectors.drop 120)).1).2≠0 then(noH,(cn h.N h.Items (dH h.N h.Items h.D.Sectors).1 (bw ((dH h.N h.Items h.D.Sectors).2:Int) (h.D.Sectors.drop 120)).1).2)
  else({ h with S:=(cn h.N h.Items (dH h.N h.Items h.D.Sectors).1 (bw ((dH h.N h.Items h.D.Sectors).2:Int) (h.D.Sectors.drop 120)).1).1,Logged:=(cn h.N h.Items (dH h.N h.Items h.D.Sectors).1 (bw ((dH h.N h.Items h.D.Sectors).2:Int) (h.D.Sectors.drop 120)).1).1.Choices.length,Safe:=(cn h.N h.Items (dH h.N h.Items h.D.Sectors).1 (bw ((dH h.N h.Items h.D.Sectors).2:Int) (h.D.Sectors.drop 120)).1).1.Choices.length,Epoch:=((dH h.N h.Items h.D.Sectors).2:Int),Next:=((bw ((dH h.N h.Items h.D.Sectors).2:Int) (h.D.Sectors.drop 120)).2:Int),Down:=false },0):=by
 unfold doP;grind
theorem yW (hd:h.Down=false){k:Int}(a:Int)(hk:k≠1/\k≠2/\k≠3/\k≠4/\k≠5/\k≠7):doP h k a=(noH,13):=by simp_all[doP]
theorem xF (hS:RightS n items):JS n items 0 ⟨n,items,bC n items,noD,0,0,0, -1,0,[],false⟩ where
 N:=rfl
 I:=rfl
 inv:=vO hS
 kv:=wb n items
 e2:=by omega
 okD:=Fi
 held:=LC
 wait:=.log λw hw=>by cases hw
 ep:=λ_=>J
 down:=λh=>by cases h
 laid:=⟨by simp,by simp⟩
 log:=⟨Rh _,Rh _,by simp⟩
 next:=⟨Rh _,by simp⟩
 told:=by simp
variable {s:State}
theorem Inv.ch (hI:Inv n items s):s.Choices.length<=500/\s.Out.length<=2000:=by obtain⟨B,ok,_⟩:=hI;exact⟨ok.ch,ok.out⟩
theorem JS.go (q:SrcQ n items)(j:JS n items E h)(hd:h.Down=false){m:Move}(hm:m∈aY n items h.S):JS n items E { h with S:=doMv n items h.S m }:=by
 have hch:=y0 hm;have hle:(h.S.Choices.length:Int)<=((doMv n items h.S m).Choices.length:Int):=by grind
 exact⟨j.N,j.I,(j.inv.doMv q.S hm).1,kv_do q.g j.kv _ _,j.e2,j.okD,j.held,j.wait,j.ep,λh0=>(by grind),⟨j.laid.1,Int.le_trans j.laid.2 hle⟩,⟨j.log.1,j.log.2.1,Int.le_trans j.log.2.2 hle⟩,j.next,j.told⟩
theorem JS.write (j:JS n items E h)(hd:h.Down=false)(hl:¬0<=h.Laid)(h0:(dh h.Epoch.toNat h.D.Sectors (h.S.Choices.drop h.Logged.toNat).length h.Next.toNat (h.S.Choices.drop h.Logged.toNat) h.D.Wait).2.2=0):
  ∃cs:U (U Choice),dh h.Epoch.toNat h.D.Sectors (h.S.Choices.drop h.Logged.toNat).length h.Next.toNat (h.S.Choices.drop h.Logged.toNat) h.D.Wait=(⟨h.D.Sectors,h.D.Wait++wr E h.Next.toNat cs⟩,((h.Next.toNat+cs.length:Nat):Int),0) /\
   h.S.Choices.drop h.Logged.toNat=cs.flatten/\(∀c,c∈cs->goodR c)/\h.Next.toNat+cs.length<=80 /\
   JS n items E { h with D:=⟨h.D.Sectors,h.D.Wait++wr E h.Next.toNat cs⟩,Next:=((h.Next.toNat+cs.length:Nat):Int),Logged:=h.S.Choices.length }:=by
 have hep:=j.ep hd
 have hE:h.Epoch.toNat=E:=by omega
 rw[hE]at h0⊢
 have hn:=j.next
 obtain⟨cs,h1,h2,h3,h4⟩:=Fc E h.D.Sectors _ h.Next.toNat _ h.D.Wait (QJ _) (by omega) h0
 have hok:=DR E h.D.Sectors _ h.Next.toNat _ h.D.Wait (by omega) j.okD h0
 rw[h1]at hok
 refine⟨cs,h1,h2,h3,h4,⟨j.N,j.I,j.inv,j.kv,j.e2,hok,j.held,?_,j.ep,λhx=>(by grind),j.laid,⟨j.log.1,by show h.Safe<=(h.S.Choices.length:Int);have:=j.log;omega,by simp⟩,⟨by grind,by grind⟩,j.told⟩⟩
 have hq:decide (0<=h.Laid)=false:=by grind
 have hw:=j.wait.low hq
 show Waits _ E (decide (0<=h.Laid)) _
 rw[hq]
 refine .log λw hw'=>?_
 rcases QX.1 hw' with hw'|hw'
 .grind
 .exact Fp E j.e2 _ cs h4 h3 w hw'
theorem JS.flush (j:JS n items E h)(hd:h.Down=false)(a:Int):JS n items (if 0<=h.Laid then E+1 else E) (doP h 3 a).1:=by
 have hdd:¬h.Down=true:=by grind
 have hf:=j.held.flush j.wait;have hokd:bS ⟨bx h.D.Sectors h.D.Wait,[]⟩:=by have:=Ey j.okD h.D.Wait.length;grind
 rw[doP_3 hd];by_cases hl:0<=h.Laid
 .rw[if_pos hl,if_pos hl];rw[if_pos (by grind)]at hf;exact⟨j.N,j.I,j.inv,j.kv,j.wait.e (by grind),hokd,hf,.log λw hw=>(by cases hw),λ_=>(by show h.Epoch+1=((E+1:Nat):Int);rw[j.ep hd];omega),λhx=>absurd hx hdd,⟨Rh _,by simp⟩,⟨hl,Rh _,j.laid.2⟩,⟨Rh _,by simp⟩,j.told⟩
 .rw[if_neg hl,if_neg hl];have hq:decide (0<=h.Laid)=false:=by grind
  rw[hq]at hf;exact⟨j.N,j.I,j.inv,j.kv,j.e2,hokd,hf,(by show Waits _ E (decide (0<=h.Laid)) [];rw[hq];exact .log λw hw=>(by cases hw)),j.ep,λhx=>absurd hx hdd,j.laid,⟨by show 0<=h.Logged;have:=j.log;omega,Rh _,j.log.2.2⟩,j.next,j.told⟩
theorem JS.tell (j:JS n items E h):JS n items E { h with Told:=h.Told++(fo h.Told h.S.Out h.Safe).1 }:=
 ⟨j.N,j.I,j.inv,j.kv,j.e2,j.okD,j.held,j.wait,j.ep,j.down,j.laid,j.log,j.next,xL j.told j.inv.ch.2⟩
theorem JS.cut (q:SrcQ n items)(j:JS n items E h)(k:Nat):
  ∃E',(E'=E∨(E'=E+1/\0<=h.Laid/\h.D.Wait.length<=k))/\JS n items E' { h with D:=⟨bx h.D.Sectors (h.D.Wait.take k),[]⟩,S:=bC h.N h.Items,Logged:=0,Safe:=0,Epoch:=0,Laid:= -1,Next:=0,Down:=true }:=by
 have key:∀E',E'<=200->Held (PB n items) E' (bx h.D.Sectors (h.D.Wait.take k))->JS n items E' { h with D:=⟨bx h.D.Sectors (h.D.Wait.take k),[]⟩,S:=bC h.N h.Items,Logged:=0,Safe:=0,Epoch:=0,Laid:= -1,Next:=0,Down:=true }:=λE' h2 hh=>by
  have e:bC h.N h.Items=bC n items:=by rw[j.N,j.I]
  rw[e];exact⟨j.N,j.I,vO q.S,wb n items,h2,Ey j.okD k,hh,.log λw hw=>(by cases hw),λhx=>(by cases hx),λ_=>⟨rfl,rfl,rfl,rfl⟩,⟨Rh _,by simp⟩,⟨Rh _,Rh _,by simp⟩,⟨Rh _,by simp⟩,j.told⟩
 rcases j.held.cut j.wait k with hh|⟨hq,hl,hh⟩
 .exact⟨E,.inl J,key E j.e2 hh⟩
 .exact⟨E+1,.inr ⟨J,by grind,hl⟩,key (E+1) (j.wait.e hq) hh⟩
theorem JS.lay (j:JS n items E h)(hd:h.Down=false)(hl:¬0<=h.Laid)(h200:h.Epoch≠200)(hb:¬(60<=((bI h.S).length+49)/ 50∨300<h.D.Wait.length+(((bI h.S).length+49)/ 50+1))):
  JS n items E { h with D:=⟨h.D.Sectors,h.D.Wait++fB E (bI h.S)⟩,Laid:=h.S.Choices.length }:=by
 have hep:=j.ep hd
 have he2:=j.e2
 have hq:decide (0<=h.Laid)=false:=by grind
 have hw:=j.wait.low hq
 have hsl:=CC E (bI h.S)
 refine⟨j.N,j.I,j.inv,j.kv,j.e2,⟨j.okD.1,?_,j.okD.2.2.1,λw hw'=>?_⟩,j.held,?_,j.ep,λhx=>(by grind),⟨by simp,Rh _⟩,j.log,j.next,j.told⟩
 .grind
 .rcases QX.1 hw' with hw'|hw'
  .exact(hw w hw').1
  grind[v8]
 .show Waits _ E (decide (0<=(h.S.Choices.length:Int))) _
  have:decide (0<=(h.S.Choices.length:Int))=true:=by simp
  rw[this]
  exact .slot hw ⟨h.S,j.inv,j.kv,J,by omega⟩ (by omega) (by omega)
theorem LM (q:SrcQ n items)(hI:Inv n items s)(hk:KV s)(hb:(bI s).length<=3000):gR n items (bI s)=some (s,0):=by have hs:=kv_s q.S hI hk;obtain⟨B,ok,_⟩:=hI;refine Of_eq n items s hs (by grind) (by rw[vh n items q.io,q.src]) ?_;rw[th n items s q.io (D0 hs).a6,wU q.src ok]
theorem yG (q:SrcQ n items){S:U (U UInt8)}(hh:Held (PB n items) E S):∃s,dH n items S=(s,E)/\Inv n items s/\KV s/\(E=0->s=bC n items)/\(E≠0->d6 S (E% 2)=some (bI s,E)/\(bI s).length<=3000):=by
 have low:∀sl st,sl<=1->(sl=E% 2->E=0)->st.2<=E->(dp n items S sl st).2<E∨dp n items S sl st=st:=λsl st hs hne hst=>by
  unfold dp;cases hx:d6 S sl with
  |none=>simp
  | some x=>
   simp only;by_cases h1:x.2<=st.2
   .grind
   .rw[if_neg h1];rcases hh.other hs hx with e|e|⟨e1,e2⟩
    all_goals grind
 by_cases h0:E=0
 .subst h0;refine⟨bC n items,?_,vO q.S,wb n items,λ_=>J,λh=>absurd J h⟩;simp_all[dH]
 .obtain⟨b,⟨s,hI,hk,rfl,hb⟩,hg⟩:=hh.own h0;have hof:=LM q hI hk hb;have hof':ofM n items (bI s)=(s,0):=by grind[ofM]
  have own:∀st:State×Nat,st.2<E->dp n items S (E% 2) st=(s,E):=λst hst=>by simp_all[dp,if_neg]
  refine⟨s,?_,hI,hk,λh=>absurd h h0,λ_=>⟨hg,hb⟩⟩;unfold dH;rcases Nat.mod_two_eq_zero_or_one E with e|e
  .have h1:=own (bC n items,0) (by omega);rw[e]at h1;rw[h1];rcases low 1 (s,E) (by omega) (λh=>by omega) (QJ _)with h|h
   .exfalso;unfold dp at h;grind
   .exact h
  grind[dp]
theorem Mo (q:SrcQ n items)(hI:Inv n items s)(hk:KV s)(l:U Choice):((cn n items s l).2=0->Inv n items (cn n items s l).1/\KV (cn n items s l).1/\(cn n items s l).1.Choices=s.Choices++l)/\((cn n items s l).2≠0->(cn n items s l).1=noS):=by
 unfold cn;by_cases h5:500<s.Choices.length+l.length
 .grind
 rw[if_neg h5];obtain⟨r,e1,e2,e3⟩:=wF q.S q.g (muN n items s+1) s l hI hk (by omega);simp_all
theorem JS.up (q:SrcQ n items)(j:JS n items E h)(hd:h.Down=true){a:Int}(h0:(doP h 6 a).2=0):
  ∃s t,dH n items h.D.Sectors=(s,E)/\Inv n items s/\KV s/\cn n items s (bw (E:Int) (h.D.Sectors.drop 120)).1=(t,0)/\ew n (bw (E:Int) (h.D.Sectors.drop 120)).1=0/\t.Choices=s.Choices++(bw (E:Int) (h.D.Sectors.drop 120)).1 /\
   doP h 6 a=({ h with S:=t,Logged:=t.Choices.length,Safe:=t.Choices.length,Epoch:=(E:Int),Next:=((bw (E:Int) (h.D.Sectors.drop 120)).2:Int),Down:=false },0)/\JS n items E (doP h 6 a).1:=by
 obtain⟨s,hn,hI,hk,_⟩:=yG q j.held
 have eN:=j.N
 have eI:=j.I
 subst eN
 subst eI
 rw[hY hd,if_neg (show ¬(6:Int)≠6 by decide),hn]at h0⊢
 simp only at h0⊢
 by_cases h1:ew h.N (bw (E:Int) (h.D.Sectors.drop 120)).1=0
 .rw[if_neg (by omega)]at h0⊢
  by_cases h2:(cn h.N h.Items s (bw (E:Int) (h.D.Sectors.drop 120)).1).2=0
  .rw[if_neg (by omega)]
   obtain⟨g1,g2,g3⟩:=(Mo q hI hk (bw (E:Int) (h.D.Sectors.drop 120)).1).1 h2
   have hsc:=Dv (E:Int) (h.D.Sectors.drop 120)
   have hl:=j.okD.1
   have hdn:=j.down hd
   rw[Sd]at hsc
   refine⟨s,(cn h.N h.Items s (bw (E:Int) (h.D.Sectors.drop 120)).1).1,J,hI,hk,Prod.ext J h2,h1,g3,J,?_⟩
   exact⟨J,J,g1,g2,j.e2,j.okD,j.held,j.wait,λ_=>J,λhx=>(by cases hx),⟨j.laid.1,by grind⟩,⟨by simp,Rh _,Rh _⟩,⟨by simp,by grind⟩,j.told⟩
  grind
 grind
theorem Mc {l:U Move}(h:l≠[])(a:Int):gX l a∈l:=(yz h a).1
theorem JS.do (q:SrcQ n items)(j:JS n items E h)(k a:Int)(h0:(doP h k a).2=0):∃E',JS n items E' (doP h k a).1:=by
 by_cases hd:h.Down=true
 .by_cases h6:k=6
  .subst h6;obtain⟨_,_,_,_,_,_,_,_,_,hj⟩:=j.up q hd h0;grind
  simp_all[hY]
 have hdf:h.Down=false:=by grind
 by_cases h1:k=1
 .subst h1;rw[doP_1 hdf]at h0 ⊢;by_cases hr:aY h.N h.Items h.S=[]
  .grind
  .rw[if_neg hr];have eN:=j.N;have eI:=j.I;subst eN;subst eI;exact⟨E,j.go q hdf (Mc hr a)⟩
 by_cases h2:k=2
 .subst h2;rw[doP_2 hdf]at h0 ⊢;by_cases hl:0<=h.Laid
  .grind
  rw[if_neg hl]at h0 ⊢;by_cases he:(dh h.Epoch.toNat h.D.Sectors (h.S.Choices.drop h.Logged.toNat).length h.Next.toNat (h.S.Choices.drop h.Logged.toNat) h.D.Wait).2.2=0
  .obtain⟨cs,e1,_,_,_,hj⟩:=j.write hdf hl he;grind
  grind
 by_cases h3:k=3
 .subst h3;exact⟨_,j.flush hdf a⟩
 by_cases h4:k=4
 .subst h4;rw[doP_4 hdf]at h0 ⊢;by_cases he:(fo h.Told h.S.Out h.Safe).2=0
  .rw[if_neg (by omega)];exact⟨E,j.tell⟩
  grind
 by_cases h5:k=5
 .subst h5;rw[doP_5 hdf]at h0 ⊢;by_cases hc:a<0∨h.D.Wait.length<a
  .grind
  .rw[if_neg hc];obtain⟨E',_,hj⟩:=j.cut q a.toNat;grind
 by_cases h7:k=7
 .subst h7;rw[doP_7 hdf]at h0 ⊢;by_cases hl:0<=h.Laid
  .grind
  rw[if_neg hl]at h0 ⊢;by_cases h200:h.Epoch=200
  .grind
  rw[if_neg h200]at h0 ⊢;by_cases hb:60<=((bI h.S).length+49)/ 50∨300<h.D.Wait.length+(((bI h.S).length+49)/ 50+1)
  .grind
  rw[if_neg hb];have hE:h.Epoch.toNat=E:=by have:=j.ep hdf;omega
  rw[hE];exact⟨E,j.lay hdf hl h200 hb⟩
 grind[yW]
end
end
section
section
variable {n:Net} {items:List (List Item)} {forced:List Choice} {B:Int} {s:State}
section
variable (hio:∀x∈n.Nodes,x.In.length≤1099511627776∧x.Out.length≤1099511627776) (hsrc:cX n items=0) (hC:RightC n forced)
include hio hsrc
theorem Ei(ok:OkS n items B s):kg n items s=some (aY n items s,0):=by
 have hS:=lP hsrc;rw[Lw n items s hio (λl hl=>by obtain⟨r,hr⟩:=QL hl;have:=ok.room r l hr;have:=hS.m2;omega),if_neg (by grind[wU])]
include hC
omit hio in
end
end
end
section
theorem ju{α:Type}(l:U α)(h:l.length<=1099511627776):app ([]:U α) l=some l:=by grind[bT]
def dZ(R:List (List Item)):List (Bool×List Item):=R.map λl=>(false,l)
theorem yq(R:U (U Item)):(dZ R).map Prod.snd=R:=by simp[dZ,Rb]
theorem Fa(s:State)(h:SmallS s)(cs:U (Bool×U Item))(hcs:cs.map Prod.snd=s.Rings):∀(m k:Nat),k+m=s.Memory.length ->
  iter (λiV:Int×(U Memory)=>mJ s s.At s.Choices s.Out cs iV.1 iV.2) ((k:Int),s.Memory.take k)=some (s,cs)
 |0,k,e=>by
  simp_all[mJ,aF]
 |m+1,k,e=>by
  have hk:k<s.Memory.length:=by omega
  have hg:s.Memory[k]?=some s.Memory[k]:=QC hk;have h3:=h.a3;have:mJ s s.At s.Choices s.Out cs (k:Int) (s.Memory.take k)=some (.inl (((k+1:Nat):Int),s.Memory.take (k+1))):=by unfold mJ lq;rw[if_pos (by simp;omega),bj hg,QB,ju _ (h.a7 _ (QU hk)),QB,bT (by simp;omega),QB,bc (by omega),xQ hg]
  rw[aF];simp only[this];exact Fa s h cs hcs m (k+1) (by omega)
theorem Cz(s:State)(h:SmallS s):∀(m k:Nat),k+m=s.Rings.length ->
  iter (λiW:Int×(U (Bool×U Item))=>lj s s.At s.Choices s.Out iW.1 iW.2) ((k:Int),dZ (s.Rings.take k))=some (s,dZ s.Rings)
 |0,k,e=>by
  have hk:k=s.Rings.length:=by omega
  subst hk;have:lj s s.At s.Choices s.Out (s.Rings.length:Int) (dZ (s.Rings.take s.Rings.length))=some (.inr (s,dZ s.Rings)):=by unfold lj;have:=Fa s h (dZ s.Rings) (yq _) s.Memory.length 0 (by omega);grind
  grind[aF]
 |m+1,k,e=>by
  have hk:k<s.Rings.length:=by omega
  have hg:s.Rings[k]?=some s.Rings[k]:=QC hk;have h3:=h.a2;have:lj s s.At s.Choices s.Out (k:Int) (dZ (s.Rings.take k))=some (.inl (((k+1:Nat):Int),dZ (s.Rings.take (k+1)))):=by unfold lj em;rw[if_pos (by simp;omega),bj hg,QB,ju _ (h.a6 _ (QU hk)),QB,bT (by simp[dZ];omega),QB,bc (by omega),xQ hg];grind[dZ]
  rw[aF];simp only[this];exact Cz s h m (k+1) (by omega)
theorem IT(s:State)(h:SmallS s):rT s=some (s,dZ s.Rings):=by unfold rT jj oY em;rw[ju _ h.a1,QB,ju _ h.a4,QB,ju _ h.a5,QB];exact Cz s h s.Rings.length 0 (by omega)
theorem Oe(x:Item)(r:Int)(hr:1<=r/\r<=16):sk x r=some (x.Key% r):=by
 have h1:=Int.tmod_lt_of_pos x.Key (show(0:Int)<r by omega);have h2:=Int.lt_tmod_of_pos x.Key (show(0:Int)<r by omega);have h3:x.Key.tmod r=x.Key% r - ↑(if 0<=x.Key∨r ∣ x.Key then 0 else Int.natAbs r):=Int.tmod_eq_emod;have h4:=RN x.Key (show r≠0 by omega);have h5:=Int.emod_lt_of_pos x.Key (show(0:Int)<r by omega);unfold sk rem;rw[if_neg (by omega),QB];by_cases hn:x.Key.tmod r<0
 .rw[if_pos (by grind),bq (by omega) (by omega)];grind
 grind
section
variable {n:Net} {items:List (List Item)} {B:Int} {s:State}
theorem BZ(x2:State×U (Bool×U Item))(x4:Node)(At L:U Int)(Ch:U Choice)(M:Memory×Item×Int)(q:Nat)(hR6:n.Room<=6)(hL:L.length<=16)(hO:x2.1.Out.length<=2000)(hd:L.Nodup)(R0:U (U Item))(hl:∀r,r∈L->0<=r/\r<R0.length):
  ∀(m j:Nat) (cs:U (Bool×U Item)),j+m=L.length->cs.map Prod.snd=cT M.2.1 (L.take j) R0->(∀r,r∈L.drop j->∃l,cs[r.toNat]?=some (false,l)) ->
  ∃t ok,iter (λiX:Int×(U (Bool×U Item))=>gE n x2 x4 At L Ch M q iX.1 iX.2) ((j:Int),cs)=some (t,ok) /\
   (ok=true↔(∀r,r∈L.drop j->((R0.getD r.toNat []).length:Int)<n.Room)/\¬(x4.Kind=8/\2000<=x2.1.Out.length)) /\
   (ok=true->t=⟨At,cT M.2.1 L R0,x2.1.Memory.set q M.1,Ch,if x4.Kind=8 then x2.1.Out++[M.2.1]else x2.1.Out⟩)
 | 0,j,cs,h,hcs,hf=>by
  have hj:j=L.length:=by omega
  subst hj;rw[Sf]at hcs;by_cases h8:x4.Kind=8
  .by_cases hO2:2000<=x2.1.Out.length
   .refine⟨⟨At,cs.map Prod.snd,x2.1.Memory.set q M.1,Ch,x2.1.Out⟩,false,?_,by grind,by simp⟩;rw[aF];have:gE n x2 x4 At L Ch M q (L.length:Int) cs=some (.inr (⟨At,cs.map Prod.snd,x2.1.Memory.set q M.1,Ch,x2.1.Out⟩,false)):=by
     unfold gE;grind
    grind
   .refine⟨⟨At,cs.map Prod.snd,x2.1.Memory.set q M.1,Ch,x2.1.Out++[M.2.1]⟩,true,?_,by grind,λ_=>by grind⟩;rw[aF];have:gE n x2 x4 At L Ch M q (L.length:Int) cs=some (.inr (⟨At,cs.map Prod.snd,x2.1.Memory.set q M.1,Ch,x2.1.Out++[M.2.1]⟩,true)):=by
     unfold gE;rw[if_neg (by simp),if_pos (by grind),if_neg (by simp;omega),bT (by simp;omega)];rfl
    grind
  simp_all[aF,gE]
 | m + 1,j,cs,h,hcs,hf=>by
  have hlt:j<L.length:=by omega
  have hm:=hl _ (QU hlt);have htk:L.take (j+1)=L.take j++[L[j]]:=List.take_succ_eq_append_getElem hlt;have hdr:L.drop j=L[j]::L.drop (j+1):=QG hlt;have hnd:(L.take j).Nodup:=hd.sublist (List.take_sublist _ _);have hnm:L[j]∉L.take j:=λhmem=>by grind[List.nodup_append]
  have hnn:L[j]∉L.drop (j+1):=λhmem=>by grind[List.nodup_cons]
  obtain⟨l,hcl⟩:=hf L[j] (by grind);have hcl2:(cs.map Prod.snd)[L[j].toNat]?=some l:=by grind
  have hlen:cs.length=R0.length:=by have:=congrArg List.length hcs;grind[vW]
  have hget:l=R0.getD L[j].toNat []:=by rw[hcs]at hcl2;have h1:=get_D [] hcl2;rw[vU _ _ _ hnd (λr hr=>hl r (QN hr)),if_neg (by grind)]at h1;exact h1.symm
  have hat:atc cs L[j].toNat=some l:=by grind[atc]
  have how:owc cs L[j].toNat=some l:=by unfold owc;rw[hcl]
  by_cases hroom:(l.length:Int)<n.Room
  .have e:gE n x2 x4 At L Ch M q (j:Int) cs=some (.inl (((j+1:Nat):Int),own cs L[j].toNat (l++[M.2.1]))):=by
    unfold gE;rw[if_pos (by simp;omega),bj (QC hlt),QB,ixN_D hm.1 (by omega),QB,hat,QB,if_neg (by simp;omega),how,QB,bT (by simp;omega),QB,bc (by omega)]
   obtain⟨t,ok,h1,h2,h3⟩:=BZ x2 x4 At L Ch M q hR6 hL hO hd R0 hl m (j+1) (own cs L[j].toNat (l++[M.2.1])) (by omega) (by
    unfold own;rw[List.map_set,hcs,htk,Cg];grind) (λr hr=>by
    grind[own])
   grind[aF]
  .refine⟨⟨At,cs.map Prod.snd,x2.1.Memory.set q M.1,Ch,x2.1.Out⟩,false,?_,?_,by simp⟩
   .rw[aF];have:gE n x2 x4 At L Ch M q (j:Int) cs=some (.inr (⟨At,cs.map Prod.snd,x2.1.Memory.set q M.1,Ch,x2.1.Out⟩,false)):=by
     unfold gE;rw[if_pos (by simp;omega),bj (QC hlt),QB,ixN_D hm.1 (by omega),QB,hat,QB,if_pos (by simp;omega)];rfl
    grind
   grind
end
end
section
section
variable {n:Net} {items:List (List Item)} {B:Int} {s:State}
variable {i k:Nat}
theorem BW (hR:RightN n)(hi:i<n.Nodes.length){r:Int}(ho:r∈(ah n i).Out):r∉(ah n i).In:=λh=>by grind[Cf]
theorem Jb (hS:RightS n items)(ok:OkS n items B s)(hi:i<n.Nodes.length)(hk:k<bK (ah n i)){it:Item}(hh:dm n items s i k=some it)(At:U Int)(cs:U (Bool×U Item))(hcs:cs.map Prod.snd=dc n s i k)(hfl:∀r,r∈(ah n i).Out->∃l,cs[r.toNat]?=some (false,l)):
  ∃t c,lr n (s,dZ s.Rings) ⟨i,k⟩ (ah n i) it.Key it.Val it.Dep At cs=some (t,c)/\(c=true↔dg n items s i k=true) /\
   (c=true->t=⟨At,cT (cm n s i it).2 (bJ (ah n i) it.Key) (dc n s i k),s.Memory.set i (cm n s i it).1,if(ah n i).Kind=6 then s.Choices++[⟨i,k⟩]else s.Choices,if(ah n i).Kind=8 then s.Out++[(cm n s i it).2]else s.Out⟩):=by
 have hR:=hS.toRightN
 have hrg:=ok.rg
 have hch:=ok.ch
 have hout:=ok.out
 have hmi:i<s.Memory.length:=by rw[ok.mm];exact hi
 have hm:=dv (⟨0,[],0⟩:Memory) hmi
 have hdep:=v7 hS ok hh
 have hol:(bJ (ah n i) it.Key).length<=16:=by grind[bJ,ql]
 have hlr:∀r,r∈bJ (ah n i) it.Key->0<=r/\r<(dc n s i k).length:=λr hr=>by have h1:=hR.outR i hi r (lY hR hi _ r hr);grind[vL]
 have hroom:(∀r,r∈bJ (ah n i) it.Key->(((dc n s i k).getD r.toNat []).length:Int)<n.Room)↔roomy n s (bJ (ah n i) it.Key)=true:=by
  unfold roomy;rw[Q7];have key:∀r,r∈bJ (ah n i) it.Key->(dc n s i k).getD r.toNat []=s.Rings.getD r.toNat []:=λr hr=>by grind[lY,xK,tB,tw,dQ,BW]
  grind
 have k2:∀(z37:Int) (z38:U Choice),(⟨it.Key,it.Val,z37⟩:Item)=chD (ah n i) s it->0<=z37->∃t c,mU n (s,dZ s.Rings) ⟨i,k⟩ (ah n i) it.Key it.Val At cs (bJ (ah n i) it.Key) z37 z38=some (t,c) /\
   (c=true↔roomy n s (bJ (ah n i) it.Key)=true/\¬((ah n i).Kind=8/\2000<=s.Out.length)) /\
   (c=true->t=⟨At,cT (cm n s i it).2 (bJ (ah n i) it.Key) (dc n s i k),s.Memory.set i (cm n s i it).1,z38,if(ah n i).Kind=8 then s.Out++[(cm n s i it).2]else s.Out⟩):=λz37 z38 hz hz0=>by
  have hst:nh (ah n i).Kind (ah n i).A (s.Memory.getD i ⟨0,[],0⟩) (⟨it.Key,it.Val,z37⟩:Item)=some ((cm n s i it).1,(cm n s i it).2,0):=by rw[NA _ _ _ _ (ok.mem i _ hm).1 hz0 (hS.kind i hi),hz];rfl
  obtain⟨t,c,h1,h2,h3⟩:=BZ (n:=n) (s,dZ s.Rings) (ah n i) At (bJ (ah n i) it.Key) z38 ((cm n s i it).1,(cm n s i it).2,0) i hR.m2 hol hout (wo hR hi _) (dc n s i k) hlr (bJ (ah n i) it.Key).length 0 cs (by omega)
   (by assumption) (λr hr=>hfl r (lY hR hi _ r hr))
  grind[mU,dL]
 have k3:∃t c,j8 n (s,dZ s.Rings) ⟨i,k⟩ (ah n i) it.Key it.Val it.Dep At cs (bJ (ah n i) it.Key)=some (t,c)/\(c=true↔dg n items s i k=true) /\
   (c=true->t=⟨At,cT (cm n s i it).2 (bJ (ah n i) it.Key) (dc n s i k),s.Memory.set i (cm n s i it).1,if(ah n i).Kind=6 then s.Choices++[⟨i,k⟩]else s.Choices,if(ah n i).Kind=8 then s.Out++[(cm n s i it).2]else s.Out⟩):=by
  have hcan:dg n items s i k=(roomy n s (bJ (ah n i) it.Key)&& !(decide ((ah n i).Kind=6/\s.Choices.length=500))&& !(decide ((ah n i).Kind=8/\s.Out.length=2000))):=by unfold dg;rw[hh]
  by_cases h6:(ah n i).Kind=6
  .by_cases h5:500<=s.Choices.length
   .refine⟨⟨At,cs.map Prod.snd,s.Memory,s.Choices,s.Out⟩,false,?_,?_,by simp⟩
    .unfold j8
     grind
    grind
   .obtain⟨t,c,h1,h2,h3⟩:=k2 ((s.Choices.length:Int)+1) (s.Choices++[⟨i,k⟩]) (by unfold chD;grind) (by omega)
    refine⟨t,c,?_,?_,λhc=>by grind⟩
    .unfold j8
     rw[if_pos (by grind),if_neg (by simp;omega),bT (by simp;omega),QB]
     grind
    grind
  .obtain⟨t,c,h1,h2,h3⟩:=k2 it.Dep s.Choices (by unfold chD;simp_all) hdep.1
   refine⟨t,c,?_,?_,λhc=>by grind⟩
   .simp_all[j8]
   grind
 unfold lr
 by_cases h7:(ah n i).Kind=7
 .have ho1:1<=(ah n i).Out.length:=by
   have:=hR.out1 i hi (by omega);exact this
  have ho2:=ql hR hi
  have hL:=Oe (⟨it.Key,it.Val,it.Dep⟩:Item) ((ah n i).Out.length:Int) (by omega)
  have e1:=RN it.Key (show((ah n i).Out.length:Int)≠0 by omega)
  have e2:=Int.emod_lt_of_pos it.Key (show(0:Int)<((ah n i).Out.length:Int) by omega)
  rw[if_pos (by grind),hL,QB,iT 0 e1 e2,QB]
  have ho:bJ (ah n i) it.Key=[(ah n i).Out.getD (it.Key% ((ah n i).Out.length:Int)).toNat 0]:=by simp_all[bJ]
  grind
 .rw[if_neg (by grind)]
  have ho:bJ (ah n i) it.Key=(ah n i).Out:=by simp_all[bJ]
  grind
theorem DF (hS:RightS n items)(ok:OkS n items B s)(hi:i<n.Nodes.length)(hk:k<bK (ah n i)):
  ∃t,ka n items s ⟨i,k⟩=some (t,dg n items s i k)/\(dg n items s i k=true->t=doM n items s i k):=by
 have hR:=hS.toRightN
 have hrg:=ok.rg
 have fin:∀{it:Item} (hh:dm n items s i k=some it) (At:U Int) (cs:U (Bool×U Item)),At=(if(ah n i).Kind=1 then s.At.set (ah n i).A.toNat (s.At.getD (ah n i).A.toNat 0+1)else s.At)->cs.map Prod.snd=dc n s i k->(∀r,r∈(ah n i).Out->∃l,cs[r.toNat]?=some (false,l)) ->
   ∃t,lr n (s,dZ s.Rings) ⟨i,k⟩ (ah n i) it.Key it.Val it.Dep At cs=some (t,dg n items s i k)/\(dg n items s i k=true->t=doM n items s i k):=λ{it} hh At cs hAt hcs hfl=>by
  obtain⟨t,c,h1,h2,h3⟩:=Jb hS ok hi hk hh At cs hcs hfl
  have e:c=dg n items s i k:=Sk.2 h2
  grind[doM,dc]
 have hown:∀r,r∈(ah n i).Out->∃l,(dZ s.Rings)[r.toNat]?=some (false,l):=λr hr=>by have h1:=hR.outR i hi r hr;refine⟨s.Rings.getD r.toNat [],?_⟩;grind[dZ]
 unfold ka
 rw[IT s (xV hS ok),QB,bj (gJ hi),QB]
 by_cases h1:(ah n i).Kind=1
 .obtain⟨a0,a1,a2,a3,a4,a5⟩:=at_ok hS ok hi h1
  have hAl:(ah n i).A.toNat<s.At.length:=by omega
  have hg:=dv (0:Int) hAl
  have hix:ixN s.At (ah n i).A=some (ah n i).A.toNat:=ixN_D a0 a1
  have hd:∀{l:U Item} {p:Int},0<=p->p<=l.length->sub l p (l.length:Int)=some (l.drop p.toNat):=λ{l p} h0 h1=>by simp_all[sub]
  rw[if_pos (by grind),iT [] a0 a2,QB]
  simp only
  rw[hix,QB,hg,QB,hd a3 a4,QB]
  have hdr:dm n items s i k=((items.getD (ah n i).A.toNat []).drop (s.At.getD (ah n i).A.toNat 0).toNat).head?:=by simp_all[dm]
  cases hc:(items.getD (ah n i).A.toNat []).drop (s.At.getD (ah n i).A.toNat 0).toNat with
  |nil=>
   simp_all[dg]
  |cons it tl=>
   rw[hc]at hdr
   have hi0:idx (it::tl) 0=some it:=rfl
   rw[if_neg (by simp;omega),hi0]
   simp only[QB,hix,hg]
   rw[bq (by omega) (by omega)]
   simp_all[yq,dc]
 .have hkl:=tB hR hi hk h1
  obtain⟨b,b0,b1⟩:=tw hR hi hkl
  have hd0:idx (ah n i).In (k:Int)=some ((ah n i).In.getD k 0):=bj (dv 0 hkl)
  have hrl:((ah n i).In.getD k 0).toNat<s.Rings.length:=by omega
  have hol:(dZ s.Rings).length=s.Rings.length:=by unfold dZ;simp
  have hat:atc (dZ s.Rings) ((ah n i).In.getD k 0).toNat=some (s.Rings.getD ((ah n i).In.getD k 0).toNat []):=by grind[atc,dZ]
  have hrm:=ok.room _ _ (dv [] hrl)
  rw[if_neg (by grind),hd0,QB]
  simp only
  rw[ixN_D b0 (by omega),QB,hat,QB]
  have hdr:dm n items s i k=(s.Rings.getD ((ah n i).In.getD k 0).toNat []).head?:=by simp_all[dm,dQ]
  cases hc:s.Rings.getD ((ah n i).In.getD k 0).toNat []with
  |nil=>
   simp_all[dg]
  | cons it tl=>
   rw[hc]at hdr
   have hi0:idx (it::tl) 0=some it:=rfl
   have hs1:sub (it::tl) 1 ((it::tl).length:Int)=some tl:=by unfold sub;simp_all<;>omega
   rw[if_neg (by simp;omega),hi0,QB,hs1,QB]
   refine fin hdr _ _ (by grind) ?_ (λr hr=>?_)
   .simp_all[fzd,dc,dQ,yq]
   .obtain⟨l,hl⟩:=hown r hr
    have hr0:=hR.outR i hi r hr
    grind[BW,fzd]
theorem Dr (hS:RightS n items)(ok:OkS n items B s)(hi:i<n.Nodes.length):∀(m k:Nat) (acc:U Move),k+m=bK (ah n i)->acc.length+m<=1000000 ->
  iter (λbl:Int×(U Move)=>lu n items (i:Int) s (bK (ah n i):Int) bl.1 bl.2) ((k:Int),acc)=some (.inl (((i+1:Nat):Int),acc++(((List.range (bK (ah n i))).drop k).filter λk=>dg n items s i k).map λk:Nat=>(⟨i,k⟩:Move)))
 |0,k,acc,h,ha=>by
  have hk:k=bK (ah n i):=by omega
  have e:lu n items (i:Int) s (bK (ah n i):Int) (k:Int) acc=some (.inr (.inl (((i+1:Nat):Int),acc))):=by unfold lu;have:=hS.n2;rw[if_neg (by simp;omega),bc (by omega)];rfl
  grind[aF,List.drop_of_length_le]
 | m+1,k,acc,h,ha=>by
  have hk:k<bK (ah n i):=by omega
  have h16:=sZ hS.toRightN hi;have hd:(List.range (bK (ah n i))).drop k=k::(List.range (bK (ah n i))).drop (k+1):=by grind[List.drop_eq_getElem_cons]
  obtain⟨t,ht,_⟩:=DF hS ok hi hk;have e:lu n items (i:Int) s (bK (ah n i):Int) (k:Int) acc=some (.inl (((k+1:Nat):Int),if dg n items s i k=true then acc++[⟨i,k⟩]else acc)):=by
   unfold lu;rw[if_pos (by simp;omega),ht,QB,bc (by omega)];simp only;cases dg n items s i k with
   |true=>rw[if_pos J,if_pos J,bT (by simp;omega)];rfl
   |false=>rfl
  rw[aF];simp only[e];rw[Dr hS ok hi m (k+1) _ (by omega) (by grind),hd,List.filter_cons];grind
theorem CP (hS:RightS n items)(ok:OkS n items B s):∀(m i:Nat) (acc:U Move),i+m=n.Nodes.length->acc.length+16*m<=1000 ->
  iter (λcr:Int×(U Move)=>mV n items s cr.1 cr.2) ((i:Int),acc)=some (acc++((List.range n.Nodes.length).drop i).flatMap λi=>jC n items s i)
 |0,i,acc,h,ha=>by
  simp_all[mV,aF,Q9]
 |m+1,i,acc,h,ha=>by
  have hi:i<n.Nodes.length:=by omega
  have hd:(List.range n.Nodes.length).drop i=i::(List.range n.Nodes.length).drop (i+1):=by grind[List.drop_eq_getElem_cons]
  have hlen:=xJ (items:=items) (s:=s) hS.toRightN hi;have h16:=sZ hS.toRightN hi;have e:mV n items s (i:Int) acc=some (.inl (((i+1:Nat):Int),acc++jC n items s i)):=by have hin:=Dr hS ok hi (bK (ah n i)) 0 acc (by omega) (by omega);rw[Q0,Rn]at hin;unfold mV o7;rw[if_pos (by simp;omega),bj (gJ hi),QB];by_cases h6:(ah n i).Kind=6;all_goals (simp_all[bK,jC])
  rw[aF];simp only[e];rw[CP hS ok m (i+1) _ (by omega) (by simp;omega),hd];simp
theorem C6 (hS:RightS n items)(ok:OkS n items B s):pj n items s=some (aY n items s):=by have hn:=hS.n2;have:=CP hS ok n.Nodes.length 0 [] (by omega) (by simp;omega);assumption
end
end
theorem J8:SmallS noS:=⟨by decide,by decide,by decide,by decide,by decide,λl h=>(by cases h),λm h=>(by cases h)⟩
theorem wd(n:Net)(items:U (U Item))(hio:∀x∈n.Nodes,x.In.length<=1099511627776/\x.Out.length<=1099511627776):kj n items=some (if cX n items≠0 then(noS,cX n items)else(bC n items,0)):=by
 unfold kj;rw[vh n items hio,QB];by_cases h:cX n items=0
 .simp_all[L0,lP]
 .rw[if_pos (show(cX n items !=0)=true by simpa using h),if_pos h];rfl
theorem yE{n:Net}{items:U (U Item)}(hS:RightS n items):pk n items=some (bC n items):=by
 unfold pk;have h1:=hS.r1;have h2:=hS.r2;have h3:=hS.n2;have h4:=hS.l4;have e1:mk ((items.length:Nat):Int) (0:Int)=some (List.replicate items.length 0):=by unfold mk;grind
 have e2:mk n.Rings ([]:U Item)=some (List.replicate n.Rings.toNat []):=by unfold mk;grind
 have e3:mk ((n.Nodes.length:Nat):Int) (⟨0,[],0⟩:Memory)=some (List.replicate n.Nodes.length ⟨0,[],0⟩):=by unfold mk;grind
 rw[e1,QB,e2,QB,e3,QB];rfl
section
section
variable {n:Net}{l:U (U Item)}
theorem Bb (hN:n.Nodes.length<=1000)(hio:∀x∈n.Nodes,x.In.length<=1099511627776/\x.Out.length<=1099511627776):∀(m k:Nat),k+m=n.Nodes.length ->
  iter (λss:Int×(U Node)=>nv n n.Nodes ss.1 ss.2) ((k:Int),n.Nodes)=some n
 |0,k,h=>by
  simp_all[nv,aF]
 |m+1,k,h=>by
  have hlt:k<n.Nodes.length:=by omega
  have hx:n.Nodes[k]?=some n.Nodes[k]:=QC hlt;have hio':=hio n.Nodes[k] (QU hlt);generalize n.Nodes[k]=x at hx hio';have hs:List.set n.Nodes k x=n.Nodes:=yd hx;have c1:jj x.In=some x.In:=ju _ hio'.1;have c2:jj x.Out=some x.Out:=ju _ hio'.2;have e:nv n n.Nodes (k:Int) n.Nodes=some (.inl (((k+1:Nat):Int),n.Nodes)):=by unfold nv;rw[if_pos (by simp;omega)];simp only[dL hlt,QB,hx,c1,c2,hs,bc (show k<4611686018427387904 by omega)]
  rw[aF];simp only[e];exact Bb hN hio m (k+1) (by omega)
theorem B0 (hN:n.Nodes.length<=1000)(hio:∀x∈n.Nodes,x.In.length<=1099511627776/\x.Out.length<=1099511627776):qd n=some n:=by unfold qd;rw[show u1 n.Nodes=some n.Nodes from ju _ (by omega),QB];exact Bb hN hio n.Nodes.length 0 (by omega)
theorem AS (hl:l.length<=1000)(hi:∀x∈l,x.length<=1000):∀(m k:Nat),k+m=l.length ->
  iter (λss:Int×(U (U Item))=>mS l ss.1 ss.2) ((k:Int),l.take k)=some l
 |0,k,h=>by
  simp_all[mS,aF]
 |m+1,k,h=>by
  have hlt:k<l.length:=by omega
  have hx:l[k]?=some l[k]:=QC hlt;have hi':=hi l[k] (QU hlt);have hts:=xQ hx;generalize l[k]=x at hx hi' hts;have c1:em x=some x:=ju _ (by omega);have e:mS l (k:Int) (l.take k)=some (.inl (((k+1:Nat):Int),l.take (k+1))):=by unfold mS;rw[if_pos (by simp;omega),bj hx,QB,c1,QB,bT (by grind),QB,bc (by omega),hts]
  rw[aF];simp only[e];exact AS hl hi m (k+1) (by omega)
theorem Be (hl:l.length<=1000)(hi:∀x∈l,x.length<=1000):sd l=some l:=
 AS hl hi l.length 0 (by omega)
end
section
variable {n:Net} {items:List (List Item)} {E:Nat} {h:Shop}
theorem SrcQ.l (q:SrcQ n items):n.Nodes.length<=1000/\items.length<=1000/\∀x∈items,x.length<=1000:=by have h1:=q.S.n2;have h2:=q.S.l4;refine⟨by omega,by omega,λx hx=>?_⟩;obtain⟨a,ha⟩:=QL hx;have:=q.S.l20 a x ha;omega
variable {s:State}{α:Type}{d:Disk}{e:Nat}
theorem CB (q:SrcQ n items)(hI:Inv n items s):SmallS s:=by obtain⟨B,ok,_⟩:=hI;exact xV q.S ok
theorem yV (q:SrcQ n items)(hI:Inv n items s):dI n items s=0:=by obtain⟨B,ok,_⟩:=hI;exact wU q.src ok
theorem K3 (q:SrcQ n items)(j:JS n items E h):iw h=some h:=by
 obtain⟨l1,l2,l3⟩:=q.l;have hd:=j.okD;have hc:lS h.S=some h.S:=by obtain⟨B,ok,_⟩:=j.inv;exact Fk q.S ok
 unfold iw;rw[j.N,j.I,B0 l1 q.io,QB,Be l2 l3,QB,hc,QB,yD h.D.Sectors (by have:=hd.1;omega),QB,Cp h.D.Wait (by have:=hd.2.1;omega),QB,
  show em h.Told=some h.Told from ju _ (by have:=j.told;omega),QB]
 have e1:=j.N;have e2:=j.I;subst e1;subst e2;rfl
theorem EA (q:SrcQ n items)(j:JS n items E h):pI h=some 0:=by
 have hs:=CB q j.inv;have h1:iC h.N h.Items h.S=some 0:=by rw[j.N,j.I,th n items h.S q.io hs.a6,yV q j.inv]
 have hl:=j.laid;have hg:=j.log;have hn:=j.next;have he:=j.e2;have hep:0<=h.Epoch/\h.Epoch<=200:=by
  by_cases hd:h.Down=true
  .rw[(j.down hd).2.1];omega
  .rw[j.ep (by grind)];omega
 have ht:=j.told;unfold pI;rw[h1,QB,if_neg (by decide),jv j.okD,QB,if_neg (by decide),if_neg (by simp;omega),if_neg (by simp;omega)]
theorem Mz (q:SrcQ n items)(hI:Inv n items s)(a:Int)(S:U (U UInt8))(W:U Write)(z1 z2 z3 z4 z5:Int)(dn:Bool)(td:U Item):
  r8 a n.Nodes n.Rings n.Room items s.At s.Rings s.Memory s.Choices s.Out S W z1 z2 z3 z4 z5 dn td=some (if aY n items s=[]then(10,s.At,s.Rings,s.Memory,s.Choices,s.Out)
   else(0,(doMv n items s (gX (aY n items s) a)).At,(doMv n items s (gX (aY n items s) a)).Rings,(doMv n items s (gX (aY n items s) a)).Memory,(doMv n items s (gX (aY n items s) a)).Choices,(doMv n items s (gX (aY n items s) a)).Out)):=by
 obtain⟨B,ok,hB⟩:=hI
 have hrd:kg (⟨n.Nodes,n.Rings,n.Room⟩:Net) items (⟨s.At,s.Rings,s.Memory,s.Choices,s.Out⟩:State)=some (aY n items s,0):=Ei q.io q.src ok
 unfold r8
 rw[hrd,QB]
 by_cases h0:aY n items s=[]
 .grind
 .obtain⟨hmem,hix⟩:=yz h0 a
  have hpos:0<(aY n items s).length:=RE.2 h0
  have h192:=sE (items:=items) (s:=s) q.S.toRightN
  have hrem:=N2 a (aY n items s).length hpos (by omega)
  obtain⟨r1,hr1,hr2⟩:=bind_some hrem
  have hn:=RN a (show((aY n items s).length:Int)≠0 by omega)
  have hget:(aY n items s)[(a% ((aY n items s).length:Int)).toNat]?=some (gX (aY n items s) a):=dv _ hix
  have hdo:kz (⟨n.Nodes,n.Rings,n.Room⟩:Net) items (⟨s.At,s.Rings,s.Memory,s.Choices,s.Out⟩:State) (gX (aY n items s) a)=some (doMv n items s (gX (aY n items s) a),0):=Ej q.src ok hmem q.io
  have hixn:ixN (aY n items s) (a% ((aY n items s).length:Int))=some (a% ((aY n items s).length:Int)).toNat:=ixN_D hn (by omega)
  grind
theorem Eo (p:α->Bool):∀xs:U α,(xs.find? p=none/\idxI p xs= -1)∨∃(k:Nat) (x:α),k<xs.length/\idxI p xs=(k:Int)/\xs[k]?=some x/\xs.find? p=some x
 |[]=>.inl ⟨J,J⟩
 | a::xs=>by
  by_cases h:p a=true
  .right;refine⟨0,a,by simp,?_,J,by grind⟩;simp_all[idxI,List.findIdx?_cons]
  .have h':p a=false:=by simpa using h
   rcases Eo p xs with⟨h1,h2⟩|⟨k,x,h1,h2,h3,h4⟩
   .left;refine⟨by grind,?_⟩;unfold idxI at h2 ⊢;grind
   .right;refine⟨k+1,x,by grind,?_,by grind,by grind⟩;unfold idxI at h2 ⊢;grind
theorem Mr (q:SrcQ n items){m:Move}(hm:m∈aY n items s)(c:Choice)(l:U Choice):rE m n.Nodes n.Rings n.Room (c::l)=some (eC n c m):=by
 obtain⟨i,k,rfl,hi,hk,hc⟩:=nJ hm;unfold rE eC;rw[bj (gJ hi),QB];simp only[Q1];by_cases h6:(ah n i).Kind=6
 .rw[if_neg (by grind),show idx (c::l) 0=some c from J];grind
 grind
theorem I0 (q:SrcQ n items)(c:Choice)(l:U Choice):rl (aY n items s) n.Nodes n.Rings n.Room (c::l)=some (idxI (eC n c) (aY n items s)):=by
 have h192:=sE (items:=items) (s:=s) q.S.toRightN;unfold rl;rw[xC (aY n items s) (by omega) (eC n c) (λk x hx hk h1 h2 h3=>by
  unfold rh;rw[h2,dL hk,h3];simp only[if_true,QB,hx];grind[Mr]) (λh=>by
  simp[rh])]
theorem CT (q:SrcQ n items):∀(f:Nat) (s:State) (l:U Choice),Inv n items s->muN n items s<f->l.length<=1000000 ->
  iter (λss:(U Int)×(U (U Item))×(U Memory)×(U Choice)×(U Item)×(U Choice)=>nc n items ss.1 ss.2.1 ss.2.2.1 ss.2.2.2.1 ss.2.2.2.2.1 ss.2.2.2.2.2) (s.At,s.Rings,s.Memory,s.Choices,s.Out,l)=repM n items f s l
 |f,s,[],hI,hf,hl=>by
  have e:nc n items s.At s.Rings s.Memory s.Choices s.Out []=some (.inr (s,0)):=by rfl
  rw[aF];simp only[e];cases f<;>rfl
 |0,s,c::l,hI,hf,hl=>by omega
 | f+ 1,s,c::l,hI,hf,hl=>by
  obtain⟨B,ok,hB⟩:=id hI;have hrd:kg n items (⟨s.At,s.Rings,s.Memory,s.Choices,s.Out⟩:State)=some (aY n items s,0):=Ei q.io q.src ok;rw[aF];unfold repM;have e0:nc n items s.At s.Rings s.Memory s.Choices s.Out (c::l)=match(aY n items s).find? (eC n c)with
    |none=>some (.inr (noS,11))
    |some m=>some (.inl ((doMv n items s m).At,(doMv n items s m).Rings,(doMv n items s m).Memory,(doMv n items s m).Choices,(doMv n items s m).Out,if(ah n m.Node.toNat).Kind=6 then l else c::l)):=by
   unfold nc
   rw[if_pos (by simp),hrd,QB,I0 q,QB]
   rcases Eo (eC n c) (aY n items s)with⟨h1,h2⟩|⟨k,m,h1,h2,h3,h4⟩
   .rw[h1,h2,if_pos (by decide)];rfl
   .have hmem:=QE h3
    have hdo:kz n items (⟨s.At,s.Rings,s.Memory,s.Choices,s.Out⟩:State) m=some (doMv n items s m,0):=Ej q.src ok hmem q.io
    have hk1:∀z:U Choice,nb n items s.At s.Rings s.Memory s.Choices s.Out (aY n items s,0) (k:Int) z=some (.inl ((doMv n items s m).At,(doMv n items s m).Rings,(doMv n items s m).Memory,(doMv n items s m).Choices,(doMv n items s m).Out,z)):=λz=>by grind[nb,dL]
    obtain⟨i,k',hm,hi,hk',hc⟩:=nJ hmem
    have hix:idx n.Nodes m.Node=some (ah n m.Node.toNat):=by grind[bj,gJ]
    have hsub:sub (c::l) 1 ((c::l).length:Int)=some l:=jx (i:=1) (by simp)
    rw[h2,if_neg (by simp),dL h1,QB]
    grind
  simp only[e0];cases hm:(aY n items s).find? (eC n c)with
  |none=>rfl
  |some m=>
   have hmem:=RI hm;obtain⟨h1,h2⟩:=hI.doMv q.S hmem;simp only;exact CT q f (doMv n items s m) _ h1 (by omega) (by grind)
theorem JX (q:SrcQ n items)(hI:Inv n items s){l:U Choice}(hl:l.length<=1000000):pF n items s l=some (cn n items s l):=by
 have h5:=hI.ch.1;unfold pF cn;rw[bq (by omega) (by omega)];by_cases h:500<s.Choices.length+l.length
 .rw[if_pos (by simp;omega),if_pos h];rfl
 .rw [if_neg (by simp;omega),if_neg h];have:=CT q (muN n items s+1) s l hI (by omega) hl;rw[this];cases hr:repM n items (muN n items s+1) s l with
  | none=>
   exfalso;have key:∀(f:Nat) (s:State) (l:U Choice),Inv n items s->muN n items s<f->repM n items f s l≠none:=by
    intro f;induction f with
    |zero=>omega
    | succ f ih=>
     intro s l hI hf;cases l with
     |nil=>intro h;cases h
     | cons c l=>
      unfold repM;cases hm:(aY n items s).find? (eC n c)with
      |none=>simp
      |some m=>
       obtain⟨h1,h2⟩:=hI.doMv q.S (RI hm);grind
   simp_all
  |some r=>rfl
theorem Lz (hd:bS d){ch:U Choice}{L x:Nat}(hL:L<=ch.length)(hc:ch.length<=500)(he:e<=200)(hx:x<=80)(a:Int)(N:U Node)(R Ro:Int)(I:U (U Item))(At:U Int)(Rg:U (U Item))(M:U Memory)(O:U Item)(sf la:Int)(dn:Bool)(td:U Item):
  rZ a N R Ro I At Rg M ch O d.Sectors d.Wait (L:Int) sf (e:Int) la (x:Int) dn td=some (if 0<=la then(10,d.Sectors,d.Wait,(L:Int),(x:Int))
   else if(dh e d.Sectors (ch.drop L).length x (ch.drop L) d.Wait).2.2≠0 then((dh e d.Sectors (ch.drop L).length x (ch.drop L) d.Wait).2.2,d.Sectors,d.Wait,(L:Int),(x:Int))
   else(0,(dh e d.Sectors (ch.drop L).length x (ch.drop L) d.Wait).1.Sectors,(dh e d.Sectors (ch.drop L).length x (ch.drop L) d.Wait).1.Wait,(ch.length:Int),(dh e d.Sectors (ch.drop L).length x (ch.drop L) d.Wait).2.1)):=by
 unfold rZ
 by_cases hl:0<=la
 .grind
 rw[if_neg (by grind),if_neg hl,jx hL,QB,show nI (⟨d.Sectors,d.Wait⟩:Disk) (e:Int) (x:Int) (ch.drop L)=_ from CS hd e x (ch.drop L) he hx (by grind),QB]
 grind
theorem K9 (hd:bS d){ep:Int}(he:0<=ep/\ep<=200)(a:Int)(N:U Node)(R Ro:Int)(I:U (U Item))(At:U Int)(Rg:U (U Item))(M:U Memory)(C:U Choice)(O:U Item)(lg sf la nx:Int)(dn:Bool)(td:U Item):
  rX a N R Ro I At Rg M C O d.Sectors d.Wait lg sf ep la nx dn td=some (if 0<=la then(0,bx d.Sectors d.Wait,[],la,la,ep+1, -1,0)else(0,bx d.Sectors d.Wait,[],lg,lg,ep,la,nx)):=by
 unfold rX
 rw[show nH (⟨d.Sectors,d.Wait⟩:Disk)=_ from Di hd,QB]
 by_cases hl:0<=la
 .rw[if_pos (by grind),if_pos hl,bq (by omega) (by omega)]
 grind
theorem Ng {td O:U Item}(ht:td.length<=2000)(hO:O.length<=2000)(sf a:Int)(N:U Node)(R Ro:Int)(I:U (U Item))(At:U Int)(Rg:U (U Item))(M:U Memory)(C:U Choice)(S:U (U UInt8))(W:U Write)(lg ep la nx:Int)(dn:Bool):
  r7 a N R Ro I At Rg M C O S W lg sf ep la nx dn td=some (if(fo td O sf).2≠0 then((fo td O sf).2,td)else(0,td++(fo td O sf).1)):=by
 unfold r7
 rw[AW,QB]
 by_cases h0:(fo td O sf).2=0
 .have:=xL (s:=sf) ht hO
  rw[QO]at this
  rw[if_neg (by grind),if_neg (by omega),bT (by omega),QB]
 grind
theorem N6 (q:SrcQ n items)(hd:bS d)(a:Int)(At:U Int)(Rg:U (U Item))(M:U Memory)(C:U Choice)(O:U Item)(lg sf ep la nx:Int)(dn:Bool)(td:U Item):
  sa a n.Nodes n.Rings n.Room items At Rg M C O d.Sectors d.Wait lg sf ep la nx dn td=some (if a<0∨d.Wait.length<a then(3,At,Rg,M,C,O,d.Sectors,d.Wait,lg,sf,ep,la,nx,dn)
   else(0,(bC n items).At,(bC n items).Rings,(bC n items).Memory,(bC n items).Choices,(bC n items).Out,bx d.Sectors (d.Wait.take a.toNat),[],0,0,0, -1,0,true)):=by
 have hst:kj (⟨n.Nodes,n.Rings,n.Room⟩:Net) items=some (bC n items,0):=by have:=wd n items q.io;rwa [if_neg (by simp[q.src])]at this
 unfold sa
 by_cases h:a<0∨d.Wait.length<a
 .have hc:gK (⟨d.Sectors,d.Wait⟩:Disk) a=some (⟨[],[]⟩,3):=by
   unfold gK;rw[show gf (⟨d.Sectors,d.Wait⟩:Disk)=_ from jv hd,QB,if_neg (by decide),if_pos (by grind)]
  grind
 .have hc:gK (⟨d.Sectors,d.Wait⟩:Disk) a=some (⟨bx d.Sectors (d.Wait.take a.toNat),[]⟩,0):=by
   have:=zj hd a.toNat (by omega);rwa [Ri (by omega)]at this
  grind
theorem mL_le {m:α->Nat}{c:Nat}:∀{l:U α},(∀x,x∈l->m x<=c)->mL m l<=l.length*c+1
 |[],_=>by simp[mL]
 |a::l,h=>by
  have h1:=mL_le (l:=l) λx hx=>h x (Rf _ hx)
  grind[OB,Nat.add_mul]
theorem Cx (q:SrcQ n items)(hI:Inv n items s):oe s<=10000:=by
 obtain⟨B,ok,hB⟩:=hI;have h2:=q.S.n2;have h3:=q.S.r2;have h4:=q.S.l4;have h6:=q.S.m2;have hrg:=ok.rg;have hmm:=ok.mm;have hat:=ok.at_;have hch:=ok.ch;have hou:=ok.out;have a1:=mL_le (m:=mI) (c:=1) (l:=s.At) λx _=>QJ _
 have a2:=mL_le (m:=mL dE) (c:=19) (l:=s.Rings) λl hl=>by
  obtain⟨r,hr⟩:=QL hl;have:=ok.room r l hr;have:=mL_le (m:=dE) (c:=3) (l:=l) λx _=>QJ _
  omega
 have a3:=mL_le (m:=gN) (c:=15) (l:=s.Memory) λm hm=>by
  obtain⟨i,hi⟩:=QL hm;have:=(ok.mem i m hi).1.len;have:=mL_le (m:=kH) (c:=2) (l:=m.Keys) λx _=>QJ _
  grind[gN]
 have a4:=mL_le (m:=iK) (c:=2) (l:=s.Choices) λx _=>QJ _
 have a5:=mL_le (m:=dE) (c:=3) (l:=s.Out) λx _=>QJ _
 grind[oe]
theorem OD (q:SrcQ n items)(hI:Inv n items s)(hk:KV s)(hd:bS d)(he:e<=200)(a lg sf la nx:Int)(dn:Bool)(td:U Item):
  se a n.Nodes n.Rings n.Room items s.At s.Rings s.Memory s.Choices s.Out d.Sectors d.Wait lg sf (e:Int) la nx dn td=some (if 0<=la then(10,d.Sectors,d.Wait,la)else if e=200 then(8,d.Sectors,d.Wait,la)
   else if 60<=((bI s).length+49)/ 50∨300<d.Wait.length+(((bI s).length+49)/ 50+1)then(8,[],[],la)else(0,d.Sectors,d.Wait++fB e (bI s),(s.Choices.length:Int))):=by
 have hbl:=RJ (xO s) (Nat.mul_le_mul_left 10 (Cx q hI))
 unfold se
 by_cases hl:0<=la
 .grind
 rw[if_neg (by grind),if_neg hl]
 by_cases h2:e=200
 .grind
 have hb:iA (⟨n.Nodes,n.Rings,n.Room⟩:Net) items (⟨s.At,s.Rings,s.Memory,s.Choices,s.Out⟩:State)=some (bI s,0):=by have:=yS (n:=n) items s q.io (kv_s q.S hI hk) (by grind);simp_all[yV]
 have hr:rem (IntKind.i64.wrap ((e:Int)+1)) 2=some (((e+1)% 2:Nat):Int):=by rw[bc (by omega)];rfl
 obtain⟨e0,g1,g2,g3⟩:=Fv d (((e+1)% 2:Nat):Int) ((e+1:Nat):Int) (bI s) (by omega)
 have ge:e0=0:=g2.2 hd
 rw[if_neg (by simp[ge]),if_neg (by omega)]at g3
 rw[if_neg (by simp;omega),if_neg h2,hb,QB,if_neg (by simp),hr,QB,bc (by omega),show nN (⟨d.Sectors,d.Wait⟩:Disk) _ _ _=_ from g3,QB]
 by_cases h3:60<=((bI s).length+49)/ 50∨300<d.Wait.length+(((bI s).length+49)/ 50+1)
 .grind
 .rw[if_neg h3,if_neg h3]
  rfl
theorem ES (S:U (U UInt8))(slot:Nat)(hd:U UInt8):∀(m k:Nat) (acc b:U UInt8),col S slot hd m k acc=some b->b.length<=acc.length+53*m
 |0,k,acc,b,h=>by cases h;omega
 | m+1,k,acc,b,h=>by
  unfold col at h;split at h
  .cases h
  .rename_i p hp;split at h
   .rename_i hc;have:=ES S slot hd m (k+1) _ b h;grind
   .cases h
theorem DM {S:U (U UInt8)}{slot:Nat}{x:U UInt8×Nat}(h:d6 S slot=some x):x.1.length<=4000:=by
 unfold d6 at h;split at h
 .cases h
 split at h
 .rename_i hc;obtain⟨b,hb,rfl⟩:=QT.1 h;have:=ES _ _ _ _ _ _ _ hb;grind
 .cases h
theorem F5 (q:SrcQ n items){b:U UInt8}(hb:b.length<=4000):gR n items b=some (ofM n items b):=by unfold ofM;rcases NR items q.io q.src b (by omega)with h|⟨t,h,_⟩<;>rw[h]<;>rfl
theorem BE (q:SrcQ n items)(hd:bS d)(sl:Nat)(hs:sl<=1)(st:State×Nat):
  oU n.Nodes n.Rings n.Room items d.Sectors d.Wait (st.2:Int) (sl:Int) st.1.At st.1.Rings st.1.Memory st.1.Choices st.1.Out=
   some (.inl (((dp n items d.Sectors sl st).2:Int),((sl+1:Nat):Int),(dp n items d.Sectors sl st).1.At,(dp n items d.Sectors sl st).1.Rings,(dp n items d.Sectors sl st).1.Memory,(dp n items d.Sectors sl st).1.Choices,(dp n items d.Sectors sl st).1.Out)):=by
 have hg:nQ (⟨d.Sectors,d.Wait⟩:Disk) (sl:Int)=some (getR d.Sectors sl):=FL hd sl hs
 unfold oU
 rw[if_pos (by simp;omega),hg,QB]
 unfold getR dp
 cases hm:d6 d.Sectors sl with
 |none=>
  simp only
  rw[if_pos (by simp),bc (by omega)]
 | some x=>
  simp only
  by_cases h1:x.2<=st.2
  .rw[if_pos (by simp;omega),if_pos h1,bc (by omega)]
  .have hof:gR (⟨n.Nodes,n.Rings,n.Room⟩:Net) items x.1=some (ofM n items x.1):=F5 q (DM hm)
   rw[if_neg (by simp;omega),if_neg h1,hof,QB]
   by_cases h2:(ofM n items x.1).2=0
   .rw[if_pos (by grind),if_pos h2,bc (by omega)]
   .rw[if_neg (by grind),if_neg h2,bc (by omega)]
theorem KL (q:SrcQ n items)(hd:bS d)(At:U Int)(Rg:U (U Item))(M:U Memory)(C:U Choice)(O:U Item)(lg sf ep la nx:Int)(dn:Bool)(td:U Item):
  rV n.Nodes n.Rings n.Room items At Rg M C O d.Sectors d.Wait lg sf ep la nx dn td=some ((dH n items d.Sectors).1,((dH n items d.Sectors).2:Int)):=by
 have hst:kj (⟨n.Nodes,n.Rings,n.Room⟩:Net) items=some (bC n items,0):=by have:=wd n items q.io;rwa [if_neg (by simp[q.src])]at this
 unfold rV
 rw[hst,QB]
 have s0:=BE q hd 0 (by omega) (bC n items,0)
 have s1:=BE q hd 1 (by omega) (dp n items d.Sectors 0 (bC n items,0))
 simp_all[oU,dH,aF]
theorem up_eq (q:SrcQ n items)(hd:bS d)(hn:dH n items d.Sectors=(s,E))(hI:Inv n items s)(hE:E<=200)(a:Int)(At:U Int)(Rg:U (U Item))(M:U Memory)(C:U Choice)(O:U Item)(lg sf ep la nx:Int)(dn:Bool)(td:U Item):
  sr a n.Nodes n.Rings n.Room items At Rg M C O d.Sectors d.Wait lg sf ep la nx dn td=some (if ew n (bw (E:Int) (d.Sectors.drop 120)).1≠0 then(ew n (bw (E:Int) (d.Sectors.drop 120)).1,At,Rg,M,C,O,lg,sf,ep,nx,dn)
   else if(cn n items s (bw (E:Int) (d.Sectors.drop 120)).1).2≠0 then((cn n items s (bw (E:Int) (d.Sectors.drop 120)).1).2,At,Rg,M,C,O,lg,sf,ep,nx,dn)
   else(0,(cn n items s (bw (E:Int) (d.Sectors.drop 120)).1).1.At,(cn n items s (bw (E:Int) (d.Sectors.drop 120)).1).1.Rings,(cn n items s (bw (E:Int) (d.Sectors.drop 120)).1).1.Memory,(cn n items s (bw (E:Int) (d.Sectors.drop 120)).1).1.Choices,(cn n items s (bw (E:Int) (d.Sectors.drop 120)).1).1.Out,
    ((cn n items s (bw (E:Int) (d.Sectors.drop 120)).1).1.Choices.length:Int),((cn n items s (bw (E:Int) (d.Sectors.drop 120)).1).1.Choices.length:Int),(E:Int),((bw (E:Int) (d.Sectors.drop 120)).2:Int),false)):=by
 have hsl:=yy (E:Int) (d.Sectors.drop 120)
 have hd1:=hd.1
 rw[Sd]at hsl
 unfold sr
 rw[KL q hd,hn,QB,show nP (⟨d.Sectors,d.Wait⟩:Disk) (E:Int)=_ from Fe hd (E:Int) (by omega) (by omega),QB,if_neg (by simp),show pD (⟨n.Nodes,n.Rings,n.Room⟩:Net) (bw (E:Int) (d.Sectors.drop 120)).1=some (ew n (bw (E:Int) (d.Sectors.drop 120)).1)from Ib n q.io _,QB]
 simp only
 by_cases h1:ew n (bw (E:Int) (d.Sectors.drop 120)).1=0
 .rw[if_neg (by grind),if_neg (by omega),show pF (⟨n.Nodes,n.Rings,n.Room⟩:Net) items s (bw (E:Int) (d.Sectors.drop 120)).1=_ from JX q hI (by omega),QB]
  grind
 grind
theorem Kg (q:SrcQ n items)(j:JS n items E h)(k a:Int):qe h ⟨k,a⟩=some (if k<1∨7<k then(noH,5)else doP h k a):=by
 obtain⟨s0,hn0,hI0,_⟩:=yG q j.held;have hcp:=K3 q j;have eN:=j.N;have eI:=j.I;subst eN;subst eI;have hlog:=j.log;have hnx:=j.next;have hE:=j.e2;have⟨hc5,hO⟩:=j.inv.ch;have hne:∀{x y:Int},x≠y->¬((x==y)=true):=λh1 h2=>h1 (by grind)
 have dn6:h.Down=true->∀{x:Int},x≠6->(!(h.Down==(x==6)))=true:=λh1 x h2=>by grind
 have up6:h.Down=false->∀{x:Int},x≠6->¬(!(h.Down==(x==6)))=true:=λh1 x h2=>by grind
 have er:∀{x:Int},x≠0->(x !=0)=true:=λh1=>by grind
 unfold qe;rw[EA q j,QB,if_neg (by decide)];dsimp only;by_cases h1:k=1
 .subst h1;rw[if_pos (show((1:Int)==1)=true from J),if_neg (show ¬((1:Int)<1∨7<(1:Int)) by omega)];by_cases hd:h.Down=true
  .rw[if_pos (dn6 hd (by decide)),hY hd,if_pos (by decide)];rfl
  have hdf:h.Down=false:=by grind
  rw[if_neg (up6 hdf (by decide)),hcp,QB,Mz q j.inv,QB,doP_1 hdf];by_cases h0:aY h.N h.Items h.S=[]
  .rw[if_pos h0,if_pos h0,if_pos (by simp)];rfl
  .rw[if_neg h0,if_neg h0,if_neg (by simp)];rfl
 rw[if_neg (hne h1)];by_cases h2:k=2
 .subst h2;rw[if_pos (show((2:Int)==2)=true from J),if_neg (show ¬((2:Int)<1∨7<(2:Int)) by omega)];by_cases hd:h.Down=true
  .rw[if_pos (dn6 hd (by decide)),hY hd,if_pos (by decide)];rfl
  have hdf:h.Down=false:=by grind
  have hep:=j.ep hdf;obtain⟨L,hL⟩:∃L:Nat,h.Logged=(L:Int):=⟨h.Logged.toNat,by omega⟩
  obtain⟨X,hX⟩:∃X:Nat,h.Next=(X:Int):=⟨h.Next.toNat,by omega⟩
  have hw:=Lz j.okD (ch:=h.S.Choices) (L:=L) (e:=E) (x:=X) (by omega) hc5 hE (by omega) a h.N.Nodes h.N.Rings h.N.Room h.Items h.S.At h.S.Rings h.S.Memory h.S.Out h.Safe h.Laid h.Down h.Told;rw[<- hL,<- hX,<- hep]at hw;rw[if_neg (up6 hdf (by decide)),hcp,QB,hw,QB,doP_2 hdf];have e1:h.Epoch.toNat=E:=by omega
  have e2:h.Logged.toNat=L:=by omega
  have e3:h.Next.toNat=X:=by omega
  rw[e1,e2,e3];by_cases hl:0<=h.Laid
  .rw[if_pos hl,if_pos hl,if_pos (by simp)];rfl
  rw[if_neg hl,if_neg hl];by_cases h0:(dh E h.D.Sectors (h.S.Choices.drop L).length X (h.S.Choices.drop L) h.D.Wait).2.2=0
  .rw[if_neg (not_not_intro h0),if_neg (not_not_intro h0),if_neg (by simp)];rfl
  .rw[if_pos h0,if_pos h0,if_pos (er h0)];rfl
 rw[if_neg (hne h2)];by_cases h3:k=3
 .subst h3;rw[if_pos (show((3:Int)==3)=true from J),if_neg (show ¬((3:Int)<1∨7<(3:Int)) by omega)];by_cases hd:h.Down=true
  .rw[if_pos (dn6 hd (by decide)),hY hd,if_pos (by decide)];rfl
  have hdf:h.Down=false:=by grind
  have hep:=j.ep hdf;rw[if_neg (up6 hdf (by decide)),hcp,QB,K9 j.okD (by omega),QB,doP_3 hdf];by_cases hl:0<=h.Laid
  .rw[if_pos hl,if_pos hl,if_neg (by simp)];rfl
  .rw[if_neg hl,if_neg hl,if_neg (by simp)];rfl
 rw[if_neg (hne h3)];by_cases h4:k=4
 .subst h4;rw[if_pos (show((4:Int)==4)=true from J),if_neg (show ¬((4:Int)<1∨7<(4:Int)) by omega)];by_cases hd:h.Down=true
  .rw[if_pos (dn6 hd (by decide)),hY hd,if_pos (by decide)];rfl
  have hdf:h.Down=false:=by grind
  rw[if_neg (up6 hdf (by decide)),hcp,QB,Ng j.told hO,QB,doP_4 hdf];by_cases h0:(fo h.Told h.S.Out h.Safe).2=0
  .rw[if_neg (not_not_intro h0),if_neg (not_not_intro h0),if_neg (by simp)];rfl
  .rw[if_pos h0,if_pos h0,if_pos (er h0)];rfl
 rw[if_neg (hne h4)];by_cases h5:k=5
 .subst h5;rw[if_pos (show((5:Int)==5)=true from J),if_neg (show ¬((5:Int)<1∨7<(5:Int)) by omega)];by_cases hd:h.Down=true
  .rw[if_pos (dn6 hd (by decide)),hY hd,if_pos (by decide)];rfl
  have hdf:h.Down=false:=by grind
  rw[if_neg (up6 hdf (by decide)),hcp,QB,N6 q j.okD,QB,doP_5 hdf];by_cases h0:a<0∨h.D.Wait.length<a
  .rw[if_pos h0,if_pos h0,if_pos (by simp)];rfl
  .rw[if_neg h0,if_neg h0,if_neg (by simp)];rfl
 rw[if_neg (hne h5)];by_cases h6:k=6
 .subst h6;rw[if_pos (show((6:Int)==6)=true from J),if_neg (show ¬((6:Int)<1∨7<(6:Int)) by omega)];by_cases hd:h.Down=true
  .rw[if_neg (by grind),hcp,QB,up_eq q j.okD hn0 hI0 hE,QB,hY hd,if_neg (show ¬(6:Int)≠6 by decide),hn0];simp only;by_cases g1:ew h.N (bw (E:Int) (h.D.Sectors.drop 120)).1=0
   .rw[if_neg (not_not_intro g1),if_neg (not_not_intro g1)];by_cases g2:(cn h.N h.Items s0 (bw (E:Int) (h.D.Sectors.drop 120)).1).2=0
    .rw[if_neg (not_not_intro g2),if_neg (not_not_intro g2),if_neg (by simp)];rfl
    .rw[if_pos g2,if_pos g2,if_pos (er g2)];rfl
   .rw[if_pos g1,if_pos g1,if_pos (er g1)];rfl
  have hdf:h.Down=false:=by grind
  rw[if_pos (by grind),yW hdf a (by decide)];rfl
 rw[if_neg (hne h6)];by_cases h7:k=7
 .subst h7;rw[if_pos (show((7:Int)==7)=true from J),if_neg (show ¬((7:Int)<1∨7<(7:Int)) by omega)];by_cases hd:h.Down=true
  .rw[if_pos (dn6 hd (by decide)),hY hd,if_pos (by decide)];rfl
  have hdf:h.Down=false:=by grind
  have hep:=j.ep hdf;have hl:=OD q j.inv j.kv j.okD hE a h.Logged h.Safe h.Laid h.Next h.Down h.Told;rw[<- hep]at hl;have e1:h.Epoch.toNat=E:=by omega
  rw[if_neg (up6 hdf (by decide)),hcp,QB,hl,QB,doP_7 hdf,e1];by_cases hla:0<=h.Laid
  .rw[if_pos hla,if_pos hla,if_pos (by simp)];rfl
  rw[if_neg hla,if_neg hla];by_cases h2:E=200
  .rw[if_pos h2,if_pos (show h.Epoch=200 by omega),if_pos (by simp)];rfl
  rw[if_neg h2,if_neg (show ¬h.Epoch=200 by omega)];by_cases hb:60<=((bI h.S).length+49)/ 50∨300<h.D.Wait.length+(((bI h.S).length+49)/ 50+1)
  .rw[if_pos hb,if_pos hb,if_pos (by simp)];rfl
  .rw[if_neg hb,if_neg hb,if_neg (by simp)];rfl
 rw[if_neg (hne h7),if_pos (by omega)];rfl
end
end
noncomputable section
def hapP(h:Shop)(x:Happening):Shop×Int:=if x.Kind<1∨7<x.Kind then(noH,5)else doP h x.Kind x.N
def bM(h:Shop)(x:Happening):Shop:=if(hapP h x).2=0 then(hapP h x).1 else h
def runP:Shop->List Happening->Shop
 |h,[]=>h
 |h,x::l=>runP (bM h x) l
def fV:Shop->List Happening->List Int
 |h,[]=>[]
 |h,x::l=>(hapP h x).2::fV (bM h x) l
def ej(n:Net)(items:List (List Item)):Shop:=⟨n,items,bC n items,noD,0,0,0, -1,0,[],false⟩
section
variable {n:Net} {items:List (List Item)} {E:Nat} {h:Shop}
theorem JS.step(q:SrcQ n items)(j:JS n items E h){x:Happening}(h0:(hapP h x).2=0):∃E',JS n items E' (hapP h x).1:=by
 unfold hapP at h0 ⊢;by_cases hx:x.Kind<1∨7<x.Kind
 .grind
 .rw[if_neg hx]at h0 ⊢;exact j.do q x.Kind x.N h0
theorem JS.nextH(q:SrcQ n items)(j:JS n items E h)(x:Happening):∃E',JS n items E' (bM h x):=by
 unfold bM;by_cases h0:(hapP h x).2=0
 .rw[if_pos h0];exact j.step q h0
 grind
theorem LR(q:SrcQ n items)(j:JS n items E h)(x:Happening):qe h x=some (hapP h x):=Kg q j x.Kind x.N
theorem Eg:∀(l:U Happening) (h:Shop),(fV h l).length=l.length
 |[],h=>rfl
 |x::l,h=>by simp[fV,Eg l]
theorem DE(q:SrcQ n items)(script:U Happening)(hs:script.length<=2000):∀(m k:Nat) (E:Nat) (h:Shop) (acc:U Int),k+m=script.length->acc.length=k->JS n items E h ->
  iter (λss:Int×(U Node)×Int×Int×(U (U Item))×(U Int)×(U (U Item))×(U Memory)×(U Choice)×(U Item)×(U (U UInt8))×(U Write)×Int×Int×Int×Int×Int×(U Item)×Bool×(U Int)=>nC script ss.1 ss.2.1 ss.2.2.1 ss.2.2.2.1 ss.2.2.2.2.1 ss.2.2.2.2.2.1 ss.2.2.2.2.2.2.1 ss.2.2.2.2.2.2.2.1 ss.2.2.2.2.2.2.2.2.1 ss.2.2.2.2.2.2.2.2.2.1 ss.2.2.2.2.2.2.2.2.2.2.1 ss.2.2.2.2.2.2.2.2.2.2.2.1 ss.2.2.2.2.2.2.2.2.2.2.2.2.1 ss.2.2.2.2.2.2.2.2.2.2.2.2.2.1 ss.2.2.2.2.2.2.2.2.2.2.2.2.2.2.1 ss.2.2.2.2.2.2.2.2.2.2.2.2.2.2.2.1 ss.2.2.2.2.2.2.2.2.2.2.2.2.2.2.2.2.1 ss.2.2.2.2.2.2.2.2.2.2.2.2.2.2.2.2.2.1 ss.2.2.2.2.2.2.2.2.2.2.2.2.2.2.2.2.2.2.1 ss.2.2.2.2.2.2.2.2.2.2.2.2.2.2.2.2.2.2.2) ((k:Int),h.N.Nodes,h.N.Rings,h.N.Room,h.Items,h.S.At,h.S.Rings,h.S.Memory,h.S.Choices,h.S.Out,h.D.Sectors,h.D.Wait,h.Logged,h.Safe,h.Epoch,h.Laid,h.Next,h.Told,h.Down,acc)=some (runP h (script.drop k),acc++fV h (script.drop k),0)
 |0,k,E,h,acc,hk,ha,j=>by
  simp_all[nC,aF,runP,fV]
 | m+1,k,E,h,acc,hk,ha,j=>by
  have hlt:k<script.length:=by omega
  have hx:script[k]?=some script[k]:=QC hlt;have hdr:=QG hlt;generalize script[k]=x at hx hdr;have hdo:=LR q j x;obtain⟨E',j'⟩:=j.nextH q x;have e:nC script (k:Int) h.N.Nodes h.N.Rings h.N.Room h.Items h.S.At h.S.Rings h.S.Memory h.S.Choices h.S.Out h.D.Sectors h.D.Wait h.Logged h.Safe h.Epoch h.Laid h.Next h.Told h.Down acc=some (.inl (((k+1:Nat):Int),(bM h x).N.Nodes,(bM h x).N.Rings,(bM h x).N.Room,(bM h x).Items,(bM h x).S.At,(bM h x).S.Rings,(bM h x).S.Memory,(bM h x).S.Choices,(bM h x).S.Out,(bM h x).D.Sectors,(bM h x).D.Wait,(bM h x).Logged,(bM h x).Safe,(bM h x).Epoch,(bM h x).Laid,(bM h x).Next,(bM h x).Told,(bM h x).Down,acc++[(hapP h x).2])):=by
   unfold nC;rw[if_pos (by simp;omega),bj hx,QB,hdo,QB];unfold bM;by_cases h0:(hapP h x).2=0
   .rw[if_pos (by grind),if_pos h0,bT (by simp;omega),QB,bc (by omega)]
   .rw[if_neg (by grind),if_neg h0,bT (by simp;omega),QB,bc (by omega)]
  rw[aF];simp only[e];have:=DE q script hs m (k+1) E' (bM h x) (acc++[(hapP h x).2]) (by omega) (by simp;omega) j';grind[runP,fV]
theorem yX(q:SrcQ n items):lU n items=some (ej n items,0):=by obtain⟨l1,l2,l3⟩:=q.l;have hst:=wd n items q.io;rw[if_neg (by simp[q.src])]at hst;unfold lU;rw[hst,QB,if_neg (by simp),B0 l1 q.io,QB,Be l2 l3];rfl
theorem EW(hio:∀x∈n.Nodes,x.In.length<=1099511627776/\x.Out.length<=1099511627776)(hs:cX n items≠0):lU n items=some (noH,cX n items):=by have hst:=wd n items hio;rw[if_pos hs]at hst;unfold lU;rw[hst,QB,if_pos (by grind)];rfl
theorem FY(q:SrcQ n items)(script:U Happening)(hs:script.length<=1200):jw n items script=some (runP (ej n items) script,fV (ej n items) script,0):=by unfold jw;rw[yX q,QB,if_neg (by simp),if_neg (by simp;omega)];have:=DE q script (by omega) script.length 0 0 (ej n items) [] (by omega) J (xF q.S);grind
theorem M8(hio:∀x∈n.Nodes,x.In.length<=1099511627776/\x.Out.length<=1099511627776)(hs:cX n items≠0)(script:U Happening):jw n items script=some (noH,[],cX n items):=by unfold jw;rw[EW hio hs,QB,if_pos (by grind)];rfl
end
end
section
section
variable {n:Net}{items:U (U Item)}{s:State}{l:U Choice}{h:Shop}
theorem yB:∀(f:Nat) (s:State) (l:U Choice) (r:State×Int) (k:Nat),repM n items f s l=some r->repM n items (f+k) s l=some r
 |f,s,[],r,k,h=>by
  have:some (s,(0:Int))=some r:=by rw[<- h];cases f<;>rfl
  rw[<- this];cases f+k<;>rfl
 |0,s,c::l,r,k,h=>by cases h
 |f+1,s,c::l,r,k,h=>by
  have e:f+1+k=(f+k)+1:=by omega
  rw[e];unfold repM at h ⊢;cases hm:(aY n items s).find? (eC n c)with
  |none=>grind
  |some m=>rw[hm]at h;exact yB f _ _ r k h
theorem Mp (q:SrcQ n items)(hI:Inv n items s)(hk:KV s)(h5:s.Choices.length+l.length<=500){f:Nat}{r:State×Int}(h:repM n items f s l=some r):cn n items s l=r:=by obtain⟨r',e1,_⟩:=wF q.S q.g (muN n items s+1) s l hI hk (by omega);have h1:=yB _ _ _ _ f e1;simp_all[yB,Ss,cn,if_neg]
theorem srcT:SrcQ meetN twoN:=⟨lP C7,C7,M7,λl hl x hx=>by simp only[twoN,Rl,RZ,or_false]at hl;grind[dW,gI]⟩
theorem nx {h':Shop}{k a:Int}(hk:1<=k/\k<=7)(e:doP h k a=(h',0)):bM h ⟨k,a⟩=h':=by simp_all[hapP,if_neg,bM]
def mT:List Memory:=[⟨0,[],0⟩,⟨0,[],0⟩,⟨0,[],0⟩,⟨0,[],0⟩]
def sT1:State:=⟨[0,1],[[],[⟨2,2,0⟩],[]],mT,[],[]⟩
def sT2:State:=⟨[0,1],[[],[],[⟨2,2,1⟩]],mT,[⟨2,1⟩],[]⟩
def sT3:State:=⟨[0,1],[[],[],[]],mT,[⟨2,1⟩],[⟨2,2,1⟩]⟩
def sT4:State:=⟨[1,1],[[⟨1,1,0⟩],[],[⟨2,2,1⟩]],mT,[⟨2,1⟩],[]⟩
def wT:List Write:=[⟨120,[3,0,2,1,105,95]⟩]
def hT(S:State)(D:Disk)(lg sf nx:Int)(td:List Item)(dn:Bool):Shop:=⟨meetN,twoN,S,D,lg,sf,0, -1,nx,td,dn⟩
theorem eT1:doP (ej meetN twoN) 1 1=(hT sT1 noD 0 0 0 [] false,0):=by rfl
theorem eT2:doP (hT sT1 noD 0 0 0 [] false) 1 1=(hT sT2 noD 0 0 0 [] false,0):=by rfl
theorem eT3:doP (hT sT2 noD 0 0 0 [] false) 1 1=(hT sT3 noD 0 0 0 [] false,0):=by rfl
theorem eT4:doP (hT sT3 noD 0 0 0 [] false) 4 0=(hT sT3 noD 0 0 0 [] false,0):=by rfl
theorem eT5:doP (hT sT3 noD 0 0 0 [] false) 2 0=(hT sT3 ⟨[],wT⟩ 1 0 1 [] false,0):=by
 have e:dh (hT sT3 noD 0 0 0 [] false).Epoch.toNat (hT sT3 noD 0 0 0 [] false).D.Sectors ((hT sT3 noD 0 0 0 [] false).S.Choices.drop (hT sT3 noD 0 0 0 [] false).Logged.toNat).length (hT sT3 noD 0 0 0 [] false).Next.toNat ((hT sT3 noD 0 0 0 [] false).S.Choices.drop (hT sT3 noD 0 0 0 [] false).Logged.toNat) (hT sT3 noD 0 0 0 [] false).D.Wait=(⟨[],wT⟩,1,0):=by decide+kernel
 simp_all[doP_2,hT,sT3]
theorem eT6:doP (hT sT3 ⟨[],wT⟩ 1 0 1 [] false) 3 0=(hT sT3 ⟨bx [] wT,[]⟩ 1 1 1 [] false,0):=by rfl
theorem eT7:doP (hT sT3 ⟨bx [] wT,[]⟩ 1 1 1 [] false) 4 0=(hT sT3 ⟨bx [] wT,[]⟩ 1 1 1 [⟨2,2,0⟩] false,0):=by rfl
theorem eT8:doP (hT sT3 ⟨bx [] wT,[]⟩ 1 1 1 [⟨2,2,0⟩] false) 5 0=(hT (bC meetN twoN) ⟨bx [] wT,[]⟩ 0 0 0 [⟨2,2,0⟩] true,0):=by rfl
theorem newT:dH meetN twoN (bx [] wT)=(bC meetN twoN,0):=by rfl
theorem up_of (hd:h.Down=true){t:State}{E u:Nat}(hn:dH h.N h.Items h.D.Sectors=(s,E))(hsc:bw (E:Int) (h.D.Sectors.drop 120)=(l,u))(htr:ew h.N l=0)(hrp:cn h.N h.Items s l=(t,0))(a:Int):
  doP h 6 a=({ h with S:=t,Logged:=t.Choices.length,Safe:=t.Choices.length,Epoch:=(E:Int),Next:=(u:Int),Down:=false },0):=by
 simp_all[hY]
theorem eT9:doP (hT (bC meetN twoN) ⟨bx [] wT,[]⟩ 0 0 0 [⟨2,2,0⟩] true) 6 0=(hT sT4 ⟨bx [] wT,[]⟩ 1 1 1 [⟨2,2,0⟩] false,0):=by
 have hsc:bw ((0:Nat):Int) ((bx [] wT).drop 120)=([⟨2,1⟩],1):=by decide+kernel
 have htr:ew meetN [⟨2,1⟩]=0:=J0 ⟨by rfl,by decide,λc hc=>by simp only[List.mem_singleton]at hc;subst hc;exact⟨by decide,by decide,by decide,by decide,by decide⟩⟩;have hrp:cn meetN twoN (bC meetN twoN) [⟨2,1⟩]=(sT4,0):=Mp srcT (vO srcT.S) (wb _ _) (by decide) (f:=10) (by rfl);exact up_of (h:=hT (bC meetN twoN) ⟨bx [] wT,[]⟩ 0 0 0 [⟨2,2,0⟩] true) J newT hsc htr hrp 0
theorem eT10:doP (hT sT4 ⟨bx [] wT,[]⟩ 1 1 1 [⟨2,2,0⟩] false) 4 0=(hT sT4 ⟨bx [] wT,[]⟩ 1 1 1 [⟨2,2,0⟩] false,0):=by rfl
theorem xz:rY=some true:=by
 unfold rY;rw[JG,Ox];simp only[gH,QB];rw[FY srcT _ (by simp),QB];have hr:runP (ej meetN twoN) [⟨1,1⟩,⟨1,1⟩,⟨1,1⟩,⟨4,0⟩,⟨2,0⟩,⟨3,0⟩,⟨4,0⟩,⟨5,0⟩,⟨6,0⟩,⟨4,0⟩]=hT sT4 ⟨bx [] wT,[]⟩ 1 1 1 [⟨2,2,0⟩] false:=by simp only[runP];rw[nx (by omega) eT1,nx (by omega) eT2,nx (by omega) eT3,nx (by omega) eT4,nx (by omega) eT5,nx (by omega) eT6,nx (by omega) eT7,nx (by omega) eT8,nx (by omega) eT9,nx (by omega) eT10]
 simp only[hr,Eg];rfl
end
end
section
section
variable {n:Net} {items:List (List Item)} {E:Nat} {h:Shop}
end
theorem IG {x:Node}(h1:x.In.length<=1099511627776)(h2:x.Out.length<=1099511627776):rK x x=some true:=by simp_all[rK,AE]
section
variable {n:Net}{h:Shop}
theorem A9 (hl:n.Nodes.length<=1000)(hio:∀x∈n.Nodes,x.In.length<=1099511627776/\x.Out.length<=1099511627776):∀(m k:Nat),k+m=n.Nodes.length->iter (λss:Int=>mF n.Nodes n.Nodes ss) (k:Int)=some true
 |0,k,h=>by
  simp_all[aF,mF]
 |m+1,k,h=>by
  have hlt:k<n.Nodes.length:=by omega
  have hx:n.Nodes[k]?=some n.Nodes[k]:=QC hlt;have hio':=hio n.Nodes[k] (QU hlt);generalize n.Nodes[k]=x at hx hio';rw[aF];have e:mF n.Nodes n.Nodes (k:Int)=some (.inl ((k+1:Nat):Int)):=by unfold mF;rw[if_pos (by simp;omega),bj hx,QB,QB,IG hio'.1 hio'.2,QB,if_neg (by simp),bc (by omega)]
  simp only[e];exact A9 hl hio m (k+1) (by omega)
theorem Il (hl:n.Nodes.length<=1000)(hio:∀x∈n.Nodes,x.In.length<=1099511627776/\x.Out.length<=1099511627776):r6 n n=some true:=by unfold r6;rw[if_pos (by simp),if_pos (by simp)];unfold uH;rw[if_neg (by simp)];have:=A9 hl hio n.Nodes.length 0 (by omega);grind
theorem JY (a b:U Write)(ha:a.length<=1099511627776):rI a b=some (decide (a=b)):=by
 unfold rI;by_cases hl:a.length=b.length
 .rw[if_neg (by simp;omega)];grind[lO,uS]
 .rw[if_pos (by simp;omega)];have:a≠b:=λe=>hl (by rw[e])
  simp[this]
theorem Bz (l1:h.N.Nodes.length<=1000)(hio:∀x∈h.N.Nodes,x.In.length<=1099511627776/\x.Out.length<=1099511627776)(l2:h.Items.length<=1000)(l3:∀x∈h.Items,x.length<=1000)(hS:SmallS h.S)(hd:bS h.D)(ht:h.Told.length<=2000):g9 h h=some true:=by
 have eD:rW h.D h.D=some true:=by unfold rW;rw[Hf _ _ (by have:=hd.1;omega),QB,if_pos (by simp),JY _ _ (by have:=hd.2.1;omega)];simp
 unfold g9;rw[Il l1 hio,QB,if_pos J,A6 _ _ (by omega) (λl hl=>by grind),QB,if_pos (by simp),Iu h.S h.S hS,QB,if_pos (by simp),eD,QB,if_pos J,
  if_pos (by simp),if_pos (by simp),if_pos (by simp),if_pos (by simp),if_pos (by simp),xA h.Told h.Told (by omega),QB,if_pos (by simp),QB]
 simp
theorem A0 {items:U (U Item)}{E:Nat}(q:SrcQ n items)(j:JS n items E h):g9 h h=some true:=by obtain⟨l1,l2,l3⟩:=q.l;have e1:=j.N;have e2:=j.I;subst e1;subst e2;exact Bz l1 q.io l2 l3 (CB q j.inv) j.okD j.told
end
end
theorem M1(n:Int)(h0:0<=n)(h1:n<=1099511627776):ru n=some []:=by
 unfold ru;rw[if_neg (by simp;omega),bq (n:=0- 0) (by omega) (by omega),bq (n:=n- (0- 0)) (by omega) (by omega)];by_cases h:n> 0
 .rw[if_pos (by simp;omega)];have:appz ([]:U Choice) (n- (0- 0)) ⟨0,0⟩=some ([]++List.replicate (n- (0- 0)).toNat ⟨0,0⟩):=by
   simp_all[appz]
  rw[this];rfl
 grind
theorem Jp(x y:U Choice)(hx:x.length<=549755813888)(hy:y.length<=549755813888):rB [x,y]=some (x++y):=by
 have l1a:jX [x,y] 0 []=some (.inl (1,x)):=by
  unfold jX;have:idx [x,y] 0=some x:=by simp[idx]
  rw[if_pos (by simp),this];simp only[QB];rw[bT (by simp;omega)];rfl
 have l1b:jX [x,y] 1 x=some (.inl (2,x++y)):=by
  unfold jX;have:idx [x,y] 1=some y:=by simp[idx]
  rw[if_pos (by simp),this];simp only[QB];rw[bT (by omega)];rfl
 have l1c:jX [x,y] 2 (x++y)=some (.inr (x++y)):=by rfl
 have l1:iter (λbp:Int×(U Choice)=>jX [x,y] bp.1 bp.2) (0,[])=some (x++y):=by grind[aF]
 have l2a:jZ [x,y] 0 0=some (.inl ((x.length:Int),1)):=by
  unfold jZ;have:idx [x,y] 0=some x:=by simp[idx]
  rw[if_pos (by simp),this];simp only[QB];rw[bq (n:=0+(x.length:Int)) (by omega) (by omega),if_neg (by simp),Int.zero_add];rfl
 have l2b:jZ [x,y] (x.length:Int) 1=some (.inl ((x.length:Int)+(y.length:Int),2)):=by
  unfold jZ;have:idx [x,y] 1=some y:=by simp[idx]
  rw[if_pos (by simp),this];simp only[QB];rw[bq (n:=(x.length:Int)+(y.length:Int)) (by omega) (by omega),if_neg (by simp;omega)];rfl
 have l2c:jZ [x,y] ((x.length:Int)+(y.length:Int)) 2=some (.inr (x++y)):=by unfold jZ;rw[if_neg (by simp),M1 _ (by omega) (by omega)];grind
 grind[rB,aF]
section
section
variable {n:Net} {items:List (List Item)} {E:Nat} {h:Shop}
theorem Dz(q:SrcQ n items){s:State}{B:Int}(ok:OkS n items B s){m:Move}(hm:m∈aY n items s):ka n items s m=some (doMv n items s m,true):=by obtain⟨i,k,rfl,hi,hk,hc⟩:=nJ hm;obtain⟨t,h1,h2⟩:=DF q.S ok hi hk;grind[doMv]
theorem rl1(q:SrcQ n items){s:State}{B:Int}(ok:OkS n items B s)(c:Choice):∀(m:Nat) (t:Int),m<=(aY n items s).length ->
  ((t= -1/\((aY n items s).drop m).find? (eC n c)=none)∨∃(k:Nat) (x:Move),t=(k:Int)/\(aY n items s)[k]?=some x/\((aY n items s).drop m).find? (eC n c)=some x) ->
  iter (λiY:Int×Int=>mK n items s.At s.Rings s.Memory s.Choices s.Out c (aY n items s) iY.1 iY.2) (t,(m:Int)- 1)=match(aY n items s).find? (eC n c)with
   |none=>some (.inr (noS,11))
   |some x=>some (.inl ((doMv n items s x).At,(doMv n items s x).Rings,(doMv n items s x).Memory,(doMv n items s x).Choices,(doMv n items s x).Out))
 |0,t,hm,h=>by
  rw[aF];rw[Rn]at h;unfold mK;simp only;rw[if_neg (by simp)];rcases h with⟨rfl,hf⟩|⟨k,x,rfl,hx,hf⟩
  .rw[hf,if_pos (by decide)];rfl
  .have hmv:ka n items (⟨s.At,s.Rings,s.Memory,s.Choices,s.Out⟩:State) x=some (doMv n items s x,true):=Dz q ok (QE hx);rw[hf,if_neg (by simp),dL (QD.1 hx).1,QB];grind
 |m+1,t,hm,h=>by
  have hx:(aY n items s)[m]?=some (aY n items s)[m]:=QC (by omega);have hdr:=QG (show m<(aY n items s).length by omega);have hmem:=QE hx;generalize (aY n items s)[m]=x at hx hdr hmem;have h192:=sE (items:=items) (s:=s) q.S.toRightN;obtain⟨i,k',hxe,hi,_,_⟩:=nJ hmem;have hix:idx n.Nodes x.Node=some (ah n x.Node.toNat):=by grind[bj,gJ]
  have e:∀z:Int,mK n items s.At s.Rings s.Memory s.Choices s.Out c (aY n items s) z (m:Int)=some (.inl (if eC n c x=true then(m:Int)else z,(m:Int)- 1)):=λz=>by have hc:((ah n x.Node.toNat).Kind !=6||(x.Node==c.Node&&x.Lane==c.Lane))=eC n c x:=rfl;unfold mK;rw[if_pos (by simp),dL (by omega),QB];simp only[hx,QB,hix,hc];rw[bq (by omega) (by omega)];grind
  rw[aF];simp only[show(((m+1:Nat):Int)- 1)=(m:Int) by omega,e];refine rl1 q ok c m _ (by omega) ?_;grind
theorem rl2(q:SrcQ n items)(L:U Choice):∀(f:Nat) (s:State) (l:U Choice),Inv n items s->muN n items s<f->s.Choices++l=L ->
  iter (λbl:(U Int)×(U (U Item))×(U Memory)×(U Choice)×(U Item)=>ll n items L bl.1 bl.2.1 bl.2.2.1 bl.2.2.2.1 bl.2.2.2.2) (s.At,s.Rings,s.Memory,s.Choices,s.Out)=repM n items f s l
 |f,s,[],hI,hf,hl=>by
  have e:ll n items L s.At s.Rings s.Memory s.Choices s.Out=some (.inr (s,0)):=by unfold ll;rw[if_neg (by grind)];rfl
  rw[aF];simp only[e];cases f<;>rfl
 |0,s,c::l,hI,hf,hl=>by omega
 | f+1,s,c::l,hI,hf,hl=>by
  obtain⟨B,ok,hB⟩:=id hI;have h192:=sE (items:=items) (s:=s) q.S.toRightN;have hrd:pj n items (⟨s.At,s.Rings,s.Memory,s.Choices,s.Out⟩:State)=some (aY n items s):=C6 q.S ok;have hlen:s.Choices.length<L.length:=by grind
  have hget:L[s.Choices.length]?=some c:=by grind
  have e0:ll n items L s.At s.Rings s.Memory s.Choices s.Out=match(aY n items s).find? (eC n c)with
    |none=>some (.inr (noS,11))
    |some m=>some (.inl ((doMv n items s m).At,(doMv n items s m).Rings,(doMv n items s m).Memory,(doMv n items s m).Choices,(doMv n items s m).Out)):=by
   unfold ll
   rw[if_pos (by simp;omega),dL hlen,QB]
   simp only[hget,QB,hrd]
   rw[bq (by omega) (by omega)]
   exact rl1 q ok c _ (-1) (QJ _) (.inl ⟨J,by simp⟩)
  rw[aF];unfold repM;simp only[e0];cases hm:(aY n items s).find? (eC n c)with
  |none=>rfl
  |some m=>
   have hmem:=RI hm;obtain⟨h1,h2⟩:=hI.doMv q.S hmem;simp only;refine rl2 q L f (doMv n items s m) _ h1 (by omega) ?_;rw[y0 hmem];by_cases h6:(ah n m.Node.toNat).Kind=6
   .have hb:=List.find?_some hm;simp_all[eC]
   grind
theorem IW(q:SrcQ n items){s:State}(hI:Inv n items s)(hk:KV s){l:U Choice}(hl:l.length<=1000000):o8 n items s l=some (cn n items s l):=by
 have h5:=hI.ch.1;unfold o8 cn;rw[bq (by omega) (by omega)];by_cases h:500<s.Choices.length+l.length
 .rw[if_pos (by simp;omega),if_pos h];rfl
 .obtain⟨r,e1,_⟩:=wF q.S q.g (muN n items s+1) s l hI hk (by omega);have:=rl2 q _ (muN n items s+1) s l hI (by omega) J;rw[if_neg (by simp;omega),if_neg h,Jp _ _ (by omega) (by omega),QB,this,e1];rfl
end
theorem Lp(n:Int)(h0:0<=n)(h1:n<=1099511627776):rv n=some []:=by
 unfold rv;rw[if_neg (by simp;omega),bq (n:=0- 0) (by omega) (by omega),bq (n:=n- (0- 0)) (by omega) (by omega)];by_cases h:n> 0
 .rw[if_pos (by simp;omega)];have:appz ([]:U Item) (n- (0- 0)) ⟨0,0,0⟩=some ([]++List.replicate (n- (0- 0)).toNat ⟨0,0,0⟩):=by
   simp_all[appz]
  rw[this];rfl
 grind
theorem Jm(x y:U Item)(hx:x.length<=549755813888)(hy:y.length<=549755813888):rM [x,y]=some (x++y):=by
 have i0:idx [x,y] 0=some x:=by simp[idx]
 have i1:idx [x,y] 1=some y:=by simp[idx]
 have l1:iter (λbp:Int×(U Item)=>j5 [x,y] bp.1 bp.2) (0,[])=some (x++y):=by
  have l1a:j5 [x,y] 0 []=some (.inl (1,x)):=by unfold j5;rw[if_pos (by simp),i0,QB,bT (by simp;omega)];rfl
  have l1b:j5 [x,y] 1 x=some (.inl (2,x++y)):=by unfold j5;rw[if_pos (by simp),i1,QB,bT (by omega)];rfl
  simp_all[j5,aF]
 have l2a:j4 [x,y] 0 0=some (.inl ((x.length:Int),1)):=by unfold j4;rw[if_pos (by simp),i0,QB,bq (n:=0+(x.length:Int)) (by omega) (by omega),if_neg (by simp),Int.zero_add];rfl
 have l2b:j4 [x,y] (x.length:Int) 1=some (.inl ((x.length:Int)+(y.length:Int),2)):=by unfold j4;rw[if_pos (by simp),i1,QB,bq (n:=(x.length:Int)+(y.length:Int)) (by omega) (by omega),if_neg (by simp;omega)];rfl
 have l2c:j4 [x,y] ((x.length:Int)+(y.length:Int)) 2=some (.inr (x++y)):=by unfold j4;rw[if_neg (by simp),Lp _ (by omega) (by omega),QB,l1];rfl
 grind[rM,aF]
section
variable {E:Nat} {h:Shop}
theorem Cm (q:SrcQ h.N h.Items)(hd:bS h.D)(sl:Nat)(hs:sl<=1)(st:State×Nat):
  lv h (st.2:Int) (sl:Int) st.1.At st.1.Rings st.1.Memory st.1.Choices st.1.Out=
   some (.inl (((dp h.N h.Items h.D.Sectors sl st).2:Int),((sl+1:Nat):Int),(dp h.N h.Items h.D.Sectors sl st).1.At,(dp h.N h.Items h.D.Sectors sl st).1.Rings,(dp h.N h.Items h.D.Sectors sl st).1.Memory,(dp h.N h.Items h.D.Sectors sl st).1.Choices,(dp h.N h.Items h.D.Sectors sl st).1.Out)):=by
 unfold lv
 rw[if_pos (by simp;omega),FL hd sl hs,QB]
 unfold getR dp
 cases hm:d6 h.D.Sectors sl with
 |none=>
  simp only
  rw[if_pos (by simp),bc (by omega)]
 | some x=>
  simp only
  by_cases h1:x.2<=st.2
  .rw[if_pos (by simp;omega),if_pos h1,bc (by omega)]
  .rw[if_neg (by simp;omega),if_neg h1,F5 q (DM hm),QB]
   by_cases h2:(ofM h.N h.Items x.1).2=0
   .rw[if_pos (by grind),if_pos h2,bc (by omega)]
   .rw[if_neg (by grind),if_neg h2,bc (by omega)]
theorem MH (q:SrcQ h.N h.Items)(j:JS h.N h.Items E h)(hd:h.Down=true)(a:Int):
  iter (λdz:Int×Int×(U Int)×(U (U Item))×(U Memory)×(U Choice)×(U Item)=>lv h dz.1 dz.2.1 dz.2.2.1 dz.2.2.2.1 dz.2.2.2.2.1 dz.2.2.2.2.2.1 dz.2.2.2.2.2.2) (0,0,(bC h.N h.Items).At,(bC h.N h.Items).Rings,(bC h.N h.Items).Memory,(bC h.N h.Items).Choices,(bC h.N h.Items).Out)=some (doP h 6 a):=by
 obtain⟨s,hn,hI,hk,_⟩:=yG q j.held
 have hE:=j.e2
 have hsl:=yy (E:Int) (h.D.Sectors.drop 120)
 have hd1:=j.okD.1
 rw[Sd]at hsl
 have s0:=Cm q j.okD 0 (by omega) (bC h.N h.Items,0)
 have s1:=Cm q j.okD 1 (by omega) (dp h.N h.Items h.D.Sectors 0 (bC h.N h.Items,0))
 have s2:lv h (E:Int) ((1+1:Nat):Int) s.At s.Rings s.Memory s.Choices s.Out=some (.inr (doP h 6 a)):=by
  unfold lv;rw[if_neg (by decide),Fe j.okD (E:Int) (by omega) (by omega),QB,if_pos (by simp),H1 h.N q.io _,QB,hY hd,if_neg (show ¬(6:Int)≠6 by decide),hn];unfold pc;simp only;by_cases g1:ew h.N (bw (E:Int) (h.D.Sectors.drop 120)).1=0
  .rw[if_pos (by grind),show o8 h.N h.Items (⟨s.At,s.Rings,s.Memory,s.Choices,s.Out⟩:State) (bw (E:Int) (h.D.Sectors.drop 120)).1=_ from IW q hI hk (by omega),QB,if_neg (not_not_intro g1)];unfold mY;by_cases g2:(cn h.N h.Items s (bw (E:Int) (h.D.Sectors.drop 120)).1).2=0
   .simp_all
   .rw[if_pos (by grind),if_pos g2];rfl
  .rw[if_neg (by grind),if_pos g1];unfold mY;rw[if_pos (by grind)];rfl
 have hn':dp h.N h.Items h.D.Sectors 1 (dp h.N h.Items h.D.Sectors 0 (bC h.N h.Items,0))=(s,E):=hn
 simp_all[aF]
variable {n:Net}{items:U (U Item)}
theorem M9 (q:SrcQ n items)(j:JS n items E h)(x:Happening):pt h x=some (hapP h x):=by
 have eN:=j.N;have eI:=j.I;subst eN;subst eI;obtain⟨k,a⟩:=x;have hlog:=j.log;have hnx:=j.next;have hE:=j.e2;have hla1:=j.laid.1;have⟨hc5,hO⟩:=j.inv.ch;obtain⟨B,ok,hB⟩:=id j.inv;have hne:∀{x y:Int},x≠y->¬((x==y)=true):=λh1 h2=>h1 (by grind)
 have er:∀{x:Int},x≠0->(x !=0)=true:=λh1=>by grind
 unfold pt hapP;dsimp only;by_cases hx:k<1∨7<k
 .rw[if_pos (by grind),if_pos hx];rfl
 rw[if_neg (by grind),if_neg hx];by_cases hd:h.Down=true
 .by_cases h6:k=6
  .subst h6;rw[if_neg (by grind),if_neg (by decide),if_neg (by decide),if_neg (by decide),if_neg (by decide),if_neg (by decide),if_neg (by decide),if_pos (by decide),yE q.S,QB];grind[MH]
  .rw[if_pos (by grind),hY hd,if_pos h6];rfl
 have hdf:h.Down=false:=by grind
 have hep:=j.ep hdf;by_cases h6:k=6
 .subst h6;rw[if_pos (by grind),yW hdf a (by decide)];rfl
 rw[if_neg (by grind)];by_cases h1:k=1
 .subst h1;rw[if_pos (by decide),C6 q.S ok,QB,doP_1 hdf];by_cases h0:aY h.N h.Items h.S=[]
  .rw[if_pos h0,if_pos (by simp[h0])];rfl
  .obtain⟨hmem,hix⟩:=yz h0 a;have hpos:0<(aY h.N h.Items h.S).length:=RE.2 h0;have h192:=sE (items:=h.Items) (s:=h.S) q.S.toRightN;have hn:=RN a (show((aY h.N h.Items h.S).length:Int)≠0 by omega);have hget:(aY h.N h.Items h.S)[(a% ((aY h.N h.Items h.S).length:Int)).toNat]?=some (gX (aY h.N h.Items h.S) a):=dv _ hix;have hixn:ixN (aY h.N h.Items h.S) (a% ((aY h.N h.Items h.S).length:Int))=some (a% ((aY h.N h.Items h.S).length:Int)).toNat:=ixN_D hn (by omega);rw[if_neg h0,if_neg (by grind),NI a _ hpos (by omega),QB];grind[Dz]
 rw[if_neg (hne h1)];by_cases h2:k=2
 .subst h2;rw[if_pos (by decide),doP_2 hdf];by_cases hl:0<=h.Laid
  .rw[if_pos (by simp;omega),if_pos hl];rfl
  rw[if_neg (by simp;omega),if_neg hl];obtain⟨L,hL⟩:∃L:Nat,h.Logged=(L:Int):=⟨h.Logged.toNat,by omega⟩
  obtain⟨X,hX⟩:∃X:Nat,h.Next=(X:Int):=⟨h.Next.toNat,by omega⟩
  have e1:h.Epoch.toNat=E:=by omega
  have e2:h.Logged.toNat=L:=by omega
  have e3:h.Next.toNat=X:=by omega
  rw[e1,e2,e3,hL,hX,hep,jx (by omega),QB,CS j.okD E X (h.S.Choices.drop L) hE (by omega) (by grind),QB];by_cases h0:(dh E h.D.Sectors (h.S.Choices.drop L).length X (h.S.Choices.drop L) h.D.Wait).2.2=0
  .grind
  .rw[if_pos (er h0),if_pos h0];rfl
 rw[if_neg (hne h2)];by_cases h7:k=7
 .subst h7;rw[if_pos (by decide),doP_7 hdf];by_cases hl:0<=h.Laid
  .rw[if_pos (by simp;omega),if_pos hl];rfl
  rw[if_neg (by simp;omega),if_neg hl];by_cases h2:h.Epoch=200
  .rw[if_pos (by grind),if_pos h2];rfl
  have hbl:=RJ (xO h.S) (Nat.mul_le_mul_left 10 (Cx q j.inv));have hb:iA h.N h.Items h.S=some (bI h.S,0):=by have:=yS (n:=h.N) h.Items h.S q.io (kv_s q.S j.inv j.kv) (by grind);rwa [if_neg (by simp[yV q j.inv])]at this
  have hr:rem (IntKind.i64.wrap ((E:Int)+1)) 2=some (((E+1)% 2:Nat):Int):=by rw[bc (by omega)];rfl
  obtain⟨e0,g1,g2,g3⟩:=Fv h.D (((E+1)% 2:Nat):Int) ((E+1:Nat):Int) (bI h.S) (by omega);have ge:e0=0:=g2.2 j.okD;rw[if_neg (by simp[ge]),if_neg (by omega)]at g3;have e1:h.Epoch.toNat=E:=by omega
  rw[if_neg (by grind),if_neg h2,hb,QB,if_neg (by simp),e1,hep,hr,QB,bc (by omega),g3,QB];by_cases h3:60<=((bI h.S).length+49)/ 50∨300<h.D.Wait.length+(((bI h.S).length+49)/ 50+1)
  .rw[if_pos h3,if_pos h3];rfl
  .rw[if_neg h3,if_neg h3];rfl
 rw[if_neg (hne h7)];by_cases h3:k=3
 .subst h3;rw[if_pos (by decide),Di j.okD,QB,doP_3 hdf];by_cases hl:0<=h.Laid
  .rw[if_pos (by simp;omega),if_pos hl,bq (by omega) (by omega)]
  grind
 rw[if_neg (hne h3)];by_cases h4:k=4
 .subst h4;rw[if_pos (by decide),AW,QB,doP_4 hdf];by_cases h0:(fo h.Told h.S.Out h.Safe).2=0
  .have:=xL (s:=h.Safe) j.told hO;rw[QO]at this;rw[if_neg (by grind),if_neg (not_not_intro h0),Jm _ _ (by omega) (by omega),QB]
  .rw[if_pos (er h0),if_pos h0];rfl
 rw[if_neg (hne h4)];have h5:k=5:=by omega
 subst h5;rw[if_pos (by decide),doP_5 hdf];by_cases hc:a<0∨h.D.Wait.length<a
 .have hcu:gK h.D a=some (⟨[],[]⟩,3):=by
   unfold gK;rw[jv j.okD,QB,if_neg (by decide),if_pos (by grind)]
  rw[if_pos hc,hcu];rfl
 .have hcu:gK h.D a=some (⟨bx h.D.Sectors (h.D.Wait.take a.toNat),[]⟩,0):=by
   have:=zj j.okD a.toNat (by omega);grind
  have hf:jk h.N h.Items=some (ej h.N h.Items):=by unfold jk;rw[yE q.S];rfl
  rw[if_neg hc,hcu,QB,if_neg (by simp),hf];rfl
theorem JU (a b:U Int)(ha:a.length<=1099511627776):rJ a b=some (decide (a=b)):=by
 unfold rJ;by_cases hl:a.length=b.length
 .rw[if_neg (by simp;omega)];grind[lO,uR]
 .rw[if_pos (by simp;omega)];have:a≠b:=λe=>hl (by rw[e])
  simp[this]
theorem xI:pg noH=some true:=by
 unfold pg;rw[show g9 noH (⟨(⟨[],0,0⟩:Net),[],(⟨[],[],[],[],[]⟩:State),(⟨[],[]⟩:Disk),0,0,0,0,0,[],false⟩:Shop)=some true from
  Bz (h:=noH) (by decide) (λx hx=>by cases hx) (by decide) (λx hx=>by cases hx) J8 Fi (by decide)]
 rfl
theorem CJ (q:SrcQ n items)(script:U Happening)(hs:script.length<=1200):∀(m k:Nat) (E:Nat) (h:Shop) (acc:U Int),k+m=script.length->acc.length=k->JS n items E h->acc++fV h (script.drop k)=fV (ej n items) script->runP h (script.drop k)=runP (ej n items) script ->
  iter (λaZ:Int×(U Node)×Int×Int×(U (U Item))×(U Int)×(U (U Item))×(U Memory)×(U Choice)×(U Item)×(U (U UInt8))×(U Write)×Int×Int×Int×Int×Int×(U Item)×Bool×(U Int)=>ln script (runP (ej n items) script,fV (ej n items) script,0) aZ.1 aZ.2.1 aZ.2.2.1 aZ.2.2.2.1 aZ.2.2.2.2.1 aZ.2.2.2.2.2.1 aZ.2.2.2.2.2.2.1 aZ.2.2.2.2.2.2.2.1 aZ.2.2.2.2.2.2.2.2.1 aZ.2.2.2.2.2.2.2.2.2.1 aZ.2.2.2.2.2.2.2.2.2.2.1 aZ.2.2.2.2.2.2.2.2.2.2.2.1 aZ.2.2.2.2.2.2.2.2.2.2.2.2.1 aZ.2.2.2.2.2.2.2.2.2.2.2.2.2.1 aZ.2.2.2.2.2.2.2.2.2.2.2.2.2.2.1 aZ.2.2.2.2.2.2.2.2.2.2.2.2.2.2.2.1 aZ.2.2.2.2.2.2.2.2.2.2.2.2.2.2.2.2.1 aZ.2.2.2.2.2.2.2.2.2.2.2.2.2.2.2.2.2.1 aZ.2.2.2.2.2.2.2.2.2.2.2.2.2.2.2.2.2.2.1 aZ.2.2.2.2.2.2.2.2.2.2.2.2.2.2.2.2.2.2.2) ((k:Int),h.N.Nodes,h.N.Rings,h.N.Room,h.Items,h.S.At,h.S.Rings,h.S.Memory,h.S.Choices,h.S.Out,h.D.Sectors,h.D.Wait,h.Logged,h.Safe,h.Epoch,h.Laid,h.Next,h.Told,h.Down,acc)=some true
 |0,k,E,h,acc,hk,ha,j,hsay,hrun=>by
  rw[Q9 (by omega)]at hsay hrun;have hsay:acc=fV (ej n items) script:=by grind[fV]
  have hrun:h=runP (ej n items) script:=hrun;have e:ln script (runP (ej n items) script,fV (ej n items) script,0) (k:Int) h.N.Nodes h.N.Rings h.N.Room h.Items h.S.At h.S.Rings h.S.Memory h.S.Choices h.S.Out h.D.Sectors h.D.Wait h.Logged h.Safe h.Epoch h.Laid h.Next h.Told h.Down acc=some (.inr true):=by unfold ln;rw[if_neg (by simp;omega),<- hsay,<- hrun];dsimp only;rw[if_pos (show((0:Int)==0)=true from J),JU _ _ (by omega),QB,if_pos (by simp),show g9 h (⟨⟨h.N.Nodes,h.N.Rings,h.N.Room⟩,h.Items,⟨h.S.At,h.S.Rings,h.S.Memory,h.S.Choices,h.S.Out⟩,⟨h.D.Sectors,h.D.Wait⟩,h.Logged,h.Safe,h.Epoch,h.Laid,h.Next,h.Told,h.Down⟩:Shop)=some true from A0 q j,QB,if_pos J,EA q j];rfl
  grind[aF]
 | m+1,k,E,h,acc,hk,ha,j,hsay,hrun=>by
  have hlt:k<script.length:=by omega
  have hx:script[k]?=some script[k]:=QC hlt;have hdr:=QG hlt;generalize script[k]=x at hx hdr;obtain⟨E',j'⟩:=j.nextH q x;have hdo:pt (⟨⟨h.N.Nodes,h.N.Rings,h.N.Room⟩,h.Items,⟨h.S.At,h.S.Rings,h.S.Memory,h.S.Choices,h.S.Out⟩,⟨h.D.Sectors,h.D.Wait⟩,h.Logged,h.Safe,h.Epoch,h.Laid,h.Next,h.Told,h.Down⟩:Shop) x=some (hapP h x):=M9 q j x;have e:ln script (runP (ej n items) script,fV (ej n items) script,0) (k:Int) h.N.Nodes h.N.Rings h.N.Room h.Items h.S.At h.S.Rings h.S.Memory h.S.Choices h.S.Out h.D.Sectors h.D.Wait h.Logged h.Safe h.Epoch h.Laid h.Next h.Told h.Down acc=some (.inl (((k+1:Nat):Int),(bM h x).N.Nodes,(bM h x).N.Rings,(bM h x).N.Room,(bM h x).Items,(bM h x).S.At,(bM h x).S.Rings,(bM h x).S.Memory,(bM h x).S.Choices,(bM h x).S.Out,(bM h x).D.Sectors,(bM h x).D.Wait,(bM h x).Logged,(bM h x).Safe,(bM h x).Epoch,(bM h x).Laid,(bM h x).Next,(bM h x).Told,(bM h x).Down,acc++[(hapP h x).2])):=by
   unfold ln;rw[if_pos (by simp;omega),bj hx,QB,hdo,QB];unfold bM;by_cases h0:(hapP h x).2=0
   .rw[if_pos (by grind),if_pos h0,bT (by simp;omega),QB,bc (by omega)]
   .rw[if_neg (by grind),if_neg h0,bT (by simp;omega),QB,bc (by omega)]
  rw[aF];simp only[e];rw[hdr]at hsay hrun;exact CJ q script hs m (k+1) E' (bM h x) (acc++[(hapP h x).2]) (by omega) (by simp;omega) j' (by grind[fV]) hrun
theorem Iv (n:Net)(items:U (U Item))(script:U Happening)(gn:gNet n)(gi:gL (gL dW) items)(gs:gL xG script)(hb:mNet n+(mL (mL dE) items+(mL vI script+0))<=1048576):u6 n items script=some true:=by
 have hio:=MX (show mNet n<=1048576 by omega);have hcs:=G8 n items hio;unfold u6;by_cases hs:cX n items=0
 .have q:SrcQ n items:=⟨lP hs,hs,hio,gi⟩
  have hf:jk n items=some (ej n items):=by unfold jk;rw[yE q.S];rfl
  have hsame:g9 (ej n items,(0:Int)).1 (ej n items)=some true:=A0 q (xF q.S);rw[hs]at hcs;rw[yX q,QB];by_cases hl:1200<script.length
  .have hr:jw n items script=some (noH,[],2):=by
    unfold jw;rw[yX q,QB,if_neg (by simp),if_pos (by simp;omega)];rfl
   rw[hr,QB,hcs,QB,xz,QB,if_neg (by decide),if_neg (by simp),if_neg (by simp),if_pos (by simp),hf,QB,hsame,QB,QB,if_neg (by decide),if_pos (by simp;omega)];simp[lp,xI]
  .rw[FY q script (by omega),QB,hcs,QB,xz,QB,if_neg (by decide),if_neg (by simp),if_neg (by simp),if_pos (by simp),hf,QB,hsame,QB,QB,if_neg (by decide),if_neg (by simp;omega)];unfold lp;rw[if_neg (by decide),hf,QB];exact CJ q script (by omega) script.length 0 0 (ej n items) [] (by omega) J (xF q.S) (by simp) (by simp)
 .have hs':(cX n items !=0)=true:=by grind
  have hs0:¬(cX n items==0)=true:=by grind
  rw[EW hio hs,QB,M8 hio hs,QB,hcs,QB,xz,QB,if_neg (by decide),if_neg (by simp),if_pos hs',xI,QB,if_neg (by decide),if_neg hs0,QB,if_neg (by decide),if_neg (by simp[hs])];simp_all[lp,xI]
end
end
end Go.Proofs.YtnlmagdmmjkklaaGreat
namespace Go.Proofs.YtnlmagdmmjkklaaGreat.shopRunLaw
open Go.ChangeShapes Go.WideShapes Go.ChangeAt Go.RowKit
theorem own:ownKnob Qbl.godebug=none:=by kernel_rfl
theorem laid:laidOutB Qbl=true:=by kernel_rfl
theorem ok:(Tryz.f6.params.toList.all λt=>Qbl.readableRec t&&decide (t<Qbl.types.size))=true:=by kernel_rfl
set_option maxRecDepth 100000 in
theorem contract (H:Type) (enc:TypeId×Value->H) (W:World) (base:Nat) (args:Array Value) (ds gs:List (DataW H)) (before:List MemPlace)
  (hval:∀(j:Nat) t v,Tryz.f6.params[j]?=some t->args[j]?=some v->Value.okWide Qbl W .any base t v)
  (hW:DataW.Whole enc Qbl Tryz.f6.params.toList Rows.shopRunSpec.vars false W args.toList ds gs before) (hk:Rows.uptoSmall H (ds++gs)=true):
  Calls Qbl 6 args W λe W'=>∃v,e=.returned v/\Rows.shopRunSpec.post enc Qbl Tryz.f6 false true false false W args v W':=by
 have hW':=hW
 obtain⟨p,q,hA0,hV,rfl,hfz,hnd⟩:=hW
 have hA:DataW.TrodAll enc Qbl W 0 (λ_=>true) true Tryz.f6.params.toList args.toList ds p:=hA0
 rw[Tryz.params6]at hA hval
 obtain⟨v0,vs0,d0,ds0,p0,q0,hargs,rfl,rfl,h0,r0⟩:=trodAll_cons hA
 obtain⟨v1,vs1,d1,ds1,p1,q1,rfl,rfl,rfl,h1,r1⟩:=trodAll_cons r0
 obtain⟨v2,vs2,d2,ds2,p2,q2,rfl,rfl,rfl,h2,r2⟩:=trodAll_cons r1
 obtain⟨rfl,rfl,rfl⟩:=trodAll_nil r2
 obtain rfl:args=#[v0,v1,v2]:=by cases args;simp_all
 obtain⟨rfl,rfl⟩:=trodVars_none hV
 obtain⟨x0,a0,g0,m0⟩:=Opn.args on24 VP (hval 0 _ v0 J J) h0
 obtain⟨x1,a1,g1,m1⟩:=TM on25 (by rw[Vq]) (hval 1 _ v1 J J) h1
 obtain⟨x2,a2,g2,m2⟩:=TM on26 (by rw[Vr]) (hval 2 _ v2 J J) h2
 have hb:Rows.uptoBulkAll ([d0,d1,d2]:List (DataW H))<=1048576:=of_decide_eq_true hk
 simp only[Rows.uptoBulkAll]at hb
 refine LB laid Tryz.underlying4 (by kernel_rfl) ok J J J J hW' (av:=[_,_,_]) (.cons a0 (.cons a1 (.cons a2 (.nil)))) (HG (Iv x0 x1 x2 g0 g1 g2 (by omega)))
set_option maxRecDepth 100000 in
theorem lifted (os:Os) (started:os.Started) (H:Type) (enc:TypeId×Value->H) (F:Stop.Interp):
  ReturnsInHanded {} Tryz.checked os 6 .any ((Rows.OpenSpec.upto Rows.shopRunSpec).pre6 enc Qbl Tryz.f6 Rows.shopRunUptoRow.domain false) (((Rows.OpenSpec.upto Rows.shopRunSpec).at F).post enc Qbl Tryz.f6 false true false false):=by
 refine returnsInHanded_of_cond (C:=Tryz.checked) (s:=Rows.OpenSpec.upto Rows.shopRunSpec) (k:=Rows.uptoSmall) J own started (by kernel_rfl) Vu
  (OpenSpec.witness (enc:=enc) (C:=Tryz.checked) (s:=Rows.OpenSpec.upto Rows.shopRunSpec) (k:=Rows.uptoSmall) J false ⟨#[],#[.agg #[.slice none 0 0,.int .i64 0,.int .i64 0],.slice none 0 0,.slice none 0 0],[]⟩ 8 (by kernel_rfl) (by kernel_rfl) (by kernel_rfl)
   (x:=([.agg [.nil,.lit (.int .i64 0),.lit (.int .i64 0)],.nil,.nil],[],[])) (by kernel_rfl) J (by kernel_rfl)) ?_
 intro W base args ds gs before hval hW _ hk _
 exact contract H enc W base args ds gs before hval hW hk
theorem proved:Rows.ShopRunUptoSaid:=
 OpenClaim.holds_of_cond 6 Tryz.f6 J J J J J J J ⟨J,J,J,J,J⟩ J J J J J (by kernel_rfl) Vu (by kernel_rfl)
  (of_decide_eq_true (by kernel_rfl)) (by unfold Func.isWrapper;first|(rw[if_pos (by decide+kernel)];kernel_rfl)|(rw[if_neg (by decide+kernel)];exact⟨J,J⟩))
  (λos started H enc _ F=>lifted os started H enc F)
#print axioms proved
end Go.Proofs.YtnlmagdmmjkklaaGreat.shopRunLaw
