/-
  Part 3 of the proof of shopEndsLaw.proved: the code computes these functions, and the law holds of them, with no condition beyond the statement's own; put together by a program of ours (wip/decl.py) out of texts of ours.
-/
import Derived.Recover
import Derived.Shelf.Strings.Builder1
import Derived.Lib.Builder
import Derived.Laws.Externs
import Derived.Deep.QuietTactic
import Derived.Sort.LotA
import Derived.Sort.Row
import Derived.Tactics
import Derived.Tactics2
import Derived.Test.YtfglbbhdfgjheaaGreatDoorZShopEnds2
set_option linter.unusedVariables false
set_option linter.unusedSimpArgs false
namespace Go.Proofs.YtfglbbhdfgjheaaGreatDoor
section
open Go.RowKit
set_option maxRecDepth 100000
def tyT:TT:=.n 64 (.n 27 (.n 12 (.n 7 (.n 4 (.l 3 (.it .i64)) (.n 5 (.l 4 (.bo)) (.l 5 (.it .u8)))) (.n 9 (.n 8 (.l 7 (.ag [.int .i64 0,.int .i64 0,.bool false,.int .u8 0] 4 [(0,1,2),(1,1,3),(2,1,4),(3,1,6)])) (.l 8 (.ag [.int .i64 0,.int .i64 0,.bool false,.int .u8 0] 4 [(0,1,2),(1,1,3),(2,1,4),(3,1,6)]))) (.n 10 (.l 9 (.str)) (.l 10 (.str))))) (.n 22 (.n 16 (.n 15 (.l 12 (.it .u64)) (.l 15 (.sc (.nilp)))) (.n 18 (.l 16 (.sc (.nilp))) (.l 18 (.ag [.nilp] 1 [(0,1,17)])))) (.n 24 (.n 23 (.l 22 (.sl 93 4)) (.l 23 (.ag [.nils,.int .i64 0,.int .i64 0] 3 [(0,1,22),(1,1,3),(2,1,3)]))) (.n 25 (.l 24 (.ag [.nils,.int .i64 0,.int .i64 0] 3 [(0,1,22),(1,1,3),(2,1,3)])) (.l 25 (.sl 30 1)))))) (.n 35 (.n 30 (.n 28 (.l 27 (.sl 3 1)) (.n 29 (.l 28 (.sl 133 3)) (.l 29 (.sl 118 2)))) (.n 33 (.n 32 (.l 30 (.sl 68 3)) (.l 32 (.ag [.nils,.nils,.nils,.nils,.nils] 5 [(0,1,27),(1,1,25),(2,1,28),(3,1,29),(4,1,30)]))) (.n 34 (.l 33 (.sl 9 1)) (.l 34 (.sl 113 2))))) (.n 42 (.n 38 (.n 36 (.l 35 (.ag [.nils,.nils] 2 [(0,1,33),(1,1,34)])) (.l 36 (.ag [.nils,.nils] 2 [(0,1,33),(1,1,34)]))) (.n 40 (.l 38 (.ag [.nils,.int .i64 0,.int .i64 0,.nils,.nils,.nils,.nils,.nils,.nils,.nils,.nils,.int .i64 0,.int .i64 0,.int .i64 0,.int .i64 0,.int .i64 0,.nils,.bool false] 18 [(0,3,24),(3,1,25),(4,5,32),(9,2,36),(11,1,3),(12,1,3),(13,1,3),(14,1,3),(15,1,3),(16,1,30),(17,1,4)])) (.l 40 (.it .i64)))) (.n 47 (.n 45 (.l 42 (.sc (.nilf))) (.l 45 (.sc (.nilf)))) (.n 52 (.l 47 (.ag [.int .i64 0,.int .i64 0] 2 [(0,1,3),(1,1,3)])) (.l 52 (.sc (.nilf)))))))) (.n 141 (.n 79 (.n 69 (.n 67 (.l 64 (.sc (.nilf))) (.n 68 (.l 67 (.ag [.int .i64 0,.int .i64 0,.int .i64 0] 3 [(0,1,3),(1,1,3),(2,1,3)])) (.l 68 (.ag [.int .i64 0,.int .i64 0,.int .i64 0] 3 [(0,1,3),(1,1,3),(2,1,3)])))) (.n 76 (.n 74 (.l 69 (.sc (.nilf))) (.l 74 (.sc (.nilf)))) (.n 78 (.l 76 (.sc (.nilf))) (.l 78 (.ag [.int .i64 0,.int .i64 0] 2 [(0,1,3),(1,1,3)]))))) (.n 118 (.n 93 (.n 89 (.l 79 (.sc (.nilf))) (.l 89 (.sc (.nilf)))) (.n 113 (.l 93 (.ag [.int .i64 0,.int .i64 0,.nils,.nils] 4 [(0,1,3),(1,1,3),(2,1,27),(3,1,27)])) (.l 113 (.ag [.int .i64 0,.str []] 2 [(0,1,3),(1,1,9)])))) (.n 133 (.n 131 (.l 118 (.ag [.int .i64 0,.int .i64 0] 2 [(0,1,3),(1,1,3)])) (.l 131 (.sl 173 2))) (.n 140 (.l 133 (.ag [.int .i64 0,.nils,.int .i64 0] 3 [(0,1,3),(1,1,131),(2,1,3)])) (.l 140 (.sc (.nilp))))))) (.n 200 (.n 169 (.n 146 (.n 143 (.l 141 (.sc (.any))) (.l 143 (.ag [.nils,.int .i64 0,.int .i64 0,.nils,.int .i64 0,.any,.nils] 7 [(0,3,24),(3,1,25),(4,1,3),(5,1,141),(6,1,25)]))) (.n 167 (.l 146 (.it .u64)) (.l 167 (.ag [.nilp,.nils] 2 [(0,1,165),(1,1,150)])))) (.n 175 (.n 173 (.l 169 (.ag [.nilp,.nils] 2 [(0,2,167)])) (.l 173 (.ag [.int .i64 0,.int .i64 0] 2 [(0,1,3),(1,1,3)]))) (.n 193 (.l 175 (.sl 4 1)) (.l 193 (.ag [] 0 []))))) (.n 220 (.n 204 (.n 202 (.l 200 (.ag [] 0 [])) (.l 202 (.sc (.nilp)))) (.n 215 (.l 204 (.ag [.str []] 1 [(0,1,9)])) (.l 215 (.it .u64)))) (.n 251 (.n 224 (.l 220 (.sl 224 2)) (.l 224 (.ag [.int .i64 0,.int .i64 0] 2 [(0,1,3),(1,1,3)]))) (.n 252 (.l 251 (.sc (.nilf))) (.l 252 (.ar [.nilf,.nilf,.nilf,.nilf] 4)))))))
theorem fM:tyT.Ok QbP:=U4 (by kernel_rfl)
section
variable {N n:Nat} {aw aw':List Ob} {l:List (Nat×AV)} {ops:Array Oper} {os:List Oper} {K:List AV→List Ob→Prop} {k:Nat} {li:Array Bool}
theorem go(m c:Nat)(h:wR tyT n m os l aw c λos l aw=>RS QbP N ops os K (mkA n l) aw)(hc:aw.length=c:=by rfl):RS QbP N ops os K (mkA n l) aw:=RS.go fM hc h
theorem rq(is:U Nat)(k':Nat)(h:wQ tyT n ops.toList is l aw λl=>RA QbP N ops k' (lisQ li is) K (mkA n l) aw)(hk:k=k'+ is.length:=by rfl)(hs:Region.noSelect ops=true:=by decide+kernel)(ho:okQ ops li is=true:=by decide+kernel):RA QbP N ops k li K (mkA n l) aw:=U9 fM hs hk ho h
theorem og{i:Nat}(c:Nat)(h:cr ops.toList i λo=>o.guard=none/\wE tyT n l aw c o.op λr aw c=>(match o.dst with
 |some t=>K (mkA n ((t,r)::l)) aw
 |none=>K (mkA n l) aw))(hc:aw.length=c:=by rfl):RO QbP N ops i K (mkA n l) aw:=RO.g fM hc h
variable {o:Oper} {Q:Exit→List AV→List Ob→Prop} {rs:List ResultVar} {V:AV} {obs:List Ob} {M:Nat}
variable {j t:Nat}{want b:Bool}
theorem yg (c:Nat)(hbw:b=want)(h:wE tyT n l aw c o.op λr aw _=>stD l o.dst r λl=>RS QbP N ops os K (mkA n l) aw)(hg:o.guard=some (j,want):=by rfl)(hj:(ops[j]?).bind (·.dst)=some t:=by rfl)(hb:evA n l (.tmp t)=.bool b:=by rfl)(hc:aw.length=c:=by rfl):RS QbP N ops (o::os) K (mkA n l) aw:=yg' fM c hbw h hg hj hb hc
theorem oy {i:Nat}(c:Nat)(hbw:b=want)(hi:ops[i]?=some o)(h:wE tyT n l aw c o.op λr aw _=>stD l o.dst r λl=>K (mkA n l) aw)(hg:o.guard=some (j,want):=by rfl)(hj:(ops[j]?).bind (·.dst)=some t:=by rfl)(hb:evA n l (.tmp t)=.bool b:=by rfl)(hc:aw.length=c:=by rfl):RO QbP N ops i K (mkA n l) aw:=oy' fM c hbw hi h hg hj hb hc
theorem ry (i:Nat)(hbw:b=want)(hi:ops[i]?=some o)(h:wV tyT n l aw o.op λr=>stD l o.dst r λl=>RA QbP N ops k (li.setIfInBounds i true) K (mkA n l) aw)(hs:Region.noSelect ops=true:=by decide+kernel)(hf:Region.free .any ops li i=true:=by decide+kernel)(hr:(Region.ready .any ops li).contains i=true:=by decide+kernel)(hg:o.guard=some (j,want):=by rfl)(hj:(ops[j]?).bind (·.dst)=some t:=by rfl)(hb:evA n l (.tmp t)=.bool b:=by rfl)(hn:nR o.op=true:=by rfl):RA QbP N ops (k+1) li K (mkA n l) aw:=ry' fM i hbw hi h hs hf hr hg hj hb hn
theorem rL (D:U Nat)(i:Nat)(hi:ops[i]?=some o)(h:wV tyT n l aw o.op λr=>stD l o.dst r λl=>RA QbP N ops k (li.setIfInBounds i true) K (mkA n l) aw)(hs:Region.noSelect ops=true:=by decide+kernel)(hf:RK.loadFree ops li D i=true:=by decide+kernel)(hr:(Region.ready .any ops li).contains i=true:=by decide+kernel)(hg:o.guard=none:=by rfl):RA QbP N ops (k+1) li K (mkA n l) aw:=rL' fM D i hi h hs hf hr hg
theorem tD [hq:RetI Q (λfr aw=>cq QbP fr aw rs (Ret 0 (λr aw'=>r=V/\aw'=[]) aw))][hV:PureC V](h:resC tyT n l aw rs λvs=>nrmRC aw (dT vs) λv _=>v=V:=by rfl):T QbP N .ret Q (mkA n l) aw:=Wb fM h
theorem tO (nl:U (Nat×TypeId×Nat))(ρ:U Nat)(c:Nat)[hq:RetI Q (λfr aw=>cq QbP fr aw rs (Ret M (λr aw'=>r=V/\aw'=obs) aw))][g:GoodA 3 V][g':GoodOs obs](h:resC tyT n l aw rs λvs=>nilVC nl vs aw c λvs aw=>fA (dT vs) λa=>mpA ρ 3 V a λb=>mpOs ρ aw ρ obs λbs es=>(b,bs)=(a,es):=by rfl)(hc:aw.length=c:=by rfl)(h1:ρ.Nodup:=by decide)(h2:∀k,k<M->ρ[k]?=some k:=by decide):T QbP N .ret Q (mkA n l) aw:=V9 fM nl ρ c h hc h1 h2
theorem tN (ρ:U Nat)[hq:RetI Q (λfr aw=>cq QbP fr aw rs (Ret M (λr aw'=>r=V/\aw'=obs) aw))][g:GoodA 3 V][g':GoodOs obs](h:resC tyT n l aw rs λvs=>nrmRC aw (dT vs) λa aw=>mpA ρ 3 V a λb=>mpOs ρ aw ρ obs λbs es=>(b,bs)=(a,es):=by rfl)(h1:ρ.Nodup:=by decide)(h2:∀k,k<M->ρ[k]?=some k:=by decide):T QbP N .ret Q (mkA n l) aw:=Wa fM ρ h h1 h2
variable {fn:Func}
theorem eN(ρ:U Nat)(hr:fn.results.toList=rs:=by rfl)[g:GoodA 3 V][g':GoodOs obs](h:resC tyT n l aw rs λvs=>nrmRC aw (dT vs) λa aw=>mpA ρ 3 V a λb=>mpOs ρ aw ρ obs λbs es=>(b,bs)=(a,es):=by rfl)(h1:ρ.Nodup:=by decide)(h2:∀k,k<M->ρ[k]?=some k:=by decide):retQ QbP fn M (λr aw'=>r=V/\aw'=obs) .normal (mkA n l) aw:=by subst hr;exact rN_c fM ρ h h1 h2
variable {c:Code} {st:List Fr}
theorem X (f k:Nat)(h:gx false tyT QbP N n Q f (.cd c) st l aw k)(hk:aw.length=k:=by rfl):T QbP N c (qs QbP N st Q) (mkA n l) aw:=jY fM hk h
theorem Y (f k:Nat)(h:gx false tyT QbP N n Q f (.op ops os) st l aw k)(hk:aw.length=k:=by rfl):RS QbP N ops os (qs QbP N st Q .normal) (mkA n l) aw:=jY fM hk h
theorem Yp (f k:Nat)(h:gx true tyT QbP N n Q f (.op ops os) st l aw k)(hk:aw.length=k:=by rfl):RS QbP N ops os (qs QbP N st Q .normal) (mkA n l) aw:=jY fM hk h
theorem fT {f:FuncId}{args:U AV}{QF:AV->U Ob->Prop}{m:Nat}(N q:Nat)(hf:QbP.funcs[f]?=some fn)(hm:fn.ntmps=m)(hb:fn.body=some c)(h:iniC 0 args λl=>gx false tyT QbP N m (retQ QbP fn N QF) q (.cd c) [] l aw N)(hN:aw.length=N:=by rfl)(hname:(fn.name== "runtime.NumGoroutine")=false:=by kernel_rfl)(hl:Nat.ble args.length m=true:=by rfl):ACalls QbP f args aw QF:=fX fM N q hf hm h hb hN hname hl
end
end
instance {α:Type} {en:α->List AV} {xs:List (Bool×List α)} {e s:Nat} [h:EnP en]:GoodO (.cl e s (cL en xs)):=⟨λ_ hr=>LV hr⟩
section
open Go.RowKit
set_option maxRecDepth 100000
set_option maxHeartbeats 4000000
set_option synthInstance.maxSize 100000
set_option synthInstance.maxHeartbeats 4000000
section
variable {p0:Net}{p1:Int}{r:Bool}{p2:U (U Item)}{p3:U Memory}{p4:U Choice}{p5:U Item}
theorem HZ {p0:Int}{r:Int×Int}(h:w6 p0 p1=some r):Fn QbP 174 [.int .u64 p0,.int .u64 p1] (.tup [.int .u64 r.1,.int .u64 r.2]):=by
 unfold w6 at h;refine fT 0 0 Tryz.func174 Tryz.ntmps174 J ?_;refine B h λx2 hx2 h=>(X 14 0 (sQ (jf J J hx2 (B h λx4 hx4 h=>(Y 11 0 (sQ (jf J J hx4 (B h λx6 hx6 h=>(Y 15 0 (sQ (jf J J hx6 (B h λx8 hx8 h=>?_))))))))))))
 refine Y 12 0 (sQ (jf J J hx8 (B h λx10 aY h=>(Y 19 0 (sQ (jf J J aY (Y 10 0 ?_)))))));cases h;exact tD
theorem Ij {p0:Int}{r:Int×Int}(h:uI p0 p1=some r):Fn QbP 169 [.int .u64 p0,.int .u64 p1] (.tup [.int .u64 r.1,.int .u64 r.2]):=by
 unfold uI at h;refine fT 0 0 Tryz.func169 Tryz.ntmps169 J ?_;refine B h λx2 hx2 h=>(X 12 0 (sO (cF (HZ hx2) ⟨J,(Y 13 0 ?_)⟩)))
 cases h;exact tD
theorem HL {p0:U Ends}{r:U Ends}(h:rh p0 p1=some r):FnO QbP 153 [sL bl p0,iI p1] (.ref 0) [aR 224 2 bl r]:=by
 unfold rh at h;refine fT 0 10 Tryz.func153 Tryz.ntmps153 J (TH h J (λah h=>?_) (λah h=>?_))
 .cases h
 refine B h λx2 hx2 h=>(X 4 0 (sQ (al T3 J (Y 3 0 (sO (cF (Ij hx2) ⟨J,(Y 7 0 (j1 [(0,sL bl p0),(6,.int .u64 x2.2),(26,.bool ((decide (x2.1> 0))||decide (x2.2> 9223372036854775807)))] [] ?_ (λhK=>?_)))⟩))))))
 .refine TH h J (λaq h=>?_) (λaq h=>?_)
  .cases h
  refine B h λx5 hx5 h=>(X 5 0 (sO (o_mk (en:=bl) (zr:=(⟨0,0⟩:Ends)) T3 UF J J hx5 J J (Y 6 1 (sO (Ll (en:=bl) (xs:=x5) (ys:=p0) T3 (λ_=>J) J J J J (Y 4 1 (itr (λiN:Int×(U Ends)=>mkA 48 [(7,.ref 0),(8,iI iN.1)]) (λiN=>[aR 224 2 bl iN.2]) h (wk [] [0] 1 J) (λiN v_9 h Rm=>?_)))))))))
  obtain⟨s6,s7⟩:=iN;replace h:lz s6 s7=some v_9:=h;try dsimp only
  unfold lz at h;refine X 5 1 (sQ (cn (en:=bl) T3 J J (Y 2 1 (TH h J (λeY h=>?_) (λeY h=>?_)))))
  .refine B h λx8 hx8 h=>(B h λx9 hx9 h=>(B h λx10 aY h=>(B h λx11 bw h=>(X 2 1 (T.drawn mixed (k:=10) J ?_)))))
   apply TG 3 (bm 10 127);intro dX
   .refine rq [0,1,2,4,5] 5 (ra2 3 6 ?_ ?_)
    .exact oO J (iV (en:=bl) (xs:=s7) T3 J J J J hx8 (ra1 6 (oO J (iV (en:=bl) (xs:=s7) T3 J J J J hx9 (raE dX)))))
    .exact oO J (iV (en:=bl) (xs:=s7) T3 J J J J hx9 (ra1 3 (oO J (iV (en:=bl) (xs:=s7) T3 J J J J hx8 (raT dX)))))
   exact ra1 7 (oO J (K4 (en:=bl) (xs:=s7) T3 (λ_=>J) J J J aY bw J (rq [8,9] 0 (RA.done (by decide+kernel) (lk h (wk [] [0] 1 J))))))
  refine X 1 1 ?_;replace h:=mi h Rm;refine X 5 1 ?_;cases h;exact tO [] [0] 1
 refine X 5 0 (gp 23 (λae=>?_) (λae=>?_))
 .refine Yp 4 0 ?_;rw[ae]at hK;exact sx hK
 refine Yp 4 0 ?_;rw[ae]at hK;exact sx hK
theorem I6 {p0:Int}{r:Int×Int×Bool}(h:sj p0=some r):Fn QbP 154 [iI p0] (.tup [iI r.1,iI r.2.1,.bool r.2.2]):=by
 unfold sj at h;refine fT 0 17 Tryz.func154 Tryz.ntmps154 J (TH h J (λah h=>?_) (λah h=>?_))
 .refine X 6 0 ?_;cases h;exact tD
 refine jn (Z:=Bool) (λqA=>mkA 19 [(5,iI p0),(8,.bool qA)]) (λqA=>[]) (λqA=>m8 p0 qA=some r) (λqA h=>?_) (λhK2=>?_)
 .revert h;revert qA;intro z1 h;replace h:m8 p0 z1=some r:=h;try dsimp only
  unfold m8 at h;refine TH h J (λaN h=>?_) (λaN h=>?_)
  .refine X 6 0 ?_;cases h;exact tD
  refine jn (Z:=Bool) (λqC=>mkA 19 [(5,iI p0),(12,.bool qC)]) (λqC=>[]) (λqC=>pm p0 qC=some r) (λqC h=>?_) (λhK1=>?_)
  .revert h;revert qC;intro z2 h;replace h:pm p0 z2=some r:=h;try dsimp only
   unfold pm at h;refine TH h J (λbF h=>?_) (λbF h=>?_)
   .refine X 6 0 ?_;cases h;exact tD
   refine X 5 0 (TH h J (λdP h=>?_) (λdP h=>?_))
   .refine X 6 0 ?_;cases h;exact tD
   refine X 5 0 (TH h J (λeY h=>?_) (λeY h=>?_))
   .refine X 6 0 ?_;cases h;exact tD
   refine X 7 0 ?_;cases h;exact tD
  refine X 6 0 (TH h J (λom h=>?_) (λom h=>?_))
  .exact X 1 0 (wu (hK1 (p0==5) h) [] [] 0 J)
  exact X 4 0 (wu (hK1 (p0==7) h) [] [] 0 J)
 refine X 6 0 (TH h J (λgC h=>?_) (λgC h=>?_))
 .exact X 1 0 (wu (hK2 (p0==2) h) [] [] 0 J)
 refine X 5 0 (TH h J (λzi h=>?_) (λzi h=>?_))
 .exact X 1 0 (wu (hK2 (p0==3) h) [] [] 0 J)
 exact X 4 0 (wu (hK2 (p0==4) h) [] [] 0 J)
theorem BQ {p0:Int}(h:pU p0 p1=some r):Fn QbP 155 [iI p0,iI p1] (.bool r):=by
 unfold pU at h;refine fT 0 4 Tryz.func155 Tryz.ntmps155 J (j1 [(4,.bool ((p0==p1)||((decide (p1<0))&&decide (p0> 0))))] [] ?_ (λhK=>?_))
 .cases h;exact tD
 refine X 6 0 (gp 8 (λah=>?_) (λah=>?_))
 .refine Yp 9 0 ?_;rw[ah]at hK;exact sx hK
 refine Y 3 0 (gp 11 (λae=>?_) (λae=>?_))
 .refine Yp 6 0 ?_;rw[ah]at hK;rw[ae]at hK;exact sx hK
 refine Yp 6 0 ?_;rw[ah]at hK;rw[ae]at hK;exact sx hK
theorem JQ {r:(U Ends)×Int}(h:sU p0=some r):FnO QbP 129 [.agg (aK p0)] (.tup [.ref 0,iI r.2]) [aR 224 2 bl r.1]:=by
 unfold sU at h;refine fT 0 7 Tryz.func129 Tryz.ntmps129 J (j1 [(1,.ptr 0 0),(36,.bool ((decide (((p0.Nodes).length:Int)<1))||((decide (((p0.Nodes).length:Int)> 12))||((decide (p0.Rings<0))||decide (p0.Rings> 16)))))] [.box (aK p0)] ?_ (λhK=>?_))
 .refine TH h J (λaD h=>?_) (λaD h=>?_)
  .refine X 5 1 ?_;cases h;exact tO [(0,224,2)] [1] 1
  refine X 2 1 (j1 [(1,.ptr 0 0),(44,.bool ((decide (p0.Room<1))||decide (p0.Room> 6)))] [.box (aK p0)] ?_ (λhK=>?_))
  .refine TH h J (λaV h=>?_) (λaV h=>?_)
   .refine X 5 1 ?_;cases h;exact tO [(0,224,2)] [1] 1
   refine B h λx4 hx4 h=>(X 4 1 (sO (bi (rows:=List.map bl [(⟨(-1),(-1)⟩:Ends)]) (vs:=[.agg [iI (-1),iI (-1)]]) T3 UF J J J J J J (Y 2 2 (sO (cO 2 (HL hx4) ⟨J,(Y 11 3 (sQ (al TJ J (Y 3 3 (itr (λjS:Int×Int×(U Ends)=>mkA 197 [(1,.ptr 0 0),(4,.ref 1),(5,iI jS.1),(51,sL an p0.Nodes),(52,iI ((p0.Nodes).length:Int)),(53,iI jS.2.1)]) (λjS=>[.box (aK p0),aR 224 2 bl jS.2.2]) h (wk [] [0,2] 3 J) (λjS v_124 h ml=>?_))))))⟩))))))
   obtain⟨s5,s6,s7⟩:=jS;replace h:lT p0 s5 s6 s7=some v_124:=h;try dsimp only
   unfold lT at h;refine X 5 2 (TH h J (λQr h=>?_) (λQr h=>?_))
   .refine B h λx9 hx9 h=>(X 6 2 (sQ (aG TJ (λ_=>J) J J hx9 (B h λx11 bw h=>(Y 9 2 (sO (cF (I6 bw) ⟨J,(Y 14 3 (TH h J (λQs h=>?_) (λQs h=>?_)))⟩)))))))
    .refine X 5 3 ?_;replace h:=mi h ml;cases h;exact tO [(0,224,2)] [3] 3
    refine B h λx12 bx h=>(X 2 3 ?_)
    obtain⟨Qt,hz,h⟩:=bind_some h;revert hz h;revert Qt;intro c14 hz h;refine j1 [(1,.ptr 0 0),(4,.ref 1),(5,iI s5),(6,iI s6),(7,.ptr 2 0),(51,sL an p0.Nodes),(52,iI ((p0.Nodes).length:Int)),(53,iI s6),(80,.bool c14)] [.box (aK p0),aR 224 2 bl s7,.box (an x9)] ?_ (λhK=>?_)
    .refine TH h J (λQu h=>?_) (λQu h=>?_)
     .refine X 5 3 ?_;replace h:=mi h ml;cases h;exact tO [(0,224,2)] [3] 3
     refine X 2 3 (j1 [(1,.ptr 0 0),(4,.ref 1),(5,iI s5),(6,iI s6),(7,.ptr 2 0),(51,sL an p0.Nodes),(52,iI ((p0.Nodes).length:Int)),(53,iI s6),(118,.bool ((decide (x9.A<0))||(if(x9.Kind==1)=true then((decide (x9.A>=4))||(if(x9.Kind==2)=true then((decide (x9.A> 3))||((x9.Kind !=1)&&((x9.Kind !=2)&&x9.A !=0)))else((x9.Kind !=1)&&((x9.Kind !=2)&&x9.A !=0))))else(if(x9.Kind==2)=true then((decide (x9.A> 3))||((x9.Kind !=1)&&((x9.Kind !=2)&&x9.A !=0)))else((x9.Kind !=1)&&((x9.Kind !=2)&&x9.A !=0))))))] [.box (aK p0),aR 224 2 bl s7,.box (an x9)] ?_ (λhK=>?_))
     .refine TH h J (λQv h=>?_) (λQv h=>?_)
      .refine X 5 3 ?_;replace h:=mi h ml;cases h;exact tO [(0,224,2)] [3] 3
      refine X 1 3 (jn (Z:=Int) (λqq=>mkA 197 [(1,.ptr 0 0),(4,.ref 1),(5,iI qq),(6,iI s6),(7,.ptr 2 0),(51,sL an p0.Nodes),(52,iI ((p0.Nodes).length:Int)),(53,iI s6)]) (λqq=>[.box (aK p0),aR 224 2 bl s7,.box (an x9)]) (λqq=>nf p0 s6 s7 x9 qq=some v_124) (λqq h=>?_) (λhK3=>?_))
      .revert h;revert qq;intro z15 h;replace h:nf p0 s6 s7 x9 z15=some v_124:=h;try dsimp only
       unfold nf at h;refine X 5 3 (sQ (al TK J (Y 3 3 (itr (λmj:Int×(U Ends)=>mkA 197 [(1,.ptr 0 0),(4,.ref 1),(5,iI z15),(6,iI s6),(7,.ptr 2 0),(51,sL an p0.Nodes),(52,iI ((p0.Nodes).length:Int)),(53,iI s6),(125,sL aj x9.In),(126,iI ((x9.In).length:Int)),(127,iI mj.1)]) (λmj=>[.box (aK p0),aR 224 2 bl mj.2,.box (an x9)]) h (wk [] [0,1,2] 3 J) (λmj v_160 h zd=>?_)))));obtain⟨s16,s17⟩:=mj;replace h:lM p0 s6 x9 z15 s16 s17=some v_160:=h;try dsimp only
       unfold lM at h;refine X 5 3 (TH h J (λQw h=>?_) (λQw h=>?_))
       .refine B h λx19 cU h=>(X 5 3 (sQ (aG TK (λ_=>J) J J cU (Y 4 3 (j1 [(1,.ptr 0 0),(4,.ref 1),(5,iI z15),(6,iI s6),(7,.ptr 2 0),(12,iI x19),(51,sL an p0.Nodes),(52,iI ((p0.Nodes).length:Int)),(53,iI s6),(125,sL aj x9.In),(126,iI ((x9.In).length:Int)),(127,iI s16),(138,.bool ((decide (x19<0))||decide (x19>=p0.Rings)))] [.box (aK p0),aR 224 2 bl s17,.box (an x9)] ?_ (λhK=>?_))))))
        .refine TH h J (λQx h=>?_) (λQx h=>?_)
         .refine X 5 3 ?_;replace h:=mi h zd;replace h:=mi h ml;cases h;exact tO [(0,224,2)] [3] 3
         refine B h λx23 ed h=>(B h λx24 dK h=>(X 6 3 (sQ (aM (en:=bl) T3 J J J ed (Y 1 3 (sO (aO (en:=bl) (a:=x24) J J dK (aI Um (c:=iI x24.dst) J (Y 2 3 (TH h J (λQy h=>?_) (λQy h=>?_)))))))))))
         .refine X 5 3 ?_;replace h:=mi h zd;replace h:=mi h ml;cases h;exact tO [(0,224,2)] [3] 3
         exact B h λx25 jp h=>(B h λx26 gH h=>(X 5 3 (sQ (aM (en:=bl) T3 J J J jp (Y 1 3 (sO (e9 (en:=bl) (a:=x26) (a':=(⟨x26.src,s6⟩:Ends)) Uc UD J (vs:=[iI s6]) J J J gH J J J (Y 5 3 (lk h (wk [] [0,1,2] 3 J))))))))))
        refine X 5 3 (gp 133 (λze=>?_) (λze=>?_))
        .refine Yp 6 3 ?_;rw[ze]at hK;exact sx hK
        refine Yp 6 3 ?_;rw[ze]at hK;exact sx hK
       refine X 1 3 ?_;replace h:=mi h zd;refine X 4 3 (sQ (al TK J (Y 3 3 (itr (λmh:Int×(U Ends)=>mkA 197 [(1,.ptr 0 0),(4,.ref 1),(5,iI z15),(6,iI s6),(51,sL an p0.Nodes),(52,iI ((p0.Nodes).length:Int)),(53,iI s6),(152,sL aj x9.Out),(153,iI ((x9.Out).length:Int)),(154,iI mh.1)]) (λmh=>[.box (aK p0),aR 224 2 bl mh.2]) h (wk [] [0,1] 3 J) (λmh v_179 h zf=>?_)))));obtain⟨s27,s28⟩:=mh;replace h:lS p0 s6 x9 z15 s27 s28=some v_179:=h;try dsimp only
       unfold lS at h;refine X 5 2 (TH h J (λQz h=>?_) (λQz h=>?_))
       .refine B h λx30 iq h=>(X 5 2 (sQ (aG TK (λ_=>J) J J iq (Y 4 2 (j1 [(1,.ptr 0 0),(4,.ref 1),(5,iI z15),(6,iI s6),(14,iI x30),(51,sL an p0.Nodes),(52,iI ((p0.Nodes).length:Int)),(53,iI s6),(152,sL aj x9.Out),(153,iI ((x9.Out).length:Int)),(154,iI s27),(165,.bool ((decide (x30<0))||decide (x30>=p0.Rings)))] [.box (aK p0),aR 224 2 bl s28] ?_ (λhK=>?_))))))
        .refine TH h J (λQA h=>?_) (λQA h=>?_)
         .refine X 5 2 ?_;replace h:=mi h zf;replace h:=mi h ml;cases h;exact tO [(0,224,2)] [2] 2
         refine B h λx34 oB h=>(B h λx35 tQ h=>(X 6 2 (sQ (aM (en:=bl) T3 J J J oB (Y 1 2 (sO (aO (en:=bl) (a:=x35) J J tQ (aI Um (c:=iI x35.src) J (Y 2 2 (TH h J (λQB h=>?_) (λQB h=>?_)))))))))))
         .refine X 5 2 ?_;replace h:=mi h zf;replace h:=mi h ml;cases h;exact tO [(0,224,2)] [2] 2
         exact B h λx36 zC h=>(B h λx37 tT h=>(X 5 2 (sQ (aM (en:=bl) T3 J J J zC (Y 1 2 (sO (e9 (en:=bl) (a:=x37) (a':=(⟨s6,x37.dst⟩:Ends)) Uc UD J (vs:=[iI s6]) J J J tT J J J (Y 5 2 (lk h (wk [] [0,1] 2 J))))))))))
        refine X 5 2 (gp 160 (λzg=>?_) (λzg=>?_))
        .refine Yp 6 2 ?_;rw[zg]at hK;exact sx hK
        refine Yp 6 2 ?_;rw[zg]at hK;exact sx hK
       refine X 1 2 ?_;replace h:=mi h zf;exact X 4 2 (lk h (wk [] [0,1] 2 J))
      refine X 7 3 (TH h J (λQC h=>?_) (λQC h=>?_))
      .exact X 5 3 (wu (hK3 (IntKind.i64.wrap (s5+1)) h) [] [0,1,2] 3 J)
      exact X 1 3 (sx (hK3 s5 h))
     refine X 6 3 ?_;rcases bC (decide (x9.A<0))with dw|dw
     .exact gT 84 dw (Yp 35 3 (T.sub hK ⟨J,J,J,J,J,J,J,J,(congrArg AV.bool (by simp only[dw,bz,if_true,if_false,RU])).symm,tqz⟩))
     refine yg 3 dw (yg 3 dw (yg 3 dw (yg 3 dw ?_)));rcases bC (x9.Kind==1)with dM|dM
     .refine yg 3 dM (yg 3 dM (yg 3 dM (yQ dw (br (v:=.bool (decide (x9.A>=4))) J dM J (sQ (bd (v:=.bool (decide (x9.A>=4))) J dw J (Y 1 3 ?_)))))));rcases bC (decide (x9.A>=4))with fc|fc
      .exact gT 94 fc (Yp 25 3 (T.sub hK ⟨J,J,J,J,J,J,J,J,(congrArg AV.bool (by simp only[dw,dM,fc,bz,if_true,if_false,RU])).symm,tqz⟩))
      refine yg 3 fc (yg 3 fc (yg 3 fc (yg 3 fc ?_)));rcases bC (x9.Kind==2)with fS|fS
      .refine yg 3 fS (yg 3 fS (yg 3 fS (yQ fc (br (v:=.bool (decide (x9.A> 3))) J fS J (sQ (bd (v:=.bool (decide (x9.A> 3))) J fc J (Y 1 3 ?_)))))));rcases bC (decide (x9.A> 3))with gf|gf
       .exact gT 104 gf (Yp 15 3 (T.sub hK ⟨J,J,J,J,J,J,J,J,(congrArg AV.bool (by simp only[dw,dM,fc,fS,gf,bz,if_true,if_false,RU])).symm,tqz⟩))
       refine yg 3 gf (yg 3 gf (yg 3 gf (yg 3 gf ?_)));rcases bC (x9.Kind !=1)with k5|k5
       .refine yg 3 k5 (yg 3 k5 (yg 3 k5 (yQ gf (br (v:=.bool (x9.Kind !=2)) J k5 J (yg 3 gf ?_)))));rcases bC (x9.Kind !=2)with tz|tz
        .exact gT 113 tz (Y 3 3 (gF 104 gf (Yp 3 3 (T.sub hK ⟨J,J,J,J,J,J,J,J,(congrArg AV.bool (by simp only[dw,dM,fc,fS,gf,k5,tz,bz,if_true,if_false,RU])).symm,tqz⟩))))
        exact gF 113 tz (Y 3 3 (gF 104 gf (Yp 3 3 (T.sub hK ⟨J,J,J,J,J,J,J,J,(congrArg AV.bool (by simp only[dw,dM,fc,fS,gf,k5,tz,bz,if_true,if_false,RU])).symm,tqz⟩))))
       exact gF 108 k5 (Y 3 3 (gF 104 gf (Yp 8 3 (T.sub hK ⟨J,J,J,J,J,J,J,J,(congrArg AV.bool (by simp only[dw,dM,fc,fS,gf,k5,bz,if_true,if_false,RU])).symm,tqz⟩))))
      refine sN fS (sN fS (sN fS (yQ fc (bd (v:=.bool false) J fS J (sQ (bd (v:=.bool false) J fc J (Y 1 3 (yg 3 J (yg 3 J (yg 3 J (yg 3 J ?_)))))))))));rcases bC (x9.Kind !=1)with k6|k6
      .refine yg 3 k6 (yg 3 k6 (yg 3 k6 (yQ J (br (v:=.bool (x9.Kind !=2)) J k6 J (yg 3 J ?_)))));rcases bC (x9.Kind !=2)with tA|tA
       .exact gT 113 tA (Yp 6 3 (T.sub hK ⟨J,J,J,J,J,J,J,J,(congrArg AV.bool (by simp only[dw,dM,fc,fS,k6,tA,bz,if_true,if_false,RU])).symm,tqz⟩))
       exact gF 113 tA (Yp 6 3 (T.sub hK ⟨J,J,J,J,J,J,J,J,(congrArg AV.bool (by simp only[dw,dM,fc,fS,k6,tA,bz,if_true,if_false,RU])).symm,tqz⟩))
      exact gF 108 k6 (Yp 11 3 (T.sub hK ⟨J,J,J,J,J,J,J,J,(congrArg AV.bool (by simp only[dw,dM,fc,fS,k6,bz,if_true,if_false,RU])).symm,tqz⟩))
     refine sN dM (sN dM (sN dM (yQ dw (bd (v:=.bool false) J dM J (sQ (bd (v:=.bool false) J dw J (Y 1 3 (yg 3 J (yg 3 J (yg 3 J (yg 3 J ?_)))))))))));rcases bC (x9.Kind==2)with fU|fU
     .refine yg 3 fU (yg 3 fU (yg 3 fU (yQ J (br (v:=.bool (decide (x9.A> 3))) J fU J (sQ (bd (v:=.bool (decide (x9.A> 3))) J J J (Y 1 3 ?_)))))));rcases bC (decide (x9.A> 3))with gh|gh
      .exact gT 104 gh (Yp 15 3 (T.sub hK ⟨J,J,J,J,J,J,J,J,(congrArg AV.bool (by simp only[dw,dM,fU,gh,bz,if_true,if_false,RU])).symm,tqz⟩))
      refine yg 3 gh (yg 3 gh (yg 3 gh (yg 3 gh ?_)));rcases bC (x9.Kind !=1)with k7|k7
      .refine yg 3 k7 (yg 3 k7 (yg 3 k7 (yQ gh (br (v:=.bool (x9.Kind !=2)) J k7 J (yg 3 gh ?_)))));rcases bC (x9.Kind !=2)with tB|tB
       .exact gT 113 tB (Y 3 3 (gF 104 gh (Yp 3 3 (T.sub hK ⟨J,J,J,J,J,J,J,J,(congrArg AV.bool (by simp only[dw,dM,fU,gh,k7,tB,bz,if_true,if_false,RU])).symm,tqz⟩))))
       exact gF 113 tB (Y 3 3 (gF 104 gh (Yp 3 3 (T.sub hK ⟨J,J,J,J,J,J,J,J,(congrArg AV.bool (by simp only[dw,dM,fU,gh,k7,tB,bz,if_true,if_false,RU])).symm,tqz⟩))))
      exact gF 108 k7 (Y 3 3 (gF 104 gh (Yp 8 3 (T.sub hK ⟨J,J,J,J,J,J,J,J,(congrArg AV.bool (by simp only[dw,dM,fU,gh,k7,bz,if_true,if_false,RU])).symm,tqz⟩))))
     refine sN fU (sN fU (sN fU (yQ J (bd (v:=.bool false) J fU J (sQ (bd (v:=.bool false) J J J (Y 1 3 (yg 3 J (yg 3 J (yg 3 J (yg 3 J ?_)))))))))));rcases bC (x9.Kind !=1)with k8|k8
     .refine yg 3 k8 (yg 3 k8 (yg 3 k8 (yQ J (br (v:=.bool (x9.Kind !=2)) J k8 J (yg 3 J ?_)))));rcases bC (x9.Kind !=2)with tC|tC
      .exact gT 113 tC (Yp 6 3 (T.sub hK ⟨J,J,J,J,J,J,J,J,(congrArg AV.bool (by simp only[dw,dM,fU,k8,tC,bz,if_true,if_false,RU])).symm,tqz⟩))
      exact gF 113 tC (Yp 6 3 (T.sub hK ⟨J,J,J,J,J,J,J,J,(congrArg AV.bool (by simp only[dw,dM,fU,k8,tC,bz,if_true,if_false,RU])).symm,tqz⟩))
     exact gF 108 k8 (Yp 11 3 (T.sub hK ⟨J,J,J,J,J,J,J,J,(congrArg AV.bool (by simp only[dw,dM,fU,k8,bz,if_true,if_false,RU])).symm,tqz⟩))
    refine X 4 3 (sQ (al TK J (Y 1 3 (sO (cF (BQ bx) ⟨J,(Y 2 3 (gi 73 hz (λQD hz=>?_) (λQD hz=>?_)))⟩)))))
    .refine Yp 8 3 ?_;cases hz;exact sx hK
    refine B hz λx13 dc hz=>(Y 2 3 (yQ J (al TK J (Y 1 3 (yO J (cF (BQ dc) ⟨J,(Yp 3 3 ?_)⟩))))))
    cases hz;exact sx hK
   refine X 1 2 ?_;replace h:=mi h ml;refine X 4 2 (sQ (cn (en:=bl) T3 J J (Y 3 2 (itr (λqo:Int=>mkA 197 [(4,.ref 0),(5,iI s5),(179,.ref 0),(180,iI ((s7).length:Int)),(181,iI qo)]) (λqo=>[aR 224 2 bl s7]) h (wk [] [1] 2 J) (λqo v_198 h wz=>?_)))));revert wz h;revert qo;intro s38 h wz;replace h:ni s5 s7 s38=some v_198:=h;try dsimp only
   unfold ni at h;refine X 5 1 (TH h J (λQE h=>?_) (λQE h=>?_))
   .refine B h λx41 qD h=>(B h λx42 wI h=>(X 5 1 (sQ (aM (en:=bl) T3 J J J qD (sO (aO (en:=bl) (a:=x42) J J wI (eS Ve UR J (cs:=(bl x42)) J (Y 3 1 (j1 [(4,.ref 0),(5,iI s5),(179,.ref 0),(180,iI ((s7).length:Int)),(181,iI s38),(192,.bool ((decide (x42.src<0))||decide (x42.dst<0)))] [aR 224 2 bl s7] ?_ (λhK=>?_))))))))))
    .refine TH h J (λQG h=>?_) (λQG h=>?_)
     .refine X 5 1 ?_;replace h:=mi h wz;cases h;exact tO [(0,224,2)] [1] 1
     exact X 5 1 (lk h (wk [] [0] 1 J))
    refine X 6 2 (gp 188 (λzh=>?_) (λzh=>?_))
    .refine Yp 5 2 ?_;rw[zh]at hK;exact wu hK [] [0] 2 J
    refine Yp 5 2 ?_;rw[zh]at hK;exact wu hK [] [0] 2 J
   refine X 1 1 ?_;replace h:=mi h wz;refine X 6 1 (TH h J (λQH h=>?_) (λQH h=>?_))
   .refine X 5 1 ?_;cases h;exact tO [(0,224,2)] [1] 1
   refine X 7 1 ?_;cases h;exact tO [] [0] 1
  refine X 6 1 (gp 40 (λaN=>?_) (λaN=>?_))
  .refine Yp 5 1 ?_;rw[aN]at hK;exact sx hK
  refine Yp 5 1 ?_;rw[aN]at hK;exact sx hK
 refine X 4 1 (sQ (al TJ J (Y 2 1 (gp 21 (λah=>?_) (λah=>?_)))))
 .refine Yp 16 1 ?_;rw[ah]at hK;exact sx hK
 refine Y 2 1 (yQ J (al TJ J (Yp 3 1 (gp 27 (λae=>?_) (λae=>?_)))))
 .refine Yp 10 1 ?_;rw[ah]at hK;rw[ae]at hK;exact sx hK
 refine Yp 5 1 (gp 32 (λaq=>?_) (λaq=>?_))
 .refine Yp 5 1 ?_;rw[ah]at hK;rw[ae]at hK;rw[aq]at hK;exact sx hK
 refine Yp 5 1 ?_;rw[ah]at hK;rw[ae]at hK;rw[aq]at hK;exact sx hK
theorem HP {p0:Int}{p1:U Bool}{p2:U Ends}(h:rj p0 p1 p2=some r):FnX QbP 130 [iI p0,.ptr 0 0,.ptr 1 0] [.box [.ref 2],.box [.ref 3],aR 4 1 db p1,aR 224 2 bl p2] (.bool r) [.box [.ref 2],.box [.ref 3],aR 4 1 db p1,aR 224 2 bl p2]:=by
 unfold rj at h;refine fT 4 0 Tryz.func130 Tryz.ntmps130 J ?_;refine B h λx5 hx5 h=>(B h λx6 hx6 h=>(B h λx7 hx7 h=>(B h λx8 hx8 h=>(X 5 4 (T.drawn mixed (k:=10) J (rq [2] 9 (rL [1,3,4,5,6,7,8,9] 1 J (r0 3 J (aM (en:=bl) T3 J J J hx5 (rq [4] 6 ?_))))))))))
 refine rL [0,6,7,8,9] 0 J (ra1 5 (oO J (aO (en:=bl) (a:=x6) J J hx6 (aI Um (c:=iI x6.src) J (r0 6 J (aM (en:=db) Uj J J J hx7 (ra1 7 (oO J (aO (en:=db) (a:=x8) J J hx8 (aI U0 (c:=.bool x8) J (rq [8,9] 0 (RA.done (by decide+kernel) ?_))))))))))));cases h;exact tN [0,1,2,3]
theorem Hy {p0:U Int}{p1:U Bool}{p2:U Ends}{r:Int}(h:uq p0 p1 p2=some r):FnX QbP 131 [sL aj p0,.func 130 [.ptr 0 0,.ptr 1 0]] [.box [.ref 2],.box [.ref 3],aR 4 1 db p1,aR 224 2 bl p2] (iI r) [.box [.ref 2],.box [.ref 3],aR 4 1 db p1,aR 224 2 bl p2]:=by
 unfold uq at h;refine fT 4 8 Tryz.func131 Tryz.ntmps131 J (sQ (al TK J (Y 3 4 (itr (λak:Int=>mkA 19 [(0,sL aj p0),(1,.func 130 [.ptr 0 0,.ptr 1 0]),(7,iI ((p0).length:Int)),(8,iI ak)]) (λak=>[.box [.ref 2],.box [.ref 3],aR 4 1 db p1,aR 224 2 bl p2]) h (wk [] [0,1,2,3] 4 J) (λak v_6 h bg=>?_)))));revert bg h;revert ak;intro s1 h bg;replace h:oI p0 p1 p2 s1=some v_6:=h;try dsimp only
 unfold oI at h;refine X 5 4 (TH h J (λbH h=>?_) (λbH h=>?_))
 .refine B h λx4 hx4 h=>(B h λx5 hx5 h=>(X 13 4 (sQ (aG TK (λ_=>J) J J hx4 (Y 1 4 (sO (cG [0,1,2,3] 4 4 (HP hx5) ⟨J,(Y 1 4 (TH h J (λbF h=>?_) (λbF h=>?_)))⟩)))))))
  .refine X 5 4 ?_;replace h:=mi h bg;cases h;exact tN [0,1,2,3]
  exact X 5 4 (lk h (wk [] [0,1,2,3] 4 J))
 refine X 1 4 ?_;replace h:=mi h bg;refine X 4 4 ?_;cases h;exact tN [0,1,2,3]
theorem Hq {p0:U Int}{p1:U Bool}{p2:U Ends}(h:oH p0 p1 p2=some r):FnX QbP 102 [sL aj p0,.func 130 [.ptr 0 0,.ptr 1 0]] [.box [.ref 2],.box [.ref 3],aR 4 1 db p1,aR 224 2 bl p2] (.bool r) [.box [.ref 2],.box [.ref 3],aR 4 1 db p1,aR 224 2 bl p2]:=by
 unfold oH at h;refine fT 4 0 Tryz.func102 Tryz.ntmps102 J ?_;refine B h λx2 hx2 h=>(X 8 4 (sO (cG [0,1,2,3] 4 4 (Hy hx2) ⟨J,(Y 3 4 ?_)⟩)))
 cases h;exact tN [0,1,2,3]
theorem Jk {r:(U Int)×Int}(h:sy p0=some r):FnO QbP 100 [.agg (aK p0)] (.tup [.ref 0,iI r.2]) [aR 3 1 aj r.1]:=by
 unfold sy at h;refine fT 0 0 Tryz.func100 Tryz.ntmps100 J ?_;refine B h λx2 hx2 h=>(X 9 0 (sO (cO 1 (JQ hx2) ⟨J,(Y 13 2 (TH h J (λah h=>?_) (λah h=>?_)))⟩)))
 .refine X 6 3 ?_;cases h;exact tO [(0,3,1)] [3] 3
 refine B h λx4 hx4 h=>(X 9 3 (sQ (al TJ J (sO (o_mk (en:=db) (zr:=false) Uj UY J J hx4 J J (Y 5 4 (itr (λmo:(U Int)×(U Bool)=>mkA 61 [(1,.ptr 0 0),(4,.ptr 1 0),(6,.ref 2),(7,.ptr 3 0)]) (λmo=>[.box (aK p0),.box [.ref 4],aR 3 1 aj mo.1,.box [.ref 5],aR 224 2 bl x2.1,aR 4 1 db mo.2]) h (wk [(6,3,1)] [0,2,5,4,1,3] 5 J) (λmo v_73 h GF=>?_))))))))
 obtain⟨s5,s6⟩:=mo;replace h:lF p0 x2 s5 s6=some v_73:=h;try dsimp only
 unfold lF at h;refine X 4 6 (sQ (cn (en:=aj) TK J J (Y 2 6 (sQ (al TJ J (Y 2 6 (TH h J (λzj h=>?_) (λzj h=>?_))))))))
 .refine X 6 6 (jn (Z:=Int) (λqv=>mkA 61 [(1,.ptr 0 0),(4,.ptr 1 0),(6,.ref 2),(7,.ptr 3 0),(8,iI qv)]) (λqv=>[.box (aK p0),.box [.ref 4],aR 3 1 aj s5,.box [.ref 5],aR 224 2 bl x2.1,aR 4 1 db s6]) (λqv=>m9 s5 s6 qv=some v_73) (λqv h=>?_) (λhK1=>?_))
  .revert h;revert qv;intro z14 h;replace h:m9 s5 s6 z14=some v_73:=h;try dsimp only
   unfold m9 at h;refine X 6 6 (TH h J (λQX h=>?_) (λQX h=>?_))
   .refine X 5 6 ?_;replace h:=mi h GF;cases h;exact tO [(0,3,1)] [6] 6
   refine B h λx17 cE h=>(B h λx18 cI h=>(X 5 6 (sQ (aM (en:=db) Uj J J J cE (sO (e9 (en:=db) (a:=x18) (a':=true) U3 U2 J (vs:=[.bool true]) J J J cI J J J (B h λx19 cU h=>(Y 4 6 (sO (bi (rows:=List.map aj [z14]) (vs:=[iI z14]) TK T7 J J J J J J (sO (bU (en:=aj) (xs:=s5) (ys:=([z14]:U Int)) TK (λ_=>J) J J J cU J J (Y 2 8 ?_)))))))))))))
   exact lk h (wk [] [0,1,7,3,4,5] 8 J)
  refine X 5 6 (sQ (al TJ J (Y 3 6 (itr (λqp:Int=>mkA 61 [(1,.ptr 0 0),(4,.ptr 1 0),(6,.ref 2),(7,.ptr 3 0),(8,iI (-1)),(30,sL an p0.Nodes),(31,iI ((p0.Nodes).length:Int)),(32,iI qp)]) (λqp=>[.box (aK p0),.box [.ref 4],aR 3 1 aj s5,.box [.ref 5],aR 224 2 bl x2.1,aR 4 1 db s6]) h (wk [] [0,1,2,3,4,5] 6 J) (λqp v_103 h wA=>?_)))));revert wA h;revert qp;intro s7 h wA;replace h:lH p0 x2 s5 s6 s7=some v_103:=h;try dsimp only
  unfold lH at h;refine X 5 6 (TH h J (λjT h=>?_) (λjT h=>?_))
  .refine B h λx9 hx9 h=>(X 6 6 (sQ (aG TJ (λ_=>J) J J hx9 (B h λx10 aY h=>(B h λx11 bw h=>(Y 5 6 ?_))))))
   obtain⟨QI,hz,h⟩:=bind_some h;revert hz h;revert QI;intro c13 hz h;refine j1 [(1,.ptr 0 0),(4,.ptr 1 0),(6,.ref 2),(7,.ptr 3 0),(8,iI (-1)),(9,iI s7),(30,sL an p0.Nodes),(31,iI ((p0.Nodes).length:Int)),(32,iI s7),(48,.bool c13)] [.box (aK p0),.box [.ref 4],aR 3 1 aj s5,.box [.ref 5],aR 224 2 bl x2.1,aR 4 1 db s6] ?_ (λhK=>?_)
   .refine TH h J (λol h=>?_) (λol h=>?_)
    .refine X 6 6 ?_;replace h:=mi h wA;exact sx (hK1 s7 h)
    exact X 5 6 (lk h (wk [] [0,1,2,3,4,5] 6 J))
   refine X 4 7 (sQ (aM (en:=db) Uj J J J aY (sO (aO (en:=db) (a:=x11) J J bw (aI U0 (c:=.bool x11) J (Y 2 7 (gi 42 hz (λlc hz=>?_) (λlc hz=>?_))))))))
   .refine B hz λx12 bx hz=>(Y 3 7 (yO J (cG [3,1,5,4] 7 4 (Hq bx) ⟨J,(Yp 3 7 ?_)⟩)))
    cases hz;exact wu hK [] [0,1,2,3,4,5] 7 J
   refine Yp 7 7 ?_;cases hz;exact wu hK [] [0,1,2,3,4,5] 7 J
  refine X 1 6 ?_;replace h:=mi h wA;exact sx (hK1 (-1) h)
 refine X 1 6 ?_;replace h:=mi h GF;refine X 6 6 ?_;cases h;exact tO [] [2] 6
theorem Bb {r:Int}(h:pM p0=some r):Fn QbP 60 [.agg (aK p0)] (iI r):=by
 unfold pM at h;refine fT 0 0 Tryz.func60 Tryz.ntmps60 J ?_;refine B h λx2 hx2 h=>(X 8 0 (sO (cO 1 (Jk hx2) ⟨J,(Y 11 2 ?_)⟩)))
 cases h;exact tD
theorem xf {p1:U (U Item)}{r:Int}(h:lL p0 p1=some r):Fn QbP 58 [.agg (aK p0),sL (ai aa) p1] (iI r):=by
 unfold lL at h;refine fT 0 0 Tryz.func58 Tryz.ntmps58 J ?_;refine B h λx2 hx2 h=>(X 9 0 (sO (cF (Bb hx2) ⟨J,(Y 7 1 (TH h J (λah h=>?_) (λah h=>?_)))⟩)))
 .refine X 5 1 ?_;cases h;exact tD
 refine X 5 1 (sQ (al TO J (Y 2 1 (TH h J (λae h=>?_) (λae h=>?_)))))
 .refine X 4 1 ?_;cases h;exact tD
 refine X 5 1 (sQ (al TO J (Y 3 1 (itr (λgw:Int=>mkA 69 [(1,sL (ai aa) p1),(2,.ptr 0 0),(21,sL (ai aa) p1),(22,iI ((p1).length:Int)),(23,iI gw)]) (λgw=>[.box (aK p0)]) h (wk [] [0] 1 J) (λgw v_28 h oo=>?_)))));revert oo h;revert gw;intro s3 h oo;replace h:o5 p0 p1 s3=some v_28:=h;try dsimp only
 unfold o5 at h;refine X 5 1 (TH h J (λzk h=>?_) (λzk h=>?_))
 .refine B h λx5 hx5 h=>(X 5 1 (sQ (aG TO (λ_=>J) J J hx5 (Y 7 1 (sQ (al TL J (Y 2 1 (TH h J (λoq h=>?_) (λoq h=>?_)))))))))
  .refine X 4 1 ?_;replace h:=mi h oo;cases h;exact tD
  refine X 4 1 (sQ (al TL J (Y 3 1 (itr (λeF:Int=>mkA 69 [(1,sL (ai aa) p1),(2,.ptr 0 0),(21,sL (ai aa) p1),(22,iI ((p1).length:Int)),(23,iI s3),(30,sL aa x5),(31,iI ((x5).length:Int)),(32,iI eF)]) (λeF=>[.box (aK p0)]) h (wk [] [0] 1 J) (λeF v_37 h qw=>?_)))));revert qw h;revert eF;intro s6 h qw;replace h:o6 s3 x5 s6=some v_37:=h;try dsimp only
  unfold o6 at h;refine X 5 1 (TH h J (λgD h=>?_) (λgD h=>?_))
  .refine B h λx8 hx8 h=>(X 5 1 (sQ (aG TL (λ_=>J) J J hx8 (Y 10 1 (TH h J (λjm h=>?_) (λjm h=>?_))))))
   .refine X 4 2 ?_;replace h:=mi h qw;replace h:=mi h oo;cases h;exact tD
   exact X 5 2 (lk h (wk [] [0] 2 J))
  refine X 1 1 ?_;replace h:=mi h qw;exact X 4 1 (lk h (wk [] [0] 1 J))
 refine X 1 1 ?_;replace h:=mi h oo;refine B h λx10 aY h=>(X 3 1 (sQ (al TO J (sO (o_mk (en:=db) (zr:=false) Uj UY J J aY J J (Y 7 2 (sQ (al TJ J (Y 3 2 (itr (λmq:Int×(U Bool)=>mkA 69 [(1,sL (ai aa) p1),(10,.ref 0),(45,sL an p0.Nodes),(46,iI ((p0.Nodes).length:Int)),(47,iI mq.1)]) (λmq=>[aR 4 1 db mq.2]) h (wk [] [1] 2 J) (λmq v_53 h zl=>?_)))))))))))
 obtain⟨s11,s12⟩:=mq;replace h:lB p0 p1 s11 s12=some v_53:=h;try dsimp only
 unfold lB at h;refine X 5 1 (TH h J (λzm h=>?_) (λzm h=>?_))
 .refine B h λx14 cm h=>(X 5 1 (sQ (aG TJ (λ_=>J) J J cm (Y 11 1 (TH h J (λzn h=>?_) (λzn h=>?_))))))
  .exact X 5 2 (lk h (wk [] [0] 2 J))
  refine X 7 2 (sQ (al TO J (Y 2 2 (TH h J (λzo h=>?_) (λzo h=>?_)))))
  .refine X 4 2 ?_;replace h:=mi h zl;cases h;exact tD
  refine B h λx17 cE h=>(B h λx18 cI h=>(X 7 2 (sQ (aM (en:=db) Uj J J J cE (sO (aO (en:=db) (a:=x18) J J cI (aI U0 (c:=.bool x18) J (Y 1 2 (TH h J (λzp h=>?_) (λzp h=>?_))))))))))
  .refine X 4 2 ?_;replace h:=mi h zl;cases h;exact tD
  exact B h λx19 cU h=>(B h λx20 ee h=>(X 5 2 (sQ (aM (en:=db) Uj J J J cU (sO (e9 (en:=db) (a:=x20) (a':=true) U3 U2 J (vs:=[.bool true]) J J J ee J J J (Y 5 2 (lk h (wk [] [0] 2 J)))))))))
 refine X 1 1 ?_;replace h:=mi h zl;refine X 4 1 ?_;cases h;exact tD
theorem IH {p1:U (U Item)}{r:State}(h:r8 p0 p1=some r):FnO QbP 59 [.agg (aK p0),sL (ai aa) p1] (.agg [.ref 0,.ref 1,.ref 2,.ref 3,.ref 4]) [aR 3 1 aj r.At,aR 30 1 (ai aa) r.Rings,aR 133 3 aC r.Memory,aR 118 2 ao r.Choices,aR 68 3 aa r.Out]:=by
 unfold r8 at h;refine fT 0 0 Tryz.func59 Tryz.ntmps59 J ?_;refine B h λx4 hx4 h=>(B h λx5 hx5 h=>(B h λx6 hx6 h=>(X 6 0 (T.drawn mixed (k:=12) J ?_))))
 apply TG 1 (bm 12 2047);intro hS1;apply TG 3 (bm 12 991);intro hS2;apply TG 3 (bm 12 1019);intro hS3;apply TG 3 (bm 12 511);intro hS4;apply TG 4 (bm 12 975);intro hS5;apply TG 4 (bm 12 987);intro hS6;apply TG 4 (bm 12 479);intro hS7;apply TG 4 (bm 12 507);intro hS8;apply TG 5 (bm 12 463);intro hS9;apply TG 5 (bm 12 475);intro eg;apply TG 5 (bm 12 127);intro dX;apply TG 6 (bm 12 95);intro g9
 .refine rq [0] 11 (r0 1 J (al TO J (rq [3,6] 8 (ra3 2 4 7 ?_ ?_ ?_))))
  .refine oO J (o_mk (en:=aj) (zr:=0) TK T7 J J hx4 J J (ra2 4 7 ?_ ?_))
   .exact og 3 ⟨J,(raE g9)⟩
   .exact og 3 ⟨J,(r0 8 J (al TJ J (raE hS9)))⟩
  .refine og 2 ⟨J,(ra3 2 5 7 ?_ ?_ ?_)⟩
   .exact oO J (o_mk (en:=aj) (zr:=0) TK T7 J J hx4 J J (raT g9))
   .refine oO J (iG (en:=(ai aa)) (zr:=([]:U Item)) TO Ua ⟨.inr ⟨J,J⟩,tqz⟩ J J hx5 J J (ra2 2 7 ?_ ?_))
    .exact oO J (o_mk (en:=aj) (zr:=0) TK T7 J J hx4 J J (raE dX))
    .exact og 3 ⟨J,(r0 8 J (al TJ J (raE hS8)))⟩
   .exact og 2 ⟨J,(r0 8 J (al TJ J (raE eg)))⟩
  .refine og 2 ⟨J,(r0 8 J (al TJ J (ra3 2 4 9 ?_ ?_ ?_)))⟩
   .exact oO J (o_mk (en:=aj) (zr:=0) TK T7 J J hx4 J J (raT hS9))
   .exact og 2 ⟨J,(raT eg)⟩
   .refine oO J (iG (en:=aC) (zr:=(⟨0,[],0⟩:Memory)) TZ Ud ⟨.inl J,.inr ⟨J,J⟩,.inl J,tqz⟩ J J hx6 J J (ra2 2 4 ?_ ?_))
    .exact oO J (o_mk (en:=aj) (zr:=0) TK T7 J J hx4 J J (raE hS5))
    .exact og 3 ⟨J,(raE hS6)⟩
 .refine ra2 5 7 ?_ ?_
  .exact oO J (iG (en:=(ai aa)) (zr:=([]:U Item)) TO Ua ⟨.inr ⟨J,J⟩,tqz⟩ J J hx5 J J (raV dX [0,1,3,2] J))
  .exact og 3 ⟨J,(r0 8 J (al TJ J (raE hS7)))⟩
 .exact ra1 7 (og 4 ⟨J,(r0 8 J (al TJ J (raE hS4)))⟩)
 .refine ra3 2 5 9 ?_ ?_ ?_
  .exact oO J (o_mk (en:=aj) (zr:=0) TK T7 J J hx4 J J (raT hS7))
  .exact oO J (iG (en:=(ai aa)) (zr:=([]:U Item)) TO Ua ⟨.inr ⟨J,J⟩,tqz⟩ J J hx5 J J (raT hS8))
  .exact oO J (iG (en:=aC) (zr:=(⟨0,[],0⟩:Memory)) TZ Ud ⟨.inl J,.inr ⟨J,J⟩,.inl J,tqz⟩ J J hx6 J J (raT hS6))
 .refine ra2 4 9 ?_ ?_
  .exact og 3 ⟨J,(raT hS7)⟩
  .exact oO J (iG (en:=aC) (zr:=(⟨0,[],0⟩:Memory)) TZ Ud ⟨.inl J,.inr ⟨J,J⟩,.inl J,tqz⟩ J J hx6 J J (raV hS5 [0,1,3,2] J))
 .refine ra2 2 9 ?_ ?_
  .exact oO J (o_mk (en:=aj) (zr:=0) TK T7 J J hx4 J J (raT hS4))
  .exact oO J (iG (en:=aC) (zr:=(⟨0,[],0⟩:Memory)) TZ Ud ⟨.inl J,.inr ⟨J,J⟩,.inl J,tqz⟩ J J hx6 J J (raE hS3))
 .refine ra2 5 9 ?_ ?_
  .exact oO J (iG (en:=(ai aa)) (zr:=([]:U Item)) TO Ua ⟨.inr ⟨J,J⟩,tqz⟩ J J hx5 J J (raV hS4 [0,1,3,2] J))
  .exact oO J (iG (en:=aC) (zr:=(⟨0,[],0⟩:Memory)) TZ Ud ⟨.inl J,.inr ⟨J,J⟩,.inl J,tqz⟩ J J hx6 J J (raE hS2))
 .refine ra2 2 5 ?_ ?_
  .exact oO J (o_mk (en:=aj) (zr:=0) TK T7 J J hx4 J J (raV hS2 [0,1,3,2] J))
  .exact oO J (iG (en:=(ai aa)) (zr:=([]:U Item)) TO Ua ⟨.inr ⟨J,J⟩,tqz⟩ J J hx5 J J (raV hS3 [0,1,3,2] J))
 .exact ra1 4 (og 4 ⟨J,(raV hS2 [0,1,3,2] J)⟩)
 .exact ra1 9 (oO J (iG (en:=aC) (zr:=(⟨0,[],0⟩:Memory)) TZ Ud ⟨.inl J,.inr ⟨J,J⟩,.inl J,tqz⟩ J J hx6 J J (rq [10] 1 (raE hS1))))
 .exact ra1 2 (oO J (o_mk (en:=aj) (zr:=0) TK T7 J J hx4 J J (rq [10] 1 (raV hS1 [0,1,2,4,3] J))))
 .exact ra1 5 (oO J (iG (en:=(ai aa)) (zr:=([]:U Item)) TO Ua ⟨.inr ⟨J,J⟩,tqz⟩ J J hx5 J J (rq [10] 1 (raV hS1 [0,1,4,2,3] J))))
 refine ra1 11 (og 5 ⟨J,(RA.done (by decide+kernel) (nB 1 3 118 2 5 (nB 1 4 68 3 6 ?_)))⟩);cases h;exact tO [] [3,2,4,5,6] 7
theorem m6 {p1:U (U Item)}{r:State×Int}(h:gM p0 p1=some r):FnO QbP 29 [.agg (aK p0),sL (ai aa) p1] (.tup [.agg [.ref 0,.ref 1,.ref 2,.ref 3,.ref 4],iI r.2]) [aR 3 1 aj r.1.At,aR 30 1 (ai aa) r.1.Rings,aR 133 3 aC r.1.Memory,aR 118 2 ao r.1.Choices,aR 68 3 aa r.1.Out]:=by
 unfold gM at h;refine fT 0 0 Tryz.func29 Tryz.ntmps29 J ?_;refine B h λx2 hx2 h=>(X 11 0 (sO (cF (xf hx2) ⟨J,(Y 7 2 (TH h J (λah h=>?_) (λah h=>?_)))⟩)))
 .refine X 7 2 (nB 1 0 3 1 2 (nB 1 1 30 1 3 (nB 1 2 133 3 4 (nB 1 3 118 2 5 (nB 1 4 68 3 6 ?_)))));cases h;exact tO [] [2,3,4,5,6] 7
 refine B h λx4 hx4 h=>(X 5 2 (sO (cG [] 2 5 (TR (IH hx4)) ⟨J,(Y 3 7 ?_)⟩)))
 cases h;exact tO [] [2,3,4,5,6] 7
theorem HQ {p0 r:U Node}(h:ri p0=some r):FnO QbP 84 [.sl (List.map an p0)] (.ref 0) [.arr 93 4 (List.map an r)]:=by
 have hr:p0=r:=by
  unfold ri app at h;split at h
  .simpa using h
  .cases h
 refine iE (N:=0) J Tryz.func84 J (by kernel_rfl) Tryz.ntmps84 J ?_;show T _ _ _ _ (mkA 8 [(0,.sl (List.map an p0))]) [];refine T.seq ?_;refine T.region ?_;refine RS.op J (TV J (cA (v:=.nils) J ?_));refine RS.nil ?_;refine T.seq ?_;refine T.seq ?_;refine T.region ?_;refine RS.op J (TV J (eE (v:=.sl (List.map an p0)) J ?_));refine RS.op J (TV J (jN TJ J J (λz hz=>?_)));refine RS.nil ?_;refine T.cond (b:=z) J (λhb=>?_) (λhb=>?_)
 .refine T.seq ?_;refine T.region ?_;refine RS.op J (TV J (cA (v:=.nils) J ?_));refine RS.nil ?_;refine T.ret ?_;refine eA (v:=.nils) J ?_;refine eu ?_;have h0:p0=[]:=Sq.1 (hz hb);exact eC (.ref 0) [(0,93,4)] [0] (by decide) (b8 _) J (bX J) (eD (en:=an) (ys:=[]) J pL (by rw[<- hr,h0]) (au)) ⟨J,J⟩
 .refine T.skip ?_;refine T.seq ?_;refine T.region ?_;refine RS.op J (bi (rows:=List.map an []) (vs:=[]) TJ UI J J J J J (aw':=[.arr 93 4 (List.map an [])]) J ?_);refine RS.op J (TV J (eE (v:=.sl (List.map an p0)) J ?_));refine RS.op J (bU (en:=an) (xs:=([]:U Node)) (ys:=p0) (r:=r) TJ (λ_=>J) J J J h J (aw':=[.dead,.arr 93 4 (List.map an r)]) J ?_);refine RS.op J (TV J (cA (v:=.ref 1) J ?_));refine RS.nil ?_;refine T.ret ?_;refine eA (v:=.ref 1) J ?_;refine eu ?_;exact eC (.ref 0) [] [1] (by decide) (b8 _) J (bX J) (eD J pL J (au)) ⟨J,J⟩
theorem fg {p0 r:U Int}(h:km p0=some r):FnO QbP 74 [.sl (List.map aj p0)] (.ref 0) [.arr 3 1 (List.map aj r)]:=by
 have hr:p0=r:=by
  unfold km app at h;split at h
  .simpa using h
  .cases h
 refine iE (N:=0) J Tryz.func74 J (by kernel_rfl) Tryz.ntmps74 J ?_;show T _ _ _ _ (mkA 8 [(0,.sl (List.map aj p0))]) [];refine T.seq ?_;refine T.region ?_;refine RS.op J (TV J (cA (v:=.nils) J ?_));refine RS.nil ?_;refine T.seq ?_;refine T.seq ?_;refine T.region ?_;refine RS.op J (TV J (eE (v:=.sl (List.map aj p0)) J ?_));refine RS.op J (TV J (jN TK J J (λz hz=>?_)));refine RS.nil ?_;refine T.cond (b:=z) J (λhb=>?_) (λhb=>?_)
 .refine T.seq ?_;refine T.region ?_;refine RS.op J (TV J (cA (v:=.nils) J ?_));refine RS.nil ?_;refine T.ret ?_;refine eA (v:=.nils) J ?_;refine eu ?_;have h0:p0=[]:=Sq.1 (hz hb);exact eC (.ref 0) [(0,3,1)] [0] (by decide) (b8 _) J (bX J) (eD (en:=aj) (ys:=[]) J me (by rw[<- hr,h0]) (au)) ⟨J,J⟩
 .refine T.skip ?_;refine T.seq ?_;refine T.region ?_;refine RS.op J (bi (rows:=List.map aj []) (vs:=[]) TK T7 J J J J J (aw':=[.arr 3 1 (List.map aj [])]) J ?_);refine RS.op J (TV J (eE (v:=.sl (List.map aj p0)) J ?_));refine RS.op J (bU (en:=aj) (xs:=([]:U Int)) (ys:=p0) (r:=r) TK (λ_=>J) J J J h J (aw':=[.dead,.arr 3 1 (List.map aj r)]) J ?_);refine RS.op J (TV J (cA (v:=.ref 1) J ?_));refine RS.nil ?_;refine T.ret ?_;refine eA (v:=.ref 1) J ?_;refine eu ?_;exact eC (.ref 0) [] [1] (by decide) (b8 _) J (bX J) (eD J me J (au)) ⟨J,J⟩
theorem nz {r:Net}(h:kG p0=some r):Fn QbP 42 [.agg (aK p0)] (.agg (aK r)):=by
 unfold kG at h;refine fT 0 0 Tryz.func42 Tryz.ntmps42 J ?_;refine B h λx2 hx2 h=>(X 9 0 (sO (cQ 2 (HQ hx2) ⟨J,(Y 8 3 (sQ (cn (en:=an) TJ J J (Y 3 3 (itr (λmr:Int×(U Node)=>mkA 40 [(1,.ptr 0 0),(2,.ptr 1 0),(10,iI ((x2).length:Int)),(11,iI mr.1)]) (λmr=>[.box [.ref 2,iI p0.Rings,iI p0.Room],.box [.nils,iI 0,iI 0],aR 93 4 an mr.2]) h (wk [] [0,1,2] 3 J) (λmr v_70 h QY=>?_))))))⟩)))
 obtain⟨s3,s4⟩:=mr;replace h:iv p0 x2 s3 s4=some v_70:=h;try dsimp only
 unfold iv at h;refine X 5 3 (TH h J (λQZ h=>?_) (λQZ h=>?_))
 .refine B h λx5 hx5 h=>(B h λx6 hx6 h=>(B h λx7 hx7 h=>(B h λx8 hx8 h=>(B h λx9 hx9 h=>(B h λx10 aY h=>(B h λx11 bw h=>(B h λx12 bx h=>(B h λx13 dc h=>(B h λx14 cm h=>?_)))))))))
  refine X 8 3 (T.drawn mixed (k:=26) J ?_);apply TG 1 (bm 26 33554431);intro tU;apply TG 4 (bm 26 4194303);intro qE;apply TG 5 (bm 26 4194287);intro GO;apply TG 7 (bm 26 524287);intro wJ;apply TG 8 (bm 26 524271);intro zD;apply TG 8 (bm 26 524285);intro zE;apply TG 8 (bm 26 520191);intro wK;apply TG 8 (bm 26 262143);intro wL;apply TG 9 (bm 26 520175);intro zF;apply TG 9 (bm 26 520189);intro zG;apply TG 9 (bm 26 524269);intro GQ;apply TG 9 (bm 26 518143);intro zH;apply TG 9 (bm 26 262127);intro zI;apply TG 9 (bm 26 262141);intro zJ;apply TG 9 (bm 26 258047);intro wM;apply TG 10 (bm 26 518127);intro GR;apply TG 10 (bm 26 518141);intro GS;apply TG 10 (bm 26 520173);intro GT;apply TG 10 (bm 26 258031);intro zK;apply TG 10 (bm 26 258045);intro zL;apply TG 10 (bm 26 262125);intro GU;apply TG 10 (bm 26 255999);intro wO;apply TG 11 (bm 26 255983);intro zM;apply TG 11 (bm 26 255997);intro zN;apply TG 11 (bm 26 258029);intro GV;apply TG 12 (bm 26 255981);intro GW;apply TG 12 (bm 26 45055);intro zO;apply TG 13 (bm 26 45039);intro GX;apply TG 13 (bm 26 45053);intro GG;apply TG 13 (bm 26 43007);intro zq;apply TG 14 (bm 26 42991);intro GH;apply TG 14 (bm 26 43005);intro GI;apply TG 16 (bm 26 41343);intro GJ
  .refine rq [0,2,3,5,6,8,13,15] 18 (ra4 1 4 7 14 ?_ ?_ ?_ ?_)
   .refine og 3 ⟨J,(ra3 4 7 14 ?_ ?_ ?_)⟩
    .exact og 3 ⟨J,(raE GJ)⟩
    .exact og 3 ⟨J,(r0 9 J (aM (en:=an) TJ J J J hx5 (rq [10] 14 (raE GH))))⟩
    .exact og 3 ⟨J,(r0 16 J (aM (en:=an) TJ J J J hx8 (rq [17] 14 (rL [7,9,10,11,12,19,20,21,22,23,24,25] 7 J (r0 9 J (aM (en:=an) TJ J J J hx5 (rq [10] 11 (raE zM))))))))⟩
   .refine og 3 ⟨J,(ra3 1 7 14 ?_ ?_ ?_)⟩
    .exact og 3 ⟨J,(raT GJ)⟩
    .exact og 3 ⟨J,(r0 9 J (aM (en:=an) TJ J J J hx5 (rq [10] 14 (raE GI))))⟩
    .exact og 3 ⟨J,(r0 16 J (aM (en:=an) TJ J J J hx8 (rq [17] 14 (rL [7,9,10,11,12,19,20,21,22,23,24,25] 7 J (r0 9 J (aM (en:=an) TJ J J J hx5 (rq [10] 11 (raE zN))))))))⟩
   .refine og 3 ⟨J,(r0 9 J (aM (en:=an) TJ J J J hx5 (rq [10] 15 (ra4 1 4 11 14 ?_ ?_ ?_ ?_))))⟩
    .exact og 3 ⟨J,(raT GH)⟩
    .exact og 3 ⟨J,(raT GI)⟩
    .refine oO J (aO (en:=an) (a:=x6) J J hx6 (aI TX (c:=sL aj x6.In) J (ra4 1 4 12 14 ?_ ?_ ?_ ?_)))
     .exact og 3 ⟨J,(raE GX)⟩
     .exact og 3 ⟨J,(raE GG)⟩
     .exact oO J (cO 3 (fg hx7) ⟨J,(rL [14,16,17,18,19,20,21,22,23,24,25] 14 J (r0 16 J (aM (en:=an) TJ J J J hx8 (rq [17] 10 (raE GU)))))⟩)
     .exact og 3 ⟨J,(r0 16 J (aM (en:=an) TJ J J J hx8 (rq [17] 11 (raE GV))))⟩
    .exact og 3 ⟨J,(r0 16 J (aM (en:=an) TJ J J J hx8 (rq [17] 12 (raE GW))))⟩
   .exact og 3 ⟨J,(r0 16 J (aM (en:=an) TJ J J J hx8 (rq [17] 15 (rL [7,9,10,11,12,19,20,21,22,23,24,25] 7 J (r0 9 J (aM (en:=an) TJ J J J hx5 (rq [10] 12 (raT GW))))))))⟩
  .refine ra2 7 14 ?_ ?_
   .exact og 3 ⟨J,(r0 9 J (aM (en:=an) TJ J J J hx5 (rq [10] 13 (raE zq))))⟩
   .exact og 3 ⟨J,(r0 16 J (aM (en:=an) TJ J J J hx8 (rq [17] 13 (rL [7,9,10,11,12,19,20,21,22,23,24,25] 7 J (r0 9 J (aM (en:=an) TJ J J J hx5 (rq [10] 10 (raE wO))))))))⟩
  .refine ra3 1 11 14 ?_ ?_ ?_
   .exact og 3 ⟨J,(raT zq)⟩
   .exact oO J (aO (en:=an) (a:=x6) J J hx6 (aI TX (c:=sL aj x6.In) J (raT GG)))
   .exact og 3 ⟨J,(r0 16 J (aM (en:=an) TJ J J J hx8 (rq [17] 11 (raT zN))))⟩
  .refine ra3 4 11 14 ?_ ?_ ?_
   .exact og 3 ⟨J,(raT zq)⟩
   .exact oO J (aO (en:=an) (a:=x6) J J hx6 (aI TX (c:=sL aj x6.In) J (raT GX)))
   .exact og 3 ⟨J,(r0 16 J (aM (en:=an) TJ J J J hx8 (rq [17] 11 (raT zM))))⟩
  .refine ra2 11 14 ?_ ?_
   .exact oO J (aO (en:=an) (a:=x6) J J hx6 (aI TX (c:=sL aj x6.In) J (raE zO)))
   .exact og 3 ⟨J,(r0 16 J (aM (en:=an) TJ J J J hx8 (rq [17] 10 (raT wO))))⟩
  .refine ra3 1 12 14 ?_ ?_ ?_
   .exact og 3 ⟨J,(raT zO)⟩
   .exact oO J (cO 3 (fg hx7) ⟨J,(rL [14,16,17,18,19,20,21,22,23,24,25] 14 J (r0 16 J (aM (en:=an) TJ J J J hx8 (rq [17] 9 (raE zJ)))))⟩)
   .exact og 3 ⟨J,(r0 16 J (aM (en:=an) TJ J J J hx8 (rq [17] 10 (raE zL))))⟩
  .refine ra3 4 12 14 ?_ ?_ ?_
   .exact og 3 ⟨J,(raT zO)⟩
   .exact oO J (cO 3 (fg hx7) ⟨J,(rL [14,16,17,18,19,20,21,22,23,24,25] 14 J (r0 16 J (aM (en:=an) TJ J J J hx8 (rq [17] 9 (raE zI)))))⟩)
   .exact og 3 ⟨J,(r0 16 J (aM (en:=an) TJ J J J hx8 (rq [17] 10 (raE zK))))⟩
  .refine ra2 12 14 ?_ ?_
   .exact oO J (cO 3 (fg hx7) ⟨J,(ra1 14 (og 4 ⟨J,(r0 16 J (aM (en:=an) TJ J J J hx8 (rq [17] 8 (raE wL))))⟩))⟩)
   .exact og 3 ⟨J,(r0 16 J (aM (en:=an) TJ J J J hx8 (rq [17] 9 (raE wM))))⟩
  .refine ra4 1 4 11 18 ?_ ?_ ?_ ?_
   .exact og 3 ⟨J,(raT zM)⟩
   .exact og 3 ⟨J,(raT zN)⟩
   .exact oO J (aO (en:=an) (a:=x6) J J hx6 (aI TX (c:=sL aj x6.In) J (raT GV)))
   .refine oO J (aO (en:=an) (a:=x9) J J hx9 (aI TX (c:=sL aj x9.Out) J (ra3 1 4 11 ?_ ?_ ?_)))
    .exact og 3 ⟨J,(raE GR)⟩
    .exact og 3 ⟨J,(raE GS)⟩
    .exact oO J (aO (en:=an) (a:=x6) J J hx6 (aI TX (c:=sL aj x6.In) J (raE GT)))
  .refine ra4 1 4 12 18 ?_ ?_ ?_ ?_
   .exact og 3 ⟨J,(raT zK)⟩
   .exact og 3 ⟨J,(raT zL)⟩
   .exact oO J (cO 3 (fg hx7) ⟨J,(raT GU)⟩)
   .exact oO J (aO (en:=an) (a:=x9) J J hx9 (aI TX (c:=sL aj x9.Out) J (raT GT)))
  .refine ra3 1 11 18 ?_ ?_ ?_
   .exact og 3 ⟨J,(raT wO)⟩
   .exact oO J (aO (en:=an) (a:=x6) J J hx6 (aI TX (c:=sL aj x6.In) J (raT zL)))
   .exact oO J (aO (en:=an) (a:=x9) J J hx9 (aI TX (c:=sL aj x9.Out) J (raT GS)))
  .refine ra3 4 11 18 ?_ ?_ ?_
   .exact og 3 ⟨J,(raT wO)⟩
   .exact oO J (aO (en:=an) (a:=x6) J J hx6 (aI TX (c:=sL aj x6.In) J (raT zK)))
   .exact oO J (aO (en:=an) (a:=x9) J J hx9 (aI TX (c:=sL aj x9.Out) J (raT GR)))
  .refine ra2 11 18 ?_ ?_
   .exact oO J (aO (en:=an) (a:=x6) J J hx6 (aI TX (c:=sL aj x6.In) J (raT wM)))
   .exact oO J (aO (en:=an) (a:=x9) J J hx9 (aI TX (c:=sL aj x9.Out) J (raE zH)))
  .refine ra3 1 4 18 ?_ ?_ ?_
   .exact og 4 ⟨J,(raT zI)⟩
   .exact og 4 ⟨J,(raT zJ)⟩
   .exact oO J (aO (en:=an) (a:=x9) J J hx9 (aI TX (c:=sL aj x9.Out) J (raE GQ)))
  .refine ra3 1 12 18 ?_ ?_ ?_
   .exact og 3 ⟨J,(raT wM)⟩
   .exact oO J (cO 3 (fg hx7) ⟨J,(raT zJ)⟩)
   .exact oO J (aO (en:=an) (a:=x9) J J hx9 (aI TX (c:=sL aj x9.Out) J (raE zG)))
  .refine ra3 4 12 18 ?_ ?_ ?_
   .exact og 3 ⟨J,(raT wM)⟩
   .exact oO J (cO 3 (fg hx7) ⟨J,(raT zI)⟩)
   .exact oO J (aO (en:=an) (a:=x9) J J hx9 (aI TX (c:=sL aj x9.Out) J (raE zF)))
  .refine ra3 1 4 12 ?_ ?_ ?_
   .exact og 3 ⟨J,(raT zF)⟩
   .exact og 3 ⟨J,(raT zG)⟩
   .exact oO J (cO 3 (fg hx7) ⟨J,(raT GQ)⟩)
  .refine ra2 1 11 ?_ ?_
   .exact og 3 ⟨J,(raT zH)⟩
   .exact oO J (aO (en:=an) (a:=x6) J J hx6 (aI TX (c:=sL aj x6.In) J (raT zG)))
  .refine ra2 4 11 ?_ ?_
   .exact og 3 ⟨J,(raT zH)⟩
   .exact oO J (aO (en:=an) (a:=x6) J J hx6 (aI TX (c:=sL aj x6.In) J (raT zF)))
  .refine ra2 12 18 ?_ ?_
   .exact oO J (cO 3 (fg hx7) ⟨J,(raT wL)⟩)
   .exact oO J (aO (en:=an) (a:=x9) J J hx9 (aI TX (c:=sL aj x9.Out) J (raE wK)))
  .refine ra2 1 18 ?_ ?_
   .exact og 4 ⟨J,(raT wL)⟩
   .exact oO J (aO (en:=an) (a:=x9) J J hx9 (aI TX (c:=sL aj x9.Out) J (raE zE)))
  .refine ra2 4 18 ?_ ?_
   .exact og 4 ⟨J,(raT wL)⟩
   .exact oO J (aO (en:=an) (a:=x9) J J hx9 (aI TX (c:=sL aj x9.Out) J (raE zD)))
  .exact ra1 11 (oO J (aO (en:=an) (a:=x6) J J hx6 (aI TX (c:=sL aj x6.In) J (raT wK))))
  .refine ra3 1 4 19 ?_ ?_ ?_
   .exact og 4 ⟨J,(raT zD)⟩
   .exact og 4 ⟨J,(raT zE)⟩
   .exact oO J (cO 4 (fg aY) ⟨J,(rL [1,20,21,22,23,24,25] 1 J (r0 20 J (aM (en:=an) TJ J J J bw (rq [21] 5 (raE GO)))))⟩)
  .refine ra2 1 12 ?_ ?_
   .exact og 3 ⟨J,(raT wK)⟩
   .exact oO J (cO 3 (fg hx7) ⟨J,(raT zE)⟩)
  .refine ra2 4 12 ?_ ?_
   .exact og 3 ⟨J,(raT wK)⟩
   .exact oO J (cO 3 (fg hx7) ⟨J,(raT zD)⟩)
  .exact ra1 18 (oO J (aO (en:=an) (a:=x9) J J hx9 (aI TX (c:=sL aj x9.Out) J (raE wJ))))
  .exact ra1 12 (oO J (cO 3 (fg hx7) ⟨J,(raT wJ)⟩))
  .refine ra2 1 19 ?_ ?_
   .exact og 4 ⟨J,(raT wJ)⟩
   .exact oO J (cO 4 (fg aY) ⟨J,(ra1 1 (og 5 ⟨J,(r0 20 J (aM (en:=an) TJ J J J bw (rq [21] 4 (raE qE))))⟩))⟩)
  .refine ra2 4 19 ?_ ?_
   .exact og 4 ⟨J,(raT wJ)⟩
   .exact oO J (cO 4 (fg aY) ⟨J,(r0 20 J (aM (en:=an) TJ J J J bw (rq [21] 5 (raT GO))))⟩)
  .exact ra1 19 (oO J (cO 4 (fg aY) ⟨J,(r0 20 J (aM (en:=an) TJ J J J bw (rq [21] 4 (raT qE))))⟩))
  .refine ra2 4 22 ?_ ?_
   .exact og 5 ⟨J,(raT qE)⟩
   .exact RO.fC 3 (oO J (e9 (en:=an) (a:=x12) (a':=(⟨x12.Kind,x12.A,x7,x12.Out⟩:Node)) Up UA J (vs:=[sL aj x7]) J J J bx J J J (ra1 4 (og 5 ⟨J,(r0 23 J (aM (en:=an) TJ J J J dc (rq [24] 1 (raE tU))))⟩))))
  .exact ra1 22 (RO.fC 3 (oO J (e9 (en:=an) (a:=x12) (a':=(⟨x12.Kind,x12.A,x7,x12.Out⟩:Node)) Up UA J (vs:=[sL aj x7]) J J J bx J J J (r0 23 J (aM (en:=an) TJ J J J dc (rq [24] 1 (raT tU)))))))
  exact ra1 25 (RO.fC 4 (oO J (e9 (en:=an) (a:=x14) (a':=(⟨x14.Kind,x14.A,x14.In,x10⟩:Node)) Up UA J (vs:=[sL aj x10]) J J J cm J J J (RA.done (by decide+kernel) (X 4 5 (lk h (wk [] [0,1,2] 5 J)))))))
 refine X 1 3 ?_;replace h:=mi h QY;refine X 5 3 ?_;cases h;exact tD
theorem iP {p0 r:U Item}(h:fh p0=some r):FnO QbP 57 [.sl (List.map aa p0)] (.ref 0) [.arr 68 3 (List.map aa r)]:=by
 have hr:p0=r:=by
  unfold fh app at h;split at h
  .simpa using h
  .cases h
 refine iE (N:=0) J Tryz.func57 J (by kernel_rfl) Tryz.ntmps57 J ?_;show T _ _ _ _ (mkA 8 [(0,.sl (List.map aa p0))]) [];refine T.seq ?_;refine T.region ?_;refine RS.op J (TV J (cA (v:=.nils) J ?_));refine RS.nil ?_;refine T.seq ?_;refine T.seq ?_;refine T.region ?_;refine RS.op J (TV J (eE (v:=.sl (List.map aa p0)) J ?_));refine RS.op J (TV J (jN TL J J (λz hz=>?_)));refine RS.nil ?_;refine T.cond (b:=z) J (λhb=>?_) (λhb=>?_)
 .refine T.seq ?_;refine T.region ?_;refine RS.op J (TV J (cA (v:=.nils) J ?_));refine RS.nil ?_;refine T.ret ?_;refine eA (v:=.nils) J ?_;refine eu ?_;have h0:p0=[]:=Sq.1 (hz hb);exact eC (.ref 0) [(0,68,3)] [0] (by decide) (b8 _) J (bX J) (eD (en:=aa) (ys:=[]) J fo (by rw[<- hr,h0]) (au)) ⟨J,J⟩
 .refine T.skip ?_;refine T.seq ?_;refine T.region ?_;refine RS.op J (bi (rows:=List.map aa []) (vs:=[]) TL Uk J J J J J (aw':=[.arr 68 3 (List.map aa [])]) J ?_);refine RS.op J (TV J (eE (v:=.sl (List.map aa p0)) J ?_));refine RS.op J (bU (en:=aa) (xs:=([]:U Item)) (ys:=p0) (r:=r) TL (λ_=>J) J J J h J (aw':=[.dead,.arr 68 3 (List.map aa r)]) J ?_);refine RS.op J (TV J (cA (v:=.ref 1) J ?_));refine RS.nil ?_;refine T.ret ?_;refine eA (v:=.ref 1) J ?_;refine eu ?_;exact eC (.ref 0) [] [1] (by decide) (b8 _) J (bX J) (eD J fo J (au)) ⟨J,J⟩
theorem uD {p0 r:U (U Item)}(h:rz p0=some r):FnO QbP 43 [sL (ai aa) p0] (.ref 0) [aR 30 1 (ai aa) r]:=by
 unfold rz at h;refine fT 0 12 Tryz.func43 Tryz.ntmps43 J (sQ (al TO J (Y 3 0 (itr (λcT:Int×(U (U Item))=>mkA 19 [(3,.ref 0),(6,sL (ai aa) p0),(7,iI ((p0).length:Int)),(8,iI cT.1)]) (λcT=>[aR 30 1 (ai aa) cT.2]) h (wk [(3,30,1)] [0] 0 J) (λcT v_4 h tV=>?_)))));obtain⟨s1,s2⟩:=cT;replace h:mK p0 s1 s2=some v_4:=h;try dsimp only
 unfold mK at h;refine X 5 1 (TH h J (λaN h=>?_) (λaN h=>?_))
 .refine B h λx4 hx4 h=>(X 5 1 (sQ (aG TO (λ_=>J) J J hx4 (B h λx5 hx5 h=>(B h λx6 hx6 h=>(Y 6 1 (sO (cO 1 (iP hx5) ⟨J,(RS.fC 1 (sO (bi (rows:=List.map (ai aa) [x5]) (vs:=[sL aa x5]) TO Ua J J J J J J (sO (bU (en:=(ai aa)) (xs:=s2) (ys:=([x5]:U (U Item))) TO (λ_=>J) J J J hx6 J J ?_)))))⟩))))))))
  exact Y 6 4 (lk h (wk [] [3] 4 J))
 refine X 1 1 ?_;replace h:=mi h tV;refine X 5 1 ?_;cases h;exact tO [] [0] 1
theorem JH {p1:U (U Item)}{r:Shop×Int}(h:nM p0 p1=some r):Fn QbP 14 [.agg (aK p0),sL (ai aa) p1] (.tup [.agg (fK r.1),iI r.2]):=by
 unfold nM at h;refine fT 0 0 Tryz.func14 Tryz.ntmps14 J ?_;refine B h λx2 hx2 h=>(X 10 0 (sO (cG [] 2 5 (TR (m6 hx2)) ⟨J,(Y 13 7 (TH h J (λah h=>?_) (λah h=>?_)))⟩)))
 .refine X 7 8 ?_;cases h;exact tD
 refine B h λx5 hx5 h=>(B h λx6 hx6 h=>(X 2 8 (T.drawn mixed (k:=8) J ?_)))
 apply TG 2 (bm 8 63);intro hS2;apply TG 4 (bm 8 23);intro hS3
 .refine rq [2] 7 (rL [0,1,3,5,6,7] 0 J (ra2 1 4 ?_ ?_))
  .refine oO J (cD (nz hx5) ⟨J,(ra2 3 4 ?_ ?_)⟩)
   .exact oO J (cQ 8 (uD hx6) ⟨J,(ra1 4 (og 9 ⟨J,(rq [5] 2 (raE hS2))⟩))⟩)
   .exact og 8 ⟨J,(raE hS3)⟩
  .exact og 8 ⟨J,(ra1 1 (oO J (cD (nz hx5) ⟨J,(raT hS3)⟩)))⟩
 .exact ra1 3 (oO J (cQ 8 (uD hx6) ⟨J,(rq [5] 2 (raT hS2))⟩))
 refine ra1 6 (og 9 ⟨J,(rq [7] 0 (RA.done (by decide+kernel) ?_))⟩);cases h;exact tD
theorem HE {p0:Item}{p1:U Int}(h:uv p0 p1 p2 p3 p4 p5=some r):FnX QbP 71 [.agg (aa p0),.ptr 0 0] [.box [sL aj p1,sL (ai aa) p2,sL aC p3,sL ao p4,sL aa p5]] (.bool r) [.box [sL aj p1,sL (ai aa) p2,sL aC p3,sL ao p4,sL aa p5]]:=by
 unfold uv at h;refine fT 1 5 Tryz.func71 Tryz.ntmps71 J (j1 [(3,.bool ((decide (p0.Dep<0))||decide (p0.Dep> ((p4).length:Int))))] [.box [sL aj p1,sL (ai aa) p2,sL aC p3,sL ao p4,sL aa p5]] ?_ (λhK=>?_))
 .cases h;exact tN [0]
 refine X 6 2 (gp 7 (λah=>?_) (λah=>?_))
 .refine Yp 9 2 ?_;rw[ah]at hK;exact wu hK [] [0] 2 J
 refine Y 4 2 (yQ J (al TN J (Yp 4 2 ?_)));rw[ah]at hK;exact wu hK [] [0] 2 J
theorem Hv {p0:U Item}{p1:U Int}{r:Int}(h:uo p0 p1 p2 p3 p4 p5=some r):FnX QbP 108 [sL aa p0,.func 71 [.ptr 0 0]] [.box [sL aj p1,sL (ai aa) p2,sL aC p3,sL ao p4,sL aa p5]] (iI r) [.box [sL aj p1,sL (ai aa) p2,sL aC p3,sL ao p4,sL aa p5]]:=by
 unfold uo at h;refine fT 1 8 Tryz.func108 Tryz.ntmps108 J (sQ (al TL J (Y 3 1 (itr (λak:Int=>mkA 19 [(0,sL aa p0),(1,.func 71 [.ptr 0 0]),(7,iI ((p0).length:Int)),(8,iI ak)]) (λak=>[.box [sL aj p1,sL (ai aa) p2,sL aC p3,sL ao p4,sL aa p5]]) h (wk [] [0] 1 J) (λak v_6 h bg=>?_)))));revert bg h;revert ak;intro s1 h bg;replace h:qV p0 p1 p2 p3 p4 p5 s1=some v_6:=h;try dsimp only
 unfold qV at h;refine X 5 1 (TH h J (λbH h=>?_) (λbH h=>?_))
 .refine B h λx4 hx4 h=>(B h λx5 hx5 h=>(X 13 1 (sQ (aG TL (λ_=>J) J J hx4 (Y 1 1 (sO (cG [0] 1 1 (HE hx5) ⟨J,(Y 1 1 (TH h J (λbF h=>?_) (λbF h=>?_)))⟩)))))))
  .refine X 5 1 ?_;replace h:=mi h bg;cases h;exact tN [0]
  exact X 5 1 (lk h (wk [] [0] 1 J))
 refine X 1 1 ?_;replace h:=mi h bg;refine X 4 1 ?_;cases h;exact tN [0]
theorem Ho {p0:U Item}{p1:U Int}(h:uk p0 p1 p2 p3 p4 p5=some r):FnX QbP 70 [sL aa p0,.func 71 [.ptr 0 0]] [.box [sL aj p1,sL (ai aa) p2,sL aC p3,sL ao p4,sL aa p5]] (.bool r) [.box [sL aj p1,sL (ai aa) p2,sL aC p3,sL ao p4,sL aa p5]]:=by
 unfold uk at h;refine fT 1 0 Tryz.func70 Tryz.ntmps70 J ?_;refine B h λx2 hx2 h=>(X 8 1 (sO (cG [0] 1 1 (Hv hx2) ⟨J,(Y 3 1 ?_)⟩)))
 cases h;exact tN [0]
theorem Ak {p0:U Item}{p1:U Int}(h:oU p0 p1 p2 p3 p4 p5=some r):FnX QbP 69 [sL aa p0,.ptr 0 0] [.box [sL aj p1,sL (ai aa) p2,sL aC p3,sL ao p4,sL aa p5]] (.bool r) [.box [sL aj p1,sL (ai aa) p2,sL aC p3,sL ao p4,sL aa p5]]:=by
 unfold oU at h;refine fT 1 0 Tryz.func69 Tryz.ntmps69 J ?_;refine B h λx2 hx2 h=>(X 8 1 (sO (cG [0] 1 1 (Ho hx2) ⟨J,(Y 3 1 ?_)⟩)))
 cases h;exact tN [0]
theorem AD {p0:Memory}{r:Int}(h:lN p0=some r):Fn QbP 72 [.agg (aC p0)] (iI r):=by
 unfold lN at h;refine fT 0 10 Tryz.func72 Tryz.ntmps72 J (sQ (al TM J (Y 2 1 (TH h J (λah h=>?_) (λah h=>?_)))))
 .refine X 4 1 ?_;cases h;exact tD
 refine X 6 1 (sQ (al TM J (Y 3 1 (itr (λqt:Int=>mkA 40 [(1,.ptr 0 0),(10,sL aQ p0.Keys),(11,iI ((p0.Keys).length:Int)),(12,iI qt)]) (λqt=>[.box (aC p0)]) h (wk [] [0] 1 J) (λqt v_17 h wC=>?_)))));revert wC h;revert qt;intro s1 h wC;replace h:jy p0 s1=some v_17:=h;try dsimp only
 unfold jy at h;refine X 5 1 (TH h J (λtE h=>?_) (λtE h=>?_))
 .refine B h λx3 hx3 h=>(X 6 1 (sQ (aG TM (λ_=>J) J J hx3 (Y 5 1 ?_))))
  obtain⟨Q0,hz,h⟩:=bind_some h;revert hz h;revert Q0;intro c5 hz h;refine j1 [(1,.ptr 0 0),(10,sL aQ p0.Keys),(11,iI ((p0.Keys).length:Int)),(12,iI s1),(35,.bool c5)] [.box (aC p0)] ?_ (λhK=>?_)
  .refine TH h J (λlf h=>?_) (λlf h=>?_)
   .refine X 4 1 ?_;replace h:=mi h wC;cases h;exact tD
   exact X 5 1 (lk h (wk [] [0] 1 J))
  refine X 1 2 ?_;rcases bC (decide (x3.N<1))with da|da
  .replace hz:=cb hz da;refine T.drawn mixed (k:=19) J (rq [0] 18 (ra1 1 (og 2 ⟨J,(rq [2,3] 15 (r2 4 J da (r2 5 J da (r2 6 J da (r3 7 J (r3 8 J ?_))))))⟩)));refine r3 9 J (r3 10 J (r3 11 J (r3 12 J (r3 13 J (r3 14 J (r3 15 J (r3 16 J (r2 17 J da (r0 18 J (br (v:=.bool true) J da J ?_))))))))));exact RA.done (by decide+kernel) (T.weakR hK (TS [] [0] (by decide) (b8 _) J ⟨am J,rn_s J,cS J,cS J,f7 ((congrArg (λp=>p) (RR hz)).symm),tqz⟩ (eV (aC p0) J (au))))
  replace hz:=cg hz da;rcases bC (decide (s1> 0))with bQ|bQ
  .replace hz:=cb hz bQ;refine B hz λx4 hx4 hz=>(T.drawn mixed (k:=19) J ?_)
   apply TG 0 (bm 19 524287);intro ff;apply TG 4 (bm 19 57343);intro eH
   .refine rq [0] 18 (ra1 1 (og 2 ⟨J,(rq [2,3] 15 (ry 4 da J (ry 5 da J (ry 6 da J (ry 7 bQ J (ry 9 bQ J (ry 10 bQ J ?_)))))))⟩));refine ry 14 bQ J (ra2 8 15 ?_ ?_)
    .refine oy 2 bQ J (r1 11 J bQ (aG TM (λ_=>J) J J hx4 (ry 12 bQ J (ra2 13 15 ?_ ?_))))
     .exact oy 2 bQ J (ra1 15 (oy 2 bQ J (ry 16 bQ J (r1 17 J da (br (v:=.bool (decide (x4.Key>=x3.Key))) J bQ J (r0 18 J (bd (v:=.bool (decide (x4.Key>=x3.Key))) J da J (raE ff))))))))
     .exact oy 2 bQ J (raE eH)
    .exact oy 2 bQ J (ra1 8 (oy 2 bQ J (r1 11 J bQ (aG TM (λ_=>J) J J hx4 (ry 12 bQ J (raT eH))))))
   .exact ra1 13 (oy 2 bQ J (ry 16 bQ J (r1 17 J da (br (v:=.bool (decide (x4.Key>=x3.Key))) J bQ J (r0 18 J (bd (v:=.bool (decide (x4.Key>=x3.Key))) J da J (raT ff)))))))
   exact RA.done (by decide+kernel) (T.weakR hK (TS [] [0] (by decide) (b8 _) J ⟨am J,rn_s J,cS J,cS J,f7 ((congrArg (λp=>p) (RR hz)).symm),tqz⟩ (eV (aC p0) J (au))))
  replace hz:=cg hz bQ;refine T.drawn mixed (k:=19) J (rq [0] 18 (ra1 1 (og 2 ⟨J,(rq [2,3] 15 (ry 4 da J (ry 5 da J (ry 6 da J (r2 7 J bQ (r2 8 J bQ ?_))))))⟩)));refine r2 9 J bQ (r2 10 J bQ (r2 11 J bQ (r2 12 J bQ (r2 13 J bQ (r2 14 J bQ (r2 15 J bQ (r2 16 J bQ (r1 17 J da (bd (v:=.bool false) J bQ J (r0 18 J (bd (v:=.bool false) J da J ?_)))))))))));exact RA.done (by decide+kernel) (T.weakR hK (TS [] [0] (by decide) (b8 _) J ⟨am J,rn_s J,cS J,cS J,f7 ((congrArg (λp=>p) (RR hz)).symm),tqz⟩ (eV (aC p0) J (au))))
 refine X 1 1 ?_;replace h:=mi h wC;refine X 7 1 (TH h J (λtF h=>?_) (λtF h=>?_))
 .refine X 4 1 ?_;cases h;exact tD
 refine X 5 1 ?_;cases h;exact tD
theorem IC {p1:Choice}(h:rU p0 p1=some r):Fn QbP 73 [.agg (aK p0),.agg (ao p1)] (.bool r):=by
 unfold rU at h;refine fT 0 6 Tryz.func73 Tryz.ntmps73 J ?_;obtain⟨zP,hz,h⟩:=bind_some h;revert hz h;revert zP;intro c3 hz h;refine j1 [(4,.bool c3)] [] ?_ (λhK=>?_)
 .cases h;exact tD
 refine X 1 2 ?_;rcases bC (decide (p1.Node>=0))with ah|ah
 .replace hz:=cb hz ah;rcases bC (decide (p1.Node<((p0.Nodes).length:Int)))with ae|ae
  .replace hz:=cb hz ae;refine B hz λx1 hx1 hz=>?_
   rcases bC (x1.Kind==6)with aq|aq
   .replace hz:=cb hz aq;rcases bC (decide (p1.Lane>=0))with aD|aD
    .replace hz:=cb hz aD;refine B hz λx2 hx2 hz=>(T.drawn mixed (k:=40) J ?_)
     apply TG 0 (bm 40 1099511627775);intro hS6;apply TG 5 (bm 40 34359738367);intro hS7;apply TG 6 (bm 40 34091302911);intro hS8;apply TG 8 (bm 40 7516192767);intro hS9;apply TG 8 (bm 40 4294967295);intro eg;apply TG 22 (bm 40 262143);intro dX;apply TG 26 (bm 40 24575);intro g9
     .refine rq [0] 39 (ra1 1 (og 2 ⟨J,(rq [2,3] 36 (ry 4 ah J (ry 6 ah J (ra2 5 7 ?_ ?_))))⟩))
      .exact oy 2 ah J (ra1 7 (oy 2 ah J (r1 8 J ah (al TJ J (ry 9 ah J (r0 10 J (br (v:=.bool (decide (p1.Node<((p0.Nodes).length:Int)))) J ah J (rq [11] 28 (ry 12 ae J (ry 14 ae J (raE g9)))))))))))
      .exact oy 2 ah J (r1 8 J ah (al TJ J (ra1 5 (oy 2 ah J (ry 9 ah J (r0 10 J (br (v:=.bool (decide (p1.Node<((p0.Nodes).length:Int)))) J ah J (rq [11] 28 (ry 12 ae J (ry 14 ae J (raT g9)))))))))))
     .refine ra2 13 15 ?_ ?_
      .exact oy 2 ae J (ra1 15 (oy 2 ae J (r1 16 J ae (aG TJ (λ_=>J) J J hx1 (ry 17 ae J (raE dX))))))
      .exact oy 2 ae J (ra1 13 (oy 2 ae J (r1 16 J ae (aG TJ (λ_=>J) J J hx1 (ry 17 ae J (raT dX))))))
     .refine ra1 18 (oy 2 ae J (ry 19 ae J (r0 20 J (br (v:=.bool (x1.Kind==6)) J ae J (rq [21] 18 (ry 22 aq J (ra1 23 (oy 2 aq J (ry 24 aq J (r0 25 J (br (v:=.bool (decide (p1.Lane>=0))) J aq J ?_)))))))))));refine rq [26] 13 (ry 27 aD J (ry 29 aD J (ry 31 aD J (ra3 28 30 32 ?_ ?_ ?_))))
      .refine oy 2 aD J (ra2 30 32 ?_ ?_)
       .exact oy 2 aD J (raE eg)
       .exact oy 2 aD J (raE hS9)
      .refine oy 2 aD J (ra2 28 32 ?_ ?_)
       .exact oy 2 aD J (raT eg)
       .exact oy 2 aD J (r1 33 J aD (aG TJ (λ_=>J) J J hx2 (ry 34 aD J (raE hS8))))
      .refine oy 2 aD J (ra2 28 30 ?_ ?_)
       .exact oy 2 aD J (raT hS9)
       .exact oy 2 aD J (r1 33 J aD (aG TJ (λ_=>J) J J hx2 (ry 34 aD J (raT hS8))))
     .exact ra1 32 (oy 2 aD J (r1 33 J aD (aG TJ (λ_=>J) J J hx2 (ry 34 aD J (raE hS7)))))
     .exact ra1 30 (oy 2 aD J (r1 33 J aD (aG TJ (λ_=>J) J J hx2 (ry 34 aD J (raT hS7)))))
     .refine ra2 28 35 ?_ ?_
      .exact oy 2 aD J (raT hS7)
      .exact oy 2 aD J (r1 36 J aD (al TK J (ra1 28 (oy 2 aD J (ry 37 aD J (r0 38 J (br (v:=.bool (decide (p1.Lane<((x2.In).length:Int)))) J aD J (rq [39] 0 (raE hS6)))))))))
     .exact ra1 35 (oy 2 aD J (r1 36 J aD (al TK J (ry 37 aD J (r0 38 J (br (v:=.bool (decide (p1.Lane<((x2.In).length:Int)))) J aD J (rq [39] 0 (raT hS6))))))))
     exact RA.done (by decide+kernel) (T.weakR hK (TS [] [] (by decide) (b8 _) J ⟨f7 ((congrArg (λp=>p) (RR hz)).symm),tqz⟩ (au)))
    replace hz:=cg hz aD;refine T.drawn mixed (k:=40) J ?_;apply TG 22 (bm 40 262143);intro jq;apply TG 26 (bm 40 24575);intro mC
    .refine rq [0] 39 (ra1 1 (og 2 ⟨J,(rq [2,3] 36 (ry 4 ah J (ry 6 ah J (ra2 5 7 ?_ ?_))))⟩))
     .exact oy 2 ah J (ra1 7 (oy 2 ah J (r1 8 J ah (al TJ J (ry 9 ah J (r0 10 J (br (v:=.bool (decide (p1.Node<((p0.Nodes).length:Int)))) J ah J (rq [11] 28 (ry 12 ae J (ry 14 ae J (raE mC)))))))))))
     .exact oy 2 ah J (r1 8 J ah (al TJ J (ra1 5 (oy 2 ah J (ry 9 ah J (r0 10 J (br (v:=.bool (decide (p1.Node<((p0.Nodes).length:Int)))) J ah J (rq [11] 28 (ry 12 ae J (ry 14 ae J (raT mC)))))))))))
    .refine ra2 13 15 ?_ ?_
     .exact oy 2 ae J (ra1 15 (oy 2 ae J (r1 16 J ae (aG TJ (λ_=>J) J J hx1 (ry 17 ae J (raE jq))))))
     .exact oy 2 ae J (ra1 13 (oy 2 ae J (r1 16 J ae (aG TJ (λ_=>J) J J hx1 (ry 17 ae J (raT jq))))))
    refine ra1 18 (oy 2 ae J (ry 19 ae J (r0 20 J (br (v:=.bool (x1.Kind==6)) J ae J (rq [21] 18 (ry 22 aq J (ra1 23 (oy 2 aq J (ry 24 aq J (r0 25 J (br (v:=.bool (decide (p1.Lane>=0))) J aq J ?_)))))))))));refine rq [26] 13 (r2 27 J aD (r2 28 J aD (r2 29 J aD (r2 30 J aD (r2 31 J aD (r2 32 J aD (r2 33 J aD (r2 34 J aD (r2 35 J aD ?_)))))))));exact r2 36 J aD (r2 37 J aD (r0 38 J (bd (v:=.bool false) J aD J (rq [39] 0 (RA.done (by decide+kernel) (T.weakR hK (TS [] [] (by decide) (b8 _) J ⟨f7 ((congrArg (λp=>p) (RR hz)).symm),tqz⟩ (au))))))))
   replace hz:=cg hz aq;refine T.drawn mixed (k:=40) J ?_;apply TG 22 (bm 40 262143);intro qF;apply TG 26 (bm 40 24575);intro tW
   .refine rq [0] 39 (ra1 1 (og 2 ⟨J,(rq [2,3] 36 (ry 4 ah J (ry 6 ah J (ra2 5 7 ?_ ?_))))⟩))
    .exact oy 2 ah J (ra1 7 (oy 2 ah J (r1 8 J ah (al TJ J (ry 9 ah J (r0 10 J (br (v:=.bool (decide (p1.Node<((p0.Nodes).length:Int)))) J ah J (rq [11] 28 (ry 12 ae J (ry 14 ae J (raE tW)))))))))))
    .exact oy 2 ah J (r1 8 J ah (al TJ J (ra1 5 (oy 2 ah J (ry 9 ah J (r0 10 J (br (v:=.bool (decide (p1.Node<((p0.Nodes).length:Int)))) J ah J (rq [11] 28 (ry 12 ae J (ry 14 ae J (raT tW)))))))))))
   .refine ra2 13 15 ?_ ?_
    .exact oy 2 ae J (ra1 15 (oy 2 ae J (r1 16 J ae (aG TJ (λ_=>J) J J hx1 (ry 17 ae J (raE qF))))))
    .exact oy 2 ae J (ra1 13 (oy 2 ae J (r1 16 J ae (aG TJ (λ_=>J) J J hx1 (ry 17 ae J (raT qF))))))
   refine ra1 18 (oy 2 ae J (ry 19 ae J (r0 20 J (br (v:=.bool (x1.Kind==6)) J ae J (rq [21] 18 (r2 22 J aq (r2 23 J aq (r2 24 J aq (r0 25 J (bd (v:=.bool false) J aq J (rq [26] 13 ?_)))))))))));refine r2 27 J J (r2 28 J J (r2 29 J J (r2 30 J J (r2 31 J J (r2 32 J J (r2 33 J J (r2 34 J J (r2 35 J J (r2 36 J J ?_)))))))));exact r2 37 J J (r0 38 J (bd (v:=.bool false) J J J (rq [39] 0 (RA.done (by decide+kernel) (T.weakR hK (TS [] [] (by decide) (b8 _) J ⟨f7 ((congrArg (λp=>p) (RR hz)).symm),tqz⟩ (au)))))))
  replace hz:=cg hz ae;refine T.drawn mixed (k:=40) J ?_;apply TG 0 (bm 40 1099511627775);intro tX
  .refine rq [0] 39 (ra1 1 (og 2 ⟨J,(rq [2,3] 36 (ry 4 ah J (ry 6 ah J (ra2 5 7 ?_ ?_))))⟩))
   .refine oy 2 ah J (ra1 7 (oy 2 ah J (r1 8 J ah (al TJ J (ry 9 ah J (r0 10 J (br (v:=.bool (decide (p1.Node<((p0.Nodes).length:Int)))) J ah J (rq [11] 28 (r2 12 J ae (r2 13 J ae (r2 14 J ae ?_)))))))))));refine r2 15 J ae (r2 16 J ae (r2 17 J ae (r2 18 J ae (r2 19 J ae (r0 20 J (bd (v:=.bool false) J ae J (rq [21] 18 (r2 22 J J (r2 23 J J (r2 24 J J ?_))))))))));refine r0 25 J (bd (v:=.bool false) J J J (rq [26] 13 (r2 27 J J (r2 28 J J (r2 29 J J (r2 30 J J (r2 31 J J (r2 32 J J (r2 33 J J (r2 34 J J ?_))))))))));exact r2 35 J J (r2 36 J J (r2 37 J J (r0 38 J (bd (v:=.bool false) J J J (rq [39] 0 (raE tX))))))
   .refine oy 2 ah J (r1 8 J ah (al TJ J (ra1 5 (oy 2 ah J (ry 9 ah J (r0 10 J (br (v:=.bool (decide (p1.Node<((p0.Nodes).length:Int)))) J ah J (rq [11] 28 (r2 12 J ae (r2 13 J ae (r2 14 J ae ?_)))))))))));refine r2 15 J ae (r2 16 J ae (r2 17 J ae (r2 18 J ae (r2 19 J ae (r0 20 J (bd (v:=.bool false) J ae J (rq [21] 18 (r2 22 J J (r2 23 J J (r2 24 J J ?_))))))))));refine r0 25 J (bd (v:=.bool false) J J J (rq [26] 13 (r2 27 J J (r2 28 J J (r2 29 J J (r2 30 J J (r2 31 J J (r2 32 J J (r2 33 J J (r2 34 J J ?_))))))))));exact r2 35 J J (r2 36 J J (r2 37 J J (r0 38 J (bd (v:=.bool false) J J J (rq [39] 0 (raT tX))))))
  exact RA.done (by decide+kernel) (T.weakR hK (TS [] [] (by decide) (b8 _) J ⟨f7 ((congrArg (λp=>p) (RR hz)).symm),tqz⟩ (au)))
 replace hz:=cg hz ah;refine T.drawn mixed (k:=40) J (rq [0] 39 (ra1 1 (og 2 ⟨J,(rq [2,3] 36 (r2 4 J ah (r2 5 J ah (r2 6 J ah (r2 7 J ah (r2 8 J ah ?_))))))⟩)));refine r2 9 J ah (r0 10 J (bd (v:=.bool false) J ah J (rq [11] 28 (r2 12 J J (r2 13 J J (r2 14 J J (r2 15 J J (r2 16 J J (r2 17 J J (r2 18 J J ?_))))))))));refine r2 19 J J (r0 20 J (bd (v:=.bool false) J J J (rq [21] 18 (r2 22 J J (r2 23 J J (r2 24 J J (r0 25 J (bd (v:=.bool false) J J J (rq [26] 13 (r2 27 J J (r2 28 J J ?_)))))))))));refine r2 29 J J (r2 30 J J (r2 31 J J (r2 32 J J (r2 33 J J (r2 34 J J (r2 35 J J (r2 36 J J (r2 37 J J (r0 38 J (bd (v:=.bool false) J J J ?_))))))))));exact rq [39] 0 (RA.done (by decide+kernel) (T.weakR hK (TS [] [] (by decide) (b8 _) J ⟨f7 ((congrArg (λp=>p) (RR hz)).symm),tqz⟩ (au))))
end
end
section
open Go.RowKit
set_option maxRecDepth 100000
set_option maxHeartbeats 4000000
set_option synthInstance.maxSize 100000
set_option synthInstance.maxHeartbeats 4000000
section
variable {p0:Net}{p1:U (U Item)}{p2:State}{r p7 p8:Int}{p3:U Memory}{p4:U Choice}{p5:U Item}{p6:U Node}
theorem rM (h:iw p0 p1 p2=some r):Fn QbP 34 [.agg (aK p0),sL (ai aa) p1,.agg (bE p2)] (iI r):=by
 unfold iw at h;refine fT 0 0 Tryz.func34 Tryz.ntmps34 J ?_;refine B h λx2 hx2 h=>(X 11 0 (sO (cF (xf hx2) ⟨J,(Y 7 2 (TH h J (λah h=>?_) (λah h=>?_)))⟩)))
 .refine X 5 2 ?_;cases h;exact tD
 refine X 2 2 (j1 [(1,sL (ai aa) p1),(3,.ptr 0 0),(5,.ptr 1 0),(46,.bool ((((p2.At).length:Int)!=((p1).length:Int))||((((p2.Rings).length:Int)!=p0.Rings)||((p2.Memory).length:Int)!=((p0.Nodes).length:Int))))] [.box (aK p0),.box (bE p2)] ?_ (λhK=>?_))
 .refine TH h J (λaD h=>?_) (λaD h=>?_)
  .refine X 4 2 ?_;cases h;exact tD
  refine X 2 2 (j1 [(1,sL (ai aa) p1),(3,.ptr 0 0),(5,.ptr 1 0),(56,.bool ((decide (((p2.Choices).length:Int)> 500))||decide (((p2.Out).length:Int)> 2000)))] [.box (aK p0),.box (bE p2)] ?_ (λhK=>?_))
  .refine TH h J (λaV h=>?_) (λaV h=>?_)
   .refine X 4 2 ?_;cases h;exact tD
   refine X 6 2 (sQ (al TK J (Y 3 2 (itr (λdi:Int=>mkA 131 [(1,sL (ai aa) p1),(3,.ptr 0 0),(5,.ptr 1 0),(58,sL aj p2.At),(59,iI ((p2.At).length:Int)),(60,iI di)]) (λdi=>[.box (aK p0),.box (bE p2)]) h (wk [] [0,1] 2 J) (λdi v_16 h mz=>?_)))));revert mz h;revert di;intro s5 h mz;replace h:rH p0 p1 p2 s5=some v_16:=h;try dsimp only
   unfold rH at h;refine X 5 2 (TH h J (λgE h=>?_) (λgE h=>?_))
   .refine B h λx7 hx7 h=>(X 6 2 (sQ (aG TK (λ_=>J) J J hx7 (Y 4 2 ?_))))
    obtain⟨Q1,hz,h⟩:=bind_some h;revert hz h;revert Q1;intro c9 hz h;refine j1 [(1,sL (ai aa) p1),(3,.ptr 0 0),(5,.ptr 1 0),(58,sL aj p2.At),(59,iI ((p2.At).length:Int)),(60,iI s5),(75,.bool c9)] [.box (aK p0),.box (bE p2)] ?_ (λhK=>?_)
    .refine TH h J (λbQ h=>?_) (λbQ h=>?_)
     .refine X 4 2 ?_;replace h:=mi h mz;cases h;exact tD
     exact X 5 2 (lk h (wk [] [0,1] 2 J))
    refine X 5 2 (gi 67 hz (λtE hz=>?_) (λtE hz=>?_))
    .refine Yp 9 2 ?_;cases hz;exact sx hK
    refine B hz λx8 hx8 hz=>(Y 3 2 (yQ J (aG TO (λ_=>J) J J hx8 (Y 1 2 (yQ J (al TL J (Yp 3 2 ?_)))))))
    cases hz;exact sx hK
   refine X 1 2 ?_;replace h:=mi h mz;refine X 10 2 (sQ (al TO J (Y 3 2 (itr (λdG:Int=>mkA 131 [(3,.ptr 0 0),(5,.ptr 1 0),(10,.func 69 [.ptr 1 0]),(79,sL (ai aa) p2.Rings),(80,iI ((p2.Rings).length:Int)),(81,iI dG)]) (λdG=>[.box (aK p0),.box (bE p2)]) h (wk [] [0,1] 2 J) (λdG v_30 h gZ=>?_)))));revert gZ h;revert dG;intro s10 h gZ;replace h:pc p0 p2 s10=some v_30:=h;try dsimp only
   unfold pc at h;refine X 5 2 (TH h J (λot h=>?_) (λot h=>?_))
   .refine B h λx12 bx h=>(X 5 2 (sQ (aG TO (λ_=>J) J J bx (Y 7 2 (sQ (al TL J (Y 4 2 (TH h J (λeZ h=>?_) (λeZ h=>?_)))))))))
    .refine X 4 2 ?_;replace h:=mi h gZ;cases h;exact tD
    refine B h λx14 cm h=>(X 5 2 (sO (cG [1] 2 1 (Ak cm) ⟨J,(Y 2 2 (TH h J (λou h=>?_) (λou h=>?_)))⟩)))
    .refine X 4 2 ?_;replace h:=mi h gZ;cases h;exact tD
    exact X 5 2 (lk h (wk [] [0,1] 2 J))
   refine X 1 2 ?_;replace h:=mi h gZ;refine X 5 2 (sQ (al TZ J (Y 3 2 (itr (λmu:Int=>mkA 131 [(3,.ptr 0 0),(5,.ptr 1 0),(10,.func 69 [.ptr 1 0]),(96,sL aC p2.Memory),(97,iI ((p2.Memory).length:Int)),(98,iI mu)]) (λmu=>[.box (aK p0),.box (bE p2)]) h (wk [] [0,1] 2 J) (λmu v_44 h tG=>?_)))));revert tG h;revert mu;intro s15 h tG;replace h:o8 p0 p2 s15=some v_44:=h;try dsimp only
   unfold o8 at h;refine X 5 2 (TH h J (λov h=>?_) (λov h=>?_))
   .refine B h λx17 cE h=>(X 5 2 (sQ (aG TZ (λ_=>J) J J cE (B h λx19 cU h=>(Y 8 2 (sO (cF (AD cU) ⟨J,(Y 7 3 (TH h J (λzt h=>?_) (λzt h=>?_)))⟩)))))))
    .refine X 5 3 ?_;replace h:=mi h tG;cases h;exact tD
    refine X 7 3 (sQ (al TN J (Y 2 3 (TH h J (λtH h=>?_) (λtH h=>?_)))))
    .refine X 4 3 ?_;replace h:=mi h tG;cases h;exact tD
    exact X 5 3 (lk h (wk [] [0,1] 3 J))
   refine X 1 2 ?_;replace h:=mi h tG;refine X 5 2 (sQ (al TN J (Y 3 2 (itr (λjZ:Int=>mkA 131 [(3,.ptr 0 0),(5,.ptr 1 0),(10,.func 69 [.ptr 1 0]),(115,sL ao p2.Choices),(116,iI ((p2.Choices).length:Int)),(117,iI jZ)]) (λjZ=>[.box (aK p0),.box (bE p2)]) h (wk [] [0,1] 2 J) (λjZ v_56 h wD=>?_)))));revert wD h;revert jZ;intro s20 h wD;replace h:pd p0 p2 s20=some v_56:=h;try dsimp only
   unfold pd at h;refine X 5 2 (TH h J (λQ2 h=>?_) (λQ2 h=>?_))
   .refine B h λx22 eQ h=>(X 5 2 (sQ (aG TN (λ_=>J) J J eQ (B h λx24 dK h=>(Y 8 2 (sO (cF (IC dK) ⟨J,(Y 2 3 (TH h J (λzp h=>?_) (λzp h=>?_)))⟩)))))))
    .refine X 4 3 ?_;replace h:=mi h wD;cases h;exact tD
    exact X 5 3 (lk h (wk [] [0,1] 3 J))
   refine X 1 2 ?_;replace h:=mi h wD;refine B h λx26 gH h=>(X 6 2 (sO (cG [1] 2 1 (Ak gH) ⟨J,(Y 2 2 (TH h J (λQ3 h=>?_) (λQ3 h=>?_)))⟩)))
   .refine X 4 2 ?_;cases h;exact tD
   refine X 5 2 ?_;cases h;exact tD
  refine X 4 2 (sQ (al TN J (Y 2 2 (gp 51 (λaN=>?_) (λaN=>?_)))))
  .refine Yp 6 2 ?_;rw[aN]at hK;exact sx hK
  refine Y 2 2 (yQ J (al TL J (Yp 3 2 ?_)));rw[aN]at hK;exact sx hK
 refine X 4 2 (sQ (al TK J (Y 1 2 (sQ (al TO J (Y 2 2 (gp 30 (λae=>?_) (λae=>?_))))))))
 .refine Yp 17 2 ?_;rw[ae]at hK;exact sx hK
 refine Y 2 2 (yQ J (al TO J (Yp 5 2 (gp 38 (λaq=>?_) (λaq=>?_)))))
 .refine Yp 9 2 ?_;rw[ae]at hK;rw[aq]at hK;exact sx hK
 refine Y 2 2 (yQ J (al TZ J (Y 2 2 (yQ J (al TJ J (Yp 3 2 ?_))))));rw[ae]at hK;rw[aq]at hK;exact sx hK
theorem nc {p0:Disk}(h:gN p0=some r):Fn QbP 45 [.agg (cw p0)] (iI r):=by
 unfold gN at h;refine fT 0 6 Tryz.func45 Tryz.ntmps45 J (j1 [(1,.ptr 0 0),(16,.bool ((decide (((p0.Sectors).length:Int)> 200))||decide (((p0.Wait).length:Int)> 300)))] [.box (cw p0)] ?_ (λhK=>?_))
 .refine TH h J (λae h=>?_) (λae h=>?_)
  .refine X 4 1 ?_;cases h;exact tD
  refine X 6 1 (sQ (al TW J (Y 3 1 (itr (λaU:Int=>mkA 48 [(1,.ptr 0 0),(18,sL aT p0.Sectors),(19,iI ((p0.Sectors).length:Int)),(20,iI aU)]) (λaU=>[.box (cw p0)]) h (wk [] [0] 1 J) (λaU v_8 h fF=>?_)))));revert fF h;revert aU;intro s2 h fF;replace h:kp p0 s2=some v_8:=h;try dsimp only
  unfold kp at h;refine X 5 1 (TH h J (λdP h=>?_) (λdP h=>?_))
  .refine B h λx4 hx4 h=>(X 5 1 (sQ (aG TW (λ_=>J) J J hx4 (Y 9 1 (TH h J (λeY h=>?_) (λeY h=>?_))))))
   .refine X 4 1 ?_;replace h:=mi h fF;cases h;exact tD
   exact X 5 1 (lk h (wk [] [0] 1 J))
  refine X 1 1 ?_;replace h:=mi h fF;refine X 5 1 (sQ (al T5 J (Y 3 1 (itr (λbn:Int=>mkA 48 [(29,sL be p0.Wait),(30,iI ((p0.Wait).length:Int)),(31,iI bn)]) (λbn=>[]) h (wk [] [] 1 J) (λbn v_22 h j6=>?_)))));revert j6 h;revert bn;intro s5 h j6;replace h:lE p0 s5=some v_22:=h;try dsimp only
  unfold lE at h;refine X 5 0 (TH h J (λzu h=>?_) (λzu h=>?_))
  .refine B h λx7 hx7 h=>(X 5 0 (sQ (aG T5 (λ_=>J) J J hx7 (Y 5 0 (j1 [(6,.ptr 0 0),(29,sL be p0.Wait),(30,iI ((p0.Wait).length:Int)),(31,iI s5),(42,.bool ((decide (x7.At<0))||decide (x7.At>=200)))] [.box (be x7)] ?_ (λhK=>?_))))))
   .refine TH h J (λQ4 h=>?_) (λQ4 h=>?_)
    .refine X 4 1 ?_;replace h:=mi h j6;cases h;exact tD
    refine X 8 1 (TH h J (λtF h=>?_) (λtF h=>?_))
    .refine X 4 1 ?_;replace h:=mi h j6;cases h;exact tD
    exact X 5 1 (lk h (wk [] [] 1 J))
   refine X 6 1 (gp 38 (λow=>?_) (λow=>?_))
   .refine Yp 5 1 ?_;rw[ow]at hK;exact sx hK
   refine Yp 5 1 ?_;rw[ow]at hK;exact sx hK
  refine X 1 0 ?_;replace h:=mi h j6;refine X 4 0 ?_;cases h;exact tD
 refine X 4 1 (sQ (al TW J (Y 2 1 (gp 11 (λah=>?_) (λah=>?_)))))
 .refine Yp 6 1 ?_;rw[ah]at hK;exact sx hK
 refine Y 2 1 (yQ J (al T5 J (Yp 3 1 ?_)));rw[ah]at hK;exact sx hK
theorem IW {p0:Shop}(h:rX p0=some r):Fn QbP 17 [.agg (fK p0)] (iI r):=by
 unfold rX at h;refine fT 0 0 Tryz.func17 Tryz.ntmps17 J ?_;refine B h λx2 hx2 h=>(X 14 0 (sO (cF (rM hx2) ⟨J,(Y 7 1 (TH h J (λah h=>?_) (λah h=>?_)))⟩)))
 .refine X 5 1 ?_;cases h;exact tD
 refine B h λx4 hx4 h=>(X 6 1 (sO (cF (nc hx4) ⟨J,(Y 7 1 (TH h J (λae h=>?_) (λae h=>?_)))⟩)))
 .refine X 5 1 ?_;cases h;exact tD
 refine X 2 1 (j1 [(1,.ptr 0 0),(73,.bool ((decide (p0.Safe<0))||((decide (p0.Safe> p0.Logged))||((decide (p0.Logged> ((p0.S.Choices).length:Int)))||((decide (p0.Epoch<0))||((decide (p0.Epoch> 200))||((decide (p0.Laid<(-1)))||((decide (p0.Laid> ((p0.S.Choices).length:Int)))||((decide (p0.Next<0))||decide (p0.Next> 80))))))))))] [.box (fK p0)] ?_ (λhK=>?_))
 .refine TH h J (λom h=>?_) (λom h=>?_)
  .refine X 4 1 ?_;cases h;exact tD
  refine X 6 1 (sQ (al TL J (Y 2 1 (TH h J (λgC h=>?_) (λgC h=>?_)))))
  .refine X 4 1 ?_;cases h;exact tD
  refine X 5 1 ?_;cases h;exact tD
 refine X 6 1 (gp 24 (λaq=>?_) (λaq=>?_))
 .refine Yp 50 1 ?_;rw[aq]at hK;exact sx hK
 refine Yp 7 1 (gp 31 (λaD=>?_) (λaD=>?_))
 .refine Yp 43 1 ?_;rw[aq]at hK;rw[aD]at hK;exact sx hK
 refine Y 5 1 (yQ J (al TN J (Yp 3 1 (gp 40 (λaN=>?_) (λaN=>?_)))))
 .refine Yp 34 1 ?_;rw[aq]at hK;rw[aD]at hK;rw[aN]at hK;exact sx hK
 refine Yp 5 1 (gp 45 (λaV=>?_) (λaV=>?_))
 .refine Yp 29 1 ?_;rw[aq]at hK;rw[aD]at hK;rw[aN]at hK;rw[aV]at hK;exact sx hK
 refine Yp 5 1 (gp 50 (λbH=>?_) (λbH=>?_))
 .refine Yp 24 1 ?_;rw[aq]at hK;rw[aD]at hK;rw[aN]at hK;rw[aV]at hK;rw[bH]at hK;exact sx hK
 refine Yp 5 1 (gp 55 (λbF=>?_) (λbF=>?_))
 .refine Yp 19 1 ?_;rw[aq]at hK;rw[aD]at hK;rw[aN]at hK;rw[aV]at hK;rw[bH]at hK;rw[bF]at hK;exact sx hK
 refine Y 5 1 (yQ J (al TN J (Yp 3 1 (gp 64 (λdP=>?_) (λdP=>?_)))))
 .refine Yp 10 1 ?_;rw[aq]at hK;rw[aD]at hK;rw[aN]at hK;rw[aV]at hK;rw[bH]at hK;rw[bF]at hK;rw[dP]at hK;exact sx hK
 refine Yp 5 1 (gp 69 (λeY=>?_) (λeY=>?_))
 .refine Yp 5 1 ?_;rw[aq]at hK;rw[aD]at hK;rw[aN]at hK;rw[aV]at hK;rw[bH]at hK;rw[bF]at hK;rw[dP]at hK;rw[eY]at hK;exact sx hK
 refine Yp 5 1 ?_;rw[aq]at hK;rw[aD]at hK;rw[aN]at hK;rw[aV]at hK;rw[bH]at hK;rw[bF]at hK;rw[dP]at hK;rw[eY]at hK;exact sx hK
theorem Hn {p0 r:U (U Item)}(h:uj p0=some r):FnO QbP 75 [.sl (List.map (ai aa) p0)] (.ref 0) [.arr 30 1 (List.map (ai aa) r)]:=by
 have hr:p0=r:=by
  unfold uj app at h;split at h
  .simpa using h
  .cases h
 refine iE (N:=0) J Tryz.func75 J (by kernel_rfl) Tryz.ntmps75 J ?_;show T _ _ _ _ (mkA 8 [(0,.sl (List.map (ai aa) p0))]) [];refine T.seq ?_;refine T.region ?_;refine RS.op J (TV J (cA (v:=.nils) J ?_));refine RS.nil ?_;refine T.seq ?_;refine T.seq ?_;refine T.region ?_;refine RS.op J (TV J (eE (v:=.sl (List.map (ai aa) p0)) J ?_));refine RS.op J (TV J (jN TO J J (λz hz=>?_)));refine RS.nil ?_;refine T.cond (b:=z) J (λhb=>?_) (λhb=>?_)
 .refine T.seq ?_;refine T.region ?_;refine RS.op J (TV J (cA (v:=.nils) J ?_));refine RS.nil ?_;refine T.ret ?_;refine eA (v:=.nils) J ?_;refine eu ?_;have h0:p0=[]:=Sq.1 (hz hb);exact eC (.ref 0) [(0,30,1)] [0] (by decide) (b8 _) J (bX J) (eD (en:=(ai aa)) (ys:=[]) J (nW fo) (by rw[<- hr,h0]) (au)) ⟨J,J⟩
 .refine T.skip ?_;refine T.seq ?_;refine T.region ?_;refine RS.op J (bi (rows:=List.map (ai aa) []) (vs:=[]) TO Ua J J J J J (aw':=[.arr 30 1 (List.map (ai aa) [])]) J ?_);refine RS.op J (TV J (eE (v:=.sl (List.map (ai aa) p0)) J ?_));refine RS.op J (bU (en:=(ai aa)) (xs:=([]:U (U Item))) (ys:=p0) (r:=r) TO (λ_=>J) J J J h J (aw':=[.dead,.arr 30 1 (List.map (ai aa) r)]) J ?_);refine RS.op J (TV J (cA (v:=.ref 1) J ?_));refine RS.nil ?_;refine T.ret ?_;refine eA (v:=.ref 1) J ?_;refine eu ?_;exact eC (.ref 0) [] [1] (by decide) (b8 _) J (bX J) (eD J (nW fo) J (au)) ⟨J,J⟩
theorem HI {p0 r:U Memory}(h:uw p0=some r):FnO QbP 76 [.sl (List.map aC p0)] (.ref 0) [.arr 133 3 (List.map aC r)]:=by
 have hr:p0=r:=by
  unfold uw app at h;split at h
  .simpa using h
  .cases h
 refine iE (N:=0) J Tryz.func76 J (by kernel_rfl) Tryz.ntmps76 J ?_;show T _ _ _ _ (mkA 8 [(0,.sl (List.map aC p0))]) [];refine T.seq ?_;refine T.region ?_;refine RS.op J (TV J (cA (v:=.nils) J ?_));refine RS.nil ?_;refine T.seq ?_;refine T.seq ?_;refine T.region ?_;refine RS.op J (TV J (eE (v:=.sl (List.map aC p0)) J ?_));refine RS.op J (TV J (jN TZ J J (λz hz=>?_)));refine RS.nil ?_;refine T.cond (b:=z) J (λhb=>?_) (λhb=>?_)
 .refine T.seq ?_;refine T.region ?_;refine RS.op J (TV J (cA (v:=.nils) J ?_));refine RS.nil ?_;refine T.ret ?_;refine eA (v:=.nils) J ?_;refine eu ?_;have h0:p0=[]:=Sq.1 (hz hb);exact eC (.ref 0) [(0,133,3)] [0] (by decide) (b8 _) J (bX J) (eD (en:=aC) (ys:=[]) J ne (by rw[<- hr,h0]) (au)) ⟨J,J⟩
 .refine T.skip ?_;refine T.seq ?_;refine T.region ?_;refine RS.op J (bi (rows:=List.map aC []) (vs:=[]) TZ Ud J J J J J (aw':=[.arr 133 3 (List.map aC [])]) J ?_);refine RS.op J (TV J (eE (v:=.sl (List.map aC p0)) J ?_));refine RS.op J (bU (en:=aC) (xs:=([]:U Memory)) (ys:=p0) (r:=r) TZ (λ_=>J) J J J h J (aw':=[.dead,.arr 133 3 (List.map aC r)]) J ?_);refine RS.op J (TV J (cA (v:=.ref 1) J ?_));refine RS.nil ?_;refine T.ret ?_;refine eA (v:=.ref 1) J ?_;refine eu ?_;exact eC (.ref 0) [] [1] (by decide) (b8 _) J (bX J) (eD J ne J (au)) ⟨J,J⟩
theorem HK {p0 r:U Keyed}(h:rf p0=some r):FnO QbP 109 [.sl (List.map aQ p0)] (.ref 0) [.arr 173 2 (List.map aQ r)]:=by
 have hr:p0=r:=by
  unfold rf app at h;split at h
  .simpa using h
  .cases h
 refine iE (N:=0) J Tryz.func109 J (by kernel_rfl) Tryz.ntmps109 J ?_;show T _ _ _ _ (mkA 8 [(0,.sl (List.map aQ p0))]) [];refine T.seq ?_;refine T.region ?_;refine RS.op J (TV J (cA (v:=.nils) J ?_));refine RS.nil ?_;refine T.seq ?_;refine T.seq ?_;refine T.region ?_;refine RS.op J (TV J (eE (v:=.sl (List.map aQ p0)) J ?_));refine RS.op J (TV J (jN TM J J (λz hz=>?_)));refine RS.nil ?_;refine T.cond (b:=z) J (λhb=>?_) (λhb=>?_)
 .refine T.seq ?_;refine T.region ?_;refine RS.op J (TV J (cA (v:=.nils) J ?_));refine RS.nil ?_;refine T.ret ?_;refine eA (v:=.nils) J ?_;refine eu ?_;have h0:p0=[]:=Sq.1 (hz hb);exact eC (.ref 0) [(0,173,2)] [0] (by decide) (b8 _) J (bX J) (eD (en:=aQ) (ys:=[]) J nw (by rw[<- hr,h0]) (au)) ⟨J,J⟩
 .refine T.skip ?_;refine T.seq ?_;refine T.region ?_;refine RS.op J (bi (rows:=List.map aQ []) (vs:=[]) TM Uq J J J J J (aw':=[.arr 173 2 (List.map aQ [])]) J ?_);refine RS.op J (TV J (eE (v:=.sl (List.map aQ p0)) J ?_));refine RS.op J (bU (en:=aQ) (xs:=([]:U Keyed)) (ys:=p0) (r:=r) TM (λ_=>J) J J J h J (aw':=[.dead,.arr 173 2 (List.map aQ r)]) J ?_);refine RS.op J (TV J (cA (v:=.ref 1) J ?_));refine RS.nil ?_;refine T.ret ?_;refine eA (v:=.ref 1) J ?_;refine eu ?_;exact eC (.ref 0) [] [1] (by decide) (b8 _) J (bX J) (eD J nw J (au)) ⟨J,J⟩
theorem xm {p0 r:Memory}(h:nu p0=some r):FnO QbP 77 [.agg (aC p0)] (.agg [iI r.Sum,.ref 0,iI r.Dep]) [aR 173 2 aQ r.Keys]:=by
 unfold nu at h;refine fT 0 0 Tryz.func77 Tryz.ntmps77 J ?_;refine B h λx2 hx2 h=>(X 9 0 (sO (cO 2 (HK hx2) ⟨J,(Y 8 3 ?_)⟩)))
 cases h;exact tO [] [2] 3
theorem HH {p0 r:U Choice}(h:ux p0=some r):FnO QbP 78 [.sl (List.map ao p0)] (.ref 0) [.arr 118 2 (List.map ao r)]:=by
 have hr:p0=r:=by
  unfold ux app at h;split at h
  .simpa using h
  .cases h
 refine iE (N:=0) J Tryz.func78 J (by kernel_rfl) Tryz.ntmps78 J ?_;show T _ _ _ _ (mkA 8 [(0,.sl (List.map ao p0))]) [];refine T.seq ?_;refine T.region ?_;refine RS.op J (TV J (cA (v:=.nils) J ?_));refine RS.nil ?_;refine T.seq ?_;refine T.seq ?_;refine T.region ?_;refine RS.op J (TV J (eE (v:=.sl (List.map ao p0)) J ?_));refine RS.op J (TV J (jN TN J J (λz hz=>?_)));refine RS.nil ?_;refine T.cond (b:=z) J (λhb=>?_) (λhb=>?_)
 .refine T.seq ?_;refine T.region ?_;refine RS.op J (TV J (cA (v:=.nils) J ?_));refine RS.nil ?_;refine T.ret ?_;refine eA (v:=.nils) J ?_;refine eu ?_;have h0:p0=[]:=Sq.1 (hz hb);exact eC (.ref 0) [(0,118,2)] [0] (by decide) (b8 _) J (bX J) (eD (en:=ao) (ys:=[]) J nq (by rw[<- hr,h0]) (au)) ⟨J,J⟩
 .refine T.skip ?_;refine T.seq ?_;refine T.region ?_;refine RS.op J (bi (rows:=List.map ao []) (vs:=[]) TN Ur J J J J J (aw':=[.arr 118 2 (List.map ao [])]) J ?_);refine RS.op J (TV J (eE (v:=.sl (List.map ao p0)) J ?_));refine RS.op J (bU (en:=ao) (xs:=([]:U Choice)) (ys:=p0) (r:=r) TN (λ_=>J) J J J h J (aw':=[.dead,.arr 118 2 (List.map ao r)]) J ?_);refine RS.op J (TV J (cA (v:=.ref 1) J ?_));refine RS.nil ?_;refine T.ret ?_;refine eA (v:=.ref 1) J ?_;refine eu ?_;exact eC (.ref 0) [] [1] (by decide) (b8 _) J (bX J) (eD J nq J (au)) ⟨J,J⟩
theorem xn {p0 r:State}(h:kC p0=some r):FnO QbP 35 [.agg (bE p0)] (.agg [.ref 0,.ref 1,.ref 2,.ref 3,.ref 4]) [aR 3 1 aj r.At,aR 30 1 (ai aa) r.Rings,aR 133 3 aC r.Memory,aR 118 2 ao r.Choices,aR 68 3 aa r.Out]:=by
 unfold kC at h;refine fT 0 0 Tryz.func35 Tryz.ntmps35 J ?_;refine B h λx2 hx2 h=>(X 9 0 (sO (cO 2 (fg hx2) ⟨J,(B h λx4 hx4 h=>(Y 7 3 (sO (cQ 3 (Hn hx4) ⟨J,(Y 8 4 (sQ (cn (en:=(ai aa)) TO J J (Y 3 4 (itr (λaU:Int×(U (U Item))=>mkA 60 [(1,.ptr 0 0),(2,.ptr 1 0),(15,iI ((x4).length:Int)),(16,iI aU.1)]) (λaU=>[.box [.ref 2,.ref 3,sL aC p0.Memory,sL ao p0.Choices,sL aa p0.Out],.box [.nils,.nils,.nils,.nils,.nils],aR 3 1 aj x2,aR 30 1 (ai aa) aU.2]) h (wk [] [0,1,2,3] 4 J) (λaU v_8 h fF=>?_))))))⟩))))⟩)))
 obtain⟨s5,s6⟩:=aU;replace h:lI p0 x2 x4 s5 s6=some v_8:=h;try dsimp only
 unfold lI at h;refine X 5 4 (TH h J (λdP h=>?_) (λdP h=>?_))
 .refine B h λx7 hx7 h=>(B h λx8 hx8 h=>(B h λx9 hx9 h=>(B h λx10 aY h=>(B h λx11 bw h=>(X 8 4 (T.drawn mixed (k:=11) J ?_))))))
  apply TG 1 (bm 11 1023);intro eg;apply TG 3 (bm 11 255);intro dX
  .refine rq [0,2,3,5] 7 (rL [4,6,7,8,9,10] 4 J (r0 6 J (aM (en:=(ai aa)) TO J J J hx7 (ra2 1 7 ?_ ?_))))
   .exact og 4 ⟨J,(ra1 7 (oO J (aO (en:=(ai aa)) (a:=x8) J J hx8 (aI T2 (c:=sL aa x8) J (raE dX)))))⟩
   .refine oO J (aO (en:=(ai aa)) (a:=x8) J J hx8 (aI T2 (c:=sL aa x8) J (ra2 1 8 ?_ ?_)))
    .exact og 4 ⟨J,(raT dX)⟩
    .exact oO J (cO 4 (iP hx9) ⟨J,(ra1 1 (og 5 ⟨J,(r0 9 J (aM (en:=(ai aa)) TO J J J aY (raE eg)))⟩))⟩)
  .exact ra1 8 (oO J (cO 4 (iP hx9) ⟨J,(r0 9 J (aM (en:=(ai aa)) TO J J J aY (raT eg)))⟩))
  exact ra1 10 (RO.fC 4 (oO J (e9 (en:=(ai aa)) (a:=x11) (a':=x9) Ut Uz J (vs:=[sL aa x9]) J J J bw J J J (RA.done (by decide+kernel) (X 4 5 (lk h (wk [] [0,1,2,3] 5 J)))))))
 refine X 1 4 ?_;replace h:=mi h fF;refine B h λx13 dc h=>(X 4 4 (sO (cQ 4 (HI dc) ⟨J,(Y 8 5 (sQ (cn (en:=aC) TZ J J (Y 3 5 (itr (λdU:Int×(U Memory)=>mkA 60 [(1,.ptr 0 0),(2,.ptr 1 0),(36,iI ((x13).length:Int)),(37,iI dU.1)]) (λdU=>[.box [.ref 2,.ref 3,.ref 4,sL ao p0.Choices,sL aa p0.Out],.box [.nils,.nils,.nils,.nils,.nils],aR 3 1 aj x2,aR 30 1 (ai aa) s6,aR 133 3 aC dU.2]) h (wk [] [0,1,2,3,4] 5 J) (λdU v_20 h zw=>?_))))))⟩)))
 obtain⟨s14,s15⟩:=dU;replace h:nb p0 x2 s6 x13 s14 s15=some v_20:=h;try dsimp only
 unfold nb at h;refine X 5 5 (TH h J (λtI h=>?_) (λtI h=>?_))
 .refine B h λx16 e6 h=>(B h λx17 cE h=>(B h λx18 cI h=>(B h λx19 cU h=>(B h λx20 ee h=>(X 8 5 (T.drawn mixed (k:=11) J ?_))))))
  apply TG 1 (bm 11 1023);intro tY;apply TG 3 (bm 11 255);intro fZ
  .refine rq [0,2,3,5] 7 (rL [4,6,7,8,9,10] 4 J (r0 6 J (aM (en:=aC) TZ J J J e6 (ra2 1 7 ?_ ?_))))
   .exact og 5 ⟨J,(ra1 7 (oO J (aO (en:=aC) (a:=x17) J J cE (eS Uo Uf J (cs:=(aC x17)) J (raE fZ)))))⟩
   .refine oO J (aO (en:=aC) (a:=x17) J J cE (eS Uo Uf J (cs:=(aC x17)) J (ra2 1 8 ?_ ?_)))
    .exact og 5 ⟨J,(raT fZ)⟩
    .exact oO J (cG [] 5 1 (TR (xm cI)) ⟨J,(ra1 1 (og 6 ⟨J,(r0 9 J (aM (en:=aC) TZ J J J cU (raE tY)))⟩))⟩)
  .exact ra1 8 (oO J (cG [] 5 1 (TR (xm cI)) ⟨J,(r0 9 J (aM (en:=aC) TZ J J J cU (raT tY)))⟩))
  exact ra1 10 (RO.fC 5 (oO J (e9 (en:=aC) (a:=x20) (a':=x18) Uf UG J (vs:=[iI x18.Sum,sL aQ x18.Keys,iI x18.Dep]) J J J ee J J J (RA.done (by decide+kernel) (X 4 6 (lk h (wk [] [0,1,2,3,4] 6 J)))))))
 refine X 1 5 ?_;replace h:=mi h zw;refine B h λx22 eQ h=>(X 4 5 (sO (cO 5 (HH eQ) ⟨J,(B h λx24 dK h=>(Y 7 6 (sO (cO 6 (iP dK) ⟨J,(Y 8 7 ?_)⟩))))⟩)))
 cases h;exact tO [] [2,3,4,5,6] 7
theorem ly {p0 r:U (U UInt8)}(h:mH p0=some r):FnO QbP 55 [.sl (List.map aT p0)] (.ref 0) [.arr 9 1 (List.map aT r)]:=by
 have hr:p0=r:=by
  unfold mH app at h;split at h
  .simpa using h
  .cases h
 refine iE (N:=0) J Tryz.func55 J (by kernel_rfl) Tryz.ntmps55 J ?_;show T _ _ _ _ (mkA 8 [(0,.sl (List.map aT p0))]) [];refine T.seq ?_;refine T.region ?_;refine RS.op J (TV J (cA (v:=.nils) J ?_));refine RS.nil ?_;refine T.seq ?_;refine T.seq ?_;refine T.region ?_;refine RS.op J (TV J (eE (v:=.sl (List.map aT p0)) J ?_));refine RS.op J (TV J (jN TW J J (λz hz=>?_)));refine RS.nil ?_;refine T.cond (b:=z) J (λhb=>?_) (λhb=>?_)
 .refine T.seq ?_;refine T.region ?_;refine RS.op J (TV J (cA (v:=.nils) J ?_));refine RS.nil ?_;refine T.ret ?_;refine eA (v:=.nils) J ?_;refine eu ?_;have h0:p0=[]:=Sq.1 (hz hb);exact eC (.ref 0) [(0,9,1)] [0] (by decide) (b8 _) J (bX J) (eD (en:=aT) (ys:=[]) J tq (by rw[<- hr,h0]) (au)) ⟨J,J⟩
 .refine T.skip ?_;refine T.seq ?_;refine T.region ?_;refine RS.op J (bi (rows:=List.map aT []) (vs:=[]) TW UQ J J J J J (aw':=[.arr 9 1 (List.map aT [])]) J ?_);refine RS.op J (TV J (eE (v:=.sl (List.map aT p0)) J ?_));refine RS.op J (bU (en:=aT) (xs:=([]:U (U UInt8))) (ys:=p0) (r:=r) TW (λ_=>J) J J J h J (aw':=[.dead,.arr 9 1 (List.map aT r)]) J ?_);refine RS.op J (TV J (cA (v:=.ref 1) J ?_));refine RS.nil ?_;refine T.ret ?_;refine eA (v:=.ref 1) J ?_;refine eu ?_;exact eC (.ref 0) [] [1] (by decide) (b8 _) J (bX J) (eD J tq J (au)) ⟨J,J⟩
theorem w4 {p0 r:U Write}(h:oT p0=some r):FnO QbP 56 [.sl (List.map be p0)] (.ref 0) [.arr 113 2 (List.map be r)]:=by
 have hr:p0=r:=by
  unfold oT app at h;split at h
  .simpa using h
  .cases h
 refine iE (N:=0) J Tryz.func56 J (by kernel_rfl) Tryz.ntmps56 J ?_;show T _ _ _ _ (mkA 8 [(0,.sl (List.map be p0))]) [];refine T.seq ?_;refine T.region ?_;refine RS.op J (TV J (cA (v:=.nils) J ?_));refine RS.nil ?_;refine T.seq ?_;refine T.seq ?_;refine T.region ?_;refine RS.op J (TV J (eE (v:=.sl (List.map be p0)) J ?_));refine RS.op J (TV J (jN T5 J J (λz hz=>?_)));refine RS.nil ?_;refine T.cond (b:=z) J (λhb=>?_) (λhb=>?_)
 .refine T.seq ?_;refine T.region ?_;refine RS.op J (TV J (cA (v:=.nils) J ?_));refine RS.nil ?_;refine T.ret ?_;refine eA (v:=.nils) J ?_;refine eu ?_;have h0:p0=[]:=Sq.1 (hz hb);exact eC (.ref 0) [(0,113,2)] [0] (by decide) (b8 _) J (bX J) (eD (en:=be) (ys:=[]) J pt (by rw[<- hr,h0]) (au)) ⟨J,J⟩
 .refine T.skip ?_;refine T.seq ?_;refine T.region ?_;refine RS.op J (bi (rows:=List.map be []) (vs:=[]) T5 Un J J J J J (aw':=[.arr 113 2 (List.map be [])]) J ?_);refine RS.op J (TV J (eE (v:=.sl (List.map be p0)) J ?_));refine RS.op J (bU (en:=be) (xs:=([]:U Write)) (ys:=p0) (r:=r) T5 (λ_=>J) J J J h J (aw':=[.dead,.arr 113 2 (List.map be r)]) J ?_);refine RS.op J (TV J (cA (v:=.ref 1) J ?_));refine RS.nil ?_;refine T.ret ?_;refine eA (v:=.ref 1) J ?_;refine eu ?_;exact eC (.ref 0) [] [1] (by decide) (b8 _) J (bX J) (eD J pt J (au)) ⟨J,J⟩
theorem mX {p0 r:Shop}(h:iT p0=some r):FnO QbP 25 [.agg (fK p0)] (.agg [sL an r.N.Nodes,iI r.N.Rings,iI r.N.Room,sL (ai aa) r.Items,sL aj r.S.At,sL (ai aa) r.S.Rings,sL aC r.S.Memory,sL ao r.S.Choices,sL aa r.S.Out,sL aT r.D.Sectors,sL be r.D.Wait,iI r.Logged,iI r.Safe,iI r.Epoch,iI r.Laid,iI r.Next,.ref 0,.bool r.Down]) [aR 68 3 aa r.Told]:=by
 unfold iT at h;refine fT 0 0 Tryz.func25 Tryz.ntmps25 J ?_;refine B h λx4 hx4 h=>(B h λx5 hx5 h=>(B h λx6 hx6 h=>(X 6 0 (T.drawn mixed (k:=15) J ?_))))
 apply TG 6 (bm 15 767);intro hS1;apply TG 7 (bm 15 735);intro hS2;apply TG 9 (bm 15 95);intro hS3;apply TG 9 (bm 15 219);intro hS4
 .refine rq [0,3,6] 12 (rL [1,2,5,8,9,10,11,12,13,14] 1 J (ra3 2 4 7 ?_ ?_ ?_))
  .exact oO J (cD (nz hx4) ⟨J,(rL [4,5,8,9,10,11,12,13,14] 4 J (raE hS3))⟩)
  .refine og 2 ⟨J,(ra2 2 7 ?_ ?_)⟩
   .exact oO J (cD (nz hx4) ⟨J,(raT hS3)⟩)
   .exact og 2 ⟨J,(raE hS4)⟩
  .refine og 2 ⟨J,(ra2 2 4 ?_ ?_)⟩
   .exact oO J (cD (nz hx4) ⟨J,(ra1 4 (og 2 ⟨J,(rq [9] 7 (raE hS2))⟩))⟩)
   .exact og 2 ⟨J,(raT hS4)⟩
 .exact ra1 2 (oO J (cD (nz hx4) ⟨J,(rq [9] 7 (raT hS2))⟩))
 .refine ra2 5 7 ?_ ?_
  .exact oO J (cQ 2 (uD hx5) ⟨J,(ra1 7 (og 3 ⟨J,(rq [9] 6 (raE hS1))⟩))⟩)
  .exact og 2 ⟨J,(rq [9] 7 (raT hS2))⟩
 .exact ra1 5 (oO J (cQ 2 (uD hx5) ⟨J,(raT hS1)⟩))
 refine ra1 8 (oO J (cG [] 3 5 (TR (xn hx6)) ⟨J,(ra1 10 (og 8 ⟨J,(rq [11] 3 (ra1 12 (og 8 ⟨J,(rq [13] 1 (ra1 14 (og 8 ⟨J,?_⟩)))⟩)))⟩))⟩));refine RA.done (by decide+kernel) (B h λx9 hx9 h=>(B h λx10 aY h=>(X 1 8 (T.drawn mixed (k:=11) J ?_))));apply TG 4 (bm 11 127);intro hS5
 .refine rq [0,1,4,5] 7 (rL [2,3,7,8,9,10] 2 J (ra2 3 6 ?_ ?_))
  .exact oO J (cO 8 (ly hx9) ⟨J,(ra1 6 (og 9 ⟨J,(raE hS5)⟩))⟩)
  .exact og 8 ⟨J,(ra1 3 (oO J (cO 8 (ly hx9) ⟨J,(raT hS5)⟩)))⟩
 refine ra1 7 (oO J (cO 9 (w4 aY) ⟨J,(rq [8,9] 1 (ra1 10 (og 10 ⟨J,(RA.done (by decide+kernel) (B h λx12 bx h=>(X 4 10 (sO (cO 10 (iP bx) ⟨J,(Y 8 11 ?_)⟩)))))⟩)))⟩));refine T.fC 2 (T.fC 3 (T.fC 4 (T.fC 5 (T.fC 6 (T.fC 7 (T.fC 8 (T.fC 9 ?_)))))));cases h;exact tO [] [10] 11
theorem xp {p3:Move}{r:Item×Bool}(h:pD p0 p1 p2 p3=some r):Fn QbP 101 [.agg (aK p0),sL (ai aa) p1,.agg (bE p2),.agg (aH p3)] (.tup [.agg (aa r.1),.bool r.2]):=by
 unfold pD at h;refine fT 0 0 Tryz.func101 Tryz.ntmps101 J ?_;refine B h λx2 hx2 h=>(X 14 0 (sQ (aG TJ (λ_=>J) J J hx2 (Y 11 4 (TH h J (λah h=>?_) (λah h=>?_))))))
 .refine B h λx5 hx5 h=>(B h λx6 hx6 h=>(X 2 5 (T.drawn mixed (k:=13) J (rq [0,2,6,7] 9 (rL [8,9,10,11,12] 8 J (r0 9 J (aG TO (λ_=>J) J J hx6 (rL [10,11,12] 10 J (r0 11 J (al TL J (rL [1,4,5,12] 1 J ?_)))))))))))
  refine ra1 3 (og 5 ⟨J,(r0 4 J (aG TK (λ_=>J) J J hx5 (ra1 5 (og 5 ⟨J,(rq [12] 0 (RA.done (by decide+kernel) (TH h J (λae h=>?_) (λae h=>?_))))⟩))))⟩)
  .refine X 6 5 ?_;cases h;exact tD
  refine B h λx10 aY h=>(B h λx11 bw h=>(B h λx12 bx h=>(X 2 5 (T.drawn mixed (k:=15) J (rq [0,1,5,7] 11 (rL [2,3,4,11,12,13,14] 2 J (r0 3 J (aG TO (λ_=>J) J J aY (rL [4,11,12,13,14] 4 J (rL [6,9,10,11,12,13,14] 6 J ?_))))))))))
  refine ra1 8 (og 5 ⟨J,(r0 9 J (aG TK (λ_=>J) J J bw (ra1 10 (og 5 ⟨J,(r0 11 J (aG TL (λ_=>J) J J bx (ra1 12 (og 5 ⟨J,(ra1 13 (og 5 ⟨J,?_⟩))⟩))))⟩))))⟩);refine rq [14] 0 (RA.done (by decide+kernel) ?_);cases h;exact tD
 refine B h λx15 dY h=>(B h λx16 e6 h=>(X 2 5 (T.drawn mixed (k:=11) J (rq [0,2,4] 8 (rL [1,8,9,10] 1 J (rL [3,6,7,8,9,10] 3 J (ra1 5 (og 5 ⟨J,(r0 6 J (aG TK (λ_=>J) J J dY ?_))⟩))))))))
 refine ra1 7 (og 5 ⟨J,(r0 8 J (aG TO (λ_=>J) J J e6 (ra1 9 (og 5 ⟨J,(rq [10] 0 (RA.done (by decide+kernel) (X 4 5 (sQ (al TL J (Y 2 5 ?_))))))⟩))))⟩);refine TH h J (λaq h=>?_) (λaq h=>?_)
 .refine X 6 5 ?_;cases h;exact tD
 refine B h λx18 cI h=>(X 4 5 (sQ (aG TL (λ_=>J) J J cI (Y 4 5 ?_))))
 cases h;exact tD
theorem IY {p0:Item}{p1:Int}{r:Int×Int}(h:r9 p0 p1=some r):Fn QbP 132 [.agg (aa p0),iI p1] (.tup [iI r.1,iI r.2]):=by
 unfold r9 at h;refine fT 0 7 Tryz.func132 Tryz.ntmps132 J (j1 [(1,iI p1),(2,.ptr 0 0),(11,.bool ((decide (p1<1))||decide (p1> 16)))] [.box (aa p0)] ?_ (λhK=>?_))
 .refine TH h J (λae h=>?_) (λae h=>?_)
  .refine X 5 1 ?_;cases h;exact tD
  refine B h λx4 hx4 h=>(B h λx5 hx5 h=>(X 6 1 (sQ (jh J J hx4 (Y 3 1 (sQ (jh J J hx5 (Y 3 1 ?_))))))))
  cases h;exact tD
 refine X 5 1 (gp 8 (λah=>?_) (λah=>?_))
 .refine Yp 4 1 ?_;rw[ah]at hK;exact sx hK
 refine Yp 4 1 ?_;rw[ah]at hK;exact sx hK
theorem AY {p0:Node}{p1:Item}{r:U Int}(h:pK p0 p1=some r):Fn QbP 103 [.agg (an p0),.agg (aa p1)] (sL aj r):=by
 unfold pK at h;refine fT 0 13 Tryz.func103 Tryz.ntmps103 J (TH h J (λah h=>?_) (λah h=>?_))
 .refine X 6 2 ?_;cases h;exact tD
 refine B h λx2 hx2 h=>(X 6 2 (sQ (al TK J (sO (cF (IY hx2) ⟨J,(B h λx4 hx4 h=>(Y 13 2 (sO (nA TK (λ_=>J) J J J hx4 (Y 2 2 ?_)))))⟩)))))
 cases h;exact tD
theorem HW {p0:Int}{p1:U Int}{p2:U (U Item)}{r:Bool}(h:uF p0 p1 p2 p3 p4 p5 p6 p7 p8=some r):FnX QbP 104 [iI p0,.ptr 0 0,.ptr 1 0] [.box [sL aj p1,sL (ai aa) p2,sL aC p3,sL ao p4,sL aa p5],.box [sL an p6,iI p7,iI p8]] (.bool r) [.box [sL aj p1,sL (ai aa) p2,sL aC p3,sL ao p4,sL aa p5],.box [sL an p6,iI p7,iI p8]]:=by
 unfold uF at h;refine fT 2 0 Tryz.func104 Tryz.ntmps104 J ?_;refine B h λx2 hx2 h=>(X 5 2 (T.drawn mixed (k:=10) J (rq [0,2,6] 7 (rL [1,3,4,5,8,9] 1 J (r0 3 J (aG TO (λ_=>J) J J hx2 (rL [4,5,8,9] 4 J (r0 5 J (al TL J (ra1 7 (og 2 ⟨J,?_⟩)))))))))))
 refine rq [8,9] 0 (RA.done (by decide+kernel) ?_);cases h;exact tN [0,1]
theorem Hx {p0 p1:U Int}{p2:U (U Item)}(h:ur p0 p1 p2 p3 p4 p5 p6 p7 p8=some r):FnX QbP 131 [sL aj p0,.func 104 [.ptr 0 0,.ptr 1 0]] [.box [sL aj p1,sL (ai aa) p2,sL aC p3,sL ao p4,sL aa p5],.box [sL an p6,iI p7,iI p8]] (iI r) [.box [sL aj p1,sL (ai aa) p2,sL aC p3,sL ao p4,sL aa p5],.box [sL an p6,iI p7,iI p8]]:=by
 unfold ur at h;refine fT 2 8 Tryz.func131 Tryz.ntmps131 J (sQ (al TK J (Y 3 2 (itr (λak:Int=>mkA 19 [(0,sL aj p0),(1,.func 104 [.ptr 0 0,.ptr 1 0]),(7,iI ((p0).length:Int)),(8,iI ak)]) (λak=>[.box [sL aj p1,sL (ai aa) p2,sL aC p3,sL ao p4,sL aa p5],.box [sL an p6,iI p7,iI p8]]) h (wk [] [0,1] 2 J) (λak v_6 h bg=>?_)))));revert bg h;revert ak;intro s1 h bg;replace h:qZ p0 p1 p2 p3 p4 p5 p6 p7 p8 s1=some v_6:=h;try dsimp only
 unfold qZ at h;refine X 5 2 (TH h J (λbH h=>?_) (λbH h=>?_))
 .refine B h λx4 hx4 h=>(B h λx5 hx5 h=>(X 13 2 (sQ (aG TK (λ_=>J) J J hx4 (Y 1 2 (sO (cG [0,1] 2 2 (HW hx5) ⟨J,(Y 1 2 (TH h J (λbF h=>?_) (λbF h=>?_)))⟩)))))))
  .refine X 5 2 ?_;replace h:=mi h bg;cases h;exact tN [0,1]
  exact X 5 2 (lk h (wk [] [0,1] 2 J))
 refine X 1 2 ?_;replace h:=mi h bg;refine X 4 2 ?_;cases h;exact tN [0,1]
theorem Hp {p0 p1:U Int}{p2:U (U Item)}{r:Bool}(h:qY p0 p1 p2 p3 p4 p5 p6 p7 p8=some r):FnX QbP 102 [sL aj p0,.func 104 [.ptr 0 0,.ptr 1 0]] [.box [sL aj p1,sL (ai aa) p2,sL aC p3,sL ao p4,sL aa p5],.box [sL an p6,iI p7,iI p8]] (.bool r) [.box [sL aj p1,sL (ai aa) p2,sL aC p3,sL ao p4,sL aa p5],.box [sL an p6,iI p7,iI p8]]:=by
 unfold qY at h;refine fT 2 0 Tryz.func102 Tryz.ntmps102 J ?_;refine B h λx2 hx2 h=>(X 8 2 (sO (cG [0,1] 2 2 (Hx hx2) ⟨J,(Y 3 2 ?_)⟩)))
 cases h;exact tN [0,1]
theorem H3 {p0:Item}(h:xe p0=some r):Fn QbP 156 [.agg (aa p0)] (iI r):=by unfold xe at h;refine fT 0 12 Tryz.func156 Tryz.ntmps156 J ?_;cases h;exact tD
theorem H4 {p0:Item}(h:xd p0=some r):Fn QbP 157 [.agg (aa p0)] (iI r):=by unfold xd at h;refine fT 0 12 Tryz.func157 Tryz.ntmps157 J ?_;cases h;exact tD
theorem H7 {p0:Item}(h:w9 p0=some r):Fn QbP 158 [.agg (aa p0)] (iI r):=by unfold w9 at h;refine fT 0 12 Tryz.func158 Tryz.ntmps158 J ?_;cases h;exact tD
theorem Ia {p0:Item}(h:xa p0=some r):Fn QbP 159 [.agg (aa p0)] (iI r):=by unfold xa at h;refine fT 0 14 Tryz.func159 Tryz.ntmps159 J ?_;cases h;exact tD
theorem AB {p0:Int}{p1 r:Item}(h:xj p0 p1=some r):Fn QbP 133 [iI p0,.agg (aa p1)] (.agg (aa r)):=by
 unfold xj at h;refine fT 0 7 Tryz.func133 Tryz.ntmps133 J (sQ (E7 (cs:=[.func 156 [],.func 157 [],.func 158 [],.func 159 []]) Vb Vd J (Y 3 2 ?_)));obtain⟨tZ,hz,h⟩:=bind_some h;revert hz h;revert tZ;intro c6 hz h;refine j1 [(3,.ptr 0 0),(4,.ptr 1 0)] [.box [iI p1.Key,iI c6,iI p1.Dep],.box [iI 0,iI 0,iI 0]] ?_ (λhK=>?_)
 .refine X 5 2 ?_;cases h;exact tD
 refine X 1 3 ?_;rcases bC (p0==0)with ah|ah
 .replace hz:=cb hz ah;refine B hz λx1 hx1 hz=>(T.drawn mixed (k:=7) J (rq [0] 6 (r0 1 J (uQ (q:=0) Wn Ux Uw J J (by simpa using ah) J J (off':=0) J (rL [2,4,5,6] 2 J (ra1 3 (og 3 ⟨J,(ra1 4 (oO J (cF (H3 hx1) ⟨J,(rq [5] 1 ?_)⟩)))⟩)))))))
  exact ra1 6 (og 3 ⟨J,(RA.done (by decide+kernel) (T.weakR hK (TS [] [0,1] (by decide) (b8 _) J ⟨am J,am J,tqz⟩ (aA (cs:=[iI p1.Key,iI c6,iI p1.Dep]) (ds:=[iI p1.Key,iI x1,iI p1.Dep]) J ⟨cS J,cS ((congrArg (λp=>p) (RR hz)).symm),cS J,tqz⟩ (eV [iI 0,iI 0,iI 0] J (au))))))⟩)
 replace hz:=cg hz ah;rcases bC (p0==1)with ae|ae
 .replace hz:=cb hz ae;refine B hz λx2 hx2 hz=>(T.drawn mixed (k:=7) J (rq [0] 6 (r0 1 J (uQ (q:=1) Wn Ux Uw J J (by simpa using ae) J J (off':=1) J (rL [2,4,5,6] 2 J (ra1 3 (og 3 ⟨J,(ra1 4 (oO J (cF (H4 hx2) ⟨J,(rq [5] 1 ?_)⟩)))⟩)))))))
  exact ra1 6 (og 3 ⟨J,(RA.done (by decide+kernel) (T.weakR hK (TS [] [0,1] (by decide) (b8 _) J ⟨am J,am J,tqz⟩ (aA (cs:=[iI p1.Key,iI c6,iI p1.Dep]) (ds:=[iI p1.Key,iI x2,iI p1.Dep]) J ⟨cS J,cS ((congrArg (λp=>p) (RR hz)).symm),cS J,tqz⟩ (eV [iI 0,iI 0,iI 0] J (au))))))⟩)
 replace hz:=cg hz ae;rcases bC (p0==2)with aq|aq
 .replace hz:=cb hz aq;refine B hz λx3 hx3 hz=>(T.drawn mixed (k:=7) J (rq [0] 6 (r0 1 J (uQ (q:=2) Wn Ux Uw J J (by simpa using aq) J J (off':=2) J (rL [2,4,5,6] 2 J (ra1 3 (og 3 ⟨J,(ra1 4 (oO J (cF (H7 hx3) ⟨J,(rq [5] 1 ?_)⟩)))⟩)))))))
  exact ra1 6 (og 3 ⟨J,(RA.done (by decide+kernel) (T.weakR hK (TS [] [0,1] (by decide) (b8 _) J ⟨am J,am J,tqz⟩ (aA (cs:=[iI p1.Key,iI c6,iI p1.Dep]) (ds:=[iI p1.Key,iI x3,iI p1.Dep]) J ⟨cS J,cS ((congrArg (λp=>p) (RR hz)).symm),cS J,tqz⟩ (eV [iI 0,iI 0,iI 0] J (au))))))⟩)
 replace hz:=cg hz aq;refine B hz λx4 hx4 hz=>(B hz λx5 hx5 hz=>(T.drawn mixed (k:=7) J (rq [0] 6 (r0 1 J (uQ (q:=3) Wn Ux Uw J J (KB hx4) J J (off':=3) J (rL [2,4,5,6] 2 J (ra1 3 (og 3 ⟨J,(ra1 4 (oO J (cF (Ia hx5) ⟨J,?_⟩)))⟩))))))))
 exact rq [5] 1 (ra1 6 (og 3 ⟨J,(RA.done (by decide+kernel) (T.weakR hK (TS [] [0,1] (by decide) (b8 _) J ⟨am J,am J,tqz⟩ (aA (cs:=[iI p1.Key,iI c6,iI p1.Dep]) (ds:=[iI p1.Key,iI x5,iI p1.Dep]) J ⟨cS J,cS ((congrArg (λp=>p) (RR hz)).symm),cS J,tqz⟩ (eV [iI 0,iI 0,iI 0] J (au))))))⟩))
theorem Ax {p0:Keyed}{p1:Int}(h:pk p0 p1=some r):Fn QbP 135 [.agg (aQ p0),iI p1] (iI r):=by
 unfold pk at h;refine fT 0 15 Tryz.func135 Tryz.ntmps135 J (TH h J (λah h=>?_) (λah h=>?_))
 .refine X 4 1 ?_;cases h;exact tD
 refine X 8 1 (TH h J (λae h=>?_) (λae h=>?_))
 .refine X 4 1 ?_;cases h;exact tD
 refine X 5 1 ?_;cases h;exact tD
theorem Hm {p0:U Keyed}{p1:Int}{r:Int×Bool}(h:qU p0 p1=some r):Fn QbP 134 [sL aQ p0,iI p1,.func 135 []] (.tup [iI r.1,.bool r.2]):=by
 unfold qU at h;refine fT 0 8 Tryz.func134 Tryz.ntmps134 J (sQ (al TM J (Y 10 0 (itr (λak:Int×Int=>mkA 49 [(0,sL aQ p0),(1,iI p1),(2,.func 135 []),(8,iI ((p0).length:Int)),(9,iI ak.1),(10,iI ak.2)]) (λak=>[]) h (wk [] [] 0 J) (λak v_6 h bg=>?_)))));obtain⟨s1,s2⟩:=ak;replace h:qT p0 p1 s1 s2=some v_6:=h;try dsimp only
 unfold qT at h;refine X 7 0 (TH h J (λbH h=>?_) (λbH h=>?_))
 .refine B h λx4 hx4 h=>(X 8 0 (sQ (jf J J hx4 (B h λx7 hx7 h=>(B h λx8 hx8 h=>(Y 8 0 (sQ (aG TM (λ_=>J) J J hx7 (Y 2 0 (sO (cF (Ax hx8) ⟨J,(Y 2 0 ?_)⟩)))))))))))
  refine TH h J (λbF h=>?_) (λbF h=>?_)
  .exact X 5 0 (lk h (wk [] [] 0 J))
  exact X 4 0 (lk h (wk [] [] 0 J))
 refine X 1 0 ?_;replace h:=mi h bg;obtain⟨zx,hz,h⟩:=bind_some h;revert hz h;revert zx;intro c11 hz h;refine j1 [(6,iI s1),(7,.bool c11)] [] ?_ (λhK=>?_)
 .cases h;exact tD
 refine X 7 0 (gi 39 hz (λeY hz=>?_) (λeY hz=>?_))
 .refine B hz λx9 hx9 hz=>(B hz λx10 aY hz=>(Y 3 0 (yQ J (aG TM (λ_=>J) J J hx9 (Y 2 0 (yO J (cF (Ax aY) ⟨J,(Yp 5 0 ?_)⟩)))))))
  cases hz;exact sx hK
 refine Yp 12 0 ?_;cases hz;exact sx hK
theorem Hz {p0:Int}{p1 p2 r:U Keyed}(h:q8 p0 p1 p2=some r):FnX QbP 136 [.ref 0,iI p0,.ref 1] [aR 173 2 aQ p1,aR 173 2 aQ p2] (.ref 2) [.dead,.dead,aR 173 2 aQ r]:=by
 unfold q8 at h;refine fT 2 0 Tryz.func136 Tryz.ntmps136 J ?_;refine US 0 0 J J J J (UV 0 2 (xs:=p1) J J (λC hC=>?_));have h:=K8 h C hC;unfold wZ at h;refine B h λx2 hx2 h=>(X 8 3 (sO (uY TM J J J hx2 (Y 4 3 (sQ (cn (en:=aQ) TM J J (Y 8 3 (TH h J (λah h=>?_) (λah h=>?_)))))))))
 .cases h
 refine X 4 3 (sO (CR TM J (Y 9 3 (TH h J (λae h=>?_) (λae h=>?_)))))
 .refine B h λx4 hx4 h=>(X 4 3 (sO (LE (en:=aQ) (xs:=p1) (ys:=p2) TM (λ_=>J) J J J J J J hx4 J J (Y 2 4 ?_))))
  cases h;exact tO [] [0,1,3] 4
 refine X 8 3 (sO (Mb TM J (Y 2 3 (TH h J (λaq h=>?_) (λaq h=>?_)))))
 .refine B h λx7 hx7 h=>(B h λx8 hx8 h=>(X 4 3 (sO (JG TM J J hx7 (Y 5 3 (sO (LP (en:=aQ) (z0:=(⟨0,0⟩:Keyed)) (xs:=p1) TM Wf Uq (λ_=>J) J J J hx8 J J (B h λx11 bw h=>(B h λx12 bx h=>(Y 6 4 (sO (iV (en:=aQ) (xs:=x8) TM J J J J bw ?_))))))))))))
  refine Y 1 4 (sO (Cw (en:=aQ) (xs:=x8) (ys:=p2) TM (λ_=>J) J J J J bx J (B h λx17 cE h=>(B h λx18 cI h=>(B h λx19 cU h=>(B h λx20 ee h=>(Y 2 4 (T.drawn mixed (k:=9) J ?_))))))));apply TG 1 (bm 9 255);intro hS4
  .refine rq [0,1,2,3,5,6] 3 (ra2 4 7 ?_ ?_)
   .exact oO J (iV (en:=aQ) (xs:=(cpy x8 ((p0).toNat) ((((x8).length:Int)).toNat- (p0).toNat) p2)) TM J J J J cE (ra1 7 (oO J (uY TM J J J cI (raE hS4)))))
   .exact oO J (uY TM J J J cI (ra1 4 (oO J (iV (en:=aQ) (xs:=(cpy x8 ((p0).toNat) ((((x8).length:Int)).toNat- (p0).toNat) p2)) TM J J J J cE (raT hS4)))))
  refine ra1 8 (oO J (Lf (en:=aQ) (xs:=(cpy x8 ((p0).toNat) ((((x8).length:Int)).toNat- (p0).toNat) p2)) (ys:=p1) TM (λ_=>J) J J J J cU ee J (RA.done (by decide+kernel) (X 5 4 ?_))));cases h;exact tO [] [0,1,3] 4
 refine B h λx22 eQ h=>(X 7 3 (sO (Px (en:=aQ) (xs:=p1) TM J J J J eQ J J (B h λx25 jp h=>(B h λx26 gH h=>(Y 10 4 (sO (sw (en:=aQ) (xs:=p1) TM J J J J jp (sO (JK (fn:=Tryz.f160) (tS:=131) (tR:=4) (en:=aQ) (xs:=p1) (ys:=p2) Tryz.func160 (by kernel_rfl) (by kernel_rfl) (by kernel_rfl) (by kernel_rfl) TM J J J J gH (B h λx30 iq h=>(B h λx31 ll h=>?_))))))))))))
 refine B h λx32 lm h=>(Y 4 4 (T.drawn mixed (k:=9) J ?_))
 apply TG 1 (bm 9 255);intro hS5
 .refine rq [0,1,2,3,5,6] 3 (ra2 4 7 ?_ ?_)
  .exact oO J (sw (en:=aQ) (xs:=p1) TM J J J J iq (ra1 7 (oO J (sw (en:=aQ) (xs:=p1) TM J J J J ll (raE hS5)))))
  .exact oO J (sw (en:=aQ) (xs:=p1) TM J J J J ll (ra1 4 (oO J (sw (en:=aQ) (xs:=p1) TM J J J J iq (raT hS5)))))
 refine ra1 8 (oO J (Mt (en:=aQ) (xs:=p1) TM (λ_=>J) J J J lm J (RA.done (by decide+kernel) (B h λx35 tQ h=>(B h λx36 zC h=>(X 4 4 (sO (iV (en:=aQ) (xs:=x32) TM J J J J tQ (Y 1 4 (sO (Cw (en:=aQ) (xs:=x32) (ys:=p2) TM (λ_=>J) J J J J zC J (Y 6 4 ?_))))))))))));cases h;exact tO [] [0,1,3] 4
theorem lG {p0 p1:Int}{p2:Memory}{p3:Item}{r:Memory×Item×Int}(h:kx p0 p1 p2 p3=some r):Fn QbP 105 [iI p0,iI p1,.agg (aC p2),.agg (aa p3)] (.tup [.agg (aC r.1),.agg (aa r.2.1),iI r.2.2]):=by
 unfold kx at h;refine fT 0 0 Tryz.func105 Tryz.ntmps105 J ?_;refine B h λx2 hx2 h=>(X 12 0 (sO (cF (AD hx2) ⟨J,(Y 7 4 (TH h J (λah h=>?_) (λah h=>?_)))⟩)))
 .refine X 9 4 ?_;cases h;exact tD
 refine X 8 4 (TH h J (λae h=>?_) (λae h=>?_))
 .refine X 8 4 ?_;cases h;exact tD
 refine B h λx4 hx4 h=>(X 4 4 (sO (cG [] 4 1 (TR (xm hx4)) ⟨J,(Y 13 5 (TH h J (λaq h=>?_) (λaq h=>?_)))⟩)))
 .refine X 1 5 (j1 [(1,iI p1),(6,.ptr 0 0),(7,.ptr 1 0),(8,.ptr 2 0),(9,.ptr 3 0),(36,.bool ((decide (p1<0))||decide (p1> 3)))] [.box [iI x4.Sum,.ref 4,iI x4.Dep],.box (aa p3),.box [iI 0,.nils,iI 0],.box [iI 0,iI 0,iI 0],aR 173 2 aQ x4.Keys] ?_ (λhK=>?_))
  .refine TH h J (λaN h=>?_) (λaN h=>?_)
   .refine X 8 5 ?_;cases h;exact tD
   refine B h λx7 hx7 h=>(X 2 5 (T.drawn mixed (k:=7) J ?_))
   apply TG 3 (bm 7 15);intro hS6
   .refine rq [1] 6 (rL [2,3,4,5,6] 2 J (ra2 0 3 ?_ ?_))
    .exact og 5 ⟨J,(ra1 3 (oO J (cF (AB hx7) ⟨J,(raE hS6)⟩)))⟩
    .exact oO J (cF (AB hx7) ⟨J,(ra1 0 (og 5 ⟨J,(raT hS6)⟩))⟩)
   refine ra1 4 (og 5 ⟨J,(ra1 5 (og 5 ⟨J,(rq [6] 0 (RA.done (by decide+kernel) ?_))⟩))⟩);cases h;exact tD
  refine X 5 5 (gp 33 (λaD=>?_) (λaD=>?_))
  .refine Yp 4 5 ?_;rw[aD]at hK;exact sx hK
  refine Yp 4 5 ?_;rw[aD]at hK;exact sx hK
 refine X 5 5 (TH h J (λbH h=>?_) (λbH h=>?_))
 .refine X 21 5 (T.drawn mixed (k:=11) J ?_);apply TG 2 (bm 11 511);intro hS8;apply TG 3 (bm 11 255);intro hS9;apply TG 4 (bm 11 319);intro eg;apply TG 4 (bm 11 367);intro dX;apply TG 5 (bm 11 111);intro g9;apply TG 5 (bm 11 123);intro jq;apply TG 5 (bm 11 63);intro mC
  .refine rq [1,3,5] 8 (rL [0,8,9,10] 0 J (ra4 2 4 6 8 ?_ ?_ ?_ ?_))
   .refine og 5 ⟨J,(ra3 4 6 8 ?_ ?_ ?_)⟩
    .exact og 5 ⟨J,(raE mC)⟩
    .exact og 5 ⟨J,(raE g9)⟩
    .exact og 5 ⟨J,(rL [4,7,9,10] 4 J (raE eg))⟩
   .refine og 5 ⟨J,(ra3 2 6 8 ?_ ?_ ?_)⟩
    .exact og 5 ⟨J,(raT mC)⟩
    .exact og 5 ⟨J,(raE jq)⟩
    .exact og 5 ⟨J,(rL [2,7,9,10] 2 J (raT eg))⟩
   .refine og 5 ⟨J,(ra3 2 4 8 ?_ ?_ ?_)⟩
    .exact og 5 ⟨J,(raT g9)⟩
    .exact og 5 ⟨J,(raT jq)⟩
    .exact og 5 ⟨J,(rL [2,7,9,10] 2 J (raE dX))⟩
   .exact og 5 ⟨J,(rL [2,7,9,10] 2 J (rL [4,7,9,10] 4 J (raT eg)))⟩
  .refine ra2 6 8 ?_ ?_
   .exact og 5 ⟨J,(rq [7] 3 (raE hS9))⟩
   .exact og 5 ⟨J,(raT eg)⟩
  .refine ra2 2 8 ?_ ?_
   .exact og 5 ⟨J,(rq [7] 3 (raT hS9))⟩
   .exact og 5 ⟨J,(ra1 2 (og 5 ⟨J,(rq [7] 2 (raE hS8))⟩))⟩
  .refine ra2 4 8 ?_ ?_
   .exact og 5 ⟨J,(rq [7] 3 (raT hS9))⟩
   .exact og 5 ⟨J,(raT dX)⟩
  .exact ra1 4 (og 5 ⟨J,(rq [7] 2 (raT hS8))⟩)
  .exact ra1 6 (og 5 ⟨J,(rq [7] 2 (raT hS8))⟩)
  .exact ra1 8 (og 5 ⟨J,(raT hS8)⟩)
  refine ra1 9 (og 5 ⟨J,(rq [10] 0 (RA.done (by decide+kernel) ?_))⟩);cases h;exact tD
 refine X 5 5 (TH h J (λfY h=>?_) (λfY h=>?_))
 .refine B h λx9 hx9 h=>(X 6 5 (sO (cF (Hm hx9) ⟨J,(Y 17 5 (j1 [(6,.ptr 0 0),(7,.ptr 1 0),(8,.ptr 2 0),(9,.ptr 3 0),(12,iI x9.1),(13,.bool x9.2),(88,.bool ((!x9.2)&&((x4.Keys).length:Int)==6))] [.box [iI x4.Sum,.ref 4,iI (if p3.Dep> x4.Dep then p3.Dep else x4.Dep)],.box (aa p3),.box [iI 0,.nils,iI 0],.box [iI 0,iI 0,iI 0],aR 173 2 aQ x4.Keys] ?_ (λhK=>?_)))⟩)))
  .refine TH h J (λgE h=>?_) (λgE h=>?_)
   .refine X 1 5 (T.drawn mixed (k:=9) J ?_);apply TG 2 (bm 9 127);intro qG;apply TG 3 (bm 9 63);intro t6;apply TG 4 (bm 9 79);intro t7
    .refine rq [1,3] 7 (rL [0,6,7,8] 0 J (ra3 2 4 6 ?_ ?_ ?_))
     .refine og 5 ⟨J,(ra2 4 6 ?_ ?_)⟩
      .exact og 5 ⟨J,(rq [5] 3 (raE t6))⟩
      .exact og 5 ⟨J,(raE t7)⟩
     .refine og 5 ⟨J,(ra2 2 6 ?_ ?_)⟩
      .exact og 5 ⟨J,(rq [5] 3 (raT t6))⟩
      .exact og 5 ⟨J,(ra1 2 (og 5 ⟨J,(rq [5] 2 (raE qG))⟩))⟩
     .exact og 5 ⟨J,(rL [2,5,7,8] 2 J (raT t7))⟩
    .exact ra1 4 (og 5 ⟨J,(rq [5] 2 (raT qG))⟩)
    .exact ra1 6 (og 5 ⟨J,(raT qG)⟩)
    refine ra1 7 (og 5 ⟨J,(rq [8] 0 (RA.done (by decide+kernel) ?_))⟩);cases h;exact tD
   refine X 1 5 (jn (Z:=U Keyed) (λqx=>mkA 137 [(6,.ptr 0 0),(7,.ptr 1 0),(8,.ptr 2 0),(9,.ptr 3 0),(12,iI x9.1)]) (λqx=>[.box [iI x4.Sum,.ref 4,iI (if p3.Dep> x4.Dep then p3.Dep else x4.Dep)],.box (aa p3),.box [iI 0,.nils,iI 0],.box [iI 0,iI 0,iI 0],aR 173 2 aQ qx]) (λqx=>mZ p3 x4 x9 qx=some r) (λqx h=>?_) (λhK1=>?_))
   .revert h;revert qx;intro z12 h;replace h:mZ p3 x4 x9 z12=some r:=h;try dsimp only
    unfold mZ at h;refine B h λx17 cE h=>(B h λx18 cI h=>(B h λx19 cU h=>(B h λx20 ee h=>(X 5 5 (sQ (aM (en:=aQ) TM J J J cE (Y 1 5 (sO (aO (en:=aQ) (a:=x18) J J cI (aI Um (c:=iI x18.N) J (Y 1 5 (sQ (aM (en:=aQ) TM J J J cU ?_)))))))))))))
    refine Y 1 5 (sO (e9 (en:=aQ) (a:=x20) (a':=(⟨x20.Key,IntKind.i64.wrap (x18.N+1)⟩:Keyed)) Uc UD J (vs:=[iI (IntKind.i64.wrap (x18.N+1))]) J J J ee J J J (B h λx23 ed h=>(B h λx24 dK h=>(Y 2 5 (T.drawn mixed (k:=15) J ?_))))));apply TG 2 (bm 15 8191);intro fZ;apply TG 3 (bm 15 4095);intro ff;apply TG 4 (bm 15 5887);intro eH;apply TG 4 (bm 15 5119);intro f0;apply TG 5 (bm 15 1791);intro gJ;apply TG 5 (bm 15 2043);intro jt;apply TG 5 (bm 15 1023);intro hJ;apply TG 6 (bm 15 1787);intro ln;apply TG 6 (bm 15 767);intro qH;apply TG 7 (bm 15 763);intro qI;apply TG 8 (bm 15 1583);intro qJ;apply TG 9 (bm 15 1579);intro t8;apply TG 9 (bm 15 1582);intro GY;apply TG 9 (bm 15 559);intro ua
    .refine rq [1,3,5,9] 11 (ra4 0 2 4 10 ?_ ?_ ?_ ?_)
     .refine og 5 ⟨J,(ra4 2 4 10 12 ?_ ?_ ?_ ?_)⟩
      .exact og 5 ⟨J,(raE ua)⟩
      .exact og 5 ⟨J,(r0 6 J (aM (en:=aQ) TM J J J ed (rq [7] 7 (raE qI))))⟩
      .exact og 5 ⟨J,(raE t8)⟩
      .exact og 5 ⟨J,(rL [4,6,7,8,11,13,14] 4 J (r0 6 J (aM (en:=aQ) TM J J J ed (rq [7] 6 (rL [2,11,13,14] 2 J (rL [10,11,13,14] 10 J (raE eH)))))))⟩
     .refine og 5 ⟨J,(ra3 0 4 10 ?_ ?_ ?_)⟩
      .exact og 5 ⟨J,(raT ua)⟩
      .exact og 5 ⟨J,(r0 6 J (aM (en:=aQ) TM J J J ed (rq [7] 7 (rL [0,12,13,14] 0 J (raE qH)))))⟩
      .exact og 5 ⟨J,(raE GY)⟩
     .exact og 5 ⟨J,(r0 6 J (aM (en:=aQ) TM J J J ed (rq [7] 8 (rL [0,12,13,14] 0 J (raT qI)))))⟩
     .refine og 5 ⟨J,(ra3 0 2 4 ?_ ?_ ?_)⟩
      .exact og 5 ⟨J,(raT t8)⟩
      .exact og 5 ⟨J,(raT GY)⟩
      .exact og 5 ⟨J,(r0 6 J (aM (en:=aQ) TM J J J ed (rq [7] 7 (rL [0,12,13,14] 0 J (raE ln)))))⟩
    .refine ra3 4 10 12 ?_ ?_ ?_
     .exact og 5 ⟨J,(r0 6 J (aM (en:=aQ) TM J J J ed (rq [7] 6 (raT qH))))⟩
     .exact og 5 ⟨J,(raE qJ)⟩
     .exact og 5 ⟨J,(rL [4,6,7,8,11,13,14] 4 J (r0 6 J (aM (en:=aQ) TM J J J ed (rq [7] 5 (rL [10,11,13,14] 10 J (raT eH))))))⟩
    .refine ra2 0 4 ?_ ?_
     .exact og 5 ⟨J,(raT qJ)⟩
     .exact og 5 ⟨J,(r0 6 J (aM (en:=aQ) TM J J J ed (rq [7] 6 (rL [0,12,13,14] 0 J (raE gJ)))))⟩
    .refine ra3 2 4 12 ?_ ?_ ?_
     .exact og 5 ⟨J,(raT qJ)⟩
     .exact og 5 ⟨J,(r0 6 J (aM (en:=aQ) TM J J J ed (rq [7] 6 (raT ln))))⟩
     .exact og 5 ⟨J,(rL [4,6,7,8,11,13,14] 4 J (r0 6 J (aM (en:=aQ) TM J J J ed (rq [7] 5 (rL [2,11,13,14] 2 J (raT eH))))))⟩
    .refine ra2 4 12 ?_ ?_
     .exact og 5 ⟨J,(r0 6 J (aM (en:=aQ) TM J J J ed (rq [7] 5 (raT gJ))))⟩
     .exact og 5 ⟨J,(ra1 4 (og 5 ⟨J,(r0 6 J (aM (en:=aQ) TM J J J ed (rq [7] 4 (raT eH))))⟩))⟩
    .refine ra4 2 8 10 12 ?_ ?_ ?_ ?_
     .exact og 5 ⟨J,(raT qH)⟩
     .refine oO J (aO (en:=aQ) (a:=x24) J J dK (aI Um (c:=iI x24.N) J (ra3 2 10 12 ?_ ?_ ?_)))
      .exact og 5 ⟨J,(raE hJ)⟩
      .exact og 5 ⟨J,(raE jt)⟩
      .exact og 5 ⟨J,(rL [2,11,13,14] 2 J (raE f0))⟩
     .exact og 5 ⟨J,(raT ln)⟩
     .exact og 5 ⟨J,(rL [2,11,13,14] 2 J (rL [10,11,13,14] 10 J (raT eH)))⟩
    .refine ra3 8 10 12 ?_ ?_ ?_
     .exact oO J (aO (en:=aQ) (a:=x24) J J dK (aI Um (c:=iI x24.N) J (raT hJ)))
     .exact og 5 ⟨J,(raT gJ)⟩
     .exact og 5 ⟨J,(rL [10,11,13,14] 10 J (raT eH))⟩
    .refine ra3 2 8 12 ?_ ?_ ?_
     .exact og 5 ⟨J,(raT gJ)⟩
     .exact oO J (aO (en:=aQ) (a:=x24) J J dK (aI Um (c:=iI x24.N) J (raT jt)))
     .exact og 5 ⟨J,(rL [2,11,13,14] 2 J (raT eH))⟩
    .refine ra2 10 12 ?_ ?_
     .exact og 5 ⟨J,(rq [11] 3 (raE ff))⟩
     .exact og 5 ⟨J,(raT f0)⟩
    .refine ra2 2 12 ?_ ?_
     .exact og 5 ⟨J,(rq [11] 3 (raT ff))⟩
     .exact og 5 ⟨J,(ra1 2 (og 5 ⟨J,(rq [11] 2 (raE fZ))⟩))⟩
    .refine ra2 8 12 ?_ ?_
     .exact oO J (aO (en:=aQ) (a:=x24) J J dK (aI Um (c:=iI x24.N) J (rq [11] 3 (raT ff))))
     .exact og 5 ⟨J,(raT eH)⟩
    .exact ra1 10 (og 5 ⟨J,(rq [11] 2 (raT fZ))⟩)
    .exact ra1 8 (oO J (aO (en:=aQ) (a:=x24) J J dK (aI Um (c:=iI x24.N) J (rq [11] 2 (raT fZ)))))
    .exact ra1 12 (og 5 ⟨J,(raT fZ)⟩)
    refine ra1 13 (og 5 ⟨J,(rq [14] 0 (RA.done (by decide+kernel) ?_))⟩);cases h;exact tD
   refine X 6 5 (TH h J (λba h=>?_) (λba h=>?_))
   .exact B h λx11 bw h=>(X 7 5 (sO (bi (rows:=List.map aQ [(⟨p3.Key,0⟩:Keyed)]) (vs:=[.agg [iI p3.Key,iI 0]]) TM Uq J J J J J J (sO (cG [4,5] 6 3 (Hz bw) ⟨J,(Y 3 7 (wu (hK1 x11 h) [] [0,1,2,3,6] 7 J))⟩)))))
   exact X 1 5 (sx (hK1 x4.Keys h))
  refine X 5 5 (gp 83 (λg8=>?_) (λg8=>?_))
  .refine Y 2 5 (yQ J (cn (en:=aQ) TM J J (Yp 3 5 ?_)));rw[g8]at hK;exact sx hK
  refine Yp 6 5 ?_;rw[g8]at hK;exact sx hK
 refine X 6 5 (TH h J (λgD h=>?_) (λgD h=>?_))
 .refine X 1 5 (TH h J (λjm h=>?_) (λjm h=>?_))
  .refine X 1 5 (T.drawn mixed (k:=5) J ?_);apply TG 2 (bm 5 7);intro GZ
   .refine rL [0,2,3,4] 0 J (ra2 1 2 ?_ ?_)
    .exact og 5 ⟨J,(ra1 2 (og 5 ⟨J,(raE GZ)⟩))⟩
    .exact og 5 ⟨J,(ra1 1 (og 5 ⟨J,(raT GZ)⟩))⟩
   refine ra1 3 (og 5 ⟨J,(rq [4] 0 (RA.done (by decide+kernel) ?_))⟩);cases h;exact tD
  refine X 9 5 ?_;cases h;exact tD
 refine X 5 5 (TH h J (λtJ h=>?_) (λtJ h=>?_))
 .refine X 1 5 (TH h J (λtK h=>?_) (λtK h=>?_))
  .refine X 1 5 (T.drawn mixed (k:=5) J ?_);apply TG 2 (bm 5 7);intro ub
   .refine rL [0,2,3,4] 0 J (ra2 1 2 ?_ ?_)
    .exact og 5 ⟨J,(ra1 2 (og 5 ⟨J,(raE ub)⟩))⟩
    .exact og 5 ⟨J,(ra1 1 (og 5 ⟨J,(raT ub)⟩))⟩
   refine ra1 3 (og 5 ⟨J,(rq [4] 0 (RA.done (by decide+kernel) ?_))⟩);cases h;exact tD
  refine X 9 5 ?_;cases h;exact tD
 refine X 5 5 (TH h J (λtL h=>?_) (λtL h=>?_))
 .refine X 1 5 (TH h J (λov h=>?_) (λov h=>?_))
  .refine X 1 5 (T.drawn mixed (k:=5) J ?_);apply TG 2 (bm 5 7);intro G0
   .refine rL [0,2,3,4] 0 J (ra2 1 2 ?_ ?_)
    .exact og 5 ⟨J,(ra1 2 (og 5 ⟨J,(raE G0)⟩))⟩
    .exact og 5 ⟨J,(ra1 1 (og 5 ⟨J,(raT G0)⟩))⟩
   refine ra1 3 (og 5 ⟨J,(rq [4] 0 (RA.done (by decide+kernel) ?_))⟩);cases h;exact tD
  refine X 9 5 ?_;cases h;exact tD
 refine X 5 5 (TH h J (λzy h=>?_) (λzy h=>?_))
 .refine X 1 5 (TH h J (λtH h=>?_) (λtH h=>?_))
  .refine X 1 5 (T.drawn mixed (k:=5) J ?_);apply TG 2 (bm 5 7);intro oC
   .refine rL [0,2,3,4] 0 J (ra2 1 2 ?_ ?_)
    .exact og 5 ⟨J,(ra1 2 (og 5 ⟨J,(raE oC)⟩))⟩
    .exact og 5 ⟨J,(ra1 1 (og 5 ⟨J,(raT oC)⟩))⟩
   refine ra1 3 (og 5 ⟨J,(rq [4] 0 (RA.done (by decide+kernel) ?_))⟩);cases h;exact tD
  refine X 9 5 ?_;cases h;exact tD
 refine X 4 5 (TH h J (λtM h=>?_) (λtM h=>?_))
 .refine X 1 5 (T.drawn mixed (k:=5) J ?_);apply TG 2 (bm 5 7);intro qK
  .refine rL [0,2,3,4] 0 J (ra2 1 2 ?_ ?_)
   .exact og 5 ⟨J,(ra1 2 (og 5 ⟨J,(raE qK)⟩))⟩
   .exact og 5 ⟨J,(ra1 1 (og 5 ⟨J,(raT qK)⟩))⟩
  refine ra1 3 (og 5 ⟨J,(rq [4] 0 (RA.done (by decide+kernel) ?_))⟩);cases h;exact tD
 refine X 9 5 ?_;cases h;exact tD
theorem BI {p3:Move}{r:Bool}(h:nI p0 p1 p2 p3=some r):Fn QbP 67 [.agg (aK p0),sL (ai aa) p1,.agg (bE p2),.agg (aH p3)] (.bool r):=by
 unfold nI at h;refine fT 0 0 Tryz.func67 Tryz.ntmps67 J ?_;refine B h λx2 hx2 h=>(X 13 0 (sQ (aG TJ (λ_=>J) J J hx2 (B h λx4 hx4 h=>(Y 10 3 (sO (cF (xp hx4) ⟨J,(Y 8 4 ?_)⟩)))))))
 obtain⟨zQ,hz,h⟩:=bind_some h;revert hz h;revert zQ;intro c7 hz h;refine j1 [(6,.ptr 0 0),(7,.ptr 1 0),(9,.ptr 2 0),(10,.ptr 3 0),(37,.bool c7)] [.box (bE p2),.box (aH p3),.box (an x2),.box (aa x4.1)] ?_ (λhK=>?_)
 .refine TH h J (λaq h=>?_) (λaq h=>?_)
  .refine X 4 4 ?_;cases h;exact tD
  refine X 2 4 (j1 [(6,.ptr 0 0),(7,.ptr 1 0),(9,.ptr 2 0),(10,.ptr 3 0),(57,.bool (if(x2.Kind==6)=true then((((p2.Choices).length:Int)==500)||((x2.Kind==8)&&((p2.Out).length:Int)==2000))else((x2.Kind==8)&&((p2.Out).length:Int)==2000)))] [.box (bE p2),.box (aH p3),.box (an x2),.box (aa x4.1)] ?_ (λhK=>?_))
  .refine TH h J (λbF h=>?_) (λbF h=>?_)
   .refine X 4 4 ?_;cases h;exact tD
   refine B h λx11 bw h=>(B h λx12 bx h=>(X 2 4 (T.drawn mixed (k:=21) J ?_)))
   apply TG 3 (bm 21 262143);intro hS9;apply TG 4 (bm 21 196607);intro eg;apply TG 4 (bm 21 131071);intro dX;apply TG 8 (bm 21 198655);intro g9
   .refine rq [0,2,4,6] 17 (rL [1,11,12,13,14,15,18,19,20] 1 J (rL [3,11,12,13,14,15,18,19,20] 3 J (rL [5,8,9,11,12,13,14,15,18,19,20] 5 J (rL [7,8,9,11,12,13,14,15,18,19,20] 7 J (r0 8 J (aG TZ (λ_=>J) J J bw (rL [9,11,12,13,14,15,18,19,20] 9 J (rL [10,11,12,13,14,15,18,19,20] 10 J (ra3 11 16 17 ?_ ?_ ?_)))))))))
    .refine oO J (cD (lG bx) ⟨J,(rq [12,13,14,15] 5 (ra2 16 17 ?_ ?_))⟩)
     .exact og 4 ⟨J,(raE dX)⟩
     .exact og 4 ⟨J,(raE eg)⟩
    .refine og 4 ⟨J,(ra2 11 17 ?_ ?_)⟩
     .exact oO J (cD (lG bx) ⟨J,(rq [12,13,14,15] 4 (raT dX))⟩)
     .exact og 5 ⟨J,(raE g9)⟩
    .refine og 4 ⟨J,(ra2 11 16 ?_ ?_)⟩
     .exact oO J (cD (lG bx) ⟨J,(rq [12,13,14,15] 4 (raT eg))⟩)
     .exact og 5 ⟨J,(raV g9 [0,1,2,3,5,4] J)⟩
   .exact ra1 11 (oO J (cD (lG bx) ⟨J,(rq [12,13,14,15] 3 (raE hS9))⟩))
   .exact ra1 17 (og 5 ⟨J,(raT hS9)⟩)
   .exact ra1 16 (og 5 ⟨J,(raV hS9 [0,1,2,3,5,4] J)⟩)
   refine ra1 18 (og 6 ⟨J,(ra1 19 (og 6 ⟨J,(rq [20] 0 (RA.done (by decide+kernel) (X 6 6 ?_)))⟩))⟩);cases h;exact tD
  refine X 6 4 (gp 41 (λaD=>?_) (λaD=>?_))
  .refine Y 2 4 (yQ J (al TN J (Yp 3 4 (gp 47 (λaN=>?_) (λaN=>?_)))))
   .refine Yp 11 4 ?_;rw[aD]at hK;rw[aN]at hK;exact sx hK
   refine Y 4 4 (gp 51 (λaV=>?_) (λaV=>?_))
   .refine Y 2 4 (yQ J (al TL J (Yp 4 4 ?_)));rw[aD]at hK;rw[aN]at hK;rw[aV]at hK;exact sx hK
   refine Yp 7 4 ?_;rw[aD]at hK;rw[aN]at hK;rw[aV]at hK;exact sx hK
  refine Yp 10 4 (gp 51 (λbH=>?_) (λbH=>?_))
  .refine Y 2 4 (yQ J (al TL J (Yp 4 4 ?_)));rw[aD]at hK;rw[bH]at hK;exact sx hK
  refine Yp 7 4 ?_;rw[aD]at hK;rw[bH]at hK;exact sx hK
 refine X 5 5 (gi 31 hz (λah hz=>?_) (λah hz=>?_))
 .refine Yp 7 5 ?_;cases hz;exact wu hK [] [1,2,3,4] 5 J
 refine B hz λx5 hx5 hz=>(B hz λx6 hx6 hz=>(Y 2 5 (yO J (cD (AY hx5) ⟨J,(Y 1 5 (yO J (cG [1,0] 5 2 (Hp hx6) ⟨J,(Yp 2 5 ?_)⟩)))⟩))))
 cases hz;exact wu hK [] [1,2,3,4] 5 J
theorem IQ {r:U Move}(h:sa p0 p1 p2=some r):FnO QbP 61 [.agg (aK p0),sL (ai aa) p1,.agg (bE p2)] (.ref 0) [aR 78 2 aH r]:=by
 unfold sa at h;refine fT 0 15 Tryz.func61 Tryz.ntmps61 J (sQ (al TJ J (Y 3 2 (itr (λgw:Int×(U Move)=>mkA 46 [(1,sL (ai aa) p1),(3,.ptr 0 0),(5,.ptr 1 0),(7,.ref 2),(14,sL an p0.Nodes),(15,iI ((p0.Nodes).length:Int)),(16,iI gw.1)]) (λgw=>[.box (aK p0),.box (bE p2),aR 78 2 aH gw.2]) h (wk [(7,78,2)] [0,1,2] 2 J) (λgw v_28 h oo=>?_)))));obtain⟨s1,s2⟩:=gw;replace h:mY p0 p1 p2 s1 s2=some v_28:=h;try dsimp only
 unfold mY at h;refine X 5 3 (TH h J (λzk h=>?_) (λzk h=>?_))
 .refine B h λx4 hx4 h=>(X 6 3 (sQ (aG TJ (λ_=>J) J J hx4 (Y 9 3 (jn (Z:=Int) (λip=>mkA 46 [(1,sL (ai aa) p1),(3,.ptr 0 0),(5,.ptr 1 0),(7,.ref 2),(8,iI s1),(10,iI ip),(14,sL an p0.Nodes),(15,iI ((p0.Nodes).length:Int)),(16,iI s1)]) (λip=>[.box (aK p0),.box (bE p2),aR 78 2 aH s2]) (λip=>o9 p0 p1 s1 p2 s2 ip=some v_28) (λip h=>?_) (λhK2=>?_))))))
  .revert h;revert ip;intro z5 h;replace h:o9 p0 p1 s1 p2 s2 z5=some v_28:=h;try dsimp only
   unfold o9 at h;refine X 6 3 (itr (λeF:Int×(U Move)=>mkA 46 [(1,sL (ai aa) p1),(3,.ptr 0 0),(5,.ptr 1 0),(7,.ref 2),(8,iI s1),(14,sL an p0.Nodes),(15,iI ((p0.Nodes).length:Int)),(16,iI s1),(27,iI z5),(28,iI eF.1)]) (λeF=>[.box (aK p0),.box (bE p2),aR 78 2 aH eF.2]) h (wk [] [0,1,2] 3 J) (λeF v_37 h qw=>?_));obtain⟨s6,s7⟩:=eF;replace h:iQ p0 p1 s1 p2 z5 s6 s7=some v_37:=h;try dsimp only
   unfold iQ at h;refine X 5 3 (TH h J (λgD h=>?_) (λgD h=>?_))
   .refine B h λx9 hx9 h=>(X 22 3 (sO (cF (BI hx9) ⟨J,(Y 1 4 (TH h J (λjm h=>?_) (λjm h=>?_)))⟩)))
    .exact B h λx10 aY h=>(X 3 4 (sO (bi (rows:=List.map aH [(⟨s1,s6⟩:Move)]) (vs:=[.agg [iI s1,iI s6]]) TU UE J J J J J J (sO (bU (en:=aH) (xs:=s7) (ys:=([(⟨s1,s6⟩:Move)]:U Move)) TU (λ_=>J) J J J aY J J (Y 6 6 (lk h (wk [] [0,1,5] 6 J))))))))
    exact X 5 4 (lk h (wk [] [0,1,2] 4 J))
   refine X 1 3 ?_;replace h:=mi h qw;exact X 4 3 (lk h (wk [] [0,1,2] 3 J))
  refine X 7 4 (TH h J (λtJ h=>?_) (λtJ h=>?_))
  .exact X 3 4 (sQ (al TK J (Y 2 4 (wu (hK2 ((x4.In).length:Int) h) [] [0,1,2] 4 J))))
  exact X 1 4 (wu (hK2 1 h) [] [0,1,2] 4 J)
 refine X 1 3 ?_;replace h:=mi h oo;refine X 5 3 ?_;cases h;exact tO [] [2] 3
theorem rQ {r:(U Move)×Int}(h:fk p0 p1 p2=some r):FnO QbP 31 [.agg (aK p0),sL (ai aa) p1,.agg (bE p2)] (.tup [.ref 0,iI r.2]) [aR 78 2 aH r.1]:=by
 unfold fk at h;refine fT 0 0 Tryz.func31 Tryz.ntmps31 J ?_;refine B h λx2 hx2 h=>(X 13 0 (sO (cF (rM hx2) ⟨J,(Y 7 2 (TH h J (λah h=>?_) (λah h=>?_)))⟩)))
 .refine X 6 2 ?_;cases h;exact tO [(0,78,2)] [2] 2
 refine B h λx4 hx4 h=>(X 6 2 (sO (cO 2 (IQ hx4) ⟨J,(Y 3 3 ?_)⟩)))
 cases h;exact tO [] [2] 3
theorem jC {p0:U Item}{r:Item×(U Item)×Int}(h:sm p0=some r):FnO QbP 106 [sL aa p0] (.tup [.agg (aa r.1),.ref 0,iI r.2.2]) [aR 68 3 aa r.2.1]:=by
 unfold sm at h;refine fT 0 10 Tryz.func106 Tryz.ntmps106 J (sQ (al TL J (Y 2 1 (TH h J (λah h=>?_) (λah h=>?_)))))
 .refine X 7 1 ?_;cases h;exact tO [(1,68,3)] [1] 1
 refine X 5 1 (sQ (al TL J (Y 2 1 (TH h J (λae h=>?_) (λae h=>?_)))))
 .refine X 7 1 ?_;cases h;exact tO [(1,68,3)] [1] 1
 refine B h λx4 hx4 h=>(B h λx5 hx5 h=>(B h λx6 hx6 h=>(X 2 1 (T.drawn mixed (k:=9) J ?_))))
 apply TG 3 (bm 9 63);intro hS3
 .refine rq [0] 8 (r0 1 J (aG TL (λ_=>J) J J hx4 (rq [3] 6 (r0 4 J (pB TL (λ_=>J) J J J hx5 (ra2 2 5 ?_ ?_))))))
  .exact og 1 ⟨J,(ra1 5 (oO J (cO 1 (iP hx6) ⟨J,(raE hS3)⟩)))⟩
  .exact oO J (cO 1 (iP hx6) ⟨J,(ra1 2 (og 2 ⟨J,(raT hS3)⟩))⟩)
 refine ra1 6 (og 2 ⟨J,(rq [7,8] 0 (RA.done (by decide+kernel) ?_))⟩);cases h;exact tO [] [1] 2
theorem Bv {p0:U Item}{p1:Int}{p2:Item}{r:(U Item)×Int}(h:sC p0 p1 p2=some r):FnO QbP 107 [sL aa p0,iI p1,.agg (aa p2)] (.tup [.ref 0,iI r.2]) [aR 68 3 aa r.1]:=by
 unfold sC at h;refine fT 0 7 Tryz.func107 Tryz.ntmps107 J (j1 [(0,sL aa p0),(1,iI p1),(5,.ptr 0 0),(13,.bool ((decide (p1<1))||decide (p1> 6)))] [.box (aa p2)] ?_ (λhK=>?_))
 .refine TH h J (λae h=>?_) (λae h=>?_)
  .refine X 5 1 ?_;cases h;exact tO [(0,68,3)] [1] 1
  refine X 5 1 (sQ (al TL J (Y 3 1 (TH h J (λaq h=>?_) (λaq h=>?_)))))
  .refine X 5 1 ?_;cases h;exact tO [(0,68,3)] [1] 1
  refine X 5 1 (sQ (al TL J (Y 3 1 (TH h J (λaD h=>?_) (λaD h=>?_)))))
  .refine X 5 1 ?_;cases h;exact tO [(0,68,3)] [1] 1
  refine B h λx4 hx4 h=>(B h λx5 hx5 h=>(X 2 1 (T.drawn mixed (k:=7) J ?_)))
  apply TG 3 (bm 7 15);intro hS5;apply TG 4 (bm 7 7);intro hS6
  .refine rq [0] 6 (ra2 1 2 ?_ ?_)
   .exact oO J (cO 1 (iP hx4) ⟨J,(ra1 2 (og 2 ⟨J,(raE hS6)⟩))⟩)
   .refine og 1 ⟨J,(ra2 1 3 ?_ ?_)⟩
    .exact oO J (cO 1 (iP hx4) ⟨J,(raT hS6)⟩)
    .exact oO J (bi (rows:=List.map aa [p2]) (vs:=[.agg (aa p2)]) TL Uk J J J J J J (ra1 1 (oO J (cO 2 (iP hx4) ⟨J,(raE hS5)⟩))))
  .exact ra1 3 (oO J (bi (rows:=List.map aa [p2]) (vs:=[.agg (aa p2)]) TL Uk J J J J J J (raV hS5 [0,2,1] J)))
  refine ra1 4 (oO J (bU (en:=aa) (xs:=x4) (ys:=([p2]:U Item)) TL (λ_=>J) J J J hx5 J J (rq [5,6] 0 (RA.done (by decide+kernel) ?_))));cases h;exact tO [] [3] 4
 refine X 5 1 (gp 10 (λah=>?_) (λah=>?_))
 .refine Yp 4 1 ?_;rw[ah]at hK;exact sx hK
 refine Yp 4 1 ?_;rw[ah]at hK;exact sx hK
end
end
section
open Go.RowKit
def PanX(P:Program)(V:Value)(f:FuncId)(args:List AV)(aw:List Ob):Prop:=
 (∀vs w,(callFunc f vs).run P w=.ok (.enter f vs) w) /\
 ∀w F σ vs,Sim aw σ w F->RelL σ w F args vs->Calls P f vs.toArray w λe w'=>∃σ' F',e=.panicked [{ v:=V,recovered:=false }]/\Sim (aw.map λ_=>Ob.dead) σ' w' F'/\Mv aw σ w F (aw.map λ_=>Ob.dead) σ' w' F'
section
variable {P:Program} {V:Value} {N n:Nat} {fr:List AV} {aw aw':List Ob} {l:List (Nat×AV)}
structure PP (P:Program) (V:Value) (N:Nat) (o:Oper) (fr:List AV) (aw:List Ob) (Kp:List AV->List Ob->Prop):Prop where
 out:∀st:St,st.aw.length=N->st.σ.length=st.aw.length->∀σ w F a,Cur st fr aw σ w F a->∀(Kc:Act->World->Prop) (Q:Exit->Act->World->Prop),
  (∀aw' σ' w' F',Kp fr aw'->Cur st fr aw' σ' w' F' a->Q (.panic [{ v:=V,recovered:=false }]) a w')->o.wp P a w Kc Q
variable {o:Oper}{Q:Exit->Act->World->Prop}{ops:Array Oper}{rest:U Oper}{d:QbQ Tmp}{ty:TypeId}{ps:String}{af:Array Edge}{g:QbQ (Nat×Bool)}{Kp:U AV->U Ob->Prop}{f:Operand}{args:Array Operand}{ts:Array TypeId}{h:FuncId}{caps ac as0:U AV}{aw0 aw2:U Ob}{n0:Nat}
theorem KX {a:Act}{next next':Act->World->Prop}{Q':Exit->Act->World->Prop}(hn:∀a w,next a w->next' a w)(hp:∀ch a w,Q (.panic ch) a w->Q' (.panic ch) a w)(hl:LetsOut Q->LetsOut Q'):
  ∀r,o.upon P a next Q r->o.upon P a next' Q' r:=by
 intro r h
 unfold Oper.upon at h⊢
 grind[Calls.mono,Rows.mono]
def thenL(P:Program)(ops:Array Oper)(rest:List Oper)(Q:Exit->Act->World->Prop):Exit->Act->World->Prop
 | .normal,a,w=>wpList P ops Q rest a w
 |e,a,w=>Q e a w
theorem u7:∀(pre:U Oper) (a:Act) (w:World),wpList P ops (thenL P ops rest Q) pre a w->wpList P ops Q (pre++rest) a w
 |[],a,w,h=>h
 | o::pre,a,w,h=>by
  rw[Tf];unfold wpList at h ⊢;split at h
  .rename_i hw;rw[if_pos hw];rcases h with h|⟨h1,h2⟩
   .exact .inl (KX (λa w h=>u7 pre a w h) (λ_ _ _ h=>h) (λh=>h) _ h)
   .exact .inr ⟨h1,h2⟩
  .rename_i hw;rw[if_neg hw];exact u7 pre _ w h
theorem UU {id:Nat}{Q:Exit->U AV->U Ob->Prop}{pre:U Oper}(ho:ops.toList=pre++o::rest)(hg:o.guard=none)(h:RS P N ops pre (λfr aw=>PP P V N o fr aw (Q (.panic [{ v:=V,recovered:=false }]))) fr aw):T P N (.region id ops false) Q fr aw:=
 ⟨λst h1 h2 σ w F a hc=>by refine wp_region_list ?_;rw[ho];refine u7 _ _ _ (h.out st h1 h2 σ w F a hc _ λfr aw σ w F a hc hK=>?_);show wpList P ops _ (o::rest) a w;unfold wpList;rw[if_pos (by grind[Region.wanted])];exact .inl (hK.out st h1 h2 σ w F a hc _ _ λaw' σ' w' F' hKp hcur=>⟨fr,aw',σ',F',hKp,hcur⟩)⟩
theorem PP.call {aw2:U Ob}(ρ:U Nat)(hn0:aw.length=n0)(hf:evA n l f=.func h caps)(ha:args.toList.map (evA n l)++caps=ac)(hnd:ρ.Nodup)(hW:b7 ρ aw ρ aw0)(hA:cK ρ as0 ac)(hC:PanX P V h as0 aw0)(hlen:aw2.length+ρ.length=n0+aw0.length)(hB:fD (bY ρ n0 aw0.length) ρ aw (aw0.map λ_=>Ob.dead) 0 aw2)(hK:Kp (mkA n l) aw2):PP P V N ⟨d,.call ⟨.value f,args,ts⟩,ty,ps,af,g⟩ (mkA n l) aw Kp:=
 ⟨λst h1 h2 σ w F a hc Kc Q hk=>by
  subst hn0;have hfv:=hc.fr.ev f;rw[aF,hf]at hfv;generalize hvf:a.eval f=vf at hfv;cases hfv with
  | func _ _ cvs hl hcs=>
   have hargs:RelL σ w F ac (args.toList.map a.eval++cvs):=by rw[<- ha];have:=kF hc.fr args.toList;rw[show args.toList.map (ev (mkA n l))=args.toList.map (evA n l)from Si λx _=>aF n l x]at this;exact this.append ⟨hl,hcs⟩
   obtain⟨hlW,hgW⟩:=kK hW;obtain⟨σ0',hσ',hs0',hd0'⟩:=jI hc.sim hnd hW;have hl0:σ0'.length=ρ.length:=by rw[hs0'.len,hlW]
   have hr0:RelL σ0' w F as0 (args.toList.map a.eval++cvs):=f5 hA hargs hσ';have hrun:(execOp a.eval ⟨d,.call ⟨.value f,args,ts⟩,ty,ps,af,g⟩).run P w=.ok (.enter h (args.toList.map a.eval++cvs).toArray) w:=by
    have e:args.map a.eval++cvs.toArray=(args.toList.map a.eval++cvs).toArray:=by simp
    simp only[execOp,resolve,Deferred.ofValue,hvf,Sem.run_bind,Sem.run_pure,Result.andThen_ok,invoke,Tw,e,hC.1]
   unfold Oper.wp;rw[hrun];refine(hC.2 w F σ0' _ hs0' hr0).mono ?_;rintro e w' ⟨σ1,F',rfl,hs1,hm⟩;obtain⟨σ2,s2,m2,hσ2⟩:=r6 (aw2:=aw2) hc.sim hnd hW hσ' hl0 hs0' hd0' hs1 hm (by grind) (by grind);exact hk aw2 σ2 w' F' hK (hc.step s2 m2)⟩
theorem Va (ρ:U Nat)(hn0:aw.length=n0)(hf:evA n l f=.bnd h caps)(ha:caps++args.toList.map (evA n l)=ac)(hnd:ρ.Nodup)(hW:b7 ρ aw ρ aw0)(hA:cK ρ as0 ac)(hC:PanX P V h as0 aw0)(hlen:aw2.length+ρ.length=n0+aw0.length)(hB:fD (bY ρ n0 aw0.length) ρ aw (aw0.map λ_=>Ob.dead) 0 aw2)(hK:Kp (mkA n l) aw2):PP P V N ⟨d,.call ⟨.value f,args,ts⟩,ty,ps,af,g⟩ (mkA n l) aw Kp:=
 ⟨λst h1 h2 σ w F a hc Kc Q hk=>by
  subst hn0;have hfv:=hc.fr.ev f;rw[aF,hf]at hfv;generalize hvf:a.eval f=vf at hfv;cases hfv with
  | bnd _ _ cvs hl hcs=>
   have hargs:RelL σ w F ac (cvs++args.toList.map a.eval):=by rw[<- ha];have:=kF hc.fr args.toList;rw[show args.toList.map (ev (mkA n l))=args.toList.map (evA n l)from Si λx _=>aF n l x]at this;exact RelL.append ⟨hl,hcs⟩ this
   obtain⟨hlW,hgW⟩:=kK hW;obtain⟨σ0',hσ',hs0',hd0'⟩:=jI hc.sim hnd hW;have hl0:σ0'.length=ρ.length:=by rw[hs0'.len,hlW]
   have hr0:RelL σ0' w F as0 (cvs++args.toList.map a.eval):=f5 hA hargs hσ';have hrun:(execOp a.eval ⟨d,.call ⟨.value f,args,ts⟩,ty,ps,af,g⟩).run P w=.ok (.enter h (cvs++args.toList.map a.eval).toArray) w:=by
    have e:cvs.toArray++args.map a.eval++#[]=(cvs++args.toList.map a.eval).toArray:=by simp
    simp only[execOp,resolve,Deferred.ofValue,hvf,Sem.run_bind,Sem.run_pure,Result.andThen_ok,invoke,e,hC.1]
   unfold Oper.wp;rw[hrun];refine(hC.2 w F σ0' _ hs0' hr0).mono ?_;rintro e w' ⟨σ1,F',rfl,hs1,hm⟩;obtain⟨σ2,s2,m2,hσ2⟩:=r6 (aw2:=aw2) hc.sim hnd hW hσ' hl0 hs0' hd0' hs1 hm (by grind) (by grind);exact hk aw2 σ2 w' F' hK (hc.step s2 m2)⟩
def panQ(V:Value):Exit->List AV->List Ob->Prop
 | .panic ch,_,_=>ch=[{ v:=V,recovered:=false }]
 |_,_,_=>False
theorem BZ {ρ:U Nat}:∀(ids:U Nat) (aw:U Ob),ids.length=aw.length->(∀id,id∈ids->id<aw0.length)->b7 ρ aw0 ids (aw.map λ_=>Ob.dead)
 |[],[],_,_=>trivial
 |[],_::_,h,_=>by simp at h
 |_::_,[],h,_=>by simp at h
 |id::ids,o::aw,h,hi=>⟨⟨_,RG (hi id RM),tqz⟩,BZ ids aw (by simpa using h) λj hj=>hi j (RQ _ hj)⟩
theorem Lw {f:FuncId}{fn:Func}{c:Code}{args:U AV}{aw:U Ob}{m:Nat}(hN:aw.length=N)(hf:P.funcs[f]?=some fn)(hb:fn.body=some c)(hname:(fn.name== "runtime.NumGoroutine")=false)(hm:fn.ntmps=m)(hl:Nat.ble args.length m=true)(h:T P N c (panQ V) (mkA m (initA 0 args)) aw):PanX P V f args aw:=by
 subst hm hN
 refine⟨callable hf (by rw[hb];rfl) hname,λw F σ vs hs hr=>?_⟩
 have hc:Cur ⟨aw,σ,w,F,[]⟩ (args++List.replicate (fn.ntmps- args.length) .any) aw σ w F { tmps:=vs.toArray++Array.replicate (fn.ntmps- vs.toArray.size) undef,defers:=[] }:=by
  refine⟨hs,⟨?_,tqz⟩,.refl ..,J⟩;have h2:RelL σ w F (List.replicate (fn.ntmps- args.length) .any) (List.replicate (fn.ntmps- vs.length) undef):=
   ⟨by simp[hr.1],λj x v hx hv=>by rw[S5 (RI hx)];exact .any v⟩
  simpa using hr.append h2
 rw[xT _ _ (SN hl)]at hc
 refine calls_of_wp hf hb (wp_mono (h.out ⟨aw,σ,w,F,[]⟩ J hs.len σ w F _ hc) ?_)
 rintro e a' w' ⟨fr',aw',σ',F',hq,hcur⟩
 cases e with
 | panic ch=>
  have hq:ch=_:=hq
  subst hq
  have hlen:aw.length<=aw'.length:=by
   have h1:=hcur.sim.len;have h2:=hcur.mv.pre;have h3:=hs.len;by_cases h0:aw.length=0
   .omega
   .have:=(RH.1 (h2 (aw.length- 1) _ (RG (by grind)))).1;omega
  obtain⟨σ2,hσ,s2,hd⟩:=jI (aw':=aw.map λ_=>Ob.dead) (ρ:=List.range aw.length) hcur.sim List.nodup_range (BZ _ _ (by simp) λid hid=>by grind)
  exact⟨hcur.ds,σ2,F',J,s2,UB (st:=⟨aw,σ,w,F,[]⟩) hs.len hcur.mv (λk hk=>by grind) hσ hd⟩
 |normal=>exact hq.elim
 |ret=>exact hq.elim
 |exit id=>exact hq.elim
 |goto l=>exact hq.elim
 |outgrown=>exact hq.elim
end
end
section
open Go.RowKit
def FnP(P:Program)(V:Value)(f:FuncId)(args:List AV)(aw:List Ob){R:Type}(val:R->AV)(obs:R->List Ob):R⊕Unit->Prop
 | .inl x=>FnX P f args aw (val x) (obs x)
 | .inr _=>PanX P V f args aw
def retP(P:Program)(V:Value)(fn:Func)(N:Nat){R:Type}(Q:R->AV->List Ob->Prop):R⊕Unit->Exit->List AV->List Ob->Prop
 | .inl x=>retQ P fn N (Q x)
 | .inr _=>panQ V
section
variable {P:Program} {V:Value} {N n:Nat} {fr:List AV} {aw aw':List Ob} {l:List (Nat×AV)}
instance {fn:Func} {M:Nat} {R:Type} {Q:R->AV->List Ob->Prop} {x:R}:RetI (retP P V fn M Q (.inl x)) (λfr aw=>cq P fr aw fn.results.toList (Ret M (Q x) aw)):=⟨λ_ _ h=>h⟩
theorem fnPT{f:FuncId}{fn:Func}{c:Code}{args:U AV}{R:Type}{val:R->AV}{obs:R->U Ob}{r:R⊕Unit}{m:Nat}(N:Nat)(hf:P.funcs[f]?=some fn)(hm:fn.ntmps=m)
  (h:iniC 0 args λl=>T P N c (retP P V fn N (λx v aw'=>v=val x/\aw'=obs x) r) (mkA m l) aw)
  (hb:fn.body=some c:=by rfl) (hN:aw.length=N:=by rfl) (hname:(fn.name== "runtime.NumGoroutine")=false:=by kernel_rfl) (hl:Nat.ble args.length m=true:=by rfl):FnP P V f args aw val obs r:=by
 have h':=vX (K:=λl=>T P N c (retP P V fn N (λx v aw'=>v=val x/\aw'=obs x) r) (mkA m l) aw) h
 cases r with
 |inl x=>exact iE hN hf hb hname hm hl h'
 |inr u=>exact Lw hN hf hb hname hm hl h'
variable {ops:Array Oper} {o:Oper} {d:Option Tmp} {ty:TypeId} {ps:String} {af:Array Edge} {gd:Option (Nat×Bool)}
variable {Kp:U AV->U Ob->Prop}{f:Operand}{args:Array Operand}{ts:Array TypeId}{h:FuncId}{caps ac as0:U AV}{aw0 aw2:U Ob}{n0 n1:Nat}{st:St}{w:World}{a:Act}{v:Value}
theorem PP.panic {x:Operand}{t:TypeId}(hx:evA n l x=.ifc t (.agg []))(hK:Kp (mkA n l) aw):PP P (.iface t (.agg #[])) N ⟨d,.panic x,ty,ps,af,gd⟩ (mkA n l) aw Kp:=
 ⟨λst h1 h2 σ w F a hc Kc Q hk=>by
  have hfv:=hc.fr.ev x;rw[aF,hx]at hfv;generalize hvf:a.eval x=vf at hfv;cases hfv with
  | ifc _ _ u hu=>
   cases hu with
   |agg _ vs hl hone hcs=>
    have:vs=[]:=RP (by omega);subst this;unfold Oper.wp;have hrun:(execOp a.eval ⟨d,.panic x,ty,ps,af,gd⟩).run P w=.halt (.panic (.iface t (.agg #[]))) w:=by simp only[execOp,hvf];rfl
    rw[hrun];exact hk aw σ w F hK hc⟩
theorem VP (ρ:U Nat)(hn0:aw.length=n0)(hn1:aw0.length=n1)(hf:evA n l f=.func h caps)(ha:args.toList.map (evA n l)++caps=ac)(hnd:ρ.Nodup)(hW:b7 ρ aw ρ aw0)(hA:cK ρ as0 ac)(hC:PanX P V h as0 aw0)(hlen:aw2.length+ρ.length=n0+n1)(hB:fD (bY ρ n0 n1) ρ aw (aw0.map λ_=>Ob.dead) 0 aw2)(hK:Kp (mkA n l) aw2):PP P V N ⟨d,.call ⟨.value f,args,ts⟩,ty,ps,af,gd⟩ (mkA n l) aw Kp:=by grind[PP.call]
theorem Vt (ρ:U Nat)(hn0:aw.length=n0)(hn1:aw0.length=n1)(hf:evA n l f=.bnd h caps)(ha:caps++args.toList.map (evA n l)=ac)(hnd:ρ.Nodup)(hW:b7 ρ aw ρ aw0)(hA:cK ρ as0 ac)(hC:PanX P V h as0 aw0)(hlen:aw2.length+ρ.length=n0+n1)(hB:fD (bY ρ n0 n1) ρ aw (aw0.map λ_=>Ob.dead) 0 aw2)(hK:Kp (mkA n l) aw2):PP P V N ⟨d,.call ⟨.value f,args,ts⟩,ty,ps,af,gd⟩ (mkA n l) aw Kp:=by grind[Va]
theorem qc (ρ:U Nat)(hf:evA n l f=.func h caps)(ha:args.toList.map (evA n l)++caps=ac)(hC:PanX P V h as0 aw0)(hW:b7 ρ aw ρ aw0)(hA:cK ρ as0 ac)(hB:fD (bY ρ n0 n1) ρ aw (aw0.map λ_=>Ob.dead) 0 aw2)(hK:Kp (mkA n l) aw2)(hn0:aw.length=n0:=by rfl)(hn1:aw0.length=n1:=by rfl)(hnd:ρ.Nodup:=by decide)(hlen:aw2.length+ρ.length=n0+n1:=by rfl):PP P V N ⟨d,.call ⟨.value f,args,ts⟩,ty,ps,af,gd⟩ (mkA n l) aw Kp:=VP ρ hn0 hn1 hf ha hnd hW hA hC hlen hB hK
theorem qcb (ρ:U Nat)(hf:evA n l f=.bnd h caps)(ha:caps++args.toList.map (evA n l)=ac)(hC:PanX P V h as0 aw0)(hW:b7 ρ aw ρ aw0)(hA:cK ρ as0 ac)(hB:fD (bY ρ n0 n1) ρ aw (aw0.map λ_=>Ob.dead) 0 aw2)(hK:Kp (mkA n l) aw2)(hn0:aw.length=n0:=by rfl)(hn1:aw0.length=n1:=by rfl)(hnd:ρ.Nodup:=by decide)(hlen:aw2.length+ρ.length=n0+n1:=by rfl):PP P V N ⟨d,.call ⟨.value f,args,ts⟩,ty,ps,af,gd⟩ (mkA n l) aw Kp:=Vt ρ hn0 hn1 hf ha hnd hW hA hC hlen hB hK
theorem T9 {id:Nat}{Q:Exit->U AV->U Ob->Prop}(i:Nat)(hi:ops.toList[i]?=some o)(h:RS P N ops (ops.toList.take i) (λfr aw=>PP P V N o fr aw λfr aw=>Q (.panic [{ v:=V,recovered:=false }]) fr aw) fr aw)(hg:o.guard=none:=by rfl):T P N (.region id ops false) Q fr aw:=by refine UU (pre:=ops.toList.take i) (rest:=ops.toList.drop (i+1)) (o:=o) ?_ hg h;grind[List.getElem_cons_drop,List.take_append_drop]
def panE(V:Value)(st:St)(Kp:List Ob->Prop)(e:Exit)(a:Act)(w:World):Prop:=e=.panic [{ v:=V,recovered:=false }]/\∃fr aw σ F,Cur st fr aw σ w F a/\Kp aw
theorem KT {σ:U Value}{F:Nat->Prop}{d:QbQ Tmp}(h:Cur st fr aw σ w F (a.put d v)):∃fr',Cur st fr' aw σ w F a:=by
 refine⟨List.replicate a.tmps.size .any,h.sim,⟨⟨by simp,λj x v hx hv=>?_⟩,tqz⟩,h.mv,?_⟩
 .rw[S5 (RI hx)];exact .any v
 .have:=h.ds;cases d<;>exact this
theorem D8 {Kp:U Ob->Prop}{d:QbQ Tmp}{c:U PanicEntry}(h:panE V st Kp (.panic c) (a.put d v) w):panE V st Kp (.panic c) a w:=by obtain⟨h1,fr,aw,σ,F,h2,h3⟩:=h;obtain⟨fr',h4⟩:=KT h2;exact⟨h1,fr',aw,σ,F,h4,h3⟩
structure RAP (P:Program) (V:Value) (N:Nat) (ops:Array Oper) (k:Nat) (li:Array Bool) (Kp:List Ob->Prop) (fr:List AV) (aw:List Ob):Prop where
 out:∀st:St,st.aw.length=N->st.σ.length=st.aw.length->∀σ w F a,Cur st fr aw σ w F a->wpAny P .any ops (panE V st Kp) k li a w
variable {k:Nat} {li:Array Bool} {Kp:List Ob→Prop}
theorem Ug {id:Nat}{Q:Exit->U AV->U Ob->Prop}(Kp:U Ob->Prop)(hm:P.follows .mixedOrders=true)(hk:ops.size=k)(h:RAP P V N ops k (Array.replicate k false) Kp fr aw)(hq:∀fr aw,Kp aw->Q (.panic [{ v:=V,recovered:=false }]) fr aw):T P N (.region id ops true) Q fr aw:=
 ⟨λst h1 h2 σ w F a hc=>by subst hk;have hc':Cur st fr aw σ w.drew F a:=hc.step hc.sim.drew .drew;refine wp_mono (wp_region_any hm (h.out st h1 h2 σ w.drew F a hc')) (λe a w hq'=>?_);obtain⟨rfl,fr',aw',σ',F',h3,h4⟩:=hq';exact⟨fr',aw',σ',F',hq _ _ h4,h3⟩⟩
theorem qp0 (i:Nat)(hi:ops[i]?=some o)(h:vcQ P (mkA n l) aw o.op λr=>stD l o.dst r λl=>RAP P V N ops k (li.setIfInBounds i true) Kp (mkA n l) aw)(hs:Region.noSelect ops=true:=by decide+kernel)(hf:Region.free .any ops li i=true:=by decide+kernel)(hr:(Region.ready .any ops li).contains i=true:=by decide+kernel)(hg:o.guard=none:=by rfl)(hn:nR o.op=true:=by rfl):RAP P V N ops (k+1) li Kp (mkA n l) aw:=
 ⟨λst e1 e2 σ w F a hc=>by obtain⟨v,r,hrun,hrel,hk⟩:=sJ hc hn h;refine wpAny_take hi hs hf hr (λc a w hp=>D8 hp) (.inl ⟨by grind[Region.wanted],hrun⟩) (RAP.out (fR (K:=λl=>RAP P V N ops k (li.setIfInBounds i true) Kp (mkA n l) aw) hk) st e1 e2 σ w F _ ?_);have:=fI hc hrel o.dst;grind[eR]⟩
open RK in
theorem qpl (D:List Nat) (i:Nat) (hi:ops[i]?=some o) (h:vcQ P (mkA n l) aw o.op λr=>stD l o.dst r λl=>RAP P V N ops k (li.setIfInBounds i true) Kp (mkA n l) aw) (hs:Region.noSelect ops=true:=by decide+kernel) (hf:loadFree ops li D i=true:=by decide+kernel)
  (hr:(Region.ready .any ops li).contains i=true:=by decide+kernel) (hg:o.guard=none:=by rfl):RAP P V N ops (k+1) li Kp (mkA n l) aw:=
 ⟨λst e1 e2 σ w F a hc=>by obtain⟨v,r,hrun,hrel,hk⟩:=B2 hc h;refine Aw D hi hs hf hr (λc a w hp=>D8 hp) (.inl ⟨by grind[Region.wanted],hrun⟩) (RAP.out (fR (K:=λl=>RAP P V N ops k (li.setIfInBounds i true) Kp (mkA n l) aw) hk) st e1 e2 σ w F _ ?_);have:=fI hc hrel o.dst;grind[eR]⟩
structure RAO (P:Program) (V:Value) (N:Nat) (ops:Array Oper) (i:Nat) (K:List AV->List Ob->Prop) (Kp:List Ob->Prop) (fr:List AV) (aw:List Ob):Prop where
 out:∀st:St,st.aw.length=N->st.σ.length=st.aw.length->∀σ w F a,Cur st fr aw σ w F a->∀(Kc:Act->World->Prop),
  (∀fr aw σ w F a,Cur st fr aw σ w F a->K fr aw->Kc a w)->wpOp P ops (panE V st Kp) i Kc a w
theorem RAP.all {rs:U Nat}(hr:Region.ready .any ops li=rs)(hne:rs≠[])(h:∀i,i∈rs->RAO P V N ops i (RAP P V N ops k (li.setIfInBounds i true) Kp) Kp fr aw):RAP P V N ops (k+1) li Kp fr aw:=
 ⟨λst h1 h2 σ w F a hc=>wpAny_all hr hne λi hi=>(h i hi).out st h1 h2 σ w F a hc _ λfr aw σ w F a hc hK=>RAP.out hK st h1 h2 σ w F a hc⟩
theorem qA1 (i:Nat)(h:RAO P V N ops i (RAP P V N ops k (li.setIfInBounds i true) Kp) Kp fr aw)(hr:Region.ready .any ops li=[i]:=by decide+kernel):RAP P V N ops (k+1) li Kp fr aw:=
 RAP.all hr (by simp) λx hx=>by grind
theorem qA2 (i j:Nat)(h:RAO P V N ops i (RAP P V N ops k (li.setIfInBounds i true) Kp) Kp fr aw)(h':RAO P V N ops j (RAP P V N ops k (li.setIfInBounds j true) Kp) Kp fr aw)(hr:Region.ready .any ops li=[i,j]:=by decide+kernel):RAP P V N ops (k+1) li Kp fr aw:=
 RAP.all hr (by simp) λx hx=>by grind
theorem qA3 (i j m:Nat)(h:RAO P V N ops i (RAP P V N ops k (li.setIfInBounds i true) Kp) Kp fr aw)(h':RAO P V N ops j (RAP P V N ops k (li.setIfInBounds j true) Kp) Kp fr aw)(h'':RAO P V N ops m (RAP P V N ops k (li.setIfInBounds m true) Kp) Kp fr aw)(hr:Region.ready .any ops li=[i,j,m]:=by decide+kernel):RAP P V N ops (k+1) li Kp fr aw:=
 RAP.all hr (by simp) λx hx=>by grind
variable {i:Nat}{K:U AV->U Ob->Prop}
theorem qpO (hi:ops[i]?=some o)(h:OP P N o (mkA n l) aw λr aw'=>stD l o.dst r λl=>K (mkA n l) aw')(hg:o.guard=none:=by rfl):RAO P V N ops i K Kp (mkA n l) aw:=
 ⟨λst e1 e2 σ w F a hc Kc hK=>by unfold wpOp;simp only[hi];rw[if_pos (by grind[Region.wanted])];refine .inl (h.out st e1 e2 σ w F a hc _ _ λr aw' σ' w' F' v hk hcur hrel=>hK _ _ σ' w' F' _ ?_ (fR (K:=λl=>K (mkA n l) aw') hk));have:=fI hcur hrel o.dst;grind[eR]⟩
theorem qpP (hi:ops[i]?=some o)(h:PP P V N o (mkA n l) aw λ_ aw=>Kp aw)(hg:o.guard=none:=by rfl):RAO P V N ops i K Kp (mkA n l) aw:=
 ⟨λst e1 e2 σ w F a hc Kc hK=>by unfold wpOp;simp only[hi];rw[if_pos (by grind[Region.wanted])];exact .inl (h.out st e1 e2 σ w F a hc _ _ λaw' σ' w' F' hk hcur=>⟨J,_,aw',σ',F',hcur,hk⟩)⟩
end
end
section
open Go.RowKit
set_option maxRecDepth 100000
set_option maxHeartbeats 4000000
set_option synthInstance.maxSize 100000
set_option synthInstance.maxHeartbeats 4000000
section
variable {p0 p1 p2 p3 p12 p13 p14 p15 p16:Int}{p4 p6:U (U Item)}{p5:U Int}{p7:U Memory}{r p17:Bool}{p8:U Choice}{p9 p18:U Item}{p10:U (U UInt8)}{p11:U Write}
theorem Ik {p0:Net}{p1:U (U Item)}{p2:Move}{p3:U Int}{p5:U Memory}{p6:U Choice}{p7:U Item}{r:(U Int)×(U (U Item))×(U Memory)×(U Choice)×(U Item)}(h:pg p0 p1 p2 p3 p4 p5 p6 p7=some r):FnX QbP 68 [.agg (aK p0),sL (ai aa) p1,.ptr 0 0,.agg (aH p2)] [.box [.ref 1,.ref 2,.ref 3,.ref 4,.ref 5],aR 3 1 aj p3,aR 30 1 (ai aa) p4,aR 133 3 aC p5,aR 118 2 ao p6,aR 68 3 aa p7] (.tup []) [.box [.ref 1,.ref 2,.ref 3,.ref 6,.ref 7],aR 3 1 aj r.1,aR 30 1 (ai aa) r.2.1,aR 133 3 aC r.2.2.1,.dead,.dead,aR 118 2 ao r.2.2.2.1,aR 68 3 aa r.2.2.2.2]:=by
 unfold pg at h;refine fT 6 0 Tryz.func68 Tryz.ntmps68 J ?_;refine mO 0 4 5 6 (mO 0 3 4 7 (B h λx2 hx2 h=>(X 11 8 (sQ (aG TJ (λ_=>J) J J hx2 (B h λx4 hx4 h=>(Y 5 10 (T.drawn mixed (k:=13) J ?_))))))));apply TG 2 (bm 13 2047);intro hS1
 .refine rq [1,2,3] 10 (rL [0,6,7,8,9,11,12] 0 J (rL [4,6,7,8,9,11,12] 4 J (rL [5,6,7,8,9,11,12] 5 J (ra2 6 10 ?_ ?_))))
  .exact oO J (cF (xp hx4) ⟨J,(rq [7,8,9] 3 (ra1 10 (og 11 ⟨J,(raE hS1)⟩)))⟩)
  .exact og 11 ⟨J,(ra1 6 (oO J (cF (xp hx4) ⟨J,(rq [7,8,9] 2 (raT hS1))⟩)))⟩
 refine ra1 11 (og 12 ⟨J,(rq [12] 0 (RA.done (by decide+kernel) (jn (Z:=(U Int)×(U (U Item))) (λgG=>mkA 162 [(2,.ptr 0 0),(4,.ptr 6 0),(7,.ptr 7 0),(8,.ptr 8 0),(9,.ptr 9 0)]) (λgG=>[.box [.ref 1,.ref 2,.ref 3,.ref 10,.ref 11],aR 3 1 aj gG.1,aR 30 1 (ai aa) gG.2,aR 133 3 aC p5,.dead,.dead,.box (aK p0),.box (aH p2),.box (an x2),.box (aa x4.1),aR 118 2 ao p6,aR 68 3 aa p7]) (λgG=>mN p0 p2 x2 x4 p5 p6 p7 gG.1 gG.2=some r) (λgG h=>?_) (λhK4=>?_))))⟩)
 .obtain⟨z16,z17⟩:=gG;replace h:mN p0 p2 x2 x4 p5 p6 p7 z16 z17=some r:=h;try dsimp only
  unfold mN at h;refine B h λx19 cU h=>(X 4 12 (sO (cD (AY cU) ⟨J,(Y 2 12 (jn (Z:=Int×(U Choice)) (λmA=>mkA 162 [(2,.ptr 0 0),(4,.ptr 6 0),(7,.ptr 7 0),(8,.ptr 8 0),(9,.ptr 9 0),(11,sL aj x19)]) (λmA=>[.box [.ref 1,.ref 2,.ref 3,.ref 10,.ref 11],aR 3 1 aj z16,aR 30 1 (ai aa) z17,aR 133 3 aC p5,.dead,.dead,.box (aK p0),.box (aH p2),.box (an x2),.box [iI x4.1.Key,iI x4.1.Val,iI mA.1],aR 118 2 ao mA.2,aR 68 3 aa p7]) (λmA=>mP p0 p2 x2 x4 p5 p7 z16 z17 x19 mA.1 mA.2=some r) (λmA h=>?_) (λhK3=>?_)))⟩)))
  .obtain⟨z22,z23⟩:=mA;replace h:mP p0 p2 x2 x4 p5 p7 z16 z17 x19 z22 z23=some r:=h;try dsimp only
   unfold mP at h;refine B h λx29 Rn h=>(B h λx30 iq h=>(B h λx31 ll h=>(B h λx32 lm h=>(B h λx33 zR h=>(X 1 12 (T.drawn mixed (k:=27) J ?_))))))
   apply TG 2 (bm 27 33554431);intro ff;apply TG 4 (bm 27 16777183);intro eH;apply TG 8 (bm 27 524287);intro f0;apply TG 9 (bm 27 524255);intro gJ;apply TG 9 (bm 27 524279);intro jt;apply TG 9 (bm 27 393215);intro hJ
   .refine rq [0,1,2,4,6,8,10,11,12,14] 17 (rL [7,19,20,21,22,23,24,25,26] 7 J (rL [9,19,20,21,22,23,24,25,26] 9 J (rL [13,16,17,19,20,21,22,23,24,25,26] 13 J (rL [15,16,17,19,20,21,22,23,24,25,26] 15 J (r0 16 J (aM (en:=aC) TZ J J J Rn (rL [18,19,20,21,22,23,24,25,26] 18 J (ra3 3 5 17 ?_ ?_ ?_))))))))
    .refine og 12 ⟨J,(ra2 5 17 ?_ ?_)⟩
     .exact og 12 ⟨J,(raE hJ)⟩
     .exact oO J (aO (en:=aC) (a:=x30) J J iq (eS Uo Uf J (cs:=(aC x30)) J (raE gJ)))
    .refine og 12 ⟨J,(ra2 3 17 ?_ ?_)⟩
     .exact og 12 ⟨J,(raT hJ)⟩
     .exact oO J (aO (en:=aC) (a:=x30) J J iq (eS Uo Uf J (cs:=(aC x30)) J (raE jt)))
    .refine oO J (aO (en:=aC) (a:=x30) J J iq (eS Uo Uf J (cs:=(aC x30)) J (ra3 3 5 19 ?_ ?_ ?_)))
     .exact og 12 ⟨J,(raT gJ)⟩
     .exact og 12 ⟨J,(raT jt)⟩
     .exact oO J (cD (lG ll) ⟨J,(rq [20,21,22,23] 5 (rL [3,24,25,26] 3 J (raE eH)))⟩)
   .exact ra1 17 (oO J (aO (en:=aC) (a:=x30) J J iq (eS Uo Uf J (cs:=(aC x30)) J (raE f0))))
   .refine ra2 3 19 ?_ ?_
    .exact og 12 ⟨J,(raT f0)⟩
    .exact oO J (cD (lG ll) ⟨J,(rq [20,21,22,23] 4 (ra1 3 (og 12 ⟨J,(r0 24 J (aM (en:=aC) TZ J J J lm (raE ff)))⟩)))⟩)
   .refine ra2 5 19 ?_ ?_
    .exact og 12 ⟨J,(raT f0)⟩
    .exact oO J (cD (lG ll) ⟨J,(rq [20,21,22,23] 4 (raT eH))⟩)
   .exact ra1 19 (oO J (cD (lG ll) ⟨J,(rq [20,21,22,23] 3 (r0 24 J (aM (en:=aC) TZ J J J lm (raT ff))))⟩))
   .exact ra1 5 (og 12 ⟨J,(r0 24 J (aM (en:=aC) TZ J J J lm (raT ff)))⟩)
   refine ra1 25 (oO J (e9 (en:=aC) (a:=x33) (a':=x31.1) Uf UG J (vs:=[iI x31.1.Sum,sL aQ x31.1.Keys,iI x31.1.Dep]) J J J zR J J J (ra1 26 (og 12 ⟨J,(RA.done (by decide+kernel) (jn (Z:=U Item) (λip=>mkA 162 [(2,.ptr 0 0),(4,.ptr 6 0),(9,.ptr 7 0),(11,sL aj x19)]) (λip=>[.box [.ref 1,.ref 2,.ref 3,.ref 8,.ref 9],aR 3 1 aj z16,aR 30 1 (ai aa) z17,aR 133 3 aC (List.set p5 x32 x31.1),.dead,.dead,.box (aK p0),.box (aa x31.2.1),aR 118 2 ao z23,aR 68 3 aa ip]) (λip=>oZ p0 p5 z16 z17 x19 z23 x31 x32 ip=some r) (λip h=>?_) (λhK2=>?_)))⟩))))
   .revert h;revert ip;intro z35 h;replace h:oZ p0 p5 z16 z17 x19 z23 x31 x32 z35=some r:=h;try dsimp only
    unfold oZ at h;refine X 3 10 (sQ (al TK J (Y 3 10 (itr (λmw:Int×(U (U Item))=>mkA 162 [(2,.ptr 0 0),(4,.ptr 6 0),(9,.ptr 7 0),(135,sL aj x19),(136,iI ((x19).length:Int)),(137,iI mw.1)]) (λmw=>[.box [.ref 1,.ref 2,.ref 3,.ref 8,.ref 9],aR 3 1 aj z16,aR 30 1 (ai aa) mw.2,aR 133 3 aC (List.set p5 x32 x31.1),.dead,.dead,.box (aK p0),.box (aa x31.2.1),aR 118 2 ao z23,aR 68 3 aa z35]) h (wk [] [0,1,2,3,4,5,6,7,8,9] 10 J) (λmw v_39 h Q5=>?_)))));obtain⟨s36,s37⟩:=mw;replace h:mR p0 p5 z16 x19 z23 x31 x32 z35 s36 s37=some v_39:=h;try dsimp only
    unfold mR at h;refine X 5 10 (TH h J (λlh h=>?_) (λlh h=>?_))
    .refine B h λx39 Rp h=>(X 5 10 (sQ (aG TK (λ_=>J) J J Rp (B h λx40 zS h=>(B h λx41 qD h=>(B h λx42 wI h=>(B h λx43 wS h=>(B h λx44 zT h=>(Y 3 10 (T.drawn mixed (k:=21) J ?_))))))))))
     apply TG 1 (bm 21 1048575);intro uc;apply TG 6 (bm 21 32767);intro lp
     .refine rq [0,1,2,4,5,6,7,9,12] 12 (rL [8,10,11,15,16,17,18,19,20] 8 J (r0 10 J (aM (en:=(ai aa)) TO J J J zS (rL [13,15,16,17,18,19,20] 13 J (rL [14,15,16,17,18,19,20] 14 J (ra2 3 11 ?_ ?_))))))
      .exact og 10 ⟨J,(ra1 11 (oO J (aO (en:=(ai aa)) (a:=x41) J J qD (aI T2 (c:=sL aa x41) J (raE lp)))))⟩
      .refine oO J (aO (en:=(ai aa)) (a:=x41) J J qD (aI T2 (c:=sL aa x41) J (ra2 3 15 ?_ ?_)))
       .exact og 10 ⟨J,(raT lp)⟩
       .exact oO J (cO 10 (Bv wI) ⟨J,(rq [16,17,18] 3 (ra1 3 (og 11 ⟨J,(r0 19 J (aM (en:=(ai aa)) TO J J J wS (raE uc)))⟩)))⟩)
     .exact ra1 15 (oO J (cO 10 (Bv wI) ⟨J,(rq [16,17,18] 2 (r0 19 J (aM (en:=(ai aa)) TO J J J wS (raT uc))))⟩))
     exact ra1 20 (RO.fC 10 (oO J (e9 (en:=(ai aa)) (a:=x44) (a':=x42.1) Ut Uz J (vs:=[sL aa x42.1]) J J J zT J J J (RA.done (by decide+kernel) (X 4 11 (lk h (wk [] [0,1,2,3,4,5,6,7,8,9] 11 J)))))))
    refine X 1 10 ?_;replace h:=mi h Q5;cases h;exact eN [0,1,2,3,4,5,8,9]
   refine X 7 12 (TH h J (λtL h=>?_) (λtL h=>?_))
   .refine B h λx34 oB h=>(T.drawn mixed (k:=11) J (rq [0,1,2,3] 7 (rL [4,7,8,9,10] 4 J (ra1 5 (og 12 ⟨J,(ra1 6 (oO J (bi (rows:=List.map aa [x31.2.1]) (vs:=[.agg (aa x31.2.1)]) TL Uk J J J J J J (ra1 7 (oO J (bU (en:=aa) (xs:=p7) (ys:=([x31.2.1]:U Item)) TL (λ_=>J) J J J oB J J ?_))))))⟩)))))
    exact rq [8,9] 1 (ra1 10 (og 14 ⟨J,(RA.done (by decide+kernel) (wu (hK2 x34 h) [] [0,1,2,3,4,5,6,9,10,13] 14 J))⟩))
   exact X 1 12 (wu (hK2 p7 h) [] [0,1,2,3,4,5,6,9,10,11] 12 J)
  refine X 7 12 (TH h J (λov h=>?_) (λov h=>?_))
  .refine B h λx21 ju h=>(X 1 12 (T.drawn mixed (k:=15) J (rq [0,1,2,3,5,7] 9 (rL [4,11,12,13,14] 4 J (rL [6,9,10,11,12,13,14] 6 J (ra1 8 (og 12 ⟨J,(rq [9] 5 (ra1 10 ?_))⟩)))))))
   refine oO J (bi (rows:=List.map ao [(⟨p2.Node,p2.Lane⟩:Choice)]) (vs:=[.agg (aH p2)]) TN Ur J J J J J J (ra1 11 (oO J (bU (en:=ao) (xs:=p6) (ys:=([(⟨p2.Node,p2.Lane⟩:Choice)]:U Choice)) TN (λ_=>J) J J J ju J J (rq [12,13] 1 (ra1 14 (og 14 ⟨J,(RA.done (by decide+kernel) (X 5 14 (sQ (cn (en:=ao) TN J J (Y 3 14 ?_)))))⟩)))))));exact wu (hK3 (((x21).length:Int),x21) h) [] [0,1,2,3,4,5,6,7,8,9,13,11] 14 J
  exact X 1 12 (sx (hK3 (x4.1.Dep,p6) h))
 refine X 7 12 (TH h J (λzt h=>?_) (λzt h=>?_))
 .refine B h λx5 hx5 h=>(B h λx6 hx6 h=>(B h λx7 hx7 h=>(B h λx8 hx8 h=>(T.drawn mixed (k:=11) J (rq [0,1,2,4] 7 (rL [3,6,7,8,9,10] 3 J (ra1 5 (og 12 ⟨J,(r0 6 J (aM (en:=aj) TK J J J hx5 ?_))⟩))))))))
  exact ra1 7 (oO J (aO (en:=aj) (a:=x6) J J hx6 (aI Um (c:=iI x6) J (rq [8] 2 (r0 9 J (aM (en:=aj) TK J J J hx7 (ra1 10 (oO J (e9 (en:=aj) (a:=x8) (a':=IntKind.i64.wrap (x6+1)) Uc UD J (vs:=[iI (IntKind.i64.wrap (x6+1))]) J J J hx8 J J J (RA.done (by decide+kernel) (wu (hK4 ((List.set p3 x7 (IntKind.i64.wrap (x6+1))),p4) h) [] [0,1,2,3,4,5,8,9,10,11,7,6] 12 J)))))))))))
 refine B h λx9 hx9 h=>(B h λx10 aY h=>(B h λx11 bw h=>(B h λx12 bx h=>(B h λx13 dc h=>(B h λx14 cm h=>(B h λx15 dY h=>(T.drawn mixed (k:=29) J ?_)))))))
 apply TG 1 (bm 29 268435455);intro zU;apply TG 3 (bm 29 134217215);intro wU;apply TG 5 (bm 29 134216831);intro oC;apply TG 5 (bm 29 134216927);intro G1;apply TG 7 (bm 29 4194303);intro qK;apply TG 8 (bm 29 4193791);intro wW;apply TG 8 (bm 29 4194295);intro ue;apply TG 8 (bm 29 2097151);intro uf;apply TG 9 (bm 29 4193783);intro zV;apply TG 9 (bm 29 2096639);intro zW;apply TG 10 (bm 29 4193503);intro zX;apply TG 10 (bm 29 4193407);intro zY;apply TG 10 (bm 29 2096631);intro G2;apply TG 11 (bm 29 4193375);intro G3;apply TG 11 (bm 29 4193399);intro G4;apply TG 11 (bm 29 4193495);intro G5;apply TG 11 (bm 29 2096351);intro G6;apply TG 11 (bm 29 2096255);intro G7
 .refine rq [0,1,2,4,6,10,11,12,14,16] 19 (rL [13,20,21,22,23,24,25,26,27,28] 13 J (rL [15,18,19,20,21,22,23,24,25,26,27,28] 15 J (rL [17,18,19,20,21,22,23,24,25,26,27,28] 17 J (r0 18 J (aG TK (λ_=>J) J J aY (rL [19,20,21,22,23,24,25,26,27,28] 19 J (r0 20 J (aM (en:=(ai aa)) TO J J J bw (ra4 3 5 7 21 ?_ ?_ ?_ ?_)))))))))
  .refine og 12 ⟨J,(ra3 5 7 21 ?_ ?_ ?_)⟩
   .exact og 12 ⟨J,(raE G7)⟩
   .exact og 12 ⟨J,(raE G6)⟩
   .exact oO J (aO (en:=(ai aa)) (a:=x12) J J bx (aI T2 (c:=sL aa x12) J (raE G3)))
  .refine og 12 ⟨J,(ra3 3 7 21 ?_ ?_ ?_)⟩
   .exact og 12 ⟨J,(raT G7)⟩
   .exact og 12 ⟨J,(r0 8 J (aG TK (λ_=>J) J J hx9 (raE G2)))⟩
   .exact oO J (aO (en:=(ai aa)) (a:=x12) J J bx (aI T2 (c:=sL aa x12) J (raE G4)))
  .refine og 12 ⟨J,(ra3 3 5 21 ?_ ?_ ?_)⟩
   .exact og 12 ⟨J,(raT G6)⟩
   .exact og 12 ⟨J,(r0 8 J (aG TK (λ_=>J) J J hx9 (raT G2)))⟩
   .exact oO J (aO (en:=(ai aa)) (a:=x12) J J bx (aI T2 (c:=sL aa x12) J (raE G5)))
  .refine oO J (aO (en:=(ai aa)) (a:=x12) J J bx (aI T2 (c:=sL aa x12) J (ra4 3 5 7 22 ?_ ?_ ?_ ?_)))
   .exact og 12 ⟨J,(raT G3)⟩
   .exact og 12 ⟨J,(raT G4)⟩
   .exact og 12 ⟨J,(raT G5)⟩
   .exact oO J (cO 12 (jC dc) ⟨J,(rq [23,24,25,26] 7 (rL [3,27,28] 3 J (rL [5,8,9,27,28] 5 J (raE oC))))⟩)
 .refine ra2 7 21 ?_ ?_
  .exact og 12 ⟨J,(r0 8 J (aG TK (λ_=>J) J J hx9 (raE zW)))⟩
  .exact oO J (aO (en:=(ai aa)) (a:=x12) J J bx (aI T2 (c:=sL aa x12) J (raE zY)))
 .refine ra2 5 21 ?_ ?_
  .exact og 12 ⟨J,(r0 8 J (aG TK (λ_=>J) J J hx9 (raT zW)))⟩
  .exact oO J (aO (en:=(ai aa)) (a:=x12) J J bx (aI T2 (c:=sL aa x12) J (raE zX)))
 .refine ra3 3 5 22 ?_ ?_ ?_
  .exact og 12 ⟨J,(raT zX)⟩
  .exact og 12 ⟨J,(r0 8 J (aG TK (λ_=>J) J J hx9 (raE zV)))⟩
  .exact oO J (cO 12 (jC dc) ⟨J,(rq [23,24,25,26] 6 (rL [3,27,28] 3 J (raE G1)))⟩)
 .refine ra3 3 7 22 ?_ ?_ ?_
  .exact og 12 ⟨J,(raT zY)⟩
  .exact og 12 ⟨J,(r0 8 J (aG TK (λ_=>J) J J hx9 (raT zV)))⟩
  .exact oO J (cO 12 (jC dc) ⟨J,(rq [23,24,25,26] 6 (rL [3,27,28] 3 J (raT oC)))⟩)
 .refine ra3 5 7 22 ?_ ?_ ?_
  .exact og 12 ⟨J,(raT zY)⟩
  .exact og 12 ⟨J,(raT zX)⟩
  .exact oO J (cO 12 (jC dc) ⟨J,(rq [23,24,25,26] 6 (rL [5,8,9,27,28] 5 J (raT oC)))⟩)
 .refine ra3 3 9 21 ?_ ?_ ?_
  .exact og 12 ⟨J,(raT zW)⟩
  .refine og 12 ⟨J,(ra2 3 21 ?_ ?_)⟩
   .exact og 12 ⟨J,(raE uf)⟩
   .exact oO J (aO (en:=(ai aa)) (a:=x12) J J bx (aI T2 (c:=sL aa x12) J (raE ue)))
  .exact oO J (aO (en:=(ai aa)) (a:=x12) J J bx (aI T2 (c:=sL aa x12) J (raT zV)))
 .refine ra2 7 22 ?_ ?_
  .exact og 12 ⟨J,(r0 8 J (aG TK (λ_=>J) J J hx9 (raE wW)))⟩
  .exact oO J (cO 12 (jC dc) ⟨J,(rq [23,24,25,26] 5 (raT oC))⟩)
 .refine ra2 5 22 ?_ ?_
  .exact og 12 ⟨J,(r0 8 J (aG TK (λ_=>J) J J hx9 (raT wW)))⟩
  .exact oO J (cO 12 (jC dc) ⟨J,(rq [23,24,25,26] 5 (raT G1))⟩)
 .refine ra2 9 21 ?_ ?_
  .exact og 12 ⟨J,(raT uf)⟩
  .exact oO J (aO (en:=(ai aa)) (a:=x12) J J bx (aI T2 (c:=sL aa x12) J (raT wW)))
 .refine ra3 3 9 22 ?_ ?_ ?_
  .exact og 12 ⟨J,(raT wW)⟩
  .exact og 12 ⟨J,(raT ue)⟩
  .exact oO J (cO 12 (jC dc) ⟨J,(rq [23,24,25,26] 4 (rL [3,27,28] 3 J (raE wU)))⟩)
 .exact ra1 21 (oO J (aO (en:=(ai aa)) (a:=x12) J J bx (aI T2 (c:=sL aa x12) J (raE qK))))
 .refine ra2 3 22 ?_ ?_
  .exact og 12 ⟨J,(raT qK)⟩
  .exact oO J (cO 12 (jC dc) ⟨J,(rq [23,24,25,26] 3 (ra1 3 (og 13 ⟨J,(r0 27 J (aM (en:=(ai aa)) TO J J J cm (raE zU)))⟩)))⟩)
 .refine ra2 9 22 ?_ ?_
  .exact og 12 ⟨J,(raT qK)⟩
  .exact oO J (cO 12 (jC dc) ⟨J,(rq [23,24,25,26] 3 (raT wU))⟩)
 .exact ra1 22 (oO J (cO 12 (jC dc) ⟨J,(rq [23,24,25,26] 2 (r0 27 J (aM (en:=(ai aa)) TO J J J cm (raT zU))))⟩))
 .exact ra1 5 (og 13 ⟨J,(r0 8 J (aG TK (λ_=>J) J J hx9 (raT wU)))⟩)
 .exact ra1 7 (og 13 ⟨J,(r0 8 J (aG TK (λ_=>J) J J hx9 (raT wU)))⟩)
 .exact ra1 9 (og 13 ⟨J,(r0 27 J (aM (en:=(ai aa)) TO J J J cm (raT zU)))⟩)
 exact ra1 28 (RO.fC 12 (oO J (e9 (en:=(ai aa)) (a:=x15) (a':=x13.2.1) Ut Uz J (vs:=[sL aa x13.2.1]) J J J dY J J J (RA.done (by decide+kernel) (wu (hK4 (p3,(List.set p4 x14 x13.2.1)) h) [] [0,1,2,3,4,5,8,9,10,11,7,6] 13 J)))))
theorem nE {p0:Net}{p1:U (U Item)}{p2:State}{p3:Move}{r:State×Int}(h:fq p0 p1 p2 p3=some r):Fn QbP 33 [.agg (aK p0),sL (ai aa) p1,.agg (bE p2),.agg (aH p3)] (.tup [.agg (bE r.1),iI r.2]):=by
 unfold fq at h;refine fT 0 0 Tryz.func33 Tryz.ntmps33 J ?_;refine B h λx2 hx2 h=>(X 14 0 (sO (cF (rM hx2) ⟨J,(Y 7 4 (TH h J (λah h=>?_) (λah h=>?_)))⟩)))
 .refine X 7 4 ?_;cases h;exact tD
 refine X 2 4 ?_;obtain⟨zZ,hz,h⟩:=bind_some h;revert hz h;revert zZ;intro c5 hz h;refine j1 [(1,sL (ai aa) p1),(4,.ptr 0 0),(6,.ptr 1 0),(7,.ptr 2 0),(8,.ptr 3 0),(62,.bool c5)] [.box (aK p0),.box (bE p2),.box (aH p3),.box [.nils,.nils,.nils,.nils,.nils]] ?_ (λhK=>?_)
 .refine TH h J (λbF h=>?_) (λbF h=>?_)
  .refine X 6 4 ?_;cases h;exact tD
  refine B h λx7 hx7 h=>(X 8 4 (sO (cF (BI hx7) ⟨J,(Y 2 4 (TH h J (λdP h=>?_) (λdP h=>?_)))⟩)))
  .refine X 6 4 ?_;cases h;exact tD
  refine B h λx9 hx9 h=>(X 4 4 (sO (cG [] 4 5 (TR (xn hx9)) ⟨J,(B h λx11 bw h=>(Y 7 9 (sO (cG [1,4,5,6,7,8] 9 8 (Ik bw) ⟨J,(Y 7 11 ?_)⟩))))⟩)))
  cases h;exact tD
 refine X 1 4 ?_;rcases bC (decide (p3.Node<0))with ae|ae
 .replace hz:=cb hz ae;refine T.drawn mixed (k:=44) J (rq [0] 43 (ra1 1 (og 4 ⟨J,(rq [2,3] 40 (r2 4 J ae (r2 5 J ae (r2 6 J ae (r2 7 J ae (r2 8 J ae ?_))))))⟩)));refine r2 9 J ae (r0 10 J (br (v:=.bool true) J ae J (rq [11] 32 (r2 12 J J (r2 13 J J (r2 14 J J (r0 15 J (br (v:=.bool true) J J J (rq [16] 27 (r2 17 J J (r2 18 J J ?_)))))))))));refine r2 19 J J (r2 20 J J (r3 21 J (r3 22 J (r3 23 J (r3 24 J (r3 25 J (r3 26 J (r3 27 J (r3 28 J ?_)))))))));refine r3 29 J (r3 30 J (r3 31 J (r3 32 J (r3 33 J (r3 34 J (r3 35 J (r3 36 J (r3 37 J (r3 38 J ?_)))))))));exact r3 39 J (r3 40 J (r3 41 J (r2 42 J J (r0 43 J (br (v:=.bool true) J J J (RA.done (by decide+kernel) (T.sub hK ⟨J,J,J,J,J,(congrArg AV.bool ((congrArg (λp=>p) (RR hz)).symm)).symm,tqz⟩)))))))
 replace hz:=cg hz ae;rcases bC (decide (p3.Node>=((p0.Nodes).length:Int)))with aq|aq
 .replace hz:=cb hz aq;refine T.drawn mixed (k:=44) J ?_;apply TG 0 (bm 44 17592186044415);intro eg
  .refine rq [0] 43 (ra1 1 (og 4 ⟨J,(rq [2,3] 40 (ry 4 ae J (ry 6 ae J (ra2 5 7 ?_ ?_))))⟩))
   .refine oy 4 ae J (ra1 7 (oy 4 ae J (r1 8 J ae (al TJ J (ry 9 ae J (r0 10 J (bd (v:=.bool (decide (p3.Node>=((p0.Nodes).length:Int)))) J ae J (rq [11] 32 (r2 12 J aq (r2 13 J aq (r2 14 J aq ?_)))))))))));refine r0 15 J (br (v:=.bool true) J aq J (rq [16] 27 (r2 17 J J (r2 18 J J (r2 19 J J (r2 20 J J (r3 21 J (r3 22 J (r3 23 J (r3 24 J ?_))))))))));refine r3 25 J (r3 26 J (r3 27 J (r3 28 J (r3 29 J (r3 30 J (r3 31 J (r3 32 J (r3 33 J (r3 34 J ?_)))))))));exact r3 35 J (r3 36 J (r3 37 J (r3 38 J (r3 39 J (r3 40 J (r3 41 J (r2 42 J J (r0 43 J (br (v:=.bool true) J J J (raE eg))))))))))
   .refine oy 4 ae J (r1 8 J ae (al TJ J (ra1 5 (oy 4 ae J (ry 9 ae J (r0 10 J (bd (v:=.bool (decide (p3.Node>=((p0.Nodes).length:Int)))) J ae J (rq [11] 32 (r2 12 J aq (r2 13 J aq (r2 14 J aq ?_)))))))))));refine r0 15 J (br (v:=.bool true) J aq J (rq [16] 27 (r2 17 J J (r2 18 J J (r2 19 J J (r2 20 J J (r3 21 J (r3 22 J (r3 23 J (r3 24 J ?_))))))))));refine r3 25 J (r3 26 J (r3 27 J (r3 28 J (r3 29 J (r3 30 J (r3 31 J (r3 32 J (r3 33 J (r3 34 J ?_)))))))));exact r3 35 J (r3 36 J (r3 37 J (r3 38 J (r3 39 J (r3 40 J (r3 41 J (r2 42 J J (r0 43 J (br (v:=.bool true) J J J (raT eg))))))))))
  exact RA.done (by decide+kernel) (T.sub hK ⟨J,J,J,J,J,(congrArg AV.bool ((congrArg (λp=>p) (RR hz)).symm)).symm,tqz⟩)
 replace hz:=cg hz aq;rcases bC (decide (p3.Lane<0))with aD|aD
 .replace hz:=cb hz aD;refine T.drawn mixed (k:=44) J ?_;apply TG 31 (bm 44 8191);intro dX
  .refine rq [0] 43 (ra1 1 (og 4 ⟨J,(rq [2,3] 40 (ry 4 ae J (ry 6 ae J (ra2 5 7 ?_ ?_))))⟩))
   .exact oy 4 ae J (ra1 7 (oy 4 ae J (r1 8 J ae (al TJ J (ry 9 ae J (r0 10 J (bd (v:=.bool (decide (p3.Node>=((p0.Nodes).length:Int)))) J ae J (rq [11] 32 (ry 12 aq J (raE dX))))))))))
   .exact oy 4 ae J (r1 8 J ae (al TJ J (ra1 5 (oy 4 ae J (ry 9 ae J (r0 10 J (bd (v:=.bool (decide (p3.Node>=((p0.Nodes).length:Int)))) J ae J (rq [11] 32 (ry 12 aq J (raT dX))))))))))
  refine ra1 13 (oy 4 aq J (ry 14 aq J (r0 15 J (bd (v:=.bool (decide (p3.Lane<0))) J aq J (rq [16] 27 (r2 17 J aD (r2 18 J aD (r2 19 J aD (r2 20 J aD (r3 21 J ?_))))))))));refine r3 22 J (r3 23 J (r3 24 J (r3 25 J (r3 26 J (r3 27 J (r3 28 J (r3 29 J (r3 30 J (r3 31 J ?_)))))))));refine r3 32 J (r3 33 J (r3 34 J (r3 35 J (r3 36 J (r3 37 J (r3 38 J (r3 39 J (r3 40 J (r3 41 J ?_)))))))));exact r2 42 J aD (r0 43 J (br (v:=.bool true) J aD J (RA.done (by decide+kernel) (T.sub hK ⟨J,J,J,J,J,(congrArg AV.bool ((congrArg (λp=>p) (RR hz)).symm)).symm,tqz⟩))))
 replace hz:=cg hz aD;rcases bC (decide (p3.Lane> 0))with aN|aN
 .replace hz:=cb hz aN;refine B hz λx3 hx3 hz=>?_
  rcases bC (x3.Kind !=6)with aV|aV
  .replace hz:=cb hz aV;refine T.drawn mixed (k:=44) J ?_;apply TG 17 (bm 44 134217727);intro g9;apply TG 31 (bm 44 8191);intro jq
   .refine rq [0] 43 (ra1 1 (og 4 ⟨J,(rq [2,3] 40 (ry 4 ae J (ry 6 ae J (ra2 5 7 ?_ ?_))))⟩))
    .exact oy 4 ae J (ra1 7 (oy 4 ae J (r1 8 J ae (al TJ J (ry 9 ae J (r0 10 J (bd (v:=.bool (decide (p3.Node>=((p0.Nodes).length:Int)))) J ae J (rq [11] 32 (ry 12 aq J (raE jq))))))))))
    .exact oy 4 ae J (r1 8 J ae (al TJ J (ra1 5 (oy 4 ae J (ry 9 ae J (r0 10 J (bd (v:=.bool (decide (p3.Node>=((p0.Nodes).length:Int)))) J ae J (rq [11] 32 (ry 12 aq J (raT jq))))))))))
   .refine ra1 13 (oy 4 aq J (ry 14 aq J (r0 15 J (bd (v:=.bool (decide (p3.Lane<0))) J aq J (rq [16] 27 (ry 17 aD J (ra1 18 (oy 4 aD J (ry 19 aD J (ry 20 aD J ?_))))))))));refine ry 21 aN J (ry 23 aN J (ra2 22 24 ?_ ?_))
    .exact oy 4 aN J (ra1 24 (oy 4 aN J (r1 25 J aN (aG TJ (λ_=>J) J J hx3 (ry 26 aN J (raE g9))))))
    .exact oy 4 aN J (ra1 22 (oy 4 aN J (r1 25 J aN (aG TJ (λ_=>J) J J hx3 (ry 26 aN J (raT g9))))))
   refine ra1 27 (oy 4 aN J (ry 28 aN J (ry 29 aN J (r2 30 J aV (r2 31 J aV (r2 32 J aV (r2 33 J aV (r2 34 J aV (r2 35 J aV ?_)))))))));exact r2 36 J aV (r2 37 J aV (r2 38 J aV (r2 39 J aV (r2 40 J aV (r1 41 J aN (br (v:=.bool true) J aV J (r1 42 J aD (br (v:=.bool true) J aN J (r0 43 J (bd (v:=.bool true) J aD J (RA.done (by decide+kernel) (T.sub hK ⟨J,J,J,J,J,(congrArg AV.bool ((congrArg (λp=>p) (RR hz)).symm)).symm,tqz⟩))))))))))))
  replace hz:=cg hz aV;refine B hz λx4 hx4 hz=>(T.drawn mixed (k:=44) J ?_)
  apply TG 0 (bm 44 17592186044415);intro mC;apply TG 6 (bm 44 274877906943);intro qF;apply TG 7 (bm 44 272730423295);intro tW;apply TG 9 (bm 44 60129542143);intro tX;apply TG 9 (bm 44 34359738367);intro qG;apply TG 17 (bm 44 134217727);intro t6;apply TG 31 (bm 44 8191);intro t7
  .refine rq [0] 43 (ra1 1 (og 4 ⟨J,(rq [2,3] 40 (ry 4 ae J (ry 6 ae J (ra2 5 7 ?_ ?_))))⟩))
   .exact oy 4 ae J (ra1 7 (oy 4 ae J (r1 8 J ae (al TJ J (ry 9 ae J (r0 10 J (bd (v:=.bool (decide (p3.Node>=((p0.Nodes).length:Int)))) J ae J (rq [11] 32 (ry 12 aq J (raE t7))))))))))
   .exact oy 4 ae J (r1 8 J ae (al TJ J (ra1 5 (oy 4 ae J (ry 9 ae J (r0 10 J (bd (v:=.bool (decide (p3.Node>=((p0.Nodes).length:Int)))) J ae J (rq [11] 32 (ry 12 aq J (raT t7))))))))))
  .refine ra1 13 (oy 4 aq J (ry 14 aq J (r0 15 J (bd (v:=.bool (decide (p3.Lane<0))) J aq J (rq [16] 27 (ry 17 aD J (ra1 18 (oy 4 aD J (ry 19 aD J (ry 20 aD J ?_))))))))));refine ry 21 aN J (ry 23 aN J (ra2 22 24 ?_ ?_))
   .exact oy 4 aN J (ra1 24 (oy 4 aN J (r1 25 J aN (aG TJ (λ_=>J) J J hx3 (ry 26 aN J (raE t6))))))
   .exact oy 4 aN J (ra1 22 (oy 4 aN J (r1 25 J aN (aG TJ (λ_=>J) J J hx3 (ry 26 aN J (raT t6))))))
  .refine ra1 27 (oy 4 aN J (ry 28 aN J (ry 29 aN J (ry 30 aV J (ry 32 aV J (ry 34 aV J (ra3 31 33 35 ?_ ?_ ?_)))))))
   .refine oy 4 aV J (ra2 33 35 ?_ ?_)
    .exact oy 4 aV J (raE qG)
    .exact oy 4 aV J (raE tX)
   .refine oy 4 aV J (ra2 31 35 ?_ ?_)
    .exact oy 4 aV J (raT qG)
    .exact oy 4 aV J (r1 36 J aV (aG TJ (λ_=>J) J J hx4 (ry 37 aV J (raE tW))))
   .refine oy 4 aV J (ra2 31 33 ?_ ?_)
    .exact oy 4 aV J (raT tX)
    .exact oy 4 aV J (r1 36 J aV (aG TJ (λ_=>J) J J hx4 (ry 37 aV J (raT tW))))
  .exact ra1 35 (oy 4 aV J (r1 36 J aV (aG TJ (λ_=>J) J J hx4 (ry 37 aV J (raE qF)))))
  .exact ra1 33 (oy 4 aV J (r1 36 J aV (aG TJ (λ_=>J) J J hx4 (ry 37 aV J (raT qF)))))
  .refine ra2 31 38 ?_ ?_
   .exact oy 4 aV J (raT qF)
   .exact oy 4 aV J (r1 39 J aV (al TK J (ra1 31 (oy 4 aV J (ry 40 aV J (r1 41 J aN (bd (v:=.bool (decide (p3.Lane>=((x4.In).length:Int)))) J aV J (r1 42 J aD (br (v:=.bool (decide (p3.Lane>=((x4.In).length:Int)))) J aN J (r0 43 J (bd (v:=.bool (decide (p3.Lane>=((x4.In).length:Int)))) J aD J (raE mC))))))))))))
  .exact ra1 38 (oy 4 aV J (r1 39 J aV (al TK J (ry 40 aV J (r1 41 J aN (bd (v:=.bool (decide (p3.Lane>=((x4.In).length:Int)))) J aV J (r1 42 J aD (br (v:=.bool (decide (p3.Lane>=((x4.In).length:Int)))) J aN J (r0 43 J (bd (v:=.bool (decide (p3.Lane>=((x4.In).length:Int)))) J aD J (raT mC)))))))))))
  exact RA.done (by decide+kernel) (T.sub hK ⟨J,J,J,J,J,(congrArg AV.bool ((congrArg (λp=>p) (RR hz)).symm)).symm,tqz⟩)
 replace hz:=cg hz aN;refine T.drawn mixed (k:=44) J ?_;apply TG 31 (bm 44 8191);intro uh
 .refine rq [0] 43 (ra1 1 (og 4 ⟨J,(rq [2,3] 40 (ry 4 ae J (ry 6 ae J (ra2 5 7 ?_ ?_))))⟩))
  .exact oy 4 ae J (ra1 7 (oy 4 ae J (r1 8 J ae (al TJ J (ry 9 ae J (r0 10 J (bd (v:=.bool (decide (p3.Node>=((p0.Nodes).length:Int)))) J ae J (rq [11] 32 (ry 12 aq J (raE uh))))))))))
  .exact oy 4 ae J (r1 8 J ae (al TJ J (ra1 5 (oy 4 ae J (ry 9 ae J (r0 10 J (bd (v:=.bool (decide (p3.Node>=((p0.Nodes).length:Int)))) J ae J (rq [11] 32 (ry 12 aq J (raT uh))))))))))
 refine ra1 13 (oy 4 aq J (ry 14 aq J (r0 15 J (bd (v:=.bool (decide (p3.Lane<0))) J aq J (rq [16] 27 (ry 17 aD J (ra1 18 (oy 4 aD J (ry 19 aD J (ry 20 aD J ?_))))))))));refine r2 21 J aN (r2 22 J aN (r2 23 J aN (r2 24 J aN (r2 25 J aN (r2 26 J aN (r2 27 J aN (r2 28 J aN (r2 29 J aN (r3 30 J ?_)))))))));refine r3 31 J (r3 32 J (r3 33 J (r3 34 J (r3 35 J (r3 36 J (r3 37 J (r3 38 J (r3 39 J (r3 40 J ?_)))))))));exact r2 41 J aN (r1 42 J aD (bd (v:=.bool false) J aN J (r0 43 J (bd (v:=.bool false) J aD J (RA.done (by decide+kernel) (T.sub hK ⟨J,J,J,J,J,(congrArg AV.bool ((congrArg (λp=>p) (RR hz)).symm)).symm,tqz⟩))))))
theorem H0 {p1:U Node}{r:Int×(U Int)×(U (U Item))×(U Memory)×(U Choice)×(U Item)}(h:rn p0 p1 p2 p3 p4 p5 p6 p7 p8 p9 p10 p11 p12 p13 p14 p15 p16 p17 p18=some r):FnX QbP 18 [.ptr 0 0,iI p0] [.box [sL an p1,iI p2,iI p3,sL (ai aa) p4,sL aj p5,sL (ai aa) p6,sL aC p7,sL ao p8,sL aa p9,sL aT p10,sL be p11,iI p12,iI p13,iI p14,iI p15,iI p16,.ref 1,.bool p17],aR 68 3 aa p18] (iI r.1) [.box [sL an p1,iI p2,iI p3,sL (ai aa) p4,sL aj r.2.1,sL (ai aa) r.2.2.1,sL aC r.2.2.2.1,sL ao r.2.2.2.2.1,sL aa r.2.2.2.2.2,sL aT p10,sL be p11,iI p12,iI p13,iI p14,iI p15,iI p16,.ref 1,.bool p17],aR 68 3 aa p18]:=by
 unfold rn at h;refine fT 2 0 Tryz.func18 Tryz.ntmps18 J ?_;refine B h λx2 hx2 h=>(X 5 2 (T.drawn mixed (k:=18) J (rq [0,1,2,4,5,6,8,9,10] 9 (rL [3,12,13,14,15,16,17] 3 J (rL [7,12,13,14,15,16,17] 7 J (ra1 11 (og 2 ⟨J,(ra1 12 (oO J (cO 2 (rQ hx2) ⟨J,?_⟩)))⟩)))))))
 refine rq [13,14,15,16,17] 0 (RA.done (by decide+kernel) (X 4 3 (sQ (cn (en:=aH) TU J J (Y 2 3 (TH h J (λah h=>?_) (λah h=>?_)))))))
 .refine X 4 3 ?_;cases h;exact tN [0,1]
 refine B h λx8 hx8 h=>(B h λx9 hx9 h=>(B h λx10 aY h=>(B h λx11 bw h=>(B h λx12 bx h=>(X 2 3 (T.drawn mixed (k:=33) J (rq [0,1,2,3,5,6,7,9,10,11,13,14,15] 20 (r0 16 J (cn (en:=aH) TU J J (r0 17 J (jh J J hx8 ?_)))))))))))
 refine rq [18] 17 (r0 19 J (cn (en:=aH) TU J J (rq [20,21] 14 (r0 22 J (cn (en:=aH) TU J J (r0 23 J (jh J J hx9 (r0 24 J (aM (en:=aH) TU J J J aY (rL [4,26,27,28,29,30,31,32] 4 J (rL [8,26,27,28,29,30,31,32] 8 J (rL [12,26,27,28,29,30,31,32] 12 J (ra1 25 ?_)))))))))))));refine oO J (aO (en:=aH) (a:=x11) J J bw (eS Ub T8 J (cs:=(aH x11)) J (ra1 26 (oO J (cD (nE bx) ⟨J,(rq [27,28,29,30,31] 1 (ra1 32 (og 3 ⟨J,(RA.done (by decide+kernel) (X 4 3 ?_))⟩)))⟩)))));cases h;exact tN [0,1]
theorem Ig {p0:U Choice}{r:(U UInt8)×Int}(h:rE p0=some r):Fn QbP 85 [sL ao p0] (.tup [.str r.1,iI r.2]):=by
 unfold rE at h;refine fT 0 9 Tryz.func85 Tryz.ntmps85 J (sQ (al TN J (Y 2 0 (TH h J (λah h=>?_) (λah h=>?_)))))
 .refine X 5 0 ?_;cases h;exact tD
 refine X 9 0 (sQ (al TN J (Y 3 0 (itr (λcj:Int×(U Int)=>mkA 46 [(4,.ref 0),(10,sL ao p0),(11,iI ((p0).length:Int)),(12,iI cj.1)]) (λcj=>[aR 5 1 bR cj.2]) h (wk [(4,5,1)] [0] 0 J) (λcj v_13 h lj=>?_)))));obtain⟨s1,s2⟩:=cj;replace h:mQ p0 s1 s2=some v_13:=h;try dsimp only
 unfold mQ at h;refine X 5 1 (TH h J (λox h=>?_) (λox h=>?_))
 .refine B h λx4 hx4 h=>(X 5 1 (sQ (aG TN (λ_=>J) J J hx4 (Y 5 1 (j1 [(4,.ref 0),(6,.ptr 1 0),(10,sL ao p0),(11,iI ((p0).length:Int)),(12,iI s1),(33,.bool ((decide (x4.Node<0))||((decide (x4.Node>=12))||((decide (x4.Lane<0))||decide (x4.Lane>=16)))))] [aR 5 1 bR s2,.box (ao x4)] ?_ (λhK=>?_))))))
  .refine TH h J (λtE h=>?_) (λtE h=>?_)
   .refine X 5 2 ?_;replace h:=mi h lj;cases h;exact tD
   refine B h λx6 hx6 h=>(X 9 2 (sO (bi (rows:=List.map bR [IntKind.u8.wrap x4.Node,IntKind.u8.wrap x4.Lane]) (vs:=[.int .u8 (IntKind.u8.wrap x4.Node),.int .u8 (IntKind.u8.wrap x4.Lane)]) Ue Uu J J J J J J (sO (bU (en:=bR) (xs:=s2) (ys:=([IntKind.u8.wrap x4.Node,IntKind.u8.wrap x4.Lane]:U Int)) Ue (λ_=>J) J J J hx6 J J (Y 6 4 ?_))))))
   exact lk h (wk [] [3] 4 J)
  refine X 6 2 (gp 19 (λfY=>?_) (λfY=>?_))
  .refine Yp 15 2 ?_;rw[fY]at hK;exact sx hK
  refine Yp 5 2 (gp 24 (λg8=>?_) (λg8=>?_))
  .refine Yp 10 2 ?_;rw[fY]at hK;rw[g8]at hK;exact sx hK
  refine Yp 5 2 (gp 29 (λgE=>?_) (λgE=>?_))
  .refine Yp 5 2 ?_;rw[fY]at hK;rw[g8]at hK;rw[gE]at hK;exact sx hK
  refine Yp 5 2 ?_;rw[fY]at hK;rw[g8]at hK;rw[gE]at hK;exact sx hK
 refine X 1 1 ?_;replace h:=mi h lj;refine X 3 1 (sO (pn (xs:=s2) Wh Wl We J J (Y 3 1 ?_)));cases h;exact tD
theorem A7 {p0:U UInt8}{r:Int}(h:pF p0=some r):Fn QbP 114 [.str p0] (iI r):=by
 unfold pF at h;refine fT 0 16 Tryz.func114 Tryz.ntmps114 J (itr (λbn:Int×Int=>mkA 29 [(0,.str p0),(3,iI bn.1),(6,iI ((p0).length:Int)),(7,iI bn.2)]) (λbn=>[]) h (wk [] [] 0 J) (λbn v_22 h j6=>?_));obtain⟨s1,s2⟩:=bn;replace h:m7 p0 s1 s2=some v_22:=h;try dsimp only
 unfold m7 at h;refine X 5 0 (TH h J (λzu h=>?_) (λzu h=>?_))
 .refine B h λx5 hx5 h=>(B h λx6 hx6 h=>(X 13 0 (sQ (dq We J J hx5 (Y 1 0 (sQ (v_shl J J hx6 (Y 8 0 (itr (λeM:Int×Int=>mkA 29 [(0,.str p0),(3,iI eM.1),(6,iI ((p0).length:Int)),(7,iI s2),(17,iI eM.2)]) (λeM=>[]) h (wk [] [] 0 J) (λeM v_29 h zA=>?_))))))))))
  obtain⟨s7,s8⟩:=eM;replace h:lK s2 s7 s8=some v_29:=h;try dsimp only
  unfold lK at h;refine X 5 0 (TH h J (λoq h=>?_) (λoq h=>?_))
  .refine B h λx10 aY h=>(X 6 0 (sQ (v_shl J J aY (Y 8 0 (TH h J (λot h=>?_) (λot h=>?_))))))
   .exact X 9 0 (lk h (wk [] [] 0 J))
   exact X 5 0 (lk h (wk [] [] 0 J))
  refine X 1 0 ?_;replace h:=mi h zA;exact X 4 0 (lk h (wk [] [] 0 J))
 refine X 1 0 ?_;replace h:=mi h j6;refine X 5 0 ?_;cases h;exact tD
theorem Be {p0:U UInt8}{r:(U UInt8)×Int}(h:pG p0=some r):Fn QbP 86 [.str p0] (.tup [.str r.1,iI r.2]):=by
 unfold pG at h;refine fT 0 11 Tryz.func86 Tryz.ntmps86 J (TH h J (λah h=>?_) (λah h=>?_))
 .refine X 5 0 ?_;cases h;exact tD
 refine X 8 0 (TH h J (λae h=>?_) (λae h=>?_))
 .refine X 5 0 ?_;cases h;exact tD
 refine B h λx3 hx3 h=>(B h λx4 hx4 h=>(X 6 0 (sO (bi (rows:=List.map bR [IntKind.u8.wrap ((p0).length:Int)]) (vs:=[.int .u8 (IntKind.u8.wrap ((p0).length:Int))]) Ue Uu J J J J J J (sO (pn (xs:=[IntKind.u8.wrap ((p0).length:Int)]) Wh Wl We J J (Y 1 1 (sQ (kW J J hx3 (sO (cF (A7 hx4) ⟨J,(B h λx8 hx8 h=>(B h λx9 hx9 h=>?_))⟩)))))))))))
 refine B h λx10 aY h=>(Y 7 1 (sO (bi (rows:=List.map bR [IntKind.u8.wrap ((p0).length:Int)]) (vs:=[.int .u8 (IntKind.u8.wrap ((p0).length:Int))]) Ue Uu J J J J J J (sO (pn (xs:=[IntKind.u8.wrap ((p0).length:Int)]) Wh Wl We J J (Y 1 2 (sQ (kW J J hx8 (Y 1 2 (sQ (jf J J hx9 (Y 3 2 (sO (bi (rows:=List.map bR [IntKind.u8.wrap x9,IntKind.u8.wrap x4]) (vs:=[.int .u8 (IntKind.u8.wrap x9),.int .u8 (IntKind.u8.wrap x4)]) Ue Uu J J J J J J ?_))))))))))))))
 refine sO (pn (xs:=[IntKind.u8.wrap x9,IntKind.u8.wrap x4]) Wh Wl We J J (sQ (kW J J aY (Y 3 3 ?_))));cases h;exact tD
theorem AI {p0:Disk}{p2:U UInt8}{r:Disk×Int}(h:jD p0 p1 p2=some r):Fn QbP 87 [.agg (cw p0),iI p1,.str p2] (.tup [.agg (cw r.1),iI r.2]):=by
 unfold jD at h;refine fT 0 0 Tryz.func87 Tryz.ntmps87 J ?_;refine B h λx2 hx2 h=>(X 10 0 (sO (cF (nc hx2) ⟨J,(Y 7 2 (TH h J (λah h=>?_) (λah h=>?_)))⟩)))
 .refine X 7 2 ?_;cases h;exact tD
 refine X 2 2 (j1 [(1,iI p1),(2,.str p2),(3,.ptr 0 0),(6,.ptr 1 0),(20,.bool ((decide (p1<0))||decide (p1>=200)))] [.box (cw p0),.box [.nils,.nils]] ?_ (λhK=>?_))
 .refine TH h J (λaq h=>?_) (λaq h=>?_)
  .refine X 6 2 ?_;cases h;exact tD
  refine X 8 2 (TH h J (λaD h=>?_) (λaD h=>?_))
  .refine X 6 2 ?_;cases h;exact tD
  refine X 6 2 (sQ (al T5 J (Y 2 2 (TH h J (λaN h=>?_) (λaN h=>?_)))))
  .refine X 6 2 ?_;cases h;exact tD
  refine B h λx7 hx7 h=>(B h λx8 hx8 h=>(B h λx9 hx9 h=>(X 2 2 (T.drawn mixed (k:=14) J ?_))))
  apply TG 4 (bm 14 1023);intro hS6;apply TG 5 (bm 14 991);intro hS7;apply TG 6 (bm 14 479);intro hS8;apply TG 6 (bm 14 987);intro hS9
  .refine rq [0,3,6,7,8] 9 (rL [1,2,5,10,11,12,13] 1 J (ra3 2 4 9 ?_ ?_ ?_))
   .exact oO J (cO 2 (ly hx7) ⟨J,(rL [4,5,10,11,12,13] 4 J (raE hS8))⟩)
   .refine og 2 ⟨J,(ra2 2 9 ?_ ?_)⟩
    .exact oO J (cO 2 (ly hx7) ⟨J,(raT hS8)⟩)
    .exact oO J (bi (rows:=List.map be [(⟨p1,p2⟩:Write)]) (vs:=[.agg [iI p1,.str p2]]) T5 Un J J J J J J (raE hS9))
   .refine oO J (bi (rows:=List.map be [(⟨p1,p2⟩:Write)]) (vs:=[.agg [iI p1,.str p2]]) T5 Un J J J J J J (ra2 2 4 ?_ ?_))
    .exact oO J (cO 3 (ly hx7) ⟨J,(ra1 4 (og 4 ⟨J,(raE hS7)⟩))⟩)
    .exact og 3 ⟨J,(raT hS9)⟩
  .exact ra1 2 (oO J (cO 3 (ly hx7) ⟨J,(raT hS7)⟩))
  .refine ra2 5 9 ?_ ?_
   .exact oO J (cO 3 (w4 hx8) ⟨J,(ra1 9 (oO J (bi (rows:=List.map be [(⟨p1,p2⟩:Write)]) (vs:=[.agg [iI p1,.str p2]]) T5 Un J J J J J J (raE hS6))))⟩)
   .exact oO J (bi (rows:=List.map be [(⟨p1,p2⟩:Write)]) (vs:=[.agg [iI p1,.str p2]]) T5 Un J J J J J J (raV hS7 [0,1,3,2] J))
  .exact ra1 5 (oO J (cO 4 (w4 hx8) ⟨J,(raV hS6 [0,1,3,4,2] J)⟩))
  refine ra1 10 (oO J (bU (en:=be) (xs:=x8) (ys:=([(⟨p1,p2⟩:Write)]:U Write)) T5 (λ_=>J) J J J hx9 J J (rq [11] 2 (ra1 12 (og 6 ⟨J,(rq [13] 0 (RA.done (by decide+kernel) ?_))⟩)))));cases h;exact tD
 refine X 5 2 (gp 17 (λae=>?_) (λae=>?_))
 .refine Yp 4 2 ?_;rw[ae]at hK;exact sx hK
 refine Yp 4 2 ?_;rw[ae]at hK;exact sx hK
theorem AQ {p0:Disk}{p3:U Choice}{r:Disk×Int×Int}(h:pA p0 p1 p2 p3=some r):Fn QbP 46 [.agg (cw p0),iI p1,iI p2,sL ao p3] (.tup [.agg (cw r.1),iI r.2.1,iI r.2.2]):=by
 unfold pA at h;refine fT 0 0 Tryz.func46 Tryz.ntmps46 J ?_;refine B h λx2 hx2 h=>(X 11 0 (sO (cF (nc hx2) ⟨J,(Y 7 2 (TH h J (λah h=>?_) (λah h=>?_)))⟩)))
 .refine X 8 2 ?_;cases h;exact tD
 refine X 2 2 (j1 [(1,iI p1),(2,iI p2),(3,sL ao p3),(4,.ptr 0 0),(8,.ptr 1 0),(36,.bool ((decide (p1<0))||((decide (p1> 200))||((decide (p2<0))||decide (p2> 80)))))] [.box (cw p0),.box [.nils,.nils]] ?_ (λhK=>?_))
 .refine TH h J (λaN h=>?_) (λaN h=>?_)
  .refine X 7 2 ?_;cases h;exact tD
  refine X 3 2 (itr (λiM:Int×(U Choice)×(U (U UInt8))×(U Write)=>mkA 88 [(1,iI p1),(2,iI iM.1),(3,sL ao iM.2.1),(4,.ptr 0 0),(8,.ptr 1 0)]) (λiM=>[.box [sL aT iM.2.2.1,sL be iM.2.2.2],.box [.nils,.nils]]) h (wk [] [0,1] 2 J) (λiM v_15 h wF=>?_));obtain⟨s4,s5,s6,s7⟩:=iM;replace h:gK p1 s4 s5 s6 s7=some v_15:=h;try dsimp only
  unfold gK at h;refine X 4 2 (sQ (al TN J (Y 2 2 (TH h J (λg8 h=>?_) (λg8 h=>?_)))))
  .refine X 5 2 (sQ (al TN J (B h λx10 aY h=>(B h λx11 bw h=>(Y 7 2 (sO (nA TN (λ_=>J) J J J aY (sO (cF (Ig bw) ⟨J,(Y 12 2 (TH h J (λgE h=>?_) (λgE h=>?_)))⟩)))))))))
   .refine X 8 2 ?_;replace h:=mi h wF;cases h;exact tD
   refine B h λx14 cm h=>(B h λx15 dY h=>(X 5 2 (sO (bi (rows:=List.map bR [IntKind.u8.wrap p1]) (vs:=[.int .u8 (IntKind.u8.wrap p1)]) Ue Uu J J J J J J (sO (pn (xs:=[IntKind.u8.wrap p1]) Wh Wl We J J (Y 1 3 (sQ (kW J J cm (sO (cF (Be dY) ⟨J,(Y 13 3 (TH h J (λda h=>?_) (λda h=>?_)))⟩)))))))))))
   .refine X 7 3 ?_;replace h:=mi h wF;cases h;exact tD
   refine B h λx17 cE h=>(X 8 3 (sO (cD (AI cE) ⟨J,(Y 11 3 (TH h J (λtI h=>?_) (λtI h=>?_)))⟩)))
   .refine X 8 3 ?_;replace h:=mi h wF;cases h;exact tD
   exact B h λx18 cI h=>(X 10 3 (sO (nA TN (λ_=>J) J J J cI (Y 2 3 (lk h (wk [] [0,1] 3 J))))))
  refine X 1 2 ?_;replace h:=mi h wF;refine X 8 2 ?_;cases h;exact tD
 refine X 5 2 (gp 25 (λae=>?_) (λae=>?_))
 .refine Yp 12 2 ?_;rw[ae]at hK;exact sx hK
 refine Yp 4 2 (gp 29 (λaq=>?_) (λaq=>?_))
 .refine Yp 8 2 ?_;rw[ae]at hK;rw[aq]at hK;exact sx hK
 refine Yp 4 2 (gp 33 (λaD=>?_) (λaD=>?_))
 .refine Yp 4 2 ?_;rw[ae]at hK;rw[aq]at hK;rw[aD]at hK;exact sx hK
 refine Yp 4 2 ?_;rw[ae]at hK;rw[aq]at hK;rw[aD]at hK;exact sx hK
theorem HS {p1:U Node}{r:Int×(U (U UInt8))×(U Write)×Int×Int}(h:rm p0 p1 p2 p3 p4 p5 p6 p7 p8 p9 p10 p11 p12 p13 p14 p15 p16 p17 p18=some r):FnX QbP 19 [.ptr 0 0,iI p0] [.box [sL an p1,iI p2,iI p3,sL (ai aa) p4,sL aj p5,sL (ai aa) p6,sL aC p7,sL ao p8,sL aa p9,sL aT p10,sL be p11,iI p12,iI p13,iI p14,iI p15,iI p16,.ref 1,.bool p17],aR 68 3 aa p18] (iI r.1) [.box [sL an p1,iI p2,iI p3,sL (ai aa) p4,sL aj p5,sL (ai aa) p6,sL aC p7,sL ao p8,sL aa p9,sL aT r.2.1,sL be r.2.2.1,iI r.2.2.2.1,iI p13,iI p14,iI p15,iI r.2.2.2.2,.ref 1,.bool p17],aR 68 3 aa p18]:=by
 unfold rm at h;refine fT 2 13 Tryz.func19 Tryz.ntmps19 J (TH h J (λah h=>?_) (λah h=>?_))
 .refine X 4 2 ?_;cases h;exact tN [0,1]
 refine B h λx3 hx3 h=>(B h λx4 hx4 h=>(X 2 2 (T.drawn mixed (k:=31) J ?_)))
 apply TG 3 (bm 31 268435455);intro hS2
 .refine rq [0,1,2,4,5,6,8,9,10,12,13,14,15,17,18,19] 15 (rL [16,21,22,23,24,25,26,28,29,30] 16 J (rL [20,21,22,23,24,25,26,28,29,30] 20 J (r0 21 J (pB TN (λ_=>J) J J J hx3 (rL [3,22,23,24,25,26,28,29,30] 3 J (rL [7,22,23,24,25,26,28,29,30] 7 J (rL [11,22,23,24,25,26,28,29,30] 11 J (ra2 22 27 ?_ ?_))))))))
  .exact oO J (cD (AQ hx4) ⟨J,(rq [23,24,25,26] 4 (ra1 27 (og 2 ⟨J,(raE hS2)⟩)))⟩)
  .exact og 2 ⟨J,(ra1 22 (oO J (cD (AQ hx4) ⟨J,(rq [23,24,25,26] 3 (raT hS2))⟩)))⟩
 refine ra1 28 (og 3 ⟨J,(rq [29,30] 0 (RA.done (by decide+kernel) (X 6 3 (TH h J (λaq h=>?_) (λaq h=>?_)))))⟩)
 .refine X 5 3 ?_;cases h;exact tN [0,1]
 refine X 2 3 (T.drawn mixed (k:=20) J (rq [0,1,2,4,5,6,7,8] 12 (rL [9,10,11,12,13,14,15,16,17,18,19] 9 J (r0 10 J (al TN J (ra1 3 (og 3 ⟨J,(rq [11,12] 7 (ra1 13 (og 3 ⟨J,?_⟩)))⟩)))))));refine rq [14,15] 4 (ra1 16 (og 3 ⟨J,(rq [17,18] 1 (ra1 19 (og 3 ⟨J,(RA.done (by decide+kernel) (X 4 3 ?_))⟩)))⟩));cases h;exact tN [0,1]
theorem H6 {p0:U Write}{p1 r:U (U UInt8)}(h:rB p0 p1=some r):FnX QbP 89 [.ref 0,sL be p0] [aR 9 1 aT p1] (.ref 1) [.dead,aR 9 1 aT r]:=by
 unfold rB at h;refine fT 1 0 Tryz.func89 Tryz.ntmps89 J ?_;refine US 0 0 J J J J (X 8 2 (sQ (al T5 J (Y 3 2 (itr (λdi:Int×(U (U UInt8))=>mkA 29 [(0,.ref 1),(7,sL be p0),(8,iI ((p0).length:Int)),(9,iI di.1)]) (λdi=>[.dead,aR 9 1 aT di.2]) h (wk [] [0,1] 2 J) (λdi v_16 h mz=>?_))))));obtain⟨s1,s2⟩:=di;replace h:mJ p0 s1 s2=some v_16:=h;try dsimp only
 unfold mJ at h;refine X 5 2 (TH h J (λgE h=>?_) (λgE h=>?_))
 .refine B h λx4 hx4 h=>(X 5 2 (sQ (aG T5 (λ_=>J) J J hx4 (Y 6 2 (itr (λdz:U (U UInt8)=>mkA 29 [(0,.ref 1),(6,.ptr 2 0),(7,sL be p0),(8,iI ((p0).length:Int)),(9,iI s1)]) (λdz=>[.dead,aR 9 1 aT dz,.box (be x4)]) h (wk [] [0,1,2] 3 J) (λdz v_21 h oz=>?_))))))
  revert oz h;revert dz;intro s5 h oz;replace h:uz s1 x4 s5=some v_21:=h;try dsimp only
  unfold uz at h;refine X 4 3 (sQ (cn (en:=aT) TW J J (Y 4 3 (TH h J (λlf h=>?_) (λlf h=>?_)))))
  .exact B h λx6 hx6 h=>(X 4 3 (sO (bi (rows:=List.map aT [[]]) (vs:=[.str []]) TW UQ J J J J J J (sO (bU (en:=aT) (xs:=s5) (ys:=([[]]:U (U UInt8))) TW (λ_=>J) J J J hx6 J J (Y 2 5 (lk h (wk [] [0,4,2] 5 J))))))))
  refine X 1 3 ?_;replace h:=mi h oz;exact B h λx7 hx7 h=>(B h λx8 hx8 h=>(X 6 3 (sQ (aM (en:=aT) TW J J J hx7 (sO (e9 (en:=aT) (a:=x8) (a':=x4.Bytes) Vv Vu J (vs:=[.str x4.Bytes]) J J J hx8 J J J (Y 5 3 (lk h (wk [] [0,1] 3 J)))))))))
 refine X 1 2 ?_;replace h:=mi h mz;refine X 5 2 ?_;cases h;exact tO [] [0,1] 2
theorem Bq {p0:Disk}{r:Disk×Int}(h:kM p0 p1=some r):Fn QbP 49 [.agg (cw p0),iI p1] (.tup [.agg (cw r.1),iI r.2]):=by
 unfold kM at h;refine fT 0 0 Tryz.func49 Tryz.ntmps49 J ?_;refine B h λx2 hx2 h=>(X 10 0 (sO (cF (nc hx2) ⟨J,(Y 7 2 (TH h J (λah h=>?_) (λah h=>?_)))⟩)))
 .refine X 7 2 ?_;cases h;exact tD
 refine X 2 2 (j1 [(1,iI p1),(2,.ptr 0 0),(4,.ptr 1 0),(21,.bool ((decide (p1<0))||decide (p1> ((p0.Wait).length:Int))))] [.box (cw p0),.box [.nils,.nils]] ?_ (λhK=>?_))
 .refine TH h J (λaq h=>?_) (λaq h=>?_)
  .refine X 6 2 ?_;cases h;exact tD
  refine B h λx7 hx7 h=>(B h λx8 hx8 h=>(B h λx9 hx9 h=>(X 2 2 (T.drawn mixed (k:=11) J ?_))))
  apply TG 4 (bm 11 127);intro hS4;apply TG 5 (bm 11 123);intro hS5
  .refine rq [0,3,5] 8 (ra2 1 4 ?_ ?_)
   .refine og 2 ⟨J,(ra2 2 4 ?_ ?_)⟩
    .exact oO J (cO 2 (ly hx7) ⟨J,(ra1 4 (og 3 ⟨J,(r0 6 J (pB T5 (λ_=>J) J J J hx8 (raE hS4)))⟩))⟩)
    .exact og 2 ⟨J,(r0 6 J (pB T5 (λ_=>J) J J J hx8 (raE hS5)))⟩
   .exact og 2 ⟨J,(r0 6 J (pB T5 (λ_=>J) J J J hx8 (ra1 1 (og 2 ⟨J,(raT hS5)⟩))))⟩
  .exact ra1 2 (oO J (cO 2 (ly hx7) ⟨J,(raT hS4)⟩))
  refine ra1 7 (oO J (cG [2] 3 2 (H6 hx9) ⟨J,(rq [8] 2 (ra1 9 (og 4 ⟨J,(rq [10] 0 (RA.done (by decide+kernel) ?_))⟩)))⟩));cases h;exact tD
 refine X 5 2 (gp 15 (λae=>?_) (λae=>?_))
 .refine Yp 7 2 ?_;rw[ae]at hK;exact sx hK
 refine Y 3 2 (yQ J (al T5 J (Yp 3 2 ?_)));rw[ae]at hK;exact sx hK
theorem IS {p0:Disk}{r:Disk×Int}(h:pu p0=some r):Fn QbP 47 [.agg (cw p0)] (.tup [.agg (cw r.1),iI r.2]):=by
 unfold pu at h;refine fT 0 0 Tryz.func47 Tryz.ntmps47 J ?_;refine B h λx2 hx2 h=>(X 11 0 (sQ (al T5 J (sO (cD (Bq hx2) ⟨J,(Y 5 2 ?_)⟩)))))
 cases h;exact tD
theorem HT {p1:U Node}{r:Int×(U (U UInt8))×(U Write)×Int×Int×Int×Int×Int}(h:rl p0 p1 p2 p3 p4 p5 p6 p7 p8 p9 p10 p11 p12 p13 p14 p15 p16 p17 p18=some r):FnX QbP 20 [.ptr 0 0,iI p0] [.box [sL an p1,iI p2,iI p3,sL (ai aa) p4,sL aj p5,sL (ai aa) p6,sL aC p7,sL ao p8,sL aa p9,sL aT p10,sL be p11,iI p12,iI p13,iI p14,iI p15,iI p16,.ref 1,.bool p17],aR 68 3 aa p18] (iI r.1) [.box [sL an p1,iI p2,iI p3,sL (ai aa) p4,sL aj p5,sL (ai aa) p6,sL aC p7,sL ao p8,sL aa p9,sL aT r.2.1,sL be r.2.2.1,iI r.2.2.2.1,iI r.2.2.2.2.1,iI r.2.2.2.2.2.1,iI r.2.2.2.2.2.2.1,iI r.2.2.2.2.2.2.2,.ref 1,.bool p17],aR 68 3 aa p18]:=by
 unfold rl at h;refine fT 2 0 Tryz.func20 Tryz.ntmps20 J ?_;refine B h λx2 hx2 h=>(X 11 2 (sO (cD (IS hx2) ⟨J,(Y 27 2 (TH h J (λah h=>?_) (λah h=>?_)))⟩)))
 .refine X 16 2 (T.drawn mixed (k:=20) J (rq [0,1,2,3,4,5,7,8,9] 11 (rL [6,11,12,13,14,15,16,17,18,19] 6 J (ra1 10 (og 2 ⟨J,(rq [11,12] 7 (ra1 13 (og 2 ⟨J,(rq [14,15] 4 ?_)⟩)))⟩)))));refine ra1 16 (og 2 ⟨J,(rq [17,18] 1 (ra1 19 (og 2 ⟨J,(RA.done (by decide+kernel) (X 4 2 ?_))⟩)))⟩);cases h;exact tN [0,1]
 refine X 5 2 ?_;cases h;exact tN [0,1]
theorem HO {p0:Item}(h:uB p0 p1=some r):FnX QbP 115 [.agg (aa p0),.ptr 0 0] [.box [iI p1]] (.bool r) [.box [iI p1]]:=by unfold uB at h;refine fT 1 13 Tryz.func115 Tryz.ntmps115 J ?_;cases h;exact tN [0]
theorem Ht {p0:U Item}{r:Int}(h:q4 p0 p1=some r):FnX QbP 108 [sL aa p0,.func 115 [.ptr 0 0]] [.box [iI p1]] (iI r) [.box [iI p1]]:=by
 unfold q4 at h;refine fT 1 8 Tryz.func108 Tryz.ntmps108 J (sQ (al TL J (Y 3 1 (itr (λak:Int=>mkA 19 [(0,sL aa p0),(1,.func 115 [.ptr 0 0]),(7,iI ((p0).length:Int)),(8,iI ak)]) (λak=>[.box [iI p1]]) h (wk [] [0] 1 J) (λak v_6 h bg=>?_)))));revert bg h;revert ak;intro s1 h bg;replace h:oG p0 p1 s1=some v_6:=h;try dsimp only
 unfold oG at h;refine X 5 1 (TH h J (λbH h=>?_) (λbH h=>?_))
 .refine B h λx4 hx4 h=>(B h λx5 hx5 h=>(X 13 1 (sQ (aG TL (λ_=>J) J J hx4 (Y 1 1 (sO (cG [0] 1 1 (HO hx5) ⟨J,(Y 1 1 (TH h J (λbF h=>?_) (λbF h=>?_)))⟩)))))))
  .refine X 5 1 ?_;replace h:=mi h bg;cases h;exact tN [0]
  exact X 5 1 (lk h (wk [] [0] 1 J))
 refine X 1 1 ?_;replace h:=mi h bg;refine X 4 1 ?_;cases h;exact tN [0]
theorem I0 {p0:U Item}{r:Int×Int}(h:sh p0 p1=some r):Fn QbP 88 [sL aa p0,iI p1] (.tup [iI r.1,iI r.2]):=by
 unfold sh at h;refine fT 0 10 Tryz.func88 Tryz.ntmps88 J (sQ (al TL J (Y 2 1 (TH h J (λah h=>?_) (λah h=>?_)))))
 .refine X 5 1 ?_;cases h;exact tD
 refine X 2 1 (j1 [(0,sL aa p0),(3,.ptr 0 0),(15,.bool ((decide (p1<0))||decide (p1> 500)))] [.box [iI p1]] ?_ (λhK=>?_))
 .refine TH h J (λaq h=>?_) (λaq h=>?_)
  .refine X 5 1 ?_;cases h;exact tD
  refine B h λx3 hx3 h=>(X 5 1 (sO (cG [0] 1 1 (Ht hx3) ⟨J,(Y 8 1 (TH h J (λaD h=>?_) (λaD h=>?_)))⟩)))
  .refine X 3 1 (sQ (al TL J (Y 3 1 ?_)));cases h;exact tD
  refine X 7 1 ?_;cases h;exact tD
 refine X 5 1 (gp 12 (λae=>?_) (λae=>?_))
 .refine Yp 4 1 ?_;rw[ae]at hK;exact sx hK
 refine Yp 4 1 ?_;rw[ae]at hK;exact sx hK
theorem Ic {p0 p1:Item}(h:uJ p0 p1=some r):Fn QbP 27 [.agg (aa p0),.agg (aa p1)] (.bool r):=by
 unfold uJ at h;refine fT 0 6 Tryz.func27 Tryz.ntmps27 J (j1 [(4,.bool ((p0.Key==p1.Key)&&p0.Val==p1.Val))] [] ?_ (λhK=>?_))
 .cases h;exact tD
 refine X 8 2 (gp 10 (λah=>?_) (λah=>?_))
 .refine Yp 8 2 ?_;rw[ah]at hK;exact wu hK [] [] 2 J
 refine Yp 8 2 ?_;rw[ah]at hK;exact wu hK [] [] 2 J
theorem Hk {p0 p1:U Item}(h:qQ p0 p1=some r):Fn QbP 26 [sL aa p0,sL aa p1,.func 27 []] (.bool r):=by
 unfold qQ at h;refine fT 0 8 Tryz.func26 Tryz.ntmps26 J (sQ (al TL J (Y 1 0 (sQ (al TL J (Y 2 0 (TH h J (λah h=>?_) (λah h=>?_))))))))
 .refine X 4 0 ?_;cases h;exact tD
 refine X 5 0 (sQ (al TL J (Y 3 0 (itr (λbO:Int=>mkA 32 [(1,sL aa p1),(2,.func 27 []),(15,sL aa p0),(16,iI ((p0).length:Int)),(17,iI bO)]) (λbO=>[]) h (wk [] [] 0 J) (λbO v_7 h ir=>?_)))));revert ir h;revert bO;intro s1 h ir;replace h:qP p0 p1 s1=some v_7:=h;try dsimp only
 unfold qP at h;refine X 5 0 (TH h J (λbF h=>?_) (λbF h=>?_))
 .refine B h λx3 hx3 h=>(X 6 0 (sQ (aG TL (λ_=>J) J J hx3 (B h λx5 hx5 h=>(Y 9 0 (sQ (aG TL (λ_=>J) J J hx5 (B h λx7 hx7 h=>(Y 9 1 (sO (cF (Ic hx7) ⟨J,(Y 2 2 ?_)⟩)))))))))))
  refine TH h J (λdP h=>?_) (λdP h=>?_)
  .refine X 4 2 ?_;replace h:=mi h ir;cases h;exact tD
  exact X 5 2 (lk h (wk [] [] 2 J))
 refine X 1 0 ?_;replace h:=mi h ir;refine X 4 0 ?_;cases h;exact tD
theorem xg {p0 p1:U Item}(h:lP p0 p1=some r):Fn QbP 8 [sL aa p0,sL aa p1] (.bool r):=by
 unfold lP at h;refine fT 0 4 Tryz.func8 Tryz.ntmps8 J ?_;obtain⟨zQ,hz,h⟩:=bind_some h;revert hz h;revert zQ;intro c3 hz h;refine j1 [(4,.bool c3)] [] ?_ (λhK=>?_)
 .cases h;exact tD
 refine X 3 0 (sQ (al TL J (Y 1 0 (sQ (al TL J (Y 2 0 (gi 10 hz (λah hz=>?_) (λah hz=>?_))))))))
 .refine B hz λx1 hx1 hz=>(B hz λx2 hx2 hz=>(Y 3 0 (yQ J (al TL J (yO J (nA TL (λ_=>J) J J J hx1 (yO J (cF (Hk hx2) ⟨J,(Yp 3 0 ?_)⟩))))))))
  cases hz;exact sx hK
 refine Yp 9 0 ?_;cases hz;exact sx hK
theorem xk {p0:U Item}{r:(U Item)×Int}(h:kw p0=some r):FnO QbP 37 [sL aa p0] (.tup [.ref 0,iI r.2]) [aR 68 3 aa r.1]:=by
 unfold kw at h;refine fT 0 9 Tryz.func37 Tryz.ntmps37 J (sQ (al TL J (Y 2 0 (TH h J (λah h=>?_) (λah h=>?_)))))
 .refine X 5 0 ?_;cases h;exact tO [(0,68,3)] [0] 0
 refine B h λx2 hx2 h=>(X 4 0 (sO (cO 0 (iP hx2) ⟨J,(Y 6 1 (sQ (cn (en:=aa) TL J J (Y 3 1 (itr (λeP:Int×(U Item)=>mkA 22 [(4,.ref 0),(12,iI ((x2).length:Int)),(13,iI eP.1)]) (λeP=>[aR 68 3 aa eP.2]) h (wk [] [0] 1 J) (λeP v_5 h z6=>?_))))))⟩)))
 obtain⟨s3,s4⟩:=eP;replace h:iS x2 s3 s4=some v_5:=h;try dsimp only
 unfold iS at h;refine X 5 1 (TH h J (λaV h=>?_) (λaV h=>?_))
 .exact B h λx5 hx5 h=>(B h λx6 hx6 h=>(X 11 1 (sQ (aM (en:=aa) TL J J J hx5 (Y 1 1 (sO (e9 (en:=aa) (a:=x6) (a':=(⟨x6.Key,x6.Val,0⟩:Item)) Uc UD J (vs:=[iI 0]) J J J hx6 J J J (Y 5 1 (lk h (wk [] [0] 1 J))))))))))
 refine X 1 1 ?_;replace h:=mi h z6;refine X 6 1 ?_;cases h;exact tO [] [0] 1
theorem Iu {p0 p1:U Item}{r:(U Item)×Int}(h:rS p0 p1 p2=some r):FnO QbP 48 [sL aa p0,sL aa p1,iI p2] (.tup [.ref 0,iI r.2]) [aR 68 3 aa r.1]:=by
 unfold rS at h;refine fT 0 9 Tryz.func48 Tryz.ntmps48 J (sQ (al TL J (Y 2 0 (TH h J (λah h=>?_) (λah h=>?_)))))
 .refine X 5 0 ?_;cases h;exact tO [(0,68,3)] [0] 0
 refine B h λx2 hx2 h=>(X 5 0 (sO (cF (I0 hx2) ⟨J,(Y 12 0 (TH h J (λae h=>?_) (λae h=>?_)))⟩)))
 .refine X 6 0 ?_;cases h;exact tO [(0,68,3)] [0] 0
 refine B h λx3 hx3 h=>(X 2 0 ?_)
 obtain⟨tZ,hz,h⟩:=bind_some h;revert hz h;revert tZ;intro c5 hz h;refine j1 [(0,sL aa p0),(1,sL aa p1),(8,iI x2.1),(31,.bool c5)] [] ?_ (λhK=>?_)
 .refine TH h J (λaN h=>?_) (λaN h=>?_)
  .refine X 5 0 ?_;cases h;exact tO [(0,68,3)] [0] 0
  refine X 6 0 (sQ (al TL J (Y 2 0 (TH h J (λaV h=>?_) (λaV h=>?_)))))
  .refine X 5 0 ?_;cases h;exact tO [(0,68,3)] [0] 0
  refine B h λx8 hx8 h=>(B h λx9 hx9 h=>(X 5 0 (sQ (al TL J (Y 1 0 (sO (nA TL (λ_=>J) J J J hx8 (sO (cO 0 (xk hx9) ⟨J,(Y 5 1 ?_)⟩)))))))))
  cases h;exact tO [] [0] 1
 refine X 4 0 (sO (cF (xg hx3) ⟨J,(Y 2 0 (gi 26 hz (λaq hz=>?_) (λaq hz=>?_)))⟩))
 .refine B hz λx4 hx4 hz=>(Y 2 0 (yO J (cF (xg hx4) ⟨J,(Yp 3 0 ?_)⟩)))
  cases hz;exact sx hK
 refine Yp 6 0 ?_;cases hz;exact sx hK
theorem H1 {p1:U Node}{r:Int×(U Item)}(h:rp p0 p1 p2 p3 p4 p5 p6 p7 p8 p9 p10 p11 p12 p13 p14 p15 p16 p17 p18=some r):FnX QbP 21 [.ptr 0 0,iI p0] [.box [sL an p1,iI p2,iI p3,sL (ai aa) p4,sL aj p5,sL (ai aa) p6,sL aC p7,sL ao p8,sL aa p9,sL aT p10,sL be p11,iI p12,iI p13,iI p14,iI p15,iI p16,.ref 1,.bool p17],aR 68 3 aa p18] (iI r.1) [.box [sL an p1,iI p2,iI p3,sL (ai aa) p4,sL aj p5,sL (ai aa) p6,sL aC p7,sL ao p8,sL aa p9,sL aT p10,sL be p11,iI p12,iI p13,iI p14,iI p15,iI p16,.ref 2,.bool p17],.dead,aR 68 3 aa r.2]:=by
 unfold rp at h;refine fT 2 0 Tryz.func21 Tryz.ntmps21 J ?_;refine mO 0 16 1 2 (B h λx2 hx2 h=>(X 5 3 (T.drawn mixed (k:=19) J (rq [0,1,2,4,5,6,7,9,10,11] 9 (rL [3,13,14,15,16,17,18] 3 J (rL [8,13,14,15,16,17,18] 8 J (ra1 12 (og 3 ⟨J,(ra1 13 ?_)⟩))))))));refine oO J (cO 3 (Iu hx2) ⟨J,(rq [14,15,16,17,18] 0 (RA.done (by decide+kernel) (X 6 4 (TH h J (λah h=>?_) (λah h=>?_)))))⟩)
 .refine X 5 4 ?_;cases h;exact tN [0,1,2]
 refine B h λx4 hx4 h=>(X 9 4 (sO (bU (en:=aa) (xs:=p18) (ys:=x2.1) TL (λ_=>J) J J J hx4 J J (Y 8 5 ?_))))
 cases h;exact tN [0,1,4]
theorem H5 {p1:U Node}{r:Int×(U Int)×(U (U Item))×(U Memory)×(U Choice)×(U Item)×(U (U UInt8))×(U Write)×Int×Int×Int×Int×Int×Bool}(h:rr p0 p1 p2 p3 p4 p5 p6 p7 p8 p9 p10 p11 p12 p13 p14 p15 p16 p17 p18=some r):FnX QbP 22 [.ptr 0 0,iI p0] [.box [sL an p1,iI p2,iI p3,sL (ai aa) p4,sL aj p5,sL (ai aa) p6,sL aC p7,sL ao p8,sL aa p9,sL aT p10,sL be p11,iI p12,iI p13,iI p14,iI p15,iI p16,.ref 1,.bool p17],aR 68 3 aa p18] (iI r.1) [.box [sL an p1,iI p2,iI p3,sL (ai aa) p4,sL aj r.2.1,sL (ai aa) r.2.2.1,sL aC r.2.2.2.1,sL ao r.2.2.2.2.1,sL aa r.2.2.2.2.2.1,sL aT r.2.2.2.2.2.2.1,sL be r.2.2.2.2.2.2.2.1,iI r.2.2.2.2.2.2.2.2.1,iI r.2.2.2.2.2.2.2.2.2.1,iI r.2.2.2.2.2.2.2.2.2.2.1,iI r.2.2.2.2.2.2.2.2.2.2.2.1,iI r.2.2.2.2.2.2.2.2.2.2.2.2.1,.ref 1,.bool r.2.2.2.2.2.2.2.2.2.2.2.2.2],aR 68 3 aa p18]:=by
 unfold rr at h;refine fT 2 0 Tryz.func22 Tryz.ntmps22 J ?_;refine B h λx2 hx2 h=>(X 11 2 (sO (cD (Bq hx2) ⟨J,(Y 13 2 (TH h J (λah h=>?_) (λah h=>?_)))⟩)))
 .refine X 5 3 ?_;cases h;exact tN [0,1]
 refine B h λx4 hx4 h=>(X 2 3 (T.drawn mixed (k:=15) J ?_))
 apply TG 2 (bm 15 8191);intro hS2
 .refine rq [0,1,2,4,5,6] 9 (rL [3,8,9,10,11,13,14] 3 J (rL [7,8,9,10,11,13,14] 7 J (ra2 8 12 ?_ ?_)))
  .exact oO J (cG [] 3 5 (TR (m6 hx4)) ⟨J,(rq [9,10,11] 3 (ra1 12 (og 8 ⟨J,(raE hS2)⟩)))⟩)
  .exact og 3 ⟨J,(ra1 8 (oO J (cG [] 4 5 (TR (m6 hx4)) ⟨J,(rq [9,10,11] 2 (raV hS2 [0,1,2,4,5,6,7,8,3] J))⟩)))⟩
 refine ra1 13 (og 9 ⟨J,(rq [14] 0 (RA.done (by decide+kernel) (X 1 9 (T.drawn mixed (k:=34) J ?_))))⟩);apply TG 19 (bm 34 32767);intro hS3
 .refine rq [0,1,2,3,4,5,6,7] 26 (rL [8,10,11,12,13,14,15,16,17,18,19,20,21,22,23,24,25,26,27,28,29,30,31,32,33] 8 J (rq [10,11] 23 (ra2 9 12 ?_ ?_)))
  .exact og 9 ⟨J,(ra1 12 (og 9 ⟨J,(rq [13,14] 19 (raE hS3))⟩))⟩
  .exact og 9 ⟨J,(ra1 9 (og 9 ⟨J,(rq [13,14] 19 (raT hS3))⟩))⟩
 refine ra1 15 (og 9 ⟨J,(rq [16,17] 16 (ra1 18 (og 9 ⟨J,(rq [19,20] 13 (ra1 21 (og 9 ⟨J,(rq [22,23] 10 (ra1 24 ?_))⟩)))⟩)))⟩);refine og 9 ⟨J,(rq [25,26] 7 (ra1 27 (og 9 ⟨J,(rq [28,29] 4 (ra1 30 (og 9 ⟨J,(rq [31,32] 1 (ra1 33 (og 9 ⟨J,?_⟩)))⟩)))⟩)))⟩;refine RA.done (by decide+kernel) (X 4 9 (T.fC 3 (T.fC 4 (T.fC 5 (T.fC 6 (T.fC 7 ?_))))));cases h;exact tN [0,1]
theorem AP {p0:U UInt8}{r:(U (U UInt8))×Int×Int}(h:px p0=some r):FnO QbP 93 [.str p0] (.tup [.ref 0,iI r.2.1,iI r.2.2]) [aR 9 1 aT r.1]:=by
 unfold px at h;refine fT 0 13 Tryz.func93 Tryz.ntmps93 J (TH h J (λah h=>?_) (λah h=>?_))
 .refine X 6 0 ?_;cases h;exact tO [(0,9,1)] [0] 0
 refine X 3 0 (itr (λcj:Int×(U (U UInt8))=>mkA 66 [(0,.str p0),(2,.ref 0),(3,iI cj.1)]) (λcj=>[aR 9 1 aT cj.2]) h (wk [(2,9,1)] [0] 0 J) (λcj v_13 h lj=>?_));obtain⟨s1,s2⟩:=cj;replace h:iu p0 s1 s2=some v_13:=h;try dsimp only
 unfold iu at h;refine X 8 1 (TH h J (λox h=>?_) (λox h=>?_))
 .refine B h λx4 hx4 h=>(X 6 1 (sO (ng We J J J hx4 (B h λx6 hx6 h=>(Y 5 1 (sQ (dq We J J hx6 (Y 4 1 (j1 [(0,.str p0),(2,.ref 0),(3,iI s1),(5,.str x4),(6,iI (IntKind.i64.wrap (x6.toNat:Int))),(33,.bool ((decide ((IntKind.i64.wrap (x6.toNat:Int))<1))||((decide ((IntKind.i64.wrap (x6.toNat:Int))> 60))||decide (((x4).length:Int)<(IntKind.i64.wrap ((IntKind.i64.wrap (x6.toNat:Int))+3))))))] [aR 9 1 aT s2] ?_ (λhK=>?_))))))))))
  .refine TH h J (λgE h=>?_) (λgE h=>?_)
   .refine X 1 1 ?_;replace h:=mi h lj;refine X 8 1 ?_;cases h;exact tO [] [0] 1
   refine B h λx10 aY h=>(B h λx11 bw h=>(X 6 1 (sO (ng We J J J aY (sO (cF (A7 bw) ⟨J,(B h λx15 dY h=>(B h λx16 e6 h=>(B h λx17 cE h=>(Y 4 1 (T.drawn mixed (k:=14) J ?_)))))⟩))))))
   refine rq [0,1,2] 11 (r0 3 J (dq We J J dY (rq [4] 9 (r0 5 J (v_shl J J e6 (rq [6,7,8] 5 (r0 9 J (dq We J J cE (rq [10,11,12,13] 0 (RA.done (by decide+kernel) (TH h J (λda h=>?_) (λda h=>?_))))))))))))
   .refine X 1 1 ?_;replace h:=mi h lj;refine X 8 1 ?_;cases h;exact tO [] [0] 1
   exact B h λx20 ee h=>(B h λx21 ju h=>(X 7 1 (sO (ng We J J J ee (sO (bi (rows:=List.map aT [x20]) (vs:=[.str x20]) TW UQ J J J J J J (sO (bU (en:=aT) (xs:=s2) (ys:=([x20]:U (U UInt8))) TW (λ_=>J) J J J ju J J (Y 9 3 (lk h (wk [] [2] 3 J)))))))))))
  refine X 5 1 (gp 23 (λfY=>?_) (λfY=>?_))
  .refine Yp 11 1 ?_;rw[fY]at hK;exact sx hK
  refine Yp 4 1 (gp 27 (λg8=>?_) (λg8=>?_))
  .refine Yp 7 1 ?_;rw[fY]at hK;rw[g8]at hK;exact sx hK
  refine Yp 7 1 ?_;rw[fY]at hK;rw[g8]at hK;exact sx hK
 refine X 1 1 ?_;replace h:=mi h lj;refine X 8 1 ?_;cases h;exact tO [] [0] 1
theorem An {p2:U (U UInt8)}{p3:U Write}{r:(U UInt8)×Bool}(h:oY p0 p1 p2 p3=some r):FnX QbP 116 [iI p0,.ptr 0 0,.ptr 1 0] [.box [iI p1],.box [sL aT p2,sL be p3]] (.tup [.str r.1,.bool r.2]) [.box [iI p1],.box [sL aT p2,sL be p3]]:=by
 unfold oY at h;refine fT 2 19 Tryz.func116 Tryz.ntmps116 J (sQ (al TW J (Y 2 2 (TH h J (λah h=>?_) (λah h=>?_)))))
 .refine X 5 2 ?_;cases h;exact tN [0,1]
 refine B h λx3 hx3 h=>(B h λx4 hx4 h=>(X 6 2 (sQ (aG TW (λ_=>J) J J hx3 (Y 1 2 (sO (cO 2 (AP hx4) ⟨J,(Y 9 3 ?_)⟩)))))))
 obtain⟨zP,hz,h⟩:=bind_some h;revert hz h;revert zP;intro c11 hz h;refine j1 [(7,.ref 2),(57,.bool c11)] [.box [iI p1],.box [sL aT p2,sL be p3],aR 9 1 aT x4.1] ?_ (λhK=>?_)
 .refine TH h J (λaV h=>?_) (λaV h=>?_)
  .refine X 5 3 ?_;cases h;exact tN [0,1]
  refine B h λx14 cm h=>(B h λx15 dY h=>(X 4 3 (sQ (aM (en:=aT) TW J J J cm (sO (aO (en:=aT) (a:=x15) J J dY (aI UC (c:=.str x15) J (Y 3 3 ?_))))))))
  cases h;exact tN [0,1]
 refine X 3 3 (sQ (cn (en:=aT) TW J J (Y 2 3 (gi 32 hz (λae hz=>?_) (λae hz=>?_)))))
 .refine Yp 26 3 ?_;cases hz;exact sx hK
 refine B hz λx5 hx5 hz=>(Y 4 3 (yQ J (aG TW (λ_=>J) J J hx5 (Yp 5 3 (gi 42 hz (λaq hz=>?_) (λaq hz=>?_))))))
 .refine Yp 16 3 ?_;cases hz;exact sx hK
 refine B hz λx6 hx6 hz=>(B hz λx7 hx7 hz=>(Y 1 3 (yQ J (aM (en:=aT) TW J J J hx6 (yO J (aO (en:=aT) (a:=x7) J J hx7 (aI UC (c:=.str x7) J (Yp 4 3 (gi 49 hz (λaD hz=>?_) (λaD hz=>?_))))))))))
 .refine Yp 9 3 ?_;cases hz;exact sx hK
 refine B hz λx8 hx8 hz=>(B hz λx9 hx9 hz=>(B hz λx10 aY hz=>(Y 1 3 (yQ J (aM (en:=aT) TW J J J hx8 (yO J (aO (en:=aT) (a:=x9) J J hx9 (aI UC (c:=.str x9) J (yQ J (dq We J J aY (Yp 5 3 ?_)))))))))))
 cases hz;exact sx hK
theorem JO {p0:Disk}{r:(U UInt8)×Int×Int}(h:pR p0 p1=some r):Fn QbP 90 [.agg (cw p0),iI p1] (.tup [.str r.1,iI r.2.1,iI r.2.2]):=by
 unfold pR at h;refine fT 0 0 Tryz.func90 Tryz.ntmps90 J ?_;refine B h λx2 hx2 h=>(X 12 0 (sO (cF (nc hx2) ⟨J,(Y 7 2 (TH h J (λah h=>?_) (λah h=>?_)))⟩)))
 .refine X 7 2 ?_;cases h;exact tD
 refine X 2 2 (j1 [(2,.ptr 0 0),(3,.ptr 1 0),(4,.str []),(25,.bool ((decide (p1<0))||decide (p1> 1)))] [.box (cw p0),.box [iI p1]] ?_ (λhK=>?_))
 .refine TH h J (λaq h=>?_) (λaq h=>?_)
  .refine X 6 2 ?_;cases h;exact tD
  refine B h λx5 hx5 h=>(X 9 2 (sO (cG [1,0] 2 2 (An hx5) ⟨J,(Y 7 2 ?_)⟩)))
  obtain⟨zZ,hz,h⟩:=bind_some h;revert hz h;revert zZ;intro c8 hz h;refine j1 [(4,.str []),(8,.func 116 [.ptr 0 0,.ptr 1 0]),(9,.str x5.1),(50,.bool c8)] [.box [iI p1],.box (cw p0)] ?_ (λhK=>?_)
  .refine TH h J (λbF h=>?_) (λbF h=>?_)
   .refine X 6 2 ?_;cases h;exact tD
   refine X 7 2 (itr (λdG:(U UInt8)×Int=>mkA 112 [(4,.str dG.1),(8,.func 116 [.ptr 0 0,.ptr 1 0]),(9,.str x5.1),(11,iI dG.2)]) (λdG=>[.box [iI p1],.box (cw p0)]) h (wk [] [0,1] 2 J) (λdG v_30 h gZ=>?_));obtain⟨s9,s10⟩:=dG;replace h:nj p0 p1 x5 s9 s10=some v_30:=h;try dsimp only
   unfold nj at h;refine B h λx12 bx h=>(X 5 2 (sQ (dq We J J bx (Y 3 2 (TH h J (λot h=>?_) (λot h=>?_))))))
   .refine B h λx14 cm h=>(X 7 2 (sO (cG [0,1] 2 2 (An cm) ⟨J,(Y 6 2 ?_)⟩)))
    obtain⟨Q6,hz,h⟩:=bind_some h;revert hz h;revert Q6;intro c16 hz h;refine j1 [(4,.str s9),(8,.func 116 [.ptr 0 0,.ptr 1 0]),(9,.str x5.1),(11,iI s10),(12,.str x14.1),(13,.bool x14.2),(14,.bool c16)] [.box [iI p1],.box (cw p0)] ?_ (λhK=>?_)
    .refine X 1 2 ?_;obtain⟨Q7,hz,h⟩:=bind_some h;revert hz h;revert Q7;intro c21 hz h;refine j1 [(4,.str s9),(8,.func 116 [.ptr 0 0,.ptr 1 0]),(9,.str x5.1),(11,iI s10),(12,.str x14.1),(103,.bool c21)] [.box [iI p1],.box (cw p0)] ?_ (λhK=>?_)
     .refine TH h J (λlh h=>?_) (λlh h=>?_)
      .refine X 6 2 ?_;replace h:=mi h gZ;cases h;exact tD
      exact B h λx22 eQ h=>(B h λx23 ed h=>(X 4 2 (sO (ng We J J J eQ (sQ (kW J J ed (Y 7 2 (lk h (wk [] [0,1] 2 J)))))))))
     refine X 1 2 ?_;rcases bC (!x14.2)with dj|dj
     .replace hz:=cb hz dj;refine T.drawn mixed (k:=20) J (rq [0,1,2] 17 (r2 3 J dj (r2 4 J dj (r2 5 J dj (r2 6 J dj (r2 7 J dj (r0 8 J (br (v:=.bool true) J dj J (rq [9] 10 (r2 10 J J ?_))))))))));exact r2 11 J J (r2 12 J J (r2 13 J J (r2 14 J J (r0 15 J (br (v:=.bool true) J J J (rq [16] 3 (r2 17 J J (r2 18 J J (r0 19 J (br (v:=.bool true) J J J (RA.done (by decide+kernel) (T.sub hK ⟨J,J,J,J,J,(congrArg AV.bool ((congrArg (λp=>p) (RR hz)).symm)).symm,tqz⟩))))))))))))
     replace hz:=cg hz dj;refine B hz λx17 cE hz=>(B hz λx18 cI hz=>?_)
     rcases bC ((x17.toNat:Int)!=(x18.toNat:Int))with ba|ba
     .replace hz:=cb hz ba;refine T.drawn mixed (k:=20) J (rq [0,1,2] 17 (ry 3 dj J (r1 4 J dj (dq We J J cE (ry 5 dj J (r1 6 J dj (dq We J J cI (ry 7 dj J (r0 8 J (bd (v:=.bool ((x17.toNat:Int)!=(x18.toNat:Int))) J dj J (rq [9] 10 (r2 10 J ba ?_))))))))))));exact r2 11 J ba (r2 12 J ba (r2 13 J ba (r2 14 J ba (r0 15 J (br (v:=.bool true) J ba J (rq [16] 3 (r2 17 J J (r2 18 J J (r0 19 J (br (v:=.bool true) J J J (RA.done (by decide+kernel) (T.sub hK ⟨J,J,J,J,J,(congrArg AV.bool ((congrArg (λp=>p) (RR hz)).symm)).symm,tqz⟩))))))))))))
     replace hz:=cg hz ba;refine B hz λx19 cU hz=>(B hz λx20 ee hz=>?_)
     rcases bC ((x19.toNat:Int)!=(x20.toNat:Int))with gD|gD
     .replace hz:=cb hz gD;refine T.drawn mixed (k:=20) J (rq [0,1,2] 17 (ry 3 dj J (r1 4 J dj (dq We J J cE (ry 5 dj J (r1 6 J dj (dq We J J cI (ry 7 dj J (r0 8 J (bd (v:=.bool ((x17.toNat:Int)!=(x18.toNat:Int))) J dj J (rq [9] 10 (ry 10 ba J ?_))))))))))));exact r1 11 J ba (dq We J J cU (ry 12 ba J (r1 13 J ba (dq We J J ee (ry 14 ba J (r0 15 J (bd (v:=.bool ((x19.toNat:Int)!=(x20.toNat:Int))) J ba J (rq [16] 3 (r2 17 J gD (r2 18 J gD (r0 19 J (br (v:=.bool true) J gD J (RA.done (by decide+kernel) (T.sub hK ⟨J,J,J,J,J,(congrArg AV.bool ((congrArg (λp=>p) (RR hz)).symm)).symm,tqz⟩))))))))))))))
     replace hz:=cg hz gD;refine T.drawn mixed (k:=20) J (rq [0,1,2] 17 (ry 3 dj J (r1 4 J dj (dq We J J cE (ry 5 dj J (r1 6 J dj (dq We J J cI (ry 7 dj J (r0 8 J (bd (v:=.bool ((x17.toNat:Int)!=(x18.toNat:Int))) J dj J (rq [9] 10 (ry 10 ba J ?_))))))))))));exact r1 11 J ba (dq We J J cU (ry 12 ba J (r1 13 J ba (dq We J J ee (ry 14 ba J (r0 15 J (bd (v:=.bool ((x19.toNat:Int)!=(x20.toNat:Int))) J ba J (rq [16] 3 (ry 17 gD J (ry 18 gD J (r0 19 J (bd (v:=.bool (!c16)) J gD J (RA.done (by decide+kernel) (T.sub hK ⟨J,J,J,J,J,(congrArg AV.bool ((congrArg (λp=>p) (RR hz)).symm)).symm,tqz⟩))))))))))))))
    refine X 6 2 ?_;rcases bC (((x14.1).length:Int)==53)with eZ|eZ
    .replace hz:=cb hz eZ;exact gT 67 eZ (Yp 18 2 (T.sub hK ⟨J,J,J,J,J,J,(congrArg AV.bool ((congrArg (λp=>p) (RR hz)).symm)).symm,tqz⟩))
    replace hz:=cg hz eZ;refine B hz λx15 dY hz=>(yg 2 eZ (yg 2 eZ (yQ eZ (dq We J J dY (yg 2 eZ (yg 2 eZ (yg 2 eZ ?_)))))))
    rcases bC (s10==(IntKind.i64.wrap (x15.toNat:Int)))with j7|j7
    .replace hz:=cb hz j7;refine yg 2 j7 (yg 2 j7 (yg 2 j7 (yQ eZ (br (v:=.bool (decide (((x14.1).length:Int)> 3))) J j7 J (yg 2 eZ ?_)))));rcases bC (decide (((x14.1).length:Int)> 3))with ou|ou
     .replace hz:=cb hz ou;exact gT 78 ou (Y 3 2 (gF 67 eZ (Yp 4 2 (T.sub hK ⟨J,J,J,J,J,J,(congrArg AV.bool ((congrArg (λp=>p) (RR hz)).symm)).symm,tqz⟩))))
     replace hz:=cg hz ou;exact gF 78 ou (Y 3 2 (gF 67 eZ (Yp 4 2 (T.sub hK ⟨J,J,J,J,J,J,(congrArg AV.bool ((congrArg (λp=>p) (RR hz)).symm)).symm,tqz⟩))))
    replace hz:=cg hz j7;exact gF 73 j7 (Y 3 2 (gF 67 eZ (Yp 9 2 (T.sub hK ⟨J,J,J,J,J,J,(congrArg AV.bool ((congrArg (λp=>p) (RR hz)).symm)).symm,tqz⟩))))
   refine X 1 2 ?_;replace h:=mi h gZ;refine B h λx25 jp h=>(X 1 2 (T.drawn mixed (k:=7) J (rq [0,1] 5 (r0 2 J (dq We J J jp (rq [3,4,5,6] 0 (RA.done (by decide+kernel) ?_)))))))
   cases h;exact tD
  refine X 5 2 (gi 34 hz (λaD hz=>?_) (λaD hz=>?_))
  .refine Yp 17 2 ?_;cases hz;exact wu hK [] [1,0] 2 J
  refine Yp 5 2 (gi 39 hz (λaN hz=>?_) (λaN hz=>?_))
  .refine Yp 12 2 ?_;cases hz;exact wu hK [] [1,0] 2 J
  refine B hz λx6 hx6 hz=>(Y 1 2 (yQ J (dq We J J hx6 (Yp 4 2 (gi 45 hz (λaV hz=>?_) (λaV hz=>?_))))))
  .refine Yp 6 2 ?_;cases hz;exact wu hK [] [1,0] 2 J
  refine B hz λx7 hx7 hz=>(Y 1 2 (yQ J (dq We J J hx7 (Yp 4 2 ?_))))
  cases hz;exact wu hK [] [1,0] 2 J
 refine X 5 2 (gp 22 (λae=>?_) (λae=>?_))
 .refine Yp 4 2 ?_;rw[ae]at hK;exact sx hK
 refine Yp 4 2 ?_;rw[ae]at hK;exact sx hK
theorem aW {p0:U UInt8}{r:(Int×(U UInt8))⊕Unit}(h:dQ p0=some r):FnP QbP (.iface 200 (.agg #[])) 119 [.ptr 0 0] [.box [.str p0]] (λr:Int×(U UInt8)=>iI r.1) (λr=>[.box [.str r.2]]) r:=by
 unfold dQ at h;refine fnPT 1 Tryz.func119 Tryz.ntmps119 ?_;refine q0 ?_;refine X 20 1 (itr (λak:Int×Int=>mkA 55 [(0,.ptr 0 0),(2,iI 0),(3,.int .u64 ak.1),(10,iI (if((p0).length:Int)<10 then((p0).length:Int)else 10)),(11,iI ak.2)]) (λak=>[.box [.str p0]]) h (wk [] [0] 1 J) (λak v_6 h bg=>?_));obtain⟨s1,s2⟩:=ak;replace h:e7 p0 s1 s2=some v_6:=h;try dsimp only
 unfold e7 at h;refine X 5 1 (TH h J (λbH h=>?_) (λbH h=>?_))
 .refine B h λx5 hx5 h=>(B h λx6 hx6 h=>(X 16 1 (sQ (dq We J J hx5 (Y 4 1 (sQ (v_shl J J hx6 (B h λx8 hx8 h=>(Y 10 1 (sQ (dq We J J hx8 (Y 2 1 ?_))))))))))))
  refine TH h J (λbF h=>?_) (λbF h=>?_)
  .refine B h λx10 aY h=>(X 9 1 (sO (ng We J J J aY (B h λx12 bx h=>(Y 7 1 (sQ (jf J J bx (Y 8 1 ?_))))))))
   replace h:=mi h bg;cases h;exact tN [0]
  exact X 5 1 (lk h (wk [] [0] 1 J))
 refine X 1 1 ?_;replace h:=mi h bg;cases h;(refine T9 (V:=(.iface 200 (.agg #[]))) 2 J ?_);exact go 1 1 (sO (nF Wi J J (RS.nil (PP.panic J J))))
theorem Aj {p0:U UInt8}{r:((U Int)×(U UInt8))⊕Unit}(h:oS p0=some r):FnP QbP (.iface 200 (.agg #[])) 118 [.ptr 0 0,.bnd 119 [.ptr 0 0]] [.box [.str p0]] (λr:(U Int)×(U UInt8)=>.ref 1) (λr=>[.box [.str r.2],aR 3 1 aj r.1]) r:=by
 unfold oS at h;refine fnPT 1 Tryz.func118 Tryz.ntmps118 ?_;refine q0 ?_;refine X 5 1 (cV h (λhx2 h=>?_) (λx2 hx2 h=>?_))
 .cases h;(refine T9 (V:=(.iface 200 (.agg #[]))) 1 J ?_);exact go 1 1 (RS.nil (qc (aw2:=[.dead]) (n0:=1) (n1:=1) [0] J J (aW hx2) (aA J ⟨aJ J,tqz⟩ au) ⟨am J,tqz⟩ ⟨.inl ⟨0,_,by decide,J,tqz⟩,tqz⟩ J))
 refine X 2 1 (sO (bq (aw2:=[.box [.str x2.2]]) (v':=iI x2.1) (n0:=1) (n1:=1) [0] J J (aW hx2) (aA J ⟨aJ J,tqz⟩ au) ⟨am J,tqz⟩ (ap (aL _ _)) ⟨.inl ⟨0,_,by decide,J,aZ ⟨ap (bc _),tqz⟩⟩,tqz⟩ (Y 3 1 (j1 [(1,.bnd 119 [.ptr 0 0]),(5,iI x2.1),(19,.bool ((decide (x2.1<0))||decide (x2.1> ((x2.2).length:Int))))] [.box [.str x2.2]] ?_ (λhK=>?_)))))
 .refine TH h J (λae h=>?_) (λae h=>?_)
  .cases h;(refine T9 (V:=(.iface 200 (.agg #[]))) 2 J ?_);exact go 1 1 (sO (nF Wi J J (RS.nil (PP.panic J J))))
  refine X 12 1 (itr (λak:Int×(U UInt8)×(U Int)=>mkA 32 [(1,.bnd 119 [.ptr 0 0]),(6,.ref 1),(22,iI x2.1),(23,iI ak.1)]) (λak=>[.box [.str ak.2.1],aR 3 1 aj ak.2.2]) h (wk [(6,3,1)] [0,1] 1 J) (λak v_6 h bg=>?_));obtain⟨s4,s5,s6⟩:=ak;replace h:ki x2 s4 s5 s6=some v_6:=h;try dsimp only
  unfold ki at h;refine X 5 2 (TH h J (λbH h=>?_) (λbH h=>?_))
  .refine X 3 2 (cV h (λhx7 h=>?_) (λx7 hx7 h=>?_))
   .replace h:=mi h bg;cases h;(refine T9 (V:=(.iface 200 (.agg #[]))) 2 J ?_);exact go 2 2 (RS.nil (qcb (aw2:=[.dead,aR 3 1 aj s6]) (n0:=2) (n1:=1) [0] J J (aW hx7) (aA J ⟨aJ J,tqz⟩ au) ⟨am J,tqz⟩ ⟨.inl ⟨0,_,by decide,J,tqz⟩,.inr ⟨J,J⟩,tqz⟩ J))
   refine B h λx8 hx8 h=>(X 3 2 (sO (yq (aw2:=[.box [.str x7.2],aR 3 1 aj s6]) (v':=iI x7.1) (n0:=2) (n1:=1) [0] J J (aW hx7) (aA J ⟨aJ J,tqz⟩ au) ⟨am J,tqz⟩ (ap (aL _ _)) ⟨.inl ⟨0,_,by decide,J,aZ ⟨ap (bc _),tqz⟩⟩,.inr ⟨J,J⟩,tqz⟩ (sO (bi (rows:=List.map aj [x7.1]) (vs:=[iI x7.1]) TK T7 J J J J J J (sO (bU (en:=aj) (xs:=s6) (ys:=([x7.1]:U Int)) TK (λ_=>J) J J J hx8 J J (Y 6 4 ?_))))))))
   exact lk h (wk [] [0,3] 4 J)
  refine X 1 2 ?_;replace h:=mi h bg;refine X 5 2 ?_;cases h;exact tO [] [0,1] 2
 refine X 5 1 (gp 11 (λah=>?_) (λah=>?_))
 .refine Yp 9 1 ?_;rw[ah]at hK;exact sx hK
 refine Yp 9 1 ?_;rw[ah]at hK;exact sx hK
end
end
section
open Go.RowKit
section
variable {P:Program} {N n:Nat} {σ:List Value} {w:World} {F:Nat→Prop} {aw aw':List Ob} {l:List (Nat×AV)} {K2:AV→List Ob→Prop} {d:Option Tmp} {ty:TypeId} {ps:String} {af:Array Edge} {g:Option (Nat×Bool)}
variable {o:Ob}{v:Value}{t off e:Nat}{x:Operand}{cs:U AV}
theorem Pd {id:Nat}{o':Ob}(h:Sim aw σ w F)(ho:aw[id]?=some o)(hl:o.live=true)(hv:σ[id]?=some v)(hr:ORel σ w F o' v)(hb:∀b,Bk o' v b->Bk o v b):
  Sim (aw.set id o') σ w F/\∀b,Dof (aw.set id o') σ b->Dof aw σ b:=by
 have old:∀(k:Nat) p u b,(aw.set id o')[k]?=some p->p.live=true->σ[k]?=some u->Bk p u b->∃q,aw[k]?=some q/\q.live=true/\Bk q u b:=λk p u b hp hpl hu hbk=>by grind
 refine⟨⟨by rw[SW];exact h.len,λk p u hp hu=>?_,λk k' p p' u u' b hne hp hp' hpl hpl' hu hu' hbk hbk'=>?_,h.lt,h.gd⟩,λb hd=>?_⟩
 .rcases ca hp with⟨rfl,rfl,_⟩|⟨_,h2⟩
  .grind
  .exact h.obj k p u h2 hu
 .obtain⟨q,h1,h2,h3⟩:=old k p u b hp hpl hu hbk
  obtain⟨q',h1',h2',h3'⟩:=old k' p' u' b hp' hpl' hu' hbk'
  exact h.sep k k' q q' u u' b hne h1 h1' h2 h2' hu hu' h3 h3'
 .obtain⟨k,p,u,hp,hpl,hu,hbk⟩:=hd
  obtain⟨q,h1,h2,h3⟩:=old k p u b hp hpl hu hbk
  exact⟨k,q,u,h1,h2,hu,h3⟩
theorem Ql {aw0 aw2:U Ob}{σ0:U Value}{w0:World}{F0:Nat->Prop}(h:Mv aw0 σ0 w0 F0 aw σ w F)(hd:∀b,Dof aw2 σ b->Dof aw σ b):Mv aw0 σ0 w0 F0 aw2 σ w F:=
 ⟨h.os,h.tape,h.output,h.size,h.keep,h.pre,h.sub,h.sup,λb hb=>h.own b (hd b hb)⟩
def unB:Ob->Ob
 | .boxB _ cs=>.box cs
 |o=>o
theorem Dz (o:Ob):(unB o).live=o.live:=by cases o<;>rfl
theorem FT {b:Nat}:Bk (unB o) v b↔Bk o v b:=by cases o<;>exact Iff.rfl
theorem Nl (h:Sim aw σ w F):Sim (aw.map unB) σ w F:=by
 have old:∀(k:Nat) p,(aw.map unB)[k]?=some p->∃q,aw[k]?=some q/\p=unB q:=λk p hp=>by grind
 refine⟨by rw[RZ];exact h.len,λk p u hp hu=>?_,λk k' p p' u u' b hne hp hp' hpl hpl' hu hu' hbk hbk'=>?_,h.lt,h.gd⟩
 .obtain⟨q,h1,rfl⟩:=old k p hp;have hr:=h.obj k q u h1 hu;cases q with
  |boxB t cs=>
   obtain⟨g,vs,e1,hg,hr1,h11,hf⟩:=hr;exact⟨g,vs,t,e1,hg,hr1,h11,hf⟩
  |_=>exact hr
 .obtain⟨q,h1,rfl⟩:=old k p hp;obtain⟨q',h1',rfl⟩:=old k' p' hp';exact h.sep k k' q q' u u' b hne h1 h1' (by grind[Dz]) (by grind[Dz]) hu hu' (FT.1 hbk) (FT.1 hbk')
theorem V7 {o:Oper}(hq:∀K:AV->Prop,vcQ P (mkA n l) (aw.map unB) o.op K->∀σ w F a,ARel σ w F (mkA n l) a->Sim (aw.map unB) σ w F->∃v r,(execOp a.eval o).run P w=.ok (.value v) w/\Rel σ w F r v/\K r)(h:vcQ P (mkA n l) (aw.map unB) o.op λr=>K2 r aw):OP P N o (mkA n l) aw K2:=
 TP λσ w F a ha hs=>by obtain⟨v,r,h1,h2,h3⟩:=hq _ h σ w F a ha (Nl hs);exact⟨v,_,w,aw,σ,F,r,h1,.inl J,hs,.refl _ _ _ _,h2,h3⟩
theorem VQ {o:Oper}(h:vcQ P (mkA n l) (aw.map unB) o.op λr=>K2 r aw):OP P N o (mkA n l) aw K2:=
 V7 (λK hK σ w F a ha hs=>by obtain⟨v,r,h1,h2,h3⟩:=wt ha hs o hK;exact⟨v,r,h1 w (λ_ _=>J),h2,h3⟩) h
theorem Md {t:TypeId}{y:Operand}{id T:Nat}{vs:U AV}(hx:evA n l x=.ptr id off)(hob:aw[id]?=some (.boxB T cs))(hvs:(evA n l y).cells=some vs){du:TypeDesc}(hsome:P.underlying t=some du)(hlen:vs.length=P.cellsOf t)(hfit:off+vs.length<=cs.length)(haw:aw.set id (.boxB T (splice cs off vs))=aw')(h:K2 .any aw'):OP P N ⟨d,.store t x y,ty,ps,af,g⟩ (mkA n l) aw K2:=
 TP λσ w F a ha hs=>by
  subst haw;have hex:=ha.ev x;rw[aF,hx]at hex;obtain⟨hr,h1⟩:=(ha.ev y).cells (by rw[aF];exact hvs);generalize hv:a.eval x=vx at hex;cases hex with
  | ptr _ _ gg hσ=>
   obtain⟨g',cur,e1,hg,hcr,hc1,hF⟩:=hs.obj id _ _ hob hσ;injection e1 with e1
   injection e1 with e1
   injection e1 with e1
   subst e1;have hcl:cur.size=cs.length:=by simpa using hcr.1
   have hul:(a.eval y).cells.toList.length=vs.length:=hr.1;have hst:=run_storeCells_at P gg off T (a.eval y).cells.toList 0 cur w hg (by omega) h1;have hk:∀b,b≠gg->(w.setRow gg (dv cur.toList off (a.eval y).cells.toList).toArray).heap[b]?=w.heap[b]?:=λb hb=>setRow_other w gg b _ hb
   have hself:Sim (aw.set id (.boxB T (splice cs off vs))) σ (w.setRow gg (dv cur.toList off (a.eval y).cells.toList).toArray) F:=by
    refine hs.write (b0:=gg) id hob J hσ J hk (by simp) (.boxB T (splice cs off vs)) ⟨gg,_,J,setRow_heap w gg cur _ T (0,0) hg,?_,?_,hF⟩ (λ_ h=>h)
    .have:=(hcr.splice off hr).mono (σ':=σ) (w':=w.setRow gg (dv cur.toList off (a.eval y).cells.toList).toArray) (F':=F) (λ_ _ e=>e) (λ_ e=>e) (λb hb=>hk b (λe=>hF (e▸hb)));omega
    grind[uZ]
   refine⟨undef,_,_,_,σ,F,.any,?_,.inr ⟨J,J⟩,hself,Mv.write (w:=w) (F:=F) (w':=w.setRow gg _) (b0:=gg) id hob J hσ J J J drO hk (by simp) (.boxB T (splice cs off vs)) (λ_ h=>h),.any _,h⟩;simp_all[execOp,Instr.storeAt,Instr.sureAddr,storeVar,eo,dv]
theorem Qo {z k:Nat}(hx:(evA n l x).cells=some [.nilp,.nils])(hk:aw.length=k)(haw:aw++[.boxB t [.np k,.ref (k+1)],.arr e z []]=aw')(h:K2 (.ptr k 0) aw'):OP P N ⟨d,.box t x,ty,ps,af,g⟩ (mkA n l) aw K2:=
 TP λσ w F a ha hs=>by
  subst hk haw;obtain⟨hrx,h1x⟩:=(ha.ev x).cells (by rw[aF];exact hx);obtain⟨s1,m1,r1⟩:=yb hs [.nilp,.nils] (a.eval x).cells t hrx h1x;obtain⟨s2,m2,r2⟩:=yh e z s1;have hlen:=hs.len;have hσ:(σ++[Value.pointer (some ⟨w.heap.size,0,none⟩)]++[Value.slice none 0 0])[aw.length]?=some (Value.pointer (some ⟨w.heap.size,0,none⟩)):=by grind
  have hσ2:(σ++[Value.pointer (some ⟨w.heap.size,0,none⟩)]++[Value.slice none 0 0])[aw.length+1]?=some (Value.slice none 0 0):=by simp_all
  have hid:(aw++[Ob.box [.nilp,.nils]]++[Ob.arr e z []])[aw.length]?=some (Ob.box [.nilp,.nils]):=by simp
  obtain⟨gq,vs,tyq,e1,hg,hcr,hc1,hF⟩:=s2.obj _ _ _ hid hσ;injection e1 with e1
  injection e1 with e1
  injection e1 with e1
  subst e1;have hty:(w.alloc (.cells (a.eval x).cells t)).heap[w.heap.size]?=some (.cells (a.eval x).cells t (0,0)):=by show(w.heap.push _)[w.heap.size]?=_;simp
  rw[hty]at hg;cases hg;have hnew:RelL (σ++[Value.pointer (some ⟨w.heap.size,0,none⟩)]++[Value.slice none 0 0]) (w.alloc (.cells (a.eval x).cells t)) F [.np aw.length,.ref (aw.length+1)] (a.eval x).cells.toList:=by
   obtain⟨hl2,hc⟩:=hcr;refine⟨hl2,λj x u hx hu=>?_⟩;match j,hx with
   |0,hx=>
    cases hx
    have:=hc 0 _ u J hu
    cases this
    exact .np0 _
   |1,hx=>
    cases hx
    have:=hc 1 _ u J hu
    cases this
    grind
  obtain⟨s3,hd3⟩:=Pd s2 hid J hσ (o':=.boxB t [.np aw.length,.ref (aw.length+1)]) ⟨_,_,J,hty,hnew,hc1,hF⟩ (λ_ h=>h);have e3:(aw++[Ob.box [.nilp,.nils]]++[Ob.arr e z []]).set aw.length (.boxB t [.np aw.length,.ref (aw.length+1)])=aw++[.boxB t [.np aw.length,.ref (aw.length+1)],.arr e z []]:=by simp
  rw[e3]at s3 hd3;refine⟨_,_,_,_,_,F,.ptr aw.length 0,?_,.inl J,s3,Ql (m1.trans m2) hd3,.ptr _ _ _ hσ,h⟩;rfl
theorem UP {T0:Nat}{c:Code}{Q:Exit->U AV->U Ob->Prop}{fr:U AV}(b j id:Nat){s n0:Nat}{rows:U (U AV)}{cs':U AV}(hb:aw[b]?=some (.boxB T0 cs))(hj:cs[j]?=some (.ref id))(ho:aw[id]?=some (.arr e s rows))(hn:aw.length=n0)(hc:cs.set j (.ref n0)=cs')(ha:(aw.set id .dead).set b (.boxB T0 cs')++[.arr e s rows]=aw')(h:T P N c Q fr aw'):T P N c Q fr aw:=
 ⟨λst h1 h2 σ w F a hcur=>by
  subst hc ha hn;have hbl:b<aw.length:=(RH.1 hb).1;have hbσ:∃vb,σ[b]?=some vb:=⟨_,RG (by rw[hcur.sim.len];exact hbl)⟩
  obtain⟨vb,hvb⟩:=hbσ;obtain⟨g,vs,rfl,hg,hcr,h1c,hf⟩:=hcur.sim.obj b _ vb hb hvb;obtain⟨u,hu,hru⟩:=hcr.get hj;cases hru with
  |ref _ A m c2 hgσ=>
   obtain⟨s1,m1⟩:=yu hcur.sim ho hgσ;have hbid:b≠id:=by grind
   have hb1:(aw.set id .dead++[.arr e s rows])[b]?=some (.boxB T0 cs):=by grind
   have hnew:ORel (σ++[.slice A m c2]) w F (.boxB T0 (cs.set j (.ref aw.length))) (.pointer (some ⟨g,0,none⟩)):=by refine⟨g,vs,J,hg,?_,h1c,hf⟩;have hcr1:=m1.relL hcur.sim hcr;have:=hcr1.set j (Rel.ref (σ:=σ++[.slice A m c2]) (w:=w) (F:=F) aw.length A m c2 (by rw[<- hcur.sim.len];simp));grind[List.set_getElem_self]
   have hvb1:(σ++[.slice A m c2])[b]?=some (.pointer (some ⟨g,0,none⟩)):=eB hvb;have hset:(aw.set id .dead).set b (.boxB T0 (cs.set j (.ref aw.length)))++[Ob.arr e s rows]=(aw.set id .dead++[Ob.arr e s rows]).set b (.boxB T0 (cs.set j (.ref aw.length))):=by grind
   rw[hset]at h;have s2:=s1.write (b0:=g) b hb1 J hvb1 J (λ_ _=>J) J _ hnew (λ_ h=>h);have m2:=Mv.write (w:=w) (w':=w) (F:=F) (b0:=g) b hb1 J hvb1 J J J drO (λ_ _=>J) J (.boxB T0 (cs.set j (.ref aw.length))) (λ_ h=>h);exact h.out st h1 h2 _ w F a ⟨s2,m2.aRel s1 (m1.aRel hcur.sim hcur.fr),(hcur.mv.trans m1).trans m2,hcur.ds⟩⟩
theorem I7 {id T:Nat}(hx:evA n l x=.ptr id off)(ho:aw[id]?=some (.boxB T cs))(h:co P t cs off λr=>K2 r aw):OP P N ⟨d,.load t x,ty,ps,af,g⟩ (mkA n l) aw K2:=
 VQ (by simp_all[unB,vcQ,aF])
end
end
section
open Go.RowKit
def Idle(P:Program)(d:Deferred):Prop:=∃fv cap f args,d.target=.fn fv cap/\(∀w,(invoke d.target d.args).run P w=.ok (.enter f args) w) /\
 ∀w,CallsD P f args .returning w λe u' w'=>(∃v,e=.returned v)/\u'=.returning/\w'=w
def IdleF(P:Program)(g:FuncId)(k:Nat):Prop:=∀cvs:List Value,cvs.length=k->Idle P ⟨.fn (.func g) cvs.toArray,#[]⟩
section
variable {P:Program} {N n:Nat} {fr:List AV} {aw:List Ob} {l:List (Nat×AV)} {Q:Exit→List AV→List Ob→Prop}
end
end
section
open Go.RowKit
set_option maxRecDepth 100000
set_option maxHeartbeats 4000000
theorem OD(b:Nat)(w:World)(h0:w.cell? ⟨b,0,none⟩=some (.pointer (some ⟨b,0,none⟩))):
  Calls QbP 152 #[.pointer (some ⟨b,0,none⟩)] w λe w'=>e=.returned (.tuple #[])/\w'=w:=by
 obtain⟨j,hj,hjs⟩:=Sf.1 (show(QbP.info? 167).map (·.size)=some 2 by kernel_rfl)
 go_enter Wu,Tryz.ntmps152
 go_wp2
 rw[Lib.run_neq_ptr_same w _ Wv hj]
 go_wp2
 go_end0
 exact⟨J,J⟩
theorem LS(b:Nat)(w:World)(h0:w.cell? ⟨b,0,none⟩=some (.pointer none))(hsh:w.shape? b=some (169,2))(hfz:w.frozen? ⟨b,0,none⟩=false):
  Calls QbP 152 #[.pointer (some ⟨b,0,none⟩)] w λe w'=>e=.returned (.tuple #[])/\w'=w.setCell ⟨b,0,none⟩ (.pointer (some ⟨b,0,none⟩)):=by
 obtain⟨j,hj,hjs⟩:=Sf.1 (show(QbP.info? 167).map (·.size)=some 2 by kernel_rfl)
 go_enter Wu,Tryz.ntmps152
 go_wp2
 rw[Lib.run_to_unsafe w ⟨b,0,none⟩ Wv WL hj (by rw[hjs];decide) hsh (Nat.zero_lt_succ 1)]
 simp only[Result.andThen]
 rw[Oper.upon_value]
 go_wp2
 rw[run_callFunc_extern Tryz.func168 (by kernel_rfl) (by kernel_rfl) (by kernel_rfl) (e:=Extern.AbiNoEscape.same) (by kernel_rfl)]
 rw[Lib.run_noEscape]
 simp only[Result.andThen]
 rw[Oper.upon_value]
 go_wp2
 rw[Lib.run_from_unsafe w ⟨b,0,none⟩ WL Wv hj hsh (by kernel_rfl)]
 simp only[Result.andThen]
 rw[Oper.upon_value]
 go_wp2
 go_end0
 exact⟨J,J⟩
theorem IZ(rows:U (U AV)):FnX QbP 152 [.ptr 0 0] [.boxB 169 [.np 0,.ref 1],.arr 5 1 rows] (.tup []) [.boxB 169 [.np 0,.ref 1],.arr 5 1 rows]:=by
 refine⟨callable Wu J (by kernel_rfl),λw F σ vs hs hr=>?_⟩;match vs,hr with
 | [v0],hr=>
  have r0:Rel σ w F (.ptr 0 0) v0:=hr.2 0 _ v0 J J
  cases r0 with
  |ptr _ _ g hσ=>
  obtain⟨g',us,e1,hg,hcr,hc1,hF⟩:=hs.obj 0 _ _ J hσ
  injection e1 with e1
  injection e1 with e1
  injection e1 with e1
  subst e1
  have hlen:us.size=2:=by simpa using hcr.1
  obtain⟨p,hp,hrp⟩:=hcr.get (j:=0) (a:=.np 0) J
  have hp':us[0]?=some p:=by simpa using hp
  have hcell:w.cell? ⟨g,0,none⟩=some p:=by rw[World.cell?];simp[hg,hp']
  cases hrp with
  | np0 _=>
   have hsh:w.shape? g=some (169,2):=by simp[World.shape?,hg,hlen]
   have hfz:w.frozen? ⟨g,0,none⟩=false:=by simp[World.frozen?,hg]
   refine(LS g w hcell hsh hfz).mono ?_
   rintro e w' ⟨rfl,rfl⟩
   have hk:∀b,b≠g->(w.setCell ⟨g,0,none⟩ (.pointer (some ⟨g,0,none⟩))).heap[b]?=w.heap[b]?:=λb hb=>by
    have:¬g=b:=λe=>hb e.symm
    rw[Go.Sort.setCell_eq];simp[Go.Sort.mapBlock,SO,this]
   have hsz:(w.setCell ⟨g,0,none⟩ (.pointer (some ⟨g,0,none⟩))).heap.size=w.heap.size:=by rw[Go.Sort.setCell_eq];simp[Go.Sort.mapBlock]
   have hg':(w.setCell ⟨g,0,none⟩ (.pointer (some ⟨g,0,none⟩))).heap[g]?=some (.cells (us.setIfInBounds 0 (.pointer (some ⟨g,0,none⟩))) 169 (0,0)):=by rw[Go.Sort.setCell_eq];simp[Go.Sort.mapBlock,SO,hg,Go.Sort.onCells]
   have hnew:RelL σ (w.setCell ⟨g,0,none⟩ (.pointer (some ⟨g,0,none⟩))) F [.np 0,.ref 1] (us.setIfInBounds 0 (.pointer (some ⟨g,0,none⟩))).toList:=by
    refine⟨by simp[hlen],λj x u hx hu=>?_⟩;match j,hx with
    |0,hx=>
     cases hx
     simp[hlen]at hu
     subst hu
     exact .npS 0 g hσ
    |1,hx=>
     cases hx
     have hu2:us[1]?=some u:=by simpa using hu
     have:=hcr.2 1 _ u J (by simpa using hu2)
     cases this with
     |ref _ A q cp h9=>exact .ref 1 A q cp h9
   have hone:∀u,u∈us.setIfInBounds 0 (.pointer (some ⟨g,0,none⟩))->u.oneCell'=true:=λu hu=>by
    rcases Array.mem_or_eq_of_mem_setIfInBounds hu with h|h
    .exact hc1 u h
    .subst h;rfl
   have s1:=hs.write (b0:=g) 0 J J hσ J hk hsz (.boxB 169 [.np 0,.ref 1]) ⟨g,_,J,hg',hnew,hone,hF⟩ (λ_ h=>h)
   have m1:Mv [.boxB 169 [.np 0,.ref 1],.arr 5 1 rows] σ w F ([Ob.boxB 169 [.np 0,.ref 1],.arr 5 1 rows].set 0 (.boxB 169 [.np 0,.ref 1])) σ (w.setCell ⟨g,0,none⟩ (.pointer (some ⟨g,0,none⟩))) F:=
    Mv.write (aw:=[.boxB 169 [.np 0,.ref 1],.arr 5 1 rows]) (w:=w) (w':=w.setCell ⟨g,0,none⟩ (.pointer (some ⟨g,0,none⟩))) (F:=F) (o:=.boxB 169 [.np 0,.ref 1]) (b0:=g) 0 J J hσ J J J drO hk hsz (.boxB 169 [.np 0,.ref 1]) (λ_ h=>h)
   exact⟨_,_,_,σ,F,J,⟨J,J⟩,s1,iz,m1⟩
  |npS _ g2 h2=>
   rw[hσ]at h2
   cases h2
   refine(OD g w hcell).mono ?_
   rintro e w' ⟨rfl,rfl⟩
   exact⟨_,_,_,σ,F,J,⟨J,J⟩,hs,iz,.refl _ _ _ _⟩
theorem P0(b g cap:Nat)(cur:Array Value)(l:U UInt8)(w:World)(c0:w.cell? ⟨b,1,none⟩=some (.slice (some ⟨g,0,none⟩) l.length cap))(h0:l≠[])(hg:w.heap[g]?=some (.cells cur 5 (0,0)))(hnc:l.length<=cap)(hcm:cap<=maxLen)(hcs:cur.size=cap)
  (hx:∀(j:Nat) x,l[j]?=some x->w.cell? ⟨g,j,none⟩=some (.int .u8 x.toNat)):
  Calls QbP 99 #[.pointer (some ⟨b,0,none⟩)] w λe w'=>e=.returned (.string ⟨l.toArray⟩)/\w'=w.drew.freeze ⟨g,0,none⟩ l.length:=by
 have hl0:l.length≠0:=by simpa using h0
 have c1:w.drew.cell? ⟨b,1,none⟩=some (.slice (some ⟨g,0,none⟩) l.length cap):=c0
 have hSD:(Builtin.unsafeSliceData_ #[150] 219 #[.slice (some ⟨g,0,none⟩) l.length cap]).run QbP w.drew=.ok (.pointer (some ⟨g,0,none⟩)) w.drew:=
  Lib.run_unsafeSliceData_row _ _ _ _ _ _ (by omega)
 have hUS:(Builtin.unsafeString_ #[219,3] 9 #[.pointer (some ⟨g,0,none⟩),.int .i64 l.length]).run QbP w.drew=.ok (.string ⟨l.toArray⟩) (w.drew.freeze ⟨g,0,none⟩ l.length):=by
  refine Lib.run_unsafeString_row w.drew 219 3 9 5 Tryz.underlying219 (by kernel_rfl) g cur.size (by have hg':w.drew.heap[g]?=some (.cells cur 5 (0,0)):=hg;simp[World.shape?,hg']) l h0 (by omega) (by unfold maxLen at hcm;omega) ?_;intro j x hj;show w.cell? _=_;have e:(⟨g,0,none⟩:Addr).add j=⟨g,j,none⟩:=by unfold Addr.add;simp;intro h;exact h.symm
  rw[e];exact hx j x hj
 have mixed:=mixed
 clear c0 hx hg
 go_enter Tryz.func99,Tryz.ntmps99
 go_wp2
 go_region_o
 all_goals (go_wp2;go_ret;exact⟨J,J⟩)
theorem Gp{σ:U Value}{w:World}{F:Nat->Prop}:∀(xs:U Int) (flat:U Value),RelL σ w F (xs.map bR).flatten flat->flat=xs.map λn=>Value.int .u8 n
 |[],flat,h=>RP h.1
 | x::xs,flat,h=>by
  match flat,h with
  |[],h=>exact absurd h.1 (by simp[bR])
  |a::r,h=>
   have h1:Rel σ w F (.int .u8 x) a:=h.2 0 _ a J J
   have h3:=Gp xs r ⟨by have:=h.1;simp[bR]at this ⊢;omega,λj y v hy hv=>h.2 (j+1) y v (by simpa [bR]using hy) (by simpa using hv)⟩
   cases h1
   rw[h3];rfl
theorem KS(xs:U Int)(r:U UInt8)(h:bldS xs=some r):FnX QbP 99 [.ptr 0 0] [.boxB 169 [.np 0,.ref 1],.arr 5 1 (List.map bR xs)] (.str r) [.dead,.dead]:=by
 unfold bldS at h;split at h;rotate_left
 .cases h
 rename_i hc;cases h;refine⟨callable Tryz.func99 J (by kernel_rfl),λw F σ vs hs hr=>?_⟩;match vs,hr with
 | [v0],hr=>
  have r0:Rel σ w F (.ptr 0 0) v0:=hr.2 0 _ v0 J J
  cases r0 with
  |ptr _ _ b hσ=>
  obtain⟨b',us,e1,hb,hcr,hc1,hF⟩:=hs.obj 0 _ _ J hσ
  injection e1 with e1
  injection e1 with e1
  injection e1 with e1
  subst e1
  have hlen:us.size=2:=by simpa using hcr.1
  obtain⟨p,hp,hrp⟩:=hcr.get (j:=1) (a:=.ref 1) J
  have hp':us[1]?=some p:=by simpa using hp
  have hcell:w.cell? ⟨b,1,none⟩=some p:=by rw[World.cell?];simp[hb,hp']
  cases hrp with
  |ref _ A q cp hσ1=>
  obtain⟨hq,flat,hown,hfl,hcase⟩:=hZ hs (id:=1) J hσ1
  rw[RZ]at hq
  subst hq
  rcases hcase with hcase|⟨g,cur,rfl,hFa,hga,hnc,hcm,hsz,htk⟩
  .exact absurd (Sq.1 hcase) hc.1
  .have hflat:=Gp xs flat hfl.2.2
   have hlt:(ce xs).length=xs.length:=by simp[ce]
   have hx:∀(j:Nat) x,(ce xs)[j]?=some x->w.cell? ⟨g,j,none⟩=some (.int .u8 x.toNat):=λj x hj=>by
    have hj2:j<xs.length:=by rw[<- hlt];exact(RH.1 hj).1
    have h1:cur.toList[j]?=some (.int .u8 xs[j]):=by
     have:(cur.toList.take (xs.length*1))[j]?=flat[j]?:=by rw[htk]
     rw[Sm,if_pos (by omega),hflat]at this;rw[this];simp[hj2]
    have h2:x=UInt8.ofNat (xs[j]).toNat:=by unfold ce at hj;rw[R9,RG hj2]at hj;exact(RR hj).symm
    have h3:=hc.2 xs[j] (R6 hj2);have h4:((UInt8.ofNat (xs[j]).toNat).toNat:Int)=xs[j]:=by rw[UInt8.toNat_ofNat',S3 (by omega)];omega
    rw[World.cell?];rw[h2,h4];have h5:cur[j]?=some (.int .u8 xs[j]):=by simpa using h1
    simp[hga,h5]
   have hne:ce xs≠[]:=λe=>hc.1 (RP (by rw[<- hlt,e];rfl))
   have hS:=P0 b g cp cur (ce xs) w (by rw[hlt];exact hcell) hne hga (by rw[hlt];exact hnc) hcm (by omega) hx
   refine hS.mono ?_
   rintro e w' ⟨rfl,rfl⟩
   have hn0:(ce xs).length≠0:=by simpa using hne
   have hfz:∀k,k≠g->(w.drew.freeze ⟨g,0,none⟩ (ce xs).length).heap[k]?=w.heap[k]?:=λk hk=>by
    have:¬g=k:=λe=>hk e.symm
    unfold World.freeze;rw[if_neg hn0];show(w.heap.modify g _)[k]?=_;rw[SO,if_neg this]
   have hsize:(w.drew.freeze ⟨g,0,none⟩ (ce xs).length).heap.size=w.heap.size:=by unfold World.freeze;rw[if_neg hn0];show(w.heap.modify g _).size=_;simp
   have hD:Dof [Ob.boxB 169 [.np 0,.ref 1],.arr 5 1 (List.map bR xs)] σ g:=⟨1,_,_,J,J,hσ1,J⟩
   refine⟨_,_,_,σ,F,J,⟨J,J⟩,⟨by have:=hs.len;simpa using this,λk o v ho hv=>?_,λk k' o o' v v' gg hne ho ho' hl=>?_,λk hk=>by rw[hsize];exact hs.lt k hk,hs.gd.mono (λ_ hb=>hb) λk hk=>hfz k (λe=>hs.free hD (e▸hk))⟩,.str _,⟨by unfold World.freeze;rw[if_neg hn0];rfl,by unfold World.freeze;rw[if_neg hn0];rfl,⟨by unfold World.freeze;rw[if_neg hn0];rfl,by unfold World.freeze;rw[if_neg hn0];first|exact Nat.le_succ _|exact RJ _⟩,Nat.le_of_eq hsize.symm,λk hk hd=>hfz k (λe=>hd (e▸hD)),λ_ _ h=>h,λ_ h=>h,λ_ h=>.inl h,λk hd=>?_⟩⟩
   .match k,ho with
    |0,ho=>cases ho;trivial
    |1,ho=>cases ho;trivial
   .match k,ho with
    |0,ho=>cases ho;cases hl
    |1,ho=>cases ho;cases hl
   .obtain⟨j,o,v,ho,hl,_⟩:=hd
    match j,ho with
    |0,ho=>cases ho;cases hl
    |1,ho=>cases ho;cases hl
end
section
open Go.RowKit
set_option maxRecDepth 100000
set_option maxHeartbeats 4000000
theorem JP(p q:Value)(w:World):
  CallsD QbP 117 #[p,q] .returning w λe u' w'=>(∃v,e=.returned v)/\u'=.returning/\w'=w:=by
 refine callsD_of_wpS Wo J λc₀ cs hu=>?_
 apply wpS_seq
 apply wpS_region
 simp[wpOpsS,go_sem,recoverD,hu,Tryz.ntmps117,Exit.thenS]
 apply wpS_seq
 apply wpS_region
 simp[wpOpsS,go_sem,Exit.thenS]
 refine wpS_cond (t:=false) (by simp[Act.eval,Array.replicate]) ?_
 simp only[RU,if_false]
 refine wpS_of_wp (wp_skip ?_)
 cases c₀
 simp_all[bodyPostS,results,Tryz.results117]
theorem idleF:IdleF QbP 117 2:=λcvs h=>by
 match cvs,h with
 |[p,q],_=>
  exact⟨.func 117,#[p,q],117,#[p,q],J,λw=>callable Wo J (by kernel_rfl) _ w,λw=>JP p q w⟩
end
section
open Go.RowKit
abbrev pan1(V:Value):List PanicEntry:=[{ v:=V,recovered:=false }]
abbrev pan2(V:Value):List PanicEntry:=[{ v:=V,recovered:=true }]
def CatX(P:Program)(V:Value)(g:FuncId)(args:List AV)(aw aw':List Ob):Prop:=∀w F σ vs,Sim aw σ w F->RelL σ w F args vs ->
 CallsD P g vs.toArray (.panicking (pan1 V)) w λe u' w'=>(∃v,e=.returned v)/\u'=.panicking (pan2 V)/\∃σ' F',Sim aw' σ' w' F'/\Mv aw σ w F aw' σ' w' F'
structure Caught (P:Program) (V:Value) (g:FuncId) (caps:List AV) (aw aw2:List Ob):Prop where
 out:∃(ρ:List Nat) (as0:List AV) (aw0 aw1:List Ob),ρ.Nodup/\b7 ρ aw ρ aw0/\cK ρ as0 caps/\CatX P V g as0 aw0 aw1/\aw2.length+ρ.length=aw.length+aw1.length/\fD (bY ρ aw.length aw1.length) ρ aw aw1 0 aw2
theorem Ui{P:Program}{V:Value}{g:FuncId}{caps as0:U AV}{aw aw0 aw1 aw2:U Ob}{n0 n1:Nat}(ρ:U Nat)(hn0:aw.length=n0)(hn1:aw1.length=n1)(hnd:ρ.Nodup)(hW:b7 ρ aw ρ aw0)(hA:cK ρ as0 caps)(hC:CatX P V g as0 aw0 aw1)
 (hl:aw2.length+ρ.length=n0+n1) (hB:fD (bY ρ n0 n1) ρ aw aw1 0 aw2):Caught P V g caps aw aw2:=by subst hn0 hn1;exact⟨ρ,as0,aw0,aw1,hnd,hW,hA,hC,hl,hB⟩
section
variable {P:Program} {V:Value} {N n Nf:Nat} {fr:List AV} {aw aw2:List Ob} {l:List (Nat×AV)} {fn:Func} {Q:AV→List Ob→Prop} {g:FuncId} {caps:List AV}
theorem Caught.run{σ:U Value}{w:World}{F:Nat->Prop}{cvs:U Value}(h:Caught P V g caps aw aw2)(hs:Sim aw σ w F)(hr:RelL σ w F caps cvs):
  CallsD P g cvs.toArray (.panicking (pan1 V)) w λe u' w'=>(∃v,e=.returned v)/\u'=.panicking (pan2 V)/\∃σ' F',Sim aw2 σ' w' F'/\Mv aw σ w F aw2 σ' w' F':=by
 obtain⟨ρ,as0,aw0,aw1,hnd,hW,hA,hC,hl,hB⟩:=h.out
 obtain⟨σ0,hσ,hs0,hd0⟩:=jI hs hnd hW
 have hl0:σ0.length=ρ.length:=by rw[hs0.len,(kK hW).1]
 refine(hC w F σ0 cvs hs0 (f5 hA hr hσ)).mono ?_
 grind[r6]
section
variable {aw:List Ob} {K2:AV→List Ob→Prop} {d:Option Tmp} {ty:TypeId} {ps:String} {af:Array Edge} {gd:Option (Nat×Bool)}
variable {t ti:TypeId}{its:Array (String×TypeId)}{x:Operand}{a:AV}
theorem LJ (k:Nat)(hu:P.underlying t=some (.interface its))(u:Value)(w:World):(Op.equalIn (k+1) t (.iface ti u) .nilIface).run P w=.ok false w:=by simp[Op.equalIn,Sem.run_bind,run_underlying hu]
theorem Lh {t2:TypeId}{y:Operand}(hu:P.underlying t=some (.interface its))(hx:evA n l x=.ifc ti a)(hy:evA n l y=.nili)(h:K2 (.bool true) aw):OP P N ⟨d,.binOp .neq t x y t2,ty,ps,af,gd⟩ (mkA n l) aw K2:=
 TP (λσ w F ac har hs=>by
  have ex:=har.ev x;have ey:=har.ev y;rw[aF,hx]at ex;rw[aF,hy]at ey;generalize hvx:ac.eval x=vx at ex;generalize hvy:ac.eval y=vy at ey;cases ey;cases ex with
  |ifc _ _ u hu2=>
   refine⟨.bool true,_,w,aw,σ,F,_,?_,.inl J,hs,.refl ..,.bool true,h⟩;have he:(Op.equalIn Op.maxDepth t (.iface ti u) .nilIface).run P w=.ok false w:=LJ 9999 hu u w;simp_all[execOp,eqGuard,binOp,Op.equal])
theorem M8 {t0:TypeId}{dd:TypeDesc}(hu:P.underlying t=some dd)(hd:(match dd with| .interface _=>false|_=>true)=true)(hx:evA n l x=.ifc t a)(h:K2 (.tup [a,.bool true]) aw):OP P N ⟨d,.typeAssert x t0 t true,ty,ps,af,gd⟩ (mkA n l) aw K2:=
 TP (λσ w F ac har hs=>by
  have ex:=har.ev x;rw[aF,hx]at ex;generalize hvx:ac.eval x=vx at ex;cases ex with
  |ifc _ _ u hu2=>
   have hr:RelL σ w F [a,.bool true] [u,.bool true]:=.cons hu2 (.cons (.bool true) .nil);refine⟨.tuple #[u,.bool true],_,w,aw,σ,F,_,?_,.inl J,hs,.refl ..,.tup _ _ hr.1 hr.2,h⟩;cases dd<;>simp_all[execOp,Instr.typeAssert,Sem.run_bind,run_underlying hu])
end
def RecQ(P:Program)(fn:Func)(Nf:Nat)(Q:AV->List Ob->Prop)(V:Value)(g:FuncId)(caps:List AV):Exit->List AV->List Ob->Prop
 | .panic ch,fr,aw=>ch=pan1 V/\∃aw2,Caught P V g caps aw aw2/\cq P fr aw2 fn.results.toList (Ret Nf Q aw2)
 |e,fr,aw=>retQ P fn Nf Q e fr aw
instance:RetI (RecQ P fn Nf Q V g caps) (λfr aw=>cq P fr aw fn.results.toList (Ret Nf Q aw)):=⟨λ_ _ h=>h⟩
def CQR(P:Program)(st:St)(fn:Func)(Nf:Nat)(Q:AV->List Ob->Prop)(V:Value)(e:Exit)(a:Act)(w:World):Prop:=
 CQ st (retQ P fn Nf Q) e a w∨∃(g:FuncId) (caps:List AV) (cvs:List Value) (st':St),Idle P ⟨.fn (.func g) cvs.toArray,#[]⟩/\(∀w,(callFunc g cvs.toArray).run P w=.ok (.enter g cvs.toArray) w) /\
  RelL st'.σ st'.w st'.F caps cvs/\Sim st'.aw st'.σ st'.w st'.F/\Mv st.aw st.σ st.w st.F st'.aw st'.σ st'.w st'.F/\st'.ds=[⟨.fn (.func g) cvs.toArray,#[]⟩]/\CQ st' (RecQ P fn Nf Q V g caps) e a w
structure TDR (P:Program) (N:Nat) (c:Code) (fn:Func) (Nf:Nat) (Q:AV->List Ob->Prop) (V:Value) (fr:List AV) (aw:List Ob):Prop where
 out:∀st:St,st.aw.length=N->st.σ.length=st.aw.length->st.ds=[]->∀σ w F a,Cur st fr aw σ w F a->c.wp P (CQR P st fn Nf Q V) a w
theorem TDR.seq{x y:Code}(h:T P N x (thenA (TDR P N y fn Nf Q V) (retQ P fn Nf Q)) fr aw):TDR P N (.seq x y) fn Nf Q V fr aw:=
 ⟨λst h1 h2 h3 σ w F a hc=>wp_seq (wp_mono (h.out st h1 h2 σ w F a hc) (by
  rintro e a' w' ⟨fr',aw',σ',F',hq,hcur⟩;cases e with
  |normal=>exact TDR.out hq st h1 h2 h3 σ' w' F' a' hcur
  |_=>exact .inl ⟨fr',aw',σ',F',hq,hcur⟩))⟩
theorem TDR.defer{id:Nat}{ops:Array Oper}{y:Code}{ty:TypeId}{ps:String}{af:Array Edge}{f:Operand}{ts:Array TypeId}(i:Nat)(ho:ops.toList.drop i=[⟨none,.defer ⟨.value f,#[],ts⟩,ty,ps,af,none⟩])
  (h:RS P N ops (ops.toList.take i) (λfr aw=>∃(N':Nat) (l:U (Nat×AV)) (caps:U AV) (g:FuncId),aw.length=N'/\fr=mkA n l/\evA n l f=.func g caps/\IdleF P g caps.length/\(∀vs w,(callFunc g vs).run P w=.ok (.enter g vs) w)/\T P N' y (RecQ P fn Nf Q V g caps) (mkA n l) aw) fr aw):TDR P N (.seq (.region id ops false) y) fn Nf Q V fr aw:=
 ⟨λst h1 h2 h3 σ w F a hc=>by
  refine wp_seq (wp_region_list ?_);rw[<- So i ops.toList,ho];refine u7 _ _ _ (h.out st h1 h2 σ w F a hc _ λfr aw σ w F a hc hK=>?_);obtain⟨_,l,caps,g,rfl,rfl,hf,hI,hcall,hT⟩:=hK;show wpList P ops _ (_::[]) a w;unfold wpList;rw[if_pos (by rfl)];refine .inl ?_;have hfv:=hc.fr.ev f;rw[aF,hf]at hfv;generalize hvf:a.eval f=vf at hfv;cases hfv with
  |func _ _ cvs hl hcs=>
   have hrun:(execOp a.eval ⟨none,.defer ⟨.value f,#[],ts⟩,ty,ps,af,none⟩).run P w=.ok (.defer ⟨.fn (.func g) cvs.toArray,#[]⟩) w:=by simp_all[execOp,resolve,Deferred.ofValue]
   unfold Oper.wp;rw[hrun,Oper.upon_defer];show wpList P ops _ [] _ w;unfold wpList;refine wp_mono (hT.out ⟨aw,σ,w,F,[⟨.fn (.func g) cvs.toArray,#[]⟩]⟩ J hc.sim.len σ w F _ ?_) λ_ _ _ h=>.inr ⟨g,caps,cvs,⟨aw,σ,w,F,[⟨.fn (.func g) cvs.toArray,#[]⟩]⟩,hI cvs hl,hcall _,⟨hl,hcs⟩,hc.sim,hc.mv,J,h⟩
   refine⟨hc.sim,hc.fr,.refl ..,?_⟩;have hds:=hc.ds;rw[h3]at hds;show _::a.defers=_;rw[hds]⟩
theorem Ls{f:FuncId}{c:Code}{args:U AV}{m:Nat}(hN:aw.length=N)(hf:P.funcs[f]?=some fn)(hb:fn.body=some c)(hname:(fn.name== "runtime.NumGoroutine")=false)(hm:fn.ntmps=m)(hl:Nat.ble args.length m=true)
  (h:TDR P N c fn N Q V (mkA m (initA 0 args)) aw):ACalls P f args aw Q:=by
 subst hm hN
 refine⟨callable hf (by rw[hb];rfl) hname,λw F σ vs hs hr=>?_⟩
 have hc:Cur ⟨aw,σ,w,F,[]⟩ (args++List.replicate (fn.ntmps- args.length) .any) aw σ w F { tmps:=vs.toArray++Array.replicate (fn.ntmps- vs.toArray.size) undef,defers:=[] }:=by
  refine⟨hs,⟨?_,tqz⟩,.refl ..,J⟩;have h2:RelL σ w F (List.replicate (fn.ntmps- args.length) .any) (List.replicate (fn.ntmps- vs.length) undef):=
   ⟨by simp[hr.1],λj x v hx hv=>by rw[S5 (RI hx)];exact .any v⟩
  simpa using hr.append h2
 rw[xT _ _ (SN hl)]at hc
 refine calls_of_wp_defers hf hb (wp_mono (h.out ⟨aw,σ,w,F,[]⟩ J hs.len J σ w F _ hc) ?_)
 have key:∀(a':Act) (w':World) (fr':U AV) (aw':U Ob) (σ':U Value) (F':Nat->Prop),Sim aw' σ' w' F'->ARel σ' w' F' fr' a'->Mv aw σ w F aw' σ' w' F'->cq P fr' aw' fn.results.toList (Ret aw.length Q aw')->∃v,(results fn a'.tmps).run P w'=.ok v w' /\
   (∃v' r aw2 σ2 F2,Ending.returned v=.returned v'/\Q r aw2/\Sim aw2 σ2 w' F2/\Rel σ2 w' F2 r v'/\Mv aw σ w F aw2 σ2 w' F2):=by
  intro a' w' fr' aw' σ' F' hsim hfr hmv hq
  obtain⟨rs,us,h1,⟨nl,z,r',aw2,hW,hQ⟩,h3⟩:=wn hfr hsim _ _ hq
  obtain⟨σn,sn,h1n,mn⟩:=sv nl hsim h1
  refine⟨_,Bg fn a'.tmps us h3,?_⟩
  have hrel:=EZ h1n
  have fin:∀(r1:AV) (aw1:U Ob) (F1:Nat->Prop),Sim aw1 σn w' F1->Mv aw σ w F aw1 σn w' F1->Rel σn w' F1 r1 (if h:us.length=1 then us[0]else .tuple us.toArray)->WeakR aw.length r1 aw1 r' aw2 ->
    ∃v' r aw2 σ2 F2,Ending.returned (if h:us.length=1 then us[0]else .tuple us.toArray)=.returned v'/\Q r aw2/\Sim aw2 σ2 w' F2/\Rel σ2 w' F2 r v'/\Mv aw σ w F aw2 σ2 w' F2:=by
   intro r1 aw1 F1 s1 m1 hr1 ⟨ρ,hnd,hρ,hren,hRW⟩
   obtain⟨σ2,hσ,s2,hd⟩:=jI s1 hnd hRW
   exact⟨_,r',aw2,σ2,F1,J,hQ,s2,hren σn w' F1 _ hr1 σ2 hσ,UB (st:=⟨aw,σ,w,F,[]⟩) hs.len m1 hρ hσ hd⟩
  cases z with
  |true=>
   obtain⟨F1,s1,m1,r1⟩:=Df sn hrel
   exact fin _ _ F1 s1 ((hmv.trans mn).trans m1) r1 hW
  |false=>exact fin _ _ F' sn (hmv.trans mn) hrel hW
 have plain:∀(a':Act) (w':World) (fr':U AV) (aw':U Ob) (σ':U Value) (F':Nat->Prop),Cur ⟨aw,σ,w,F,[]⟩ fr' aw' σ' w' F' a'->cq P fr' aw' fn.results.toList (Ret aw.length Q aw') ->
   Leaves P fn a'.tmps (λe w'=>∃v r aw' σ' F',e=.returned v/\Q r aw'/\Sim aw' σ' w' F'/\Rel σ' w' F' r v/\Mv aw σ w F aw' σ' w' F') a'.defers .returning w':=by
  intro a' w' fr' aw' σ' F' hcur hq
  have hd:=hcur.ds
  rw[hd]
  exact key a' w' fr' aw' σ' F' hcur.sim hcur.fr hcur.mv hq
 rintro e a' w' (⟨fr',aw',σ',F',hq,hcur⟩|⟨g,caps,cvs,st',hI,hcall,hcv,hsim',hmv',hds',fr',aw',σ',F',hq,hcur⟩)
 .cases e with
  |normal=>exact plain _ _ _ _ _ _ hcur hq
  |ret=>exact plain _ _ _ _ _ _ hcur hq
  |exit id=>exact hq.elim
  |goto l=>exact hq.elim
  |panic ch=>exact hq.elim
  |outgrown=>exact hq.elim
 .have hd:=hcur.ds
  rw[hds']at hd
  have hmv:=hmv'.trans hcur.mv
  have idle:cq P fr' aw' fn.results.toList (Ret aw.length Q aw')->Leaves P fn a'.tmps (λe w'=>∃v r aw' σ' F',e=.returned v/\Q r aw'/\Sim aw' σ' w' F'/\Rel σ' w' F' r v/\Mv aw σ w F aw' σ' w' F') a'.defers .returning w':=λhq=>by have hk:=key a' w' fr' aw' σ' F' hcur.sim hcur.fr hmv hq;obtain⟨fv,cap,g2,gargs,e1,e2,e3⟩:=hI;rw[hd];refine⟨by simp,fv,cap,g2,gargs,e1,e2 w',(e3 w').mono ?_⟩;rintro e u' w'' ⟨⟨v,rfl⟩,rfl,rfl⟩;exact hk
  cases e with
  |normal=>exact idle hq
  |ret=>exact idle hq
  |exit id=>exact hq.elim
  |goto l=>exact hq.elim
  | panic ch=>
   obtain⟨rfl,aw2,hcat,hq⟩:=hq
   show Leaves P fn a'.tmps _ a'.defers (.panicking (pan1 V)) w'
   rw[hd]
   refine⟨by simp,.func g,cvs.toArray,g,cvs.toArray,J,?_,(hcat.run hcur.sim (hcur.mv.relL hsim' hcv)).mono ?_⟩
   .grind[invoke]
   .rintro e u' w'' ⟨⟨v,rfl⟩,rfl,σ2,F2,s2,m2⟩
    exact key a' w'' fr' aw2 σ2 F2 s2 (m2.aRel hcur.sim hcur.fr) (hmv.trans m2) hq
  |outgrown=>exact hq.elim
end
end
section
open Go.RowKit
set_option maxRecDepth 100000
set_option maxHeartbeats 4000000
theorem vD{n:Nat}{l:U (Nat×AV)}{aw:U Ob}{rs:U ResultVar}{V:AV}[hV:PureC V](h:resC tyT n l aw rs λvs=>nrmRC aw (dT vs) λv _=>v=V:=by rfl):cq QbP (mkA n l) aw rs (Ret 0 (λr aw'=>r=V/\aw'=[]) aw):=
 qd fM (λvs hv=>by have h1:=xU hv;exact DT (v:=V) (aw1:=(il aw (dT vs)).2) (by rw[<- h1]) hV.out ⟨J,J⟩) h
theorem fnTDR{P:Program}{V:Value}{aw:U Ob}{f:FuncId}{fn:Func}{c:Code}{args:U AV}{Q:AV->U Ob->Prop}{m:Nat}(N:Nat)(hf:P.funcs[f]?=some fn)(hm:fn.ntmps=m)(h:iniC 0 args λl=>TDR P N c fn N Q V (mkA m l) aw)
  (hb:fn.body=some c:=by rfl) (hN:aw.length=N:=by rfl) (hname:(fn.name== "runtime.NumGoroutine")=false:=by kernel_rfl) (hl:Nat.ble args.length m=true:=by rfl):ACalls P f args aw Q:=
 Ls hN hf hb hname hm hl (vX (K:=λl=>TDR P N c fn N Q V (mkA m l) aw) h)
theorem catX:CatX QbP (.iface 200 (.agg #[])) 117 [.ptr 0 0,.ptr 1 0] [.box [.any,.any,.any,.any,.any],.box [.any]] [.box [.nils,.nils,.nils,.nils,.nils],.box [iI 12]]:=by
 intro w F σ vs hs hr;match vs,hr with
 | [p,q],hr=>
  refine callsD_of_wpS Wo J λc₀ cs hu=>?_
  apply wpS_seq
  apply wpS_region
  simp[wpOpsS,go_sem,recoverD,hu,Tryz.ntmps117,Exit.thenS]
  have hp:Rel σ w F (.ptr 0 0) p:=hr.2 0 _ p J J
  have hq:Rel σ w F (.ptr 1 0) q:=hr.2 1 _ q J J
  have hv:Rel σ w F (.ifc 200 (.agg [])) (.iface 200 (.agg #[])):=.ifc _ _ _ (.agg [] [] J (λ_ h=>(Sd h).elim) (λj c u h=>by simp at h))
  have hc:Cur ⟨[.box [.any,.any,.any,.any,.any],.box [.any]],σ,w,F,[]⟩ [.ptr 0 0,.ptr 1 0,.ifc 200 (.agg []),.any,.any,.any,.any,.any,.any,.any,.any,.any,.any,.any,.any,.any,.any] [.box [.any,.any,.any,.any,.any],.box [.any]] σ w F { tmps:=#[p,q,(.iface 200 (.agg #[])),undef,undef,(.iface 200 (.agg #[])),undef,undef,undef,undef,undef,undef,undef,undef,undef,undef,undef],defers:=[] }:=
   ⟨hs,⟨.cons hp (.cons hq (.cons hv (.cons (.any _) (.cons (.any _) (.cons (.any _) (.cons (.any _) (.cons (.any _) (.cons (.any _) (.cons (.any _) (.cons (.any _) (.cons (.any _) (.cons (.any _) (.cons (.any _) (.cons (.any _) (.cons (.any _) (.cons (.any _) (.nil))))))))))))))))),tqz⟩,.refl ..,J⟩
  refine wpS_of_wp (wp_mono (T.out (P:=QbP) (N:=2) (Q:=λe fr aw=>e=.normal/\aw=[.box [.nils,.nils,.nils,.nils,.nils],.box [iI 12],.box []]) (fr:=mkA 17 [(0,.ptr 0 0),(1,.ptr 1 0),(2,.ifc 200 (.agg []))]) (aw:=[.box [.any,.any,.any,.any,.any],.box [.any]]) ?_ ⟨[.box [.any,.any,.any,.any,.any],.box [.any]],σ,w,F,[]⟩ J hs.len σ w F _ hc) ?_)
  .refine T.seq (T.region (go 1 2 (sO (Lh Tryz.underlying20 J J (RS.nil (Wc J (T.seq (T.seq (T.region (go 1 2 ?_))))))))))
   refine sO (M8 Wi J J (go 6 2 (RS.nil (T.seq (T.region (go 2 3 (RS.nil (Wd J (T.skip (T.region ?_))))))))))
   exact go 3 3 (RS.nil (⟨J,J⟩))
  .rintro e a' w' ⟨fr',aw',σ',F',⟨rfl,rfl⟩,hcur⟩
   obtain⟨σ2,hσ,s2,hd⟩:=jI (aw':=[.box [.nils,.nils,.nils,.nils,.nils],.box [iI 12]]) (ρ:=[0,1]) hcur.sim (by decide) (aA (cs:=[.nils,.nils,.nils,.nils,.nils]) (ds:=[.nils,.nils,.nils,.nils,.nils]) J ⟨dR bT,dR bT,dR bT,dR bT,dR bT,tqz⟩ (aA (cs:=[iI 12]) (ds:=[iI 12]) J ⟨cS J,tqz⟩ (au)))
   refine⟨hcur.ds,_,J,.tuple #[],?_,⟨_,J⟩,J,σ2,F',s2,UB (st:=⟨[.box [.any,.any,.any,.any,.any],.box [.any]],σ,w,F,[]⟩) hs.len hcur.mv (λk hk=>?_) hσ hd⟩
   .simp[results,Tryz.results117]
   .match k,hk with
    |0,_=>rfl
    |1,_=>rfl
end
end Go.Proofs.YtfglbbhdfgjheaaGreatDoor
