/-
  Part 4 of the proof of shopEndsLaw.proved: the code computes these functions, and the law holds of them, with no condition beyond the statement's own; put together by a program of ours (wip/decl.py) out of texts of ours.
-/
import Derived.Lib.AppendIntMem
import Derived.Shelf.SlSortCmp.NoneTotal
import Derived.IntWalk
import Derived.ProofKit
import Derived.OpenShut
import Derived.JoinedCond
import Derived.Deep.Slices
import Derived.Carry
import Derived.Test.YtfglbbhdfgjheaaGreatDoorZShopEnds3
set_option linter.unusedVariables false
set_option linter.unusedSimpArgs false
namespace Go.Proofs.YtfglbbhdfgjheaaGreatDoor
section
open Go.RowKit
set_option maxRecDepth 100000
set_option maxHeartbeats 4000000
set_option synthInstance.maxSize 100000
set_option synthInstance.maxHeartbeats 4000000
section
variable {p0:U UInt8}{r p1:U Int}
theorem Ag {r:(Item×(U UInt8))⊕Unit}(h:mE p0=some r):FnP QbP (.iface 200 (.agg #[])) 151 [.ptr 0 0] [.box [.str p0]] (λr:Item×(U UInt8)=>.agg (aa r.1)) (λr=>[.box [.str r.2]]) r:=by
 unfold mE at h;refine fnPT 1 Tryz.func151 Tryz.ntmps151 ?_;refine q0 ?_;refine X 5 1 (cV h (λhx4 h=>?_) (λx4 hx4 h=>?_))
 .cases h;(refine T9 (V:=(.iface 200 (.agg #[]))) 1 J ?_);exact go 1 2 (RS.nil (qc (aw2:=[.dead,.box [iI 0,iI 0,iI 0]]) (n0:=2) (n1:=1) [0] J J (aW hx4) (aA J ⟨aJ J,tqz⟩ au) ⟨am J,tqz⟩ ⟨.inl ⟨0,_,by decide,J,tqz⟩,.inr ⟨J,J⟩,tqz⟩ J))
 refine cV h (λhx5 h=>?_) (λx5 hx5 h=>?_)
 .cases h;(refine T9 (V:=(.iface 200 (.agg #[]))) 3 J ?_);exact go 1 2 (sO (bq (aw2:=[.box [.str x4.2],.box [iI 0,iI 0,iI 0]]) (v':=iI x4.1) (n0:=2) (n1:=1) [0] J J (aW hx4) (aA J ⟨aJ J,tqz⟩ au) ⟨am J,tqz⟩ (ap (aL _ _)) ⟨.inl ⟨0,_,by decide,J,aZ ⟨ap (bc _),tqz⟩⟩,.inr ⟨J,J⟩,tqz⟩ (go 1 2 (RS.nil (qc (aw2:=[.dead,.box [iI 0,iI 0,iI 0]]) (n0:=2) (n1:=1) [0] J J (aW hx5) (aA J ⟨aJ J,tqz⟩ au) ⟨am J,tqz⟩ ⟨.inl ⟨0,_,by decide,J,tqz⟩,.inr ⟨J,J⟩,tqz⟩ J)))))
 refine cV h (λhx6 h=>?_) (λx6 hx6 h=>?_)
 .cases h;(refine T9 (V:=(.iface 200 (.agg #[]))) 5 J ?_);refine go 1 2 (sO (bq (aw2:=[.box [.str x4.2],.box [iI 0,iI 0,iI 0]]) (v':=iI x4.1) (n0:=2) (n1:=1) [0] J J (aW hx4) (aA J ⟨aJ J,tqz⟩ au) ⟨am J,tqz⟩ (ap (aL _ _)) ⟨.inl ⟨0,_,by decide,J,aZ ⟨ap (bc _),tqz⟩⟩,.inr ⟨J,J⟩,tqz⟩ (go 1 2 (sO (bq (aw2:=[.box [.str x5.2],.box [iI 0,iI 0,iI 0]]) (v':=iI x5.1) (n0:=2) (n1:=1) [0] J J (aW hx5) (aA J ⟨aJ J,tqz⟩ au) ⟨am J,tqz⟩ (ap (aL _ _)) ⟨.inl ⟨0,_,by decide,J,aZ ⟨ap (bc _),tqz⟩⟩,.inr ⟨J,J⟩,tqz⟩ (go 1 2 ?_))))));exact RS.nil (qc (aw2:=[.dead,.box [iI 0,iI 0,iI 0]]) (n0:=2) (n1:=1) [0] J J (aW hx6) (aA J ⟨aJ J,tqz⟩ au) ⟨am J,tqz⟩ ⟨.inl ⟨0,_,by decide,J,tqz⟩,.inr ⟨J,J⟩,tqz⟩ J)
 refine X 2 2 (sO (bq (aw2:=[.box [.str x4.2],.box [iI 0,iI 0,iI 0]]) (v':=iI x4.1) (n0:=2) (n1:=1) [0] J J (aW hx4) (aA J ⟨aJ J,tqz⟩ au) ⟨am J,tqz⟩ (ap (aL _ _)) ⟨.inl ⟨0,_,by decide,J,aZ ⟨ap (bc _),tqz⟩⟩,.inr ⟨J,J⟩,tqz⟩ (Y 1 2 (sO (bq (aw2:=[.box [.str x5.2],.box [iI 0,iI 0,iI 0]]) (v':=iI x5.1) (n0:=2) (n1:=1) [0] J J (aW hx5) (aA J ⟨aJ J,tqz⟩ au) ⟨am J,tqz⟩ (ap (aL _ _)) ⟨.inl ⟨0,_,by decide,J,aZ ⟨ap (bc _),tqz⟩⟩,.inr ⟨J,J⟩,tqz⟩ (Y 1 2 (sO (bq (aw2:=[.box [.str x6.2],.box [iI 0,iI 0,iI 0]]) (v':=iI x6.1) (n0:=2) (n1:=1) [0] J J (aW hx6) (aA J ⟨aJ J,tqz⟩ au) ⟨am J,tqz⟩ (ap (aL _ _)) ⟨.inl ⟨0,_,by decide,J,aZ ⟨ap (bc _),tqz⟩⟩,.inr ⟨J,J⟩,tqz⟩ (Y 3 2 ?_)))))))));cases h;exact tN [0]
theorem Ae {r:((U Item)×(U UInt8))⊕Unit}(h:ra p0=some r):FnP QbP (.iface 200 (.agg #[])) 150 [.ptr 0 0,.bnd 151 [.ptr 0 0]] [.box [.str p0]] (λr:(U Item)×(U UInt8)=>.ref 1) (λr=>[.box [.str r.2],aR 68 3 aa r.1]) r:=by
 unfold ra at h;refine fnPT 1 Tryz.func150 Tryz.ntmps150 ?_;refine q0 ?_;refine X 5 1 (cV h (λhx2 h=>?_) (λx2 hx2 h=>?_))
 .cases h;(refine T9 (V:=(.iface 200 (.agg #[]))) 1 J ?_);exact go 1 1 (RS.nil (qc (aw2:=[.dead]) (n0:=1) (n1:=1) [0] J J (aW hx2) (aA J ⟨aJ J,tqz⟩ au) ⟨am J,tqz⟩ ⟨.inl ⟨0,_,by decide,J,tqz⟩,tqz⟩ J))
 refine X 2 1 (sO (bq (aw2:=[.box [.str x2.2]]) (v':=iI x2.1) (n0:=1) (n1:=1) [0] J J (aW hx2) (aA J ⟨aJ J,tqz⟩ au) ⟨am J,tqz⟩ (ap (aL _ _)) ⟨.inl ⟨0,_,by decide,J,aZ ⟨ap (bc _),tqz⟩⟩,tqz⟩ (Y 3 1 (j1 [(1,.bnd 151 [.ptr 0 0]),(5,iI x2.1),(19,.bool ((decide (x2.1<0))||decide (x2.1> ((x2.2).length:Int))))] [.box [.str x2.2]] ?_ (λhK=>?_)))))
 .refine TH h J (λae h=>?_) (λae h=>?_)
  .cases h;(refine T9 (V:=(.iface 200 (.agg #[]))) 2 J ?_);exact go 1 1 (sO (nF Wi J J (RS.nil (PP.panic J J))))
  refine X 12 1 (itr (λak:Int×(U UInt8)×(U Item)=>mkA 32 [(1,.bnd 151 [.ptr 0 0]),(6,.ref 1),(22,iI x2.1),(23,iI ak.1)]) (λak=>[.box [.str ak.2.1],aR 68 3 aa ak.2.2]) h (wk [(6,68,3)] [0,1] 1 J) (λak v_6 h bg=>?_));obtain⟨s4,s5,s6⟩:=ak;replace h:ke x2 s4 s5 s6=some v_6:=h;try dsimp only
  unfold ke at h;refine X 5 2 (TH h J (λbH h=>?_) (λbH h=>?_))
  .refine X 3 2 (cV h (λhx7 h=>?_) (λx7 hx7 h=>?_))
   .replace h:=mi h bg;cases h;(refine T9 (V:=(.iface 200 (.agg #[]))) 2 J ?_);exact go 2 2 (RS.nil (qcb (aw2:=[.dead,aR 68 3 aa s6]) (n0:=2) (n1:=1) [0] J J (Ag hx7) (aA J ⟨aJ J,tqz⟩ au) ⟨am J,tqz⟩ ⟨.inl ⟨0,_,by decide,J,tqz⟩,.inr ⟨J,J⟩,tqz⟩ J))
   refine B h λx8 hx8 h=>(X 3 2 (sO (yq (aw2:=[.box [.str x7.2],aR 68 3 aa s6]) (v':=.agg (aa x7.1)) (n0:=2) (n1:=1) [0] J J (Ag hx7) (aA J ⟨aJ J,tqz⟩ au) ⟨am J,tqz⟩ (tv ⟨ap (aL _ _),ap (aL _ _),ap (aL _ _),tqz⟩) ⟨.inl ⟨0,_,by decide,J,aZ ⟨ap (bc _),tqz⟩⟩,.inr ⟨J,J⟩,tqz⟩ (sO (bi (rows:=List.map aa [x7.1]) (vs:=[.agg (aa x7.1)]) TL Uk J J J J J J (sO (bU (en:=aa) (xs:=s6) (ys:=([x7.1]:U Item)) TL (λ_=>J) J J J hx8 J J (Y 6 4 ?_))))))))
   exact lk h (wk [] [0,3] 4 J)
  refine X 1 2 ?_;replace h:=mi h bg;refine X 5 2 ?_;cases h;exact tO [] [0,1] 2
 refine X 5 1 (gp 11 (λah=>?_) (λah=>?_))
 .refine Yp 9 1 ?_;rw[ah]at hK;exact sx hK
 refine Yp 9 1 ?_;rw[ah]at hK;exact sx hK
theorem ut {r:((U Item)×(U UInt8))⊕Unit}(h:lx p0=some r):FnP QbP (.iface 200 (.agg #[])) 121 [.ptr 0 0] [.box [.str p0]] (λr:(U Item)×(U UInt8)=>.ref 1) (λr=>[.box [.str r.2],aR 68 3 aa r.1]) r:=by
 unfold lx at h;refine fnPT 1 Tryz.func121 Tryz.ntmps121 ?_;refine q0 ?_;refine X 5 1 (cV h (λhx2 h=>?_) (λx2 hx2 h=>?_))
 .cases h;(refine T9 (V:=(.iface 200 (.agg #[]))) 3 J ?_);exact go 2 1 (sQ (v_bnd (cs:=[.ptr 0 0]) J (RS.nil (qc (aw2:=[.dead]) (n0:=1) (n1:=1) [0] J J (Ae hx2) (aA J ⟨aJ J,tqz⟩ au) ⟨am J,nT ⟨am J,tqz⟩,tqz⟩ ⟨.inl ⟨0,_,by decide,J,tqz⟩,tqz⟩ J))))
 refine X 3 1 (sQ (v_bnd (cs:=[.ptr 0 0]) J (sO (bq (aw2:=[.box [.str x2.2],aR 68 3 aa x2.1]) (v':=.ref 1) (n0:=1) (n1:=2) [0] J J (Ae hx2) (aA J ⟨aJ J,tqz⟩ au) ⟨am J,nT ⟨am J,tqz⟩,tqz⟩ (jQ (by decide)) ⟨.inl ⟨0,_,by decide,J,aZ ⟨ap (bc _),tqz⟩⟩,.inl ⟨1,_,by decide,J,lY fo⟩,tqz⟩ (Y 2 2 ?_)))));cases h;exact tO [] [0,1] 2
theorem Ai {r:((U (U Item))×(U UInt8))⊕Unit}(h:oR p0=some r):FnP QbP (.iface 200 (.agg #[])) 120 [.ptr 0 0,.bnd 121 [.ptr 0 0]] [.box [.str p0]] (λr:(U (U Item))×(U UInt8)=>.ref 1) (λr=>[.box [.str r.2],aR 30 1 (ai aa) r.1]) r:=by
 unfold oR at h;refine fnPT 1 Tryz.func120 Tryz.ntmps120 ?_;refine q0 ?_;refine X 5 1 (cV h (λhx2 h=>?_) (λx2 hx2 h=>?_))
 .cases h;(refine T9 (V:=(.iface 200 (.agg #[]))) 1 J ?_);exact go 1 1 (RS.nil (qc (aw2:=[.dead]) (n0:=1) (n1:=1) [0] J J (aW hx2) (aA J ⟨aJ J,tqz⟩ au) ⟨am J,tqz⟩ ⟨.inl ⟨0,_,by decide,J,tqz⟩,tqz⟩ J))
 refine X 2 1 (sO (bq (aw2:=[.box [.str x2.2]]) (v':=iI x2.1) (n0:=1) (n1:=1) [0] J J (aW hx2) (aA J ⟨aJ J,tqz⟩ au) ⟨am J,tqz⟩ (ap (aL _ _)) ⟨.inl ⟨0,_,by decide,J,aZ ⟨ap (bc _),tqz⟩⟩,tqz⟩ (Y 3 1 (j1 [(1,.bnd 121 [.ptr 0 0]),(5,iI x2.1),(19,.bool ((decide (x2.1<0))||decide (x2.1> ((x2.2).length:Int))))] [.box [.str x2.2]] ?_ (λhK=>?_)))))
 .refine TH h J (λae h=>?_) (λae h=>?_)
  .cases h;(refine T9 (V:=(.iface 200 (.agg #[]))) 2 J ?_);exact go 1 1 (sO (nF Wi J J (RS.nil (PP.panic J J))))
  refine X 12 1 (itr (λak:Int×(U UInt8)×(U (U Item))=>mkA 32 [(1,.bnd 121 [.ptr 0 0]),(6,.ref 1),(22,iI x2.1),(23,iI ak.1)]) (λak=>[.box [.str ak.2.1],aR 30 1 (ai aa) ak.2.2]) h (wk [(6,30,1)] [0,1] 1 J) (λak v_6 h bg=>?_));obtain⟨s4,s5,s6⟩:=ak;replace h:kg x2 s4 s5 s6=some v_6:=h;try dsimp only
  unfold kg at h;refine X 5 2 (TH h J (λbH h=>?_) (λbH h=>?_))
  .refine X 3 2 (cV h (λhx7 h=>?_) (λx7 hx7 h=>?_))
   .replace h:=mi h bg;cases h;(refine T9 (V:=(.iface 200 (.agg #[]))) 2 J ?_);exact go 2 2 (RS.nil (qcb (aw2:=[.dead,aR 30 1 (ai aa) s6]) (n0:=2) (n1:=1) [0] J J (ut hx7) (aA J ⟨aJ J,tqz⟩ au) ⟨am J,tqz⟩ ⟨.inl ⟨0,_,by decide,J,tqz⟩,.inr ⟨J,J⟩,tqz⟩ J))
   refine B h λx8 hx8 h=>(X 3 2 (sO (yq (aw2:=[.box [.str x7.2],aR 30 1 (ai aa) s6,aR 68 3 aa x7.1]) (v':=.ref 2) (n0:=2) (n1:=2) [0] J J (ut hx7) (aA J ⟨aJ J,tqz⟩ au) ⟨am J,tqz⟩ (jQ (by decide)) ⟨.inl ⟨0,_,by decide,J,aZ ⟨ap (bc _),tqz⟩⟩,.inr ⟨J,J⟩,.inl ⟨1,_,by decide,J,lY fo⟩,tqz⟩ (RS.fC 2 (sO (bi (rows:=List.map (ai aa) [x7.1]) (vs:=[sL aa x7.1]) TO Ua J J J J J J (sO (bU (en:=(ai aa)) (xs:=s6) (ys:=([x7.1]:U (U Item))) TO (λ_=>J) J J J hx8 J J (Y 6 5 ?_)))))))))
   exact lk h (wk [] [0,4] 5 J)
  refine X 1 2 ?_;replace h:=mi h bg;refine X 5 2 ?_;cases h;exact tO [] [0,1] 2
 refine X 5 1 (gp 11 (λah=>?_) (λah=>?_))
 .refine Yp 9 1 ?_;rw[ah]at hK;exact sx hK
 refine Yp 9 1 ?_;rw[ah]at hK;exact sx hK
theorem Al {r:(Keyed×(U UInt8))⊕Unit}(h:mM p0=some r):FnP QbP (.iface 200 (.agg #[])) 125 [.ptr 0 0] [.box [.ptr 1 0],.box [.str p0]] (λr:Keyed×(U UInt8)=>.agg (aQ r.1)) (λr=>[.box [.ptr 1 0],.box [.str r.2]]) r:=by
 unfold mM at h;refine fnPT 2 Tryz.func125 Tryz.ntmps125 ?_;refine q0 ?_;refine X 5 2 (cV h (λhx3 h=>?_) (λx3 hx3 h=>?_))
 .cases h;refine Ug (V:=(.iface 200 (.agg #[]))) (λ_=>True) mixed (k:=6) J ?_ (λ_ _ _=>J);refine qpl [0,1,3,4,5] 0 J (iU J J (aI TQ (c:=.ptr 1 0) J (qA2 1 2 ?_ ?_)))
  .exact qpP J (qc (aw2:=[.box [.ptr 1 0],.dead,.box [iI 0,iI 0]]) (n0:=3) (n1:=1) [1] J J (aW hx3) (aA J ⟨aJ J,tqz⟩ au) ⟨am J,tqz⟩ ⟨.inr ⟨J,J⟩,.inl ⟨0,_,by decide,J,tqz⟩,.inr ⟨J,J⟩,tqz⟩ trivial)
  exact qpO J (dt J J (aI TQ (c:=.ptr 1 0) J (qA1 1 (qpP J (qc (aw2:=[.box [.ptr 1 0],.dead,.box [iI 0,iI 0]]) (n0:=3) (n1:=1) [1] J J (aW hx3) (aA J ⟨aJ J,tqz⟩ au) ⟨am J,tqz⟩ ⟨.inr ⟨J,J⟩,.inl ⟨0,_,by decide,J,tqz⟩,.inr ⟨J,J⟩,tqz⟩ trivial)))))
 refine cV h (λhx4 h=>?_) (λx4 hx4 h=>?_)
 .cases h;refine Ug (V:=(.iface 200 (.agg #[]))) (λ_=>True) mixed (k:=6) J ?_ (λ_ _ _=>J);refine qpl [0,1,3,4,5] 0 J (iU J J (aI TQ (c:=.ptr 1 0) J (qA2 1 2 ?_ ?_)))
  .refine qpO J (bq (aw2:=[.box [.ptr 1 0],.box [.str x3.2],.box [iI 0,iI 0]]) (v':=iI x3.1) (n0:=3) (n1:=1) [1] J J (aW hx3) (aA J ⟨aJ J,tqz⟩ au) ⟨am J,tqz⟩ (ap (aL _ _)) ⟨.inr ⟨J,J⟩,.inl ⟨0,_,by decide,J,aZ ⟨ap (bc _),tqz⟩⟩,.inr ⟨J,J⟩,tqz⟩ (qA1 2 (qpO J (dt J J (aI TQ (c:=.ptr 1 0) J (qA1 3 ?_))))));exact qpP J (qc (aw2:=[.box [.ptr 1 0],.dead,.box [iI 0,iI 0]]) (n0:=3) (n1:=1) [1] J J (aW hx4) (aA J ⟨aJ J,tqz⟩ au) ⟨am J,tqz⟩ ⟨.inr ⟨J,J⟩,.inl ⟨0,_,by decide,J,tqz⟩,.inr ⟨J,J⟩,tqz⟩ trivial)
  refine qpO J (dt J J (aI TQ (c:=.ptr 1 0) J (qA1 1 (qpO J (bq (aw2:=[.box [.ptr 1 0],.box [.str x3.2],.box [iI 0,iI 0]]) (v':=iI x3.1) (n0:=3) (n1:=1) [1] J J (aW hx3) (aA J ⟨aJ J,tqz⟩ au) ⟨am J,tqz⟩ (ap (aL _ _)) ⟨.inr ⟨J,J⟩,.inl ⟨0,_,by decide,J,aZ ⟨ap (bc _),tqz⟩⟩,.inr ⟨J,J⟩,tqz⟩ (qA1 3 ?_))))));exact qpP J (qc (aw2:=[.box [.ptr 1 0],.dead,.box [iI 0,iI 0]]) (n0:=3) (n1:=1) [1] J J (aW hx4) (aA J ⟨aJ J,tqz⟩ au) ⟨am J,tqz⟩ ⟨.inr ⟨J,J⟩,.inl ⟨0,_,by decide,J,tqz⟩,.inr ⟨J,J⟩,tqz⟩ trivial)
 refine T.drawn mixed (k:=6) J ?_;apply TG 3 (bm 6 7);intro hS1
 .refine rL [0,1,3,4,5] 0 J (ra2 1 2 ?_ ?_)
  .refine oO J (bq (aw2:=[.box [.ptr 1 0],.box [.str x3.2],.box [iI 0,iI 0]]) (v':=iI x3.1) (n0:=3) (n1:=1) [1] J J (aW hx3) (aA J ⟨aJ J,tqz⟩ au) ⟨am J,tqz⟩ (ap (aL _ _)) ⟨.inr ⟨J,J⟩,.inl ⟨0,_,by decide,J,aZ ⟨ap (bc _),tqz⟩⟩,.inr ⟨J,J⟩,tqz⟩ (ra1 2 (og 3 ⟨J,?_⟩)));exact raE hS1
  .refine og 3 ⟨J,(ra1 1 (oO J (bq (aw2:=[.box [.ptr 1 0],.box [.str x3.2],.box [iI 0,iI 0]]) (v':=iI x3.1) (n0:=3) (n1:=1) [1] J J (aW hx3) (aA J ⟨aJ J,tqz⟩ au) ⟨am J,tqz⟩ (ap (aL _ _)) ⟨.inr ⟨J,J⟩,.inl ⟨0,_,by decide,J,aZ ⟨ap (bc _),tqz⟩⟩,.inr ⟨J,J⟩,tqz⟩ ?_)))⟩;exact raT hS1
 refine ra1 3 (oO J (bq (aw2:=[.box [.ptr 1 0],.box [.str x4.2],.box [iI 0,iI 0]]) (v':=iI x4.1) (n0:=3) (n1:=1) [1] J J (aW hx4) (aA J ⟨aJ J,tqz⟩ au) ⟨am J,tqz⟩ (ap (aL _ _)) ⟨.inr ⟨J,J⟩,.inl ⟨0,_,by decide,J,aZ ⟨ap (bc _),tqz⟩⟩,.inr ⟨J,J⟩,tqz⟩ (rq [4] 1 (ra1 5 (og 3 ⟨J,(RA.done (by decide+kernel) ?_)⟩)))));cases h;exact tN [0,1]
theorem lu {r:((U Keyed)×(U UInt8))⊕Unit}(h:oM p0=some r):FnP QbP (.iface 200 (.agg #[])) 124 [.ptr 0 0,.func 125 [.ptr 1 0]] [.box [.str p0],.box [.ptr 0 0]] (λr:(U Keyed)×(U UInt8)=>.ref 2) (λr=>[.box [.str r.2],.box [.ptr 0 0],aR 173 2 aQ r.1]) r:=by
 unfold oM at h;refine fnPT 2 Tryz.func124 Tryz.ntmps124 ?_;refine q0 ?_;refine X 5 2 (cV h (λhx2 h=>?_) (λx2 hx2 h=>?_))
 .cases h;(refine T9 (V:=(.iface 200 (.agg #[]))) 1 J ?_);exact go 1 2 (RS.nil (qc (aw2:=[.dead,.box [.ptr 0 0]]) (n0:=2) (n1:=1) [0] J J (aW hx2) (aA J ⟨aJ J,tqz⟩ au) ⟨am J,tqz⟩ ⟨.inl ⟨0,_,by decide,J,tqz⟩,.inr ⟨J,J⟩,tqz⟩ J))
 refine X 2 2 (sO (bq (aw2:=[.box [.str x2.2],.box [.ptr 0 0]]) (v':=iI x2.1) (n0:=2) (n1:=1) [0] J J (aW hx2) (aA J ⟨aJ J,tqz⟩ au) ⟨am J,tqz⟩ (ap (aL _ _)) ⟨.inl ⟨0,_,by decide,J,aZ ⟨ap (bc _),tqz⟩⟩,.inr ⟨J,J⟩,tqz⟩ (Y 3 2 (j1 [(1,.func 125 [.ptr 1 0]),(5,iI x2.1),(19,.bool ((decide (x2.1<0))||decide (x2.1> ((x2.2).length:Int))))] [.box [.str x2.2],.box [.ptr 0 0]] ?_ (λhK=>?_)))))
 .refine TH h J (λae h=>?_) (λae h=>?_)
  .cases h;(refine T9 (V:=(.iface 200 (.agg #[]))) 2 J ?_);exact go 1 2 (sO (nF Wi J J (RS.nil (PP.panic J J))))
  refine X 12 2 (itr (λak:Int×(U UInt8)×(U Keyed)=>mkA 32 [(1,.func 125 [.ptr 1 0]),(6,.ref 2),(22,iI x2.1),(23,iI ak.1)]) (λak=>[.box [.str ak.2.1],.box [.ptr 0 0],aR 173 2 aQ ak.2.2]) h (wk [(6,173,2)] [0,1,2] 2 J) (λak v_6 h bg=>?_));obtain⟨s4,s5,s6⟩:=ak;replace h:kb x2 s4 s5 s6=some v_6:=h;try dsimp only
  unfold kb at h;refine X 5 3 (TH h J (λbH h=>?_) (λbH h=>?_))
  .refine X 3 3 (cV h (λhx7 h=>?_) (λx7 hx7 h=>?_))
   .replace h:=mi h bg;cases h;(refine T9 (V:=(.iface 200 (.agg #[]))) 2 J ?_);exact go 2 3 (RS.nil (qc (aw2:=[.dead,.dead,aR 173 2 aQ s6]) (n0:=3) (n1:=2) [1,0] J J (Al hx7) (aA J ⟨am J,tqz⟩ (aA J ⟨aJ J,tqz⟩ au)) ⟨am J,tqz⟩ ⟨.inl ⟨1,_,by decide,J,tqz⟩,.inl ⟨0,_,by decide,J,tqz⟩,.inr ⟨J,J⟩,tqz⟩ J))
   refine B h λx8 hx8 h=>(X 3 3 (sO (bq (aw2:=[.box [.str x7.2],.box [.ptr 0 0],aR 173 2 aQ s6]) (v':=.agg (aQ x7.1)) (n0:=3) (n1:=2) [1,0] J J (Al hx7) (aA J ⟨am J,tqz⟩ (aA J ⟨aJ J,tqz⟩ au)) ⟨am J,tqz⟩ (tv ⟨ap (aL _ _),ap (aL _ _),tqz⟩) ⟨.inl ⟨1,_,by decide,J,aZ ⟨ap (bc _),tqz⟩⟩,.inl ⟨0,_,by decide,J,aZ ⟨mc (by decide),tqz⟩⟩,.inr ⟨J,J⟩,tqz⟩ (sO (bi (rows:=List.map aQ [x7.1]) (vs:=[.agg (aQ x7.1)]) TM Uq J J J J J J (sO (bU (en:=aQ) (xs:=s6) (ys:=([x7.1]:U Keyed)) TM (λ_=>J) J J J hx8 J J (Y 6 5 ?_))))))))
   exact lk h (wk [] [0,1,4] 5 J)
  refine X 1 3 ?_;replace h:=mi h bg;refine X 5 3 ?_;cases h;exact tO [] [0,1,2] 3
 refine X 5 2 (gp 11 (λah=>?_) (λah=>?_))
 .refine Yp 9 2 ?_;rw[ah]at hK;exact sx hK
 refine Yp 9 2 ?_;rw[ah]at hK;exact sx hK
theorem Aq {r:(Memory×(U UInt8))⊕Unit}(h:mU p0=some r):FnP QbP (.iface 200 (.agg #[])) 123 [.ptr 0 0] [.box [.ptr 1 0],.box [.str p0]] (λr:Memory×(U UInt8)=>.agg (aC r.1)) (λr=>[.box [.ptr 1 0],.box [.str r.2]]) r:=by
 unfold mU at h;refine fnPT 2 Tryz.func123 Tryz.ntmps123 ?_;refine q0 ?_;refine X 5 2 (cV h (λhx4 h=>?_) (λx4 hx4 h=>?_))
 .cases h;refine Ug (V:=(.iface 200 (.agg #[]))) (λ_=>True) mixed (k:=9) J ?_ (λ_ _ _=>J);refine qp0 5 J (u3 (cs:=[.ptr 0 0]) J (qpl [0,1,3,6,7,8] 0 J (iU J J (aI TQ (c:=.ptr 1 0) J (qA3 1 2 4 ?_ ?_ ?_)))))
  .exact qpP J (qc (aw2:=[.box [.ptr 1 0],.dead,.box [iI 0,.nils,iI 0]]) (n0:=3) (n1:=1) [1] J J (aW hx4) (aA J ⟨aJ J,tqz⟩ au) ⟨am J,tqz⟩ ⟨.inr ⟨J,J⟩,.inl ⟨0,_,by decide,J,tqz⟩,.inr ⟨J,J⟩,tqz⟩ trivial)
  .refine qpO J (dt J J (aI TQ (c:=.ptr 1 0) J (qA2 1 4 ?_ ?_)))
   .exact qpP J (qc (aw2:=[.box [.ptr 1 0],.dead,.box [iI 0,.nils,iI 0]]) (n0:=3) (n1:=1) [1] J J (aW hx4) (aA J ⟨aJ J,tqz⟩ au) ⟨am J,tqz⟩ ⟨.inr ⟨J,J⟩,.inl ⟨0,_,by decide,J,tqz⟩,.inr ⟨J,J⟩,tqz⟩ trivial)
   exact qpO J (dt J J (aI TQ (c:=.ptr 1 0) J (qA1 1 (qpP J (qc (aw2:=[.box [.ptr 1 0],.dead,.box [iI 0,.nils,iI 0]]) (n0:=3) (n1:=1) [1] J J (aW hx4) (aA J ⟨aJ J,tqz⟩ au) ⟨am J,tqz⟩ ⟨.inr ⟨J,J⟩,.inl ⟨0,_,by decide,J,tqz⟩,.inr ⟨J,J⟩,tqz⟩ trivial)))))
  refine qpO J (dt J J (aI TQ (c:=.ptr 1 0) J (qA2 1 2 ?_ ?_)))
  .exact qpP J (qc (aw2:=[.box [.ptr 1 0],.dead,.box [iI 0,.nils,iI 0]]) (n0:=3) (n1:=1) [1] J J (aW hx4) (aA J ⟨aJ J,tqz⟩ au) ⟨am J,tqz⟩ ⟨.inr ⟨J,J⟩,.inl ⟨0,_,by decide,J,tqz⟩,.inr ⟨J,J⟩,tqz⟩ trivial)
  exact qpO J (dt J J (aI TQ (c:=.ptr 1 0) J (qA1 1 (qpP J (qc (aw2:=[.box [.ptr 1 0],.dead,.box [iI 0,.nils,iI 0]]) (n0:=3) (n1:=1) [1] J J (aW hx4) (aA J ⟨aJ J,tqz⟩ au) ⟨am J,tqz⟩ ⟨.inr ⟨J,J⟩,.inl ⟨0,_,by decide,J,tqz⟩,.inr ⟨J,J⟩,tqz⟩ trivial)))))
 refine cV h (λhx5 h=>?_) (λx5 hx5 h=>?_)
 .cases h;refine Ug (V:=(.iface 200 (.agg #[]))) (λ_=>True) mixed (k:=9) J ?_ (λ_ _ _=>J);refine qp0 5 J (u3 (cs:=[.ptr 0 0]) J (qpl [0,1,3,6,7,8] 0 J (iU J J (aI TQ (c:=.ptr 1 0) J (qA3 1 2 4 ?_ ?_ ?_)))))
  .refine qpO J (bq (aw2:=[.box [.ptr 1 0],.box [.str x4.2],.box [iI 0,.nils,iI 0]]) (v':=iI x4.1) (n0:=3) (n1:=1) [1] J J (aW hx4) (aA J ⟨aJ J,tqz⟩ au) ⟨am J,tqz⟩ (ap (aL _ _)) ⟨.inr ⟨J,J⟩,.inl ⟨0,_,by decide,J,aZ ⟨ap (bc _),tqz⟩⟩,.inr ⟨J,J⟩,tqz⟩ (qpl [2,3,6,7,8] 2 J (iU J J (aI TQ (c:=.ptr 1 0) J (qA2 3 4 ?_ ?_)))))
   .exact qpP J (qc (aw2:=[.box [.ptr 1 0],.dead,.box [iI 0,.nils,iI 0]]) (n0:=3) (n1:=1) [1] J J (aW hx5) (aA J ⟨aJ J,tqz⟩ au) ⟨am J,tqz⟩ ⟨.inr ⟨J,J⟩,.inl ⟨0,_,by decide,J,tqz⟩,.inr ⟨J,J⟩,tqz⟩ trivial)
   exact qpO J (dt J J (aI TQ (c:=.ptr 1 0) J (qA1 3 (qpP J (qc (aw2:=[.box [.ptr 1 0],.dead,.box [iI 0,.nils,iI 0]]) (n0:=3) (n1:=1) [1] J J (aW hx5) (aA J ⟨aJ J,tqz⟩ au) ⟨am J,tqz⟩ ⟨.inr ⟨J,J⟩,.inl ⟨0,_,by decide,J,tqz⟩,.inr ⟨J,J⟩,tqz⟩ trivial)))))
  .refine qpO J (dt J J (aI TQ (c:=.ptr 1 0) J (qA2 1 4 ?_ ?_)))
   .refine qpO J (bq (aw2:=[.box [.ptr 1 0],.box [.str x4.2],.box [iI 0,.nils,iI 0]]) (v':=iI x4.1) (n0:=3) (n1:=1) [1] J J (aW hx4) (aA J ⟨aJ J,tqz⟩ au) ⟨am J,tqz⟩ (ap (aL _ _)) ⟨.inr ⟨J,J⟩,.inl ⟨0,_,by decide,J,aZ ⟨ap (bc _),tqz⟩⟩,.inr ⟨J,J⟩,tqz⟩ (qA2 3 4 ?_ ?_))
    .exact qpP J (qc (aw2:=[.box [.ptr 1 0],.dead,.box [iI 0,.nils,iI 0]]) (n0:=3) (n1:=1) [1] J J (aW hx5) (aA J ⟨aJ J,tqz⟩ au) ⟨am J,tqz⟩ ⟨.inr ⟨J,J⟩,.inl ⟨0,_,by decide,J,tqz⟩,.inr ⟨J,J⟩,tqz⟩ trivial)
    exact qpO J (dt J J (aI TQ (c:=.ptr 1 0) J (qA1 3 (qpP J (qc (aw2:=[.box [.ptr 1 0],.dead,.box [iI 0,.nils,iI 0]]) (n0:=3) (n1:=1) [1] J J (aW hx5) (aA J ⟨aJ J,tqz⟩ au) ⟨am J,tqz⟩ ⟨.inr ⟨J,J⟩,.inl ⟨0,_,by decide,J,tqz⟩,.inr ⟨J,J⟩,tqz⟩ trivial)))))
   refine qpO J (dt J J (aI TQ (c:=.ptr 1 0) J (qA1 1 (qpO J (bq (aw2:=[.box [.ptr 1 0],.box [.str x4.2],.box [iI 0,.nils,iI 0]]) (v':=iI x4.1) (n0:=3) (n1:=1) [1] J J (aW hx4) (aA J ⟨aJ J,tqz⟩ au) ⟨am J,tqz⟩ (ap (aL _ _)) ⟨.inr ⟨J,J⟩,.inl ⟨0,_,by decide,J,aZ ⟨ap (bc _),tqz⟩⟩,.inr ⟨J,J⟩,tqz⟩ (qA1 3 ?_))))));exact qpP J (qc (aw2:=[.box [.ptr 1 0],.dead,.box [iI 0,.nils,iI 0]]) (n0:=3) (n1:=1) [1] J J (aW hx5) (aA J ⟨aJ J,tqz⟩ au) ⟨am J,tqz⟩ ⟨.inr ⟨J,J⟩,.inl ⟨0,_,by decide,J,tqz⟩,.inr ⟨J,J⟩,tqz⟩ trivial)
  refine qpO J (dt J J (aI TQ (c:=.ptr 1 0) J (qA2 1 2 ?_ ?_)))
  .refine qpO J (bq (aw2:=[.box [.ptr 1 0],.box [.str x4.2],.box [iI 0,.nils,iI 0]]) (v':=iI x4.1) (n0:=3) (n1:=1) [1] J J (aW hx4) (aA J ⟨aJ J,tqz⟩ au) ⟨am J,tqz⟩ (ap (aL _ _)) ⟨.inr ⟨J,J⟩,.inl ⟨0,_,by decide,J,aZ ⟨ap (bc _),tqz⟩⟩,.inr ⟨J,J⟩,tqz⟩ (qA1 2 (qpO J (dt J J (aI TQ (c:=.ptr 1 0) J (qA1 3 ?_))))));exact qpP J (qc (aw2:=[.box [.ptr 1 0],.dead,.box [iI 0,.nils,iI 0]]) (n0:=3) (n1:=1) [1] J J (aW hx5) (aA J ⟨aJ J,tqz⟩ au) ⟨am J,tqz⟩ ⟨.inr ⟨J,J⟩,.inl ⟨0,_,by decide,J,tqz⟩,.inr ⟨J,J⟩,tqz⟩ trivial)
  refine qpO J (dt J J (aI TQ (c:=.ptr 1 0) J (qA1 1 (qpO J (bq (aw2:=[.box [.ptr 1 0],.box [.str x4.2],.box [iI 0,.nils,iI 0]]) (v':=iI x4.1) (n0:=3) (n1:=1) [1] J J (aW hx4) (aA J ⟨aJ J,tqz⟩ au) ⟨am J,tqz⟩ (ap (aL _ _)) ⟨.inr ⟨J,J⟩,.inl ⟨0,_,by decide,J,aZ ⟨ap (bc _),tqz⟩⟩,.inr ⟨J,J⟩,tqz⟩ (qA1 3 ?_))))));exact qpP J (qc (aw2:=[.box [.ptr 1 0],.dead,.box [iI 0,.nils,iI 0]]) (n0:=3) (n1:=1) [1] J J (aW hx5) (aA J ⟨aJ J,tqz⟩ au) ⟨am J,tqz⟩ ⟨.inr ⟨J,J⟩,.inl ⟨0,_,by decide,J,tqz⟩,.inr ⟨J,J⟩,tqz⟩ trivial)
 refine cV h (λhx6 h=>?_) (λx6 hx6 h=>?_)
 .cases h;refine Ug (V:=(.iface 200 (.agg #[]))) (λ_=>True) mixed (k:=9) J ?_ (λ_ _ _=>J);refine qp0 5 J (u3 (cs:=[.ptr 0 0]) J (qpl [0,1,3,6,7,8] 0 J (iU J J (aI TQ (c:=.ptr 1 0) J (qA3 1 2 4 ?_ ?_ ?_)))))
  .refine qpO J (bq (aw2:=[.box [.ptr 1 0],.box [.str x4.2],.box [iI 0,.nils,iI 0]]) (v':=iI x4.1) (n0:=3) (n1:=1) [1] J J (aW hx4) (aA J ⟨aJ J,tqz⟩ au) ⟨am J,tqz⟩ (ap (aL _ _)) ⟨.inr ⟨J,J⟩,.inl ⟨0,_,by decide,J,aZ ⟨ap (bc _),tqz⟩⟩,.inr ⟨J,J⟩,tqz⟩ (qpl [2,3,6,7,8] 2 J (iU J J (aI TQ (c:=.ptr 1 0) J (qA2 3 4 ?_ ?_)))))
   .refine qpO J (bq (aw2:=[.box [.ptr 1 0],.box [.str x5.2],.box [iI 0,.nils,iI 0]]) (v':=iI x5.1) (n0:=3) (n1:=1) [1] J J (aW hx5) (aA J ⟨aJ J,tqz⟩ au) ⟨am J,tqz⟩ (ap (aL _ _)) ⟨.inr ⟨J,J⟩,.inl ⟨0,_,by decide,J,aZ ⟨ap (bc _),tqz⟩⟩,.inr ⟨J,J⟩,tqz⟩ (qA1 4 (qpO J (dt J J (aI TQ (c:=.ptr 1 0) J (qA1 6 ?_))))));exact qpP J (qc (aw2:=[.dead,.dead,.box [iI 0,.nils,iI 0]]) (n0:=3) (n1:=2) [1,0] J J (lu hx6) (aA J ⟨aJ J,tqz⟩ (aA J ⟨am J,tqz⟩ au)) ⟨am J,eT ⟨am J,tqz⟩,tqz⟩ ⟨.inl ⟨1,_,by decide,J,tqz⟩,.inl ⟨0,_,by decide,J,tqz⟩,.inr ⟨J,J⟩,tqz⟩ trivial)
   refine qpO J (dt J J (aI TQ (c:=.ptr 1 0) J (qA1 3 (qpO J (bq (aw2:=[.box [.ptr 1 0],.box [.str x5.2],.box [iI 0,.nils,iI 0]]) (v':=iI x5.1) (n0:=3) (n1:=1) [1] J J (aW hx5) (aA J ⟨aJ J,tqz⟩ au) ⟨am J,tqz⟩ (ap (aL _ _)) ⟨.inr ⟨J,J⟩,.inl ⟨0,_,by decide,J,aZ ⟨ap (bc _),tqz⟩⟩,.inr ⟨J,J⟩,tqz⟩ (qA1 6 ?_))))));exact qpP J (qc (aw2:=[.dead,.dead,.box [iI 0,.nils,iI 0]]) (n0:=3) (n1:=2) [1,0] J J (lu hx6) (aA J ⟨aJ J,tqz⟩ (aA J ⟨am J,tqz⟩ au)) ⟨am J,eT ⟨am J,tqz⟩,tqz⟩ ⟨.inl ⟨1,_,by decide,J,tqz⟩,.inl ⟨0,_,by decide,J,tqz⟩,.inr ⟨J,J⟩,tqz⟩ trivial)
  .refine qpO J (dt J J (aI TQ (c:=.ptr 1 0) J (qA2 1 4 ?_ ?_)))
   .refine qpO J (bq (aw2:=[.box [.ptr 1 0],.box [.str x4.2],.box [iI 0,.nils,iI 0]]) (v':=iI x4.1) (n0:=3) (n1:=1) [1] J J (aW hx4) (aA J ⟨aJ J,tqz⟩ au) ⟨am J,tqz⟩ (ap (aL _ _)) ⟨.inr ⟨J,J⟩,.inl ⟨0,_,by decide,J,aZ ⟨ap (bc _),tqz⟩⟩,.inr ⟨J,J⟩,tqz⟩ (qA2 3 4 ?_ ?_))
    .refine qpO J (bq (aw2:=[.box [.ptr 1 0],.box [.str x5.2],.box [iI 0,.nils,iI 0]]) (v':=iI x5.1) (n0:=3) (n1:=1) [1] J J (aW hx5) (aA J ⟨aJ J,tqz⟩ au) ⟨am J,tqz⟩ (ap (aL _ _)) ⟨.inr ⟨J,J⟩,.inl ⟨0,_,by decide,J,aZ ⟨ap (bc _),tqz⟩⟩,.inr ⟨J,J⟩,tqz⟩ (qA1 4 (qpO J (dt J J (aI TQ (c:=.ptr 1 0) J (qA1 6 ?_))))));exact qpP J (qc (aw2:=[.dead,.dead,.box [iI 0,.nils,iI 0]]) (n0:=3) (n1:=2) [1,0] J J (lu hx6) (aA J ⟨aJ J,tqz⟩ (aA J ⟨am J,tqz⟩ au)) ⟨am J,eT ⟨am J,tqz⟩,tqz⟩ ⟨.inl ⟨1,_,by decide,J,tqz⟩,.inl ⟨0,_,by decide,J,tqz⟩,.inr ⟨J,J⟩,tqz⟩ trivial)
    refine qpO J (dt J J (aI TQ (c:=.ptr 1 0) J (qA1 3 (qpO J (bq (aw2:=[.box [.ptr 1 0],.box [.str x5.2],.box [iI 0,.nils,iI 0]]) (v':=iI x5.1) (n0:=3) (n1:=1) [1] J J (aW hx5) (aA J ⟨aJ J,tqz⟩ au) ⟨am J,tqz⟩ (ap (aL _ _)) ⟨.inr ⟨J,J⟩,.inl ⟨0,_,by decide,J,aZ ⟨ap (bc _),tqz⟩⟩,.inr ⟨J,J⟩,tqz⟩ (qA1 6 ?_))))));exact qpP J (qc (aw2:=[.dead,.dead,.box [iI 0,.nils,iI 0]]) (n0:=3) (n1:=2) [1,0] J J (lu hx6) (aA J ⟨aJ J,tqz⟩ (aA J ⟨am J,tqz⟩ au)) ⟨am J,eT ⟨am J,tqz⟩,tqz⟩ ⟨.inl ⟨1,_,by decide,J,tqz⟩,.inl ⟨0,_,by decide,J,tqz⟩,.inr ⟨J,J⟩,tqz⟩ trivial)
   refine qpO J (dt J J (aI TQ (c:=.ptr 1 0) J (qA1 1 (qpO J (bq (aw2:=[.box [.ptr 1 0],.box [.str x4.2],.box [iI 0,.nils,iI 0]]) (v':=iI x4.1) (n0:=3) (n1:=1) [1] J J (aW hx4) (aA J ⟨aJ J,tqz⟩ au) ⟨am J,tqz⟩ (ap (aL _ _)) ⟨.inr ⟨J,J⟩,.inl ⟨0,_,by decide,J,aZ ⟨ap (bc _),tqz⟩⟩,.inr ⟨J,J⟩,tqz⟩ (qA1 3 (qpO J (bq (aw2:=[.box [.ptr 1 0],.box [.str x5.2],.box [iI 0,.nils,iI 0]]) (v':=iI x5.1) (n0:=3) (n1:=1) [1] J J (aW hx5) (aA J ⟨aJ J,tqz⟩ au) ⟨am J,tqz⟩ (ap (aL _ _)) ⟨.inr ⟨J,J⟩,.inl ⟨0,_,by decide,J,aZ ⟨ap (bc _),tqz⟩⟩,.inr ⟨J,J⟩,tqz⟩ (qA1 6 ?_)))))))));exact qpP J (qc (aw2:=[.dead,.dead,.box [iI 0,.nils,iI 0]]) (n0:=3) (n1:=2) [1,0] J J (lu hx6) (aA J ⟨aJ J,tqz⟩ (aA J ⟨am J,tqz⟩ au)) ⟨am J,eT ⟨am J,tqz⟩,tqz⟩ ⟨.inl ⟨1,_,by decide,J,tqz⟩,.inl ⟨0,_,by decide,J,tqz⟩,.inr ⟨J,J⟩,tqz⟩ trivial)
  refine qpO J (dt J J (aI TQ (c:=.ptr 1 0) J (qA2 1 2 ?_ ?_)))
  .refine qpO J (bq (aw2:=[.box [.ptr 1 0],.box [.str x4.2],.box [iI 0,.nils,iI 0]]) (v':=iI x4.1) (n0:=3) (n1:=1) [1] J J (aW hx4) (aA J ⟨aJ J,tqz⟩ au) ⟨am J,tqz⟩ (ap (aL _ _)) ⟨.inr ⟨J,J⟩,.inl ⟨0,_,by decide,J,aZ ⟨ap (bc _),tqz⟩⟩,.inr ⟨J,J⟩,tqz⟩ (qA1 2 (qpO J (dt J J (aI TQ (c:=.ptr 1 0) J (qA1 3 (qpO J (bq (aw2:=[.box [.ptr 1 0],.box [.str x5.2],.box [iI 0,.nils,iI 0]]) (v':=iI x5.1) (n0:=3) (n1:=1) [1] J J (aW hx5) (aA J ⟨aJ J,tqz⟩ au) ⟨am J,tqz⟩ (ap (aL _ _)) ⟨.inr ⟨J,J⟩,.inl ⟨0,_,by decide,J,aZ ⟨ap (bc _),tqz⟩⟩,.inr ⟨J,J⟩,tqz⟩ (qA1 6 ?_)))))))));exact qpP J (qc (aw2:=[.dead,.dead,.box [iI 0,.nils,iI 0]]) (n0:=3) (n1:=2) [1,0] J J (lu hx6) (aA J ⟨aJ J,tqz⟩ (aA J ⟨am J,tqz⟩ au)) ⟨am J,eT ⟨am J,tqz⟩,tqz⟩ ⟨.inl ⟨1,_,by decide,J,tqz⟩,.inl ⟨0,_,by decide,J,tqz⟩,.inr ⟨J,J⟩,tqz⟩ trivial)
  refine qpO J (dt J J (aI TQ (c:=.ptr 1 0) J (qA1 1 (qpO J (bq (aw2:=[.box [.ptr 1 0],.box [.str x4.2],.box [iI 0,.nils,iI 0]]) (v':=iI x4.1) (n0:=3) (n1:=1) [1] J J (aW hx4) (aA J ⟨aJ J,tqz⟩ au) ⟨am J,tqz⟩ (ap (aL _ _)) ⟨.inr ⟨J,J⟩,.inl ⟨0,_,by decide,J,aZ ⟨ap (bc _),tqz⟩⟩,.inr ⟨J,J⟩,tqz⟩ (qA1 3 (qpO J (bq (aw2:=[.box [.ptr 1 0],.box [.str x5.2],.box [iI 0,.nils,iI 0]]) (v':=iI x5.1) (n0:=3) (n1:=1) [1] J J (aW hx5) (aA J ⟨aJ J,tqz⟩ au) ⟨am J,tqz⟩ (ap (aL _ _)) ⟨.inr ⟨J,J⟩,.inl ⟨0,_,by decide,J,aZ ⟨ap (bc _),tqz⟩⟩,.inr ⟨J,J⟩,tqz⟩ (qA1 6 ?_)))))))));exact qpP J (qc (aw2:=[.dead,.dead,.box [iI 0,.nils,iI 0]]) (n0:=3) (n1:=2) [1,0] J J (lu hx6) (aA J ⟨aJ J,tqz⟩ (aA J ⟨am J,tqz⟩ au)) ⟨am J,eT ⟨am J,tqz⟩,tqz⟩ ⟨.inl ⟨1,_,by decide,J,tqz⟩,.inl ⟨0,_,by decide,J,tqz⟩,.inr ⟨J,J⟩,tqz⟩ trivial)
 refine T.drawn mixed (k:=9) J ?_;apply TG 3 (bm 9 63);intro hS1;apply TG 4 (bm 9 55);intro hS2;apply TG 5 (bm 9 39);intro hS3;apply TG 5 (bm 9 53);intro hS4
 .refine rq [5] 8 (rL [0,1,3,6,7,8] 0 J (ra3 1 2 4 ?_ ?_ ?_))
  .refine oO J (bq (aw2:=[.box [.ptr 1 0],.box [.str x4.2],.box [iI 0,.nils,iI 0]]) (v':=iI x4.1) (n0:=3) (n1:=1) [1] J J (aW hx4) (aA J ⟨aJ J,tqz⟩ au) ⟨am J,tqz⟩ (ap (aL _ _)) ⟨.inr ⟨J,J⟩,.inl ⟨0,_,by decide,J,aZ ⟨ap (bc _),tqz⟩⟩,.inr ⟨J,J⟩,tqz⟩ (rL [2,3,6,7,8] 2 J ?_));exact raE hS3
  .refine og 3 ⟨J,(ra2 1 4 ?_ ?_)⟩
   .exact oO J (bq (aw2:=[.box [.ptr 1 0],.box [.str x4.2],.box [iI 0,.nils,iI 0]]) (v':=iI x4.1) (n0:=3) (n1:=1) [1] J J (aW hx4) (aA J ⟨aJ J,tqz⟩ au) ⟨am J,tqz⟩ (ap (aL _ _)) ⟨.inr ⟨J,J⟩,.inl ⟨0,_,by decide,J,aZ ⟨ap (bc _),tqz⟩⟩,.inr ⟨J,J⟩,tqz⟩ (raT hS3))
   .exact og 3 ⟨J,(raE hS4)⟩
  .refine og 3 ⟨J,(ra2 1 2 ?_ ?_)⟩
   .refine oO J (bq (aw2:=[.box [.ptr 1 0],.box [.str x4.2],.box [iI 0,.nils,iI 0]]) (v':=iI x4.1) (n0:=3) (n1:=1) [1] J J (aW hx4) (aA J ⟨aJ J,tqz⟩ au) ⟨am J,tqz⟩ (ap (aL _ _)) ⟨.inr ⟨J,J⟩,.inl ⟨0,_,by decide,J,aZ ⟨ap (bc _),tqz⟩⟩,.inr ⟨J,J⟩,tqz⟩ (ra1 2 (og 3 ⟨J,?_⟩)));exact raE hS2
   .exact og 3 ⟨J,(raT hS4)⟩
 .exact ra1 1 (oO J (bq (aw2:=[.box [.ptr 1 0],.box [.str x4.2],.box [iI 0,.nils,iI 0]]) (v':=iI x4.1) (n0:=3) (n1:=1) [1] J J (aW hx4) (aA J ⟨aJ J,tqz⟩ au) ⟨am J,tqz⟩ (ap (aL _ _)) ⟨.inr ⟨J,J⟩,.inl ⟨0,_,by decide,J,aZ ⟨ap (bc _),tqz⟩⟩,.inr ⟨J,J⟩,tqz⟩ (raT hS2)))
 .refine ra2 3 4 ?_ ?_
  .refine oO J (bq (aw2:=[.box [.ptr 1 0],.box [.str x5.2],.box [iI 0,.nils,iI 0]]) (v':=iI x5.1) (n0:=3) (n1:=1) [1] J J (aW hx5) (aA J ⟨aJ J,tqz⟩ au) ⟨am J,tqz⟩ (ap (aL _ _)) ⟨.inr ⟨J,J⟩,.inl ⟨0,_,by decide,J,aZ ⟨ap (bc _),tqz⟩⟩,.inr ⟨J,J⟩,tqz⟩ (ra1 4 (og 3 ⟨J,?_⟩)));exact raE hS1
  .exact og 3 ⟨J,(raT hS2)⟩
 .exact ra1 3 (oO J (bq (aw2:=[.box [.ptr 1 0],.box [.str x5.2],.box [iI 0,.nils,iI 0]]) (v':=iI x5.1) (n0:=3) (n1:=1) [1] J J (aW hx5) (aA J ⟨aJ J,tqz⟩ au) ⟨am J,tqz⟩ (ap (aL _ _)) ⟨.inr ⟨J,J⟩,.inl ⟨0,_,by decide,J,aZ ⟨ap (bc _),tqz⟩⟩,.inr ⟨J,J⟩,tqz⟩ (raT hS1)))
 refine ra1 6 (oO J (bq (aw2:=[.box [.ptr 1 0],.box [.str x6.2],.box [iI 0,.nils,iI 0],aR 173 2 aQ x6.1]) (v':=.ref 3) (n0:=3) (n1:=3) [1,0] J J (lu hx6) (aA J ⟨aJ J,tqz⟩ (aA J ⟨am J,tqz⟩ au)) ⟨am J,eT ⟨am J,tqz⟩,tqz⟩ (jQ (by decide)) ⟨.inl ⟨1,_,by decide,J,aZ ⟨mc (by decide),tqz⟩⟩,.inl ⟨0,_,by decide,J,aZ ⟨ap (bc _),tqz⟩⟩,.inr ⟨J,J⟩,.inl ⟨2,_,by decide,J,lY nw⟩,tqz⟩ (rq [7] 1 (ra1 8 (og 4 ⟨J,(RA.done (by decide+kernel) ?_)⟩)))));cases h;exact tN [0,1]
theorem Ad {r:((U Memory)×(U UInt8))⊕Unit}(h:oL p0=some r):FnP QbP (.iface 200 (.agg #[])) 122 [.ptr 0 0,.func 123 [.ptr 1 0]] [.box [.str p0],.box [.ptr 0 0]] (λr:(U Memory)×(U UInt8)=>.ref 2) (λr=>[.box [.str r.2],.box [.ptr 0 0],aR 133 3 aC r.1]) r:=by
 unfold oL at h;refine fnPT 2 Tryz.func122 Tryz.ntmps122 ?_;refine q0 ?_;refine X 5 2 (cV h (λhx2 h=>?_) (λx2 hx2 h=>?_))
 .cases h;(refine T9 (V:=(.iface 200 (.agg #[]))) 1 J ?_);exact go 1 2 (RS.nil (qc (aw2:=[.dead,.box [.ptr 0 0]]) (n0:=2) (n1:=1) [0] J J (aW hx2) (aA J ⟨aJ J,tqz⟩ au) ⟨am J,tqz⟩ ⟨.inl ⟨0,_,by decide,J,tqz⟩,.inr ⟨J,J⟩,tqz⟩ J))
 refine X 2 2 (sO (bq (aw2:=[.box [.str x2.2],.box [.ptr 0 0]]) (v':=iI x2.1) (n0:=2) (n1:=1) [0] J J (aW hx2) (aA J ⟨aJ J,tqz⟩ au) ⟨am J,tqz⟩ (ap (aL _ _)) ⟨.inl ⟨0,_,by decide,J,aZ ⟨ap (bc _),tqz⟩⟩,.inr ⟨J,J⟩,tqz⟩ (Y 3 2 (j1 [(1,.func 123 [.ptr 1 0]),(5,iI x2.1),(19,.bool ((decide (x2.1<0))||decide (x2.1> ((x2.2).length:Int))))] [.box [.str x2.2],.box [.ptr 0 0]] ?_ (λhK=>?_)))))
 .refine TH h J (λae h=>?_) (λae h=>?_)
  .cases h;(refine T9 (V:=(.iface 200 (.agg #[]))) 2 J ?_);exact go 1 2 (sO (nF Wi J J (RS.nil (PP.panic J J))))
  refine X 12 2 (itr (λak:Int×(U UInt8)×(U Memory)=>mkA 32 [(1,.func 123 [.ptr 1 0]),(6,.ref 2),(22,iI x2.1),(23,iI ak.1)]) (λak=>[.box [.str ak.2.1],.box [.ptr 0 0],aR 133 3 aC ak.2.2]) h (wk [(6,133,3)] [0,1,2] 2 J) (λak v_6 h bg=>?_));obtain⟨s4,s5,s6⟩:=ak;replace h:j9 x2 s4 s5 s6=some v_6:=h;try dsimp only
  unfold j9 at h;refine X 5 3 (TH h J (λbH h=>?_) (λbH h=>?_))
  .refine X 3 3 (cV h (λhx7 h=>?_) (λx7 hx7 h=>?_))
   .replace h:=mi h bg;cases h;(refine T9 (V:=(.iface 200 (.agg #[]))) 2 J ?_);exact go 2 3 (RS.nil (qc (aw2:=[.dead,.dead,aR 133 3 aC s6]) (n0:=3) (n1:=2) [1,0] J J (Aq hx7) (aA J ⟨am J,tqz⟩ (aA J ⟨aJ J,tqz⟩ au)) ⟨am J,tqz⟩ ⟨.inl ⟨1,_,by decide,J,tqz⟩,.inl ⟨0,_,by decide,J,tqz⟩,.inr ⟨J,J⟩,tqz⟩ J))
   refine B h λx8 hx8 h=>(X 3 3 (sO (bq (aw2:=[.box [.str x7.2],.box [.ptr 0 0],aR 133 3 aC s6]) (v':=.agg (aC x7.1)) (n0:=3) (n1:=2) [1,0] J J (Aq hx7) (aA J ⟨am J,tqz⟩ (aA J ⟨aJ J,tqz⟩ au)) ⟨am J,tqz⟩ (tv ⟨ap (aL _ _),ap (de nw _),ap (aL _ _),tqz⟩) ⟨.inl ⟨1,_,by decide,J,aZ ⟨ap (bc _),tqz⟩⟩,.inl ⟨0,_,by decide,J,aZ ⟨mc (by decide),tqz⟩⟩,.inr ⟨J,J⟩,tqz⟩ (sO (bi (rows:=List.map aC [x7.1]) (vs:=[.agg (aC x7.1)]) TZ Ud J J J J J J (sO (bU (en:=aC) (xs:=s6) (ys:=([x7.1]:U Memory)) TZ (λ_=>J) J J J hx8 J J (Y 6 5 ?_))))))))
   exact lk h (wk [] [0,1,4] 5 J)
  refine X 1 3 ?_;replace h:=mi h bg;refine X 5 3 ?_;cases h;exact tO [] [0,1,2] 3
 refine X 5 2 (gp 11 (λah=>?_) (λah=>?_))
 .refine Yp 9 2 ?_;rw[ah]at hK;exact sx hK
 refine Yp 9 2 ?_;rw[ah]at hK;exact sx hK
theorem Ar {r:(Choice×(U UInt8))⊕Unit}(h:mS p0=some r):FnP QbP (.iface 200 (.agg #[])) 127 [.ptr 0 0] [.box [.ptr 1 0],.box [.str p0]] (λr:Choice×(U UInt8)=>.agg (ao r.1)) (λr=>[.box [.ptr 1 0],.box [.str r.2]]) r:=by
 unfold mS at h;refine fnPT 2 Tryz.func127 Tryz.ntmps127 ?_;refine q0 ?_;refine X 5 2 (cV h (λhx3 h=>?_) (λx3 hx3 h=>?_))
 .cases h;refine Ug (V:=(.iface 200 (.agg #[]))) (λ_=>True) mixed (k:=6) J ?_ (λ_ _ _=>J);refine qpl [0,1,3,4,5] 0 J (iU J J (aI TQ (c:=.ptr 1 0) J (qA2 1 2 ?_ ?_)))
  .exact qpP J (qc (aw2:=[.box [.ptr 1 0],.dead,.box [iI 0,iI 0]]) (n0:=3) (n1:=1) [1] J J (aW hx3) (aA J ⟨aJ J,tqz⟩ au) ⟨am J,tqz⟩ ⟨.inr ⟨J,J⟩,.inl ⟨0,_,by decide,J,tqz⟩,.inr ⟨J,J⟩,tqz⟩ trivial)
  exact qpO J (dt J J (aI TQ (c:=.ptr 1 0) J (qA1 1 (qpP J (qc (aw2:=[.box [.ptr 1 0],.dead,.box [iI 0,iI 0]]) (n0:=3) (n1:=1) [1] J J (aW hx3) (aA J ⟨aJ J,tqz⟩ au) ⟨am J,tqz⟩ ⟨.inr ⟨J,J⟩,.inl ⟨0,_,by decide,J,tqz⟩,.inr ⟨J,J⟩,tqz⟩ trivial)))))
 refine cV h (λhx4 h=>?_) (λx4 hx4 h=>?_)
 .cases h;refine Ug (V:=(.iface 200 (.agg #[]))) (λ_=>True) mixed (k:=6) J ?_ (λ_ _ _=>J);refine qpl [0,1,3,4,5] 0 J (iU J J (aI TQ (c:=.ptr 1 0) J (qA2 1 2 ?_ ?_)))
  .refine qpO J (bq (aw2:=[.box [.ptr 1 0],.box [.str x3.2],.box [iI 0,iI 0]]) (v':=iI x3.1) (n0:=3) (n1:=1) [1] J J (aW hx3) (aA J ⟨aJ J,tqz⟩ au) ⟨am J,tqz⟩ (ap (aL _ _)) ⟨.inr ⟨J,J⟩,.inl ⟨0,_,by decide,J,aZ ⟨ap (bc _),tqz⟩⟩,.inr ⟨J,J⟩,tqz⟩ (qA1 2 (qpO J (dt J J (aI TQ (c:=.ptr 1 0) J (qA1 3 ?_))))));exact qpP J (qc (aw2:=[.box [.ptr 1 0],.dead,.box [iI 0,iI 0]]) (n0:=3) (n1:=1) [1] J J (aW hx4) (aA J ⟨aJ J,tqz⟩ au) ⟨am J,tqz⟩ ⟨.inr ⟨J,J⟩,.inl ⟨0,_,by decide,J,tqz⟩,.inr ⟨J,J⟩,tqz⟩ trivial)
  refine qpO J (dt J J (aI TQ (c:=.ptr 1 0) J (qA1 1 (qpO J (bq (aw2:=[.box [.ptr 1 0],.box [.str x3.2],.box [iI 0,iI 0]]) (v':=iI x3.1) (n0:=3) (n1:=1) [1] J J (aW hx3) (aA J ⟨aJ J,tqz⟩ au) ⟨am J,tqz⟩ (ap (aL _ _)) ⟨.inr ⟨J,J⟩,.inl ⟨0,_,by decide,J,aZ ⟨ap (bc _),tqz⟩⟩,.inr ⟨J,J⟩,tqz⟩ (qA1 3 ?_))))));exact qpP J (qc (aw2:=[.box [.ptr 1 0],.dead,.box [iI 0,iI 0]]) (n0:=3) (n1:=1) [1] J J (aW hx4) (aA J ⟨aJ J,tqz⟩ au) ⟨am J,tqz⟩ ⟨.inr ⟨J,J⟩,.inl ⟨0,_,by decide,J,tqz⟩,.inr ⟨J,J⟩,tqz⟩ trivial)
 refine T.drawn mixed (k:=6) J ?_;apply TG 3 (bm 6 7);intro hS1
 .refine rL [0,1,3,4,5] 0 J (ra2 1 2 ?_ ?_)
  .refine oO J (bq (aw2:=[.box [.ptr 1 0],.box [.str x3.2],.box [iI 0,iI 0]]) (v':=iI x3.1) (n0:=3) (n1:=1) [1] J J (aW hx3) (aA J ⟨aJ J,tqz⟩ au) ⟨am J,tqz⟩ (ap (aL _ _)) ⟨.inr ⟨J,J⟩,.inl ⟨0,_,by decide,J,aZ ⟨ap (bc _),tqz⟩⟩,.inr ⟨J,J⟩,tqz⟩ (ra1 2 (og 3 ⟨J,?_⟩)));exact raE hS1
  .refine og 3 ⟨J,(ra1 1 (oO J (bq (aw2:=[.box [.ptr 1 0],.box [.str x3.2],.box [iI 0,iI 0]]) (v':=iI x3.1) (n0:=3) (n1:=1) [1] J J (aW hx3) (aA J ⟨aJ J,tqz⟩ au) ⟨am J,tqz⟩ (ap (aL _ _)) ⟨.inr ⟨J,J⟩,.inl ⟨0,_,by decide,J,aZ ⟨ap (bc _),tqz⟩⟩,.inr ⟨J,J⟩,tqz⟩ ?_)))⟩;exact raT hS1
 refine ra1 3 (oO J (bq (aw2:=[.box [.ptr 1 0],.box [.str x4.2],.box [iI 0,iI 0]]) (v':=iI x4.1) (n0:=3) (n1:=1) [1] J J (aW hx4) (aA J ⟨aJ J,tqz⟩ au) ⟨am J,tqz⟩ (ap (aL _ _)) ⟨.inr ⟨J,J⟩,.inl ⟨0,_,by decide,J,aZ ⟨ap (bc _),tqz⟩⟩,.inr ⟨J,J⟩,tqz⟩ (rq [4] 1 (ra1 5 (og 3 ⟨J,(RA.done (by decide+kernel) ?_)⟩)))));cases h;exact tN [0,1]
theorem Ac {r:((U Choice)×(U UInt8))⊕Unit}(h:oK p0=some r):FnP QbP (.iface 200 (.agg #[])) 126 [.ptr 0 0,.func 127 [.ptr 1 0]] [.box [.str p0],.box [.ptr 0 0]] (λr:(U Choice)×(U UInt8)=>.ref 2) (λr=>[.box [.str r.2],.box [.ptr 0 0],aR 118 2 ao r.1]) r:=by
 unfold oK at h;refine fnPT 2 Tryz.func126 Tryz.ntmps126 ?_;refine q0 ?_;refine X 5 2 (cV h (λhx2 h=>?_) (λx2 hx2 h=>?_))
 .cases h;(refine T9 (V:=(.iface 200 (.agg #[]))) 1 J ?_);exact go 1 2 (RS.nil (qc (aw2:=[.dead,.box [.ptr 0 0]]) (n0:=2) (n1:=1) [0] J J (aW hx2) (aA J ⟨aJ J,tqz⟩ au) ⟨am J,tqz⟩ ⟨.inl ⟨0,_,by decide,J,tqz⟩,.inr ⟨J,J⟩,tqz⟩ J))
 refine X 2 2 (sO (bq (aw2:=[.box [.str x2.2],.box [.ptr 0 0]]) (v':=iI x2.1) (n0:=2) (n1:=1) [0] J J (aW hx2) (aA J ⟨aJ J,tqz⟩ au) ⟨am J,tqz⟩ (ap (aL _ _)) ⟨.inl ⟨0,_,by decide,J,aZ ⟨ap (bc _),tqz⟩⟩,.inr ⟨J,J⟩,tqz⟩ (Y 3 2 (j1 [(1,.func 127 [.ptr 1 0]),(5,iI x2.1),(19,.bool ((decide (x2.1<0))||decide (x2.1> ((x2.2).length:Int))))] [.box [.str x2.2],.box [.ptr 0 0]] ?_ (λhK=>?_)))))
 .refine TH h J (λae h=>?_) (λae h=>?_)
  .cases h;(refine T9 (V:=(.iface 200 (.agg #[]))) 2 J ?_);exact go 1 2 (sO (nF Wi J J (RS.nil (PP.panic J J))))
  refine X 12 2 (itr (λak:Int×(U UInt8)×(U Choice)=>mkA 32 [(1,.func 127 [.ptr 1 0]),(6,.ref 2),(22,iI x2.1),(23,iI ak.1)]) (λak=>[.box [.str ak.2.1],.box [.ptr 0 0],aR 118 2 ao ak.2.2]) h (wk [(6,118,2)] [0,1,2] 2 J) (λak v_6 h bg=>?_));obtain⟨s4,s5,s6⟩:=ak;replace h:ka x2 s4 s5 s6=some v_6:=h;try dsimp only
  unfold ka at h;refine X 5 3 (TH h J (λbH h=>?_) (λbH h=>?_))
  .refine X 3 3 (cV h (λhx7 h=>?_) (λx7 hx7 h=>?_))
   .replace h:=mi h bg;cases h;(refine T9 (V:=(.iface 200 (.agg #[]))) 2 J ?_);exact go 2 3 (RS.nil (qc (aw2:=[.dead,.dead,aR 118 2 ao s6]) (n0:=3) (n1:=2) [1,0] J J (Ar hx7) (aA J ⟨am J,tqz⟩ (aA J ⟨aJ J,tqz⟩ au)) ⟨am J,tqz⟩ ⟨.inl ⟨1,_,by decide,J,tqz⟩,.inl ⟨0,_,by decide,J,tqz⟩,.inr ⟨J,J⟩,tqz⟩ J))
   refine B h λx8 hx8 h=>(X 3 3 (sO (bq (aw2:=[.box [.str x7.2],.box [.ptr 0 0],aR 118 2 ao s6]) (v':=.agg (ao x7.1)) (n0:=3) (n1:=2) [1,0] J J (Ar hx7) (aA J ⟨am J,tqz⟩ (aA J ⟨aJ J,tqz⟩ au)) ⟨am J,tqz⟩ (tv ⟨ap (aL _ _),ap (aL _ _),tqz⟩) ⟨.inl ⟨1,_,by decide,J,aZ ⟨ap (bc _),tqz⟩⟩,.inl ⟨0,_,by decide,J,aZ ⟨mc (by decide),tqz⟩⟩,.inr ⟨J,J⟩,tqz⟩ (sO (bi (rows:=List.map ao [x7.1]) (vs:=[.agg (ao x7.1)]) TN Ur J J J J J J (sO (bU (en:=ao) (xs:=s6) (ys:=([x7.1]:U Choice)) TN (λ_=>J) J J J hx8 J J (Y 6 5 ?_))))))))
   exact lk h (wk [] [0,1,4] 5 J)
  refine X 1 3 ?_;replace h:=mi h bg;refine X 5 3 ?_;cases h;exact tO [] [0,1,2] 3
 refine X 5 2 (gp 11 (λah=>?_) (λah=>?_))
 .refine Yp 9 2 ?_;rw[ah]at hK;exact sx hK
 refine Yp 9 2 ?_;rw[ah]at hK;exact sx hK
theorem Ii {p0:U Int}(h:xh p0=some r):FnX QbP 152 [.ptr 0 0] [.boxB 169 [.np 0,.ref 1],aR 5 1 bR p0] (.tup []) [.boxB 169 [.np 0,.ref 1],aR 5 1 bR r]:=by cases h;exact IZ _
theorem Ab {p0:Int}{r:Unit×(U Int)}(h:oF p0 p1=some r):FnX QbP 128 [.ptr 0 0,.int .u8 p0] [.boxB 169 [.np 0,.ref 1],aR 5 1 bR p1] (.nili) [.boxB 169 [.np 0,.ref 2],.dead,aR 5 1 bR r.2]:=by unfold oF at h;refine fT 2 0 Tryz.func128 Tryz.ntmps128 J ?_;refine UP 0 1 1 (cs:=[.np 0,.ref 1]) J J J J (cs':=[.np 0,.ref 2]) J J (B h λx2 hx2 h=>(X 7 3 (sO (cG [0,2] 3 2 (Ii hx2) ⟨J,(B h λx4 hx4 h=>(Y 7 3 (sO (I7 J J (aI Vf (c:=.ref 2) J (Y 1 3 (sO (bi (rows:=List.map bR [p0]) (vs:=[.int .u8 p0]) Ue Uu J J J J J J (sO (bU (en:=bR) (xs:=x2) (ys:=([p0]:U Int)) Ue (λ_=>J) J J J hx4 J J ?_))))))))))⟩))));refine Y 2 5 (sO (Md J J (vs:=[.ref 4]) J Wh J (by decide) J (Y 5 5 ?_)));cases h;exact tN [0,1,4]
theorem fG {p0:Int}(h:dL p0 p1=some r):FnX QbP 97 [.ptr 0 0,iI p0] [.boxB 169 [.np 0,.ref 1],aR 5 1 bR p1] (.tup []) [.boxB 169 [.np 0,.ref 2],.dead,aR 5 1 bR r]:=by
 unfold dL at h;refine fT 2 0 Tryz.func97 Tryz.ntmps97 J ?_;refine UP 0 1 1 (cs:=[.np 0,.ref 1]) J J J J (cs':=[.np 0,.ref 2]) J J (B h λx3 hx3 h=>(B h λx4 hx4 h=>(X 4 3 (sQ (v_shl J J hx3 (Y 1 3 (sQ (jf J J hx4 (Y 6 3 (itr (λcT:Int×(U Int)=>mkA 29 [(0,.ptr 0 0),(4,.int .u64 cT.1)]) (λcT=>[.boxB 169 [.np 0,.ref 2],.dead,aR 5 1 bR cT.2]) h (wk [] [0,1,2] 3 J) (λcT v_4 h tV=>?_)))))))))));obtain⟨s5,s6⟩:=cT;replace h:lr s5 s6=some v_4:=h;try dsimp only
 unfold lr at h;refine X 6 3 (TH h J (λaN h=>?_) (λaN h=>?_))
 .exact B h λx7 hx7 h=>(X 10 3 (sO (cG [0,2] 3 3 (Ab hx7) ⟨J,(B h λx8 hx8 h=>(Y 3 4 (sQ (jf J J hx8 (Y 2 4 (lk h (wk [] [0,1,3] 4 J)))))))⟩)))
 refine X 1 3 ?_;replace h:=mi h tV;refine B h λx9 hx9 h=>(X 6 3 (sO (cG [0,2] 3 3 (Ab hx9) ⟨J,(Y 1 4 ?_)⟩)))
 cases h;exact eN [0,1,3]
theorem Af {p0:U Item}(h:mD p0 p1=some r):FnX QbP 98 [.ptr 0 0,sL aa p0] [.boxB 169 [.np 0,.ref 1],aR 5 1 bR p1] (.tup []) [.boxB 169 [.np 0,.ref 2],.dead,aR 5 1 bR r]:=by
 unfold mD at h;refine fT 2 0 Tryz.func98 Tryz.ntmps98 J ?_;refine UP 0 1 1 (cs:=[.np 0,.ref 1]) J J J J (cs':=[.np 0,.ref 2]) J J (B h λx2 hx2 h=>(X 4 3 (sQ (al TL J (sO (cG [0,2] 3 3 (fG hx2) ⟨J,(Y 4 4 (sQ (al TL J (Y 3 4 (itr (λcT:Int×(U Int)=>mkA 29 [(0,.ptr 0 0),(10,sL aa p0),(11,iI ((p0).length:Int)),(12,iI cT.1)]) (λcT=>[.boxB 169 [.np 0,.ref 2],.dead,aR 5 1 bR cT.2]) h (wk [] [0,1,3] 4 J) (λcT v_4 h tV=>?_))))))⟩))))));obtain⟨s3,s4⟩:=cT;replace h:q7 p0 s3 s4=some v_4:=h;try dsimp only
 unfold q7 at h;refine X 5 3 (TH h J (λaN h=>?_) (λaN h=>?_))
 .refine B h λx6 hx6 h=>(X 5 3 (sQ (aG TL (λ_=>J) J J hx6 (B h λx8 hx8 h=>(Y 9 3 (sO (cG [0,2] 4 3 (fG hx8) ⟨J,(B h λx10 aY h=>(Y 6 5 (sO (cG [0,4] 5 3 (fG aY) ⟨J,(B h λx11 bw h=>?_)⟩))))⟩)))))))
  exact Y 5 6 (sO (cG [0,5] 6 3 (fG bw) ⟨J,(Y 5 7 (lk h (wk [] [0,1,6] 7 J)))⟩))
 refine X 1 3 ?_;replace h:=mi h tV;cases h;exact eN [0,1,2]
theorem IX {p0:U Int}{r:U UInt8}(h:rY p0=some r):FnX QbP 99 [.ptr 0 0] [.boxB 169 [.np 0,.ref 1],aR 5 1 bR p0] (.str r) [.dead,.dead]:=KS p0 r h
theorem AU {p0:Net}{p1:U (U Item)}{p2:State}{r:(U UInt8)×Int}(h:ky p0 p1 p2=some r):Fn QbP 53 [.agg (aK p0),sL (ai aa) p1,.agg (bE p2)] (.tup [.str r.1,iI r.2]):=by
 unfold ky at h;refine fT 0 0 Tryz.func53 Tryz.ntmps53 J ?_;refine B h λx2 hx2 h=>(X 13 0 (sO (cF (rM hx2) ⟨J,(Y 7 2 (TH h J (λah h=>?_) (λah h=>?_)))⟩)))
 .refine X 6 2 ?_;cases h;exact tD
 refine X 4 2 (sO (Qo (e:=5) (z:=1) J J J (B h λx4 hx4 h=>(Y 7 4 (sQ (al TK J (sO (cG [2,3] 4 3 (fG hx4) ⟨J,(Y 6 5 (sQ (al TK J (Y 3 5 (itr (λeP:Int×(U Int)=>mkA 132 [(5,.ptr 0 0),(9,.ptr 1 0),(35,sL aj p2.At),(36,iI ((p2.At).length:Int)),(37,iI eP.1)]) (λeP=>[.box (bE p2),.boxB 169 [.np 1,.ref 2],aR 5 1 bR eP.2]) h (wk [] [1,2,4] 5 J) (λeP v_5 h z6=>?_))))))⟩))))))));obtain⟨s5,s6⟩:=eP;replace h:pe p2 s5 s6=some v_5:=h;try dsimp only
 unfold pe at h;refine X 5 3 (TH h J (λaV h=>?_) (λaV h=>?_))
 .exact B h λx8 hx8 h=>(X 5 3 (sQ (aG TK (λ_=>J) J J hx8 (B h λx9 hx9 h=>(Y 6 3 (sO (cG [1,2] 3 3 (fG hx9) ⟨J,(Y 5 4 (lk h (wk [] [0,1,3] 4 J)))⟩)))))))
 refine X 1 3 ?_;replace h:=mi h z6;refine B h λx11 bw h=>(X 5 3 (sQ (al TO J (sO (cG [1,2] 3 3 (fG bw) ⟨J,(Y 6 4 (sQ (al TO J (Y 3 4 (itr (λbB:Int×(U Int)=>mkA 132 [(5,.ptr 0 0),(9,.ptr 1 0),(51,sL (ai aa) p2.Rings),(52,iI ((p2.Rings).length:Int)),(53,iI bB.1)]) (λbB=>[.box (bE p2),.boxB 169 [.np 1,.ref 2],aR 5 1 bR bB.2]) h (wk [] [0,1,3] 4 J) (λbB v_11 h qy=>?_))))))⟩)))))
 obtain⟨s12,s13⟩:=bB;replace h:pf p2 s12 s13=some v_11:=h;try dsimp only
 unfold pf at h;refine X 5 3 (TH h J (λgC h=>?_) (λgC h=>?_))
 .exact B h λx15 dY h=>(X 5 3 (sQ (aG TO (λ_=>J) J J dY (B h λx16 e6 h=>(Y 6 3 (sO (cG [1,2] 3 3 (Af e6) ⟨J,(Y 5 4 (lk h (wk [] [0,1,3] 4 J)))⟩)))))))
 refine X 1 3 ?_;replace h:=mi h qy;refine B h λx18 cI h=>(X 5 3 (sQ (al TZ J (sO (cG [1,2] 3 3 (fG cI) ⟨J,(Y 6 4 (sQ (al TZ J (Y 3 4 (itr (λeM:Int×(U Int)=>mkA 132 [(5,.ptr 0 0),(9,.ptr 1 0),(67,sL aC p2.Memory),(68,iI ((p2.Memory).length:Int)),(69,iI eM.1)]) (λeM=>[.box (bE p2),.boxB 169 [.np 1,.ref 2],aR 5 1 bR eM.2]) h (wk [] [0,1,3] 4 J) (λeM v_29 h zA=>?_))))))⟩)))))
 obtain⟨s19,s20⟩:=eM;replace h:ph p2 s19 s20=some v_29:=h;try dsimp only
 unfold ph at h;refine X 5 3 (TH h J (λoq h=>?_) (λoq h=>?_))
 .refine B h λx22 eQ h=>(X 5 3 (sQ (aG TZ (λ_=>J) J J eQ (B h λx24 dK h=>(Y 9 3 (sO (cG [1,2] 4 3 (fG dK) ⟨J,(B h λx26 gH h=>(Y 6 5 (sO (cG [1,4] 5 3 (fG gH) ⟨J,(B h λx28 ui h=>?_)⟩))))⟩)))))))
  refine Y 6 6 (sQ (al TM J (sO (cG [1,5] 6 3 (fG ui) ⟨J,(Y 5 7 (sQ (al TM J (Y 3 7 (itr (λmy:Int×(U Int)=>mkA 132 [(5,.ptr 0 0),(9,.ptr 1 0),(67,sL aC p2.Memory),(68,iI ((p2.Memory).length:Int)),(69,iI s19),(87,sL aQ x22.Keys),(88,iI ((x22.Keys).length:Int)),(89,iI my.1)]) (λmy=>[.box (bE p2),.boxB 169 [.np 1,.ref 2],aR 5 1 bR my.2]) h (wk [] [0,1,6] 7 J) (λmy v_34 h Q8=>?_))))))⟩))));obtain⟨s29,s30⟩:=my;replace h:rF s19 x22 s29 s30=some v_34:=h;try dsimp only
  unfold rF at h;refine X 5 3 (TH h J (λtP h=>?_) (λtP h=>?_))
  .exact B h λx32 lm h=>(X 5 3 (sQ (aG TM (λ_=>J) J J lm (B h λx34 oB h=>(Y 9 3 (sO (cG [1,2] 4 3 (fG oB) ⟨J,(B h λx35 tQ h=>(Y 5 5 (sO (cG [1,4] 5 3 (fG tQ) ⟨J,(Y 5 6 (lk h (wk [] [0,1,5] 6 J)))⟩))))⟩)))))))
  refine X 1 3 ?_;replace h:=mi h Q8;exact X 4 3 (lk h (wk [] [0,1,2] 3 J))
 refine X 1 3 ?_;replace h:=mi h zA;refine B h λx37 tT h=>(X 5 3 (sQ (al TN J (sO (cG [1,2] 3 3 (fG tT) ⟨J,(Y 6 4 (sQ (al TN J (Y 3 4 (itr (λjk:Int×(U Int)=>mkA 132 [(5,.ptr 0 0),(9,.ptr 1 0),(109,sL ao p2.Choices),(110,iI ((p2.Choices).length:Int)),(111,iI jk.1)]) (λjk=>[.box (bE p2),.boxB 169 [.np 1,.ref 2],aR 5 1 bR jk.2]) h (wk [] [0,1,3] 4 J) (λjk v_41 h Q9=>?_))))))⟩)))))
 obtain⟨s38,s39⟩:=jk;replace h:pb p2 s38 s39=some v_41:=h;try dsimp only
 unfold pb at h;refine X 5 3 (TH h J (λtK h=>?_) (λtK h=>?_))
 .exact B h λx41 qD h=>(X 5 3 (sQ (aG TN (λ_=>J) J J qD (B h λx43 wS h=>(Y 9 3 (sO (cG [1,2] 4 3 (fG wS) ⟨J,(B h λx44 zT h=>(Y 5 5 (sO (cG [1,4] 5 3 (fG zT) ⟨J,(Y 5 6 (lk h (wk [] [0,1,5] 6 J)))⟩))))⟩)))))))
 refine X 1 3 ?_;replace h:=mi h Q9;refine B h λx46 Rq h=>(X 5 3 (sO (cG [1,2] 3 3 (Af Rq) ⟨J,(B h λx48 Rr h=>(Y 6 4 (sO (cG [1,3] 4 2 (IX Rr) ⟨J,(Y 3 4 ?_)⟩))))⟩)))
 cases h;exact tD
theorem Cc {p0:Net}{p1:U (U Item)}{p2:U UInt8}{r:State×Int}(h:iD p0 p1 p2=some r):Fn QbP 91 [.agg (aK p0),sL (ai aa) p1,.str p2] (.tup [.agg (bE r.1),iI r.2]):=by
 unfold iD at h;refine fnTDR (V:=(.iface 200 (.agg #[]))) 0 Tryz.func91 Tryz.ntmps91 ?_;refine TDR.seq (T.region (go 3 0 (RS.nil (TDR.seq (T.seq ?_)))));obtain⟨x2,hx2,h⟩:=bind_some h;refine T.region (go 2 3 (sO (cF (xf hx2) ⟨J,(go 1 3 (RS.nil (T.seq (T.region (go 2 3 (RS.nil (TH h J (λah h=>?_) (λah h=>?_))))))))⟩)))
 .refine T.seq (T.region (go 4 3 (RS.nil ?_)));cases h;exact tD
 refine T.skip (TDR.defer 1 J (go 1 3 (RS.nil ⟨3,_,_,_,J,J,J,idleF,λvs w=>callable Wo J (by kernel_rfl) vs w,(T.seq (T.region (go 5 3 (RS.nil (T.seq (cV h (λhx4 h=>?_) (λx4 hx4 h=>?_)))))))⟩)))
 .cases h;(refine T9 (V:=(.iface 200 (.agg #[]))) 3 J ?_);exact go 2 5 (sQ (v_bnd (cs:=[.ptr 3 0]) J (RS.nil (qc (aw2:=[.box (aK p0),.box [.nils,.nils,.nils,.nils,.nils],.box [iI 0],.dead,.box [.ptr 3 0]]) (n0:=5) (n1:=1) [3] J J (Aj hx4) (aA J ⟨aJ J,tqz⟩ au) ⟨am J,nT ⟨am J,tqz⟩,tqz⟩ ⟨.inr ⟨J,J⟩,.inr ⟨J,J⟩,.inr ⟨J,J⟩,.inl ⟨0,_,by decide,J,tqz⟩,.inr ⟨J,J⟩,tqz⟩ ⟨J,[.box (aK p0),.box [.nils,.nils,.nils,.nils,.nils],.box [iI 12],.dead,.box [.ptr 3 0]],Ui (as0:=[.ptr 0 0,.ptr 1 0]) (aw0:=[.box [.any,.any,.any,.any,.any],.box [.any]]) (aw1:=[.box [.nils,.nils,.nils,.nils,.nils],.box [iI 12]]) (n0:=5) (n1:=2) [1,2] J J (by decide) (aA (cs:=[.any,.any,.any,.any,.any]) (ds:=[.nils,.nils,.nils,.nils,.nils]) J ⟨cz,cz,cz,cz,cz,tqz⟩ (aA (cs:=[.any]) (ds:=[iI 0]) J ⟨cz,tqz⟩ (au))) ⟨am J,am J,tqz⟩ catX J ⟨.inr ⟨J,J⟩,.inl ⟨0,_,by decide,J,aZ (cs:=[.nils,.nils,.nils,.nils,.nils]) (ds:=[.nils,.nils,.nils,.nils,.nils]) ⟨ap (bT),ap (bT),ap (bT),ap (bT),ap (bT),tqz⟩⟩,.inl ⟨1,_,by decide,J,aZ (cs:=[iI 12]) (ds:=[iI 12]) ⟨ap (aL _ _),tqz⟩⟩,.inr ⟨J,J⟩,.inr ⟨J,J⟩,tqz⟩,vD⟩))))
 refine T.region (go 2 5 (sQ (v_bnd (cs:=[.ptr 3 0]) J (sO (bq (aw2:=[.box (aK p0),.box [.nils,.nils,.nils,.nils,.nils],.box [iI 0],.box [.str x4.2],.box [.ptr 3 0],aR 3 1 aj x4.1]) (v':=.ref 5) (n0:=5) (n1:=2) [3] J J (Aj hx4) (aA J ⟨aJ J,tqz⟩ au) ⟨am J,nT ⟨am J,tqz⟩,tqz⟩ (jQ (by decide)) ⟨.inr ⟨J,J⟩,.inr ⟨J,J⟩,.inr ⟨J,J⟩,.inl ⟨0,_,by decide,J,aZ ⟨ap (bc _),tqz⟩⟩,.inr ⟨J,J⟩,.inl ⟨1,_,by decide,J,lY me⟩,tqz⟩ (go 2 6 (RS.nil (T.seq (cV h (λhx6 h=>?_) (λx6 hx6 h=>?_))))))))))
 .cases h;(refine T9 (V:=(.iface 200 (.agg #[]))) 3 J ?_);exact go 2 6 (sQ (v_bnd (cs:=[.ptr 3 0]) J (RS.nil (qc (aw2:=[.box (aK p0),.box [.ref 5,.nils,.nils,.nils,.nils],.box [iI 0],.dead,.box [.ptr 3 0],aR 3 1 aj x4.1]) (n0:=6) (n1:=1) [3] J J (Ai hx6) (aA J ⟨aJ J,tqz⟩ au) ⟨am J,nT ⟨am J,tqz⟩,tqz⟩ ⟨.inr ⟨J,J⟩,.inr ⟨J,J⟩,.inr ⟨J,J⟩,.inl ⟨0,_,by decide,J,tqz⟩,.inr ⟨J,J⟩,.inr ⟨J,J⟩,tqz⟩ ⟨J,[.box (aK p0),.box [.nils,.nils,.nils,.nils,.nils],.box [iI 12],.dead,.box [.ptr 3 0],aR 3 1 aj x4.1],Ui (as0:=[.ptr 0 0,.ptr 1 0]) (aw0:=[.box [.any,.any,.any,.any,.any],.box [.any]]) (aw1:=[.box [.nils,.nils,.nils,.nils,.nils],.box [iI 12]]) (n0:=6) (n1:=2) [1,2] J J (by decide) (aA (cs:=[.any,.any,.any,.any,.any]) (ds:=[.ref 5,.nils,.nils,.nils,.nils]) J ⟨cz,cz,cz,cz,cz,tqz⟩ (aA (cs:=[.any]) (ds:=[iI 0]) J ⟨cz,tqz⟩ (au))) ⟨am J,am J,tqz⟩ catX J ⟨.inr ⟨J,J⟩,.inl ⟨0,_,by decide,J,aZ (cs:=[.nils,.nils,.nils,.nils,.nils]) (ds:=[.nils,.nils,.nils,.nils,.nils]) ⟨ap (bT),ap (bT),ap (bT),ap (bT),ap (bT),tqz⟩⟩,.inl ⟨1,_,by decide,J,aZ (cs:=[iI 12]) (ds:=[iI 12]) ⟨ap (aL _ _),tqz⟩⟩,.inr ⟨J,J⟩,.inr ⟨J,J⟩,.inr ⟨J,J⟩,tqz⟩,vD⟩))))
 refine T.region (go 2 6 (sQ (v_bnd (cs:=[.ptr 3 0]) J (sO (bq (aw2:=[.box (aK p0),.box [.ref 5,.nils,.nils,.nils,.nils],.box [iI 0],.box [.str x6.2],.box [.ptr 3 0],aR 3 1 aj x4.1,aR 30 1 (ai aa) x6.1]) (v':=.ref 6) (n0:=6) (n1:=2) [3] J J (Ai hx6) (aA J ⟨aJ J,tqz⟩ au) ⟨am J,nT ⟨am J,tqz⟩,tqz⟩ (jQ (by decide)) ⟨.inr ⟨J,J⟩,.inr ⟨J,J⟩,.inr ⟨J,J⟩,.inl ⟨0,_,by decide,J,aZ ⟨ap (bc _),tqz⟩⟩,.inr ⟨J,J⟩,.inr ⟨J,J⟩,.inl ⟨1,_,by decide,J,lY (nW fo)⟩,tqz⟩ (go 2 7 (RS.nil (T.seq (cV h (λhx8 h=>?_) (λx8 hx8 h=>?_))))))))))
 .cases h;(refine T9 (V:=(.iface 200 (.agg #[]))) 2 J ?_);exact go 2 7 (RS.nil (qc (aw2:=[.box (aK p0),.box [.ref 5,.ref 6,.nils,.nils,.nils],.box [iI 0],.dead,.dead,aR 3 1 aj x4.1,aR 30 1 (ai aa) x6.1]) (n0:=7) (n1:=2) [3,4] J J (Ad hx8) (aA J ⟨aJ J,tqz⟩ (aA J ⟨am J,tqz⟩ au)) ⟨am J,eT ⟨am J,tqz⟩,tqz⟩ ⟨.inr ⟨J,J⟩,.inr ⟨J,J⟩,.inr ⟨J,J⟩,.inl ⟨0,_,by decide,J,tqz⟩,.inl ⟨1,_,by decide,J,tqz⟩,.inr ⟨J,J⟩,.inr ⟨J,J⟩,tqz⟩ ⟨J,[.box (aK p0),.box [.nils,.nils,.nils,.nils,.nils],.box [iI 12],.dead,.dead,aR 3 1 aj x4.1,aR 30 1 (ai aa) x6.1],Ui (as0:=[.ptr 0 0,.ptr 1 0]) (aw0:=[.box [.any,.any,.any,.any,.any],.box [.any]]) (aw1:=[.box [.nils,.nils,.nils,.nils,.nils],.box [iI 12]]) (n0:=7) (n1:=2) [1,2] J J (by decide) (aA (cs:=[.any,.any,.any,.any,.any]) (ds:=[.ref 5,.ref 6,.nils,.nils,.nils]) J ⟨cz,cz,cz,cz,cz,tqz⟩ (aA (cs:=[.any]) (ds:=[iI 0]) J ⟨cz,tqz⟩ (au))) ⟨am J,am J,tqz⟩ catX J ⟨.inr ⟨J,J⟩,.inl ⟨0,_,by decide,J,aZ (cs:=[.nils,.nils,.nils,.nils,.nils]) (ds:=[.nils,.nils,.nils,.nils,.nils]) ⟨ap (bT),ap (bT),ap (bT),ap (bT),ap (bT),tqz⟩⟩,.inl ⟨1,_,by decide,J,aZ (cs:=[iI 12]) (ds:=[iI 12]) ⟨ap (aL _ _),tqz⟩⟩,.inr ⟨J,J⟩,.inr ⟨J,J⟩,.inr ⟨J,J⟩,.inr ⟨J,J⟩,tqz⟩,vD⟩))
 refine T.region (go 2 7 (sO (bq (aw2:=[.box (aK p0),.box [.ref 5,.ref 6,.nils,.nils,.nils],.box [iI 0],.box [.str x8.2],.box [.ptr 3 0],aR 3 1 aj x4.1,aR 30 1 (ai aa) x6.1,aR 133 3 aC x8.1]) (v':=.ref 7) (n0:=7) (n1:=3) [3,4] J J (Ad hx8) (aA J ⟨aJ J,tqz⟩ (aA J ⟨am J,tqz⟩ au)) ⟨am J,eT ⟨am J,tqz⟩,tqz⟩ (jQ (by decide)) ⟨.inr ⟨J,J⟩,.inr ⟨J,J⟩,.inr ⟨J,J⟩,.inl ⟨0,_,by decide,J,aZ ⟨ap (bc _),tqz⟩⟩,.inl ⟨1,_,by decide,J,aZ ⟨mc (by decide),tqz⟩⟩,.inr ⟨J,J⟩,.inr ⟨J,J⟩,.inl ⟨2,_,by decide,J,lY ne⟩,tqz⟩ (go 2 8 (RS.nil (T.seq (cV h (λaY h=>?_) (λx10 aY h=>?_))))))))
 .cases h;(refine T9 (V:=(.iface 200 (.agg #[]))) 2 J ?_);exact go 2 8 (RS.nil (qc (aw2:=[.box (aK p0),.box [.ref 5,.ref 6,.ref 7,.nils,.nils],.box [iI 0],.dead,.dead,aR 3 1 aj x4.1,aR 30 1 (ai aa) x6.1,aR 133 3 aC x8.1]) (n0:=8) (n1:=2) [3,4] J J (Ac aY) (aA J ⟨aJ J,tqz⟩ (aA J ⟨am J,tqz⟩ au)) ⟨am J,eT ⟨am J,tqz⟩,tqz⟩ ⟨.inr ⟨J,J⟩,.inr ⟨J,J⟩,.inr ⟨J,J⟩,.inl ⟨0,_,by decide,J,tqz⟩,.inl ⟨1,_,by decide,J,tqz⟩,.inr ⟨J,J⟩,.inr ⟨J,J⟩,.inr ⟨J,J⟩,tqz⟩ ⟨J,[.box (aK p0),.box [.nils,.nils,.nils,.nils,.nils],.box [iI 12],.dead,.dead,aR 3 1 aj x4.1,aR 30 1 (ai aa) x6.1,aR 133 3 aC x8.1],Ui (as0:=[.ptr 0 0,.ptr 1 0]) (aw0:=[.box [.any,.any,.any,.any,.any],.box [.any]]) (aw1:=[.box [.nils,.nils,.nils,.nils,.nils],.box [iI 12]]) (n0:=8) (n1:=2) [1,2] J J (by decide) (aA (cs:=[.any,.any,.any,.any,.any]) (ds:=[.ref 5,.ref 6,.ref 7,.nils,.nils]) J ⟨cz,cz,cz,cz,cz,tqz⟩ (aA (cs:=[.any]) (ds:=[iI 0]) J ⟨cz,tqz⟩ (au))) ⟨am J,am J,tqz⟩ catX J ⟨.inr ⟨J,J⟩,.inl ⟨0,_,by decide,J,aZ (cs:=[.nils,.nils,.nils,.nils,.nils]) (ds:=[.nils,.nils,.nils,.nils,.nils]) ⟨ap (bT),ap (bT),ap (bT),ap (bT),ap (bT),tqz⟩⟩,.inl ⟨1,_,by decide,J,aZ (cs:=[iI 12]) (ds:=[iI 12]) ⟨ap (aL _ _),tqz⟩⟩,.inr ⟨J,J⟩,.inr ⟨J,J⟩,.inr ⟨J,J⟩,.inr ⟨J,J⟩,.inr ⟨J,J⟩,tqz⟩,vD⟩))
 refine T.region (go 2 8 (sO (bq (aw2:=[.box (aK p0),.box [.ref 5,.ref 6,.ref 7,.nils,.nils],.box [iI 0],.box [.str x10.2],.box [.ptr 3 0],aR 3 1 aj x4.1,aR 30 1 (ai aa) x6.1,aR 133 3 aC x8.1,aR 118 2 ao x10.1]) (v':=.ref 8) (n0:=8) (n1:=3) [3,4] J J (Ac aY) (aA J ⟨aJ J,tqz⟩ (aA J ⟨am J,tqz⟩ au)) ⟨am J,eT ⟨am J,tqz⟩,tqz⟩ (jQ (by decide)) ⟨.inr ⟨J,J⟩,.inr ⟨J,J⟩,.inr ⟨J,J⟩,.inl ⟨0,_,by decide,J,aZ ⟨ap (bc _),tqz⟩⟩,.inl ⟨1,_,by decide,J,aZ ⟨mc (by decide),tqz⟩⟩,.inr ⟨J,J⟩,.inr ⟨J,J⟩,.inr ⟨J,J⟩,.inl ⟨2,_,by decide,J,lY nq⟩,tqz⟩ (go 2 9 (RS.nil (T.seq (cV h (λbx h=>?_) (λx12 bx h=>?_))))))))
 .cases h;(refine T9 (V:=(.iface 200 (.agg #[]))) 1 J ?_);exact go 1 9 (RS.nil (qc (aw2:=[.box (aK p0),.box [.ref 5,.ref 6,.ref 7,.ref 8,.nils],.box [iI 0],.dead,.box [.ptr 3 0],aR 3 1 aj x4.1,aR 30 1 (ai aa) x6.1,aR 133 3 aC x8.1,aR 118 2 ao x10.1]) (n0:=9) (n1:=1) [3] J J (ut bx) (aA J ⟨aJ J,tqz⟩ au) ⟨am J,tqz⟩ ⟨.inr ⟨J,J⟩,.inr ⟨J,J⟩,.inr ⟨J,J⟩,.inl ⟨0,_,by decide,J,tqz⟩,.inr ⟨J,J⟩,.inr ⟨J,J⟩,.inr ⟨J,J⟩,.inr ⟨J,J⟩,.inr ⟨J,J⟩,tqz⟩ ⟨J,[.box (aK p0),.box [.nils,.nils,.nils,.nils,.nils],.box [iI 12],.dead,.box [.ptr 3 0],aR 3 1 aj x4.1,aR 30 1 (ai aa) x6.1,aR 133 3 aC x8.1,aR 118 2 ao x10.1],Ui (as0:=[.ptr 0 0,.ptr 1 0]) (aw0:=[.box [.any,.any,.any,.any,.any],.box [.any]]) (aw1:=[.box [.nils,.nils,.nils,.nils,.nils],.box [iI 12]]) (n0:=9) (n1:=2) [1,2] J J (by decide) (aA (cs:=[.any,.any,.any,.any,.any]) (ds:=[.ref 5,.ref 6,.ref 7,.ref 8,.nils]) J ⟨cz,cz,cz,cz,cz,tqz⟩ (aA (cs:=[.any]) (ds:=[iI 0]) J ⟨cz,tqz⟩ (au))) ⟨am J,am J,tqz⟩ catX J ⟨.inr ⟨J,J⟩,.inl ⟨0,_,by decide,J,aZ (cs:=[.nils,.nils,.nils,.nils,.nils]) (ds:=[.nils,.nils,.nils,.nils,.nils]) ⟨ap (bT),ap (bT),ap (bT),ap (bT),ap (bT),tqz⟩⟩,.inl ⟨1,_,by decide,J,aZ (cs:=[iI 12]) (ds:=[iI 12]) ⟨ap (aL _ _),tqz⟩⟩,.inr ⟨J,J⟩,.inr ⟨J,J⟩,.inr ⟨J,J⟩,.inr ⟨J,J⟩,.inr ⟨J,J⟩,.inr ⟨J,J⟩,tqz⟩,vD⟩))
 refine T.region (go 1 9 (sO (bq (aw2:=[.box (aK p0),.box [.ref 5,.ref 6,.ref 7,.ref 8,.nils],.box [iI 0],.box [.str x12.2],.box [.ptr 3 0],aR 3 1 aj x4.1,aR 30 1 (ai aa) x6.1,aR 133 3 aC x8.1,aR 118 2 ao x10.1,aR 68 3 aa x12.1]) (v':=.ref 9) (n0:=9) (n1:=2) [3] J J (ut bx) (aA J ⟨aJ J,tqz⟩ au) ⟨am J,tqz⟩ (jQ (by decide)) ⟨.inr ⟨J,J⟩,.inr ⟨J,J⟩,.inr ⟨J,J⟩,.inl ⟨0,_,by decide,J,aZ ⟨ap (bc _),tqz⟩⟩,.inr ⟨J,J⟩,.inr ⟨J,J⟩,.inr ⟨J,J⟩,.inr ⟨J,J⟩,.inr ⟨J,J⟩,.inl ⟨1,_,by decide,J,lY fo⟩,tqz⟩ (go 2 10 (RS.nil (T.seq (T.seq ?_)))))));obtain⟨x14,cm,h⟩:=bind_some h;refine T.region (go 3 10 (sO (cF (AU cm) ⟨J,(go 5 10 (RS.nil (VN (Z:=Unit) (λ_=>mkA 60 [(6,.ptr 1 0),(7,.ptr 2 0),(57,.bool ((x14.2 !=0)|| !(x14.1==p2)))]) (λ_=>[.box (aK p0),.box [.ref 3,.ref 4,.ref 5,.ref 6,.ref 7],.box [iI 0],aR 3 1 aj x4.1,aR 30 1 (ai aa) x6.1,aR 133 3 aC x8.1,aR 118 2 ao x10.1,aR 68 3 aa x12.1]) (λ_=>True) (λ_ _=>?_) (λhK=>?_))))⟩)))
 .refine TH h J (λaq h=>?_) (λaq h=>?_)
  .refine T.seq (T.region (go 3 8 (RS.nil ?_)));cases h;exact tD
  refine T.skip (T.seq (T.region (go 3 8 (RS.nil ?_))));cases h;exact tD
 refine T.region (go 3 10 ?_);rcases bC (x14.2 !=0)with ae|ae
 .exact sN ae (sN ae (sN ae (sQ (br (v:=.bool true) J ae J (RS.nil (T.weakR (hK () trivial) (TS [] [0,1,2,5,6,7,8,9] (by decide) (by decide) J ⟨am J,am J,f7 (by simp only[ae,bz,if_true,if_false,RU]),tqz⟩ (eV (aK p0) J (aA (cs:=[.ref 3,.ref 4,.ref 5,.ref 6,.ref 7]) (ds:=[.ref 5,.ref 6,.ref 7,.ref 8,.ref 9]) J ⟨bX J,bX J,bX J,bX J,bX J,tqz⟩ (eV [iI 0] J (ig J J (ig J J (ig J J (ig J J (ig J J (au))))))))))))))))
 exact yg 10 ae (yg 10 ae (yg 10 ae (sQ (bd (v:=.bool (!(x14.1==p2))) J ae J (RS.nil (T.weakR (hK () trivial) (TS [] [0,1,2,5,6,7,8,9] (by decide) (by decide) J ⟨am J,am J,f7 (by simp only[ae,bz,if_true,if_false,RU]),tqz⟩ (eV (aK p0) J (aA (cs:=[.ref 3,.ref 4,.ref 5,.ref 6,.ref 7]) (ds:=[.ref 5,.ref 6,.ref 7,.ref 8,.ref 9]) J ⟨bX J,bX J,bX J,bX J,bX J,tqz⟩ (eV [iI 0] J (ig J J (ig J J (ig J J (ig J J (ig J J (au))))))))))))))))
theorem HM {p0:U Node}{p1 p2:Int}{p3:U (U Item)}{p4:U Int}{p5:U (U Item)}{p6:U Memory}{p7:U Choice}{p8:U Item}{p9:U (U UInt8)}{p10:U Write}{p11 p12 p13 p14 p15:Int}{p16:Bool}{p17:U Item}{r:State×Int}(h:rk p0 p1 p2 p3 p4 p5 p6 p7 p8 p9 p10 p11 p12 p13 p14 p15 p16 p17=some r):FnX QbP 50 [.ptr 0 0] [.box [sL an p0,iI p1,iI p2,sL (ai aa) p3,sL aj p4,sL (ai aa) p5,sL aC p6,sL ao p7,sL aa p8,sL aT p9,sL be p10,iI p11,iI p12,iI p13,iI p14,iI p15,.ref 1,.bool p16],aR 68 3 aa p17] (.tup [.agg (bE r.1),iI r.2]) [.box [sL an p0,iI p1,iI p2,sL (ai aa) p3,sL aj p4,sL (ai aa) p5,sL aC p6,sL ao p7,sL aa p8,sL aT p9,sL be p10,iI p11,iI p12,iI p13,iI p14,iI p15,.ref 1,.bool p16],aR 68 3 aa p17]:=by
 unfold rk at h;refine fT 2 0 Tryz.func50 Tryz.ntmps50 J ?_;refine B h λx2 hx2 h=>(X 6 2 (T.drawn mixed (k:=15) J ?_))
 apply TG 2 (bm 15 8191);intro hS1
 .refine rq [0,1,2,4,5,6] 9 (rL [3,8,9,10,11,13,14] 3 J (rL [7,8,9,10,11,13,14] 7 J (ra2 8 12 ?_ ?_)))
  .exact oO J (cG [] 3 5 (TR (m6 hx2)) ⟨J,(rq [9,10,11] 3 (ra1 12 (og 8 ⟨J,(raE hS1)⟩)))⟩)
  .exact og 3 ⟨J,(ra1 8 (oO J (cG [] 4 5 (TR (m6 hx2)) ⟨J,(rq [9,10,11] 2 (raV hS1 [0,1,2,4,5,6,7,8,3] J))⟩)))⟩
 refine ra1 13 (og 9 ⟨J,(rq [14] 0 (RA.done (by decide+kernel) (X 10 9 (T.fC 3 (T.fC 4 (T.fC 5 (T.fC 6 (T.fC 7 ?_))))))))⟩);refine itr (λfe:Int×Int×(U Int)×(U (U Item))×(U Memory)×(U Choice)×(U Item)=>mkA 65 [(0,.ptr 0 0),(2,.ptr 2 0),(4,.ptr 3 0),(6,iI fe.1),(25,iI fe.2.1)]) (λfe=>[.box [sL an p0,iI p1,iI p2,sL (ai aa) p3,sL aj p4,sL (ai aa) p5,sL aC p6,sL ao p7,sL aa p8,sL aT p9,sL be p10,iI p11,iI p12,iI p13,iI p14,iI p15,.ref 1,.bool p16],aR 68 3 aa p17,.box [.nils,.nils,.nils,.nils,.nils],.box [sL aj fe.2.2.1,sL (ai aa) fe.2.2.2.1,sL aC fe.2.2.2.2.1,sL ao fe.2.2.2.2.2.1,sL aa fe.2.2.2.2.2.2]]) h (wk [] [0,1,2,8] 9 J) (λfe v_38 h Ra=>?_);obtain⟨s3,s4,s5,s6,s7,s8,s9⟩:=fe;replace h:oQ p0 p1 p2 p3 p9 p10 s3 s4 s5 s6 s7 s8 s9=some v_38:=h;try dsimp only
 unfold oQ at h;refine X 5 4 (TH h J (λjm h=>?_) (λjm h=>?_))
 .refine B h λx11 bw h=>(X 15 4 (sO (cF (JO bw) ⟨J,(Y 9 4 (j1 [(0,.ptr 0 0),(2,.ptr 2 0),(4,.ptr 3 0),(6,iI s3),(8,.str x11.1),(9,iI x11.2.1),(25,iI s4),(44,.bool ((x11.2.2 !=0)||decide (x11.2.1<=s3)))] [.box [sL an p0,iI p1,iI p2,sL (ai aa) p3,sL aj p4,sL (ai aa) p5,sL aC p6,sL ao p7,sL aa p8,sL aT p9,sL be p10,iI p11,iI p12,iI p13,iI p14,iI p15,.ref 1,.bool p16],aR 68 3 aa p17,.box [.nils,.nils,.nils,.nils,.nils],.box [sL aj s5,sL (ai aa) s6,sL aC s7,sL ao s8,sL aa s9]] ?_ (λhK=>?_)))⟩)))
  .refine TH h J (λtJ h=>?_) (λtJ h=>?_)
   .exact X 5 4 (lk h (wk [] [0,1,2,3] 4 J))
   refine B h λx14 cm h=>(X 2 4 (T.drawn mixed (k:=16) J ?_))
   apply TG 2 (bm 16 16383);intro lp
   .refine rq [0,1,2,4,5,6,8] 9 (rL [3,9,10,11,12,14,15] 3 J (rL [7,9,10,11,12,14,15] 7 J (ra2 9 13 ?_ ?_)))
    .exact oO J (cD (Cc cm) ⟨J,(rq [10,11,12] 3 (ra1 13 (og 4 ⟨J,(raE lp)⟩)))⟩)
    .exact og 4 ⟨J,(ra1 9 (oO J (cD (Cc cm) ⟨J,(rq [10,11,12] 2 (raT lp))⟩)))⟩
   refine ra1 14 (og 5 ⟨J,(rq [15] 0 (RA.done (by decide+kernel) (X 5 5 (TH h J (λzB h=>?_) (λzB h=>?_)))))⟩)
   .exact X 10 5 (lk h (wk [] [0,1,2,3] 5 J))
   exact X 5 5 (lk h (wk [] [0,1,2,3] 5 J))
  refine X 5 4 (gp 40 (λlh=>?_) (λlh=>?_))
  .refine Yp 5 4 ?_;rw[lh]at hK;exact sx hK
  refine Yp 5 4 ?_;rw[lh]at hK;exact sx hK
 refine X 1 4 ?_;replace h:=mi h Ra;refine X 7 4 ?_;cases h;exact tN [0,1]
theorem H2 {r:(U Choice)×Int}(h:ro p0=some r):FnO QbP 94 [.str p0] (.tup [.ref 0,iI r.2]) [aR 118 2 ao r.1]:=by
 unfold ro at h;refine fT 0 12 Tryz.func94 Tryz.ntmps94 J (TH h J (λah h=>?_) (λah h=>?_))
 .refine X 5 0 ?_;cases h;exact tO [(0,118,2)] [0] 0
 refine B h λx2 hx2 h=>(X 6 0 (sQ (jh J J hx2 (Y 2 0 (TH h J (λae h=>?_) (λae h=>?_))))))
 .refine X 5 0 ?_;cases h;exact tO [(0,118,2)] [0] 0
 refine X 11 0 (itr (λjo:Int×(U Choice)=>mkA 43 [(0,.str p0),(4,.ref 0),(5,iI jo.1)]) (λjo=>[aR 118 2 ao jo.2]) h (wk [(4,118,2)] [0] 0 J) (λjo v_10 h GK=>?_));obtain⟨s3,s4⟩:=jo;replace h:kj p0 s3 s4=some v_10:=h;try dsimp only
 unfold kj at h;refine X 8 1 (TH h J (λom h=>?_) (λom h=>?_))
 .refine B h λx7 hx7 h=>(B h λx8 hx8 h=>(X 4 1 (T.drawn mixed (k:=12) J (rq [0,1] 10 (r0 2 J (dq We J J hx7 (rq [3,4,5,6] 5 (r0 7 J (dq We J J hx8 (rq [8,9] 2 (ra1 10 ?_)))))))))))
  refine og 1 ⟨J,(ra1 11 (og 2 ⟨J,(RA.done (by decide+kernel) (X 1 2 (j1 [(0,.str p0),(4,.ref 0),(5,iI s3),(6,.ptr 1 0),(37,.bool ((decide ((IntKind.i64.wrap (x7.toNat:Int))>=12))||decide ((IntKind.i64.wrap (x8.toNat:Int))>=16)))] [aR 118 2 ao s4,.box [iI (IntKind.i64.wrap (x7.toNat:Int)),iI (IntKind.i64.wrap (x8.toNat:Int))]] ?_ (λhK=>?_))))⟩))⟩
  .refine TH h J (λzi h=>?_) (λzi h=>?_)
   .refine X 5 2 ?_;replace h:=mi h GK;cases h;exact tO [(0,118,2)] [2] 2
   refine B h λx10 aY h=>(X 4 2 (sO (bi (rows:=List.map ao [(⟨IntKind.i64.wrap (x7.toNat:Int),IntKind.i64.wrap (x8.toNat:Int)⟩:Choice)]) (vs:=[.agg [iI (IntKind.i64.wrap (x7.toNat:Int)),iI (IntKind.i64.wrap (x8.toNat:Int))]]) TN Ur J J J J J J (sO (bU (en:=ao) (xs:=s4) (ys:=([(⟨IntKind.i64.wrap (x7.toNat:Int),IntKind.i64.wrap (x8.toNat:Int)⟩:Choice)]:U Choice)) TN (λ_=>J) J J J aY J J (Y 7 4 ?_))))))
   exact lk h (wk [] [3] 4 J)
  refine X 6 2 (gp 33 (λgC=>?_) (λgC=>?_))
  .refine Yp 5 2 ?_;rw[gC]at hK;exact sx hK
  refine Yp 5 2 ?_;rw[gC]at hK;exact sx hK
 refine X 1 1 ?_;replace h:=mi h GK;refine X 6 1 ?_;cases h;exact tO [] [0] 1
end
end
section
open Go.RowKit
section
variable {P:Program} {N n:Nat} {l:List (Nat×AV)} {aw:List Ob} {K2:AV→List Ob→Prop} {d:Option Tmp} {ty:TypeId} {ps:String} {af:Array Edge} {gd:Option (Nat×Bool)}
variable {t t2:TypeId}{x y:Operand}{a b:Array TypeId}{v:Bool}
theorem n7 {f:FuncId}{c:U AV}(hu:P.underlying t=some (.func a b v))(hx:evA n l x=.func f c)(hy:evA n l y=.nilf)(h:K2 (.bool false) aw):OP P N ⟨d,.binOp .eql t x y t2,ty,ps,af,gd⟩ (mkA n l) aw K2:=
 TP (λσ w F ac har hs=>by
  have ex:=har.ev x;have ey:=har.ev y;rw[aF,hx]at ex;rw[aF,hy]at ey;generalize hvx:ac.eval x=vx at ex;generalize hvy:ac.eval y=vy at ey;cases ey;cases ex with
  |func _ _ us=>
   refine⟨.bool false,_,w,aw,σ,F,_,?_,.inl J,hs,.refl ..,.bool false,h⟩;have he:=λf p q=>eq_fn (P:=P) hu f p q w
   simp[execOp,hvx,hvy,eqGuard,binOp,Sem.run_bind,he])
theorem P4 (hu:P.underlying t=some (.func a b v))(hx:evA n l x=.nilf)(hy:evA n l y=.nilf)(h:K2 (.bool true) aw):OP P N ⟨d,.binOp .eql t x y t2,ty,ps,af,gd⟩ (mkA n l) aw K2:=
 TP (λσ w F ac har hs=>by have ex:=har.ev x;have ey:=har.ev y;rw[aF,hx]at ex;rw[aF,hy]at ey;generalize hvx:ac.eval x=vx at ex;generalize hvy:ac.eval y=vy at ey;cases ey;cases ex;refine⟨.bool true,_,w,aw,σ,F,_,?_,.inl J,hs,.refl ..,.bool true,h⟩;have he:=eq_nf (P:=P) hu w;simp[execOp,hvx,hvy,eqGuard,binOp,Sem.run_bind,he])
end
end
section
open Go.RowKit
set_option maxRecDepth 100000
set_option maxHeartbeats 4000000
set_option synthInstance.maxSize 100000
set_option synthInstance.maxHeartbeats 4000000
section
variable {p0:Net}{p1:U Node}{p2 p3 p12 p13 p14 p15 p16:Int}{r p17:Bool}{p4 p8:U Choice}{p5:U Int}{p6:U (U Item)}{p7:U Memory}{p9 p18:U Item}{p10:U (U UInt8)}{p11:U Write}
theorem Am {p0:Int}{p1:U (U UInt8)}{p2:U Write}{r:U Choice}(h:oX p0 p1 p2 p3=some r):FnX QbP 92 [iI p0,.ptr 0 0,.ptr 1 0] [.box [sL aT p1,sL be p2],.box [iI p3]] (.ref 2) [.box [sL aT p1,sL be p2],.box [iI p3],aR 118 2 ao r]:=by
 unfold oX at h;refine fT 2 10 Tryz.func92 Tryz.ntmps92 J (sQ (al TW J (Y 2 2 (TH h J (λah h=>?_) (λah h=>?_)))))
 .refine X 4 2 ?_;cases h;exact tO [(0,118,2)] [0,1,2] 2
 refine B h λx3 hx3 h=>(B h λx4 hx4 h=>(X 6 2 (sQ (aG TW (λ_=>J) J J hx3 (Y 1 2 (sO (cO 2 (AP hx4) ⟨J,(Y 9 3 ?_)⟩)))))))
 obtain⟨tZ,hz,h⟩:=bind_some h;revert hz h;revert tZ;intro c9 hz h;refine j1 [(5,.ref 2),(46,.bool c9)] [.box [sL aT p1,sL be p2],.box [iI p3],aR 9 1 aT x4.1] ?_ (λhK=>?_)
 .refine TH h J (λaN h=>?_) (λaN h=>?_)
  .refine X 4 3 ?_;cases h;exact tO [(0,118,2)] [0,1,3] 3
  refine B h λx14 cm h=>(B h λx15 dY h=>(B h λx16 e6 h=>(B h λx17 cE h=>(X 4 3 (sQ (aM (en:=aT) TW J J J cm (sO (aO (en:=aT) (a:=x15) J J dY (aI UC (c:=.str x15) J (sO (ng We J J J e6 (sO (cO 3 (H2 cE) ⟨J,(Y 11 4 ?_)⟩)))))))))))))
  cases h;exact tO [] [0,1,3] 4
 refine X 1 3 ?_;rcases bC (((x4.1).length:Int)!=1)with ae|ae
 .replace hz:=cb hz ae;refine T.drawn mixed (k:=22) J (rq [0] 21 (r0 1 J (cn (en:=aT) TW J J (rq [2,3] 18 (r2 4 J ae (r2 5 J ae (r2 6 J ae (r2 7 J ae (r2 8 J ae (r2 9 J ae ?_))))))))));refine r2 10 J ae (r2 11 J ae (r0 12 J (br (v:=.bool true) J ae J (rq [13] 8 (r2 14 J J (r2 15 J J (r2 16 J J (r2 17 J J (r2 18 J J (r2 19 J J ?_))))))))));exact r2 20 J J (r0 21 J (br (v:=.bool true) J J J (RA.done (by decide+kernel) (T.sub hK ⟨J,(congrArg AV.bool ((congrArg (λp=>p) (RR hz)).symm)).symm,tqz⟩))))
 replace hz:=cg hz ae;refine B hz λx5 hx5 hz=>?_
 rcases bC (x4.2.1 !=((x5).length:Int))with aq|aq
 .replace hz:=cb hz aq;refine T.drawn mixed (k:=22) J (rq [0] 21 (r0 1 J (cn (en:=aT) TW J J (rq [2,3] 18 (ry 4 ae J (ry 5 ae J (ry 7 ae J (ra1 6 (oy 3 ae J (r1 8 J ae (aG TW (λ_=>J) J J hx5 ?_)))))))))));refine ra1 9 (oy 3 ae J (ry 10 ae J (ry 11 ae J (r0 12 J (bd (v:=.bool (x4.2.1 !=((x5).length:Int))) J ae J (rq [13] 8 (r2 14 J aq (r2 15 J aq (r2 16 J aq (r2 17 J aq ?_))))))))));exact r2 18 J aq (r2 19 J aq (r2 20 J aq (r0 21 J (br (v:=.bool true) J aq J (RA.done (by decide+kernel) (T.sub hK ⟨J,(congrArg AV.bool ((congrArg (λp=>p) (RR hz)).symm)).symm,tqz⟩))))))
 replace hz:=cg hz aq;refine B hz λx6 hx6 hz=>(B hz λx7 hx7 hz=>(B hz λx8 hx8 hz=>(T.drawn mixed (k:=22) J ?_)))
 apply TG 0 (bm 22 4194303);intro hS6
 .refine rq [0] 21 (r0 1 J (cn (en:=aT) TW J J (rq [2,3] 18 (ry 4 ae J (ry 5 ae J (ry 7 ae J (ra1 6 (oy 3 ae J (r1 8 J ae (aG TW (λ_=>J) J J hx5 (ra1 9 ?_)))))))))));refine oy 3 ae J (ry 10 ae J (ry 11 ae J (r0 12 J (bd (v:=.bool (x4.2.1 !=((x5).length:Int))) J ae J (rq [13] 8 (ry 14 aq J (r1 15 J aq (aM (en:=aT) TW J J J hx6 (ra2 16 19 ?_ ?_)))))))))
  .exact oP J aq (aO (en:=aT) (a:=x7) J J hx7 (aI UC (c:=.str x7) J (r1 17 J aq (dq We J J hx8 (ry 18 aq J (ra1 19 (oy 3 aq J (ry 20 aq J (r0 21 J (bd (v:=.bool ((IntKind.i64.wrap (x8.toNat:Int))!=p3)) J aq J (raE hS6)))))))))))
  .exact oy 3 aq J (ra1 16 (oP J aq (aO (en:=aT) (a:=x7) J J hx7 (aI UC (c:=.str x7) J (r1 17 J aq (dq We J J hx8 (ry 18 aq J (ry 20 aq J (r0 21 J (bd (v:=.bool ((IntKind.i64.wrap (x8.toNat:Int))!=p3)) J aq J (raT hS6)))))))))))
 exact RA.done (by decide+kernel) (T.sub hK ⟨J,(congrArg AV.bool ((congrArg (λp=>p) (RR hz)).symm)).symm,tqz⟩)
theorem Jn {p0:Disk}{p1:Int}{r:(U Choice)×Int×Int}(h:pQ p0 p1=some r):FnO QbP 51 [.agg (cw p0),iI p1] (.tup [.ref 0,iI r.2.1,iI r.2.2]) [aR 118 2 ao r.1]:=by
 unfold pQ at h;refine fT 0 0 Tryz.func51 Tryz.ntmps51 J ?_;refine B h λx2 hx2 h=>(X 12 0 (sO (cF (nc hx2) ⟨J,(Y 7 2 (TH h J (λah h=>?_) (λah h=>?_)))⟩)))
 .refine X 7 2 ?_;cases h;exact tO [(0,118,2)] [2] 2
 refine X 2 2 (j1 [(2,.ptr 0 0),(3,.ptr 1 0),(4,.nils),(5,iI 0),(20,.bool ((decide (p1<0))||decide (p1> 200)))] [.box (cw p0),.box [iI p1]] ?_ (λhK=>?_))
 .refine TH h J (λaq h=>?_) (λaq h=>?_)
  .refine X 6 2 ?_;cases h;exact tO [(0,118,2)] [2] 2
  refine B h λx5 hx5 h=>(X 10 2 (sO (cG [0,1] 2 3 (Am hx5) ⟨J,(Y 3 3 (itr (λbO:Int×(U Choice)×(U Choice)=>mkA 38 [(4,.ref 0),(5,iI bO.1),(8,.func 92 [.ptr 1 0,.ptr 2 0]),(9,.ref 3)]) (λbO=>[aR 118 2 ao bO.2.1,.box (cw p0),.box [iI p1],aR 118 2 ao bO.2.2]) h (wk [(4,118,2)] [3,0,1,2] 3 J) (λbO v_7 h ir=>?_)))⟩)))
  obtain⟨s6,s7,s8⟩:=bO;replace h:ku p0 p1 s6 s7 s8=some v_7:=h;try dsimp only
  unfold ku at h;refine X 4 4 (sQ (cn (en:=ao) TN J J (Y 2 4 (TH h J (λbF h=>?_) (λbF h=>?_)))))
  .exact B h λx10 aY h=>(X 7 4 (sO (bU (en:=ao) (xs:=s7) (ys:=s8) TN (λ_=>J) J J J aY J J (B h λx11 bw h=>(Y 11 5 (sO (cG [1,2] 5 3 (Am bw) ⟨J,(Y 2 6 (lk h (wk [] [4,1,2,5] 6 J)))⟩)))))))
  refine X 1 4 ?_;replace h:=mi h ir;refine X 8 4 ?_;cases h;exact tO [] [0] 4
 refine X 5 2 (gp 17 (λae=>?_) (λae=>?_))
 .refine Yp 4 2 ?_;rw[ae]at hK;exact sx hK
 refine Yp 4 2 ?_;rw[ae]at hK;exact sx hK
theorem uK {p1:U Choice}{r:Int}(h:kr p0 p1=some r):Fn QbP 30 [.agg (aK p0),sL ao p1] (iI r):=by
 unfold kr at h;refine fT 0 0 Tryz.func30 Tryz.ntmps30 J ?_;refine B h λx2 hx2 h=>(X 9 0 (sO (cF (Bb hx2) ⟨J,(Y 7 1 (TH h J (λah h=>?_) (λah h=>?_)))⟩)))
 .refine X 5 1 ?_;cases h;exact tD
 refine X 5 1 (sQ (al TN J (Y 2 1 (TH h J (λae h=>?_) (λae h=>?_)))))
 .refine X 4 1 ?_;cases h;exact tD
 refine X 5 1 (sQ (al TN J (Y 3 1 (itr (λdG:Int=>mkA 60 [(2,.ptr 0 0),(16,sL ao p1),(17,iI ((p1).length:Int)),(18,iI dG)]) (λdG=>[.box (aK p0)]) h (wk [] [0] 1 J) (λdG v_30 h gZ=>?_)))));revert gZ h;revert dG;intro s3 h gZ;replace h:rC p0 p1 s3=some v_30:=h;try dsimp only
 unfold rC at h;refine X 5 1 (TH h J (λot h=>?_) (λot h=>?_))
 .refine B h λx5 hx5 h=>(X 5 1 (sQ (aG TN (λ_=>J) J J hx5 (Y 5 1 ?_))))
  obtain⟨Rb,hz,h⟩:=bind_some h;revert hz h;revert Rb;intro c7 hz h;refine j1 [(2,.ptr 0 0),(7,.ptr 1 0),(16,sL ao p1),(17,iI ((p1).length:Int)),(18,iI s3),(42,.bool c7)] [.box (aK p0),.box (ao x5)] ?_ (λhK=>?_)
  .refine TH h J (λtP h=>?_) (λtP h=>?_)
   .refine X 4 2 ?_;replace h:=mi h gZ;cases h;exact tD
   refine X 1 2 ?_;obtain⟨Rc,hz,h⟩:=bind_some h;revert hz h;revert Rc;intro c9 hz h;refine j1 [(2,.ptr 0 0),(16,sL ao p1),(17,iI ((p1).length:Int)),(18,iI s3),(58,.bool c9)] [.box (aK p0)] ?_ (λhK=>?_)
   .refine TH h J (λjm h=>?_) (λjm h=>?_)
    .refine X 4 1 ?_;replace h:=mi h gZ;cases h;exact tD
    exact X 5 1 (lk h (wk [] [0] 1 J))
   refine X 1 2 ?_;rcases bC (decide (x5.Lane<0))with ba|ba
   .replace hz:=cb hz ba;refine T.drawn mixed (k:=16) J (rq [0] 15 (ra1 1 (og 2 ⟨J,(rq [2,3] 12 (r2 4 J ba (r2 5 J ba (r2 6 J ba (r2 7 J ba (r2 8 J ba ?_))))))⟩)));exact r2 9 J ba (r2 10 J ba (r2 11 J ba (r2 12 J ba (r2 13 J ba (r2 14 J ba (r0 15 J (br (v:=.bool true) J ba J (RA.done (by decide+kernel) (T.weakR hK (TS [] [0] (by decide) (b8 _) J ⟨am J,rn_s J,cS J,cS J,f7 ((congrArg (λp=>p) (RR hz)).symm),tqz⟩ (eV (aK p0) J (au))))))))))))
   replace hz:=cg hz ba;refine B hz λx8 hx8 hz=>(T.drawn mixed (k:=16) J ?_)
   apply TG 0 (bm 16 65535);intro uc;apply TG 4 (bm 16 4095);intro lp;apply TG 5 (bm 16 4063);intro ub;apply TG 7 (bm 16 895);intro G8;apply TG 7 (bm 16 511);intro G9
   .refine rq [0] 15 (ra1 1 (og 2 ⟨J,(rq [2,3] 12 (ry 4 ba J (ry 6 ba J (ry 8 ba J (ra3 5 7 9 ?_ ?_ ?_)))))⟩))
    .refine oy 2 ba J (ra2 7 9 ?_ ?_)
     .exact oy 2 ba J (raE G9)
     .exact oy 2 ba J (raE G8)
    .refine oy 2 ba J (ra2 5 9 ?_ ?_)
     .exact oy 2 ba J (raT G9)
     .exact oy 2 ba J (r1 10 J ba (aG TJ (λ_=>J) J J hx8 (ry 11 ba J (raE ub))))
    .refine oy 2 ba J (ra2 5 7 ?_ ?_)
     .exact oy 2 ba J (raT G8)
     .exact oy 2 ba J (r1 10 J ba (aG TJ (λ_=>J) J J hx8 (ry 11 ba J (raT ub))))
   .exact ra1 9 (oy 2 ba J (r1 10 J ba (aG TJ (λ_=>J) J J hx8 (ry 11 ba J (raE lp)))))
   .exact ra1 7 (oy 2 ba J (r1 10 J ba (aG TJ (λ_=>J) J J hx8 (ry 11 ba J (raT lp)))))
   .refine ra2 5 12 ?_ ?_
    .exact oy 2 ba J (raT lp)
    .exact oy 2 ba J (r1 13 J ba (al TK J (ra1 5 (oy 2 ba J (ry 14 ba J (r0 15 J (bd (v:=.bool (decide (x5.Lane>=((x8.In).length:Int)))) J ba J (raE uc))))))))
   .exact ra1 12 (oy 2 ba J (r1 13 J ba (al TK J (ry 14 ba J (r0 15 J (bd (v:=.bool (decide (x5.Lane>=((x8.In).length:Int)))) J ba J (raT uc)))))))
   exact RA.done (by decide+kernel) (T.weakR hK (TS [] [0] (by decide) (b8 _) J ⟨am J,rn_s J,cS J,cS J,f7 ((congrArg (λp=>p) (RR hz)).symm),tqz⟩ (eV (aK p0) J (au))))
  refine X 6 2 (gi 25 hz (λeZ hz=>?_) (λeZ hz=>?_))
  .refine Yp 18 2 ?_;cases hz;exact sx hK
  refine Y 4 2 (yQ J (al TJ J (Yp 3 2 (gi 33 hz (λj7 hz=>?_) (λj7 hz=>?_)))))
  .refine Yp 10 2 ?_;cases hz;exact sx hK
  refine B hz λx6 hx6 hz=>(Y 4 2 (yQ J (aG TJ (λ_=>J) J J hx6 (Yp 5 2 ?_))))
  cases hz;exact sx hK
 refine X 1 1 ?_;replace h:=mi h gZ;refine X 4 1 ?_;cases h;exact tD
theorem HF {p0:Move}(h:re p0 p1 p2 p3 p4=some r):FnX QbP 96 [.agg (aH p0),.ptr 0 0,.ptr 1 0] [.box [sL an p1,iI p2,iI p3],.box [sL ao p4]] (.bool r) [.box [sL an p1,iI p2,iI p3],.box [sL ao p4]]:=by
 unfold re at h;refine fT 2 0 Tryz.func96 Tryz.ntmps96 J ?_;refine B h λx1 hx1 h=>(X 5 2 ?_)
 obtain⟨z7,hz,h⟩:=bind_some h;revert hz h;revert z7;intro c4 hz h;refine j1 [(4,.bool c4)] [.box [sL an p1,iI p2,iI p3],.box [sL ao p4]] ?_ (λhK=>?_)
 .cases h;exact tN [0,1]
 refine X 1 3 ?_;rcases bC (x1.Kind !=6)with ah|ah
 .replace hz:=cb hz ah;refine T.drawn mixed (k:=27) J (rq [0,2] 25 (rL [1,4,5,6,7,8,9,10,11,12,13,14,15,16,17,18,19,20,21,22,23,24,25,26] 1 J (ra1 3 (og 3 ⟨J,(r0 4 J (aG TJ (λ_=>J) J J hx1 (rq [5] 21 (ra1 6 (og 3 ⟨J,(rq [7,8] 18 ?_)⟩)))))⟩))));refine r2 9 J ah (r2 10 J ah (r2 11 J ah (r2 12 J ah (r2 13 J ah (r2 14 J ah (r2 15 J ah (r2 16 J ah (r3 17 J (r3 18 J ?_)))))))));exact r3 19 J (r3 20 J (r3 21 J (r3 22 J (r3 23 J (r2 24 J ah (r0 25 J (br (v:=.bool true) J ah J (rq [26] 0 (RA.done (by decide+kernel) (T.weakR hK (TS [] [0,1] (by decide) (by decide) J ⟨f7 ((congrArg (λp=>p) (RR hz)).symm),tqz⟩ (eV [sL an p1,iI p2,iI p3] J (eV [sL ao p4] J (au))))))))))))))
 replace hz:=cg hz ah;refine B hz λx2 hx2 hz=>?_
 rcases bC (p0.Node==x2.Node)with ae|ae
 .replace hz:=cb hz ae;refine B hz λx3 hx3 hz=>(T.drawn mixed (k:=27) J ?_)
  apply TG 0 (bm 27 134217727);intro hS4;apply TG 5 (bm 27 4194303);intro hS5;apply TG 9 (bm 27 262143);intro hS6;apply TG 13 (bm 27 16383);intro hS7
  .refine rq [0,2] 25 (rL [1,4,5,6,7,8,9,10,11,12,13,14,15,16,17,18,19,20,21,22,23,24,25,26] 1 J (ra1 3 (og 3 ⟨J,(r0 4 J (aG TJ (λ_=>J) J J hx1 (rq [5] 21 (ra1 6 (og 3 ⟨J,(rq [7,8] 18 (ry 9 ah J ?_))⟩)))))⟩)));refine ra2 10 11 ?_ ?_
   .exact oy 3 ah J (ra1 11 (oy 3 ah J (r1 12 J ah (aG TN (λ_=>J) J J hx2 (ry 13 ah J (raE hS7))))))
   .refine oy 3 ah J (r1 12 J ah (aG TN (λ_=>J) J J hx2 (ry 13 ah J (ra2 10 14 ?_ ?_))))
    .exact oy 3 ah J (raT hS7)
    .exact oy 3 ah J (ra1 10 (oy 3 ah J (ry 15 ah J (ry 16 ah J (ry 17 ae J (raE hS6))))))
  .exact ra1 14 (oy 3 ah J (ry 15 ah J (ry 16 ah J (ry 17 ae J (raT hS6)))))
  .refine ra2 18 19 ?_ ?_
   .exact oy 3 ae J (ra1 19 (oy 3 ae J (r1 20 J ae (aG TN (λ_=>J) J J hx3 (ry 21 ae J (raE hS5))))))
   .refine oy 3 ae J (r1 20 J ae (aG TN (λ_=>J) J J hx3 (ry 21 ae J (ra2 18 22 ?_ ?_))))
    .exact oy 3 ae J (raT hS5)
    .exact oy 3 ae J (ra1 18 (oy 3 ae J (ry 23 ae J (r1 24 J ah (br (v:=.bool (p0.Lane==x3.Lane)) J ae J (r0 25 J (bd (v:=.bool (p0.Lane==x3.Lane)) J ah J (rq [26] 0 (raE hS4)))))))))
  .exact ra1 22 (oy 3 ae J (ry 23 ae J (r1 24 J ah (br (v:=.bool (p0.Lane==x3.Lane)) J ae J (r0 25 J (bd (v:=.bool (p0.Lane==x3.Lane)) J ah J (rq [26] 0 (raT hS4))))))))
  exact RA.done (by decide+kernel) (T.weakR hK (TS [] [0,1] (by decide) (by decide) J ⟨f7 ((congrArg (λp=>p) (RR hz)).symm),tqz⟩ (eV [sL an p1,iI p2,iI p3] J (eV [sL ao p4] J (au)))))
 replace hz:=cg hz ae;refine T.drawn mixed (k:=27) J ?_;apply TG 0 (bm 27 134217727);intro hS8;apply TG 13 (bm 27 16383);intro hS9
 .refine rq [0,2] 25 (rL [1,4,5,6,7,8,9,10,11,12,13,14,15,16,17,18,19,20,21,22,23,24,25,26] 1 J (ra1 3 (og 3 ⟨J,(r0 4 J (aG TJ (λ_=>J) J J hx1 (rq [5] 21 (ra1 6 (og 3 ⟨J,(rq [7,8] 18 (ry 9 ah J ?_))⟩)))))⟩)));refine ra2 10 11 ?_ ?_
  .exact oy 3 ah J (ra1 11 (oy 3 ah J (r1 12 J ah (aG TN (λ_=>J) J J hx2 (ry 13 ah J (raE hS9))))))
  .refine oy 3 ah J (r1 12 J ah (aG TN (λ_=>J) J J hx2 (ry 13 ah J (ra2 10 14 ?_ ?_))))
   .exact oy 3 ah J (raT hS9)
   .refine oy 3 ah J (ra1 10 (oy 3 ah J (ry 15 ah J (ry 16 ah J (r2 17 J ae (r2 18 J ae (r2 19 J ae (r2 20 J ae (r2 21 J ae ?_)))))))));exact r2 22 J ae (r2 23 J ae (r1 24 J ah (bd (v:=.bool false) J ae J (r0 25 J (bd (v:=.bool false) J ah J (rq [26] 0 (raE hS8)))))))
 .refine ra1 14 (oy 3 ah J (ry 15 ah J (ry 16 ah J (r2 17 J ae (r2 18 J ae (r2 19 J ae (r2 20 J ae (r2 21 J ae (r2 22 J ae ?_)))))))));exact r2 23 J ae (r1 24 J ah (bd (v:=.bool false) J ae J (r0 25 J (bd (v:=.bool false) J ah J (rq [26] 0 (raT hS8))))))
 exact RA.done (by decide+kernel) (T.weakR hK (TS [] [0,1] (by decide) (by decide) J ⟨f7 ((congrArg (λp=>p) (RR hz)).symm),tqz⟩ (eV [sL an p1,iI p2,iI p3] J (eV [sL ao p4] J (au)))))
theorem Hw {p0:U Move}{r:Int}(h:q6 p0 p1 p2 p3 p4=some r):FnX QbP 95 [.ref 0,.func 96 [.ptr 1 0,.ptr 2 0]] [aR 78 2 aH p0,.box [sL an p1,iI p2,iI p3],.box [sL ao p4]] (iI r) [aR 78 2 aH p0,.box [sL an p1,iI p2,iI p3],.box [sL ao p4]]:=by
 unfold q6 at h;refine fT 3 8 Ww Wx J (sQ (cn (en:=aH) TU J J (Y 3 3 (itr (λak:Int=>mkA 19 [(0,.ref 0),(1,.func 96 [.ptr 1 0,.ptr 2 0]),(7,iI ((p0).length:Int)),(8,iI ak)]) (λak=>[aR 78 2 aH p0,.box [sL an p1,iI p2,iI p3],.box [sL ao p4]]) h (wk [] [0,1,2] 3 J) (λak v_6 h bg=>?_)))));revert bg h;revert ak;intro s1 h bg;replace h:qW p0 p1 p2 p3 p4 s1=some v_6:=h;try dsimp only
 unfold qW at h;refine X 5 3 (TH h J (λbH h=>?_) (λbH h=>?_))
 .refine B h λx5 hx5 h=>(B h λx6 hx6 h=>(B h λx7 hx7 h=>(X 13 3 (sQ (aM (en:=aH) TU J J J hx5 (sO (aO (en:=aH) (a:=x6) J J hx6 (eS Ub T8 J (cs:=(aH x6)) J (sO (cG [1,2] 3 2 (HF hx7) ⟨J,(Y 1 3 (TH h J (λbF h=>?_) (λbF h=>?_)))⟩))))))))))
  .refine X 5 3 ?_;replace h:=mi h bg;cases h;exact tN [0,1,2]
  exact X 5 3 (lk h (wk [] [0,1,2] 3 J))
 refine X 1 3 ?_;replace h:=mi h bg;refine X 4 3 ?_;cases h;exact tN [0,1,2]
theorem IB {p1:U (U Item)}{p2:State}{p3:U Choice}{r:State×Int}(h:pq p0 p1 p2 p3=some r):Fn QbP 52 [.agg (aK p0),sL (ai aa) p1,.agg (bE p2),sL ao p3] (.tup [.agg (bE r.1),iI r.2]):=by
 unfold pq at h;refine fT 0 13 Tryz.func52 Tryz.ntmps52 J (sQ (al TN J (Y 1 4 (sQ (al TN J (Y 3 4 (TH h J (λah h=>?_) (λah h=>?_))))))))
 .refine X 6 4 ?_;cases h;exact tD
 refine X 3 4 (itr (λcj:(U Int)×(U (U Item))×(U Memory)×(U Choice)×(U Item)×(U Choice)=>mkA 62 [(1,sL (ai aa) p1),(4,.ptr 0 0),(6,.ptr 1 0),(7,.ptr 2 0),(8,.ptr 3 0)]) (λcj=>[.box (aK p0),.box [sL aj cj.1,sL (ai aa) cj.2.1,sL aC cj.2.2.1,sL ao cj.2.2.2.1,sL aa cj.2.2.2.2.1],.box [sL ao cj.2.2.2.2.2],.box [.nils,.nils,.nils,.nils,.nils]]) h (wk [] [0,1,2,3] 4 J) (λcj v_13 h lj=>?_));obtain⟨s1,s2,s3,s4,s5,s6⟩:=cj;replace h:mW p0 p1 s1 s2 s3 s4 s5 s6=some v_13:=h;try dsimp only
 unfold mW at h;refine X 4 4 (sQ (al TN J (Y 2 4 (TH h J (λox h=>?_) (λox h=>?_)))))
 .refine B h λx8 hx8 h=>(X 7 4 (sO (cO 4 (rQ hx8) ⟨J,(B h λx10 aY h=>(Y 10 5 (sO (cG [4,0,2] 5 3 (Hw aY) ⟨J,(Y 8 5 (TH h J (λfY h=>?_) (λfY h=>?_)))⟩))))⟩)))
  .refine X 6 5 ?_;replace h:=mi h lj;cases h;exact tD
  refine X 1 5 (jn (Z:=U Choice) (λqz=>mkA 62 [(1,sL (ai aa) p1),(4,.ptr 0 0),(6,.ptr 1 0),(7,.ptr 2 0),(8,.ptr 3 0),(10,.ref 4),(12,iI x10)]) (λqz=>[.box (aK p0),.box [sL aj s1,sL (ai aa) s2,sL aC s3,sL ao s4,sL aa s5],.box [sL ao qz],.box [.nils,.nils,.nils,.nils,.nils],aR 78 2 aH x8.1]) (λqz=>mV p0 p1 s1 s2 s3 s4 s5 x8 x10 qz=some v_13) (λqz h=>?_) (λhK1=>?_))
  .revert h;revert qz;intro z18 h;replace h:mV p0 p1 s1 s2 s3 s4 s5 x8 x10 z18=some v_13:=h;try dsimp only
   unfold mV at h;refine B h λx19 cU h=>(B h λx20 ee h=>(B h λx21 ju h=>(T.drawn mixed (k:=12) J (rq [1,3,4] 9 (r0 5 J (aM (en:=aH) TU J J J cU (rL [0,7,8,9,10,11] 0 J (rL [2,7,8,9,10,11] 2 J (ra1 6 (oO J (aO (en:=aH) (a:=x20) J J ee (eS Ub T8 J (cs:=(aH x20)) J ?_))))))))))))
   exact ra1 7 (oO J (cD (nE ju) ⟨J,(rq [8,9,10] 1 (ra1 11 (og 5 ⟨J,(RA.done (by decide+kernel) (lk h (wk [] [0,1,2,3] 5 J)))⟩)))⟩))
  refine B h λx14 cm h=>(B h λx15 dY h=>(B h λx16 e6 h=>(X 2 5 (T.drawn mixed (k:=11) J (rq [0,2,3] 8 (r0 4 J (aM (en:=aH) TU J J J cm (rq [5] 6 (rL [1,7,8,9,10] 1 J (ra1 6 ?_))))))))))
  refine oO J (aO (en:=aH) (a:=x15) J J dY (aI Um (c:=iI x15.Node) J (r0 7 J (aG TJ (λ_=>J) J J e6 (rq [8] 2 (ra1 9 (og 5 ⟨J,(rq [10] 0 (RA.done (by decide+kernel) (TH h J (λda h=>?_) (λda h=>?_))))⟩)))))))
  .exact B h λx17 cE h=>(X 2 5 (sO (nA TN (λ_=>J) J J J cE (Y 2 5 (sx (hK1 x17 h))))))
  exact X 1 5 (sx (hK1 s6 h))
 refine X 1 4 ?_;replace h:=mi h lj;refine X 6 4 ?_;cases h;exact tD
theorem Im {p0:Int}{p4:U (U Item)}{r:Int×(U Int)×(U (U Item))×(U Memory)×(U Choice)×(U Item)×Int×Int×Int×Int×Bool}(h:rG p0 p1 p2 p3 p4 p5 p6 p7 p8 p9 p10 p11 p12 p13 p14 p15 p16 p17 p18=some r):FnX QbP 23 [.ptr 0 0,iI p0] [.box [sL an p1,iI p2,iI p3,sL (ai aa) p4,sL aj p5,sL (ai aa) p6,sL aC p7,sL ao p8,sL aa p9,sL aT p10,sL be p11,iI p12,iI p13,iI p14,iI p15,iI p16,.ref 1,.bool p17],aR 68 3 aa p18] (iI r.1) [.box [sL an p1,iI p2,iI p3,sL (ai aa) p4,sL aj r.2.1,sL (ai aa) r.2.2.1,sL aC r.2.2.2.1,sL ao r.2.2.2.2.1,sL aa r.2.2.2.2.2.1,sL aT p10,sL be p11,iI r.2.2.2.2.2.2.1,iI r.2.2.2.2.2.2.2.1,iI r.2.2.2.2.2.2.2.2.1,iI p15,iI r.2.2.2.2.2.2.2.2.2.1,.ref 1,.bool r.2.2.2.2.2.2.2.2.2.2],aR 68 3 aa p18]:=by
 unfold rG at h;refine fT 2 0 Tryz.func23 Tryz.ntmps23 J ?_;refine B h λx2 hx2 h=>(X 7 2 (sO (cG [0,1] 2 2 (HM hx2) ⟨J,(B h λx4 hx4 h=>(Y 14 2 (sO (cO 3 (Jn hx4) ⟨J,(Y 14 4 (TH h J (λah h=>?_) (λah h=>?_)))⟩))))⟩)))
 .refine X 5 4 ?_;cases h;exact tN [0,1]
 refine B h λx6 hx6 h=>(X 9 4 (sO (cF (uK hx6) ⟨J,(Y 7 4 (TH h J (λae h=>?_) (λae h=>?_)))⟩)))
 .refine X 5 4 ?_;cases h;exact tN [0,1]
 refine B h λx10 aY h=>(X 3 4 (T.drawn mixed (k:=16) J (rq [0,1,2,4,5,6,9] 9 (rL [3,10,11,12,13,14,15] 3 J (rL [7,10,11,12,13,14,15] 7 J (ra1 8 (og 4 ⟨J,(ra1 10 (RO.fC 3 ?_))⟩)))))))
 refine oO J (cD (IB aY) ⟨J,(rq [11,12,13] 2 (ra1 14 (og 4 ⟨J,(rq [15] 0 (RA.done (by decide+kernel) (X 5 4 (TH h J (λaq h=>?_) (λaq h=>?_)))))⟩)))⟩)
 .refine X 5 4 ?_;cases h;exact tN [0,1]
 refine X 2 4 (T.drawn mixed (k:=33) J ?_);apply TG 10 (bm 33 8388607);intro hS4;apply TG 13 (bm 33 1048575);intro hS5;apply TG 15 (bm 33 1042431);intro hS6;apply TG 16 (bm 33 131071);intro hS7;apply TG 17 (bm 33 261375);intro hS8;apply TG 18 (bm 33 130303);intro hS9;apply TG 18 (bm 33 124927);intro eg;apply TG 19 (bm 33 32703);intro dX
 .refine rq [0,1,2,3,4,5,7,10,13,14] 23 (ra3 6 8 11 ?_ ?_ ?_)
  .refine og 4 ⟨J,(rq [15,16] 20 (ra3 8 11 17 ?_ ?_ ?_))⟩
   .exact og 4 ⟨J,(r0 9 J (al TN J (raE eg)))⟩
   .exact og 4 ⟨J,(r0 12 J (al TN J (raE hS9)))⟩
   .refine og 4 ⟨J,(ra2 8 11 ?_ ?_)⟩
    .exact og 4 ⟨J,(r0 9 J (al TN J (rq [18,19] 15 (raE hS6))))⟩
    .exact og 4 ⟨J,(r0 12 J (al TN J (raE hS8)))⟩
  .refine og 4 ⟨J,(r0 9 J (al TN J (ra2 6 11 ?_ ?_)))⟩
   .exact og 4 ⟨J,(rq [15,16] 18 (raT eg))⟩
   .exact og 4 ⟨J,(r0 12 J (al TN J (raE dX)))⟩
  .refine og 4 ⟨J,(r0 12 J (al TN J (ra2 6 8 ?_ ?_)))⟩
   .exact og 4 ⟨J,(rq [15,16] 18 (raT hS9))⟩
   .exact og 4 ⟨J,(r0 9 J (al TN J (raT dX)))⟩
 .exact ra1 6 (og 4 ⟨J,(rq [15,16] 16 (raE hS7))⟩)
 .refine ra2 11 17 ?_ ?_
  .exact og 4 ⟨J,(r0 12 J (al TN J (raT hS7)))⟩
  .exact og 4 ⟨J,(rq [18,19] 15 (raT hS6))⟩
 .refine ra2 8 17 ?_ ?_
  .exact og 4 ⟨J,(r0 9 J (al TN J (raT hS7)))⟩
  .exact og 4 ⟨J,(raT hS8)⟩
 .exact ra1 8 (og 4 ⟨J,(r0 9 J (al TN J (rq [18,19] 13 (raE hS5))))⟩)
 .exact ra1 17 (og 4 ⟨J,(rq [18,19] 13 (raT hS5))⟩)
 .refine ra2 11 20 ?_ ?_
  .exact og 4 ⟨J,(r0 12 J (al TN J (raT hS5)))⟩
  .exact og 4 ⟨J,(ra1 11 (og 4 ⟨J,(r0 12 J (al TN J (rq [21,22] 10 (raE hS4))))⟩))⟩
 .exact ra1 20 (og 4 ⟨J,(rq [21,22] 10 (raT hS4))⟩)
 refine ra1 23 (og 4 ⟨J,(rq [24,25] 7 (ra1 26 (og 4 ⟨J,(rq [27,28] 4 (ra1 29 (og 4 ⟨J,(rq [30,31] 1 (ra1 32 ?_))⟩)))⟩)))⟩);refine og 4 ⟨J,(RA.done (by decide+kernel) (X 4 4 ?_))⟩;cases h;exact tN [0,1]
theorem JN {p0:Disk}{p1:Int}{p3:U UInt8}{r:Disk×Int}(h:pT p0 p1 p2 p3=some r):Fn QbP 54 [.agg (cw p0),iI p1,iI p2,.str p3] (.tup [.agg (cw r.1),iI r.2]):=by
 unfold pT at h;refine fT 0 0 Tryz.func54 Tryz.ntmps54 J ?_;refine B h λx2 hx2 h=>(X 10 0 (sO (cF (nc hx2) ⟨J,(Y 7 2 (TH h J (λah h=>?_) (λah h=>?_)))⟩)))
 .refine X 7 2 ?_;cases h;exact tD
 refine X 2 2 (j1 [(1,iI p1),(2,iI p2),(3,.str p3),(4,.ptr 0 0),(8,.ptr 1 0),(36,.bool ((decide (p1<0))||((decide (p1> 1))||((decide (p2<0))||decide (p2> 200)))))] [.box (cw p0),.box [.nils,.nils]] ?_ (λhK=>?_))
 .refine TH h J (λaN h=>?_) (λaN h=>?_)
  .refine X 6 2 ?_;cases h;exact tD
  refine B h λx5 hx5 h=>(X 7 2 (sQ (v_quo J J hx5 (Y 8 2 (TH h J (λaV h=>?_) (λaV h=>?_))))))
  .refine X 6 2 ?_;cases h;exact tD
  refine X 8 2 (itr (λgY:Int×(U (U UInt8))×(U Write)=>mkA 93 [(1,iI p1),(2,iI p2),(3,.str p3),(4,.ptr 0 0),(8,.ptr 1 0),(11,iI x5),(12,iI gY.1)]) (λgY=>[.box [sL aT gY.2.1,sL be gY.2.2],.box [.nils,.nils]]) h (wk [] [0,1] 2 J) (λgY v_18 h GL=>?_));obtain⟨s6,s7,s8⟩:=gY;replace h:pr p1 p2 p3 x5 s6 s7 s8=some v_18:=h;try dsimp only
  unfold pr at h;refine X 6 2 (TH h J (λda h=>?_) (λda h=>?_))
  .refine X 11 2 (sO (bi (rows:=List.map bR [IntKind.u8.wrap p2,IntKind.u8.wrap s6,IntKind.u8.wrap x5]) (vs:=[.int .u8 (IntKind.u8.wrap p2),.int .u8 (IntKind.u8.wrap s6),.int .u8 (IntKind.u8.wrap x5)]) Ue Uu J J J J J J (sO (pn (xs:=[IntKind.u8.wrap p2,IntKind.u8.wrap s6,IntKind.u8.wrap x5]) Wh Wl We J J (Y 2 3 (jn (Z:=U UInt8) (λgG=>mkA 93 [(1,iI p1),(2,iI p2),(3,.str p3),(4,.ptr 0 0),(8,.ptr 1 0),(11,iI x5),(12,iI s6),(13,.str gG)]) (λgG=>[.box [sL aT s7,sL be s8],.box [.nils,.nils]]) (λgG=>nh p1 s6 s7 s8 gG=some v_18) (λgG h=>?_) (λhK1=>?_)))))))
   .revert h;revert gG;intro z11 h;replace h:nh p1 s6 s7 s8 z11=some v_18:=h;try dsimp only
    unfold nh at h;refine B h λx13 dc h=>(X 3 2 (sO (cF (Be dc) ⟨J,(B h λx15 dY h=>(Y 18 2 (sO (cD (AI dY) ⟨J,(Y 11 2 (TH h J (λlf h=>?_) (λlf h=>?_)))⟩))))⟩)))
    .refine X 7 2 ?_;replace h:=mi h GL;cases h;exact tD
    exact X 6 2 (lk h (wk [] [0,1] 2 J))
   refine X 6 3 (TH h J (λow h=>?_) (λow h=>?_))
   .exact B h λx9 hx9 h=>(B h λx10 aY h=>(X 11 3 (sO (ng We J J J hx9 (sQ (kW J J aY (Y 2 3 (wu (hK1 x10 h) [] [0,1] 3 J))))))))
   exact X 1 3 (wu (hK1 (ce [IntKind.u8.wrap p2,IntKind.u8.wrap s6,IntKind.u8.wrap x5]) h) [] [0,1] 3 J)
  refine X 1 2 ?_;replace h:=mi h GL;refine X 6 2 ?_;cases h;exact tD
 refine X 5 2 (gp 25 (λae=>?_) (λae=>?_))
 .refine Yp 12 2 ?_;rw[ae]at hK;exact sx hK
 refine Yp 4 2 (gp 29 (λaq=>?_) (λaq=>?_))
 .refine Yp 8 2 ?_;rw[ae]at hK;rw[aq]at hK;exact sx hK
 refine Yp 4 2 (gp 33 (λaD=>?_) (λaD=>?_))
 .refine Yp 4 2 ?_;rw[ae]at hK;rw[aq]at hK;rw[aD]at hK;exact sx hK
 refine Yp 4 2 ?_;rw[ae]at hK;rw[aq]at hK;rw[aD]at hK;exact sx hK
theorem H8 {p0:Int}{p4:U (U Item)}{r:Int×(U (U UInt8))×(U Write)×Int}(h:rx p0 p1 p2 p3 p4 p5 p6 p7 p8 p9 p10 p11 p12 p13 p14 p15 p16 p17 p18=some r):FnX QbP 24 [.ptr 0 0,iI p0] [.box [sL an p1,iI p2,iI p3,sL (ai aa) p4,sL aj p5,sL (ai aa) p6,sL aC p7,sL ao p8,sL aa p9,sL aT p10,sL be p11,iI p12,iI p13,iI p14,iI p15,iI p16,.ref 1,.bool p17],aR 68 3 aa p18] (iI r.1) [.box [sL an p1,iI p2,iI p3,sL (ai aa) p4,sL aj p5,sL (ai aa) p6,sL aC p7,sL ao p8,sL aa p9,sL aT r.2.1,sL be r.2.2.1,iI p12,iI p13,iI p14,iI r.2.2.2,iI p16,.ref 1,.bool p17],aR 68 3 aa p18]:=by
 unfold rx at h;refine fT 2 13 Tryz.func24 Tryz.ntmps24 J (TH h J (λah h=>?_) (λah h=>?_))
 .refine X 4 2 ?_;cases h;exact tN [0,1]
 refine X 10 2 (TH h J (λae h=>?_) (λae h=>?_))
 .refine X 4 2 ?_;cases h;exact tN [0,1]
 refine B h λx2 hx2 h=>(X 2 2 (T.drawn mixed (k:=18) J (rq [0,1,2,4,5,6,8,9,10] 9 (rL [3,12,13,14,15,16,17] 3 J (rL [7,12,13,14,15,16,17] 7 J (ra1 11 (og 2 ⟨J,(ra1 12 (oO J (cF (AU hx2) ⟨J,?_⟩)))⟩)))))))
 refine rq [13,14,15,16,17] 0 (RA.done (by decide+kernel) (X 6 2 (TH h J (λaq h=>?_) (λaq h=>?_))))
 .refine X 5 2 ?_;cases h;exact tN [0,1]
 refine B h λx5 hx5 h=>(B h λx6 hx6 h=>(X 3 2 (T.drawn mixed (k:=25) J ?_)))
 apply TG 8 (bm 25 131071);intro hS4;apply TG 9 (bm 25 131055);intro hS5
 .refine rq [0,1,2,3,5,6,7,11,12,13,16] 14 (ra3 4 8 14 ?_ ?_ ?_)
  .refine og 2 ⟨J,(ra2 8 14 ?_ ?_)⟩
   .exact og 2 ⟨J,(rq [9] 11 (r0 10 J (jh J J hx5 (ra1 14 (og 2 ⟨J,(rq [15] 8 (raE hS4))⟩)))))⟩
   .exact og 2 ⟨J,(rq [15] 11 (ra1 8 (og 2 ⟨J,(rq [9] 9 (r0 10 J (jh J J hx5 (raT hS4))))⟩)))⟩
  .exact og 2 ⟨J,(rq [9] 12 (r0 10 J (jh J J hx5 (rL [14,15,17,18,19,20,21,22,23,24] 14 J (rq [15] 9 (raE hS5))))))⟩
  .exact og 2 ⟨J,(rq [15] 12 (rL [8,9,10,17,18,19,20,21,22,23,24] 8 J (rq [9] 10 (r0 10 J (jh J J hx5 (raT hS5))))))⟩
 .exact ra1 4 (og 2 ⟨J,(raT hS4)⟩)
 refine ra1 17 (oO J (cD (JN hx6) ⟨J,(rq [18,19,20,21,22] 2 (ra1 23 (og 2 ⟨J,(rq [24] 0 (RA.done (by decide+kernel) (X 5 2 (TH h J (λaV h=>?_) (λaV h=>?_)))))⟩)))⟩))
 .refine X 5 2 ?_;cases h;exact tN [0,1]
 refine X 9 2 (sQ (al TN J (Y 8 2 ?_)));cases h;exact tN [0,1]
theorem kD {p0:Shop}{p1:Happening}{r:Shop×Int}(h:eJ p0 p1=some r):Fn QbP 6 [.agg (fK p0),.agg (dp p1)] (.tup [.agg (fK r.1),iI r.2]):=by
 unfold eJ at h;refine fT 0 0 Tryz.func6 Tryz.ntmps6 J ?_;refine B h λx2 hx2 h=>(X 11 0 (sO (cF (IW hx2) ⟨J,(Y 7 3 (TH h J (λah h=>?_) (λah h=>?_)))⟩)))
 .refine X 7 3 ?_;cases h;exact tD
 refine X 3 3 (sO (Cb J J (sO (lO (ek:=kI) (ks:=[]) (vs:=[]) (k:=1) (a:=.func 18 []) (o2:=.mp (List.map kI [1]) [.func 18 []]) (.inr J) Wg (KeyT.int Wf) J J J J J J (sO (lO (ek:=kI) (ks:=[1]) (vs:=[.func 18 []]) (k:=2) (a:=.func 19 []) (o2:=.mp (List.map kI [1,2]) [.func 18 [],.func 19 []]) (.inr J) Wg (KeyT.int Wf) J J J J J J (sO (lO (ek:=kI) (ks:=[1,2]) (vs:=[.func 18 [],.func 19 []]) (k:=3) (a:=.func 20 []) (o2:=.mp (List.map kI [1,2,3]) [.func 18 [],.func 19 [],.func 20 []]) (.inr J) Wg (KeyT.int Wf) J J J J J J (sO (lO (ek:=kI) (ks:=[1,2,3]) (vs:=[.func 18 [],.func 19 [],.func 20 []]) (k:=4) (a:=.func 21 []) (o2:=.mp (List.map kI [1,2,3,4]) [.func 18 [],.func 19 [],.func 20 [],.func 21 []]) (.inr J) Wg (KeyT.int Wf) J J J J J J (sO (lO (ek:=kI) (ks:=[1,2,3,4]) (vs:=[.func 18 [],.func 19 [],.func 20 [],.func 21 []]) (k:=5) (a:=.func 22 []) (o2:=.mp (List.map kI [1,2,3,4,5]) [.func 18 [],.func 19 [],.func 20 [],.func 21 [],.func 22 []]) (.inr J) Wg (KeyT.int Wf) J J J J J J (sO (lO (ek:=kI) (ks:=[1,2,3,4,5]) (vs:=[.func 18 [],.func 19 [],.func 20 [],.func 21 [],.func 22 []]) (k:=6) (a:=.func 23 []) (o2:=.mp (List.map kI [1,2,3,4,5,6]) [.func 18 [],.func 19 [],.func 20 [],.func 21 [],.func 22 [],.func 23 []]) (.inr J) Wg (KeyT.int Wf) J J J J J J (sO (lO (ek:=kI) (ks:=[1,2,3,4,5,6]) (vs:=[.func 18 [],.func 19 [],.func 20 [],.func 21 [],.func 22 [],.func 23 []]) (k:=7) (a:=.func 24 []) (o2:=.mp (List.map kI [1,2,3,4,5,6,7]) [.func 18 [],.func 19 [],.func 20 [],.func 21 [],.func 22 [],.func 23 [],.func 24 []]) (.inr J) Wg (KeyT.int Wf) J J J J J J (Y 3 4 ?_)))))))))))))))));refine Vs (Z:=(U Node)×Int×Int×(U (U Item))×(U Int)×(U (U Item))×(U Memory)×(U Choice)×(U Item)×(U (U UInt8))×(U Write)×Int×Int×Int×Int×Int×Bool×(U Item)) (λbL=>mkA 43 [(2,.ptr 0 0),(4,.ptr 1 0)]) (λbL=>[.box [sL an bL.1,iI bL.2.1,iI bL.2.2.1,sL (ai aa) bL.2.2.2.1,sL aj bL.2.2.2.2.1,sL (ai aa) bL.2.2.2.2.2.1,sL aC bL.2.2.2.2.2.2.1,sL ao bL.2.2.2.2.2.2.2.1,sL aa bL.2.2.2.2.2.2.2.2.1,sL aT bL.2.2.2.2.2.2.2.2.2.1,sL be bL.2.2.2.2.2.2.2.2.2.2.1,iI bL.2.2.2.2.2.2.2.2.2.2.2.1,iI bL.2.2.2.2.2.2.2.2.2.2.2.2.1,iI bL.2.2.2.2.2.2.2.2.2.2.2.2.2.1,iI bL.2.2.2.2.2.2.2.2.2.2.2.2.2.2.1,iI bL.2.2.2.2.2.2.2.2.2.2.2.2.2.2.2.1,.ref 2,.bool bL.2.2.2.2.2.2.2.2.2.2.2.2.2.2.2.2.1],.box [.nils,iI 0,iI 0,.nils,.nils,.nils,.nils,.nils,.nils,.nils,.nils,iI 0,iI 0,iI 0,iI 0,iI 0,.nils,.bool false],aR 68 3 aa bL.2.2.2.2.2.2.2.2.2.2.2.2.2.2.2.2.2]) (λbL=>jE bL.1 bL.2.1 bL.2.2.1 bL.2.2.2.1 bL.2.2.2.2.1 bL.2.2.2.2.2.1 bL.2.2.2.2.2.2.1 bL.2.2.2.2.2.2.2.1 bL.2.2.2.2.2.2.2.2.1 bL.2.2.2.2.2.2.2.2.2.1 bL.2.2.2.2.2.2.2.2.2.2.1 bL.2.2.2.2.2.2.2.2.2.2.2.1 bL.2.2.2.2.2.2.2.2.2.2.2.2.1 bL.2.2.2.2.2.2.2.2.2.2.2.2.2.1 bL.2.2.2.2.2.2.2.2.2.2.2.2.2.2.1 bL.2.2.2.2.2.2.2.2.2.2.2.2.2.2.2.1 bL.2.2.2.2.2.2.2.2.2.2.2.2.2.2.2.2.1 bL.2.2.2.2.2.2.2.2.2.2.2.2.2.2.2.2.2=some r) (λbL h=>?_) (λhK1=>?_)
 .obtain⟨z31,z32,z33,z34,z35,z36,z37,z38,z39,z40,z41,z42,z43,z44,z45,z46,z47,z48⟩:=bL;replace h:jE z31 z32 z33 z34 z35 z36 z37 z38 z39 z40 z41 z42 z43 z44 z45 z46 z47 z48=some r:=h;try dsimp only
  unfold jE at h;refine X 6 3 ?_;cases h;exact tD
 refine X 5 4 ?_;rcases bC (p1.Kind==1)with jc|jc
 .replace h:=cb h jc;refine sO (lR (ek:=kI) (ks:=[1,2,3,4,5,6,7]) (vs:=[.func 18 [],.func 19 [],.func 20 [],.func 21 [],.func 22 [],.func 23 [],.func 24 []]) (k:=p1.Kind) (az:=.nilf) (a:=.func 18 []) (r:=(some 0)) Wg (KeyT.int Wf) Ul (λ_ _ _=>.nilf) J J J (n8 (eq_of_beq jc)) J (Y 6 4 (sO (n7 Wj J J (Y 13 4 (TH h J (λQJ h=>?_) (λQJ h=>?_)))))))
  .refine X 6 4 ?_;cases h;exact tD
  refine B h λx4 hx4 h=>(X 4 4 (sO (cG [] 4 1 (TR (mX hx4)) ⟨J,(B h λx6 hx6 h=>(Y 8 5 (sO (cG [0,4] 5 2 (H0 hx6) ⟨J,(Y 7 5 (TH h J (λQK h=>?_) (λQK h=>?_)))⟩))))⟩)))
  .refine X 7 5 ?_;cases h;exact tD
  exact X 1 5 (wu (hK1 (x4.N.Nodes,x4.N.Rings,x4.N.Room,x4.Items,x6.2.1,x6.2.2.1,x6.2.2.2.1,x6.2.2.2.2.1,x6.2.2.2.2.2,x4.D.Sectors,x4.D.Wait,x4.Logged,x4.Safe,x4.Epoch,x4.Laid,x4.Next,x4.Down,x4.Told) h) [] [0,2,4] 5 J)
 replace h:=cg h jc;rcases bC (p1.Kind==2)with jU|jU
 .replace h:=cb h jU;refine sO (lR (ek:=kI) (ks:=[1,2,3,4,5,6,7]) (vs:=[.func 18 [],.func 19 [],.func 20 [],.func 21 [],.func 22 [],.func 23 [],.func 24 []]) (k:=p1.Kind) (az:=.nilf) (a:=.func 19 []) (r:=(some 1)) Wg (KeyT.int Wf) Ul (λ_ _ _=>.nilf) J J J (cX (ne_of_beq_false jc) (n8 (eq_of_beq jU))) J (Y 6 4 (sO (n7 Wj J J (Y 13 4 (TH h J (λQL h=>?_) (λQL h=>?_)))))))
  .refine X 6 4 ?_;cases h;exact tD
  refine B h λx8 hx8 h=>(X 4 4 (sO (cG [] 4 1 (TR (mX hx8)) ⟨J,(B h λx10 aY h=>(Y 8 5 (sO (cG [0,4] 5 2 (HS aY) ⟨J,(Y 7 5 (TH h J (λQM h=>?_) (λQM h=>?_)))⟩))))⟩)))
  .refine X 7 5 ?_;cases h;exact tD
  exact X 1 5 (wu (hK1 (x8.N.Nodes,x8.N.Rings,x8.N.Room,x8.Items,x8.S.At,x8.S.Rings,x8.S.Memory,x8.S.Choices,x8.S.Out,x10.2.1,x10.2.2.1,x10.2.2.2.1,x8.Safe,x8.Epoch,x8.Laid,x10.2.2.2.2,x8.Down,x8.Told) h) [] [0,2,4] 5 J)
 replace h:=cg h jU;rcases bC (p1.Kind==3)with ld|ld
 .replace h:=cb h ld;refine sO (lR (ek:=kI) (ks:=[1,2,3,4,5,6,7]) (vs:=[.func 18 [],.func 19 [],.func 20 [],.func 21 [],.func 22 [],.func 23 [],.func 24 []]) (k:=p1.Kind) (az:=.nilf) (a:=.func 20 []) (r:=(some 2)) Wg (KeyT.int Wf) Ul (λ_ _ _=>.nilf) J J J (cX (ne_of_beq_false jc) (cX (ne_of_beq_false jU) (n8 (eq_of_beq ld)))) J (Y 6 4 (sO (n7 Wj J J (Y 13 4 (TH h J (λQN h=>?_) (λQN h=>?_)))))))
  .refine X 6 4 ?_;cases h;exact tD
  refine B h λx12 bx h=>(X 4 4 (sO (cG [] 4 1 (TR (mX bx)) ⟨J,(B h λx14 cm h=>(Y 8 5 (sO (cG [0,4] 5 2 (HT cm) ⟨J,(Y 7 5 (TH h J (λQO h=>?_) (λQO h=>?_)))⟩))))⟩)))
  .refine X 7 5 ?_;cases h;exact tD
  exact X 1 5 (wu (hK1 (x12.N.Nodes,x12.N.Rings,x12.N.Room,x12.Items,x12.S.At,x12.S.Rings,x12.S.Memory,x12.S.Choices,x12.S.Out,x14.2.1,x14.2.2.1,x14.2.2.2.1,x14.2.2.2.2.1,x14.2.2.2.2.2.1,x14.2.2.2.2.2.2.1,x14.2.2.2.2.2.2.2,x12.Down,x12.Told) h) [] [0,2,4] 5 J)
 replace h:=cg h ld;rcases bC (p1.Kind==4)with jT|jT
 .replace h:=cb h jT;refine sO (lR (ek:=kI) (ks:=[1,2,3,4,5,6,7]) (vs:=[.func 18 [],.func 19 [],.func 20 [],.func 21 [],.func 22 [],.func 23 [],.func 24 []]) (k:=p1.Kind) (az:=.nilf) (a:=.func 21 []) (r:=(some 3)) Wg (KeyT.int Wf) Ul (λ_ _ _=>.nilf) J J J (cX (ne_of_beq_false jc) (cX (ne_of_beq_false jU) (cX (ne_of_beq_false ld) (n8 (eq_of_beq jT))))) J (Y 6 4 (sO (n7 Wj J J (Y 13 4 (TH h J (λQP h=>?_) (λQP h=>?_)))))))
  .refine X 6 4 ?_;cases h;exact tD
  refine B h λx16 e6 h=>(X 4 4 (sO (cG [] 4 1 (TR (mX e6)) ⟨J,(B h λx18 cI h=>(Y 8 5 (sO (cG [0,4] 5 3 (H1 cI) ⟨J,(Y 7 6 (TH h J (λQQ h=>?_) (λQQ h=>?_)))⟩))))⟩)))
  .refine X 7 6 ?_;cases h;exact tD
  exact X 1 6 (wu (hK1 (x16.N.Nodes,x16.N.Rings,x16.N.Room,x16.Items,x16.S.At,x16.S.Rings,x16.S.Memory,x16.S.Choices,x16.S.Out,x16.D.Sectors,x16.D.Wait,x16.Logged,x16.Safe,x16.Epoch,x16.Laid,x16.Next,x16.Down,x18.2) h) [] [0,2,5] 6 J)
 replace h:=cg h jT;rcases bC (p1.Kind==5)with lc|lc
 .replace h:=cb h lc;refine sO (lR (ek:=kI) (ks:=[1,2,3,4,5,6,7]) (vs:=[.func 18 [],.func 19 [],.func 20 [],.func 21 [],.func 22 [],.func 23 [],.func 24 []]) (k:=p1.Kind) (az:=.nilf) (a:=.func 22 []) (r:=(some 4)) Wg (KeyT.int Wf) Ul (λ_ _ _=>.nilf) J J J (cX (ne_of_beq_false jc) (cX (ne_of_beq_false jU) (cX (ne_of_beq_false ld) (cX (ne_of_beq_false jT) (n8 (eq_of_beq lc)))))) J (Y 6 4 (sO (n7 Wj J J (Y 13 4 (TH h J (λQR h=>?_) (λQR h=>?_)))))))
  .refine X 6 4 ?_;cases h;exact tD
  refine B h λx20 ee h=>(X 4 4 (sO (cG [] 4 1 (TR (mX ee)) ⟨J,(B h λx22 eQ h=>(Y 8 5 (sO (cG [0,4] 5 2 (H5 eQ) ⟨J,(Y 7 5 (TH h J (λQS h=>?_) (λQS h=>?_)))⟩))))⟩)))
  .refine X 7 5 ?_;cases h;exact tD
  exact X 1 5 (wu (hK1 (x20.N.Nodes,x20.N.Rings,x20.N.Room,x20.Items,x22.2.1,x22.2.2.1,x22.2.2.2.1,x22.2.2.2.2.1,x22.2.2.2.2.2.1,x22.2.2.2.2.2.2.1,x22.2.2.2.2.2.2.2.1,x22.2.2.2.2.2.2.2.2.1,x22.2.2.2.2.2.2.2.2.2.1,x22.2.2.2.2.2.2.2.2.2.2.1,x22.2.2.2.2.2.2.2.2.2.2.2.1,x22.2.2.2.2.2.2.2.2.2.2.2.2.1,x22.2.2.2.2.2.2.2.2.2.2.2.2.2,x20.Told) h) [] [0,2,4] 5 J)
 replace h:=cg h lc;rcases bC (p1.Kind==6)with qr|qr
 .replace h:=cb h qr;refine sO (lR (ek:=kI) (ks:=[1,2,3,4,5,6,7]) (vs:=[.func 18 [],.func 19 [],.func 20 [],.func 21 [],.func 22 [],.func 23 [],.func 24 []]) (k:=p1.Kind) (az:=.nilf) (a:=.func 23 []) (r:=(some 5)) Wg (KeyT.int Wf) Ul (λ_ _ _=>.nilf) J J J (cX (ne_of_beq_false jc) (cX (ne_of_beq_false jU) (cX (ne_of_beq_false ld) (cX (ne_of_beq_false jT) (cX (ne_of_beq_false lc) (n8 (eq_of_beq qr))))))) J (Y 6 4 (sO (n7 Wj J J (Y 13 4 (TH h J (λQT h=>?_) (λQT h=>?_)))))))
  .refine X 6 4 ?_;cases h;exact tD
  refine B h λx24 dK h=>(X 4 4 (sO (cG [] 4 1 (TR (mX dK)) ⟨J,(B h λx26 gH h=>(Y 8 5 (sO (cG [0,4] 5 2 (Im gH) ⟨J,(Y 7 5 (TH h J (λQU h=>?_) (λQU h=>?_)))⟩))))⟩)))
  .refine X 7 5 ?_;cases h;exact tD
  exact X 1 5 (wu (hK1 (x24.N.Nodes,x24.N.Rings,x24.N.Room,x24.Items,x26.2.1,x26.2.2.1,x26.2.2.2.1,x26.2.2.2.2.1,x26.2.2.2.2.2.1,x24.D.Sectors,x24.D.Wait,x26.2.2.2.2.2.2.1,x26.2.2.2.2.2.2.2.1,x26.2.2.2.2.2.2.2.2.1,x24.Laid,x26.2.2.2.2.2.2.2.2.2.1,x26.2.2.2.2.2.2.2.2.2.2,x24.Told) h) [] [0,2,4] 5 J)
 replace h:=cg h qr;rcases bC (p1.Kind==7)with ol|ol
 .replace h:=cb h ol;refine sO (lR (ek:=kI) (ks:=[1,2,3,4,5,6,7]) (vs:=[.func 18 [],.func 19 [],.func 20 [],.func 21 [],.func 22 [],.func 23 [],.func 24 []]) (k:=p1.Kind) (az:=.nilf) (a:=.func 24 []) (r:=(some 6)) Wg (KeyT.int Wf) Ul (λ_ _ _=>.nilf) J J J (cX (ne_of_beq_false jc) (cX (ne_of_beq_false jU) (cX (ne_of_beq_false ld) (cX (ne_of_beq_false jT) (cX (ne_of_beq_false lc) (cX (ne_of_beq_false qr) (n8 (eq_of_beq ol)))))))) J (Y 6 4 (sO (n7 Wj J J (Y 13 4 (TH h J (λQV h=>?_) (λQV h=>?_)))))))
  .refine X 6 4 ?_;cases h;exact tD
  refine B h λx28 ui h=>(X 4 4 (sO (cG [] 4 1 (TR (mX ui)) ⟨J,(B h λx30 iq h=>(Y 8 5 (sO (cG [0,4] 5 2 (H8 iq) ⟨J,(Y 7 5 (TH h J (λQW h=>?_) (λQW h=>?_)))⟩))))⟩)))
  .refine X 7 5 ?_;cases h;exact tD
  exact X 1 5 (wu (hK1 (x28.N.Nodes,x28.N.Rings,x28.N.Room,x28.Items,x28.S.At,x28.S.Rings,x28.S.Memory,x28.S.Choices,x28.S.Out,x30.2.1,x30.2.2.1,x28.Logged,x28.Safe,x28.Epoch,x30.2.2.2,x28.Next,x28.Down,x28.Told) h) [] [0,2,4] 5 J)
 replace h:=cg h ol;refine sO (lR (ek:=kI) (ks:=[1,2,3,4,5,6,7]) (vs:=[.func 18 [],.func 19 [],.func 20 [],.func 21 [],.func 22 [],.func 23 [],.func 24 []]) (k:=p1.Kind) (az:=.nilf) (a:=.nilf) (r:=none) Wg (KeyT.int Wf) Ul (λ_ _ _=>.nilf) J J J (cX (ne_of_beq_false jc) (cX (ne_of_beq_false jU) (cX (ne_of_beq_false ld) (cX (ne_of_beq_false jT) (cX (ne_of_beq_false lc) (cX (ne_of_beq_false qr) (cX (ne_of_beq_false ol) Ny))))))) J (Y 6 4 (sO (P4 Wj J J (Y 8 4 ?_)))));cases h;exact tD
theorem BS {p1:U (U Item)}{p2:U Happening}{r:Shop×(U Int)×Int}(h:lX p0 p1 p2=some r):Fn QbP 4 [.agg (aK p0),sL (ai aa) p1,sL dp p2] (.tup [.agg (fK r.1),sL aj r.2.1,iI r.2.2]):=by
 unfold lX at h;refine fT 0 0 Tryz.func4 Tryz.ntmps4 J ?_;refine B h λx2 hx2 h=>(X 11 0 (sO (cD (JH hx2) ⟨J,(Y 13 2 (TH h J (λah h=>?_) (λah h=>?_)))⟩)))
 .refine X 8 3 ?_;cases h;exact tD
 refine X 5 3 (sQ (al Us J (Y 2 3 (TH h J (λae h=>?_) (λae h=>?_)))))
 .refine X 7 3 ?_;cases h;exact tD
 refine X 9 3 (sQ (al Us J (Y 3 3 (itr (λaU:Int×(U Node)×Int×Int×(U (U Item))×(U Int)×(U (U Item))×(U Memory)×(U Choice)×(U Item)×(U (U UInt8))×(U Write)×Int×Int×Int×Int×Int×(U Item)×Bool×(U Int)=>mkA 52 [(6,.ptr 0 0),(9,.ptr 1 0),(11,.ref 2),(30,sL dp p2),(31,iI ((p2).length:Int)),(32,iI aU.1)]) (λaU=>[.box [.nils,iI 0,iI 0,.nils,.nils,.nils,.nils,.nils,.nils,.nils,.nils,iI 0,iI 0,iI 0,iI 0,iI 0,.nils,.bool false],.box [sL an aU.2.1,iI aU.2.2.1,iI aU.2.2.2.1,sL (ai aa) aU.2.2.2.2.1,sL aj aU.2.2.2.2.2.1,sL (ai aa) aU.2.2.2.2.2.2.1,sL aC aU.2.2.2.2.2.2.2.1,sL ao aU.2.2.2.2.2.2.2.2.1,sL aa aU.2.2.2.2.2.2.2.2.2.1,sL aT aU.2.2.2.2.2.2.2.2.2.2.1,sL be aU.2.2.2.2.2.2.2.2.2.2.2.1,iI aU.2.2.2.2.2.2.2.2.2.2.2.2.1,iI aU.2.2.2.2.2.2.2.2.2.2.2.2.2.1,iI aU.2.2.2.2.2.2.2.2.2.2.2.2.2.2.1,iI aU.2.2.2.2.2.2.2.2.2.2.2.2.2.2.2.1,iI aU.2.2.2.2.2.2.2.2.2.2.2.2.2.2.2.2.1,sL aa aU.2.2.2.2.2.2.2.2.2.2.2.2.2.2.2.2.2.1,.bool aU.2.2.2.2.2.2.2.2.2.2.2.2.2.2.2.2.2.2.1],aR 40 1 aj aU.2.2.2.2.2.2.2.2.2.2.2.2.2.2.2.2.2.2.2]) h (wk [(11,40,1)] [1,2,3] 3 J) (λaU v_8 h fF=>?_)))));obtain⟨s3,s4,s5,s6,s7,s8,s9,s10,s11,s12,s13,s14,s15,s16,s17,s18,s19,s20,s21,s22⟩:=aU;replace h:nk p2 s3 s4 s5 s6 s7 s8 s9 s10 s11 s12 s13 s14 s15 s16 s17 s18 s19 s20 s21 s22=some v_8:=h;try dsimp only
 unfold nk at h;refine X 5 3 (TH h J (λdP h=>?_) (λdP h=>?_))
 .refine B h λx24 dK h=>(X 5 3 (sQ (aG Us (λ_=>J) J J dK (B h λx26 gH h=>(Y 8 3 (sO (cD (kD gH) ⟨J,(Y 13 4 (TH h J (λeY h=>?_) (λeY h=>?_)))⟩)))))))
  .exact B h λx27 z8 h=>(X 7 5 (sO (bi (rows:=List.map aj [x26.2]) (vs:=[iI x26.2]) Uy UJ J J J J J J (sO (bU (en:=aj) (xs:=s22) (ys:=([x26.2]:U Int)) Uy (λ_=>J) J J J z8 J J (Y 6 7 (lk h (wk [] [0,1,6] 7 J))))))))
  exact B h λx28 ui h=>(X 4 5 (sO (bi (rows:=List.map aj [x26.2]) (vs:=[iI x26.2]) Uy UJ J J J J J J (sO (bU (en:=aj) (xs:=s22) (ys:=([x26.2]:U Int)) Uy (λ_=>J) J J J ui J J (Y 6 7 (lk h (wk [] [0,1,6] 7 J))))))))
 refine X 1 3 ?_;replace h:=mi h fF;refine X 8 3 ?_;cases h;exact tD
theorem HV {r:Net}(h:uG=some r):Fn QbP 15 [] (.agg (aK r)):=by unfold uG at h;refine fT 0 6 Tryz.func15 Tryz.ntmps15 J (sO (bi (rows:=List.map aj [0]) (vs:=[iI 0]) TK T7 J J J J J J (Y 1 2 (sO (bi (rows:=List.map aj [1]) (vs:=[iI 1]) TK T7 J J J J J J (Y 1 3 (sO (bi (rows:=List.map aj [0,1]) (vs:=[iI 0,iI 1]) TK T7 J J J J J J (sO (bi (rows:=List.map aj [2]) (vs:=[iI 2]) TK T7 J J J J J J (Y 1 5 (sO (bi (rows:=List.map aj [2]) (vs:=[iI 2]) TK T7 J J J J J J (Y 1 6 ?_))))))))))))));refine RS.fC 1 (RS.fC 2 (RS.fC 3 (RS.fC 4 (RS.fC 5 (sO (Iz (rows:=List.map an [(⟨1,0,[],[0]⟩:Node),(⟨1,1,[],[1]⟩:Node),(⟨6,0,[0,1],[2]⟩:Node),(⟨8,0,[2],[]⟩:Node)]) (vs:=[.agg [iI 1,iI 0,.nils,sL aj [0]],.agg [iI 1,iI 1,.nils,sL aj [1]],.agg [iI 6,iI 0,sL aj [0,1],sL aj [2]],.agg [iI 8,iI 0,sL aj [2],.nils]]) (vs2:=[.agg [iI 1,iI 0,sL aj [],sL aj [0]],.agg [iI 1,iI 1,sL aj [],sL aj [1]],.agg [iI 6,iI 0,sL aj [0,1],sL aj [2]],.agg [iI 8,iI 0,sL aj [2],sL aj []]]) TJ UI J J J J J J (Y 3 7 ?_)))))));cases h;exact tD
theorem Au {p0 p1:Int}{r:Item}(h:uL p0 p1=some r):Fn QbP 44 [iI p0,iI p1] (.agg (aa r)):=by unfold uL at h;refine fT 0 11 Tryz.func44 Tryz.ntmps44 J ?_;cases h;exact tD
theorem Ip {r:U (U Item)}(h:uP=some r):FnO QbP 16 [] (.ref 0) [aR 30 1 (ai aa) r]:=by
 unfold uP at h;refine fT 0 0 Tryz.func16 Tryz.ntmps16 J ?_;refine B h λx3 hx3 h=>(B h λx4 hx4 h=>(X 6 0 (sO (cF (Au hx3) ⟨J,(sO (bi (rows:=List.map aa [x3]) (vs:=[.agg (aa x3)]) TL Uk J J J J J J (sO (cF (Au hx4) ⟨J,(sO (bi (rows:=List.map aa [x4]) (vs:=[.agg (aa x4)]) TL Uk J J J J J J (RS.fC 0 (RS.fC 1 (sO (bi (rows:=List.map (ai aa) [[x3],[x4]]) (vs:=[sL aa [x3],sL aa [x4]]) TO Ua J J J J J J ?_))))))⟩))))⟩))))
 refine Y 2 3 ?_;cases h;exact tO [] [2] 3
theorem dm {p0 p1:Int}{r:Happening}(h:dB p0 p1=some r):Fn QbP 7 [iI p0,iI p1] (.agg (dp r)):=by unfold dB at h;refine fT 0 11 Tryz.func7 Tryz.ntmps7 J ?_;cases h;exact tD
theorem Ap (h:oW=some r):Fn QbP 5 [] (.bool r):=by
 unfold oW at h;refine fT 0 0 Tryz.func5 Tryz.ntmps5 J ?_;refine B h λx16 e6 h=>(B h λx17 cE h=>(B h λx18 cI h=>(B h λx19 cU h=>(B h λx20 ee h=>(B h λx21 ju h=>(B h λx22 eQ h=>(B h λx23 ed h=>(B h λx24 dK h=>(B h λx25 jp h=>?_)))))))))
 refine B h λx26 gH h=>(B h λx27 z8 h=>(B h λx30 iq h=>(X 6 0 (sO (cD (HV e6) ⟨J,(sO (cQ 0 (Ip cE) ⟨J,(sO (cF (dm cI) ⟨J,(sO (cF (dm cU) ⟨J,(sO (cF (dm ee) ⟨J,(sO (cF (dm ju) ⟨J,?_⟩))⟩))⟩))⟩))⟩))⟩)))))
 refine sO (cF (dm eQ) ⟨J,(sO (cF (dm ed) ⟨J,(sO (cF (dm dK) ⟨J,(sO (cF (dm jp) ⟨J,(sO (cF (dm gH) ⟨J,(sO (cF (dm z8) ⟨J,(sO (bi (rows:=List.map dp [x18,x19,x20,x21,x22,x23,x24,x25,x26,x27]) (vs:=[.agg (dp x18),.agg (dp x19),.agg (dp x20),.agg (dp x21),.agg (dp x22),.agg (dp x23),.agg (dp x24),.agg (dp x25),.agg (dp x26),.agg (dp x27)]) Us UX J J J J J J (RS.fC 0 (RS.fC 1 (sO (cD (BS iq) ⟨J,?_⟩))))))⟩))⟩))⟩))⟩))⟩))⟩);refine Y 9 2 (j1 [(0,.bool ((x30.2.2==0)&&((((x30.2.1).length:Int)==10)&&((((x30.1.S.Choices).length:Int)==1)&&((x30.1.Safe==1)&&((decide (((x30.1.Told).length:Int)<=1))&& !x30.1.Down))))))] [] ?_ (λhK=>?_))
 .cases h;exact tD
 refine X 5 3 (gp 24 (λah=>?_) (λah=>?_))
 .refine Y 1 3 (yQ J (al Uy J (Yp 3 3 (gp 29 (λae=>?_) (λae=>?_)))))
  .refine Y 3 3 (yQ J (al TN J (Yp 3 3 (gp 36 (λaq=>?_) (λaq=>?_)))))
   .refine Yp 5 3 (gp 41 (λaD=>?_) (λaD=>?_))
    .refine Y 2 3 (yQ J (al TL J (Yp 3 3 (gp 47 (λaN=>?_) (λaN=>?_)))))
     .refine Yp 6 3 ?_;rw[ah]at hK;rw[ae]at hK;rw[aq]at hK;rw[aD]at hK;rw[aN]at hK;exact wu hK [] [] 3 J
     refine Yp 6 3 ?_;rw[ah]at hK;rw[ae]at hK;rw[aq]at hK;rw[aD]at hK;rw[aN]at hK;exact wu hK [] [] 3 J
    refine Yp 12 3 ?_;rw[ah]at hK;rw[ae]at hK;rw[aq]at hK;rw[aD]at hK;exact wu hK [] [] 3 J
   refine Yp 17 3 ?_;rw[ah]at hK;rw[ae]at hK;rw[aq]at hK;exact wu hK [] [] 3 J
  refine Yp 24 3 ?_;rw[ah]at hK;rw[ae]at hK;exact wu hK [] [] 3 J
 refine Yp 29 3 ?_;rw[ah]at hK;exact wu hK [] [] 3 J
theorem AA {p0:State}(h:rK p0=some r):Fn QbP 9 [.agg (bE p0)] (.bool r):=by
 unfold rK at h;refine fT 0 5 Tryz.func9 Tryz.ntmps9 J (j1 [(2,.bool ((decide (((p0.Choices).length:Int)<500))&&decide (((p0.Out).length:Int)<2000)))] [] ?_ (λhK=>?_))
 .cases h;exact tD
 refine X 4 1 (sQ (al TN J (Y 2 1 (gp 7 (λah=>?_) (λah=>?_)))))
 .refine Y 2 1 (yQ J (al TL J (Yp 4 1 ?_)));rw[ah]at hK;exact wu hK [] [] 1 J
 refine Yp 7 1 ?_;rw[ah]at hK;exact wu hK [] [] 1 J
theorem HY {p0 p1:Item}(h:uC p0 p1=some r):Fn QbP 28 [.agg (aa p0),.agg (aa p1)] (.bool r):=by
 unfold uC at h;refine fT 0 6 Tryz.func28 Tryz.ntmps28 J (j1 [(4,.bool ((p0.Key==p1.Key)&&p0.Val==p1.Val))] [] ?_ (λhK=>?_))
 .cases h;exact tD
 refine X 8 2 (gp 10 (λah=>?_) (λah=>?_))
 .refine Yp 8 2 ?_;rw[ah]at hK;exact wu hK [] [] 2 J
 refine Yp 8 2 ?_;rw[ah]at hK;exact wu hK [] [] 2 J
theorem Hj {p0 p1:U Item}(h:qR p0 p1=some r):Fn QbP 26 [sL aa p0,sL aa p1,.func 28 []] (.bool r):=by
 unfold qR at h;refine fT 0 8 Tryz.func26 Tryz.ntmps26 J (sQ (al TL J (Y 1 0 (sQ (al TL J (Y 2 0 (TH h J (λah h=>?_) (λah h=>?_))))))))
 .refine X 4 0 ?_;cases h;exact tD
 refine X 5 0 (sQ (al TL J (Y 3 0 (itr (λbO:Int=>mkA 32 [(1,sL aa p1),(2,.func 28 []),(15,sL aa p0),(16,iI ((p0).length:Int)),(17,iI bO)]) (λbO=>[]) h (wk [] [] 0 J) (λbO v_7 h ir=>?_)))));revert ir h;revert bO;intro s1 h ir;replace h:qN p0 p1 s1=some v_7:=h;try dsimp only
 unfold qN at h;refine X 5 0 (TH h J (λbF h=>?_) (λbF h=>?_))
 .refine B h λx3 hx3 h=>(X 6 0 (sQ (aG TL (λ_=>J) J J hx3 (B h λx5 hx5 h=>(Y 9 0 (sQ (aG TL (λ_=>J) J J hx5 (B h λx7 hx7 h=>(Y 9 1 (sO (cF (HY hx7) ⟨J,(Y 2 2 ?_)⟩)))))))))))
  refine TH h J (λdP h=>?_) (λdP h=>?_)
  .refine X 4 2 ?_;replace h:=mi h ir;cases h;exact tD
  exact X 5 2 (lk h (wk [] [] 2 J))
 refine X 1 0 ?_;replace h:=mi h ir;refine X 4 0 ?_;cases h;exact tD
theorem As {p0 p1:U Item}(h:o7 p0 p1=some r):Fn QbP 10 [sL aa p0,sL aa p1] (.bool r):=by
 unfold o7 at h;refine fT 0 0 Tryz.func10 Tryz.ntmps10 J ?_;refine B h λx2 hx2 h=>(X 8 0 (sO (cF (Hj hx2) ⟨J,(Y 2 0 ?_)⟩)))
 cases h;exact tD
theorem HR {p0 r:U Move}(h:uy p0=some r):FnO QbP 63 [.sl (List.map aH p0)] (.ref 0) [.arr 78 2 (List.map aH r)]:=by
 have hr:p0=r:=by
  unfold uy app at h;split at h
  .simpa using h
  .cases h
 refine iE (N:=0) J Tryz.func63 J (by kernel_rfl) Tryz.ntmps63 J ?_;show T _ _ _ _ (mkA 8 [(0,.sl (List.map aH p0))]) [];refine T.seq ?_;refine T.region ?_;refine RS.op J (TV J (cA (v:=.nils) J ?_));refine RS.nil ?_;refine T.seq ?_;refine T.seq ?_;refine T.region ?_;refine RS.op J (TV J (eE (v:=.sl (List.map aH p0)) J ?_));refine RS.op J (TV J (jN TU J J (λz hz=>?_)));refine RS.nil ?_;refine T.cond (b:=z) J (λhb=>?_) (λhb=>?_)
 .refine T.seq ?_;refine T.region ?_;refine RS.op J (TV J (cA (v:=.nils) J ?_));refine RS.nil ?_;refine T.ret ?_;refine eA (v:=.nils) J ?_;refine eu ?_;have h0:p0=[]:=Sq.1 (hz hb);exact eC (.ref 0) [(0,78,2)] [0] (by decide) (b8 _) J (bX J) (eD (en:=aH) (ys:=[]) J vp (by rw[<- hr,h0]) (au)) ⟨J,J⟩
 .refine T.skip ?_;refine T.seq ?_;refine T.region ?_;refine RS.op J (bi (rows:=List.map aH []) (vs:=[]) TU UE J J J J J (aw':=[.arr 78 2 (List.map aH [])]) J ?_);refine RS.op J (TV J (eE (v:=.sl (List.map aH p0)) J ?_));refine RS.op J (bU (en:=aH) (xs:=([]:U Move)) (ys:=p0) (r:=r) TU (λ_=>J) J J J h J (aw':=[.dead,.arr 78 2 (List.map aH r)]) J ?_);refine RS.op J (TV J (cA (v:=.ref 1) J ?_));refine RS.nil ?_;refine T.ret ?_;refine eA (v:=.ref 1) J ?_;refine eu ?_;exact eC (.ref 0) [] [1] (by decide) (b8 _) J (bX J) (eD J vp J (au)) ⟨J,J⟩
theorem uN {p0:U Choice}{p1 r:Int}(h:rT p0 p1=some r):Fn QbP 66 [sL ao p0,iI p1] (iI r):=by
 unfold rT at h;refine fT 0 12 Tryz.func66 Tryz.ntmps66 J (sQ (al TN J (Y 3 0 (itr (λak:Int×Int=>mkA 22 [(1,iI p1),(5,iI ak.1),(8,sL ao p0),(9,iI ((p0).length:Int)),(10,iI ak.2)]) (λak=>[]) h (wk [] [] 0 J) (λak v_6 h bg=>?_)))));obtain⟨s1,s2⟩:=ak;replace h:lC p0 p1 s1 s2=some v_6:=h;try dsimp only
 unfold lC at h;refine X 5 0 (TH h J (λbH h=>?_) (λbH h=>?_))
 .refine B h λx4 hx4 h=>(X 5 0 (sQ (aG TN (λ_=>J) J J hx4 (Y 11 0 (TH h J (λbF h=>?_) (λbF h=>?_))))))
  .exact X 9 1 (lk h (wk [] [] 1 J))
  exact X 5 1 (lk h (wk [] [] 1 J))
 refine X 1 0 ?_;replace h:=mi h bg;refine X 5 0 ?_;cases h;exact tD
theorem IG {p0:U Choice}{p1 r:Int}(h:rZ p0 p1 p2=some r):Fn QbP 65 [sL ao p0,iI p1,iI p2] (iI r):=by
 unfold rZ at h;refine fT 0 8 Tryz.func65 Tryz.ntmps65 J (sQ (al TN J (Y 3 0 (itr (λaU:Int×Int=>mkA 26 [(1,iI p1),(2,iI aU.1),(9,sL ao p0),(10,iI ((p0).length:Int)),(11,iI aU.2)]) (λaU=>[]) h (wk [] [] 0 J) (λaU v_8 h fF=>?_)))));obtain⟨s1,s2⟩:=aU;replace h:jA p0 p1 s1 s2=some v_8:=h;try dsimp only
 unfold jA at h;refine X 5 0 (TH h J (λdP h=>?_) (λdP h=>?_))
 .refine B h λx4 hx4 h=>(X 5 0 (sQ (aG TN (λ_=>J) J J hx4 (Y 12 0 (TH h J (λeY h=>?_) (λeY h=>?_))))))
  .exact X 5 1 (lk h (wk [] [] 1 J))
  refine X 7 1 (TH h J (λom h=>?_) (λom h=>?_))
  .refine X 6 1 ?_;replace h:=mi h fF;cases h;exact tD
  exact X 10 1 (lk h (wk [] [] 1 J))
 refine X 1 0 ?_;replace h:=mi h fF;refine X 4 0 ?_;cases h;exact tD
theorem Ah {p0:Move}(h:oN p0 p1 p2 p3 p4 p5 p6 p7 p8 p9=some r):FnX QbP 64 [.agg (aH p0),.ptr 0 0,.ptr 1 0,.ptr 2 0] [.box [sL an p1,iI p2,iI p3],.box [sL ao p4],.box [sL aj p5,sL (ai aa) p6,sL aC p7,sL ao p8,sL aa p9]] (.bool r) [.box [sL an p1,iI p2,iI p3],.box [sL ao p4],.box [sL aj p5,sL (ai aa) p6,sL aC p7,sL ao p8,sL aa p9]]:=by
 unfold oN at h;refine fT 3 6 Tryz.func64 Tryz.ntmps64 J ?_;obtain⟨z7,hz,h⟩:=bind_some h;revert hz h;revert z7;intro c2 hz h;refine j1 [(2,.ptr 1 0),(3,.ptr 2 0),(4,.ptr 3 0),(27,.bool c2)] [.box [sL an p1,iI p2,iI p3],.box [sL ao p4],.box [sL aj p5,sL (ai aa) p6,sL aC p7,sL ao p8,sL aa p9],.box (aH p0)] ?_ (λhK=>?_)
 .refine TH h J (λaD h=>?_) (λaD h=>?_)
  .refine X 4 4 ?_;cases h;exact tN [0,1,2]
  refine B h λx5 hx5 h=>(B h λx6 hx6 h=>(X 2 4 (T.drawn mixed (k:=10) J ?_)))
  apply TG 2 (bm 10 255);intro hS5;apply TG 3 (bm 10 251);intro hS6;apply TG 3 (bm 10 127);intro hS7
  .refine rq [1,3,5] 7 (rL [4,7,8,9] 4 J (rL [6,7,8,9] 6 J (ra3 0 2 7 ?_ ?_ ?_)))
   .refine og 4 ⟨J,(ra2 2 7 ?_ ?_)⟩
    .exact og 4 ⟨J,(raE hS7)⟩
    .exact oO J (cF (uN hx5) ⟨J,(raE hS6)⟩)
   .refine og 4 ⟨J,(ra2 0 7 ?_ ?_)⟩
    .exact og 4 ⟨J,(raT hS7)⟩
    .exact oO J (cF (uN hx5) ⟨J,(ra1 0 (og 4 ⟨J,(raE hS5)⟩))⟩)
   .exact oO J (cF (uN hx5) ⟨J,(rL [0,8,9] 0 J (raT hS6))⟩)
  .exact ra1 7 (oO J (cF (uN hx5) ⟨J,(raT hS5)⟩))
  .exact ra1 2 (og 4 ⟨J,(raT hS5)⟩)
  refine ra1 8 (oO J (cF (IG hx6) ⟨J,(rq [9] 0 (RA.done (by decide+kernel) (j1 [(5,.bool ((decide (x6>=0))&&x6 !=p0.Lane))] [.box [sL an p1,iI p2,iI p3],.box [sL ao p4],.box [sL aj p5,sL (ai aa) p6,sL aC p7,sL ao p8,sL aa p9]] ?_ (λhK=>?_))))⟩))
  .cases h;exact tN [0,1,2]
  refine X 5 4 (gp 39 (λbF=>?_) (λbF=>?_))
  .refine Yp 7 4 ?_;rw[bF]at hK;exact wu hK [] [0,1,2] 4 J
  refine Yp 7 4 ?_;rw[bF]at hK;exact wu hK [] [0,1,2] 4 J
 refine X 6 4 (gi 10 hz (λah hz=>?_) (λah hz=>?_))
 .refine Yp 18 4 ?_;cases hz;exact sx hK
 refine Y 4 4 (yQ J (al TJ J (Yp 3 4 (gi 18 hz (λae hz=>?_) (λae hz=>?_)))))
 .refine Yp 10 4 ?_;cases hz;exact sx hK
 refine B hz λx1 hx1 hz=>(Y 4 4 (yQ J (aG TJ (λ_=>J) J J hx1 (Yp 5 4 ?_))))
 cases hz;exact sx hK
theorem Hu {p0:U Move}{r:Int}(h:q5 p0 p1 p2 p3 p4 p5 p6 p7 p8 p9=some r):FnX QbP 95 [.ref 0,.func 64 [.ptr 1 0,.ptr 2 0,.ptr 3 0]] [aR 78 2 aH p0,.box [sL an p1,iI p2,iI p3],.box [sL ao p4],.box [sL aj p5,sL (ai aa) p6,sL aC p7,sL ao p8,sL aa p9]] (iI r) [aR 78 2 aH p0,.box [sL an p1,iI p2,iI p3],.box [sL ao p4],.box [sL aj p5,sL (ai aa) p6,sL aC p7,sL ao p8,sL aa p9]]:=by
 unfold q5 at h;refine fT 4 8 Ww Wx J (sQ (cn (en:=aH) TU J J (Y 3 4 (itr (λak:Int=>mkA 19 [(0,.ref 0),(1,.func 64 [.ptr 1 0,.ptr 2 0,.ptr 3 0]),(7,iI ((p0).length:Int)),(8,iI ak)]) (λak=>[aR 78 2 aH p0,.box [sL an p1,iI p2,iI p3],.box [sL ao p4],.box [sL aj p5,sL (ai aa) p6,sL aC p7,sL ao p8,sL aa p9]]) h (wk [] [0,1,2,3] 4 J) (λak v_6 h bg=>?_)))));revert bg h;revert ak;intro s1 h bg;replace h:qX p0 p1 p2 p3 p4 p5 p6 p7 p8 p9 s1=some v_6:=h;try dsimp only
 unfold qX at h;refine X 5 4 (TH h J (λbH h=>?_) (λbH h=>?_))
 .refine B h λx5 hx5 h=>(B h λx6 hx6 h=>(B h λx7 hx7 h=>(X 13 4 (sQ (aM (en:=aH) TU J J J hx5 (sO (aO (en:=aH) (a:=x6) J J hx6 (eS Ub T8 J (cs:=(aH x6)) J (sO (cG [1,2,3] 4 3 (Ah hx7) ⟨J,(Y 1 4 (TH h J (λbF h=>?_) (λbF h=>?_)))⟩))))))))))
  .refine X 5 4 ?_;replace h:=mi h bg;cases h;exact tN [0,1,2,3]
  exact X 5 4 (lk h (wk [] [0,1,2,3] 4 J))
 refine X 1 4 ?_;replace h:=mi h bg;refine X 4 4 ?_;cases h;exact tN [0,1,2,3]
theorem Hr {p0:U Move}{r:U Move}(h:um p0 p1 p2 p3 p4 p5 p6 p7 p8 p9=some r):FnX QbP 62 [.ref 0,.func 64 [.ptr 1 0,.ptr 2 0,.ptr 3 0]] [aR 78 2 aH p0,.box [sL an p1,iI p2,iI p3],.box [sL ao p4],.box [sL aj p5,sL (ai aa) p6,sL aC p7,sL ao p8,sL aa p9]] (.ref 4) [.dead,.box [sL an p1,iI p2,iI p3],.box [sL ao p4],.box [sL aj p5,sL (ai aa) p6,sL aC p7,sL ao p8,sL aa p9],aR 78 2 aH r]:=by
 unfold um at h;refine fT 4 0 Tryz.func62 Tryz.ntmps62 J ?_;refine US 0 0 J J J J (B h λx2 hx2 h=>(X 8 5 (sO (cG [4,1,2,3] 5 4 (Hu hx2) ⟨J,(Y 8 5 (TH h J (λah h=>?_) (λah h=>?_)))⟩))))
 .refine X 5 5 ?_;cases h;exact tO [] [0,1,2,3,4] 5
 refine X 9 5 (itr (λbO:Int×Int×(U Move)=>mkA 42 [(0,.ref 4),(1,.func 64 [.ptr 1 0,.ptr 2 0,.ptr 3 0]),(5,iI bO.1),(6,iI bO.2.1)]) (λbO=>[.dead,.box [sL an p1,iI p2,iI p3],.box [sL ao p4],.box [sL aj p5,sL (ai aa) p6,sL aC p7,sL ao p8,sL aa p9],aR 78 2 aH bO.2.2]) h (wk [] [0,1,2,3,4] 5 J) (λbO v_7 h ir=>?_));obtain⟨s3,s4,s5⟩:=bO;replace h:jw p1 p2 p3 p4 p5 p6 p7 p8 p9 s3 s4 s5=some v_7:=h;try dsimp only
 unfold jw at h;refine X 5 5 (sQ (cn (en:=aH) TU J J (Y 2 5 (TH h J (λbF h=>?_) (λbF h=>?_)))))
 .refine B h λx8 hx8 h=>(B h λx9 hx9 h=>(X 7 5 (sQ (aM (en:=aH) TU J J J hx8 (sO (aO (en:=aH) (a:=x9) J J hx9 (eS Ub T8 J (cs:=(aH x9)) J (B h λx11 bw h=>(Y 7 5 (sO (cG [1,2,3] 6 3 (Ah bw) ⟨J,(Y 2 6 (TH h J (λdP h=>?_) (λdP h=>?_)))⟩)))))))))))
  .exact B h λx14 cm h=>(B h λx15 dY h=>(X 5 6 (sQ (aM (en:=aH) TU J J J cm (sO (e9 (en:=aH) (a:=x15) (a':=x9) T8 U1 J (vs:=[iI x9.Node,iI x9.Lane]) J J J dY J J J (Y 11 6 (lk h (wk [] [0,1,2,3,4] 6 J)))))))))
  exact X 6 6 (lk h (wk [] [0,1,2,3,4] 6 J))
 refine X 1 5 ?_;replace h:=mi h ir;refine B h λx18 cI h=>(B h λx19 cU h=>(X 4 5 (sO (iV (en:=aH) (xs:=s5) TU J J J J cI (sO (Jr (en:=aH) (xs:=s5) (z0:=(⟨0,0⟩:Move)) TU UE (λ_=>J) J J cU J (B h λx21 ju h=>(Y 5 5 (sO (A0 (en:=aH) (xs:=(clr s5 ((s3).toNat) ((((s5).length:Int)).toNat- (s3).toNat) (⟨0,0⟩:Move))) TU J J J ju J J (Y 2 6 ?_)))))))))))
 cases h;exact tO [] [0,1,2,3,5] 6
theorem Av {p1:State}{p2:U Choice}{p3 r:U Move}(h:jB p0 p1 p2 p3=some r):FnO QbP 32 [.agg (aK p0),.agg (bE p1),sL ao p2,sL aH p3] (.ref 0) [aR 78 2 aH r]:=by
 unfold jB at h;refine fT 0 0 Tryz.func32 Tryz.ntmps32 J ?_;refine B h λx3 hx3 h=>(B h λx4 hx4 h=>(X 10 0 (sO (cO 3 (HR hx3) ⟨J,(Y 1 4 (sO (cG [3,0,2,1] 4 5 (Hr hx4) ⟨J,(Y 2 5 ?_)⟩)))⟩))))
 cases h;exact tO [] [4] 5
theorem IV {p1:U (U Item)}{p2:U Choice}{p3:U Int}{r:State×Int}(h:pz p0 p1 p2 p3=some r):Fn QbP 11 [.agg (aK p0),sL (ai aa) p1,sL ao p2,sL aj p3] (.tup [.agg (bE r.1),iI r.2]):=by
 unfold pz at h;refine fT 0 0 Tryz.func11 Tryz.ntmps11 J ?_;refine B h λx2 hx2 h=>(X 10 0 (sO (cG [] 2 5 (TR (m6 hx2)) ⟨J,(Y 13 7 (TH h J (λah h=>?_) (λah h=>?_)))⟩)))
 .refine X 7 8 ?_;cases h;exact tD
 refine B h λx4 hx4 h=>(X 6 8 (sO (cF (uK hx4) ⟨J,(Y 7 8 (TH h J (λae h=>?_) (λae h=>?_)))⟩)))
 .refine X 7 8 ?_;cases h;exact tD
 refine X 5 8 (sQ (al TK J (Y 2 8 (TH h J (λaq h=>?_) (λaq h=>?_)))))
 .refine X 6 8 ?_;cases h;exact tD
 refine X 5 8 (sQ (al TK J (Y 3 8 (T.fC 2 (T.fC 3 (T.fC 4 (T.fC 5 (T.fC 6 (itr (λfW:Int×(U Int)×(U (U Item))×(U Memory)×(U Choice)×(U Item)=>mkA 81 [(1,sL (ai aa) p1),(2,sL ao p2),(4,.ptr 0 0),(8,.ptr 1 0),(10,.ptr 2 0),(38,sL aj p3),(39,iI ((p3).length:Int)),(40,iI fW.1)]) (λfW=>[.box (aK p0),.box [.nils,.nils,.nils,.nils,.nils],.box [sL aj fW.2.1,sL (ai aa) fW.2.2.1,sL aC fW.2.2.2.1,sL ao fW.2.2.2.2.1,sL aa fW.2.2.2.2.2]]) h (wk [] [0,1,7] 8 J) (λfW v_19 h GM=>?_))))))))));obtain⟨s5,s6,s7,s8,s9,s10⟩:=fW;replace h:jz p0 p1 p2 p3 s5 s6 s7 s8 s9 s10=some v_19:=h;try dsimp only
 unfold jz at h;refine X 5 3 (TH h J (λbQ h=>?_) (λbQ h=>?_))
 .refine B h λx12 bx h=>(X 5 3 (sQ (aG TK (λ_=>J) J J bx (B h λx14 cm h=>(Y 8 3 (sO (cO 3 (rQ cm) ⟨J,(B h λx16 e6 h=>(Y 12 4 (sO (cO 4 (Av e6) ⟨J,(Y 6 5 ?_)⟩))))⟩)))))))
  refine sQ (cn (en:=aH) TU J J (Y 2 5 (TH h J (λtI h=>?_) (λtI h=>?_))))
  .refine X 1 5 ?_;replace h:=mi h GM;refine X 6 5 ?_;cases h;exact tD
  refine B h λx17 cE h=>(B h λx18 cI h=>(B h λx19 cU h=>(B h λx20 ee h=>(B h λx21 ju h=>(X 1 5 (T.drawn mixed (k:=21) J (rq [1,3,4,5] 17 (r0 6 J (cn (en:=aH) TU J J (r0 7 J (jh J J cE ?_)))))))))))
  refine rq [8] 14 (r0 9 J (cn (en:=aH) TU J J (rq [10,11] 11 (r0 12 J (cn (en:=aH) TU J J (r0 13 J (jh J J cI (r0 14 J (aM (en:=aH) TU J J J cU (rL [0,16,17,18,19,20] 0 J (rL [2,16,17,18,19,20] 2 J (ra1 15 (oO J (aO (en:=aH) (a:=x20) J J ee (eS Ub T8 J (cs:=(aH x20)) J ?_)))))))))))))));exact ra1 16 (oO J (cD (nE ju) ⟨J,(rq [17,18,19] 1 (ra1 20 (og 5 ⟨J,(RA.done (by decide+kernel) (X 4 5 (lk h (wk [] [0,1,2] 5 J))))⟩)))⟩))
 refine X 1 3 ?_;replace h:=mi h GM;refine X 6 3 ?_;cases h;exact tD
theorem Iq {p1:U (U Item)}{p2:U Choice}{p3:State}{r:State×Int}(h:pj p0 p1 p2 p3=some r):Fn QbP 12 [.agg (aK p0),sL (ai aa) p1,sL ao p2,.agg (bE p3)] (.tup [.agg (bE r.1),iI r.2]):=by
 unfold pj at h;refine fT 0 0 Tryz.func12 Tryz.ntmps12 J ?_;refine B h λx2 hx2 h=>(X 13 0 (sO (cF (rM hx2) ⟨J,(Y 7 3 (TH h J (λah h=>?_) (λah h=>?_)))⟩)))
 .refine X 7 3 ?_;cases h;exact tD
 refine B h λx4 hx4 h=>(X 6 3 (sO (cF (uK hx4) ⟨J,(Y 7 3 (TH h J (λae h=>?_) (λae h=>?_)))⟩)))
 .refine X 7 3 ?_;cases h;exact tD
 refine B h λx6 hx6 h=>(X 4 3 (sO (cG [] 3 5 (TR (xn hx6)) ⟨J,(Y 3 8 (T.fC 3 (T.fC 4 (T.fC 5 (T.fC 6 (T.fC 7 (itr (λbB:(U Int)×(U (U Item))×(U Memory)×(U Choice)×(U Item)=>mkA 57 [(1,sL (ai aa) p1),(2,sL ao p2),(4,.ptr 0 0),(7,.ptr 1 0),(8,.ptr 2 0)]) (λbB=>[.box (aK p0),.box [sL aj bB.1,sL (ai aa) bB.2.1,sL aC bB.2.2.1,sL ao bB.2.2.2.1,sL aa bB.2.2.2.2],.box [.nils,.nils,.nils,.nils,.nils]]) h (wk [] [0,1,2] 8 J) (λbB v_11 h qy=>?_))))))))⟩)))
 obtain⟨s7,s8,s9,s10,s11⟩:=bB;replace h:ko p0 p1 p2 s7 s8 s9 s10 s11=some v_11:=h;try dsimp only
 unfold ko at h;refine B h λx13 dc h=>(X 6 3 (sO (cO 3 (rQ dc) ⟨J,(B h λx15 dY h=>(Y 13 4 (sO (cO 4 (Av dY) ⟨J,(Y 5 5 (sQ (cn (en:=aH) TU J J (Y 2 5 (TH h J (λgC h=>?_) (λgC h=>?_))))))⟩))))⟩)))
 .refine X 6 5 ?_;replace h:=mi h qy;cases h;exact tD
 refine B h λx16 e6 h=>(B h λx17 cE h=>(B h λx18 cI h=>(X 1 5 (T.drawn mixed (k:=11) J (rq [1,3] 9 (r0 4 J (aM (en:=aH) TU J J J e6 (rL [0,6,7,8,9,10] 0 J (rL [2,6,7,8,9,10] 2 J (ra1 5 ?_))))))))))
 exact oO J (aO (en:=aH) (a:=x17) J J cE (eS Ub T8 J (cs:=(aH x17)) J (ra1 6 (oO J (cD (nE cI) ⟨J,(rq [7,8,9] 1 (ra1 10 (og 5 ⟨J,(RA.done (by decide+kernel) (lk h (wk [] [0,1,2] 5 J)))⟩)))⟩)))))
theorem HA {p0:Move}{p4:U (U Item)}{p5:Int}{p6:U ((U UInt8)×Unit)}{p7:U (U Item)}(h:q9 p0 p1 p2 p3 p4 p5 p6 p7=some r):FnX QbP 137 [.agg (aH p0),.ptr 0 0] [.box [.ptr 1 0],.box [sL an p1,iI p2,iI p3,sL (ai aa) p4,iI p5,.mpr 2,.ref 3],.mp (List.map kS (List.map Prod.fst p6)) (List.map kU (List.map Prod.snd p6)),aR 30 1 (ai aa) p7] (.bool r) [.box [.ptr 1 0],.box [sL an p1,iI p2,iI p3,sL (ai aa) p4,iI p5,.mpr 2,.ref 3],.mp (List.map kS (List.map Prod.fst p6)) (List.map kU (List.map Prod.snd p6)),aR 30 1 (ai aa) p7]:=by
 unfold q9 at h;refine fT 4 0 Tryz.func137 Tryz.ntmps137 J ?_;refine B h λx2 hx2 h=>(X 6 4 (T.drawn mixed (k:=12) J (rq [5] 11 (rL [0,1,2,3,4,7,8,9,10,11] 0 J (rq [1,2,3] 7 (rL [4,7,8,9,10,11] 4 J (ra1 6 (og 5 ⟨J,(r0 7 J (aG TJ (λ_=>J) J J hx2 ?_))⟩))))))))
 refine rq [8] 3 (ra1 9 (og 5 ⟨J,(rq [10,11] 0 (RA.done (by decide+kernel) ?_))⟩));cases h;exact tN [0,1,2,3]
theorem Hs {p0:U Move}{p4:U (U Item)}{p5:Int}{p6:U ((U UInt8)×Unit)}{p7:U (U Item)}{r:Int}(h:oJ p0 p1 p2 p3 p4 p5 p6 p7=some r):FnX QbP 95 [.ref 0,.func 137 [.ptr 1 0]] [aR 78 2 aH p0,.box [.ptr 2 0],.box [sL an p1,iI p2,iI p3,sL (ai aa) p4,iI p5,.mpr 3,.ref 4],.mp (List.map kS (List.map Prod.fst p6)) (List.map kU (List.map Prod.snd p6)),aR 30 1 (ai aa) p7] (iI r) [aR 78 2 aH p0,.box [.ptr 2 0],.box [sL an p1,iI p2,iI p3,sL (ai aa) p4,iI p5,.mpr 3,.ref 4],.mp (List.map kS (List.map Prod.fst p6)) (List.map kU (List.map Prod.snd p6)),aR 30 1 (ai aa) p7]:=by
 unfold oJ at h;refine fT 5 8 Ww Wx J (sQ (cn (en:=aH) TU J J (Y 3 5 (itr (λak:Int=>mkA 19 [(0,.ref 0),(1,.func 137 [.ptr 1 0]),(7,iI ((p0).length:Int)),(8,iI ak)]) (λak=>[aR 78 2 aH p0,.box [.ptr 2 0],.box [sL an p1,iI p2,iI p3,sL (ai aa) p4,iI p5,.mpr 3,.ref 4],.mp (List.map kS (List.map Prod.fst p6)) (List.map kU (List.map Prod.snd p6)),aR 30 1 (ai aa) p7]) h (wk [] [0,1,2,3,4] 5 J) (λak v_6 h bg=>?_)))));revert bg h;revert ak;intro s1 h bg;replace h:j8 p0 p1 p2 p3 p4 p5 p6 p7 s1=some v_6:=h;try dsimp only
 unfold j8 at h;refine X 5 5 (TH h J (λbH h=>?_) (λbH h=>?_))
 .refine B h λx5 hx5 h=>(B h λx6 hx6 h=>(B h λx7 hx7 h=>(X 13 5 (sQ (aM (en:=aH) TU J J J hx5 (sO (aO (en:=aH) (a:=x6) J J hx6 (eS Ub T8 J (cs:=(aH x6)) J (sO (cG [1,2,3,4] 5 4 (HA hx7) ⟨J,(Y 1 5 (TH h J (λbF h=>?_) (λbF h=>?_)))⟩))))))))))
  .refine X 5 5 ?_;replace h:=mi h bg;cases h;exact tN [0,1,2,3,4]
  exact X 5 5 (lk h (wk [] [0,1,2,3,4] 5 J))
 refine X 1 5 ?_;replace h:=mi h bg;refine X 4 5 ?_;cases h;exact tN [0,1,2,3,4]
theorem HC {p0:State}{p4:U (U Item)}{p5:Int}{p6:U ((U UInt8)×Unit)}{p7:U (U Item)}{r:State×(U Move)}(h:rc p0 p1 p2 p3 p4 p5 p6 p7=some r):FnX QbP 110 [.ptr 0 0,.agg (bE p0)] [.box [sL an p1,iI p2,iI p3,sL (ai aa) p4,iI p5,.mpr 1,.ref 2],.mp (List.map kS (List.map Prod.fst p6)) (List.map kU (List.map Prod.snd p6)),aR 30 1 (ai aa) p7] (.tup [.agg (bE r.1),.ref 3]) [.box [sL an p1,iI p2,iI p3,sL (ai aa) p4,iI p5,.mpr 1,.ref 2],.mp (List.map kS (List.map Prod.fst p6)) (List.map kU (List.map Prod.snd p6)),aR 30 1 (ai aa) p7,aR 78 2 aH r.2]:=by
 unfold rc at h;refine fT 3 8 Tryz.func110 Tryz.ntmps110 J (itr (λdU:(U Int)×(U (U Item))×(U Memory)×(U Choice)×(U Item)=>mkA 46 [(2,.ptr 3 0),(3,.ptr 4 0),(4,.ptr 5 0)]) (λdU=>[.box [sL an p1,iI p2,iI p3,sL (ai aa) p4,iI p5,.mpr 1,.ref 2],.mp (List.map kS (List.map Prod.fst p6)) (List.map kU (List.map Prod.snd p6)),aR 30 1 (ai aa) p7,.box [.ptr 0 0],.box [sL aj dU.1,sL (ai aa) dU.2.1,sL aC dU.2.2.1,sL ao dU.2.2.2.1,sL aa dU.2.2.2.2],.box [.nils,.nils,.nils,.nils,.nils]]) h (wk [] [0,1,2,3,4,5] 6 J) (λdU v_20 h zw=>?_));obtain⟨s1,s2,s3,s4,s5⟩:=dU;replace h:jx p1 p2 p3 p4 p5 p6 p7 s1 s2 s3 s4 s5=some v_20:=h;try dsimp only
 unfold jx at h;refine B h λx7 hx7 h=>(X 2 6 (T.drawn mixed (k:=15) J ?_))
 apply TG 6 (bm 15 511);intro uh;apply TG 7 (bm 15 255);intro tY;apply TG 7 (bm 15 383);intro fZ
 .refine ra3 0 4 8 ?_ ?_ ?_
  .exact og 6 ⟨J,(rq [1,2] 12 (rL [4,5,6,7,9,10,11,12,13,14] 4 J (rq [5,6] 9 (rL [3,9,10,11,12,13,14] 3 J (rL [7,9,10,11,12,13,14] 7 J (raE tY))))))⟩
  .exact og 6 ⟨J,(rq [5,6] 12 (rL [0,1,2,3,9,10,11,12,13,14] 0 J (rq [1,2] 9 (rL [3,9,10,11,12,13,14] 3 J (rL [7,9,10,11,12,13,14] 7 J (raT tY))))))⟩
  .refine og 6 ⟨J,(ra2 0 4 ?_ ?_)⟩
   .exact og 6 ⟨J,(rq [1,2] 11 (rL [4,5,6,7,9,10,11,12,13,14] 4 J (rq [5,6] 8 (rL [3,9,10,11,12,13,14] 3 J (raE fZ)))))⟩
   .exact og 6 ⟨J,(rq [5,6] 11 (rL [0,1,2,3,9,10,11,12,13,14] 0 J (rq [1,2] 8 (rL [3,9,10,11,12,13,14] 3 J (raT fZ)))))⟩
 .exact ra1 7 (og 6 ⟨J,(raE uh)⟩)
 .exact ra1 8 (og 6 ⟨J,(raT uh)⟩)
 refine ra1 9 (oO J (cO 6 (rQ hx7) ⟨J,(rq [10,11,12,13,14] 0 (RA.done (by decide+kernel) (B h λx9 hx9 h=>(X 4 7 (sO (cG [6,3,0,1,2] 7 5 (Hs hx9) ⟨J,(Y 8 7 (TH h J (λow h=>?_) (λow h=>?_)))⟩))))))⟩))
 .refine X 7 7 ?_;replace h:=mi h zw;cases h;exact tO [] [0,1,2,6] 7
 refine B h λx10 aY h=>(B h λx11 bw h=>(B h λx12 bx h=>(X 1 7 (T.drawn mixed (k:=18) J ?_))))
 apply TG 5 (bm 18 8191);intro f0;apply TG 6 (bm 18 4095);intro gJ;apply TG 6 (bm 18 7935);intro jt;apply TG 6 (bm 18 8063);intro hJ;apply TG 13 (bm 18 7936);intro ln
 .refine rq [9,10] 16 (r0 11 J (aM (en:=aH) TU J J J aY (ra4 0 4 8 12 ?_ ?_ ?_ ?_)))
  .exact og 7 ⟨J,(rq [1,2] 12 (rL [4,5,6,7,13,14,15,16,17] 4 J (rq [5,6] 9 (rL [3,13,14,15,16,17] 3 J (rL [7,13,14,15,16,17] 7 J (rL [8,13,14,15,16,17] 8 J (raE gJ)))))))⟩
  .exact og 7 ⟨J,(rq [5,6] 12 (rL [0,1,2,3,13,14,15,16,17] 0 J (rq [1,2] 9 (rL [3,13,14,15,16,17] 3 J (rL [7,13,14,15,16,17] 7 J (rL [8,13,14,15,16,17] 8 J (raT gJ)))))))⟩
  .refine og 7 ⟨J,(ra3 0 4 12 ?_ ?_ ?_)⟩
   .exact og 7 ⟨J,(rq [1,2] 11 (rL [4,5,6,7,13,14,15,16,17] 4 J (rq [5,6] 8 (rL [3,13,14,15,16,17] 3 J (rL [7,13,14,15,16,17] 7 J (raT gJ))))))⟩
   .exact og 7 ⟨J,(rq [5,6] 11 (rL [0,1,2,3,13,14,15,16,17] 0 J (rq [1,2] 8 (rL [3,13,14,15,16,17] 3 J (rL [7,13,14,15,16,17] 7 J (raT gJ))))))⟩
   .exact oO J (aO (en:=aH) (a:=x11) J J bw (eS Ub T8 J (cs:=(aH x11)) J (raE ln)))
  .refine oO J (aO (en:=aH) (a:=x11) J J bw (eS Ub T8 J (cs:=(aH x11)) J (ra3 0 4 8 ?_ ?_ ?_)))
   .exact og 7 ⟨J,(rq [1,2] 11 (rL [4,5,6,7,13,14,15,16,17] 4 J (rq [5,6] 8 (rL [3,13,14,15,16,17] 3 J (rL [7,13,14,15,16,17] 7 J (raE jt))))))⟩
   .exact og 7 ⟨J,(rq [5,6] 11 (rL [0,1,2,3,13,14,15,16,17] 0 J (rq [1,2] 8 (rL [3,13,14,15,16,17] 3 J (rL [7,13,14,15,16,17] 7 J (raT jt))))))⟩
   .exact og 7 ⟨J,(raT ln)⟩
 .refine ra2 0 4 ?_ ?_
  .exact og 7 ⟨J,(rq [1,2] 10 (rL [4,5,6,7,13,14,15,16,17] 4 J (rq [5,6] 7 (rL [3,13,14,15,16,17] 3 J (raE hJ)))))⟩
  .exact og 7 ⟨J,(rq [5,6] 10 (rL [0,1,2,3,13,14,15,16,17] 0 J (rq [1,2] 7 (rL [3,13,14,15,16,17] 3 J (raT hJ)))))⟩
 .exact ra1 7 (og 7 ⟨J,(raE f0)⟩)
 .exact ra1 8 (og 7 ⟨J,(raT f0)⟩)
 .exact ra1 12 (oO J (aO (en:=aH) (a:=x11) J J bw (eS Ub T8 J (cs:=(aH x11)) J (raT f0))))
 exact ra1 13 (oO J (cD (nE bx) ⟨J,(rq [14,15,16] 1 (ra1 17 (og 7 ⟨J,(RA.done (by decide+kernel) (lk h (wk [] [0,1,2,3,4,5] 7 J)))⟩)))⟩))
end
end
section
open Go.RowKit Go.Shelf
set_option maxRecDepth 100000
set_option maxHeartbeats 4000000
def iR:Go.Shelf.Ren:=⟨λn=>match n with|129=>149|171=>139|243=>162|246=>171|283=>176|284=>177|285=>178|286=>179|317=>180|318=>181|319=>182|320=>183|337=>184|338=>185|_=>0,λn=>match n with|0=>0|2=>2|3=>3|4=>4|5=>5|9=>9|20=>20|37=>150|46=>146|51=>243|53=>215|171=>274|173=>276|212=>280|213=>281|232=>282|233=>283|_=>0,λn=>match n with|17=>0|18=>1|19=>2|_=>0⟩
theorem iL:Lays.n171 QbP iR where
 mixed:=by kernel_rfl
 f129:=by kernel_rfl
 f171:=by kernel_rfl
 f243:=by kernel_rfl
 f246:=by kernel_rfl
 f283:=by kernel_rfl
 f284:=by kernel_rfl
 f285:=by kernel_rfl
 f286:=by kernel_rfl
 f317:=by kernel_rfl
 f318:=by kernel_rfl
 f319:=by kernel_rfl
 f320:=by kernel_rfl
 f337:=by kernel_rfl
 f338:=by kernel_rfl
 t0:=by kernel_rfl
 a0:=λw=>by kernel_rfl
 z0:=λw=>by kernel_rfl
 v0:=λw=>by kernel_rfl
 t2:=by kernel_rfl
 a2:=λw=>by kernel_rfl
 z2:=λw=>by kernel_rfl
 v2:=λw=>by kernel_rfl
 t3:=by kernel_rfl
 a3:=λw=>by kernel_rfl
 z3:=λw=>by kernel_rfl
 v3:=λw=>by kernel_rfl
 t4:=by kernel_rfl
 a4:=λw=>by kernel_rfl
 z4:=λw=>by kernel_rfl
 v4:=λw=>by kernel_rfl
 t5:=by kernel_rfl
 a5:=λw=>by kernel_rfl
 z5:=λw=>by kernel_rfl
 v5:=λw=>by kernel_rfl
 t9:=by kernel_rfl
 a9:=λw=>by kernel_rfl
 z9:=λw=>by kernel_rfl
 v9:=λw=>by kernel_rfl
 t20:=by kernel_rfl
 a20:=λw=>by kernel_rfl
 z20:=λw=>by kernel_rfl
 v20:=λw=>by kernel_rfl
 t37:=by kernel_rfl
 a37:=λw=>by kernel_rfl
 z37:=λw=>by kernel_rfl
 v37:=λw=>by kernel_rfl
 t46:=by kernel_rfl
 a46:=λw=>by kernel_rfl
 z46:=λw=>by kernel_rfl
 v46:=λw=>by kernel_rfl
 t51:=by kernel_rfl
 a51:=λw=>by kernel_rfl
 z51:=λw=>by kernel_rfl
 v51:=λw=>by kernel_rfl
 t53:=by kernel_rfl
 a53:=λw=>by kernel_rfl
 z53:=λw=>by kernel_rfl
 v53:=λw=>by kernel_rfl
 t171:=by kernel_rfl
 a171:=λw=>by kernel_rfl
 z171:=λw=>by kernel_rfl
 v171:=λw=>by kernel_rfl
 t173:=by kernel_rfl
 a173:=λw=>by kernel_rfl
 z173:=λw=>by kernel_rfl
 v173:=λw=>by kernel_rfl
 t212:=by kernel_rfl
 a212:=λw=>by kernel_rfl
 z212:=λw=>by kernel_rfl
 v212:=λw=>by kernel_rfl
 t213:=by kernel_rfl
 a213:=λw=>by kernel_rfl
 z213:=λw=>by kernel_rfl
 t232:=by kernel_rfl
 a232:=λw=>by kernel_rfl
 z232:=λw=>by kernel_rfl
 v232:=λw=>by kernel_rfl
 t233:=by kernel_rfl
 a233:=λw=>by kernel_rfl
 z233:=λw=>by kernel_rfl
 v233:=λw=>by kernel_rfl
 g17:=by kernel_rfl
 g18:=by kernel_rfl
 g19:=by kernel_rfl
theorem NI(p0:Int)(r:U UInt8)(h:itoaS p0=some r):Fn QbP 139 [.int .i64 p0] (.str r):=by
 unfold itoaS at h;split at h
 .rename_i h0;injection h with h
  subst h;refine⟨callable Tryz.func139 J (by kernel_rfl),λw F σ vs hs hr=>?_⟩;match vs,hr with
  |[v0],hr=>
   have r0:Rel σ w F (.int .i64 p0) v0:=hr.2 0 _ v0 J J
   cases r0
   obtain⟨i,rfl⟩:=Sv h0.1
   refine(Any.strconv_Itoa_small iL i (by omega) w).mono ?_
   rintro e w' ⟨rfl,rfl⟩
   exact⟨_,_,[],σ,F,J,⟨J,J⟩,hs,.str _,.refl ..⟩
 .cases h
end
section
open Go.RowKit Go.Shelf
set_option maxRecDepth 100000
set_option maxHeartbeats 4000000
def rRen:Go.Shelf.Ren:=⟨λn=>match n with|6=>81|14=>112|15=>113|20=>140|21=>141|22=>142|23=>143|24=>144|25=>145|26=>146|27=>147|28=>148|29=>149|46=>163|47=>164|48=>165|49=>166|50=>167|57=>172|60=>186|61=>187|62=>188|63=>189|64=>190|65=>191|66=>192|67=>193|68=>194|69=>195|70=>196|71=>197|72=>198|73=>199|74=>200|75=>202|_=>0,λn=>match n with|0=>0|1=>1|2=>2|3=>3|4=>4|5=>5|6=>6|7=>7|8=>8|9=>9|10=>10|11=>11|12=>12|13=>13|14=>14|15=>15|16=>16|17=>17|18=>18|19=>19|20=>20|21=>21|22=>25|23=>144|24=>30|25=>89|27=>27|37=>195|38=>196|39=>146|40=>130|42=>182|44=>235|45=>236|46=>237|47=>238|48=>239|49=>240|50=>85|51=>241|52=>242|53=>243|54=>244|55=>215|66=>255|67=>256|68=>257|69=>258|70=>259|71=>260|76=>266|77=>267|78=>268|81=>174|82=>284|83=>285|84=>286|85=>287|86=>288|87=>206|88=>289|89=>290|90=>291|91=>219|92=>292|93=>293|94=>294|95=>295|96=>261|_=>0,λn=>n⟩
theorem rLay:SlLaysF.n6 QbP rRen where
 mixed:=by kernel_rfl
 f6:=⟨ "slices.SortFunc[[][]crossroads/api.Item,[]crossroads/api.Item]",by kernel_rfl,by kernel_rfl⟩
 f14:=⟨ "slices.pdqsortCmpFunc[[]crossroads/api.Item]",by kernel_rfl,by kernel_rfl⟩
 f15:=by kernel_rfl
 f20:=⟨ "slices.insertionSortCmpFunc[[]crossroads/api.Item]",by kernel_rfl,by kernel_rfl⟩
 f21:=⟨ "slices.heapSortCmpFunc[[]crossroads/api.Item]",by kernel_rfl,by kernel_rfl⟩
 f22:=⟨ "slices.breakPatternsCmpFunc[[]crossroads/api.Item]",by kernel_rfl,by kernel_rfl⟩
 f23:=⟨ "slices.choosePivotCmpFunc[[]crossroads/api.Item]",by kernel_rfl,by kernel_rfl⟩
 f24:=⟨ "slices.reverseRangeCmpFunc[[]crossroads/api.Item]",by kernel_rfl,by kernel_rfl⟩
 f25:=⟨ "slices.partialInsertionSortCmpFunc[[]crossroads/api.Item]",by kernel_rfl,by kernel_rfl⟩
 f26:=⟨ "slices.partitionEqualCmpFunc[[]crossroads/api.Item]",by kernel_rfl,by kernel_rfl⟩
 f27:=⟨ "slices.partitionCmpFunc[[]crossroads/api.Item]",by kernel_rfl,by kernel_rfl⟩
 f28:=by kernel_rfl
 f29:=by kernel_rfl
 f46:=⟨ "slices.siftDownCmpFunc[[]crossroads/api.Item]",by kernel_rfl,by kernel_rfl⟩
 f47:=by kernel_rfl
 f48:=by kernel_rfl
 f49:=⟨ "slices.medianAdjacentCmpFunc[[]crossroads/api.Item]",by kernel_rfl,by kernel_rfl⟩
 f50:=⟨ "slices.medianCmpFunc[[]crossroads/api.Item]",by kernel_rfl,by kernel_rfl⟩
 f57:=⟨ "slices.order2CmpFunc[[]crossroads/api.Item]",by kernel_rfl,by kernel_rfl⟩
 t0:=by kernel_rfl
 a0:=λw=>by kernel_rfl
 z0:=λw=>by kernel_rfl
 v0:=λw=>by kernel_rfl
 t3:=by kernel_rfl
 a3:=λw=>by kernel_rfl
 z3:=λw=>by kernel_rfl
 v3:=λw=>by kernel_rfl
 t4:=by kernel_rfl
 a4:=λw=>by kernel_rfl
 z4:=λw=>by kernel_rfl
 v4:=λw=>by kernel_rfl
 t5:=by kernel_rfl
 a5:=λw=>by kernel_rfl
 z5:=λw=>by kernel_rfl
 v5:=λw=>by kernel_rfl
 t9:=by kernel_rfl
 a9:=λw=>by kernel_rfl
 z9:=λw=>by kernel_rfl
 v9:=λw=>by kernel_rfl
 t22:=by kernel_rfl
 a22:=λw=>by kernel_rfl
 z22:=λw=>by kernel_rfl
 v22:=λw=>by kernel_rfl
 a24:=λw=>by kernel_rfl
 z24:=λw=>by kernel_rfl
 t25:=by kernel_rfl
 a25:=λw=>by kernel_rfl
 z25:=λw=>by kernel_rfl
 v25:=λw=>by kernel_rfl
 t39:=by kernel_rfl
 a39:=λw=>by kernel_rfl
 z39:=λw=>by kernel_rfl
 v39:=λw=>by kernel_rfl
 t45:=by kernel_rfl
 a45:=λw=>by kernel_rfl
 z45:=λw=>by kernel_rfl
 v45:=λw=>by kernel_rfl
 t46:=by kernel_rfl
 a46:=λw=>by kernel_rfl
 z46:=λw=>by kernel_rfl
 v46:=λw=>by kernel_rfl
 t50:=by kernel_rfl
 a50:=λw=>by kernel_rfl
 z50:=λw=>by kernel_rfl
 v50:=λw=>by kernel_rfl
 t53:=by kernel_rfl
 a53:=λw=>by kernel_rfl
 z53:=λw=>by kernel_rfl
 v53:=λw=>by kernel_rfl
 t55:=by kernel_rfl
 a55:=λw=>by kernel_rfl
 z55:=λw=>by kernel_rfl
 v55:=λw=>by kernel_rfl
 t66:=by kernel_rfl
 a66:=λw=>by kernel_rfl
 z66:=λw=>by kernel_rfl
 v66:=λw=>by kernel_rfl
 t70:=by kernel_rfl
 a70:=λw=>by kernel_rfl
 z70:=λw=>by kernel_rfl
 v70:=λw=>by kernel_rfl
 t76:=by kernel_rfl
 a76:=λw=>by kernel_rfl
 z76:=λw=>by kernel_rfl
 v76:=λw=>by kernel_rfl
 t77:=by kernel_rfl
 a77:=λw=>by kernel_rfl
 z77:=λw=>by kernel_rfl
 v77:=λw=>by kernel_rfl
open Go.Sort Go.Lib
section
variable {σ:U Value}{F:Nat->Prop}{w:World}
theorem OV {aw':U Ob}{σ':U Value}{F':Nat->Prop}{W w':World}(h:Mv [] σ W F aw' σ' w' F'):∃q os',w'=Sort.grow (W.drewN q) os':=by
 have hk:∀b,b<W.heap.size->w'.heap[b]?=W.heap[b]?:=λb hb=>h.keep b hb (λ⟨k,o,v,ho,_⟩=>by simp at ho)
 have hs:=h.size;have hd:=h.output.2;unfold dn at hd;have e1:w'.heap=W.heap++w'.heap.extract W.heap.size w'.heap.size:=by
  apply Array.ext_getElem?;intro i;by_cases hi:i<W.heap.size
  .rw[Array.getElem?_append_left hi,hk i hi]
  .rw[Array.getElem?_append_right (by omega),Array.getElem?_extract];by_cases h2:i<w'.heap.size
   .rw[if_pos (by omega)];congr 1;omega
   .rw[if_neg (by omega),Array.getElem?_eq_none (by omega)]
 refine⟨w'.drawn- W.drawn,w'.heap.extract W.heap.size w'.heap.size,?_⟩;have h1:=h.os;have h2:=h.tape;have h3:=h.output.1;obtain⟨hp,tp,dr,os,out⟩:=w';simp only[Sort.grow,World.drewN]at *;rw[<- e1,h1,h2,h3];congr 1;omega
abbrev dV(σ:List Value)(w:World)(F:Nat->Prop):={p:List Item×Value // Rel σ w F (sL aa p.1) p.2/\dep0 p.1=true}
theorem EF:∀(xs:U (U Item)) (flat:U Value),RelL σ w F (xs.map (ai aa)).flatten flat->xs.all dep0=true->∃ds:U (dV σ w F),ds.map (·.1.1)=xs/\ds.map (·.1.2)=flat
 |[],flat,h,_=>⟨[],J,(RP h.1).symm⟩
 |x::xs,[],h,_=>absurd h.1 (by simp[ai])
 |x::xs,v::flat,h,h0=>by rw[Tz,SR]at h0;obtain⟨ds,h1,h2⟩:=EF xs flat ⟨by have:=h.1;simp[ai]at this ⊢;omega,λj y u hy hu=>h.2 (j+1) y u (by simpa [ai]using hy) (by simpa using hu)⟩ h0.2;exact⟨⟨(x,v),h.2 0 _ v (by simp[ai]) J,h0.1⟩::ds,by simp[h1],by simp[h2]⟩
theorem El:∀(ds:U (dV σ w F)),RelL σ w F ((ds.map (·.1.1)).map (ai aa)).flatten (ds.map (·.1.2))
 |[]=>.nil
 |d::ds=>.cons d.2.1 (El ds)
theorem Fw (d:dV σ w F):d.1.2.oneCell'=true:=by obtain⟨⟨x,v⟩,h,_⟩:=d;have h:Rel σ w F (.sl (List.map aa x)) v:=h;show v.oneCell'=true;generalize List.map aa x=rows at h;cases h<;>rfl
theorem EW (d:dV σ w F):d.1.1.length<=maxLen:=by
 obtain⟨⟨x,v⟩,h,_⟩:=d;have h:Rel σ w F (.sl (List.map aa x)) v:=h;show x.length<=maxLen;generalize hr:List.map aa x=rows at h;have hl:x.length=rows.length:=by rw[<- hr,RZ]
 cases h with
 |slNil=>rw[hl];exact Sb _
 |sl _ _ _ c _ _ hn hm=>omega
set_option linter.unusedSimpArgs false in
theorem Le (BY:FuncId) (f:List Item->List Item->Option Int) (hc:∀{a b:List Item} {r:Int},f a b=some r->Fn QbP BY [sL aa a,sL aa b] (iI r))
  (hf:∀a b,a.length<=maxLen->b.length<=maxLen->dep0 a=true->dep0 b=true->f a b=some (cfR a b)) {p0 r:List (List Item)} (h:sortR p0=some r):
  FnX QbP 81 [.ref 0,.func BY []] [.arr 30 1 (List.map (ai aa) p0)] (.tup []) [.arr 30 1 (List.map (ai aa) r)]:=by
 unfold sortR at h
 split at h
 rotate_left
 .cases h
 rename_i hlt
 obtain⟨hlt,hd0⟩:=hlt
 cases h
 refine⟨callable Tryz.func81 J (by kernel_rfl),λw F σ vs hs hr=>?_⟩
 match vs,hr with
 | [v0,v1],hr=>
  have r0:Rel σ w F (.ref 0) v0:=hr.2 0 _ v0 J J
  have r1:Rel σ w F (.func BY []) v1:=hr.2 1 _ v1 J J
  cases r0 with
  |ref _ A q cp hσ0=>
  cases r1 with
  |func _ _ lb hl hcc=>
  match lb,hl,hcc with
  | [],hl,hcc=>
   obtain⟨hq,flat,hown,hfl,hcase⟩:=hZ hs (id:=0) J hσ0
   rw[RZ]at hq
   subst hq
   have grown:∀(W:World) (os:Array Obj) (b:Nat),b<W.heap.size->(Sort.grow W os).heap[b]?=W.heap[b]?:=λW os b hb=>by show(W.heap++os)[b]?=_;rw[Array.getElem?_append_left hb]
   by_cases h0:p0=[]
   .subst h0
    have hN:=AnyF.slices_SortFunc_none (ρ:=rRen) { rLay with } A cp (.func (.func BY) #[] #[]) w
    change Calls QbP 81 _ _ _ at hN
    refine hN.mono ?_
    rintro e w' ⟨rfl,rfl⟩
    exact⟨_,_,_,σ,F,J,⟨J,J⟩,hs,iz,.refl _ _ _ _⟩
   .rcases hcase with hcase|⟨ga,cur,rfl,hFa,hga,hnc,hcm,hsz,htk⟩
    .exact absurd (Sq.1 hcase) h0
    .obtain⟨ds,hds1,hds2⟩:=EF p0 flat hfl.2.2 hd0
     have hdl:ds.length=p0.length:=by rw[<- hds1,RZ]
     have hga':ga<w.heap.size:=(Tx.1 hga).1
     have hcurn:p0.length<=cur.size:=by rw[hsz,Nat.mul_one];exact hnc
     have hne:ds≠[]:=λe=>by subst e;simp at hdl;exact h0 (RP hdl.symm)
     letI:Inhabited (dV σ w F):=⟨ds.head hne⟩
     have hgetc:∀j (hj:j<ds.length),cur.toList[j]?=some (ds[j]).1.2:=λj hj=>by
      have:flat[j]?=some (ds[j]).1.2:=by rw[<- hds2,R9,RG hj];rfl
      rw[<- htk,Sm]at this;split at this
      .exact this
      .cases this
     have hH:Holds (λx:dV σ w F=>x.1.2) w ga 0 ds.toArray:=by
      intro j hj;have hj':j<ds.length:=by simpa using hj
      refine⟨?_,by simp[World.frozen?,hga]⟩;have hc1:=hgetc j hj';rw[Td]at hc1;rw[SP,cell_of_row w ga j cur 30 (0,0) hga,hc1,getElem!_pos _ j hj];simp
     have hpar:=hf [] [] (Sb _) (Sb _) J J
     have hcmp:CmpLays1 QbP BY #[] (λx:dV σ w F=>x.1.2) (λx y=>cfR x.1.1 y.1.1) ga 0 ds.toArray.size w:=by
      intro m os dk hsk x y;have hW:∀b,b<w.heap.size->b≠ga->(sortWorld (λx:dV σ w F=>x.1.2) w ga 0 m dk os).heap[b]?=w.heap[b]?:=λb hb hne=>by
       unfold sortWorld;rw[grown _ os b (by simpa [putRow,mapBlock,Sort.ahead]using hb)];have:¬ga=b:=λe=>hne e.symm
       simp[putRow,mapBlock,SO,Sort.ahead,this]
      have hWs:w.heap.size<=(sortWorld (λx:dV σ w F=>x.1.2) w ga 0 m dk os).heap.size:=by unfold sortWorld;rw[Sort.size_grow];simp[putRow,mapBlock,Sort.ahead]
      have hFn:∀b,F b->b≠ga:=λb hb e=>hFa (e▸hb)
      have rel:∀d:dV σ w F,Rel [] (sortWorld (λx:dV σ w F=>x.1.2) w ga 0 m dk os) F (sL aa d.1.1) d.1.2:=λd=>
       Rel.mono (λ_ _ h=>h) (λ_ h=>h) (λb hb=>hW b (hs.lt b hb) (hFn b hb)) (de fo _ σ w F _ d.2.1 [])
      have hcon:=hc (hf x.1.1 y.1.1 (EW x) (EW y) x.2.2 y.2.2);have:=hcon.2 (sortWorld (λx:dV σ w F=>x.1.2) w ga 0 m dk os) F [] [x.1.2,y.1.2] ⟨J,λk o v ho=>by simp at ho,λk k' o o' v v' g _ ho=>by simp at ho,λb hb=>Sx (hs.lt b hb) hWs,hs.gd.mono (λ_ hb=>hb) λb hb=>hW b (hs.lt b hb) (hFn b hb)⟩ (.cons (rel x) (.cons (rel y) .nil));refine this.mono ?_;rintro e w' ⟨v,r,aw',σ',F',rfl,⟨rfl,rfl⟩,_,hrel,hmv⟩;cases hrel;exact⟨J,OV hmv⟩
     have hS:=Any.slices_SortFunc rLay (λx:dV σ w F=>x.1.2) Fw (λx y=>cfR x.1.1 y.1.1) (swoR λx:dV σ w F=>x.1.1) BY #[] ga 0 cp ds.toArray w (λargs w=>(hc hpar).1 args w) hcmp hH hga' (by simp[hdl];exact hlt)
     change Calls QbP 81 _ _ _ at hS
     simp only[TB,hdl]at hS
     refine hS.mono ?_
     rintro e w' ⟨rfl,D,n,os,hp,hso,rfl⟩
     have hDs:D.size=p0.length:=by rw[hp.1,TB,hdl]
     have hperm:D.toList.Perm ds:=by
      have h3:=hp.2.2;rw[<- hdl]at h3;have e1:D.extract 0 ds.length=D:=by rw[show ds.length=D.size by omega];exact Array.extract_size
      have e2:ds.toArray.extract 0 ds.length=ds.toArray:=by rw[show ds.length=ds.toArray.size by simp];exact Array.extract_size
      rw[e1,e2]at h3;simpa using h3
     have hsl:jj p0=D.toList.map (·.1.1):=by
      refine JC ?_ (λa ha=>?_) (xi p0) ?_
      .rw[<- hds1];exact(nv _).trans ((hperm.map _).symm)
      .exact Sc.1 hd0 a ((nv p0).subset ha)
      .rw[List.pairwise_map,List.pairwise_iff_getElem];intro i j hi hj hij;have:=hso i j (Sb _) hij (by rw[<- hDs];simpa using hj);rw[getElem!_pos _ j (by simpa using hj),getElem!_pos _ i (by simpa using hi)]at this;have h5:¬cfR (D[j]'(by simpa using hj)).1.1 (D[i]'(by simpa using hi)).1.1<0:=by simpa [ltOf]using this
       have h6:=l5 (D[i]'(by simpa using hi)).1.1 (D[j]'(by simpa using hj)).1.1;simp only[Array.getElem_toList];omega
     rw[hsl]
     have hW1:(putRow (λx:dV σ w F=>x.1.2) (Sort.ahead w n) ga 0 D).heap[ga]?=some (.cells (putCells (λx:dV σ w F=>x.1.2) 0 D cur) 30 (0,0)):=by simp[putRow,mapBlock,SO,Sort.ahead,hga,onCells]
     have hW1o:∀b,b≠ga->(putRow (λx:dV σ w F=>x.1.2) (Sort.ahead w n) ga 0 D).heap[b]?=w.heap[b]?:=λb hb=>by
      have:¬ga=b:=λe=>hb e.symm
      simp[putRow,mapBlock,SO,Sort.ahead,this]
     have hW1s:(putRow (λx:dV σ w F=>x.1.2) (Sort.ahead w n) ga 0 D).heap.size=w.heap.size:=by simp[putRow,mapBlock,Sort.ahead]
     have hORel:ORel σ (putRow (λx:dV σ w F=>x.1.2) (Sort.ahead w n) ga 0 D) F (.arr 30 1 (List.map (ai aa) (D.toList.map (·.1.1)))) (.slice (some ⟨ga,0,none⟩) p0.length cp):=by
      have hDl:(List.map (ai aa) (D.toList.map (·.1.1))).length=p0.length:=by simp[hDs]
      refine⟨D.toList.map (·.1.2),⟨?_,.inr ⟨ga,cp,_,by rw[hDl],Sb _,hW1,by rw[hDl];exact hnc,hcm,by simp[putCells,hsz],?_⟩⟩,⟨λrow hr=>?_,λu hu=>?_,?_⟩,λg2 hg2=>?_,_,_,_,J⟩
      .rw[hDl];simp[hDs]
      .rw[hDl];apply Sw;intro k;rw[Sm];by_cases hk:k<p0.length*1
       .rw[if_pos hk,Td,R9,Td];simp only[putCells,Array.getElem?_mapIdx];rw[Array.getElem?_eq_getElem (show k<cur.size by omega),SJ,if_pos ⟨Sb _,by omega⟩,Array.getElem?_eq_getElem (show k<D.size by omega),TD,getElem!_pos _ k (by omega)];rfl
       .rw[if_neg hk,SF (by simp[hDs];omega)]
      .obtain⟨a,_,rfl⟩:=R3.1 hr;rfl
      .obtain⟨a,_,rfl⟩:=R3.1 hu;exact Fw a
      .exact RelL.mono (λ_ _ h=>h) (λ_ h=>h) (λb hb=>hW1o b (λe=>hFa (e▸hb))) (El D.toList)
      .simp[Value.ownBlock]at hg2;subst hg2;exact hFa
     have s1:=hs.write (b0:=ga) 0 J J hσ0 J hW1o hW1s (.arr 30 1 (List.map (ai aa) (D.toList.map (·.1.1)))) hORel (λ_ h=>h)
     have m1:Mv [.arr 30 1 (List.map (ai aa) p0)] σ w F ([Ob.arr 30 1 (List.map (ai aa) p0)].set 0 (.arr 30 1 (List.map (ai aa) (D.toList.map (·.1.1))))) σ (putRow (λx:dV σ w F=>x.1.2) (Sort.ahead w n) ga 0 D) F:=
      Mv.write (aw:=[.arr 30 1 (List.map (ai aa) p0)]) (w:=w) (w':=putRow (λx:dV σ w F=>x.1.2) (Sort.ahead w n) ga 0 D) (F:=F) (b0:=ga) (o:=.arr 30 1 (List.map (ai aa) p0)) 0 J J hσ0 J J J ⟨J,Nat.le_add_right _ _⟩ hW1o hW1s (.arr 30 1 (List.map (ai aa) (D.toList.map (·.1.1)))) (λ_ h=>h)
     have eW:sortWorld (λx:dV σ w F=>x.1.2) w ga 0 n D os=Sort.grow (putRow (λx:dV σ w F=>x.1.2) (Sort.ahead w n) ga 0 D) os:=rfl
     rw[eW]
     exact⟨_,_,_,σ,F,J,⟨J,J⟩,s1.grow (λ_ h=>h) (λ_ h=>.inl h) (λb hb=>by have:=s1.lt b hb;rw[Sort.size_grow];omega) (grown _ os),iz,m1.trans (.grow (λ_ h=>h) (λ_ h=>.inl h) J J drO (by rw[Sort.size_grow];omega) (grown _ os))⟩
end
end
section
def gI(n:Int):Prop:= -9223372036854775808<=n/\n<=9223372036854775807
def gL{α:Type}(g:α->Prop)(l:List α):Prop:=∀a,a∈l->g a
def gB(b:Bool):Prop:=True
def dO(a:Item):Prop:=gI a.Key/\gI a.Val/\gI a.Dep
def gNode(a:Node):Prop:=gI a.Kind/\gI a.A/\gL gI a.In/\gL gI a.Out
def gNet(a:Net):Prop:=gL gNode a.Nodes/\gI a.Rings/\gI a.Room
def mf(a:Keyed):Prop:=gI a.Key/\gI a.N
def yM(a:Memory):Prop:=gI a.Sum/\gL mf a.Keys/\gI a.Dep
def l6(a:Choice):Prop:=gI a.Node/\gI a.Lane
def yR(a:State):Prop:=gL gI a.At/\gL (gL dO) a.Rings/\gL yM a.Memory/\gL l6 a.Choices/\gL dO a.Out
def xu(a:Happening):Prop:=gI a.Kind/\gI a.N
def mI(n:Int):Nat:=1
def mB(b:Bool):Nat:=1
def mL{α:Type}(m:α->Nat)(l:List α):Nat:=(l.map m).sum+1
def dF(a:Item):Nat:=3
def mNode(a:Node):Nat:=mL mI a.In+mL mI a.Out+2
def mNet(a:Net):Nat:=mL mNode a.Nodes+2
def kV(a:Keyed):Nat:=2
def ib(a:Memory):Nat:=mL kV a.Keys+2
def iZ(a:Choice):Nat:=2
def nY(a:State):Nat:=mL mI a.At+mL (mL dF) a.Rings+mL ib a.Memory+mL iZ a.Choices+mL dF a.Out
def u1(a:Happening):Nat:=2
section
variable {α σ ρ τ:Type}{k i j:Nat}{m:α->Nat}{xs:U α}{body:τ->QbQ (τ⊕ρ)}
theorem kX (h:∀a,1<=m a):∀l:U α,l.length<=mL m l
 |[]=>by simp[mL]
 |a::l=>by have:=kX h l;grind[mL]
theorem wy {m:α->Nat}:∀{l:U α} {a:α},a∈l->m a<=mL m l
 |b::l,a,h=>by
  rcases Sa.1 h with rfl|h
  .simp[mL];omega
  .have:=wy (m:=m) h;grind[mL]
theorem P5 (l:U α)(a:α):mL m (a::l)=m a+mL m l:=by rfl
theorem bG {n:Int}(h0: -9223372036854775808<=n)(h1:n<=9223372036854775807):IntKind.i64.wrap n=n:=IntWalk.i64_in n ⟨h0,h1⟩
theorem bf (h:k<4611686018427387904):IntKind.i64.wrap ((k:Int)+1)=((k+1:Nat):Int):=by grind[bG]
theorem bv {x:α}(h:xs[k]?=some x):idx xs (k:Int)=some x:=by assumption
theorem cP (h:k<xs.length):ixN xs (k:Int)=some k:=by simp_all[ixN]
theorem cC {ys:U α}(h:xs.length+ys.length<=1099511627776):app xs ys=some (xs++ys):=by unfold app;rw[if_pos h]
theorem jR {xs ys:U UInt8}(h:xs.length+ys.length<=4611686018427387904):cat xs ys=some (xs++ys):=by unfold cat;rw[if_pos h]
theorem ql (h:i<=j)(h2:j<=xs.length):sub xs (i:Int) (j:Int)=some ((xs.take j).drop i):=by simp_all[sub]
theorem sub_0 (h2:j<=xs.length):sub xs 0 (j:Int)=some (xs.take j):=by have:=ql (xs:=xs) (i:=0) (j:=j) (by omega) h2;grind
theorem kP (h2:i<=xs.length):sub xs (i:Int) (xs.length:Int)=some (xs.drop i):=by simp_all[ql]
def eL{α σ ρ:Type}(f:Nat->α->σ->Option (σ⊕ρ))(fin:σ->Option ρ):Nat->List α->σ->Option ρ
 |_,[],st=>fin st
 |k,x::xs,st=>match f k x st with
  |none=>none
  |some (.inl st')=>eL f fin (k+1) xs st'
  |some (.inr r)=>some r
theorem Ci (xs:U α)(hx:xs.length<=1099511627776)(e:Nat->σ->τ)(f:Nat->α->σ->QbQ (σ⊕ρ))(fin:σ->QbQ ρ)(h1:∀(k:Nat) x st,xs[k]?=some x->k<xs.length->idx xs (k:Int)=some x->decide ((k:Int)<(xs.length:Int))=true->IntKind.i64.wrap ((k:Int)+1)=((k+1:Nat):Int) ->
   body (e k st)=match f k x st with
    |none=>none
    |some (.inl st')=>some (.inl (e (k+1) st'))
    |some (.inr r)=>some (.inr r))(h2:∀st,decide ((xs.length:Int)<(xs.length:Int))=false->body (e xs.length st)=(fin st).map .inr):
  ∀(n k:Nat) st,k+n=xs.length->iter body (e k st)=eL f fin k (xs.drop k) st
 |0,k,st,h=>by
  have hk:k=xs.length:=by omega
  subst hk;rw[aE,h2 st (by simp),Sr];unfold eL;cases fin st<;>rfl
 | n+1,k,st,h=>by
  have hlt:k<xs.length:=by omega
  have hg:xs[k]?=some xs[k]:=RG hlt;rw[aE,h1 k xs[k] st hg hlt (bv hg) (by simp;omega) (bf (by omega)),RL hlt];unfold eL;cases f k xs[k] st with
  |none=>rfl
  |some v=>
   cases v with
   |inl st'=>exact Ci xs hx e f fin h1 h2 n (k+1) st' (by omega)
   |inr r=>rfl
theorem py (xs:U α)(hx:xs.length<=1099511627776)(e:Nat->σ->τ)(f:Nat->α->σ->QbQ (σ⊕ρ))(fin:σ->QbQ ρ)(st:σ)(h1:∀(k:Nat) x st,xs[k]?=some x->k<xs.length->idx xs (k:Int)=some x->decide ((k:Int)<(xs.length:Int))=true->IntKind.i64.wrap ((k:Int)+1)=((k+1:Nat):Int) ->
   body (e k st)=match f k x st with
    |none=>none
    |some (.inl st')=>some (.inl (e (k+1) st'))
    |some (.inr r)=>some (.inr r))(h2:∀st,decide ((xs.length:Int)<(xs.length:Int))=false->body (e xs.length st)=(fin st).map .inr):iter body (e 0 st)=eL f fin 0 xs st:=by
 have:=Ci xs hx e f fin h1 h2 xs.length 0 st (by omega)
 grind
theorem sP {β:Type}{body:α->QbQ (α⊕β)}(I:α->Prop)(μ:α->Nat)(R:β->Prop)(h:∀s,I s->(∃s',body s=some (.inl s')/\I s'/\μ s'< μ s)∨∃r,body s=some (.inr r)/\R r):∀(n:Nat) s,μ s<=n->I s->∃r,iter body s=some r/\R r
 | n,s,hn,hs=>by
  rcases h s hs with⟨s',h1,h2,h3⟩|⟨r,h1,h2⟩
  .match n,hn with
   |0,hn=>omega
   |n+1,hn=>
    obtain⟨r,h4,h5⟩:=sP I μ R h n s' (by omega) h2
    grind[aE]
  grind[aE]
theorem Jv [DecidableEq α](a b:U α)(ha:a.length<=1099511627776)(hl:a.length=b.length){body:Int->QbQ (Int⊕Bool)}(h1:∀(k:Nat) x y,decide ((k:Int)<(a.length:Int))=true->idx a (k:Int)=some x->idx b (k:Int)=some y->IntKind.i64.wrap ((k:Int)+1)=((k+1:Nat):Int)->body k=if x=y then some (.inl ((k+1:Nat):Int))else some (.inr false))(h2:decide ((a.length:Int)<(a.length:Int))=false->body a.length=some (.inr true)):iter body 0=some (decide (a=b)):=by
 have key:∀(n k:Nat),k+n=a.length->iter body k=some (decide (a.drop k=b.drop k)):=by
  intro n;induction n with
  |zero=>
   grind[aE]
  |succ n ih=>
   intro k hk;have hlt:k<a.length:=by omega
   have hlt2:k<b.length:=by omega
   have hd:(a.drop k=b.drop k)↔(a[k]=b[k]/\a.drop (k+1)=b.drop (k+1)):=by grind[List.drop_eq_getElem_cons]
   rw[aE,h1 k a[k] b[k] (by simp;omega) (bv (RG hlt)) (bv (RG hlt2)) (bf (by omega))];grind
 have:=key a.length 0 (by omega)
 grind
end
end
theorem J0(x y:Item):rJ x y=some (if x.Key<y.Key∨x.Key=y.Key/\x.Val<y.Val then-1 else if x.Key=y.Key/\x.Val=y.Val then 0 else 1):=by unfold rJ;by_cases h1:x.Key=y.Key<;>by_cases h2:x.Val=y.Val<;>simp[h1,h2]<;>(repeat' split)<;>first|rfl|(exfalso;omega)
theorem Fy(a b:U Item)(la:a.length<=9223372036854775807):∀(m i:Nat),a.length- i=m->i<=a.length->iter (λs:Int=>oD a b s) (i:Int)=some (cfR (a.drop i) (b.drop i)):=by
 intro m;induction m with
 |zero=>
  intro i hm hi;have e:i=a.length:=by omega
  subst e;rw[aE];unfold oD;rw[if_neg (by simp),Sr];by_cases h:a.length<b.length
  .rw[if_pos (by simpa using h),RL h];rfl
  .rw[if_neg (by simpa using h),List.drop_eq_nil_of_le (by omega)];rfl
 | succ m ih=>
  intro i hm hi;have hlt:i<a.length:=by omega
  rw[aE];unfold oD;have ea:idx a (i:Int)=some a[i]:=by unfold idx;rw[if_pos (by omega)];simp[hlt]
  rw[if_pos (by simpa using hlt),ea,RF,RL hlt];by_cases h:i<b.length
  .have eb:idx b (i:Int)=some b[i]:=by unfold idx;rw[if_pos (by omega)];simp[h]
   rw[if_neg (by simp;omega),eb,RF,J0,RF,RL h];unfold cfR;by_cases h1:a[i].Key<b[i].Key∨a[i].Key=b[i].Key/\a[i].Val<b[i].Val
   .rw[if_pos h1,if_pos (by decide),if_pos h1];rfl
   .rw[if_neg h1,if_neg h1];by_cases h2:a[i].Key=b[i].Key/\a[i].Val=b[i].Val
    .rw[if_pos h2,if_pos h2,if_neg (by decide)];have:=ih (i+1) (by omega) (by omega);rw[bG (by omega) (by omega)];exact this
    .rw[if_neg h2,if_neg h2,if_pos (by decide)];rfl
  .rw[if_pos (by simp;omega),show b.drop i=[]from List.drop_eq_nil_of_le (by omega)];rfl
theorem AF(a b:U Item)(la:a.length<=9223372036854775807):nt a b=some (cfR a b):=by unfold nt oE;have:=Fy a b la _ 0 J (Sb _);simp only[Ss,Sy]at this;rw[this];rfl
theorem IA(a b:U Item)(la:a.length<=maxLen)(lb:b.length<=maxLen)(_:dep0 a=true)(_:dep0 b=true):nt a b=some (cfR a b):=AF a b (by simpa [maxLen]using la)
section
open Go.RowKit
set_option maxRecDepth 100000
set_option maxHeartbeats 4000000
set_option synthInstance.maxSize 100000
set_option synthInstance.maxHeartbeats 4000000
section
variable {p0:Net}{p1:U Item}{r p2 p3 p5:Int}{p4 p7:U (U Item)}{p6:U ((U UInt8)×Unit)}
theorem Iv {p1:U Choice}{r:(U (U Int))×Int}(h:pp p0 p1=some r):Fn QbP 138 [.agg (aK p0),sL ao p1] (.tup [sL (ai aj) r.1,iI r.2]):=by
 unfold pp at h;refine fT 0 0 Tryz.func138 Tryz.ntmps138 J ?_;refine B h λx2 hx2 h=>(X 11 0 (sO (cF (uK hx2) ⟨J,(Y 7 1 (TH h J (λah h=>?_) (λah h=>?_)))⟩)))
 .refine X 6 1 ?_;cases h;exact tD
 refine B h λx4 hx4 h=>(X 5 1 (sQ (al TJ J (sO (Oj (en:=aj) (e2:=3) (c:=1) Uh UZ J J hx4 J J J (Y 6 3 (sQ (al TN J (Y 3 3 (itr (λdz:Int×(U (Bool×U Int))=>mkA 41 [(7,.ref 0),(20,sL ao p1),(21,iI ((p1).length:Int)),(22,iI dz.1)]) (λdz=>[.hd 27 1,.cl 3 1 (cL aj dz.2)]) h (wk [] [1,2] 3 J) (λdz v_21 h oz=>?_)))))))))))
 obtain⟨s5,s6⟩:=dz;replace h:lD p1 s5 s6=some v_21:=h;try dsimp only
 unfold lD at h;refine X 5 2 (TH h J (λlf h=>?_) (λlf h=>?_))
 .refine B h λx8 hx8 h=>(X 5 2 (sQ (aG TN (λ_=>J) J J hx8 (B h λx9 hx9 h=>(B h λx10 aY h=>(B h λx11 bw h=>(B h λx12 bx h=>(Y 4 2 (T.drawn mixed (k:=14) J ?_)))))))))
  apply TG 2 (bm 14 4095);intro fZ;apply TG 3 (bm 14 2047);intro ff;apply TG 4 (bm 14 1919);intro eH;apply TG 4 (bm 14 2043);intro f0;apply TG 4 (bm 14 1023);intro gJ;apply TG 5 (bm 14 1855);intro jt;apply TG 5 (bm 14 1915);intro hJ;apply TG 5 (bm 14 895);intro ln
  .refine rq [0,1,3,4,8] 9 (rL [5,6,7,11,12,13] 5 J (rL [9,10,11,12,13] 9 J (ra3 2 6 10 ?_ ?_ ?_)))
   .refine og 3 ⟨J,(ra2 6 10 ?_ ?_)⟩
    .exact oO J (sY Uh J J J J cl_l hx9 (raE ln))
    .exact oO J (bi (rows:=List.map aj [x8.Lane]) (vs:=[iI x8.Lane]) TK T7 J J J J J J (raE jt))
   .refine oO J (sY Uh J J J J cl_l hx9 (ra3 2 7 10 ?_ ?_ ?_))
    .exact og 3 ⟨J,(raT ln)⟩
    .refine oO J (wh TX J J J aY (ra2 2 10 ?_ ?_))
     .exact og 3 ⟨J,(raE gJ)⟩
     .exact oO J (bi (rows:=List.map aj [x8.Lane]) (vs:=[iI x8.Lane]) TK T7 J J J J J J (raE f0))
    .exact oO J (bi (rows:=List.map aj [x8.Lane]) (vs:=[iI x8.Lane]) TK T7 J J J J J J (raE hJ))
   .refine oO J (bi (rows:=List.map aj [x8.Lane]) (vs:=[iI x8.Lane]) TK T7 J J J J J J (ra2 2 6 ?_ ?_))
    .exact og 4 ⟨J,(raT jt)⟩
    .exact oO J (sY Uh J J J J cl_l hx9 (raT hJ))
  .refine ra2 7 10 ?_ ?_
   .exact oO J (wh TX J J J aY (raT gJ))
   .exact oO J (bi (rows:=List.map aj [x8.Lane]) (vs:=[iI x8.Lane]) TK T7 J J J J J J (raE eH))
  .refine ra2 2 7 ?_ ?_
   .exact og 4 ⟨J,(raT eH)⟩
   .exact oO J (wh TX J J J aY (raT f0))
  .exact ra1 6 (oO J (sY Uh J J J J cl_l hx9 (raT eH)))
  .exact ra1 10 (oO J (bi (rows:=List.map aj [x8.Lane]) (vs:=[iI x8.Lane]) TK T7 J J J J J J (raE ff)))
  .refine ra2 2 11 ?_ ?_
   .exact og 4 ⟨J,(raT ff)⟩
   .exact UT 33 1 x9 J J bw J J (oO J (bU (en:=aj) (xs:=x11) (ys:=([x8.Lane]:U Int)) TK (λ_=>J) J J J bx J J (ra1 2 (og 6 ⟨J,(raE fZ)⟩))))
  .exact ra1 7 (oO J (wh TX J J J aY (raT ff)))
  .exact ra1 11 (UT 33 1 x9 J J bw J J (oO J (bU (en:=aj) (xs:=x11) (ys:=([x8.Lane]:U Int)) TK (λ_=>J) J J J bx J J (raT fZ))))
  exact ra1 12 (oO J (sY Uh J J J J cl_lh hx9 (ra1 13 (oO J (Oz Up UA (λ_=>J) (λ_=>J) J J J J cl_lh aY cl_sh J J (RA.done (by decide+kernel) (X 4 7 (lk h (wk [] [0,6] 7 J)))))))))
 refine X 1 2 ?_;replace h:=mi h oz;refine X 6 2 (VK 0 1 J J J ?_);cases h;exact tD
theorem Oc {p0:Int}{r:U UInt8}(h:itoaW p0=some r):Fn QbP 139 [.int .i64 p0] (.str r):=NI p0 r h
theorem HB {p0:State}{p1:U Node}{r:U UInt8}(h:rb p0 p1 p2 p3 p4 p5 p6 p7=some r):FnX QbP 111 [.ptr 0 0,.agg (bE p0)] [.box [sL an p1,iI p2,iI p3,sL (ai aa) p4,iI p5,.mpr 1,.ref 2],.mp (List.map kS (List.map Prod.fst p6)) (List.map kU (List.map Prod.snd p6)),aR 30 1 (ai aa) p7] (.str r) [.box [sL an p1,iI p2,iI p3,sL (ai aa) p4,iI p5,.mpr 1,.ref 2],.mp (List.map kS (List.map Prod.fst p6)) (List.map kU (List.map Prod.snd p6)),aR 30 1 (ai aa) p7]:=by
 unfold rb at h;refine fT 3 0 Tryz.func111 Tryz.ntmps111 J ?_;refine B h λx2 hx2 h=>(X 6 3 (T.drawn mixed (k:=12) J (rq [0,1,2,4] 8 (rL [3,6,7,8,9,10,11] 3 J (ra1 5 (og 4 ⟨J,(ra1 6 (oO J (cD (Iv hx2) ⟨J,(rq [7,8,9,10,11] 0 ?_)⟩)))⟩))))))
 refine RA.done (by decide+kernel) (X 8 4 (sQ (al Uh J (Y 3 4 (itr (λdi:(U UInt8)×Int=>mkA 44 [(7,.str di.1),(22,sL (ai aj) x2.1),(23,iI ((x2.1).length:Int)),(24,iI di.2)]) (λdi=>[.box [sL an p1,iI p2,iI p3,sL (ai aa) p4,iI p5,.mpr 1,.ref 2],.mp (List.map kS (List.map Prod.fst p6)) (List.map kU (List.map Prod.snd p6)),aR 30 1 (ai aa) p7]) h (wk [] [0,1,2] 4 J) (λdi v_16 h mz=>?_))))));obtain⟨s3,s4⟩:=di;replace h:lv x2 s3 s4=some v_16:=h;try dsimp only
 unfold lv at h;refine X 5 3 (TH h J (λgE h=>?_) (λgE h=>?_))
 .refine B h λx6 hx6 h=>(X 5 3 (sQ (aG Uh (λ_=>J) J J hx6 (Y 7 3 (sQ (al TK J (Y 3 3 (itr (λdz:(U UInt8)×Int=>mkA 44 [(7,.str dz.1),(22,sL (ai aj) x2.1),(23,iI ((x2.1).length:Int)),(24,iI s4),(28,sL aj x6),(29,iI ((x6).length:Int)),(30,iI dz.2)]) (λdz=>[.box [sL an p1,iI p2,iI p3,sL (ai aa) p4,iI p5,.mpr 1,.ref 2],.mp (List.map kS (List.map Prod.fst p6)) (List.map kU (List.map Prod.snd p6)),aR 30 1 (ai aa) p7]) h (wk [] [0,1,2] 3 J) (λdz v_21 h oz=>?_)))))))))
  obtain⟨s7,s8⟩:=dz;replace h:lw s4 x6 s7 s8=some v_21:=h;try dsimp only
  unfold lw at h;refine X 5 3 (TH h J (λlf h=>?_) (λlf h=>?_))
  .refine B h λx10 aY h=>(X 5 3 (sQ (aG TK (λ_=>J) J J aY (B h λx11 bw h=>(B h λx12 bx h=>(B h λx13 dc h=>(Y 6 3 (sO (cF (Oc bw) ⟨J,(sQ (kW J J bx (sQ (kW J J dc ?_))))⟩)))))))))
   exact Y 6 3 (lk h (wk [] [0,1,2] 3 J))
  refine X 1 3 ?_;replace h:=mi h oz;exact B h λx14 cm h=>(X 2 3 (sQ (kW J J cm (Y 6 3 (lk h (wk [] [0,1,2] 3 J))))))
 refine X 1 3 ?_;replace h:=mi h mz;refine X 5 3 ?_;cases h;exact tN [0,1,2]
theorem HD {p0:State}{p1:U Node}{r:Bool×(U Node)×Int×Int×(U (U Item))×Int×(U ((U UInt8)×Unit))×(U (U Item))}(h:uu p0 p1 p2 p3 p4 p5 p6 p7=some r):FnX QbP 79 [.ptr 0 0,.agg (bE p0)] [.box [sL an p1,iI p2,iI p3,sL (ai aa) p4,iI p5,.mpr 1,.ref 2],.mp (List.map kS (List.map Prod.fst p6)) (List.map kU (List.map Prod.snd p6)),aR 30 1 (ai aa) p7] (.bool r.1) [.box [sL an r.2.1,iI r.2.2.1,iI r.2.2.2.1,sL (ai aa) r.2.2.2.2.1,iI r.2.2.2.2.2.1,.mpr 1,.ref 3],.mp (List.map kS (List.map Prod.fst r.2.2.2.2.2.2.1)) (List.map kU (List.map Prod.snd r.2.2.2.2.2.2.1)),.dead,aR 30 1 (ai aa) r.2.2.2.2.2.2.2]:=by
 unfold uu at h;replace h:=CD h;obtain⟨n9,h⟩:=h;induction n9 generalizing p0 p1 p2 p3 p4 p5 p6 p7 r
 · simp[fd]at h
 rename_i n9 ih;replace h:kf (fd (λ(rcr:(State×(U Node)×Int×Int×(U (U Item))×Int×(U ((U UInt8)×Unit))×(U (U Item)))->QbQ (Bool×(U Node)×Int×Int×(U (U Item))×Int×(U ((U UInt8)×Unit))×(U (U Item)))) (a:State×(U Node)×Int×Int×(U (U Item))×Int×(U ((U UInt8)×Unit))×(U (U Item)))=>kf rcr a.1 a.2.1 a.2.2.1 a.2.2.2.1 a.2.2.2.2.1 a.2.2.2.2.2.1 a.2.2.2.2.2.2.1 a.2.2.2.2.2.2.2) n9) p0 p1 p2 p3 p4 p5 p6 p7=some r:=h;generalize fd (λ(rcr:(State×(U Node)×Int×Int×(U (U Item))×Int×(U ((U UInt8)×Unit))×(U (U Item)))->QbQ (Bool×(U Node)×Int×Int×(U (U Item))×Int×(U ((U UInt8)×Unit))×(U (U Item)))) (a:State×(U Node)×Int×Int×(U (U Item))×Int×(U ((U UInt8)×Unit))×(U (U Item)))=>kf rcr a.1 a.2.1 a.2.2.1 a.2.2.2.1 a.2.2.2.2.1 a.2.2.2.2.2.1 a.2.2.2.2.2.2.1 a.2.2.2.2.2.2.2) n9=rcr at h ih;unfold kf at h;refine fT 3 0 Tryz.func79 Tryz.ntmps79 J ?_;refine mO 0 6 2 3 (B h λx2 hx2 h=>(X 9 4 (sO (cG [0,1,3] 5 4 (HC hx2) ⟨J,(B h λx4 hx4 h=>(Y 10 6 (sO (cG [0,1,3] 6 3 (HB hx4) ⟨J,(Y 10 6 (sO (Jj (ek:=kS) (ev:=kU) (xs:=p6) (k:=x4) (z0:=()) WO (KeyT.str We) Vc (λ_ _ _=>LU) J J J (Y 11 6 ?_))))⟩))))⟩))));refine TH h J (λah h=>?_) (λah h=>?_)
 .refine X 4 7 ?_;cases h;exact tN [0,1,2,3]
 refine X 9 7 (sO (Mq (ek:=kS) (ev:=kU) (xs:=p6) (k:=x4) (a:=()) (.inl J) WO (KeyT.str We) J J J J J (Y 21 7 (TH h J (λae h=>?_) (λae h=>?_)))))
 .refine X 4 7 ?_;cases h;exact tN [0,1,2,3]
 refine X 5 7 (sQ (cn (en:=aH) TU J J (Y 2 7 (TH h J (λaq h=>?_) (λaq h=>?_)))))
 .refine B h λx6 hx6 h=>(X 4 7 (sO (cO 7 (xk hx6) ⟨J,(B h λx8 hx8 h=>(Y 14 8 (RS.fC 7 (sO (bi (rows:=List.map (ai aa) [x6.1]) (vs:=[sL aa x6.1]) TO Ua J J J J J J (sO (bU (en:=(ai aa)) (xs:=p7) (ys:=([x6.1]:U (U Item))) TO (λ_=>J) J J J hx8 J J (Y 8 10 ?_))))))))⟩)))
  cases h;exact tN [0,1,2,9]
 refine X 5 7 (sQ (cn (en:=aH) TU J J (Y 3 7 (itr (λbB:Int×(U Node)×Int×Int×(U (U Item))×Int×(U ((U UInt8)×Unit))×(U (U Item))=>mkA 96 [(0,.ptr 0 0),(3,.ptr 3 0),(71,.ref 4),(72,iI ((x2.2).length:Int)),(73,iI bB.1)]) (λbB=>[.box [sL an bB.2.1,iI bB.2.2.1,iI bB.2.2.2.1,sL (ai aa) bB.2.2.2.2.1,iI bB.2.2.2.2.2.1,.mpr 1,.ref 5],.mp (List.map kS (List.map Prod.fst bB.2.2.2.2.2.2.1)) (List.map kU (List.map Prod.snd bB.2.2.2.2.2.2.1)),.dead,.box (bE x2.1),aR 78 2 aH x2.2,aR 30 1 (ai aa) bB.2.2.2.2.2.2.2]) h (wk [] [0,1,2,4,5,3] 7 J) (λbB v_11 h qy=>?_)))));obtain⟨s9,s10,s11,s12,s13,s14,s15,s16⟩:=bB;replace h:iO rcr x2 s9 s10 s11 s12 s13 s14 s15 s16=some v_11:=h;try dsimp only
 unfold iO at h;refine X 5 6 (TH h J (λgC h=>?_) (λgC h=>?_))
 .refine B h λx19 cU h=>(B h λx20 ee h=>(X 5 6 (sQ (aM (en:=aH) TU J J J cU (sO (aO (en:=aH) (a:=x20) J J ee (eS Ub T8 J (cs:=(aH x20)) J (B h λx22 eQ h=>(Y 4 6 (T.drawn mixed (k:=17) J ?_))))))))))
  apply TG 2 (bm 17 32767);intro jq
  .refine rq [0,1,2,4,5,6] 11 (rL [3,10,11,12,13,15,16] 3 J (rL [7,10,11,12,13,15,16] 7 J (rL [8,10,11,12,13,15,16] 8 J (rL [9,10,11,12,13,15,16] 9 J (ra2 10 14 ?_ ?_)))))
   .exact oO J (cD (nE eQ) ⟨J,(rq [11,12,13] 3 (ra1 14 (og 7 ⟨J,(raE jq)⟩)))⟩)
   .exact og 7 ⟨J,(ra1 10 (oO J (cD (nE eQ) ⟨J,(rq [11,12,13] 2 (raT jq))⟩)))⟩
  refine ra1 15 (og 8 ⟨J,(rq [16] 0 (RA.done (by decide+kernel) (B h λx24 dK h=>(X 4 8 (sO (cG [0,1,5] 8 4 (ih dK) ⟨J,(Y 2 9 (TH h J (λox h=>?_) (λox h=>?_)))⟩))))))⟩)
  .refine X 4 9 ?_;replace h:=mi h qy;cases h;exact tN [0,1,2,8]
  exact X 5 9 (lk h (wk [] [0,1,2,3,4,8] 9 J))
 refine X 1 6 ?_;replace h:=mi h qy;refine X 4 6 ?_;cases h;exact tN [0,1,2,5]
theorem Io {p0 p1:Item}(h:rJ p0 p1=some r):Fn QbP 41 [.agg (aa p0),.agg (aa p1)] (iI r):=by
 unfold rJ at h;refine fT 0 17 Tryz.func41 Tryz.ntmps41 J (TH h J (λah h=>?_) (λah h=>?_))
 .refine X 9 2 (TH h J (λae h=>?_) (λae h=>?_))
  .refine X 4 2 ?_;cases h;exact tD
  refine X 5 2 ?_;cases h;exact tD
 refine X 9 2 (TH h J (λaq h=>?_) (λaq h=>?_))
 .refine X 9 2 (TH h J (λaD h=>?_) (λaD h=>?_))
  .refine X 4 2 ?_;cases h;exact tD
  refine X 5 2 ?_;cases h;exact tD
 refine X 5 2 ?_;cases h;exact tD
theorem Aa {p0:U Item}(h:oE p0 p1=some r):Fn QbP 40 [sL aa p0,sL aa p1,.func 41 []] (iI r):=by
 unfold oE at h;refine fT 0 8 Tryz.func40 Tryz.ntmps40 J (sQ (al TL J (Y 3 0 (itr (λaU:Int=>mkA 39 [(0,sL aa p0),(1,sL aa p1),(2,.func 41 []),(11,sL aa p0),(12,iI ((p0).length:Int)),(13,iI aU)]) (λaU=>[]) h (wk [] [] 0 J) (λaU v_8 h fF=>?_)))));revert fF h;revert aU;intro s1 h fF;replace h:oD p0 p1 s1=some v_8:=h;try dsimp only
 unfold oD at h;refine X 5 0 (TH h J (λdP h=>?_) (λdP h=>?_))
 .refine B h λx3 hx3 h=>(X 6 0 (sQ (aG TL (λ_=>J) J J hx3 (Y 10 0 (sQ (al TL J (Y 2 1 (TH h J (λeY h=>?_) (λeY h=>?_)))))))))
  .refine X 4 1 ?_;replace h:=mi h fF;cases h;exact tD
  refine B h λx5 hx5 h=>(X 5 1 (sQ (aG TL (λ_=>J) J J hx5 (B h λx7 hx7 h=>(Y 9 1 (sO (cF (Io hx7) ⟨J,(Y 7 2 (TH h J (λgC h=>?_) (λgC h=>?_)))⟩)))))))
  .refine X 5 2 ?_;replace h:=mi h fF;cases h;exact tD
  exact X 5 2 (lk h (wk [] [] 2 J))
 refine X 1 0 ?_;replace h:=mi h fF;refine X 4 0 (sQ (al TL J (Y 1 0 (sQ (al TL J (Y 2 0 (TH h J (λfY h=>?_) (λfY h=>?_))))))))
 .refine X 4 0 ?_;cases h;exact tD
 refine X 5 0 ?_;cases h;exact tD
theorem AR {p0:U Item}(h:nt p0 p1=some r):Fn QbP 80 [sL aa p0,sL aa p1] (iI r):=by
 unfold nt at h;refine fT 0 0 Tryz.func80 Tryz.ntmps80 J ?_;refine B h λx2 hx2 h=>(X 8 0 (sO (cF (Aa hx2) ⟨J,(Y 2 0 ?_)⟩)))
 cases h;exact tD
theorem HJ {p0 r:U (U Item)}(h:w5 p0=some r):FnX QbP 81 [.ref 0,.func 80 []] [aR 30 1 (ai aa) p0] (.tup []) [aR 30 1 (ai aa) r]:=Le 80 nt (λh=>AR h) IA h
theorem Ao {p0:U Item}{r:Bool}(h:oV p0 p1=some r):FnX QbP 83 [sL aa p0,sL aa p1,.ptr 0 0] [.box [.func 80 []]] (.bool r) [.box [.func 80 []]]:=by
 unfold oV at h;refine fT 1 0 Tryz.func83 Tryz.ntmps83 J ?_;refine B h λx2 hx2 h=>(X 9 1 (sO (cF (AR hx2) ⟨J,(Y 3 1 ?_)⟩)))
 cases h;exact tN [0]
theorem Hl {p0 r:U (U Item)}(h:qS p0=some r):FnX QbP 82 [.ref 0,.func 83 [.ptr 1 0]] [aR 30 1 (ai aa) p0,.box [.func 80 []]] (.ref 2) [.dead,.box [.func 80 []],aR 30 1 (ai aa) r]:=by
 unfold qS at h;refine fT 2 0 Tryz.func82 Tryz.ntmps82 J ?_;refine US 0 0 J J J J (X 8 3 (sQ (cn (en:=(ai aa)) TO J J (Y 2 3 (TH h J (λah h=>?_) (λah h=>?_))))))
 .refine X 5 3 ?_;cases h;exact tO [] [0,1,2] 3
 refine X 7 3 (itr (λqu:Int=>mkA 66 [(0,.ref 2),(1,.func 83 [.ptr 1 0]),(5,iI qu)]) (λqu=>[.dead,.box [.func 80 []],aR 30 1 (ai aa) p0]) h (wk [] [0,1,2] 3 J) (λqu v_51 h wG=>?_));revert wG h;revert qu;intro s1 h wG;replace h:jv p0 s1=some v_51:=h;try dsimp only
 unfold jv at h;refine X 5 3 (sQ (cn (en:=(ai aa)) TO J J (Y 2 3 (TH h J (λRe h=>?_) (λRe h=>?_)))))
 .refine B h λx7 hx7 h=>(B h λx8 hx8 h=>(B h λx9 hx9 h=>(B h λx10 aY h=>(B h λx11 bw h=>(X 4 3 (T.drawn mixed (k:=11) J ?_))))))
  apply TG 1 (bm 11 1023);intro ue
  .refine rq [0,1,2] 8 (r0 3 J (aM (en:=(ai aa)) TO J J J hx7 (rq [5,6,7] 4 (r0 8 J (aM (en:=(ai aa)) TO J J J hx9 (ra2 4 9 ?_ ?_))))))
   .exact oO J (aO (en:=(ai aa)) (a:=x8) J J hx8 (aI T2 (c:=sL aa x8) J (ra1 9 (oO J (aO (en:=(ai aa)) (a:=x10) J J aY (aI T2 (c:=sL aa x10) J (raE ue)))))))
   .exact oO J (aO (en:=(ai aa)) (a:=x10) J J aY (aI T2 (c:=sL aa x10) J (ra1 4 (oO J (aO (en:=(ai aa)) (a:=x8) J J hx8 (aI T2 (c:=sL aa x8) J (raT ue)))))))
  refine ra1 10 (oO J (cG [1] 3 1 (Ao bw) ⟨J,(RA.done (by decide+kernel) (TH h J (λzm h=>?_) (λzm h=>?_)))⟩))
  .refine B h λx13 dc h=>(X 4 3 (sO (iV (en:=(ai aa)) (xs:=p0) TO J J J J dc (Y 8 3 (itr (λj5:Int×Int×(U (U Item))=>mkA 66 [(0,.ref 2),(1,.func 83 [.ptr 1 0]),(5,iI j5.1),(6,.vw 2 1 ((s1).toNat) ((((p0).length:Int)).toNat- (s1).toNat) none),(7,iI j5.2.1)]) (λj5=>[.dead,.box [.func 80 []],aR 30 1 (ai aa) j5.2.2]) h (TS [] [0,1,2] (by decide) (by decide) J ⟨bX J,eT ⟨am J,tqz⟩,cS J,rn_vw J J J,cS J,tqz⟩ (yE J (aA (cs:=[.func 80 []]) (ds:=[.func 80 []]) J ⟨eT trivial,tqz⟩ (ig J J (au))))) (λj5 v_68 h Rf=>?_))))))
   obtain⟨s14,s15,s16⟩:=j5;replace h:lq p0 s1 s14 s15 s16=some v_68:=h;try dsimp only
   unfold lq at h;refine X 5 3 (sO (CR TO J (Y 2 3 (TH h J (λRh h=>?_) (λRh h=>?_)))))
   .refine B h λx22 eQ h=>(B h λx23 ed h=>(B h λx24 dK h=>(B h λx25 jp h=>(B h λx26 gH h=>(X 4 3 (T.drawn mixed (k:=12) J ?_))))))
    apply TG 2 (bm 12 1023);intro Ha;apply TG 3 (bm 12 1007);intro Hb;apply TG 3 (bm 12 511);intro tU;apply TG 4 (bm 12 495);intro qE
    .refine rq [0,1,2,5,6,7] 6 (ra2 3 8 ?_ ?_)
     .refine oO J (nr TO J J eQ (ra2 4 8 ?_ ?_))
      .exact oO J (aO (en:=(ai aa)) (a:=x23) J J ed (aI T2 (c:=sL aa x23) J (ra1 8 (oO J (nr TO J J dK (raE tU))))))
      .exact oO J (nr TO J J dK (raE qE))
     .refine oO J (nr TO J J dK (ra2 3 9 ?_ ?_))
      .exact oO J (nr TO J J eQ (raT qE))
      .exact oO J (aO (en:=(ai aa)) (a:=x25) J J jp (aI T2 (c:=sL aa x25) J (ra1 3 (oO J (nr TO J J eQ (raE Hb))))))
    .refine ra2 4 9 ?_ ?_
     .exact oO J (aO (en:=(ai aa)) (a:=x23) J J ed (aI T2 (c:=sL aa x23) J (raT tU)))
     .exact oO J (aO (en:=(ai aa)) (a:=x25) J J jp (aI T2 (c:=sL aa x25) J (raT Hb)))
    .exact ra1 9 (oO J (aO (en:=(ai aa)) (a:=x25) J J jp (aI T2 (c:=sL aa x25) J (raE Ha))))
    .exact ra1 4 (oO J (aO (en:=(ai aa)) (a:=x23) J J ed (aI T2 (c:=sL aa x23) J (raT Ha))))
    refine ra1 10 (oO J (cG [1] 3 1 (Ao gH) ⟨J,(rq [11] 0 (RA.done (by decide+kernel) (TH h J (λzj h=>?_) (λzj h=>?_))))⟩))
    .refine B h λx31 ll h=>(B h λx32 lm h=>(B h λx33 zR h=>(B h λx34 oB h=>(X 6 3 (sO (nr TO J J ll (sO (aO (en:=(ai aa)) (a:=x32) J J lm (aI T2 (c:=sL aa x32) J (sQ (aM (en:=(ai aa)) TO J J J zR (sO (e9 (en:=(ai aa)) (a:=x34) (a':=x32) Ut Uz J (vs:=[sL aa x32]) J J J oB J J J (Y 11 3 ?_))))))))))))))
     exact lk h (TS [] [0,1,2] (by decide) (by decide) J ⟨bX J,eT ⟨am J,tqz⟩,cS J,rn_vw J J J,cS J,tqz⟩ (yE J (aA (cs:=[.func 80 []]) (ds:=[.func 80 []]) J ⟨eT trivial,tqz⟩ (ig J J (au)))))
    exact X 6 3 (lk h (TS [] [0,1,2] (by decide) (by decide) J ⟨bX J,eT ⟨am J,tqz⟩,cS J,rn_vw J J J,cS J,tqz⟩ (yE J (aA (cs:=[.func 80 []]) (ds:=[.func 80 []]) J ⟨eT trivial,tqz⟩ (ig J J (au))))))
   refine X 1 3 ?_;replace h:=mi h Rf;refine B h λx37 tT h=>(B h λx38 Rs h=>(X 4 3 (sO (iV (en:=(ai aa)) (xs:=s16) TO J J J J tT (sO (Jp (en:=(ai aa)) (xs:=s16) (z0:=[]) TO Ua (λσ w F vs h=>Oi σ w F vs h) J (λ_=>J) J J Rs J (B h λx40 zS h=>(Y 5 3 (sO (A0 (en:=(ai aa)) (xs:=(clr s16 ((s14).toNat) ((((s16).length:Int)).toNat- (s14).toNat) [])) TO J J J zS J J (Y 2 4 ?_)))))))))))
   replace h:=mi h wG;cases h;exact tO [] [0,1,3] 4
  exact X 6 3 (lk h (wk [] [0,1,2] 3 J))
 refine X 1 3 ?_;replace h:=mi h wG;refine X 5 3 ?_;cases h;exact tO [] [0,1,2] 3
theorem JZ {p1:U (U Item)}{r:(U (U Item))×Int}(h:sR p0 p1=some r):FnO QbP 36 [.agg (aK p0),sL (ai aa) p1] (.tup [.ref 0,iI r.2]) [aR 30 1 (ai aa) r.1]:=by
 unfold sR at h;refine fT 0 0 Tryz.func36 Tryz.ntmps36 J ?_;refine B h λx2 hx2 h=>(X 10 0 (sO (cG [] 1 5 (TR (m6 hx2)) ⟨J,(Y 13 6 (TH h J (λah h=>?_) (λah h=>?_)))⟩)))
 .refine X 6 7 ?_;cases h;exact tO [(0,30,1)] [7] 7
 refine B h λx4 hx4 h=>(X 4 7 (sO (cD (nz hx4) ⟨J,(Y 1 7 (sO (Cb J J (Y 5 8 (nB 8 6 30 1 9 (B h λx6 hx6 h=>(X 4 10 (RS.fC 1 ?_))))))))⟩)))
 refine RS.fC 2 (RS.fC 3 (RS.fC 4 (RS.fC 5 (sO (cG [8,7,9] 10 4 (HD hx6) ⟨J,(Y 2 11 (TH h J (λae h=>?_) (λae h=>?_)))⟩)))))
 .refine X 5 11 ?_;cases h;exact tO [(0,30,1)] [11] 11
 refine B h λx8 hx8 h=>(X 7 11 (T.drawn mixed (k:=6) J (rq [0,1,2] 3 (rL [3,5] 3 J (ra1 4 (og 12 ⟨J,(ra1 5 (oO J (cG [10] 12 1 (HJ hx8) ⟨J,(RA.done (by decide+kernel) ?_)⟩)))⟩))))))
 refine B h λx10 aY h=>(X 7 12 (sO (cG [10,11] 12 3 (Hl aY) ⟨J,(Y 3 13 ?_)⟩)))
 cases h;exact tO [] [12] 13
theorem AX {p0:U Item}(h:pw p0 p1=some r):Fn QbP 39 [sL aa p0,sL aa p1] (iI r):=by
 unfold pw at h;refine fT 0 0 Tryz.func39 Tryz.ntmps39 J ?_;refine B h λx2 hx2 h=>(X 8 0 (sO (cF (Aa hx2) ⟨J,(Y 2 0 ?_)⟩)))
 cases h;exact tD
theorem Hi {p0:U (U Item)}{r:Int×Bool}(h:qO p0 p1=some r):Fn QbP 38 [sL (ai aa) p0,sL aa p1,.func 39 []] (.tup [iI r.1,.bool r.2]):=by
 unfold qO at h;refine fT 0 8 Tryz.func38 Tryz.ntmps38 J (sQ (al TO J (Y 10 0 (itr (λak:Int×Int=>mkA 49 [(0,sL (ai aa) p0),(1,sL aa p1),(2,.func 39 []),(8,iI ((p0).length:Int)),(9,iI ak.1),(10,iI ak.2)]) (λak=>[]) h (wk [] [] 0 J) (λak v_6 h bg=>?_)))));obtain⟨s1,s2⟩:=ak;replace h:qM p0 p1 s1 s2=some v_6:=h;try dsimp only
 unfold qM at h;refine X 7 0 (TH h J (λbH h=>?_) (λbH h=>?_))
 .refine B h λx4 hx4 h=>(X 8 0 (sQ (jf J J hx4 (B h λx7 hx7 h=>(B h λx8 hx8 h=>(Y 8 0 (sQ (aG TO (λ_=>J) J J hx7 (Y 2 0 (sO (cF (AX hx8) ⟨J,(Y 2 0 ?_)⟩)))))))))))
  refine TH h J (λbF h=>?_) (λbF h=>?_)
  .exact X 5 0 (lk h (wk [] [] 0 J))
  exact X 4 0 (lk h (wk [] [] 0 J))
 refine X 1 0 ?_;replace h:=mi h bg;obtain⟨zx,hz,h⟩:=bind_some h;revert hz h;revert zx;intro c11 hz h;refine j1 [(6,iI s1),(7,.bool c11)] [] ?_ (λhK=>?_)
 .cases h;exact tD
 refine X 7 0 (gi 39 hz (λeY hz=>?_) (λeY hz=>?_))
 .refine B hz λx9 hx9 hz=>(B hz λx10 aY hz=>(Y 3 0 (yQ J (aG TO (λ_=>J) J J hx9 (Y 2 0 (yO J (cF (AX aY) ⟨J,(Yp 5 0 ?_)⟩)))))))
  cases hz;exact sx hK
 refine Yp 12 0 ?_;cases hz;exact sx hK
theorem Ju {p1:U (U Item)}{p2:U Item}{r:Bool×Int}(h:nJ p0 p1 p2=some r):Fn QbP 13 [.agg (aK p0),sL (ai aa) p1,sL aa p2] (.tup [.bool r.1,iI r.2]):=by
 unfold nJ at h;refine fT 0 10 Tryz.func13 Tryz.ntmps13 J (sQ (al TL J (Y 2 1 (TH h J (λah h=>?_) (λah h=>?_)))))
 .refine X 5 1 ?_;cases h;exact tD
 refine B h λx2 hx2 h=>(X 5 1 (sO (cQ 1 (JZ hx2) ⟨J,(Y 12 2 (TH h J (λae h=>?_) (λae h=>?_)))⟩)))
 .refine X 6 2 ?_;cases h;exact tD
 refine B h λx4 hx4 h=>(X 4 2 (sO (cO 2 (xk hx4) ⟨J,(B h λx6 hx6 h=>(Y 10 3 (sO (cF (Hi hx6) ⟨J,(Y 12 3 ?_)⟩))))⟩)))
 cases h;exact tD
theorem HN {p1:U (U Item)}{p2:U Happening}{p3 r:Bool}(h:uA p0 p1 p2 p3=some r):Fn QbP 3 [.agg (aK p0),sL (ai aa) p1,sL dp p2,.bool p3] (.bool r):=by
 unfold uA at h;refine fT 0 5 Wp Tryz.ntmps3 J (jn (Z:=U Happening) (λqL=>mkA 167 [(1,sL (ai aa) p1),(2,sL dp qL),(3,.bool p3),(4,.ptr 0 0)]) (λqL=>[.box (aK p0)]) (λqL=>mG p0 p1 p3 qL=some r) (λqL h=>?_) (λhK3=>?_))
 .revert h;revert qL;intro z4 h;replace h:mG p0 p1 p3 z4=some r:=h;try dsimp only
  unfold mG at h;refine B h λx6 hx6 h=>(X 5 1 (sO (cD (BS hx6) ⟨J,(B h λx7 hx7 h=>(Y 10 1 (j1 [(1,sL (ai aa) p1),(3,.bool p3),(4,.ptr 0 0),(9,.ptr 1 0),(36,.bool ((!x7)||x6.2.2 !=0))] [.box (aK p0),.box (fK x6.1)] ?_ (λhK=>?_))))⟩)))
  .refine TH h J (λaD h=>?_) (λaD h=>?_)
   .refine B h λx10 aY h=>(X 2 2 (sO (cF (Ap aY) ⟨J,(Y 2 2 ?_)⟩)))
    cases h;exact tD
   refine X 7 2 (jn (Z:=(U Node)×Int×Int×(U (U Item))×(U Int)×(U (U Item))×(U Memory)×(U Choice)×(U Item)×(U (U UInt8))×(U Write)×Int×Int×Int×Int×Int×(U Item)×Bool) (λbM=>mkA 167 [(1,sL (ai aa) p1),(3,.bool p3),(4,.ptr 0 0),(9,.ptr 1 0),(12,sL aa x6.1.Told)]) (λbM=>[.box (aK p0),.box [sL an bM.1,iI bM.2.1,iI bM.2.2.1,sL (ai aa) bM.2.2.2.1,sL aj bM.2.2.2.2.1,sL (ai aa) bM.2.2.2.2.2.1,sL aC bM.2.2.2.2.2.2.1,sL ao bM.2.2.2.2.2.2.2.1,sL aa bM.2.2.2.2.2.2.2.2.1,sL aT bM.2.2.2.2.2.2.2.2.2.1,sL be bM.2.2.2.2.2.2.2.2.2.2.1,iI bM.2.2.2.2.2.2.2.2.2.2.2.1,iI bM.2.2.2.2.2.2.2.2.2.2.2.2.1,iI bM.2.2.2.2.2.2.2.2.2.2.2.2.2.1,iI bM.2.2.2.2.2.2.2.2.2.2.2.2.2.2.1,iI bM.2.2.2.2.2.2.2.2.2.2.2.2.2.2.2.1,sL aa bM.2.2.2.2.2.2.2.2.2.2.2.2.2.2.2.2.1,.bool bM.2.2.2.2.2.2.2.2.2.2.2.2.2.2.2.2.2]]) (λbM=>mF p0 p1 p3 x6 bM.1 bM.2.1 bM.2.2.1 bM.2.2.2.1 bM.2.2.2.2.1 bM.2.2.2.2.2.1 bM.2.2.2.2.2.2.1 bM.2.2.2.2.2.2.2.1 bM.2.2.2.2.2.2.2.2.1 bM.2.2.2.2.2.2.2.2.2.1 bM.2.2.2.2.2.2.2.2.2.2.1 bM.2.2.2.2.2.2.2.2.2.2.2.1 bM.2.2.2.2.2.2.2.2.2.2.2.2.1 bM.2.2.2.2.2.2.2.2.2.2.2.2.2.1 bM.2.2.2.2.2.2.2.2.2.2.2.2.2.2.1 bM.2.2.2.2.2.2.2.2.2.2.2.2.2.2.2.1 bM.2.2.2.2.2.2.2.2.2.2.2.2.2.2.2.2.1 bM.2.2.2.2.2.2.2.2.2.2.2.2.2.2.2.2.2=some r) (λbM h=>?_) (λhK2=>?_))
   .obtain⟨z15,z16,z17,z18,z19,z20,z21,z22,z23,z24,z25,z26,z27,z28,z29,z30,z31,z32⟩:=bM;replace h:mF p0 p1 p3 x6 z15 z16 z17 z18 z19 z20 z21 z22 z23 z24 z25 z26 z27 z28 z29 z30 z31 z32=some r:=h;try dsimp only
    unfold mF at h;refine X 2 2 (itr (λbn:(U Node)×Int×Int×(U (U Item))×(U Int)×(U (U Item))×(U Memory)×(U Choice)×(U Item)×(U (U UInt8))×(U Write)×Int×Int×Int×Int×Int×(U Item)×Bool=>mkA 167 [(1,sL (ai aa) p1),(3,.bool p3),(4,.ptr 0 0),(9,.ptr 1 0),(12,sL aa x6.1.Told)]) (λbn=>[.box (aK p0),.box [sL an bn.1,iI bn.2.1,iI bn.2.2.1,sL (ai aa) bn.2.2.2.1,sL aj bn.2.2.2.2.1,sL (ai aa) bn.2.2.2.2.2.1,sL aC bn.2.2.2.2.2.2.1,sL ao bn.2.2.2.2.2.2.2.1,sL aa bn.2.2.2.2.2.2.2.2.1,sL aT bn.2.2.2.2.2.2.2.2.2.1,sL be bn.2.2.2.2.2.2.2.2.2.2.1,iI bn.2.2.2.2.2.2.2.2.2.2.2.1,iI bn.2.2.2.2.2.2.2.2.2.2.2.2.1,iI bn.2.2.2.2.2.2.2.2.2.2.2.2.2.1,iI bn.2.2.2.2.2.2.2.2.2.2.2.2.2.2.1,iI bn.2.2.2.2.2.2.2.2.2.2.2.2.2.2.2.1,sL aa bn.2.2.2.2.2.2.2.2.2.2.2.2.2.2.2.2.1,.bool bn.2.2.2.2.2.2.2.2.2.2.2.2.2.2.2.2.2]]) h (wk [] [0,1] 2 J) (λbn v_22 h j6=>?_));obtain⟨s33,s34,s35,s36,s37,s38,s39,s40,s41,s42,s43,s44,s45,s46,s47,s48,s49,s50⟩:=bn;replace h:lA p0 p1 p3 x6 s33 s34 s35 s36 s37 s38 s39 s40 s41 s42 s43 s44 s45 s46 s47 s48 s49 s50=some v_22:=h;try dsimp only
    unfold lA at h;refine B h λx53 wX h=>(B h λx54 Hc h=>(X 2 2 (T.drawn mixed (k:=9) J ?_)))
    apply TG 2 (bm 9 127);intro fZ;apply TG 6 (bm 9 67);intro ff;apply TG 7 (bm 9 3);intro eH;apply TG 7 (bm 9 65);intro f0
    .refine ra3 0 1 6 ?_ ?_ ?_
     .refine og 2 ⟨J,(ra2 1 6 ?_ ?_)⟩
      .exact oO J (cF (dm wX) ⟨J,(raE eH)⟩)
      .exact og 2 ⟨J,(raE f0)⟩
     .exact oO J (cF (dm wX) ⟨J,(rL [0,2,3,4,5,7,8] 0 J (raT eH))⟩)
     .refine og 2 ⟨J,(ra2 0 1 ?_ ?_)⟩
      .exact og 3 ⟨J,(raT f0)⟩
      .exact oO J (cF (dm wX) ⟨J,(ra1 0 (og 3 ⟨J,(raE ff)⟩))⟩)
    .exact ra1 1 (oO J (cF (dm wX) ⟨J,(raT ff)⟩))
    .refine ra2 2 6 ?_ ?_
     .exact oO J (cD (kD Hc) ⟨J,(rq [3,4,5] 3 (ra1 6 (og 2 ⟨J,(raE fZ)⟩)))⟩)
     .exact og 2 ⟨J,(raT ff)⟩
    .exact ra1 2 (oO J (cD (kD Hc) ⟨J,(rq [3,4,5] 2 (raT fZ))⟩))
    refine ra1 7 (og 3 ⟨J,(rq [8] 0 (RA.done (by decide+kernel) (X 6 3 (TH h J (λtF h=>?_) (λtF h=>?_)))))⟩)
    .refine X 1 3 ?_;replace h:=mi h j6;refine B h λx57 Hd h=>(B h λx58 Rt h=>(X 2 3 (T.drawn mixed (k:=8) J ?_)))
     apply TG 6 (bm 8 3);intro hJ
     .refine ra2 0 1 ?_ ?_
      .exact og 3 ⟨J,(ra1 1 (oO J (cF (dm Hd) ⟨J,(raE hJ)⟩)))⟩
      .exact oO J (cF (dm Hd) ⟨J,(ra1 0 (og 3 ⟨J,(raT hJ)⟩))⟩)
     refine ra1 2 (oO J (cD (kD Rt) ⟨J,(rq [3,4,5] 2 (ra1 6 (og 3 ⟨J,(rq [7] 0 (RA.done (by decide+kernel) (X 5 3 (TH h J (λoq h=>?_) (λoq h=>?_)))))⟩)))⟩))
     .refine X 4 3 ?_;cases h;exact tD
     refine B h λx61 wY h=>(B h λx62 He h=>(X 2 3 (T.drawn mixed (k:=9) J ?_)))
     apply TG 2 (bm 9 127);intro qH;apply TG 6 (bm 9 67);intro qI;apply TG 7 (bm 9 3);intro qJ;apply TG 7 (bm 9 65);intro t8
     .refine ra3 0 1 6 ?_ ?_ ?_
      .refine og 3 ⟨J,(ra2 1 6 ?_ ?_)⟩
       .exact oO J (cF (dm wY) ⟨J,(raE qJ)⟩)
       .exact og 3 ⟨J,(raE t8)⟩
      .exact oO J (cF (dm wY) ⟨J,(rL [0,2,3,4,5,7,8] 0 J (raT qJ))⟩)
      .refine og 3 ⟨J,(ra2 0 1 ?_ ?_)⟩
       .exact og 4 ⟨J,(raT t8)⟩
       .exact oO J (cF (dm wY) ⟨J,(ra1 0 (og 4 ⟨J,(raE qI)⟩))⟩)
     .exact ra1 1 (oO J (cF (dm wY) ⟨J,(raT qI)⟩))
     .refine ra2 2 6 ?_ ?_
      .exact oO J (cD (kD He) ⟨J,(rq [3,4,5] 3 (ra1 6 (og 3 ⟨J,(raE qH)⟩)))⟩)
      .exact og 3 ⟨J,(raT qI)⟩
     .exact ra1 2 (oO J (cD (kD He) ⟨J,(rq [3,4,5] 2 (raT qH))⟩))
     refine ra1 7 (og 4 ⟨J,(rq [8] 0 (RA.done (by decide+kernel) (X 6 4 (TH h J (λtP h=>?_) (λtP h=>?_)))))⟩)
     .refine X 6 4 ?_;cases h;exact tD
     refine B h λx65 Hf h=>(B h λx66 Ru h=>(X 3 4 (T.drawn mixed (k:=8) J ?_)))
     apply TG 6 (bm 8 3);intro ua
     .refine ra2 0 1 ?_ ?_
      .exact og 4 ⟨J,(ra1 1 (oO J (cF (dm Hf) ⟨J,(raE ua)⟩)))⟩
      .exact oO J (cF (dm Hf) ⟨J,(ra1 0 (og 4 ⟨J,(raT ua)⟩))⟩)
     refine ra1 2 (oO J (cD (kD Ru) ⟨J,(rq [3,4,5] 2 (ra1 6 (og 4 ⟨J,(rq [7] 0 (RA.done (by decide+kernel) (X 5 4 (TH h J (λba h=>?_) (λba h=>?_)))))⟩)))⟩))
     .refine X 4 4 ?_;cases h;exact tD
     refine B h λx69 Hg h=>(B h λx70 Rv h=>(X 3 4 (T.drawn mixed (k:=8) J ?_)))
     apply TG 6 (bm 8 3);intro Hh
     .refine ra2 0 1 ?_ ?_
      .exact og 4 ⟨J,(ra1 1 (oO J (cF (dm Hg) ⟨J,(raE Hh)⟩)))⟩
      .exact oO J (cF (dm Hg) ⟨J,(ra1 0 (og 4 ⟨J,(raT Hh)⟩))⟩)
     refine ra1 2 (oO J (cD (kD Rv) ⟨J,(rq [3,4,5] 2 (ra1 6 (og 4 ⟨J,(rq [7] 0 (RA.done (by decide+kernel) (X 5 4 (TH h J (λjm h=>?_) (λjm h=>?_)))))⟩)))⟩))
     .refine X 4 4 ?_;cases h;exact tD
     refine B h λx71 Rw h=>(X 2 4 ?_)
     obtain⟨Ri,hz,h⟩:=bind_some h;revert hz h;revert Ri;intro c73 hz h;refine j1 [(1,sL (ai aa) p1),(3,.bool p3),(4,.ptr 0 0),(9,.ptr 1 0),(105,.bool c73)] [.box (aK p0),.box (fK x70.1)] ?_ (λhK=>?_)
     .refine TH h J (λtK h=>?_) (λtK h=>?_)
      .refine B h λx75 Rx h=>(X 4 2 (sO (cF (AA Rx) ⟨J,(Y 3 2 ?_)⟩)))
       cases h;exact tD
      refine B h λx77 Ry h=>(X 9 2 (sO (cF (As Ry) ⟨J,(Y 2 2 (TH h J (λzB h=>?_) (λzB h=>?_)))⟩)))
      .refine X 4 2 ?_;cases h;exact tD
      refine B h λx79 Rz h=>(X 8 2 (sO (cD (IV Rz) ⟨J,(Y 13 2 (TH h J (λtL h=>?_) (λtL h=>?_)))⟩)))
      .refine X 4 3 ?_;cases h;exact tD
      refine B h λx81 RB h=>(X 10 3 (sO (cD (Iq RB) ⟨J,(Y 6 3 ?_)⟩)))
      obtain⟨Rj,hz,h⟩:=bind_some h;revert hz h;revert Rj;intro c83 hz h;refine j1 [(1,sL (ai aa) p1),(3,.bool p3),(4,.ptr 0 0),(9,.ptr 1 0),(147,.bool c83)] [.box (aK p0),.box (fK x70.1)] ?_ (λhK=>?_)
      .refine TH h J (λzy h=>?_) (λzy h=>?_)
       .refine X 4 2 ?_;cases h;exact tD
       refine X 7 2 (TH h J (λtH h=>?_) (λtH h=>?_))
       .refine X 4 2 ?_;cases h;exact tD
       refine B h λx85 RC h=>(X 7 2 (sO (cF (Ju RC) ⟨J,(Y 6 2 (j1 [(8,.bool ((x85.2==2)||((x85.2==0)&&x85.1)))] [] ?_ (λhK=>?_)))⟩)))
       .cases h;exact tD
       refine X 5 2 (gp 160 (λwH=>?_) (λwH=>?_))
       .refine Yp 8 2 ?_;rw[wH]at hK;exact wu hK [] [] 2 J
       refine Y 3 2 (gp 163 (λtM=>?_) (λtM=>?_))
       .refine Yp 5 2 ?_;rw[wH]at hK;rw[tM]at hK;exact wu hK [] [] 2 J
       refine Yp 5 2 ?_;rw[wH]at hK;rw[tM]at hK;exact wu hK [] [] 2 J
      refine X 5 3 (gi 140 hz (λov hz=>?_) (λov hz=>?_))
      .refine Yp 8 3 ?_;cases hz;exact wu hK [] [0,1] 3 J
      refine B hz λx82 RD hz=>(Y 4 3 (yO J (cF (As RD) ⟨J,(Yp 3 3 ?_)⟩)))
      cases hz;exact wu hK [] [0,1] 3 J
     refine X 5 4 (sO (cF (xg Rw) ⟨J,(Y 2 4 (gi 100 hz (λlh hz=>?_) (λlh hz=>?_)))⟩))
     .refine Yp 6 4 ?_;cases hz;exact wu hK [] [0,1] 4 J
     refine B hz λx72 RE hz=>(Y 2 4 (yO J (cF (AA RE) ⟨J,(Yp 3 4 ?_)⟩)))
     cases hz;exact wu hK [] [0,1] 4 J
    refine X 7 3 (TH h J (λRk h=>?_) (λRk h=>?_))
    .refine X 4 3 ?_;replace h:=mi h j6;cases h;exact tD
    exact X 5 3 (lk h (wk [] [0,1] 3 J))
   refine X 6 2 (TH h J (λRl h=>?_) (λRl h=>?_))
   .refine B h λx13 dc h=>(B h λx14 cm h=>(X 1 2 (T.drawn mixed (k:=8) J ?_)))
    apply TG 6 (bm 8 3);intro uf
    .refine ra2 0 1 ?_ ?_
     .exact og 2 ⟨J,(ra1 1 (oO J (cF (dm dc) ⟨J,(raE uf)⟩)))⟩
     .exact oO J (cF (dm dc) ⟨J,(ra1 0 (og 2 ⟨J,(raT uf)⟩))⟩)
    refine ra1 2 (oO J (cD (kD cm) ⟨J,(rq [3,4,5] 2 (ra1 6 (og 2 ⟨J,(rq [7] 0 (RA.done (by decide+kernel) (X 5 2 (TH h J (λzn h=>?_) (λzn h=>?_)))))⟩)))⟩))
    .refine X 4 2 ?_;cases h;exact tD
    exact X 1 2 (sx (hK2 (x14.1.N.Nodes,x14.1.N.Rings,x14.1.N.Room,x14.1.Items,x14.1.S.At,x14.1.S.Rings,x14.1.S.Memory,x14.1.S.Choices,x14.1.S.Out,x14.1.D.Sectors,x14.1.D.Wait,x14.1.Logged,x14.1.Safe,x14.1.Epoch,x14.1.Laid,x14.1.Next,x14.1.Told,x14.1.Down) h))
   exact X 1 2 (sx (hK2 (x6.1.N.Nodes,x6.1.N.Rings,x6.1.N.Room,x6.1.Items,x6.1.S.At,x6.1.S.Rings,x6.1.S.Memory,x6.1.S.Choices,x6.1.S.Out,x6.1.D.Sectors,x6.1.D.Wait,x6.1.Logged,x6.1.Safe,x6.1.Epoch,x6.1.Laid,x6.1.Next,x6.1.Told,x6.1.Down) h))
  refine X 2 2 (sO (cF (Ap hx7) ⟨J,(Y 2 2 (gp 33 (λaq=>?_) (λaq=>?_)))⟩))
  .refine Yp 4 2 ?_;rw[aq]at hK;exact sx hK
  refine Yp 4 2 ?_;rw[aq]at hK;exact sx hK
 refine X 4 1 (sQ (al Us J (Y 2 1 (TH h J (λzo h=>?_) (λzo h=>?_)))))
 .exact B h λx1 hx1 h=>(X 2 1 (sO (nA Us (λ_=>J) J J J hx1 (Y 2 1 (sx (hK3 x1 h))))))
 exact X 1 1 (sx (hK3 p2 h))
end
end
section
open Go.ChangeShapes Go.WideShapes Go.ChangeAt Go.RowKit
section
variable {α H β:Type}{P:Program}{t:TypeId}{v:Value}{total base:Nat}{fs:Array Field}{ps:U MemPlace}{en:α->U AV}{m:α->Nat}{enc:TypeId×Value->H}{d:DataW H}
theorem Ba {p:Nat->α->Prop}:∀n:Nat,(∀i,i<n->∃x,p i x)->∃l:U α,l.length=n/\∀(i:Nat) x,l[i]?=some x->p i x
 |0,_=>⟨[],J,λi x h=>by simp at h⟩
 | n+1,h=>by
  obtain⟨l,hl,hp⟩:=Ba n (λi hi=>h i (by omega));obtain⟨y,hy⟩:=h n (by omega);refine⟨l++[y],by simp[hl],λi x hx=>?_⟩;rw[Sk]at hx;split at hx
  .exact hp i x hx
  .have:i=n:=by
    have:=(RH.1 hx).1;simp at this;omega
   subst this;simp[hl]at hx;subst hx;exact hy
theorem Dt (d:DataW H):1<=Rows.uptoBulk d:=by
 cases d with
 |lit l=>cases l<;>simp[Rows.uptoBulk]
 |_=>simp[Rows.uptoBulk]
theorem Dm (m:α->Nat):∀(l:U α) (ds:U (DataW H)),l.length=ds.length->(∀(i:Nat) x d,l[i]?=some x->ds[i]?=some d->m x<=Rows.uptoBulk d)->(l.map m).sum<=Rows.uptoBulkAll ds
 |[],[],_,_=>by simp
 |[],_::_,h,_=>by simp at h
 |_::_,[],h,_=>by simp at h
 |x::l,d::ds,h,hp=>by have h0:=hp 0 x d J J;have h1:=Dm m l ds (by simpa using h) (λi y e hy he=>hp (i+1) y e (by simpa using hy) (by simpa using he));simp only[Se,S0,Rows.uptoBulkAll];omega
structure Opn (P:Program) (t:TypeId) {α:Type} (en:α->List AV) (good:α->Prop) (m:α->Nat):Prop where
 opn:∀{H:Type} {enc:TypeId×Value->H} {W:World} {fuel:Nat} {cs:List Value} {x:DataW H×List MemPlace},DataW.trod enc P W 0 (λ_=>true) true fuel t cs=some x ->
  ∃a,RelL [] W (λb=>b<W.heap.size) (en a) cs/\(∀u,u∈cs->u.oneCell'=true)/\good a/\m a<=Rows.uptoBulk x.1
theorem Opn.map {good:α->Prop}(h:Opn P t en good m)(f:α->β){en':β->U AV}{good':β->Prop}{m':β->Nat}(he:∀a,en' (f a)=en a)(hg:∀a,good a->good' (f a))(hm:∀a,m' (f a)<=m a):Opn P t en' good' m':=
 ⟨λhx=>by obtain⟨a,h1,h2,h3,h4⟩:=h.opn hx;exact⟨f a,by rw[he];exact h1,h2,hg a h3,SA (hm a) h4⟩⟩
theorem vK {σ:U Value}{w:World}{F:Nat->Prop}{a:AV}(h:Rel σ w F a v):RelL σ w F [a] [v]:=.cons h .nil
theorem Opn.bool (ht:P.underlying t=some .bool):Opn P t (λb:Bool=>[.bool b]) (λ_=>True) (λ_=>1):=
 ⟨λhx=>by obtain⟨b,rfl,rfl⟩:=DataW.trod_bool ht hx;exact⟨b,vK (.bool b),by simp[Value.oneCell'],trivial,Dt _⟩⟩
theorem Opn.int {k:IntKind}(ht:P.underlying t=some (.int k)):Opn P t (λn:Int=>[.int k n]) (λn=>k.min<=n/\n<=k.max) (λ_=>1):=
 ⟨λhx=>by obtain⟨n,rfl,rfl,hw⟩:=DataW.trod_int ht hx;refine⟨n,vK (.int k n),by simp[Value.oneCell'],?_,Dt _⟩;simpa only[Lit.wf,SR,decide_eq_true_eq]using hw⟩
theorem Opn.slice {e:TypeId}{good:α->Prop}{size:Nat}(ht:P.underlying t=some (.slice e))(hc:P.cellsOf e=size+1)(h:Opn P e en good m):
  Opn P t (λl:U α=>[.sl (l.map en)]) (λl=>∀a,a∈l->good a) (λl=>(l.map m).sum+1):=by
 refine⟨λ{H enc W fuel cs x} hx=>?_⟩
 rcases DataW.trod_slice ht hx with⟨rfl,rfl⟩|⟨a,len,cap,elems,rest,n,_,rfl,rfl,hb,hl,hm,hlen,hel,hsp,hns⟩
 .exact⟨[],vK .slNil,by simp[Value.oneCell'],by simp,by simp[Rows.uptoBulk]⟩
 rw[hc]at hel
 have hone:∀i,i<len->∃y:α×U Value×(DataW H×U MemPlace),elems[i]?=some y.2.2/\W.cells? 0 (a.add (i*(size+1))) (size+1)=some y.2.1/\RelL [] W (λb=>b<W.heap.size) (en y.1) y.2.1/\(∀u,u∈y.2.1->u.oneCell'=true)/\good y.1/\m y.1<=Rows.uptoBulk y.2.2.1:=by intro i hi;have h1:=hel i hi;rw[RG (by omega:i<elems.length)]at h1;obtain⟨cs',hcs,ht'⟩:=Option.bind_eq_some_iff.1 h1;obtain⟨y,g1,g2,g3,g4⟩:=h.opn ht';exact⟨(y,cs',elems[i]),RG (by omega),hcs,g1,g2,g3,g4⟩
 obtain⟨ys,hys,hp⟩:=Ba len hone
 refine⟨ys.map (·.1),vK ?_,by simp[Value.oneCell'],?_,?_⟩
 .have hrl:((ys.map (·.1)).map en).length=len:=by simp[hys]
  have key:Rel [] W (λb=>b<W.heap.size) (.sl ((ys.map (·.1)).map en)) (.slice (some a) ((ys.map (·.1)).map en).length cap):=by
   refine .sl _ (size+1) a cap (λi j=>((ys[i]?).bind (λy=>y.2.1[j]?)).getD .nilIface) (λhne=>?_) (by omega) hm (λrow hrow=>?_) (λi j hi hj=>?_) (λi j hi hj=>?_) (λi row j x hi hj=>?_)
   .have hpos:0<len:=by
     rcases Nat.eq_zero_or_pos len with h0|h0
     .exfalso;apply hne;apply RP;omega
     .exact h0
    obtain⟨y,hy⟩:∃y,ys[0]?=some y:=⟨ys[0],RG (by omega)⟩
    have:=World.cells?_block (hp 0 y hy).2.1 (by omega);rwa [pi]at this
   .simp only[SQ,R3]at hrow;obtain⟨y,hy,rfl⟩:=hrow;obtain⟨i,hi,hi'⟩:=List.getElem_of_mem hy;have h1:=hp i y (by rw[RG hi,hi']);have h2:=(World.cells?_some h1.2.1).2.1;have h3:=h1.2.2.1.1;simp only[Function.comp];omega
   .rw[hrl]at hi;obtain⟨y,hy⟩:∃y,ys[i]?=some y:=⟨ys[i],RG (by omega)⟩
    have h1:=hp i y hy;have h2:=(World.cells?_some h1.2.1).2.1;have h3:y.2.1[j]?=some y.2.1[j]:=RG (by omega);simp only[hy,RF,h3,Tr];exact h1.2.2.2.1 _ (R6 _)
   .rw[hrl]at hi;obtain⟨y,hy⟩:∃y,ys[i]?=some y:=⟨ys[i],RG (by omega)⟩
    have h1:=hp i y hy;have h2:=World.cells?_some h1.2.1;have h3:y.2.1[j]?=some y.2.1[j]:=RG (by omega);simp only[hy,RF,h3,Tr];rw[<- jF,h2.2.2 j hj,h3]
   .simp only[SQ,R9,Sf]at hi;obtain⟨y,hy,rfl⟩:=hi;have h1:=hp i y hy;obtain⟨v,hv,hr⟩:=h1.2.2.1.get hj;simp only[hy,RF,hv,Tr];exact hr
  rwa [hrl]at key
 .intro z hz
  simp only[R3]at hz
  obtain⟨y,hy,rfl⟩:=hz
  obtain⟨i,hi,hi'⟩:=List.getElem_of_mem hy
  exact(hp i y (by rw[RG hi,hi'])).2.2.2.2.1
 .have:=Dm m (ys.map (·.1)) (elems.map (·.1)) (by simp[hys,hlen]) (λi z d hz hd=>by
   simp only[R9,Sf]at hz hd;obtain⟨y,hy,rfl⟩:=hz;obtain⟨el,he,rfl⟩:=hd;have h1:=hp i y hy;rw[h1.1]at he;obtain rfl:=RR he;exact h1.2.2.2.2.2)
  simp only[Rows.uptoBulk]
  omega
structure OpnF (P:Program) (fs:List Field) (off total:Nat) {α:Type} (en:α->List AV) (good:α->Prop) (m:α->Nat):Prop where
 opn:∀{H:Type} {enc:TypeId×Value->H} {W:World} {fuel:Nat} {cs:List Value} {xs:List (DataW H×List MemPlace)},cs.length=total ->
  xs.length=fs.length->(∀(i:Nat) (f:Field),fs[i]?=some f->DataW.trod enc P W 0 (λ_=>true) true fuel f.type ((cs.drop f.offset).take (P.cellsOf f.type))=xs[i]?) ->
  ∃a,RelL [] W (λb=>b<W.heap.size) (en a) (cs.drop off)/\(∀u,u∈cs.drop off->u.oneCell'=true)/\good a/\m a<=Rows.uptoBulkAll (xs.map (·.1))
theorem OpnF.nil:OpnF P [] total total (λ_:Unit=>[]) (λ_=>True) (λ_=>0):=
 ⟨λhl hx hp=>⟨(),by rw[SZ (by omega)];exact .nil,by rw[SZ (by omega)];simp,trivial,by simp⟩⟩
theorem OpnF.cons {f:Field}{fs:U Field}{off:Nat}{en1:α->U AV}{en2:β->U AV}{g1:α->Prop}{g2:β->Prop}{m1:α->Nat}{m2:β->Nat}(ho:f.offset=off)(c:Nat)(hc:P.cellsOf f.type=c)(h1:Opn P f.type en1 g1 m1)(h2:OpnF P fs (off+c) total en2 g2 m2):
  OpnF P (f::fs) off total (λp:α×β=>en1 p.1++en2 p.2) (λp=>g1 p.1/\g2 p.2) (λp=>m1 p.1+m2 p.2):=by
 refine⟨λ{H enc W fuel cs xs} hl hx hp=>?_⟩
 match xs,hx with
 | x::xs,hx=>
  have h0:=hp 0 f J
  simp only[Tn]at h0
  subst ho;subst hc
  obtain⟨a,a1,a2,a3,a4⟩:=h1.opn h0
  obtain⟨b,b1,b2,b3,b4⟩:=h2.opn (xs:=xs) hl (by simpa using hx) (λi f' hf=>by simpa using hp (i+1) f' (by simpa using hf))
  have hs:cs.drop f.offset=(cs.drop f.offset).take (P.cellsOf f.type)++cs.drop (f.offset+P.cellsOf f.type):=by rw[<- Te];exact(So _ _).symm
  refine⟨(a,b),?_,λu hu=>?_,⟨a3,b3⟩,?_⟩
  .rw[hs];exact a1.append b1
  .rw[hs,RY]at hu
   exact hu.elim (a2 u) (b2 u)
  .simp only[Se,Rows.uptoBulkAll];omega
theorem Opn.struct {good:α->Prop}(ht:P.underlying t=some (.struct fs))(hc:P.cellsOf t=total)(h:OpnF P fs.toList 0 total en good m):Opn P t en good m:=by
 refine⟨λ{H enc W fuel cs x} hx=>?_⟩
 obtain⟨xs,n,rfl,rfl,hl,hxl,hp⟩:=DataW.trod_struct ht hx
 obtain⟨a,h1,h2,h3,h4⟩:=h.opn (enc:=enc) (W:=W) (fuel:=n) (cs:=cs) (xs:=xs) (by omega) (by simp[hxl]) (λi f hf=>hp i f (by simpa using hf))
 exact⟨a,by simpa using h1,by simpa using h2,h3,by simp only[Rows.uptoBulk];omega⟩
theorem UH {en:α->AV}{good:α->Prop}(h:Opn P t (λa=>[en a]) good m)(ht:(match P.underlying t with|some (.struct _)|some (.array _ _)=>false|_=>true)=true){W:World}(hval:Value.okWide P W .any base t v)(hd:DataW.Trod enc P W 0 (λ_=>true) true t v d ps):
  ∃a,Rel [] W (λb=>b<W.heap.size) (en a) v/\good a/\m a<=Rows.uptoBulk d:=by
 obtain⟨fuel,hf⟩:=hd
 obtain⟨a,h1,h2,h3,h4⟩:=h.opn hf
 have hv:v.cells=#[v]:=by
  cases v with
  |agg cs=>
   exfalso;unfold Value.okWide at hval;split at hval
   .rename_i e;rw[e]at ht;simp at ht
   .rename_i e;rw[e]at ht;simp at ht
   .unfold Cell.okWide at hval;split at hval<;>simp_all[Cell.ok]
  |_=>rfl
 rw[hv]at h1
 exact⟨a,h1.2 0 (en a) v J J,h3,h4⟩
theorem Opn.args {good:α->Prop}(h:Opn P t en good m)(ht:P.underlying t=some (.struct fs)){W:World}(hval:Value.okWide P W .any base t v)(hd:DataW.Trod enc P W 0 (λ_=>true) true t v d ps):
  ∃a,Rel [] W (λb=>b<W.heap.size) (.agg (en a)) v/\good a/\m a<=Rows.uptoBulk d:=by
 obtain⟨fuel,hf⟩:=hd
 obtain⟨a,h1,h2,h3,h4⟩:=h.opn hf
 unfold Value.okWide at hval
 rw[ht]at hval
 obtain⟨cs,rfl,_,_⟩:=hval
 simp only[Value.cells]at h1 h2
 refine⟨a,?_,h3,h4⟩
 have:=Rel.agg (σ:=[]) (w:=W) (F:=λb=>b<W.heap.size) (en a) cs.toList h1.1 h2 h1.2
 simpa using this
theorem CG (hl:laidOutB P=true){W W':World}(hb:Below W.heap.size W W')(sp:Nat->Bool):
  ∀{ts:U TypeId} {vs:U Value} {ds:U (DataW H)} {ps:U MemPlace},(ts.all λt=>P.readableRec t&&decide (t<P.types.size))=true->DataW.TrodAll enc P W 0 (λ_=>true) true ts vs ds ps ->
   (∀x∈ps,x.block<W.heap.size)->(∀x∈ps,sp x.block=true)->DataW.TrodAll enc P W' 0 sp true ts vs ds ps
 |[],[],[],_,_,h,_,_=>h
 |[],_::_,_,_,_,h,_,_=>h.elim
 |[],[],_::_,_,_,h,_,_=>h.elim
 |_::_,[],_,_,_,h,_,_=>h.elim
 |_::_,_::_,[],_,_,h,_,_=>h.elim
 | t::ts,v::vs,d::ds,ps,hr,h,hlt,hsp=>by
  obtain⟨p,q,h1,h2,rfl⟩:=h;simp only[Tz,SR,decide_eq_true_eq]at hr;exact⟨p,q,WideElems.Trod_stays hl hr.1.1 hr.1.2 h1 (λx hx=>hb.same (hlt x (by simp[hx]))) (λx hx=>hsp x (by simp[hx])),
   CG hl hb sp hr.2 h2 (λx hx=>hlt x (by simp[hx])) (λx hx=>hsp x (by simp[hx])),J⟩
end
section
variable {H:Type} {enc:TypeId×Value→H} {P:Program}
theorem It{f:Func}{s:ChangeSpec}{apart fresh handsOn again:Bool}{W W':World}{args:Array Value}{v:Value}{ds gs:U (DataW H)}{before pa pv:U MemPlace}
  (hW:DataW.Whole enc P f.params.toList s.vars apart W args.toList ds gs before)
  (hres:∀(b:Nat) (sp:Nat->Bool) (hd:Bool),DataW.TrodAll enc P W' b sp hd f.resultTypes.toList (v.resultList f.resultTypes.size) (s.fn H (ds++gs)).results [])
  (hargs:∀sp:Nat->Bool,(∀p∈before,sp p.block=true)->DataW.TrodAll enc P W' 0 sp true f.params.toList args.toList (s.fn H (ds++gs)).args pa)
  (hvars:∀sp:Nat->Bool,(∀p∈before,sp p.block=true)->DataW.TrodVars enc P W' sp s.vars (s.fn H (ds++gs)).vars pv)
  (hps:before=pa++pv) (hb:Below W.heap.size W W')
  (hok:∀(j:Nat) (t:TypeId) (r:Value),f.resultTypes[j]?=some t->(v.resultList f.resultTypes.size)[j]?=some r->Value.okWide P W' .any 0 t r):
  s.post enc P f apart fresh handsOn again W args v W':=by
 have hlt:∀p∈before,p.block<W.heap.size:=λp hp=>hW.lt p hp
 have hold:∀p∈before,(λb=>decide (b<W.heap.size)) p.block=true:=λp hp=>by simpa using hlt p hp
 refine⟨ds,gs,before,[],pa,pv,hW,hres _ _ _,hargs _ hold,hvars _ hold,World.keptBut_mono (λp hp=>⟨hp,?_⟩) (hb.frame (·∈before)),λ_=>?_⟩
 .rw[hps,RY]at hp
  exact Or.inr hp
 .obtain⟨_,_,_,_,_,hz,hn⟩:=hW
  refine⟨hok,_,_,([]++pa)++pv,⟨[]++pa,pv,trodAll_append (hargs _ (λ_ _=>J)) (hres _ _ _),hvars _ (λ_ _=>J),J,?_,?_⟩,?_⟩
  .intro b off hp
   have hin:MemPlace.cell b off∈before:=by rw[hps];simpa using hp
   rw[hb.frozen (hlt _ hin)]
   exact hz b off hin
  .intro ha
   have:=hn ha
   rw[hps]at this
   simpa using this
  .intro p hp _
   rw[hps]
   simpa using hp
end
theorem ME{H:Type}{enc:TypeId×Value->H}{P:Program}{id:FuncId}{f:Func}{s:ChangeSpec}{W:World}{args:Array Value}{ds gs:U (DataW H)}{before:U MemPlace}{av:U AV}{tb:TypeId}
  (hl:laidOutB P=true) (htb:P.underlying tb=some .bool) (hres:f.resultTypes=#[tb]) (hr:(f.params.toList.all λt=>P.readableRec t&&decide (t<P.types.size))=true) (hvars:s.vars=[])
  (hfn:(s.fn H (ds++gs)).results=[.lit (.bool true)]) (hfa:(s.fn H (ds++gs)).args=ds) (hfv:(s.fn H (ds++gs)).vars=[])
  (hW:DataW.Whole enc P f.params.toList s.vars false W args.toList ds gs before)
  (hrel:RelL [] W (λb=>b<W.heap.size) av args.toList) (hc:ACalls P id av [] λr aw'=>r=.bool true/\aw'=[]) (hG:Gd W (λb=>b<W.heap.size):=by intro g h;simp[gvs]at h):
  Calls P id args W λe W'=>∃v,e=.returned v/\s.post enc P f false true false false W args v W':=by
 have hs:Sim [] [] W (λb=>b<W.heap.size):=⟨J,λk o v h=>by simp at h,λk k' o o' v v' g _ h=>by simp at h,λb h=>h,hG⟩
 refine(hc.2 W _ [] args.toList hs hrel).mono λe W' hx=>?_
 obtain⟨v,r,aw',σ',F',he,⟨hr1,hr2⟩,_,hv,hm⟩:=hx
 subst hr1;subst hr2
 cases hv
 have hb:Below W.heap.size W W':=⟨hm.os,hm.tape,hm.output.1,hm.size,λk hk=>hm.keep k hk (λ⟨k',o,v,ho,_⟩=>by simp at ho)⟩
 refine⟨.bool true,he,?_⟩
 have hW':=hW
 obtain⟨p,q,hA,hV,rfl,hfz,hnd⟩:=hW'
 rw[hvars]at hV
 obtain⟨rfl,rfl⟩:=trodVars_none hV
 have hlt:∀x∈p++[],x.block<W.heap.size:=λx hx=>hW.lt x hx
 refine It (pa:=p) (pv:=[]) hW (λb sp hd=>?_) (λsp hsp=>?_) (λsp hsp=>?_) J hb (ok_one hres J (okWide_bool_mk htb _))
 .rw[hfn,hres]
  exact trodAll_cons_mk (shut_bool htb _) trodAll_mk0
 .rw[hfa]
  exact CG hl hb sp hr hA (λx hx=>hlt x (by simpa using hx)) (λx hx=>hsp x (by simpa using hx))
 .rw[hfv,hvars]
  exact J
end
section
open Go.RowKit
theorem on3:Opn QbP 3 (λn:Int=>[.int .i64 n]) gI mI:=
 (Opn.int Wf).map id (λ_=>J) (λa h=>⟨h.1,h.2⟩) (λ_=>RJ _)
theorem on27:Opn QbP 27 (λl=>[.sl (l.map aj)]) (gL gI) (mL mI):=
 (Opn.slice (size:=0) Wq Uc on3).map id (λ_=>J) (λa h=>h) (λ_=>RJ _)
theorem on93:Opn QbP 93 an gNode mNode:=
 (Opn.struct WA UK (OpnF.cons J 1 Uc on3 (OpnF.cons J 1 Uc on3 (OpnF.cons J 1 Up on27 (OpnF.cons J 1 Up on27 OpnF.nil))))).map (λp=>(⟨p.1,p.2.1,p.2.2.1,p.2.2.2.1⟩:Node)) (λp=>J) (λp h=>⟨h.1,h.2.1,h.2.2.1,h.2.2.2.1⟩) (λp=>by simp only[mNode,mI,mB];omega)
theorem on22:Opn QbP 22 (λl=>[.sl (l.map an)]) (gL gNode) (mL mNode):=
 (Opn.slice (size:=3) WB UK on93).map id (λ_=>J) (λa h=>h) (λ_=>RJ _)
theorem on24:Opn QbP 24 aK gNet mNet:=
 (Opn.struct WP VB (OpnF.cons J 1 VC on22 (OpnF.cons J 1 Uc on3 (OpnF.cons J 1 Uc on3 OpnF.nil)))).map (λp=>(⟨p.1,p.2.1,p.2.2.1⟩:Net)) (λp=>J) (λp h=>⟨h.1,h.2.1,h.2.2.1⟩) (λp=>by simp only[mNet,mI,mB];omega)
theorem on68:Opn QbP 68 aa dO dF:=
 (Opn.struct Wz UL (OpnF.cons J 1 Uc on3 (OpnF.cons J 1 Uc on3 (OpnF.cons J 1 Uc on3 OpnF.nil)))).map (λp=>(⟨p.1,p.2.1,p.2.2.1⟩:Item)) (λp=>J) (λp h=>⟨h.1,h.2.1,h.2.2.1⟩) (λp=>by simp only[dF,mI,mB];omega)
theorem on30:Opn QbP 30 (λl=>[.sl (l.map aa)]) (gL dO) (mL dF):=
 (Opn.slice (size:=2) Wr UL on68).map id (λ_=>J) (λa h=>h) (λ_=>RJ _)
theorem on25:Opn QbP 25 (λl=>[.sl (l.map (ai aa))]) (gL (gL dO)) (mL (mL dF)):=
 (Opn.slice (size:=0) Ws Ut on30).map id (λ_=>J) (λa h=>h) (λ_=>RJ _)
theorem on47:Opn QbP 47 dp xu u1:=
 (Opn.struct Wy UM (OpnF.cons J 1 Uc on3 (OpnF.cons J 1 Uc on3 OpnF.nil))).map (λp=>(⟨p.1,p.2.1⟩:Happening)) (λp=>J) (λp h=>⟨h.1,h.2.1⟩) (λp=>by simp only[u1,mI,mB];omega)
theorem on26:Opn QbP 26 (λl=>[.sl (l.map dp)]) (gL xu) (mL u1):=
 (Opn.slice (size:=1) Wt UM on47).map id (λ_=>J) (λa h=>h) (λ_=>RJ _)
theorem on4:Opn QbP 4 (λb:Bool=>[.bool b]) gB mB:=
 (Opn.bool Wm).map id (λ_=>J) (λ_ _=>trivial) (λ_=>RJ _)
end
def ma:Ends:=⟨-1, -1⟩
theorem Ek(R:Nat)(hR:R<=16):∀(n k:Nat) (xs:U Ends),R- k<=n->1<=k->k<=R->xs.length=R->xs.take k=List.replicate k ma ->
  iter (λss:Int×U Ends=>lz ss.1 ss.2) ((k:Int),xs)=some (List.replicate R ma)
 | n,k,xs,hn,h1,h2,hl,ht=>by
  rw[aE];by_cases hk:k=R
  .simp_all[lz,SD]
  .have hkR:k<R:=by omega
   have v1:vwok xs.length (k:Int) (xs.length:Int)=some ():=by simp_all[vwok]
   have v2:vwok xs.length 0 (k:Int)=some ():=by simp_all[vwok]
   have v3:vwok xs.length ((((k:Int)).toNat:Nat):Int) ((((k:Int).toNat:Nat):Int)+((((xs.length:Int)).toNat- (k:Int).toNat:Nat):Int))=some ():=by grind
   have v4:vwok xs.length ((((0:Int)).toNat:Nat):Int) ((((0:Int).toNat:Nat):Int)+(((k:Int).toNat- (0:Int).toNat:Nat):Int))=some ():=by grind
   have hstep:lz (k:Int) xs=some (.inl (((k+min (R- k) k:Nat):Int),xs.take k++(xs.take k).take (R- k)++xs.drop (k+min (R- k) k))):=by
    unfold lz;rw[if_pos (by simp;omega),v1,RF,v2,RF,v3,RF,v4,RF];have e1:IntKind.i64.wrap ((k:Int)+((min (((xs.length:Int)).toNat- (k:Int).toNat) ((k:Int).toNat- (0:Int).toNat):Nat):Int))=((k+min (R- k) k:Nat):Int):=by grind[bG]
    simp_all[cpy]
   rw[hstep];simp only;have hm:1<=min (R- k) k:=by omega
   match n,hn with
   |0,hn=>omega
   |n+1,hn=>
    refine Ek R hR n (k+min (R- k) k) _ (by omega) (by omega) (by omega) (by simp;omega) ?_
    simp_all
theorem Nj(R:Nat)(hR:R<=16):uI (IntKind.u64.wrap (([(⟨(-1),(-1)⟩:Ends)]:U Ends).length:Int)) (IntKind.u64.wrap (R:Int))=some (0,(R:Int)):=by
 have:R=0∨R=1∨R=2∨R=3∨R=4∨R=5∨R=6∨R=7∨R=8∨R=9∨R=10∨R=11∨R=12∨R=13∨R=14∨R=15∨R=16:=by omega
 rcases this with rfl|rfl|rfl|rfl|rfl|rfl|rfl|rfl|rfl|rfl|rfl|rfl|rfl|rfl|rfl|rfl|rfl<;>rfl
theorem Kq(R:Nat)(hR:R<=16):rh ([(⟨(-1),(-1)⟩:Ends)]:U Ends) (R:Int)=some (List.replicate R ma):=by
 unfold rh;rw[if_neg (by simp),Nj R hR,RF,if_neg (by simp;omega),bG (show-9223372036854775808<=(R:Int) by omega) (show(R:Int)<=9223372036854775807 by omega)];have hmk:mk (R:Int) (⟨0,0⟩:Ends)=some (List.replicate R ⟨0,0⟩):=by unfold mk;grind
 rw[hmk,RF];simp only[List.length_replicate,S4];by_cases h0:R=0
 .grind[aE,lz,cpy]
 .have e:min R 1=1:=by omega
  rw[e];have hc:cpy (List.replicate R (⟨0,0⟩:Ends)) 0 R [(⟨(-1),(-1)⟩:Ends)]=ma::(List.replicate R (⟨0,0⟩:Ends)).drop 1:=by grind[cpy,List.take_of_length_le,ma]
  rw[hc];exact Ek R hR R 1 _ (by omega) (by omega) (by omega) (by simp;omega) (by simp)
def tu(k:Int):Option (Int×Int):=if k=1 then some (0,1)else if k=2∨k=3∨k=4 then some (1,1)else if k=5∨k=7 then some (1, -1)else if k=6 then some (-1,1)else if k=8 then some (1,0)else none
def gX(n:Nat)(want:Int):Bool:=decide ((n:Int)=want∨want<0/\0<n)
def badA(x:Node):Bool:=decide (x.A<0∨x.Kind=1/\4<=x.A∨x.Kind=2/\3<x.A∨x.Kind≠1/\x.Kind≠2/\x.A≠0)
def l8(x:Node):Int:=match tu x.Kind with
 |none=>5
 |some (i,o)=>if(gX x.In.length i&&gX x.Out.length o)=false then 4 else if badA x then 3 else 0
def iJ(R i:Int):List Int->List Ends->Int⊕List Ends
 |[],l=>.inr l
 |r::rs,l=>if r<0∨R<=r then .inl 3 else match l[r.toNat]? with
  |none=>.inl 99
  |some e=>if 0<=e.dst then .inl 6 else iJ R i rs (l.set r.toNat ⟨e.src,i⟩)
def gW(R i:Int):List Int->List Ends->Int⊕List Ends
 |[],l=>.inr l
 |r::rs,l=>if r<0∨R<=r then .inl 3 else match l[r.toNat]? with
  |none=>.inl 99
  |some e=>if 0<=e.src then .inl 6 else gW R i rs (l.set r.toNat ⟨i,e.dst⟩)
def oneN(R:Int)(i:Nat)(x:Node)(l:List Ends):Int⊕List Ends:=
 if l8 x≠0 then .inl (l8 x)else match iJ R i x.In l with
  | .inl e=>.inl e
  | .inr l1=>gW R i x.Out l1
def kT(R:Int):Nat->List Node->Nat->List Ends->Int⊕(Nat×List Ends)
 |_,[],s,l=>.inr (s,l)
 |i,x::xs,s,l=>match oneN R i x l with
  | .inl e=>.inl e
  | .inr l1=>kT R (i+1) xs (if x.Kind=8 then s+1 else s) l1
def lookN(n:Net):Int⊕List Ends:=
 if n.Nodes.length<1∨12<n.Nodes.length∨n.Rings<0∨16<n.Rings then .inl 2
 else if n.Room<1∨6<n.Room then .inl 3
 else match kT n.Rings 0 n.Nodes 0 (List.replicate n.Rings.toNat ma)with
  | .inl e=>.inl e
  | .inr (s,l)=>if l.any (λe=>decide (e.src<0∨e.dst<0))then .inl 9 else if s≠1 then .inl 4 else .inr l
theorem xR(R i:Int):∀(rs:U Int) (l l1:U Ends),iJ R i rs l=.inr l1->l1.length=l.length
 |[],l,l1,h=>by cases h;rfl
 | r::rs,l,l1,h=>by
  unfold iJ at h;split at h
  .cases h
  .split at h
   .cases h
   .split at h
    .cases h
    .have:=xR R i rs _ l1 h;grind
theorem u9(R i:Int):∀(rs:U Int) (l l1:U Ends),gW R i rs l=.inr l1->l1.length=l.length
 |[],l,l1,h=>by cases h;rfl
 | r::rs,l,l1,h=>by
  unfold gW at h;split at h
  .cases h
  .split at h
   .cases h
   .split at h
    .cases h
    .have:=u9 R i rs _ l1 h;grind
theorem Mw{R:Int}{i:Nat}{x:Node}{l l1:U Ends}(h:oneN R i x l=.inr l1):l1.length=l.length:=by
 unfold oneN at h;split at h
 .cases h
 .split at h
  .cases h
  .rename_i l2 h2;exact(u9 R i _ _ _ h).trans (xR R i _ _ _ h2)
theorem Ma(k:Int):sj k=some (match tu k with|some (i,o)=>(i,o,true)|none=>(0,0,false)):=by grind[sj,m8,pm,tu]
theorem N3(n:Nat)(w:Int):pU (n:Int) w=some (gX n w):=by unfold pU gX;congr 1;grind
theorem Nq(n:Net)(s:Int)(i:Nat)(x:Node)(hR:n.Rings<=16)(k:Nat)(l:U Ends)(hlt:k<x.Out.length)(hx:x.Out.length<=1099511627776)(hl:(l.length:Int)=n.Rings):
  lS n i x s k l=if x.Out[k]<0∨n.Rings<=x.Out[k]then some (.inr (.inr ([],3)))else match l[x.Out[k].toNat]? with
   |none=>none
   |some e=>if 0<=e.src then some (.inr (.inr ([],6)))else some (.inl (((k+1:Nat):Int),l.set x.Out[k].toNat ⟨i,e.dst⟩)):=by
 unfold lS
 rw[if_pos (by simp;omega),bv (RG hlt),RF]
 by_cases hr:x.Out[k]<0∨n.Rings<=x.Out[k]
 .grind
 .rw[if_neg (by simp;omega),if_neg hr]
  have hrl:x.Out[k].toNat<l.length:=by omega
  have hix:ixN l x.Out[k]=some x.Out[k].toNat:=by simp_all[ixN]
  have hg:=RG hrl
  simp only[hix,hg,RF,bf (show k<4611686018427387904 by omega)]
  simp
theorem Ow(n:Net)(s:Int)(i:Nat)(x:Node)(hR:n.Rings<=16)(k:Nat)(l:U Ends)(hlt:k<x.In.length)(hx:x.In.length<=1099511627776)(hl:(l.length:Int)=n.Rings):
  lM n i x s k l=if x.In[k]<0∨n.Rings<=x.In[k]then some (.inr (.inr ([],3)))else match l[x.In[k].toNat]? with
   |none=>none
   |some e=>if 0<=e.dst then some (.inr (.inr ([],6)))else some (.inl (((k+1:Nat):Int),l.set x.In[k].toNat ⟨e.src,i⟩)):=by
 unfold lM
 rw[if_pos (by simp;omega),bv (RG hlt),RF]
 by_cases hr:x.In[k]<0∨n.Rings<=x.In[k]
 .grind
 .rw[if_neg (by simp;omega),if_neg hr]
  have hrl:x.In[k].toNat<l.length:=by omega
  have hix:ixN l x.In[k]=some x.In[k].toNat:=by simp_all[ixN]
  have hg:=RG hrl
  simp only[hix,hg,RF,bf (show k<4611686018427387904 by omega)]
  simp
theorem E5(n:Net)(s:Int)(i:Nat)(x:Node)(hx:x.Out.length<=1099511627776)(hi:i<=12)(hR:n.Rings<=16):
  ∀(m k:Nat) (l:U Ends),k+m=x.Out.length->(l.length:Int)=n.Rings ->
  iter (λss:Int×U Ends=>lS n i x s ss.1 ss.2) ((k:Int),l)=match gW n.Rings i (x.Out.drop k) l with
   | .inl e=>some (.inr ([],e))
   | .inr l1=>some (.inl (s,((i+1:Nat):Int),l1))
 |0,k,l,h,hl=>by
  have hk:k=x.Out.length:=by omega
  subst hk;have:lS n i x s (x.Out.length:Int) l=some (.inr (.inl (s,((i+1:Nat):Int),l))):=by unfold lS;rw[if_neg (by simp),bf (by omega)];rfl
  grind[aE,gW]
 | m+1,k,l,h,hl=>by
  have hlt:k<x.Out.length:=by omega
  rw[aE,RL hlt];simp only[gW,Nq n s i x hR k l hlt hx hl];by_cases hr:x.Out[k]<0∨n.Rings<=x.Out[k]
  .grind
  .simp only[if_neg hr];have hrl:x.Out[k].toNat<l.length:=by omega
   simp only[RG hrl];by_cases he:0<=l[x.Out[k].toNat].src
   .grind
   .simp only[if_neg he];exact E5 n s i x hx hi hR m (k+1) _ (by omega) (by grind)
theorem E8(n:Net)(s:Int)(i:Nat)(x:Node)(hx:x.Out.length<=1099511627776)(hx2:x.In.length<=1099511627776)(hi:i<=12)(hR:n.Rings<=16):
  ∀(m k:Nat) (l:U Ends),k+m=x.In.length->(l.length:Int)=n.Rings ->
  iter (λss:Int×U Ends=>lM n i x s ss.1 ss.2) ((k:Int),l)=match(match iJ n.Rings i (x.In.drop k) l with| .inl e=>Sum.inl e| .inr l1=>gW n.Rings i x.Out l1)with
   | .inl e=>some (.inr ([],e))
   | .inr l1=>some (.inl (s,((i+1:Nat):Int),l1))
 |0,k,l,h,hl=>by
  have hk:k=x.In.length:=by omega
  subst hk;have:=E5 n s i x hx hi hR x.Out.length 0 l (by omega) hl;simp only[Sy,Ss]at this;have h2:lM n i x s (x.In.length:Int) l=Option.map Sum.inr (match gW n.Rings i x.Out l with| .inl e=>some (.inr ([],e))| .inr l1=>some (.inl (s,((i+1:Nat):Int),l1))):=by simp_all[lM]
  grind[aE,iJ]
 | m+1,k,l,h,hl=>by
  have hlt:k<x.In.length:=by omega
  rw[aE,RL hlt];simp only[iJ,Ow n s i x hR k l hlt hx2 hl];by_cases hr:x.In[k]<0∨n.Rings<=x.In[k]
  .grind
  .simp only[if_neg hr];have hrl:x.In[k].toNat<l.length:=by omega
   simp only[RG hrl];by_cases he:0<=l[x.In[k].toNat].dst
   .grind
   .simp only[if_neg he];exact E8 n s i x hx hx2 hi hR m (k+1) _ (by omega) (by grind)
theorem Ox(x:Node):((decide (x.A<0))||(if(x.Kind==1)=true then((decide (x.A>=4))||(if(x.Kind==2)=true then((decide (x.A> 3))||((x.Kind !=1)&&((x.Kind !=2)&&x.A !=0)))else((x.Kind !=1)&&((x.Kind !=2)&&x.A !=0))))else(if(x.Kind==2)=true then((decide (x.A> 3))||((x.Kind !=1)&&((x.Kind !=2)&&x.A !=0)))else((x.Kind !=1)&&((x.Kind !=2)&&x.A !=0)))))=badA x:=by unfold badA;grind
theorem NG(s:Int)(l:U Ends)(hl:l.length<=16):iter (λss:Int=>ni s l ss) 0=some (if l.any (λe=>decide (e.src<0∨e.dst<0))then([],9)else if s≠1 then([],4)else(l,0)):=by
 have:=py (σ:=Unit) l (by omega) (λk _=>(k:Int)) (body:=λss=>ni s l ss)
  (λk e _=>if e.src<0∨e.dst<0 then some (.inr ([],9))else some (.inl ())) (λ_=>if s≠1 then some ([],4)else some (l,0)) ()
  (λk e _ hk hlt _ h2 h3=>by unfold ni;rw[h2,cP hlt,h3];grind)
  (λ_ h=>by simp[ni])
 refine Eq.trans this ?_;have key:∀(ys:U Ends) (k:Nat),eL (σ:=Unit) (ρ:=U Ends×Int) (λk e _=>if e.src<0∨e.dst<0 then some (.inr ([],9))else some (.inl ())) (λ_=>if s≠1 then some ([],4)else some (l,0)) k ys ()=some (if ys.any (λe=>decide (e.src<0∨e.dst<0))then([],9)else if s≠1 then([],4)else(l,0)):=by
  intro ys;induction ys with
  |nil=>grind[eL]
  |cons y ys ih=>
   intro k;unfold eL;grind
 exact key l 0
theorem EJ(n:Net)(hn:n.Nodes.length<=12)(hR0:0<=n.Rings)(hR:n.Rings<=16)(hio:∀x∈n.Nodes,x.In.length<=1099511627776/\x.Out.length<=1099511627776):
  ∀(m k s:Nat) (l:U Ends),k+m=n.Nodes.length->s<=k->(l.length:Int)=n.Rings ->
  iter (λss:Int×Int×U Ends=>lT n ss.1 ss.2.1 ss.2.2) ((s:Int),(k:Int),l)=some (match kT n.Rings k (n.Nodes.drop k) s l with
   | .inl e=>([],e)
   | .inr (s,l)=>if l.any (λe=>decide (e.src<0∨e.dst<0))then([],9)else if s≠1 then([],4)else(l,0))
 |0,k,s,l,h,hs,hl=>by
  have hk:k=n.Nodes.length:=by omega
  subst hk;have h5:lT n s (n.Nodes.length:Int) l=some (.inr (if l.any (λe=>decide (e.src<0∨e.dst<0))then([],9)else if(s:Int)≠1 then([],4)else(l,0))):=by unfold lT;rw[if_neg (by simp),NG _ _ (by omega)];rfl
  grind[aE,kT]
 | m + 1,k,s,l,h,hs,hl=>by
  have hlt:k<n.Nodes.length:=by omega
  have hmem:n.Nodes[k]∈n.Nodes:=R6 hlt;rw[aE,RL hlt];simp only[kT];have step:lT n s k l=match oneN n.Rings k n.Nodes[k] l with
    | .inl e=>some (.inr ([],e))
    | .inr l1=>some (.inl (((if n.Nodes[k].Kind=8 then s+1 else s:Nat):Int),((k+1:Nat):Int),l1)):=by
   unfold lT
   rw[if_pos (by simp;omega),bv (RG hlt),RF,Ma,RF]
   generalize n.Nodes[k]=x at hmem
   unfold oneN l8
   cases ha:tu x.Kind with
   |none=>simp
   | some io=>
    obtain⟨i0,o0⟩:=io
    simp only[Th,RU,if_false,N3,RF]
    have hfit:(if(!gX x.In.length i0)=true then some true else some (!gX x.Out.length o0))=some (!(gX x.In.length i0&&gX x.Out.length o0)):=by grind
    rw[hfit,RF]
    by_cases hf:(gX x.In.length i0&&gX x.Out.length o0)=false
    .grind
    .have hf':(gX x.In.length i0&&gX x.Out.length o0)=true:=by grind
     rw[if_neg (by simp[hf']),Ox]
     simp only[hf',Bool.true_eq_false,if_false]
     by_cases hb:badA x=true
     .simp[hb]
     .simp only[hb,if_false,RU,ne_eq,not_true_eq_false]
      obtain⟨h1,h2⟩:=hio x hmem
      have k3:∀s':Int,nf n k l x s'=match(match iJ n.Rings k x.In l with| .inl e=>Sum.inl e| .inr l1=>gW n.Rings k x.Out l1)with
        | .inl e=>some (.inr ([],e))
        | .inr l1=>some (.inl (s',((k+1:Nat):Int),l1)):=λs'=>by
       unfold nf
       have:=E8 n s' k x h2 h1 (by omega) hR x.In.length 0 l (by omega) hl
       grind
      by_cases h8:x.Kind=8
      .rw[if_pos (by simp[h8]),k3,bf (by omega)]
       grind
      grind
  simp only[step];cases ho:oneN n.Rings k n.Nodes[k] l with
  |inl e=>rfl
  |inr l1=>
   simp only;exact EJ n hn hR0 hR hio m (k+1) _ l1 (by omega) (by grind) (by grind[Mw])
theorem Jl(n:Net)(hio:∀x∈n.Nodes,x.In.length<=1099511627776/\x.Out.length<=1099511627776):sU n=some (match lookN n with| .inl e=>([],e)| .inr l=>(l,0)):=by
 unfold sU lookN;by_cases h1:n.Nodes.length<1∨12<n.Nodes.length∨n.Rings<0∨16<n.Rings
 .grind
 rw[if_neg (by simp;omega),if_neg h1];by_cases h2:n.Room<1∨6<n.Room
 .grind
 rw[if_neg (by simp;omega),if_neg h2];have hRn:n.Rings=((n.Rings.toNat:Nat):Int):=by omega
 rw[hRn,Kq _ (by omega),RF,<- hRn];have:=EJ n (by omega) (by omega) (by omega) hio n.Nodes.length 0 0 (List.replicate n.Rings.toNat ma) (by omega) (by omega) (by simp;omega);grind
theorem BP(R i:Int)(hi:0<=i):∀(rs:U Int) (l l1:U Ends),(l.length:Int)=R->iJ R i rs l=.inr l1 ->
  (∀r∈rs,0<=r/\r<R/\∀e,l[r.toNat]?=some e->e.dst<0)/\rs.Nodup/\∀j:Nat,l1[j]?=if(j:Int)∈rs then(l[j]?).map (λe=>⟨e.src,i⟩)else l[j]?
 |[],l,l1,hl,h=>by cases h;simp
 | r ::rs,l,l1,hl,h=>by
  unfold iJ at h;split at h
  .cases h
  .rename_i hr;split at h
   .cases h
   .rename_i e he;split at h
    .cases h
    .rename_i hd;have hlt:r.toNat<l.length:=(RH.1 he).1;obtain⟨h1,h2,h3⟩:=BP R i hi rs _ l1 (by grind) h;have hnot:r∉rs:=λhm=>by
      grind
     refine⟨λq hq=>?_,S8.2 ⟨hnot,h2⟩,λj=>?_⟩
     .rcases Sa.1 hq with rfl|hq
      .grind
      .obtain⟨a,b,c⟩:=h1 q hq;refine⟨a,b,λe' he'=>?_⟩;have hne:q≠r:=λe=>hnot (e▸hq)
       exact c e' (by rw[R5,if_neg (by omega)];exact he')
     .rw[h3 j,R5];by_cases hj:(j:Int)=r
      .have hjr:r.toNat=j:=by omega
       grind
      .have hjr:¬r.toNat=j:=by omega
       simp_all
theorem By(R i:Int)(hi:0<=i):∀(rs:U Int) (l l1:U Ends),(l.length:Int)=R->gW R i rs l=.inr l1 ->
  (∀r∈rs,0<=r/\r<R/\∀e,l[r.toNat]?=some e->e.src<0)/\rs.Nodup/\∀j:Nat,l1[j]?=if(j:Int)∈rs then(l[j]?).map (λe=>⟨i,e.dst⟩)else l[j]?
 |[],l,l1,hl,h=>by cases h;simp
 | r ::rs,l,l1,hl,h=>by
  unfold gW at h;split at h
  .cases h
  .rename_i hr;split at h
   .cases h
   .rename_i e he;split at h
    .cases h
    .rename_i hd;have hlt:r.toNat<l.length:=(RH.1 he).1;obtain⟨h1,h2,h3⟩:=By R i hi rs _ l1 (by grind) h;have hnot:r∉rs:=λhm=>by
      grind
     refine⟨λq hq=>?_,S8.2 ⟨hnot,h2⟩,λj=>?_⟩
     .rcases Sa.1 hq with rfl|hq
      .grind
      .obtain⟨a,b,c⟩:=h1 q hq;refine⟨a,b,λe' he'=>?_⟩;have hne:q≠r:=λe=>hnot (e▸hq)
       exact c e' (by rw[R5,if_neg (by omega)];exact he')
     .rw[h3 j,R5];by_cases hj:(j:Int)=r
      .have hjr:r.toNat=j:=by omega
       grind
      .have hjr:¬r.toNat=j:=by omega
       simp_all
structure Looked (ns:List Node) (R:Int) (k:Nat) (l:List Ends):Prop where
 len:(l.length:Int)=R
 src:∀(j:Nat) e,l[j]?=some e->(e.src<0∨∃(i:Nat) (x:Node),i<k/\ns[i]?=some x/\e.src=i/\(j:Int)∈x.Out)
 dst:∀(j:Nat) e,l[j]?=some e->(e.dst<0∨∃(i:Nat) (x:Node),i<k/\ns[i]?=some x/\e.dst=i/\(j:Int)∈x.In)
 node:∀(i:Nat) x,i<k->ns[i]?=some x->l8 x=0/\x.In.Nodup/\x.Out.Nodup /\
  (∀r∈x.In,0<=r/\r<R/\∃e,l[r.toNat]?=some e/\e.dst=i)/\(∀r∈x.Out,0<=r/\r<R/\∃e,l[r.toNat]?=some e/\e.src=i)
theorem Looked.one{ns:U Node}{R:Int}{k:Nat}{l l1:U Ends}{x:Node}(h:Looked ns R k l)(hx:ns[k]?=some x)(ho:oneN R k x l=.inr l1):Looked ns R (k+1) l1:=by
 unfold oneN at ho;split at ho
 .cases ho
 .rename_i hne;split at ho
  .cases ho
  .rename_i l2 h2;have hl2:(l2.length:Int)=R:=by rw[xR R k _ _ _ h2];exact h.len
   obtain⟨a1,a2,a3⟩:=BP R k (by omega) _ _ _ h.len h2;obtain⟨b1,b2,b3⟩:=By R k (by omega) _ _ _ hl2 ho;have hent:∀(j:Nat) e1,l1[j]?=some e1->∃e,l[j]?=some e/\e1.src=(if(j:Int)∈x.Out then(k:Int)else e.src)/\e1.dst=(if(j:Int)∈x.In then(k:Int)else e.dst):=λj e1 he1=>by
    rw[b3 j,a3 j]at he1;cases hj:l[j]? with
    |none=>simp_all
    |some e=>
     rw[hj]at he1;refine⟨e,J,?_⟩;split at he1<;>split at he1<;>cases he1<;>simp_all
   have hent2:∀(j:Nat) e,l[j]?=some e->∃e1,l1[j]?=some e1/\e1.src=(if(j:Int)∈x.Out then(k:Int)else e.src)/\e1.dst=(if(j:Int)∈x.In then(k:Int)else e.dst):=λj e he=>by
    have hlt:j<l1.length:=by grind[u9]
    obtain⟨e',h1,h3⟩:=hent j _ (RG hlt);rw[he]at h1;cases h1;grind
   refine⟨by grind[u9],λj e1 he1=>?_,λj e1 he1=>?_,λi y hi hy=>?_⟩
   .obtain⟨e,he,hs,_⟩:=hent j e1 he1;by_cases hm:(j:Int)∈x.Out
    .grind
    .rw[if_neg hm]at hs;rw[hs];rcases h.src j e he with h1|⟨i,y,h1,h2,h3,h4⟩
     all_goals grind
   .obtain⟨e,he,_,hs⟩:=hent j e1 he1;by_cases hm:(j:Int)∈x.In
    .grind
    .rw[if_neg hm]at hs;rw[hs];rcases h.dst j e he with h1|⟨i,y,h1,h2,h3,h4⟩
     all_goals grind
   .rcases Nat.lt_or_ge i k with hik|hik
    .obtain⟨c1,c2,c3,c4,c5⟩:=h.node i y hik hy;refine⟨c1,c2,c3,λr hr=>?_,λr hr=>?_⟩
     .obtain⟨d1,d2,e,d3,d4⟩:=c4 r hr;refine⟨d1,d2,?_⟩;obtain⟨e1,f1,_,f2⟩:=hent2 _ e d3;have hnm:(r.toNat:Int)∉x.In:=λhm=>by
       grind[Int.toNat_natCast]
      grind
     .obtain⟨d1,d2,e,d3,d4⟩:=c5 r hr;refine⟨d1,d2,?_⟩;obtain⟨e1,f1,f2,_⟩:=hent2 _ e d3;have hnm:(r.toNat:Int)∉x.Out:=λhm=>by
       have hl2e:∃e2,l2[r.toNat]?=some e2/\e2.src=e.src:=by rw[a3];split<;>simp[d3]
       obtain⟨e2,g1,g2⟩:=hl2e;grind[Int.toNat_natCast]
      grind
    .have hik:i=k:=by omega
     subst hik;rw[hx]at hy;cases hy;refine⟨by omega,a2,b2,λr hr=>?_,λr hr=>?_⟩
     .obtain⟨d1,d2,_⟩:=a1 r hr;refine⟨d1,d2,?_⟩;have hlt:r.toNat<l.length:=by have:=h.len;omega
      obtain⟨e1,f1,_,f2⟩:=hent2 _ _ (RG hlt);rw[if_pos (by grind[Int.toNat_of_nonneg])]at f2;grind
     .obtain⟨d1,d2,_⟩:=b1 r hr;refine⟨d1,d2,?_⟩;have hlt:r.toNat<l.length:=by have:=h.len;omega
      obtain⟨e1,f1,f2,_⟩:=hent2 _ _ (RG hlt);rw[if_pos (by grind[Int.toNat_of_nonneg])]at f2;grind
theorem Looked.start(ns:U Node)(R:Nat):Looked ns R 0 (List.replicate R ma):=
 ⟨by simp,λj e he=>by rw[Tp]at he;split at he<;>cases he;exact .inl (by decide),λj e he=>by rw[Tp]at he;split at he<;>cases he;exact .inl (by decide),λi x hi=>by omega⟩
theorem CI(ns:U Node)(R:Int):∀(xs:U Node) (k s:Nat) (l:U Ends) (s1:Nat) (l1:U Ends),ns.drop k=xs->Looked ns R k l->kT R k xs s l=.inr (s1,l1) ->
  Looked ns R ns.length l1/\s1=s+(xs.filter (λx=>decide (x.Kind=8))).length
 | [],k,s,l,s1,l1,hd,h,hn=>by
  cases hn;have hk:ns.length<=k:=List.drop_eq_nil_iff.1 hd;refine⟨⟨h.len,λj e he=>?_,λj e he=>?_,λi x hi hx=>h.node i x (by omega) hx⟩,by simp⟩
  .rcases h.src j e he with h1|⟨i,y,h1,h2,h3⟩
   all_goals grind
  .rcases h.dst j e he with h1|⟨i,y,h1,h2,h3⟩
   all_goals grind
 |x::xs,k,s,l,s1,l1,hd,h,hn=>by
  have hx:ns[k]?=some x:=by have:=congrArg (λl=>l[0]?) hd;grind
  have hd2:ns.drop (k+1)=xs:=by have:=congrArg (List.drop 1) hd;grind[List.drop_drop]
  unfold kT at hn;split at hn
  .cases hn
  .rename_i l2 h2;obtain⟨a,b⟩:=CI ns R xs (k+1) _ l2 s1 l1 hd2 (h.one hx h2) hn;grind
structure NetL (n:Net) (l:List Ends):Prop where
 n1:1<=n.Nodes.length
 n2:n.Nodes.length<=12
 r1:0<=n.Rings
 r2:n.Rings<=16
 m1:1<=n.Room
 m2:n.Room<=6
 len:(l.length:Int)=n.Rings
 src:∀(j:Nat) e,l[j]?=some e->∃(i:Nat) (x:Node),n.Nodes[i]?=some x/\e.src=i/\(j:Int)∈x.Out
 dst:∀(j:Nat) e,l[j]?=some e->∃(i:Nat) (x:Node),n.Nodes[i]?=some x/\e.dst=i/\(j:Int)∈x.In
 err:∀(i:Nat) x,n.Nodes[i]?=some x->l8 x=0
 ndI:∀(i:Nat) x,n.Nodes[i]?=some x->x.In.Nodup
 ndO:∀(i:Nat) x,n.Nodes[i]?=some x->x.Out.Nodup
 inn:∀(i:Nat) x,n.Nodes[i]?=some x->∀r∈x.In,0<=r/\r<n.Rings/\∃e,l[r.toNat]?=some e/\e.dst=i
 out:∀(i:Nat) x,n.Nodes[i]?=some x->∀r∈x.Out,0<=r/\r<n.Rings/\∃e,l[r.toNat]?=some e/\e.src=i
 sink:(n.Nodes.filter (λx=>decide (x.Kind=8))).length=1
theorem Dp{n:Net}{l:U Ends}(h:lookN n=.inr l):NetL n l:=by
 unfold lookN at h;split at h
 .cases h
 .rename_i h1;split at h
  .cases h
  .rename_i h2;split at h
   .cases h
   .rename_i s l' hn;split at h
    .cases h
    .rename_i hany;split at h
     .cases h
     .rename_i hs;cases h;have hst:=Looked.start n.Nodes n.Rings.toNat;rw[Sh (by omega)]at hst;obtain⟨a,b⟩:=CI n.Nodes n.Rings n.Nodes 0 0 _ s l (by simp) hst hn;have hpos:∀(j:Nat) e,l[j]?=some e->¬e.src<0/\¬e.dst<0:=λj e he=>by
       grind
      refine⟨by omega,by omega,by omega,by omega,by omega,by omega,a.len,λj e he=>?_,λj e he=>?_,λi x hx=>(a.node i x (RH.1 hx).1 hx).1,λi x hx=>(a.node i x (RH.1 hx).1 hx).2.1,λi x hx=>(a.node i x (RH.1 hx).1 hx).2.2.1,λi x hx=>(a.node i x (RH.1 hx).1 hx).2.2.2.1,λi x hx=>(a.node i x (RH.1 hx).1 hx).2.2.2.2,by omega⟩
      .rcases a.src j e he with h3|⟨i,y,_,h4⟩
       all_goals grind
      .rcases a.dst j e he with h3|⟨i,y,_,h4⟩
       all_goals grind
section
def l9(ok:Nat->Bool):Nat->Nat->Option Nat
 |0,_=>none
 |m+1,k=>if ok k then some k else l9 ok m (k+1)
theorem AZ {ok:Nat->Bool}:∀{m k i:Nat},l9 ok m k=some i->k<=i/\i<k+m/\ok i=true
 |0,k,i,h=>by cases h
 |m+1,k,i,h=>by
  unfold l9 at h;split at h
  .grind
  .obtain⟨a,b,c⟩:=AZ h;grind
def fedN(l:List Ends)(out:List Nat)(x:Node):Bool:=x.In.all λr=>match l[r.toNat]? with|some e=>out.contains e.src.toNat|none=>false
def okN(l:List Ends)(out:List Nat)(ns:List Node)(i:Nat):Bool:=!(out.contains i)&&(match ns[i]? with|some x=>fedN l out x|none=>false)
def ordN(l:List Ends)(ns:List Node):Nat->List Nat->Option (List Nat)
 |0,out=>some out
 |m+1,out=>match l9 (okN l out ns) ns.length 0 with
  |none=>none
  |some i=>ordN l ns m (out++[i])
def eO(n:Net):List Int×Int:=match lookN n with
 | .inl e=>([],e)
 | .inr l=>match ordN l n.Nodes n.Nodes.length []with
  |none=>([],7)
  |some out=>(out.map (λi:Nat=>(i:Int)),0)
def dx(N:Nat)(out:List Nat):List Bool:=(List.range N).map λi=>out.contains i
section
variable {N i:Nat}{out:U Nat}
theorem pE (h:i<N):(dx N out)[i]?=some (out.contains i):=by grind[dx]
theorem sr:(dx N out).length=N:=by simp[dx]
theorem Lk (h:i<N):(dx N out).set i true=dx N (out++[i]):=by
 apply Sw;intro j;rw[R5,sr];by_cases hj:j<N
 .rw[pE hj];by_cases hij:i=j
  .simp_all[pE]
  .rw[if_neg hij,pE hj];grind
 simp_all[sr]
theorem Lz (N:Nat):List.replicate N false=dx N []:=by
 apply Sw;intro j;rw[Tp];by_cases hj:j<N
 .simp_all[pE]
 simp_all[sr]
theorem LX {n:Net}(out:U Nat)(ho:out.length<=12)(z:QbQ Nat)(hz:∀i,z=some i->i<n.Nodes.length):m9 (out.map (λi:Nat=>(i:Int))) (dx n.Nodes.length out) (match z with|some i=>(i:Int)|none=> -1)=match z with
  |some i=>some (.inl ((out++[i]).map (λi:Nat=>(i:Int)),dx n.Nodes.length (out++[i])))
  |none=>some (.inr ([],7)):=by
 unfold m9
 cases z with
 |none=>rfl
 |some i=>
  have hi:=hz i J
  simp only
  rw[if_neg (by simp)]
  have e1:ixN (dx n.Nodes.length out) (i:Int)=some i:=by simp_all[ixN,sr]
  grind[pE,cC,Lk]
end
section
variable {n:Net} {l:List Ends} (hn:NetL n l)
include hn
theorem Pw {j:Nat}{e:Ends}(h:l[j]?=some e):0<=e.src/\e.src.toNat<n.Nodes.length:=by obtain⟨i,x,h1,h2,_⟩:=hn.src j e h;grind
variable {i:Nat}{x:Node}
theorem KY (hx:n.Nodes[i]?=some x)(out:U Nat){r:Int}(hr:r∈x.In):
  rj r (dx n.Nodes.length out) l=some (!(match l[r.toNat]? with|some e=>out.contains e.src.toNat|none=>false)):=by
 obtain⟨h1,h2,e,h3,_⟩:=hn.inn i x hx r hr
 have hlt:=(RH.1 h3).1
 obtain⟨h4,h5⟩:=Pw hn h3
 simp_all[ixN,dx,rj]
theorem Jw (hx:n.Nodes[i]?=some x)(out:U Nat)(hl:x.In.length<=1099511627776):oH x.In (dx n.Nodes.length out) l=some (!fedN l out x):=by
 unfold oH uq;have:=py (σ:=Unit) x.In hl (λk _=>(k:Int)) (body:=λss=>oI x.In (dx n.Nodes.length out) l ss)
  (λk r _=>if(match l[r.toNat]? with|some e=>out.contains e.src.toNat|none=>false)=false then some (.inr (k:Int))else some (.inl ())) (λ_=>some (-1)) ()
  (λk r _ hk hlt h1 h2 h3=>by unfold oI;rw[h2,h1,h3];simp only[if_true,RF];grind[KY])
  (λ_ h=>by simp[oI])
 simp only[Ss]at this;rw[this];have key:∀(ys:U Int) (k:Nat),∃v:Int,eL (σ:=Unit) (λk r _=>if(match l[r.toNat]? with|some e=>out.contains e.src.toNat|none=>false)=false then some (.inr (k:Int))else some (.inl ())) (λ_=>some (-1:Int)) k ys ()=some v /\
   decide (v>=0)=!(ys.all λr=>match l[r.toNat]? with|some e=>out.contains e.src.toNat|none=>false):=by
  intro ys
  induction ys with
  |nil=>intro k;exact⟨-1,J,by simp⟩
  |cons y ys ih=>
   intro k
   unfold eL
   by_cases h:(match l[y.toNat]? with|some e=>out.contains e.src.toNat|none=>false)=false
   .simp_all
   simp_all
 obtain⟨v,h1,h2⟩:=key x.In 0;rw[h1,RF,h2];rfl
theorem De (hio:∀x∈n.Nodes,x.In.length<=1099511627776)(q:Int)(out:U Nat)(ho:out.length<=12):∀(m k:Nat),k+m=n.Nodes.length ->
  iter (λss:Int=>lH n (l,q) (out.map (λi:Nat=>(i:Int))) (dx n.Nodes.length out) ss) (k:Int)=match l9 (okN l out n.Nodes) m k with
   |some i=>some (.inl ((out++[i]).map (λi:Nat=>(i:Int)),dx n.Nodes.length (out++[i])))
   |none=>some (.inr ([],7))
 |0,k,h=>by
  have hk:k=n.Nodes.length:=by omega
  subst hk;have:lH n (l,q) (out.map (λi:Nat=>(i:Int))) (dx n.Nodes.length out) (n.Nodes.length:Int)=some (.inr (.inr ([],7))):=by unfold lH;rw[if_neg (by simp)];rfl
  rw[aE,this];rfl
 | m+1,k,h=>by
  have hlt:k<n.Nodes.length:=by omega
  have hn2:=hn.n2;have hx:n.Nodes[k]?=some n.Nodes[k]:=RG hlt;have e1:ixN (dx n.Nodes.length out) (k:Int)=some k:=by simp_all[ixN,sr]
  have hstep:lH n (l,q) (out.map (λi:Nat=>(i:Int))) (dx n.Nodes.length out) (k:Int)=if okN l out n.Nodes k then some (.inr (.inl ((out++[k]).map (λi:Nat=>(i:Int)),dx n.Nodes.length (out++[k]))))else some (.inl ((k+1:Nat):Int)):=by
   unfold lH;rw[if_pos (by simp;omega),bv hx,RF];simp only[e1,RF,pE hlt];have hok:okN l out n.Nodes k=(!(out.contains k)&&fedN l out n.Nodes[k]):=by unfold okN;rw[hx]
   have hin:(if(!(out.contains k))=true then(oH n.Nodes[k].In (dx n.Nodes.length out) l).bind λx12=>some (!x12)else some false)=some (okN l out n.Nodes k):=by grind[Jw]
   rw[hin,RF,bf (by omega)];by_cases hb:okN l out n.Nodes k=true
   .rw[if_pos hb,if_pos hb];have:=LX (n:=n) out ho (some k) (λi e=>by grind);grind
   grind
  rw[aE,hstep,l9];by_cases hb:okN l out n.Nodes k=true
  .grind
  .simp only[if_neg hb];exact De hio q out ho m (k+1) (by omega)
theorem DE (hio:∀x∈n.Nodes,x.In.length<=1099511627776)(q:Int):∀(m:Nat) (out:U Nat),out.length+m=n.Nodes.length ->
  iter (λss:U Int×U Bool=>lF n (l,q) ss.1 ss.2) (out.map (λi:Nat=>(i:Int)),dx n.Nodes.length out)=some (match ordN l n.Nodes m out with
   |none=>([],7)
   |some out=>(out.map (λi:Nat=>(i:Int)),0))
 |0,out,h=>by
  have:lF n (l,q) (out.map (λi:Nat=>(i:Int))) (dx n.Nodes.length out)=some (.inr (out.map (λi:Nat=>(i:Int)),0)):=by simp_all[lF]
  grind[aE,ordN]
 | m+1,out,h=>by
  have hstep:lF n (l,q) (out.map (λi:Nat=>(i:Int))) (dx n.Nodes.length out)=match l9 (okN l out n.Nodes) n.Nodes.length 0 with
   |some i=>some (.inl ((out++[i]).map (λi:Nat=>(i:Int)),dx n.Nodes.length (out++[i])))
   |none=>some (.inr ([],7)):=by
   unfold lF
   rw[if_pos (by simp;omega)]
   have:=De hn hio q out (by have:=hn.n2;omega) n.Nodes.length 0 (by omega)
   omega
  rw[aE];simp only[hstep,ordN];cases l9 (okN l out n.Nodes) n.Nodes.length 0 with
  |none=>rfl
  |some i=>
   simp only;exact DE hio q m (out++[i]) (by simp;omega)
end
theorem C6(R i:Int):∀(rs:U Int) (l:U Ends),iJ R i rs l≠.inl 0
 |[],l,h=>by cases h
 | r::rs,l,h=>by
  unfold iJ at h;split at h
  .grind
  .split at h
   .grind
   .split at h
    .grind
    .exact C6 R i rs _ h
theorem CU(R i:Int):∀(rs:U Int) (l:U Ends),gW R i rs l≠.inl 0
 |[],l,h=>by cases h
 | r::rs,l,h=>by
  unfold gW at h;split at h
  .grind
  .split at h
   .grind
   .split at h
    .grind
    .exact CU R i rs _ h
theorem Oe(R:Int)(i:Nat)(x:Node)(l:U Ends):oneN R i x l≠.inl 0:=λh=>by grind[oneN,C6,CU]
theorem CB(R:Int):∀(xs:U Node) (k s:Nat) (l:U Ends),kT R k xs s l≠.inl 0
 |[],k,s,l,h=>by cases h
 |x::xs,k,s,l,h=>by
  unfold kT at h;split at h
  .grind[Oe]
  .exact CB R xs _ _ _ h
theorem CW(n:Net):lookN n≠.inl 0:=λh=>by grind[lookN,CB]
theorem IR(n:Net)(hio:∀x∈n.Nodes,x.In.length<=1099511627776/\x.Out.length<=1099511627776):sy n=some (eO n):=by
 unfold sy eO;rw[Jl n hio,RF];cases h:lookN n with
 |inl e=>
  simp only;have he:e≠0:=λe0=>CW n (e0▸h)
  grind
 |inr l=>
  simp only;have hn:=Dp h;rw[if_neg (by simp)];have hmk:mk (n.Nodes.length:Int) false=some (dx n.Nodes.length []):=by unfold mk;rw[if_pos (by have:=hn.n2;omega),<- Lz];rfl
  rw[hmk,RF];have:=DE hn (λx hx=>(hio x hx).1) 0 n.Nodes.length [] (by simp);grind
theorem AT(n:Net)(hio:∀x∈n.Nodes,x.In.length<=1099511627776/\x.Out.length<=1099511627776):pM n=some (eO n).2:=by grind[pM,IR]
end
theorem ER{n:Net}(h:(eO n).2=0):∃l out,lookN n=.inr l/\NetL n l/\ordN l n.Nodes n.Nodes.length []=some out/\eO n=(out.map (λi:Nat=>(i:Int)),0):=by grind[eO,CW,Dp]
def jH:List (List Item)->Int
 |[]=>0
 |s::r=>if 20<s.length then 2 else if s.any (λx=>decide (x.Dep≠0))then 4 else jH r
def kN(len:Nat):List Node->List Int->Int
 |[],_=>0
 |x::xs,seen=>if x.Kind≠1 then kN len xs seen else if(len:Int)<=x.A then 5 else if x.A∈seen then 6 else kN len xs (x.A::seen)
def bt(n:Net)(l:List (List Item)):Int:=if(eO n).2≠0 then(eO n).2 else if 4<l.length then 2 else if jH l≠0 then jH l else kN l.length n.Nodes []
theorem Bn(l:U (U Item))(hl:l.length<=4){body:Int->QbQ (Int⊕Int)}{inner:Nat->U Item->Int->QbQ (Int⊕(Int⊕Int))}(fin:QbQ Int)
  (h1:∀(k:Nat) s,l[k]?=some s->k<l.length->body (k:Int)=if 20<s.length then some (.inr 2)else iter (inner k s) 0)
  (h2:body (l.length:Int)=fin.map Sum.inr)
  (h3:∀(k:Nat) s (j:Nat) x,l[k]?=some s->k<l.length->s[j]?=some x->j<20->inner k s (j:Int)=if x.Dep≠0 then some (.inr (.inr 4))else some (.inl ((j+1:Nat):Int)))
  (h4:∀(k:Nat) s,l[k]?=some s->k<l.length->inner k s (s.length:Int)=some (.inr (.inl ((k+1:Nat):Int)))):
  ∀(m k:Nat),k+m=l.length->iter body (k:Int)=if jH (l.drop k)≠0 then some (jH (l.drop k))else fin
 |0,k,h=>by
  have hk:k=l.length:=by omega
  subst hk;rw[aE,h2,Sr];simp only[jH,ne_eq,not_true_eq_false,if_false];cases fin<;>rfl
 | m + 1,k,h=>by
  have hlt:k<l.length:=by omega
  have hs:l[k]?=some l[k]:=RG hlt;rw[aE,h1 k _ hs hlt,RL hlt];generalize hsq:l[k]=s at *;simp only[jH];by_cases h20:20<s.length
  .simp[h20]
  .simp only[if_neg h20];have key:∀(q j:Nat),j+q=s.length->iter (inner k s) (j:Int)=if(s.drop j).any (λx=>decide (x.Dep≠0))then some (.inr 4)else some (.inl ((k+1:Nat):Int)):=by
    intro q;induction q with
    |zero=>
     grind[aE]
    |succ q ih=>
     intro j hj;have hjl:j<s.length:=by omega
     rw[aE,h3 k s j s[j] hs hlt (RG hjl) (by omega),RL hjl,List.any_cons];by_cases hd:s[j].Dep≠0
     .simp[hd]
     .rw[if_neg hd];grind
   have:=key s.length 0 (by omega);simp only[Ss,Sy]at this;rw[this];by_cases hany:s.any (λx=>decide (x.Dep≠0))=true
   .grind
   .simp only[if_neg hany];exact Bn l hl fin h1 h2 h3 h4 m (k+1) (by omega)
theorem Kn{N:Nat}(hN:N<=4)(seen:U Int){a:Int}(h0:0<=a)(h1:a<N):((List.range N).map λi:Nat=>decide ((i:Int)∈seen))[a.toNat]?=some (decide (a∈seen)):=by grind
theorem xM(n:Net)(l:U (U Item))(hl:l.length<=4)(hn:n.Nodes.length<=12)(hA:∀x∈n.Nodes,0<=x.A):∀(m k:Nat) (seen:U Int),k+m=n.Nodes.length ->
  iter (λss:Int×U Bool=>lB n l ss.1 ss.2) ((k:Int),(List.range l.length).map λi:Nat=>decide ((i:Int)∈seen))=some (kN l.length (n.Nodes.drop k) seen)
 |0,k,seen,h=>by
  have hk:k=n.Nodes.length:=by omega
  subst hk;have:∀b,lB n l (n.Nodes.length:Int) b=some (.inr 0):=λb=>by unfold lB;rw[if_neg (by simp)];rfl
  rw[aE];simp only[this,Sr,kN]
 | m + 1,k,seen,h=>by
  have hlt:k<n.Nodes.length:=by omega
  have hx:n.Nodes[k]?=some n.Nodes[k]:=RG hlt;have hA':=hA _ (R6 hlt);rw[RL hlt,aE];generalize hxq:n.Nodes[k]=x at *;simp only[kN];have hstep:lB n l (k:Int) ((List.range l.length).map λi:Nat=>decide ((i:Int)∈seen))=if x.Kind≠1 then some (.inl (((k+1:Nat):Int),(List.range l.length).map λi:Nat=>decide ((i:Int)∈seen)))else if(l.length:Int)<=x.A then some (.inr 5)else if x.A∈seen then some (.inr 6)else some (.inl (((k+1:Nat):Int),(List.range l.length).map λi:Nat=>decide ((i:Int)∈x.A::seen))):=by
   unfold lB;rw[if_pos (by simp;omega),bv hx,RF,bf (by omega)];by_cases h1:x.Kind≠1
   .rw[if_pos (by simpa using h1),if_pos h1]
   .rw [if_neg (by simpa using h1),if_neg h1];by_cases h2:(l.length:Int)<=x.A
    .rw[if_pos (by simpa using h2),if_pos h2];rfl
    .rw [if_neg (by simpa using h2),if_neg h2];have hix:ixN ((List.range l.length).map λi:Nat=>decide ((i:Int)∈seen)) x.A=some x.A.toNat:=by unfold ixN;rw[if_pos (by simp;omega)]
     have hg:=Kn hl seen hA' (show x.A<l.length by omega);simp only[hix,hg,RF];by_cases h3:x.A∈seen
     .simp[h3]
     .simp only[h3,decide_false,RU,if_false];congr 3;apply Sw;intro j;rw[R5,R9,R9];by_cases hj:j<l.length
      .rw[List.getElem?_range hj];simp only[RZ,List.length_range,SJ];by_cases hjx:x.A.toNat=j
       .rw[if_pos hjx,if_pos (by omega)];have:(j:Int)=x.A:=by omega
        simp[this]
       .rw[if_neg hjx];have:¬(j:Int)=x.A:=by omega
        simp[this]
      .rw[if_neg (by omega),SF (by simp;omega)];rfl
  rw[hstep];by_cases h1:x.Kind≠1
  .simp only[if_pos h1];exact xM n l hl hn hA m (k+1) seen (by omega)
  .simp only[if_neg h1];by_cases h2:(l.length:Int)<=x.A
   .simp only[if_pos h2]
   .simp only[if_neg h2];by_cases h3:x.A∈seen
    .simp only[if_pos h3]
    .simp only[if_neg h3];exact xM n l hl hn hA m (k+1) (x.A::seen) (by omega)
theorem nodeA{n:Net}{l:U Ends}(h:NetL n l):∀x∈n.Nodes,0<=x.A:=λx hx=>by obtain⟨i,hi,rfl⟩:=List.mem_iff_getElem.1 hx;have:=h.err i _ (RG hi);grind[l8,badA]
theorem o4(n:Net)(l:U (U Item))(hio:∀x∈n.Nodes,x.In.length<=1099511627776/\x.Out.length<=1099511627776):lL n l=some (bt n l):=by
 unfold lL bt;rw[AT n hio,RF];by_cases h:(eO n).2=0
 .obtain⟨le,out,_,hl,_,_⟩:=ER h;rw[if_neg (show ¬((eO n).2 !=0)=true by simp[h]),if_neg (show ¬(eO n).2≠0 by simp[h])];by_cases h4:4<l.length
  .rw[if_pos (by simp;omega),if_pos h4]
  .rw[if_neg (by simp;omega),if_neg h4];have hmk:mk (l.length:Int) false=some ((List.range l.length).map λi:Nat=>decide ((i:Int)∈([]:U Int))):=by
    unfold mk;rw[if_pos (by omega)];congr 1;simp[List.map_const']
   have hseen:=xM n l (by omega) hl.n2 (nodeA hl) n.Nodes.length 0 [] (by omega);simp only[Ss,Sy]at hseen;have:=Bn l (by omega) (body:=λss=>o5 n l ss) (inner:=λk s ss=>o6 k s ss) (some (kN l.length n.Nodes []))
    (λk s hs hlt=>by
     unfold o5;rw[if_pos (by simp;omega),bv hs,RF];by_cases h20:20<s.length
     .rw[if_pos (by simp;omega),if_pos h20];rfl
     .rw[if_neg (by simp;omega),if_neg h20])
    (by unfold o5;rw[if_neg (by simp),hmk,RF,hseen])
    (λk s j x hs hlt hx hj=>by
     have hjl:=(RH.1 hx).1;unfold o6;rw[if_pos (by simp;omega),bv hx,RF,bf (by omega)];by_cases hd:x.Dep≠0
     .rw[if_pos (by simpa using hd),if_pos hd];rfl
     .rw[if_neg (by simpa using hd),if_neg hd])
    (λk s hs hlt=>by unfold o6;rw[if_neg (by simp),bf (by omega)];rfl) l.length 0 (by omega)
   simp only[Ss,Sy]at this;rw[this];by_cases hi:jH l≠0
   .rw[if_pos hi,if_pos hi]
   .rw[if_neg hi,if_neg hi]
 .rw[if_pos (by simpa using h),if_pos h]
def meetN:Net:=⟨[⟨1,0,[],[0]⟩,⟨1,1,[],[1]⟩,⟨6,0,[0,1],[2]⟩,⟨8,0,[2],[]⟩],3,1⟩
def twoN:List (List Item):=[[⟨1,1,0⟩],[⟨2,2,0⟩]]
theorem OJ:∀x∈meetN.Nodes,x.In.length<=1099511627776/\x.Out.length<=1099511627776:=by decide
theorem Ee:bt meetN twoN=0:=by decide
theorem Da(l:U Ends)(ns:U Node):∀(m:Nat) (out o:U Nat),ordN l ns m out=some o->o.length=out.length+m
 |0,out,o,h=>by cases h;rfl
 |m+1,out,o,h=>by
  unfold ordN at h;split at h
  .cases h
  .have:=Da l ns m _ o h;grind
theorem Cz{l:U Ends}{ns:U Node}:∀{m:Nat} {out o:U Nat},ordN l ns m out=some o->out.Nodup->(∀x∈out,x<ns.length) ->
  o.Nodup/\(∀x∈o,x<ns.length)/\out <+: o/\∀(p i:Nat),out.length<=p->o[p]?=some i->okN l (o.take p) ns i=true
 |0,out,o,h,h1,h2=>by
  cases h;grind
 | m+1,out,o,h,h1,h2=>by
  unfold ordN at h;split at h
  .cases h
  .rename_i i hi;obtain⟨_,hlt,hok⟩:=AZ hi;have hni:i∉out:=by
    simp_all[okN]
   obtain⟨a,b,c,d⟩:=Cz h (List.nodup_append.2 ⟨h1,by simp,by grind⟩) (λx hx=>by grind)
   refine⟨a,b,(List.prefix_append out [i]).trans c,λp j hp hj=>?_⟩;by_cases hpe:p=out.length
   .subst hpe;obtain⟨t,ht⟩:=c;grind
   grind
theorem xl:∀(N:Nat) (l:U Nat),l.Nodup->(∀x∈l,x<N)->l.length<=N
 |0,l,_,h=>by
  cases l with
  |nil=>simp
  |cons x l=>grind[List.mem_cons_self]
 |N+1,l,hd,h=>by
  have:=xl N (l.erase N) (hd.erase N) (λx hx=>by grind)
  grind
theorem Mn{N:Nat}{l:U Nat}(hd:l.Nodup)(h:∀x∈l,x<N)(hl:l.length=N){i:Nat}(hi:i<N):i∈l:=by
 refine Classical.byContradiction λhn=>?_
 have:=xl N (i::l) (S8.2 ⟨hn,hd⟩) (λx hx=>by grind)
 grind
structure OrdL (n:Net) (l:List Ends) (o:List Nat):Prop where
 nd:o.Nodup
 lt:∀x∈o,x<n.Nodes.length
 len:o.length=n.Nodes.length
 fed:∀(p i:Nat) (x:Node) (r:Int) (e:Ends),o[p]?=some i->n.Nodes[i]?=some x->r∈x.In->l[r.toNat]?=some e->e.src.toNat∈o.take p
theorem O0{n:Net}{l:U Ends}{o:U Nat}(h:ordN l n.Nodes n.Nodes.length []=some o):OrdL n l o:=by obtain⟨a,b,_,d⟩:=Cz h List.nodup_nil (λx hx=>by simp at hx);have hl:=Da _ _ _ _ _ h;refine⟨a,b,by grind,λp i x r e hp hx hr he=>?_⟩;have:=d p i (Sb _) hp;unfold okN at this;rw[SR,hx]at this;grind[fedN]
theorem bnd{α β:Type}{o:QbQ α}{k:α->QbQ β}{x:α}{r:QbQ β}(h:o=some x)(h2:k x=r):Option.bind o k=r:=by grind
theorem ia{n:Nat}{i j:Int}(h:0<=i/\i<=j/\j<=n):vwok n i j=some ():=by unfold vwok;rw[if_pos h]
theorem yz{α:Type}(a c d ys:U α)(n:Nat)(h:c.length=ys.length)(hn:ys.length<=n):cpy (a++(c++d)) a.length n ys=a++(ys++d):=by grind[cpy,List.take_of_length_le]
theorem Pl(a b:U Keyed)(y:Keyed)(h:a.length+b.length<=1000000):q8 (a.length:Int) (a++b) [y]=some (a++y::b):=by
 unfold q8;refine OM (λC hC=>?_);unfold wZ;have hl:(a++b).length=a.length+b.length:=RN;have h1:([y]:U Keyed).length=1:=rfl;have w1:IntKind.i64.wrap ((((a++b).length:Nat):Int)+(([y]:U Keyed).length:Int))=((a.length+b.length+1:Nat):Int):=by rw[bG (by omega) (by omega)];omega
 have w2:IntKind.i64.wrap ((a.length:Int)+(([y]:U Keyed).length:Int))=((a.length+1:Nat):Int):=by rw[bG (by omega) (by omega)];omega
 have w3:IntKind.i64.wrap (((a.length+b.length+1:Nat):Int)- (a.length:Int))=((b.length+1:Nat):Int):=by rw[bG (by omega) (by omega)];omega
 simp only[w1,w2,w3,R7];refine bnd (ia (by omega)) ?_;rw[if_neg (by simp)];by_cases hb:b=[]
 .subst hb;rw[if_pos (by simp)];refine bnd (cC (by simp;omega)) ?_;simp
 .have hbl:0<b.length:=SX.2 hb;rw[if_neg (by simp;omega)];by_cases hg:a.length+b.length+1> C
  .rw[if_pos (by simp;omega)];refine bnd (ia (by omega)) ?_;have hz:growz (a++b) a.length C ((b.length+1:Nat):Int) (⟨0,0⟩:Keyed)=some (a++([(⟨0,0⟩:Keyed)]++List.replicate b.length (⟨0,0⟩:Keyed))):=by
    unfold growz;rw[if_pos (by rw[hl];omega),List.take_left,R7,S9];rfl
   refine bnd hz ?_;have hzl:(a++([(⟨0,0⟩:Keyed)]++List.replicate b.length (⟨0,0⟩:Keyed))).length=a.length+(b.length+1):=by simp<;>omega
   have e1:a.length+(b.length+1)- a.length=b.length+1:=by omega
   have c1:=yz a [(⟨0,0⟩:Keyed)] (List.replicate b.length (⟨0,0⟩:Keyed)) [y] (b.length+1) J (by simp);have hal:(a++([y]++List.replicate b.length (⟨0,0⟩:Keyed))).length=a.length+(b.length+1):=by simp<;>omega
   have e2:a.length+(b.length+1)- (a.length+1)=b.length:=by omega
   simp only[hzl,e1,c1,hal,e2,hl,SP,Nat.add_sub_cancel_left,R7];refine bnd (ia (by omega)) (bnd (ia (by omega)) (bnd (ia (by omega)) (bnd (ia (by omega)) (bnd (ia (by omega)) (bnd (ia (by omega)) ?_)))));rw[Tl,SS];have c2:=yz (a++[y]) (List.replicate b.length (⟨0,0⟩:Keyed)) [] b b.length (by simp) (RJ _);simp only[Sg,RN,S4,RT]at c2;rw[c2];simp
  .rw[if_neg (by simp;omega)];have hx:roomx (a++b).length C ((a.length+b.length+1:Nat):Int)=some 1:=by
    unfold roomx;rw[if_pos (by rw[hl];omega),hl,R7];congr 1;omega
   refine bnd hx ?_;have e2:a.length+b.length+1- (a.length+1)=b.length:=by omega
   have e3:a.length+b.length+1- a.length=b.length+1:=by omega
   simp only[hl,R7,e2,e3];refine bnd (ia (by omega)) ?_;refine bnd (show ovok [y] b.length=some () by unfold ovok;rw[if_pos (by simp;omega)]) ?_;refine bnd (ia (by omega)) (bnd (ia (by omega)) ?_);have hu:cpyU (a++b) 1 (a.length+1) b.length a.length (b.length+1)=some (a++(b.take 1++b)):=by unfold cpyU;rw[if_pos (by rw[hl];omega),Tl,List.take_append];simp[SD]
   refine bnd hu ?_;have htl:(b.take 1).length=1:=by simp;omega
   have hul:(a++(b.take 1++b)).length=a.length+(b.length+1):=by rw[RN,RN,htl];omega
   have e1:a.length+(b.length+1)- a.length=b.length+1:=by omega
   have c1:=yz a (b.take 1) b [y] (b.length+1) (by rw[htl];rfl) (by simp);simp only[hul,e1,c1,R7];refine bnd (ia (by omega)) (bnd (ia (by omega)) ?_);rfl
theorem Gl(x:Keyed)(k:Int):pk x k=some (if x.Key<k then-1 else if x.Key> k then 1 else 0):=by
 unfold pk;by_cases h1:x.Key<k
 .simp[h1]
 .by_cases h2:x.Key> k<;>simp[h1,h2]
def good(l:List Keyed)(i:Nat):Prop:=∀x,l[i]?=some x->1<=x.N/\∀j y,i=j+1->l[j]?=some y->y.Key<x.Key
theorem Bt(m:Memory)(hl:m.Keys.length<=6):∀(n k:Nat),k+n=m.Keys.length->∃c,iter (λss:Int=>jy m ss) (k:Int)=some c/\(c=0↔(∀i,k<=i->i<m.Keys.length->good m.Keys i)/\0<=m.Dep)
  | 0,k,h=>by
    have hk:k=m.Keys.length:=by omega
    subst hk;by_cases hd:m.Dep<0
    · refine⟨3,?_,by constructor<;>intro h<;>omega⟩;rw[aE];unfold jy;simp[hd]
    · refine⟨0,?_,?_⟩
      · rw[aE];unfold jy;simp[hd]
      · exact⟨λ_=>⟨λi h1 h2=>by omega,by omega⟩,λ_=>J⟩
  | n + 1, k, h => by
    have hk:k<m.Keys.length:=by omega
    have hx:m.Keys[k]?=some m.Keys[k]:=RG hk;generalize hxv:m.Keys[k]=x at hx;have hkw:decide ((k:Int)<(m.Keys.length:Int))=true:=by simp;omega
    have hw:IntKind.i64.wrap ((k:Int)+1)=((k+1:Nat):Int):=bf (by omega);by_cases hg:good m.Keys k
    · obtain⟨hg1,hg2⟩:=hg x hx;obtain⟨c,h1,h2⟩:=Bt m hl n (k+1) (by omega);refine⟨c,?_,?_⟩
      · rw[aE];have e:jy m (k:Int)=some (.inl ((k+1:Nat):Int)):=by
          unfold jy;rw[if_pos hkw,bv hx,RF,if_neg (show ¬decide (x.N<1)=true by simp;omega)];cases k with
          |zero=>simp[show IntKind.i64.wrap 1=1 from J]
          | succ j=>
            have hy:m.Keys[j]?=some m.Keys[j]:=RG (by omega);have:=hg2 j _ J hy;rw[if_pos (by simp),bG (by omega) (by omega),show((j+1:Nat):Int)- 1=(j:Int) by omega,bv hy,RF,RF,if_neg (by simp;omega),hw]
        simp only[e];exact h1
      · rw[h2];constructor
        · rintro⟨h3,h4⟩;exact⟨λi hi hi2=>by
            by_cases e:i=k
            · subst e;exact hg
            · exact h3 i (by omega) hi2,h4⟩
        · rintro⟨h3,h4⟩;exact⟨λi hi hi2=>h3 i (by omega) hi2,h4⟩
    · refine ⟨4, ?_, by constructor
                        · intro h;omega
                        · rintro⟨h3,_⟩;exact absurd (h3 k (RJ _) hk) hg⟩
      rw[aE];have e:jy m (k:Int)=some (.inr 4):=by
        unfold jy;rw[if_pos hkw,bv hx,RF];by_cases hn:x.N<1
        · rw[if_pos (show decide (x.N<1)=true by simpa using hn)];rfl
        · rw[if_neg (show ¬decide (x.N<1)=true by simpa using hn)];cases k with
          |zero=>exact absurd (λy hy=>by rw[hx]at hy;cases hy;exact⟨by omega,λj z hj=>by omega⟩) hg
          | succ j=>
            have hy:m.Keys[j]?=some m.Keys[j]:=RG (by omega);rw[if_pos (by simp),bG (by omega) (by omega),show((j+1:Nat):Int)- 1=(j:Int) by omega,bv hy,RF,RF];have:x.Key<=(m.Keys[j]).Key:=by
              apply Int.not_lt.1;intro hlt;exact hg (λz hz=>by
                rw[hx]at hz;cases hz;exact⟨by omega,λi y hi hy2=>by
                  have:i=j:=by omega
                  subst this;rw[hy]at hy2;cases hy2;exact hlt⟩)
            rw[if_pos (by simpa using this)];rfl
      simp only[e]
structure okM (m:Memory):Prop where
 len:m.Keys.length<=6
 n:∀x,x∈m.Keys->1<=x.N
 lt:∀(i j:Nat) x y,i<j->m.Keys[i]?=some x->m.Keys[j]?=some y->x.Key<y.Key
 dep:0<=m.Dep
theorem Fh{l:U Keyed}(h:∀i,i<l.length->good l i):∀(n i j:Nat) x y,j=i+1+n->l[i]?=some x->l[j]?=some y->x.Key<y.Key
 |0,i,j,x,y,e,hx,hy=>(h j (RH.1 hy).1 y hy).2 i x (by omega) hx
 |n+1,i,j,x,y,e,hx,hy=>by have hj:=(RH.1 hy).1;have hz:l[i+1+n]?=some l[i+1+n]:=RG (by omega);have h1:=Fh h n i (i+1+n) x _ J hx hz;have h2:=(h j hj y hy).2 (i+1+n) _ (by omega) hz;omega
theorem B4(m:Memory):∃c,lN m=some c/\(c=0↔okM m):=by
 unfold lN;by_cases hl:m.Keys.length<=6
 .rw[if_neg (by simp;omega)];obtain⟨c,h1,h2⟩:=Bt m hl m.Keys.length 0 (by omega);refine⟨c,h1,h2.trans ⟨λ⟨h3,h4⟩=>⟨hl,λx hx=>?_,λi j x y hij hx hy=>?_,h4⟩,λh=>⟨λi _ hi x hx=>⟨h.n x (RI hx),λj y e hy=>h.lt j i y x (by omega) hy hx⟩,h.dep⟩⟩⟩
  .obtain⟨i,hi⟩:=RX hx;exact(h3 i (Sb _) (RH.1 hi).1 x hi).1
  .exact Fh (λi hi=>h3 i (Sb _) hi) (j- i- 1) i j x y (by omega) hx hy
 .rw[if_pos (by simp;omega)];exact⟨2,J,λh=>by omega,λh=>absurd h.len hl⟩
theorem KJ(l:U Keyed)(key:Int)(hl:l.length<=6)(hs:∀(i j:Nat) x y,i<j->l[i]?=some x->l[j]?=some y->x.Key<y.Key):
    ∃(i:Nat) (b:Bool),qU l key=some ((i:Int),b)/\i<=l.length/\(∀t x,t<i->l[t]?=some x->x.Key<key)/\(∀t x,i<=t->l[t]?=some x->key<=x.Key)/\(b=true↔ ∃x,l[i]?=some x/\x.Key=key):=by
  unfold qU
  obtain ⟨r,h1,i,h2,h3,h4,h5,h6⟩:=sP (body:=λss:Int×Int=>qT l key ss.1 ss.2)
    (λs=>(0<=s.1/\s.1<=s.2/\s.2<=(l.length:Int))/\(∀(t:Nat) (x:Keyed),(t:Int)<s.1->l[t]?=some x->x.Key<key)/\(∀(t:Nat) (x:Keyed),s.2<=(t:Int)->l[t]?=some x->key<=x.Key)) (λs=>(s.2- s.1).toNat)
    (λr=>∃i:Nat,r.1=(i:Int)/\i<=l.length/\(∀t x,t<i->l[t]?=some x->x.Key<key)/\(∀t x,i<=t->l[t]?=some x->key<=x.Key)/\(r.2=true↔ ∃x,l[i]?=some x/\x.Key=key)) (λs hs0=>by
      obtain⟨s1,s2⟩:=s;simp only at hs0 ⊢;obtain⟨hb,ha,hc⟩:=hs0;unfold qT;by_cases hlt:s1<s2
      · rw[if_pos (by simpa using hlt)];have e1:shr .u64 (IntKind.u64.wrap (IntKind.i64.wrap (s1+s2))) 1=some ((s1+s2)/ 2):=by
          rw[bG (by omega) (by omega),IntWalk.u64_in _ ⟨by omega,by omega⟩];unfold shr;rw[if_pos (by decide)];congr 1;show(s1+s2).fdiv 2=_;rw[TA _ (by decide)]
        rw[e1,RF];obtain⟨h,hh⟩:∃h:Nat,(s1+s2)/ 2=(h:Int):=Sv (by omega);have hhl:h<l.length:=by omega
        have hx:l[h]?=some l[h]:=RG hhl;generalize hxv:l[h]=x at hx;have e2:IntKind.i64.wrap (h:Int)=(h:Int):=bG (by omega) (by omega);have e4:IntKind.i64.wrap ((h:Int)+1)=(h:Int)+1:=bG (by omega) (by omega);rw[hh,e2,bv hx,RF,Gl,RF,e4];refine .inl ?_;by_cases hk:x.Key<key
        · rw[if_pos hk];refine⟨((h:Int)+1,s2),J,⟨⟨by show 0<=(h:Int)+1;omega,by show(h:Int)+1<=s2;omega,hb.2.2⟩,λt y ht hy=>?_,hc⟩,by show(s2- ((h:Int)+1)).toNat<(s2- s1).toNat;omega⟩;have ht:(t:Int)<(h:Int)+1:=ht;by_cases e:t=h
          · subst e;rw[hx]at hy;cases hy;exact hk
          · have:=hs t h y x (by omega) hy hx;omega
        · have e5:(if decide ((if x.Key<key then(-1:Int)else if x.Key> key then 1 else 0)<0)=true then(some (.inl ((h:Int)+1,s2)):QbQ ((Int×Int)⊕(Int×Bool)))else some (.inl (s1,(h:Int))))=some (.inl (s1,(h:Int))):=by
            rw[if_neg hk];split<;>rfl
          refine⟨(s1,(h:Int)),e5,⟨⟨hb.1,by show s1<=(h:Int);omega,by show(h:Int)<=_;omega⟩,ha,λt y ht hy=>?_⟩,by show((h:Int)- s1).toNat<(s2- s1).toNat;omega⟩;have ht:(h:Int)<=(t:Int):=ht;by_cases e:t=h
          · subst e;rw[hx]at hy;cases hy;omega
          · have:=hs h t x y (by omega) hx hy;omega
      · rw[if_neg (by simpa using hlt)];refine .inr ?_;obtain⟨k,rfl⟩:=Sv hb.1;have hk2:s2=(k:Int):=by omega
        subst hk2;by_cases hk:k<l.length
        · have hx:l[k]?=some l[k]:=RG hk;generalize hxv:l[k]=x at hx;rw[if_pos (by simp;omega),bv hx,RF,Gl];refine⟨_,J,k,J,by omega,λt y ht hy=>ha t y (by omega) hy,λt y ht hy=>hc t y (by omega) hy,?_⟩;have:=hc k x (by omega) hx;simp only[hx,SV,exists_eq_left'];by_cases e:x.Key=key
          · simp[e]
          · have h1:¬x.Key<key:=by omega
            have h2:x.Key> key:=by omega
            simp[h1,h2,e]
        · rw[if_neg (by simp;omega)];refine⟨_,J,k,J,by omega,λt y ht hy=>ha t y (by omega) hy,λt y ht hy=>hc t y (by omega) hy,?_⟩;rw[SF (by omega)];simp) _ (0,(l.length:Int)) (RJ _) ⟨by simp,λt x ht=>by
            have ht:(t:Int)<0:=ht;omega,λt x ht hx=>by
            have ht:(l.length:Int)<=(t:Int):=ht;have:=(RH.1 hx).1;omega⟩
  obtain⟨r1,r2⟩:=r
  simp only at h2
  subst h2
  exact⟨i,r2,h1,h3,h4,h5,h6⟩
inductive StepR (k f:Int) (m:Memory) (x:Item):Memory×Item×Int->Prop
 |err (e:Int) (h:e≠0):StepR k f m x (⟨0,[],0⟩,⟨0,0,0⟩,e)
 |same (s d:Int) (y:Item) (hd:0<=d):StepR k f m x (⟨s,m.Keys,d⟩,y,0)
 |inc (i:Nat) (v:Keyed) (d:Int) (y:Item) (hi:m.Keys[i]?=some v) (hd:0<=d):StepR k f m x (⟨m.Sum,m.Keys.set i ⟨v.Key,IntKind.i64.wrap (v.N+1)⟩,d⟩,y,0)
 |ins (i:Nat) (d:Int) (y:Item) (hd:0<=d) (hl:m.Keys.length<6) (hi:i<=m.Keys.length) (h1:∀t z,t<i->m.Keys[t]?=some z->z.Key<x.Key) (h2:∀t z,i<=t->m.Keys[t]?=some z->x.Key<z.Key):StepR k f m x (⟨m.Sum,m.Keys.take i++⟨x.Key,1⟩::m.Keys.drop i,d⟩,y,0)
section
section
variable {l:U Keyed}
theorem MT (h:l.Pairwise (λa b=>a.Key<b.Key)):∀(i j:Nat) x y,i<j->l[i]?=some x->l[j]?=some y->x.Key<y.Key:=λi j x y hij hx hy=>by grind[List.pairwise_iff_getElem]
theorem Py {i:Nat}{key:Int}(hlt:∀(i j:Nat) x y,i<j->l[i]?=some x->l[j]?=some y->x.Key<y.Key)(h1:∀t z,t<i->l[t]?=some z->z.Key<key)(h2:∀t z,i<=t->l[t]?=some z->key<z.Key):
  (l.take i++(⟨key,1⟩:Keyed)::l.drop i).Pairwise (λa b=>a.Key<b.Key):=by
 rw[List.pairwise_append,List.pairwise_cons]
 have hpw:l.Pairwise (λa b=>a.Key<b.Key):=by rw[List.pairwise_iff_getElem];exact λa b ha hb hab=>hlt a b _ _ hab (RG ha) (RG hb)
 refine⟨hpw.sublist (List.take_sublist _ _),⟨λz hz=>?_,hpw.sublist (List.drop_sublist _ _)⟩,λa ha b hb=>?_⟩
 .obtain⟨t,ht⟩:=RX hz
  rw[Sz]at ht
  exact h2 (i+t) z (by omega) ht
 .obtain⟨t,ht⟩:=RX ha
  rw[Sm]at ht
  split at ht
  .rename_i hti
   have h7:=h1 t a hti ht
   rcases Sa.1 hb with rfl|hb
   .exact h7
   .obtain⟨t2,ht2⟩:=RX hb
    grind
  .cases ht
theorem Mu {k f:Int}{m:Memory}{x:Item}{R:Memory×Item×Int}(h:StepR k f m x R)(ok:okM m)(B:Int)(h0:0<=B)(hB:∀y,y∈m.Keys->y.N<=B)(hB2:B<4611686018427387904)(hR:R.2.2=0):okM R.1/\∀y,y∈R.1.Keys->y.N<=B+1:=by
 cases h with
 |err e he=>grind
 |same s d y hd=>exact⟨⟨ok.len,ok.n,ok.lt,hd⟩,λy hy=>by grind⟩
 | inc i v d y hi hd=>
  have hv:=RI hi;have hv1:=ok.n v hv;have hv2:=hB v hv;have hw:IntKind.i64.wrap (v.N+1)=v.N+1:=bG (by omega) (by omega);have hget:∀(a:Nat) (z:Keyed),(m.Keys.set i ⟨v.Key,IntKind.i64.wrap (v.N+1)⟩)[a]?=some z->∃z',m.Keys[a]?=some z'/\z'.Key=z.Key:=λa z hz=>by grind
  refine⟨⟨by simpa using ok.len,λz hz=>?_,λa b z1 z2 hab hz1 hz2=>?_,hd⟩,λz hz=>?_⟩
  .rcases SK hz with h1|h1
   .exact ok.n z h1
   grind
  .obtain⟨w1,e1,e2⟩:=hget a z1 hz1;obtain⟨w2,e3,e4⟩:=hget b z2 hz2;have:=ok.lt a b w1 w2 hab e1 e3;omega
  grind
 | ins i d y hd hl hi h1 h2=>
  have hm:∀z,z∈m.Keys.take i++(⟨x.Key,1⟩:Keyed)::m.Keys.drop i->z∈m.Keys∨z.N=1:=λz hz=>by grind
  refine⟨⟨by simp;omega,λz hz=>?_,MT (Py ok.lt h1 h2),hd⟩,λz hz=>?_⟩
  .rcases hm z hz with h3|h3
   .exact ok.n z h3
   .omega
  grind
end
end
def maxD(a b:Int):Int:=if b> a then b else a
def mapP(f:Int)(x:Item):Int:=if f=0 then IntKind.i64.wrap (x.Val+1)else if f=1 then IntKind.i64.wrap (2*x.Val)else if f=2 then IntKind.i64.wrap (0- x.Val)else IntKind.i64.wrap (x.Val+x.Key)
def lowN(key:Int):List Keyed->Nat
 |[]=>0
 |y::ys=>if y.Key<key then lowN key ys+1 else 0
def newK(key:Int)(l:List Keyed):List Keyed×Int:=if l.length=6 then(l,0)else(l.take (lowN key l)++⟨key,1⟩::l.drop (lowN key l),1)
def cntP(key:Int)(l:List Keyed):List Keyed×Int:=
 match l[lowN key l]? with
 |some y=>if y.Key=key then(l.set (lowN key l) ⟨y.Key,IntKind.i64.wrap (y.N+1)⟩,IntKind.i64.wrap (y.N+1))else newK key l
 |none=>newK key l
def cJ(k f:Int)(m:Memory)(x:Item):Memory×Item:=
 if k=2 then(m,⟨x.Key,mapP f x,x.Dep⟩)
 else if k=3 then(⟨IntKind.i64.wrap (m.Sum+x.Val),m.Keys,maxD m.Dep x.Dep⟩,⟨x.Key,IntKind.i64.wrap (m.Sum+x.Val),maxD m.Dep x.Dep⟩)
 else if k=4 then(⟨m.Sum,(cntP x.Key m.Keys).1,maxD m.Dep x.Dep⟩,⟨x.Key,(cntP x.Key m.Keys).2,maxD m.Dep x.Dep⟩)
 else(m,x)
def qm(k f:Int):Prop:=1<=k/\k<=8/\(k=2->0<=f/\f<=3)
theorem EK{key:Int}:∀{l:U Keyed} {i:Nat},i<=l.length->(∀t x,t<i->l[t]?=some x->x.Key<key)->(∀t x,i<=t->l[t]?=some x->key<=x.Key)->lowN key l=i
 |[],i,hi,_,_=>by simp at hi;subst hi;rfl
 |y::ys,0,hi,h1,h2=>by
  have:=h2 0 y (RJ _) J;simp_all[lowN]
 |y::ys,i+1,hi,h1,h2=>by have:=h1 0 y (by omega) J;unfold lowN;rw[if_pos this,EK (i:=i) (by grind) (λt x ht hx=>h1 (t+1) x (by omega) (by grind)) (λt x ht hx=>h2 (t+1) x (by omega) (by grind))]
theorem FH(k f:Int)(m:Memory)(x:Item)(ok:okM m)(hx:0<=x.Dep)(hk:qm k f):kx k f m x=some ((cJ k f m x).1,(cJ k f m x).2,0)/\StepR k f m x ((cJ k f m x).1,(cJ k f m x).2,0):=by
 obtain⟨c,hc,hc2⟩:=B4 m;have hc0:=hc2.2 ok;subst hc0;have hap:app [] m.Keys=some m.Keys:=by rw[cC (by have:=ok.len;simp;omega)];rfl
 have hcl:rf m.Keys=some m.Keys:=hap;have hco:nu m=some m:=by unfold nu;rw[hcl];rfl
 have hnd:¬decide (x.Dep<0)=true:=by simpa using hx
 have hdp:0<=maxD m.Dep x.Dep:=by have:=ok.dep;unfold maxD;split<;>omega
 unfold kx;rw[hc,RF,if_neg (by simp),if_neg hnd,hco,RF];by_cases k2:k=2
 .subst k2;rw[if_pos (show((2:Int)==2)=true from J)];have hf:=hk.2.2 J;rw[if_neg (by simp;omega)];have:f=0∨f=1∨f=2∨f=3:=by omega
  rcases this with rfl|rfl|rfl|rfl<;>exact⟨rfl,.same _ _ _ ok.dep⟩
 .have n2:¬(k==2)=true:=by simpa using k2
  rw[if_neg n2];by_cases k3:k=3
  .subst k3;rw[if_pos (show((3:Int)==3)=true from J)];exact⟨J,.same _ _ _ hdp⟩
  .have n3:¬(k==3)=true:=by simpa using k3
   rw[if_neg n3];by_cases k4:k=4
   .subst k4;rw[if_pos (show((4:Int)==4)=true from J)];obtain⟨i,b,hs,hi,h1,h2,h3⟩:=KJ m.Keys x.Key ok.len ok.lt;have hlow:=EK hi h1 h2;have hP:cJ 4 f m x=(⟨m.Sum,(cntP x.Key m.Keys).1,maxD m.Dep x.Dep⟩,⟨x.Key,(cntP x.Key m.Keys).2,maxD m.Dep x.Dep⟩):=rfl;rw[hs,RF,hP];cases b with
    |true=>
     obtain⟨v,hv,hvk⟩:=h3.1 J;have hil:=(RH.1 hv).1;have hcp:cntP x.Key m.Keys=(m.Keys.set i ⟨v.Key,IntKind.i64.wrap (v.N+1)⟩,IntKind.i64.wrap (v.N+1)):=by unfold cntP;rw[hlow,hv];simp only;rw[if_pos hvk]
     rw[if_neg (by simp),if_neg (by simp),hcp];have hset:i<(m.Keys.set i (⟨v.Key,IntKind.i64.wrap (v.N+1)⟩:Keyed)).length:=by simpa using hil
     have hsg:(m.Keys.set i (⟨v.Key,IntKind.i64.wrap (v.N+1)⟩:Keyed))[i]?=some ⟨v.Key,IntKind.i64.wrap (v.N+1)⟩:=by simp[hil]
     refine⟨?_,.inc i v _ _ hv hdp⟩;unfold mZ;simp only[cP hil,RF,hv,cP hset,hsg];rfl
    | false=>
     have hcn:cntP x.Key m.Keys=newK x.Key m.Keys:=by
      unfold cntP;rw[hlow];cases hv:m.Keys[i]? with
      |none=>rfl
      |some v=>
       simp only;rw[if_neg (λe=>absurd (h3.2 ⟨v,hv,e⟩) (by decide))]
     rw[hcn];by_cases h6:m.Keys.length=6
     .rw[if_pos (by simp;omega)];unfold newK;rw[if_pos h6];exact⟨J,.same _ _ _ hdp⟩
     .have hl6:m.Keys.length<6:=by have:=ok.len;omega
      rw[if_neg (by simp;omega),if_pos (by simp)];have hin:=Pl (m.Keys.take i) (m.Keys.drop i) (⟨x.Key,0⟩:Keyed) (by simp;omega);have hti:(m.Keys.take i).length=i:=by simp;omega
      rw[So,hti]at hin;have hset:∀a b:Keyed,(m.Keys.take i++a::m.Keys.drop i).set i b=m.Keys.take i++b::m.Keys.drop i:=λa b=>by rw[List.set_append_right _ _ (by omega),hti,Tc];rfl
      have hget:∀a:Keyed,(m.Keys.take i++a::m.Keys.drop i)[i]?=some a:=λa=>by rw[Sn (by omega),hti,Tc];rfl
      have hlen:∀a:Keyed,i<(m.Keys.take i++a::m.Keys.drop i).length:=λa=>by simp;omega
      have hw:IntKind.i64.wrap ((0:Int)+1)=1:=rfl;have hnf:∀t z,i<=t->m.Keys[t]?=some z->x.Key<z.Key:=λt z ht hz=>by
       have h4:=h2 t z ht hz;rcases Int.lt_or_eq_of_le h4 with h5|h5
       .exact h5
       .exfalso;by_cases e:t=i
        .subst e;exact absurd (h3.2 ⟨z,hz,h5.symm⟩) (by decide)
        .have hil:i<m.Keys.length:=by have:=(RH.1 hz).1;omega
         have hy:m.Keys[i]?=some m.Keys[i]:=RG hil;have h6:=h2 i _ (RJ _) hy;have h7:=ok.lt i t _ z (by omega) hy hz;omega
      have hnk:newK x.Key m.Keys=(m.Keys.take i++⟨x.Key,1⟩::m.Keys.drop i,1):=by unfold newK;rw[if_neg h6,hlow]
      rw[hnk];refine⟨?_,.ins i _ _ hdp hl6 hi h1 hnf⟩;simp only;rw[hin,RF];unfold mZ;simp only[cP (hlen _),RF,hget,hset,hw];rfl
   .have n4:¬(k==4)=true:=by simpa using k4
    rw[if_neg n4];have hP:cJ k f m x=(m,x):=by unfold cJ;rw[if_neg k2,if_neg k3,if_neg k4]
    rw[hP];have hk':k=1∨k=5∨k=6∨k=7∨k=8:=by have:=hk.1;have:=hk.2.1;omega
    rcases hk' with rfl|rfl|rfl|rfl|rfl<;>exact⟨rfl,.same m.Sum m.Dep x ok.dep⟩
theorem F4(k f:Int)(m:Memory)(x:Item)(ok:okM m)(hx:0<=x.Dep)(hk:qm k f):kx k f m x=some ((cJ k f m x).1,(cJ k f m x).2,0):=(FH k f m x ok hx hk).1
theorem Nr(k f:Int)(m:Memory)(x:Item)(ok:okM m)(hx:0<=x.Dep)(hk:qm k f):StepR k f m x ((cJ k f m x).1,(cJ k f m x).2,0):=(FH k f m x ok hx hk).2
theorem Nd{k f:Int}{m:Memory}{x:Item}(ok:okM m)(hx:0<=x.Dep)(hk:qm k f)(B:Int)(h0:0<=B)(hB:∀y,y∈m.Keys->y.N<=B)(hB2:B<4611686018427387904):
 okM (cJ k f m x).1/\∀y,y∈(cJ k f m x).1.Keys->y.N<=B+1:=Mu (Nr k f m x ok hx hk) ok B h0 hB hB2 J
def deep(k:Int):Bool:=k==3||k==4
theorem KP(k f:Int)(m:Memory)(x:Item):(cJ k f m x).2.Dep=(if deep k then maxD m.Dep x.Dep else x.Dep)/\(cJ k f m x).1.Dep=if deep k then maxD m.Dep x.Dep else m.Dep:=by unfold cJ deep;grind
def stepC(k f:Int)(s:Int×List Keyed)(y:Int×Int):(Int×List Keyed)×(Int×Int):=
 if k=2 then(s,(y.1,mapP f ⟨y.1,y.2,0⟩))
 else if k=3 then((IntKind.i64.wrap (s.1+y.2),s.2),(y.1,IntKind.i64.wrap (s.1+y.2)))
 else if k=4 then((s.1,(cntP y.1 s.2).1),(y.1,(cntP y.1 s.2).2))
 else(s,y)
def eraM(m:Memory):Int×List Keyed:=(m.Sum,m.Keys)
def cM(x:Item):Int×Int:=(x.Key,x.Val)
theorem O6(k f:Int)(m:Memory)(x:Item):(eraM (cJ k f m x).1,cM (cJ k f m x).2)=stepC k f (eraM m) (cM x):=by
 unfold cJ stepC eraM cM;by_cases h2:k=2
 .subst h2;rfl
 grind
section
def ab(n:Net)(i:Nat):Node:=n.Nodes.getD i ⟨0,0,[],[]⟩
structure RightN (n:Net):Prop where
 n1:1<=n.Nodes.length
 n2:n.Nodes.length<=12
 r1:0<=n.Rings
 r2:n.Rings<=16
 m1:1<=n.Room
 m2:n.Room<=6
 kind:∀i,i<n.Nodes.length->qm (ab n i).Kind (ab n i).A
 a0:∀i,i<n.Nodes.length->0<=(ab n i).A
 in1:∀i,i<n.Nodes.length->(ab n i).Kind=1->(ab n i).In=[]
 in6:∀i,i<n.Nodes.length->(ab n i).Kind=6->1<=(ab n i).In.length
 inx:∀i,i<n.Nodes.length->(ab n i).Kind≠1->(ab n i).Kind≠6->(ab n i).In.length=1
 out8:∀i,i<n.Nodes.length->(ab n i).Kind=8->(ab n i).Out=[]
 out1:∀i,i<n.Nodes.length->(ab n i).Kind≠8->1<=(ab n i).Out.length
 outx:∀i,i<n.Nodes.length->(ab n i).Kind≠8->(ab n i).Kind≠5->(ab n i).Kind≠7->(ab n i).Out.length=1
 inR:∀i,i<n.Nodes.length->∀r,r∈(ab n i).In->0<=r/\r<n.Rings
 outR:∀i,i<n.Nodes.length->∀r,r∈(ab n i).Out->0<=r/\r<n.Rings
 ndI:∀i,i<n.Nodes.length->(ab n i).In.Nodup
 ndO:∀i,i<n.Nodes.length->(ab n i).Out.Nodup
 oneI:∀i j r,i<n.Nodes.length->j<n.Nodes.length->r∈(ab n i).In->r∈(ab n j).In->i=j
 oneO:∀i j r,i<n.Nodes.length->j<n.Nodes.length->r∈(ab n i).Out->r∈(ab n j).Out->i=j
 toI:∀r:Nat,(r:Int)<n.Rings->∃i,i<n.Nodes.length/\(r:Int)∈(ab n i).In
 toO:∀r:Nat,(r:Int)<n.Rings->∃i,i<n.Nodes.length/\(r:Int)∈(ab n i).Out
 sink:∃s,s<n.Nodes.length/\(ab n s).Kind=8
 sink1:∀i j,i<n.Nodes.length->j<n.Nodes.length->(ab n i).Kind=8->(ab n j).Kind=8->i=j
 ord:∃pos:Nat->Nat,(∀i,i<n.Nodes.length->pos i<n.Nodes.length)/\(∀i j,i<n.Nodes.length->j<n.Nodes.length->pos i=pos j->i=j)/\∀i j r,i<n.Nodes.length->j<n.Nodes.length->r∈(ab n i).Out->r∈(ab n j).In->pos i<pos j
structure RightS (n:Net) (items:List (List Item)):Prop extends RightN n where
 l4:items.length<=4
 l20:∀(a:Nat) (l:List Item),items[a]?=some l->l.length<=20
 dep0:∀(a:Nat) (l:List Item) (x:Item),items[a]?=some l->x∈l->x.Dep=0
 srcA:∀i,i<n.Nodes.length->(ab n i).Kind=1->(ab n i).A<items.length
 src1:∀i j,i<n.Nodes.length->j<n.Nodes.length->(ab n i).Kind=1->(ab n j).Kind=1->(ab n i).A=(ab n j).A->i=j
section
variable {n:Net}
theorem jG {i:Nat}(h:i<n.Nodes.length):n.Nodes[i]?=some (ab n i):=by grind[ab]
theorem KF {x:Node}(h:l8 x=0):qm x.Kind x.A/\0<=x.A/\(x.Kind=1->x.In=[])/\(x.Kind=6->1<=x.In.length)/\(x.Kind≠1->x.Kind≠6->x.In.length=1)/\(x.Kind=8->x.Out=[])/\(x.Kind≠8->1<=x.Out.length) /\
  (x.Kind≠8->x.Kind≠5->x.Kind≠7->x.Out.length=1):=by
 unfold l8 at h
 split at h
 .omega
 .rename_i i o har
  split at h
  .omega
  .rename_i hf
   split at h
   .omega
   .rename_i hb
    have hfi:gX x.In.length i=true/\gX x.Out.length o=true:=by grind
    have h1:=of_decide_eq_true hfi.1
    have h2:=of_decide_eq_true hfi.2
    have h3:¬(x.A<0∨x.Kind=1/\4<=x.A∨x.Kind=2/\3<x.A∨x.Kind≠1/\x.Kind≠2/\x.A≠0):=λe=>hb (by grind[badA])
    unfold tu at har
    have hz:∀l:U Int,(l.length:Int)=0->l=[]:=λl hl=>RP (by omega)
    split at har
    .cases har;rename_i hk
     exact⟨⟨by omega,by omega,by omega⟩,by omega,λ_=>hz _ (by omega),by omega,by omega,by omega,by omega,by omega⟩
    .split at har
     .cases har;rename_i hk1 hk
      exact⟨⟨by omega,by omega,by omega⟩,by omega,by omega,by omega,by omega,by omega,by omega,by omega⟩
     .split at har
      .cases har;rename_i hk1 hk2 hk
       exact⟨⟨by omega,by omega,by omega⟩,by omega,by omega,by omega,by omega,by omega,by omega,by omega⟩
      .split at har
       .cases har;rename_i hk1 hk2 hk3 hk
        exact⟨⟨by omega,by omega,by omega⟩,by omega,by omega,by omega,by omega,by omega,by omega,by omega⟩
       .split at har
        .cases har;rename_i hk1 hk2 hk3 hk4 hk
         exact⟨⟨by omega,by omega,by omega⟩,by omega,by omega,by omega,by omega,λ_=>hz _ (by omega),by omega,by omega⟩
        .cases har
theorem Bx {α:Type}{p:α->Bool}:∀{l:U α},(l.filter p).length=1->∃(i:Nat) (x:α),l[i]?=some x/\p x=true/\∀(j:Nat) (y:α),l[j]?=some y->p y=true->j=i
 |[],h=>by simp at h
 | a::l,h=>by
  by_cases ha:p a=true
  .rw[S6 ha]at h;have h0:l.filter p=[]:=RP (by simpa using h);refine⟨0,a,J,ha,λj y hy hp=>?_⟩;cases j with
   |zero=>rfl
   |succ j=>
    have hm:y∈l.filter p:=SL.2 ⟨RI (by assumption),hp⟩;grind
  .rw[SU ha]at h;obtain⟨i,x,h1,h2,h3⟩:=Bx h;refine⟨i+1,x,by grind,h2,λj y hy hp=>?_⟩;grind
theorem CK (h:(eO n).2=0):RightN n:=by
 obtain⟨l,o,hlk,hl,ho,_⟩:=ER h;have hord:=O0 ho;have hg:∀i,i<n.Nodes.length->n.Nodes[i]?=some (ab n i):=λi hi=>jG hi
 have he:=λi hi=>KF (hl.err i _ (hg i hi))
 obtain⟨s,xs,hs,hs8,hsu⟩:=Bx hl.sink;have hsl:=(RH.1 hs).1;have hsx:ab n s=xs:=by grind
 refine⟨hl.n1,hl.n2,hl.r1,hl.r2,hl.m1,hl.m2,λi hi=>(he i hi).1,λi hi=>(he i hi).2.1,λi hi=>(he i hi).2.2.1,λi hi=>(he i hi).2.2.2.1,λi hi=>(he i hi).2.2.2.2.1,λi hi=>(he i hi).2.2.2.2.2.1,λi hi=>(he i hi).2.2.2.2.2.2.1,λi hi=>(he i hi).2.2.2.2.2.2.2,
  λi hi r hr=>⟨(hl.inn i _ (hg i hi) r hr).1,(hl.inn i _ (hg i hi) r hr).2.1⟩,λi hi r hr=>⟨(hl.out i _ (hg i hi) r hr).1,(hl.out i _ (hg i hi) r hr).2.1⟩,λi hi=>hl.ndI i _ (hg i hi),λi hi=>hl.ndO i _ (hg i hi),
  λi j r hi hj h1 h2=>?_,λi j r hi hj h1 h2=>?_,λr hr=>?_,λr hr=>?_,⟨s,hsl,by grind⟩,λi j hi hj h1 h2=>?_,?_⟩
 .obtain⟨_,_,e,e1,e2⟩:=hl.inn i _ (hg i hi) r h1;obtain⟨_,_,e',e3,e4⟩:=hl.inn j _ (hg j hj) r h2;grind
 .obtain⟨_,_,e,e1,e2⟩:=hl.out i _ (hg i hi) r h1;obtain⟨_,_,e',e3,e4⟩:=hl.out j _ (hg j hj) r h2;grind
 .have hlt:r<l.length:=by have:=hl.len;omega
  obtain⟨i,x,h1,_,h3⟩:=hl.dst r _ (RG hlt);grind
 .have hlt:r<l.length:=by have:=hl.len;omega
  obtain⟨i,x,h1,_,h3⟩:=hl.src r _ (RG hlt);grind
 .grind
 .have hmem:∀i,i<n.Nodes.length->i∈o:=λi hi=>Mn hord.nd hord.lt hord.len hi
  have hidx:∀i,i<n.Nodes.length->o[o.idxOf i]?=some i:=λi hi=>by grind
  refine⟨λi=>o.idxOf i,λi hi=>?_,λi j hi hj e=>?_,λi j r hi hj h1 h2=>?_⟩
  .show o.idxOf i<_;rw[<- hord.len];grind
  .grind
  .obtain⟨_,_,e,e1,e2⟩:=hl.out i _ (hg i hi) r h1;have h3:=hord.fed _ j _ r e (hidx j hj) (hg j hj) h2 e1;rw[e2,R7]at h3;show o.idxOf i<o.idxOf j;obtain⟨q,hq⟩:=RX h3;rw[Sm]at hq;split at hq
   .rename_i hlt;have hq2:=hidx i hi;have:q=o.idxOf i:=by
     have hql:=(RH.1 hq).1;refine(List.getElem?_inj hql hord.nd).1 ?_;rw[hq,hq2]
    omega
   .cases hq
theorem Bu:∀{l:U (U Item)},jH l=0->∀(a:Nat) (s:U Item),l[a]?=some s->s.length<=20/\∀x:Item,x∈s->x.Dep=0
 |[],_,a,s,h=>by simp at h
 | t ::l,h,a,s,hs=>by
  unfold jH at h;split at h
  .omega
  .split at h
   .omega
   .rename_i h1 h2;cases a with
    |zero=>
     grind
    |succ a=>exact Bu h a s (by grind)
theorem xN (len:Nat):∀{ns:U Node} {seen:U Int},kN len ns seen=0->(∀(i:Nat) x,ns[i]?=some x->x.Kind=1->x.A<len/\x.A∉seen)/\∀(i j:Nat) x y,ns[i]?=some x->ns[j]?=some y->x.Kind=1->y.Kind=1->x.A=y.A->i=j
 |[],seen,_=>⟨λi x h=>by simp at h,λi j x y h=>by simp at h⟩
 | z::ns,seen,h=>by
  unfold kN at h;split at h
  .rename_i hk;obtain⟨h1,h2⟩:=xN len h;grind
  .split at h
   .omega
   .split at h
    .omega
    .rename_i hk hl hs;obtain⟨h1,h2⟩:=xN len h;grind
theorem eq {items:U (U Item)}(h:bt n items=0):RightS n items:=by
 unfold bt at h;split at h
 .omega
 .split at h
  .omega
  .split at h
   .omega
   .rename_i h1 h2 h3;have hi:=λa s hs=>Bu (Decidable.not_not.1 h3) a s hs
    obtain⟨s1,s2⟩:=xN items.length h;exact{ CK (Decidable.not_not.1 h1)with
     l4:=by omega
     l20:=λa l hl=>(hi a l hl).1
     dep0:=λa l x hl hx=>(hi a l hl).2 x hx
     srcA:=λi hi hk=>(s1 i _ (jG hi) hk).1
     src1:=λi j hi hj h1 h2 he=>s2 i j _ _ (jG hi) (jG hj) h1 h2 he }
end
end
section
def idxI{α:Type}(p:α->Bool)(xs:List α):Int:=match xs.findIdx? p with|some i=>(i:Int)|none=> -1
theorem u0{α:Type}(xs:U α)(hx:xs.length<=1099511627776)(p:α->Bool){body:Int->QbQ (Int⊕Int)}
  (h1:∀(k:Nat) (x:α),xs[k]?=some x->k<xs.length->idx xs (k:Int)=some x->decide ((k:Int)<(xs.length:Int))=true->IntKind.i64.wrap ((k:Int)+1)=((k+1:Nat):Int)->body k=if p x=true then some (.inr (k:Int))else some (.inl ((k+1:Nat):Int)))
  (h2:decide ((xs.length:Int)<(xs.length:Int))=false->body xs.length=some (.inr (-1))):iter body 0=some (idxI p xs):=by
 have key:∀(m k:Nat),k+m=xs.length->iter body k=some (match(xs.drop k).findIdx? p with|some i=>((k+i:Nat):Int)|none=> -1):=by
  intro m;induction m with
  |zero=>
   grind[aE]
  | succ m ih=>
   intro k hk;have hlt:k<xs.length:=by omega
   have hg:xs[k]?=some xs[k]:=RG hlt;rw[aE,h1 k _ hg hlt (bv hg) (by simp;omega) (bf (by omega)),RL hlt,List.findIdx?_cons];by_cases hp:p xs[k]=true
   .grind
   .rw[if_neg hp,Bool.eq_false_iff.2 hp];simp only;rw[ih (k+1) (by omega)];cases(xs.drop (k+1)).findIdx? p with
    |none=>rfl
    |some i=>
     grind
 have:=key xs.length 0 (by omega)
 simp only[Ss,Sy,SP]at this
 exact this
theorem ym{α:Type}(p:α->Bool)(xs:U α):decide (idxI p xs>=0)=xs.any p:=by grind[idxI]
theorem PL(x:Item)(r:Int)(hr:1<=r/\r<=16):r9 x r=some (x.Key% r,0):=by
 have h1:=Int.tmod_lt_of_pos x.Key (show 0<r by omega);have h2:=Int.lt_tmod_of_pos x.Key (show 0<r by omega);have hn:((r.natAbs:Nat):Int)=r:=by omega
 unfold r9;rw[if_neg (by simp;omega)];unfold rem;rw[if_neg (by omega),RF,if_neg (by omega),RF];rw[bG (by omega) (by omega)];have h3:(x.Key.tmod r+r).tmod r=x.Key% r:=by rw[Int.tmod_eq_emod_of_nonneg (by omega),Int.add_emod_right,Int.tmod_eq_emod];split<;>simp[hn,Int.sub_emod_right]
 rw[h3]
def bA(x:Node)(k:Nat):Nat:=(x.In.getD k 0).toNat
def bD(x:Node):Nat:=if x.Kind=6 then x.In.length else 1
def memN(s:State)(i:Nat):Memory:=s.Memory.getD i ⟨0,[],0⟩
def dy(n:Net)(items:List (List Item))(s:State)(i k:Nat):Option Item:=
 if(ab n i).Kind=1 then(items.getD (ab n i).A.toNat [])[(s.At.getD (ab n i).A.toNat 0).toNat]? else(s.Rings.getD (bA (ab n i) k) []).head?
def bK(x:Node)(key:Int):List Int:=if x.Kind=7 then[x.Out.getD (key% x.Out.length).toNat 0]else x.Out
def roomy(n:Net)(s:State)(l:List Int):Bool:=l.all λr=>decide (((s.Rings.getD r.toNat []).length:Int)<n.Room)
def eG(n:Net)(items:List (List Item))(s:State)(i k:Nat):Bool:=
 match dy n items s i k with
 |none=>false
 |some it=>roomy n s (bK (ab n i) it.Key)&& !(decide ((ab n i).Kind=6/\s.Choices.length=500))&& !(decide ((ab n i).Kind=8/\s.Out.length=2000))
def dH(y:Item)(l:List Int)(R:List (List Item)):List (List Item):=l.foldl (λR r=>R.set r.toNat (R.getD r.toNat []++[y])) R
def chD(x:Node)(s:State)(it:Item):Item:=if x.Kind=6 then⟨it.Key,it.Val,(s.Choices.length:Int)+1⟩else it
def dS(n:Net)(s:State)(i:Nat)(it:Item):Memory×Item:=cJ (ab n i).Kind (ab n i).A (memN s i) (chD (ab n i) s it)
def doM(n:Net)(items:List (List Item))(s:State)(i k:Nat):State:=
  match dy n items s i k with
  |none=>s
  | some it=>
    { At:=if(ab n i).Kind=1 then s.At.set (ab n i).A.toNat (s.At.getD (ab n i).A.toNat 0+1)else s.At
      Rings:=dH (dS n s i it).2 (bK (ab n i) it.Key) (if(ab n i).Kind=1 then s.Rings else s.Rings.set (bA (ab n i) k) (s.Rings.getD (bA (ab n i) k) []).tail)
      Memory:=s.Memory.set i (dS n s i it).1
      Choices:=if(ab n i).Kind=6 then s.Choices++[⟨i,k⟩]else s.Choices
      Out:=if(ab n i).Kind=8 then s.Out++[(dS n s i it).2]else s.Out }
def n5(n:Net)(items:List (List Item))(s:State)(i:Nat):List Move:=((List.range (bD (ab n i))).filter λk=>eG n items s i k).map λk:Nat=>⟨i,k⟩
def aB(n:Net)(items:List (List Item))(s:State):List Move:=(List.range n.Nodes.length).flatMap λi=>n5 n items s i
def vH(n:Net)(c:Choice):Prop:=0<=c.Node/\c.Node<n.Nodes.length/\(ab n c.Node.toNat).Kind=6/\0<=c.Lane/\c.Lane<(ab n c.Node.toNat).In.length
structure OkS (n:Net) (items:List (List Item)) (B:Int) (s:State):Prop where
 at_:s.At.length=items.length
 rg:(s.Rings.length:Int)=n.Rings
 mm:s.Memory.length=n.Nodes.length
 ch:s.Choices.length<=500
 out:s.Out.length<=2000
 atP:∀(a:Nat) (p:Int),s.At[a]?=some p->0<=p/\p<=(items.getD a []).length
 room:∀(r:Nat) (l:List Item),s.Rings[r]?=some l->(l.length:Int)<=n.Room
 depR:∀(r:Nat) (l:List Item) (x:Item),s.Rings[r]?=some l->x∈l->0<=x.Dep/\x.Dep<=s.Choices.length
 mem:∀(i:Nat) (m:Memory),s.Memory[i]?=some m->okM m/\m.Dep<=s.Choices.length/\∀y,y∈m.Keys->y.N<=B
 cho:∀c,c∈s.Choices->vH n c
 depO:∀x,x∈s.Out->0<=x.Dep/\x.Dep<=s.Choices.length
section
variable {n:Net} {items:List (List Item)} {B:Int} {s:State}
variable {α:Type}{k i:Nat}{l:U α}
theorem dZ (z:α)(h:k<l.length):l[k]?=some (l.getD k z):=by grind
theorem jg {i:Int}(z:α)(h0:0<=i)(h:i<l.length):idx l i=some (l.getD i.toNat z):=by simp_all[idx]
theorem ixN_D {i:Int}(h0:0<=i)(h:i<l.length):ixN l i=some i.toNat:=by simp_all[ixN]
theorem vY (hR:RightN n)(hi:i<n.Nodes.length)(hk:k<bD (ab n i))(h1:(ab n i).Kind≠1):k<(ab n i).In.length:=by
 unfold bD at hk;split at hk
 .exact hk
 .rename_i h6;have:=hR.inx i hi h1 h6;omega
theorem vT (hR:RightN n)(hi:i<n.Nodes.length)(hk:k<(ab n i).In.length):(ab n i).In.getD k 0∈(ab n i).In/\0<=(ab n i).In.getD k 0/\(ab n i).In.getD k 0<n.Rings:=by have:(ab n i).In.getD k 0∈(ab n i).In:=RI (dZ 0 hk);exact⟨this,hR.inR i hi _ this⟩
theorem at_ok (hS:RightS n items)(ok:OkS n items B s)(hi:i<n.Nodes.length)(h1:(ab n i).Kind=1):
  0<=(ab n i).A/\(ab n i).A<s.At.length/\(ab n i).A<items.length/\0<=s.At.getD (ab n i).A.toNat 0/\s.At.getD (ab n i).A.toNat 0<=(items.getD (ab n i).A.toNat []).length/\(items.getD (ab n i).A.toNat []).length<=20:=by
 have h0:=hS.a0 i hi
 have h2:=hS.srcA i hi h1
 have h3:=ok.at_
 have h4:=ok.atP (ab n i).A.toNat _ (dZ 0 (by omega))
 exact⟨h0,by omega,h2,h4.1,h4.2,hS.l20 _ _ (dZ [] (by omega))⟩
theorem E6 (hS:RightS n items)(ok:OkS n items B s)(hi:i<n.Nodes.length)(hk:k<bD (ab n i)):
  pD n items s ⟨i,k⟩=some (match dy n items s i k with|some it=>(it,true)|none=>(⟨0,0,0⟩,false)):=by
 unfold pD dy
 simp only
 rw[bv (jG hi),RF]
 by_cases h1:(ab n i).Kind=1
 .rw[if_pos (by grind),if_pos h1]
  obtain⟨a0,a1,a2,a3,a4,a5⟩:=at_ok hS ok hi h1
  rw[jg 0 a0 a1,RF,jg [] a0 a2,RF]
  by_cases he:s.At.getD (ab n i).A.toNat 0=((items.getD (ab n i).A.toNat []).length:Int)
  .grind
  .rw[if_neg (by grind),RF,RF,jg ⟨0,0,0⟩ a3 (by omega),RF,dZ (⟨0,0,0⟩:Item) (show(s.At.getD (ab n i).A.toNat 0).toNat<_ by omega)]
 .rw[if_neg (by grind),if_neg h1]
  have hkl:=vY hS.toRightN hi hk h1
  obtain⟨_,b0,b1⟩:=vT hS.toRightN hi hkl
  have hrg:=ok.rg
  rw[jg (0:Int) (by omega) (by omega),RF]
  simp only[R7]
  rw[jg [] b0 (by omega),RF]
  show _=some (match(s.Rings.getD (bA (ab n i) k) []).head? with|some it=>(it,true)|none=>(⟨0,0,0⟩,false))
  unfold bA
  cases hl:s.Rings.getD ((ab n i).In.getD k 0).toNat []with
  |nil=>rfl
  |cons y ys=>rfl
theorem kO (hR:RightN n)(hi:i<n.Nodes.length)(key:Int):∀r,r∈bK (ab n i) key->r∈(ab n i).Out:=by
 intro r hr;unfold bK at hr;split at hr
 .rename_i h7;have h1:=hR.out1 i hi (by omega);have hm:=Tk key (show((ab n i).Out.length:Int)≠0 by omega);have hm2:=Int.emod_lt_of_pos key (show(0:Int)<(ab n i).Out.length by omega);grind
 .exact hr
theorem xC {l:U Int}{R:Int}(hd:l.Nodup)(h:∀r,r∈l->0<=r/\r<R)(hR:0<=R):(l.length:Int)<=R:=by
 have h1:(l.map Int.toNat).Nodup:=List.pairwise_map.2 (List.Pairwise.imp_of_mem (λ{a b} ha hb hne e=>hne (by grind)) hd);have:=xl R.toNat (l.map Int.toNat) h1 (λx hx=>by grind)
 grind
theorem yv (hR:RightN n)(hi:i<n.Nodes.length)(key:Int):(bK (ab n i) key).Nodup:=by
 unfold bK;split
 .simp
 .exact hR.ndO i hi
theorem v6 (hR:RightN n)(hi:i<n.Nodes.length):(ab n i).Out.length<=16:=by have:=xC (hR.ndO i hi) (hR.outR i hi) hR.r1;have:=hR.r2;omega
theorem AW (hR:RightN n)(hi:i<n.Nodes.length)(it:Item):pK (ab n i) it=some (bK (ab n i) it.Key):=by
 unfold pK bK;by_cases h7:(ab n i).Kind=7
 .rw[if_neg (by simp[h7]),if_pos h7];have h1:=hR.out1 i hi (by omega);have h2:=v6 hR hi;have hm:=Tk it.Key (show((ab n i).Out.length:Int)≠0 by omega);have hm2:=Int.emod_lt_of_pos it.Key (show(0:Int)<(ab n i).Out.length by omega);rw[PL it _ (by omega),RF];simp only;rw[bG (by omega) (by omega)];obtain⟨q,hq⟩:=Sv hm;rw[hq]at hm2 ⊢;rw[show((q:Nat):Int)+1=((q+1:Nat):Int)from J,ql (by omega) (by omega),RF];have hql:q<(ab n i).Out.length:=by omega
  grind[List.take_succ_eq_append_getElem]
 grind
theorem I5 (hR:RightN n)(ok:OkS n items B s)(l:U Int)(hl:∀r,r∈l->0<=r/\r<n.Rings)(hll:l.length<=16):qY l s.At s.Rings s.Memory s.Choices s.Out n.Nodes n.Rings n.Room=some (!roomy n s l):=by
 unfold qY ur;have hrg:=ok.rg;rw[u0 l (by omega) (λr=>decide (n.Room<=((s.Rings.getD r.toNat []).length:Int))) (λk x hx hk h1 h2 h3=>by
  have hm:=hl x (RI hx);unfold qZ uF;rw[h2,h1,h3];simp only[if_true,RF];grind[jg]) (λh=>by
  simp[qZ])]
 rw[RF,ym];congr 1;unfold roomy;grind
theorem yl (hS:RightS n items)(ok:OkS n items B s){it:Item}(h:dy n items s i k=some it):0<=it.Dep/\it.Dep<=s.Choices.length:=by
 unfold dy at h;split at h
 .rename_i h1;have hm:=RI h;rw[R1]at hm;cases hg:items[(ab n i).A.toNat]? with
  |none=>grind
  |some l=>
   rw[hg]at hm;rw[hS.dep0 _ l it hg hm];omega
 .have hm:=List.mem_of_head? h;rw[R1]at hm;cases hg:s.Rings[bA (ab n i) k]? with
  |none=>grind
  |some l=>rw[hg]at hm;exact ok.depR _ l it hg hm
theorem GB (hS:RightS n items)(ok:OkS n items B s)(hi:i<n.Nodes.length)(hk:k<bD (ab n i)):
  nI n items s ⟨i,k⟩=some (eG n items s i k):=by
 unfold nI eG
 simp only
 rw[bv (jG hi),RF,E6 hS ok hi hk,RF]
 cases hh:dy n items s i k with
 |none=>rfl
 | some it=>
  simp only[Th,RU,if_false]
  have hol:(bK (ab n i) it.Key).length<=16:=by
   unfold bK;split
   .simp
   .exact v6 hS.toRightN hi
  rw[AW hS.toRightN hi,RF,I5 hS.toRightN ok _ (λr hr=>hS.outR i hi r (kO hS.toRightN hi _ r hr)) hol,RF,RF]
  cases hr:roomy n s (bK (ab n i) it.Key)with
  |false=>rfl
  | true=>
   simp only[Th,RU,if_false,Bool.true_and]
   have hch:=ok.ch
   have hst:(Option.bind (idx s.Memory (i:Int)) λx11=>Option.bind (kx (ab n i).Kind (ab n i).A x11 it) λx12=>some (x12.2.2==0))=some true:=by have hm:=dZ (⟨0,[],0⟩:Memory) (show i<s.Memory.length by rw[ok.mm];exact hi);rw[bv hm,RF,F4 _ _ _ _ (ok.mem i _ hm).1 (yl hS ok hh).1 (hS.kind i hi)];rfl
   rw[hst]
   by_cases h6:(ab n i).Kind=6
   .have h8:¬(ab n i).Kind=8:=by omega
    by_cases hc:s.Choices.length=500
    all_goals grind
   .by_cases h8:(ab n i).Kind=8
    .by_cases hc:s.Out.length=2000
     all_goals grind
    grind
end
end
end Go.Proofs.YtfglbbhdfgjheaaGreatDoor
