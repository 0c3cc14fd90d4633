/-
  Part 5 of the proof of shopRunLaw.proved: the code computes these functions, and the law holds of them, with no condition beyond the statement's own; put together by a program of ours (wip/decl.py) out of texts of ours.
-/
import Derived.ProofKit
import Derived.OpenShut
import Derived.JoinedCond
import Derived.Deep.Slices
import Derived.Carry
import Derived.IntWalk
import Derived.Test.YtnlmagdmmjkklaaGreatZShopRun4
set_option linter.unusedVariables false
set_option linter.unusedSimpArgs false
namespace Go.Proofs.YtnlmagdmmjkklaaGreat
section
open Go.RowKit
set_option maxRecDepth 100000
set_option maxHeartbeats 4000000
set_option synthInstance.maxSize 100000
set_option synthInstance.maxHeartbeats 4000000
section
variable {p0 p1:Int}{r:Bool}
theorem Az (h:oZ p0=some r):Fn Qbl 86 [iI p0] (.bool r):=by unfold oZ at h;refine fT 0 10 Tryz.func86 Tryz.ntmps86 J ?_;cases h;exact tD
theorem iu (h:fI p0=some r):Fn Qbl 84 [iI p0] (.bool r):=by unfold fI at h;refine fT 0 10 Tryz.func84 Tryz.ntmps84 J ?_;cases h;exact tD
theorem xc (h:mM p0=some r):Fn Qbl 85 [iI p0] (.bool r):=by unfold mM at h;refine fT 0 10 Tryz.func85 Tryz.ntmps85 J ?_;cases h;exact tD
theorem HE {p0:U Int}{r:Int}(h:u9 p0 p1=some r):Fn Qbl 132 [sL aj p0,iI p1] (iI r):=by
 unfold u9 at h;refine fT 0 8 Tryz.func132 Tryz.ntmps132 J (sQ (ai Sx J (Y 3 0 (itr (λam:Int=>mkA 19 [(0,sL aj p0),(1,iI p1),(7,iI ((p0).length:Int)),(8,iI am)]) (λam=>[]) h (wk [] [] 0 J) (λam v_6 h bu=>?_)))));revert bu h;revert am;intro s1 h bu;replace h:oX p0 p1 s1=some v_6:=h;try dsimp only
 unfold oX at h;refine X 5 0 (Sv h J (λbN h=>?_) (λbN h=>?_))
 .refine B h λx3 hx3 h=>(X 13 0 (sQ (aB Sx (λ_=>J) J J hx3 (Y 3 0 (Sv h J (λbi h=>?_) (λbi h=>?_))))))
  .refine X 5 0 ?_;replace h:=mi h bu;cases h;exact tD
  exact X 5 0 (lk h (wk [] [] 0 J))
 refine X 1 0 ?_;replace h:=mi h bu;refine X 4 0 ?_;cases h;exact tD
theorem Ay {p0:U Int}(h:o4 p0 p1=some r):Fn Qbl 87 [sL aj p0,iI p1] (.bool r):=by
 unfold o4 at h;refine fT 0 0 Tryz.func87 Tryz.ntmps87 J ?_;refine B h λx2 hx2 h=>(X 8 0 (sO (cF (HE hx2) ⟨J,(Y 3 0 ?_)⟩)))
 cases h;exact tD
theorem AG {p0:Net}{r:(U Int)×Int}(h:o9 p0=some r):FnO Qbl 44 [.agg (aD p0)] (.tup [.ref 0,iI r.2]) [aR 3 1 aj r.1]:=by
 unfold o9 at h;refine fT 0 7 Tryz.func44 Tryz.ntmps44 J (j1 [(1,.ptr 0 0),(48,.bool ((((p0.Nodes).length:Int)==0)||((decide (((p0.Nodes).length:Int)> 12))||((decide (p0.Rings<0))||decide (p0.Rings> 16)))))] [.box (aD p0)] ?_ (λhK=>?_))
 .refine Sv h J (λaC h=>?_) (λaC h=>?_)
  .refine X 5 1 ?_;cases h;exact tO [(0,3,1)] [1] 1
  refine X 2 1 (j1 [(1,.ptr 0 0),(56,.bool ((decide (p0.Room<1))||decide (p0.Room> 6)))] [.box (aD p0)] ?_ (λhK=>?_))
  .refine Sv h J (λaM h=>?_) (λaM h=>?_)
   .refine X 5 1 ?_;cases h;exact tO [(0,3,1)] [1] 1
   refine X 3 1 (sO (pT J J (sO (pT J J (Y 12 3 (sQ (ai Sw J (Y 3 3 (itr (λgu:Int×Int×(U (Int×Int))×(U (Int×Int))=>mkA 249 [(1,.ptr 0 0),(4,.mpr 1),(5,.mpr 2),(6,iI gu.1),(60,sL ao p0.Nodes),(61,iI ((p0.Nodes).length:Int)),(62,iI gu.2.1)]) (λgu=>[.box (aD p0),.mp (List.map kI (List.map Prod.fst gu.2.2.1)) (List.map kI (List.map Prod.snd gu.2.2.1)),.mp (List.map kI (List.map Prod.fst gu.2.2.2)) (List.map kI (List.map Prod.snd gu.2.2.2))]) h (wk [] [0,1,2] 3 J) (λgu v_294 h fR=>?_))))))))));obtain⟨s3,s4,s5,s6⟩:=gu;replace h:jg p0 s3 s4 s5 s6=some v_294:=h;try dsimp only
   unfold jg at h;refine X 5 3 (Sv h J (λPb h=>?_) (λPb h=>?_))
   .refine B h λx8 hx8 h=>(X 6 3 (sQ (aB Sw (λ_=>J) J J hx8 (Y 17 3 (Um (Z:=Unit) (λzt=>mkA 249 [(1,.ptr 0 0),(4,.mpr 1),(5,.mpr 2),(6,iI s3),(7,iI s4),(8,.ptr 3 0),(60,sL ao p0.Nodes),(61,iI ((p0.Nodes).length:Int)),(62,iI s4)]) (λzt=>[.box (aD p0),.mp (List.map kI (List.map Prod.fst s5)) (List.map kI (List.map Prod.snd s5)),.mp (List.map kI (List.map Prod.fst s6)) (List.map kI (List.map Prod.snd s6)),.box (ao x8)]) (λzt=>f9 p0 s3 s4 s5 s6 x8=some v_294) (λzt h=>?_) (λhK3=>?_))))))
    .replace h:f9 p0 s3 s4 s5 s6 x8=some v_294:=h;unfold f9 at h;refine X 2 4 (sO (pT J J (sO (tp (ek:=kI) (ev:=kI) (xs:=([]:U (Int×Int))) (k:=1) (a:=3) (.inr J) Vg (KeyT.int Vc) J J J J J (sO (tp (ek:=kI) (ev:=kI) (xs:=(mset 1 3 ([]:U (Int×Int)))) (k:=2) (a:=3) (.inr J) Vg (KeyT.int Vc) J J J J J (Y 3 5 (sO (we (ek:=kI) (ev:=kI) (xs:=(mset 2 3 (mset 1 3 ([]:U (Int×Int))))) (k:=x8.Kind) (z0:=0) Vg (KeyT.int Vc) Ts (λ_ _ _=>.int _ _) J J J (Y 3 5 (j1 [(1,.ptr 0 0),(4,.mpr 1),(5,.mpr 2),(6,iI s3),(7,iI s4),(8,.ptr 3 0),(60,sL ao p0.Nodes),(61,iI ((p0.Nodes).length:Int)),(62,iI s4),(130,.bool ((decide (x8.A<0))||decide (x8.A> ((mget x8.Kind (mset 2 3 (mset 1 3 ([]:U (Int×Int))))).getD 0))))] [.box (aD p0),.mp (List.map kI (List.map Prod.fst s5)) (List.map kI (List.map Prod.snd s5)),.mp (List.map kI (List.map Prod.fst s6)) (List.map kI (List.map Prod.snd s6)),.box (ao x8)] ?_ (λhK=>?_))))))))))))
     .refine Sv h J (λPc h=>?_) (λPc h=>?_)
      .refine X 5 4 ?_;replace h:=mi h fR;cases h;exact tO [(0,3,1)] [4] 4
      refine X 6 4 (sQ (ai Sx J (Y 3 4 (itr (λkL:Int×(U (Int×Int))=>mkA 249 [(1,.ptr 0 0),(4,.mpr 1),(5,.mpr 2),(6,iI s3),(7,iI s4),(8,.ptr 3 0),(60,sL ao p0.Nodes),(61,iI ((p0.Nodes).length:Int)),(62,iI s4),(132,sL aj x8.In),(133,iI ((x8.In).length:Int)),(134,iI kL.1)]) (λkL=>[.box (aD p0),.mp (List.map kI (List.map Prod.fst s5)) (List.map kI (List.map Prod.snd s5)),.mp (List.map kI (List.map Prod.fst kL.2)) (List.map kI (List.map Prod.snd kL.2)),.box (ao x8)]) h (wk [] [0,1,2,3] 4 J) (λkL v_373 h zu=>?_)))));obtain⟨s34,s35⟩:=kL;replace h:g8 p0 s3 s4 s5 x8 s34 s35=some v_373:=h;try dsimp only
      unfold g8 at h;refine X 5 4 (Sv h J (λPd h=>?_) (λPd h=>?_))
      .refine B h λx37 oC h=>(X 5 4 (sQ (aB Sx (λ_=>J) J J oC (Y 4 4 (j1 [(1,.ptr 0 0),(4,.mpr 1),(5,.mpr 2),(6,iI s3),(7,iI s4),(8,.ptr 3 0),(16,iI x37),(60,sL ao p0.Nodes),(61,iI ((p0.Nodes).length:Int)),(62,iI s4),(132,sL aj x8.In),(133,iI ((x8.In).length:Int)),(134,iI s34),(145,.bool ((decide (x37<0))||decide (x37>=p0.Rings)))] [.box (aD p0),.mp (List.map kI (List.map Prod.fst s5)) (List.map kI (List.map Prod.snd s5)),.mp (List.map kI (List.map Prod.fst s35)) (List.map kI (List.map Prod.snd s35)),.box (ao x8)] ?_ (λhK=>?_))))))
       .refine Sv h J (λPe h=>?_) (λPe h=>?_)
        .refine X 5 4 ?_;replace h:=mi h zu;replace h:=mi h fR;cases h;exact tO [(0,3,1)] [4] 4
        refine X 6 4 (sO (Bq (ek:=kI) (ev:=kI) (xs:=s35) (k:=x37) (z0:=0) Vg (KeyT.int Vc) Ts (λ_ _ _=>.int _ _) J J J (Y 10 4 (Sv h J (λPf h=>?_) (λPf h=>?_)))))
        .refine X 5 4 ?_;replace h:=mi h zu;replace h:=mi h fR;cases h;exact tO [(0,3,1)] [4] 4
        exact X 5 4 (sO (tp (ek:=kI) (ev:=kI) (xs:=s35) (k:=x37) (a:=s4) (.inl J) Vg (KeyT.int Vc) J J J J J (Y 5 4 (lk h (wk [] [0,1,2,3] 4 J)))))
       refine X 5 4 (gp 140 (λzw=>?_) (λzw=>?_))
       .refine Yp 6 4 ?_;rw[zw]at hK;exact sx hK
       refine Yp 6 4 ?_;rw[zw]at hK;exact sx hK
      refine X 1 4 ?_;replace h:=mi h zu;refine X 5 4 (sQ (ai Sx J (Y 3 4 (itr (λkK:Int×(U (Int×Int))=>mkA 249 [(1,.ptr 0 0),(4,.mpr 1),(5,.mpr 2),(6,iI s3),(7,iI s4),(8,.ptr 3 0),(60,sL ao p0.Nodes),(61,iI ((p0.Nodes).length:Int)),(62,iI s4),(158,sL aj x8.Out),(159,iI ((x8.Out).length:Int)),(160,iI kK.1)]) (λkK=>[.box (aD p0),.mp (List.map kI (List.map Prod.fst kK.2)) (List.map kI (List.map Prod.snd kK.2)),.mp (List.map kI (List.map Prod.fst s35)) (List.map kI (List.map Prod.snd s35)),.box (ao x8)]) h (wk [] [0,1,2,3] 4 J) (λkK v_392 h zx=>?_)))));obtain⟨s39,s40⟩:=kK;replace h:jh p0 s3 s4 x8 s35 s39 s40=some v_392:=h;try dsimp only
      unfold jh at h;refine X 5 4 (Sv h J (λPg h=>?_) (λPg h=>?_))
      .refine B h λx42 jO h=>(X 5 4 (sQ (aB Sx (λ_=>J) J J jO (Y 4 4 (j1 [(1,.ptr 0 0),(4,.mpr 1),(5,.mpr 2),(6,iI s3),(7,iI s4),(8,.ptr 3 0),(20,iI x42),(60,sL ao p0.Nodes),(61,iI ((p0.Nodes).length:Int)),(62,iI s4),(158,sL aj x8.Out),(159,iI ((x8.Out).length:Int)),(160,iI s39),(171,.bool ((decide (x42<0))||decide (x42>=p0.Rings)))] [.box (aD p0),.mp (List.map kI (List.map Prod.fst s40)) (List.map kI (List.map Prod.snd s40)),.mp (List.map kI (List.map Prod.fst s35)) (List.map kI (List.map Prod.snd s35)),.box (ao x8)] ?_ (λhK=>?_))))))
       .refine Sv h J (λPh h=>?_) (λPh h=>?_)
        .refine X 5 4 ?_;replace h:=mi h zx;replace h:=mi h fR;cases h;exact tO [(0,3,1)] [4] 4
        refine X 6 4 (sO (Bq (ek:=kI) (ev:=kI) (xs:=s40) (k:=x42) (z0:=0) Vg (KeyT.int Vc) Ts (λ_ _ _=>.int _ _) J J J (Y 10 4 (Sv h J (λPi h=>?_) (λPi h=>?_)))))
        .refine X 5 4 ?_;replace h:=mi h zx;replace h:=mi h fR;cases h;exact tO [(0,3,1)] [4] 4
        exact X 5 4 (sO (tp (ek:=kI) (ev:=kI) (xs:=s40) (k:=x42) (a:=s4) (.inl J) Vg (KeyT.int Vc) J J J J J (Y 5 4 (lk h (wk [] [0,1,2,3] 4 J)))))
       refine X 5 4 (gp 166 (λzy=>?_) (λzy=>?_))
       .refine Yp 6 4 ?_;rw[zy]at hK;exact sx hK
       refine Yp 6 4 ?_;rw[zy]at hK;exact sx hK
      refine X 1 4 ?_;replace h:=mi h zx;refine X 6 4 (Sv h J (λPj h=>?_) (λPj h=>?_))
      .exact X 9 4 (lk h (wk [] [0,1,2] 4 J))
      exact X 5 4 (lk h (wk [] [0,1,2] 4 J))
     refine X 6 5 (gp 125 (λzA=>?_) (λzA=>?_))
     .refine Yp 6 5 ?_;rw[zA]at hK;exact wu hK [] [0,1,2,3] 5 J
     refine Yp 6 5 ?_;rw[zA]at hK;exact wu hK [] [0,1,2,3] 5 J
    refine X 2 4 (sO (pT J J (Y 3 5 (sO (fg (ek:=kI) (ks:=[]) (vs:=[]) (k:=1) (a:=.agg [.func 86 [],.func 84 []]) (o2:=.mp (List.map kI [1]) [.agg [.func 86 [],.func 84 []]]) (.inr J) Ve (KeyT.int Vc) J J J J J J (Y 3 5 (sO (fg (ek:=kI) (ks:=[1]) (vs:=[.agg [.func 86 [],.func 84 []]]) (k:=2) (a:=.agg [.func 84 [],.func 84 []]) (o2:=.mp (List.map kI [1,2]) [.agg [.func 86 [],.func 84 []],.agg [.func 84 [],.func 84 []]]) (.inr J) Ve (KeyT.int Vc) J J J J J J (Y 3 5 (sO (fg (ek:=kI) (ks:=[1,2]) (vs:=[.agg [.func 86 [],.func 84 []],.agg [.func 84 [],.func 84 []]]) (k:=3) (a:=.agg [.func 84 [],.func 84 []]) (o2:=.mp (List.map kI [1,2,3]) [.agg [.func 86 [],.func 84 []],.agg [.func 84 [],.func 84 []],.agg [.func 84 [],.func 84 []]]) (.inr J) Ve (KeyT.int Vc) J J J J J J (Y 3 5 (sO (fg (ek:=kI) (ks:=[1,2,3]) (vs:=[.agg [.func 86 [],.func 84 []],.agg [.func 84 [],.func 84 []],.agg [.func 84 [],.func 84 []]]) (k:=4) (a:=.agg [.func 84 [],.func 84 []]) (o2:=.mp (List.map kI [1,2,3,4]) [.agg [.func 86 [],.func 84 []],.agg [.func 84 [],.func 84 []],.agg [.func 84 [],.func 84 []],.agg [.func 84 [],.func 84 []]]) (.inr J) Ve (KeyT.int Vc) J J J J J J ?_))))))))))))));refine Y 3 5 (sO (fg (ek:=kI) (ks:=[1,2,3,4]) (vs:=[.agg [.func 86 [],.func 84 []],.agg [.func 84 [],.func 84 []],.agg [.func 84 [],.func 84 []],.agg [.func 84 [],.func 84 []]]) (k:=5) (a:=.agg [.func 84 [],.func 85 []]) (o2:=.mp (List.map kI [1,2,3,4,5]) [.agg [.func 86 [],.func 84 []],.agg [.func 84 [],.func 84 []],.agg [.func 84 [],.func 84 []],.agg [.func 84 [],.func 84 []],.agg [.func 84 [],.func 85 []]]) (.inr J) Ve (KeyT.int Vc) J J J J J J (Y 3 5 (sO (fg (ek:=kI) (ks:=[1,2,3,4,5]) (vs:=[.agg [.func 86 [],.func 84 []],.agg [.func 84 [],.func 84 []],.agg [.func 84 [],.func 84 []],.agg [.func 84 [],.func 84 []],.agg [.func 84 [],.func 85 []]]) (k:=7) (a:=.agg [.func 84 [],.func 85 []]) (o2:=.mp (List.map kI [1,2,3,4,5,7]) [.agg [.func 86 [],.func 84 []],.agg [.func 84 [],.func 84 []],.agg [.func 84 [],.func 84 []],.agg [.func 84 [],.func 84 []],.agg [.func 84 [],.func 85 []],.agg [.func 84 [],.func 85 []]]) (.inr J) Ve (KeyT.int Vc) J J J J J J (Y 3 5 (sO (fg (ek:=kI) (ks:=[1,2,3,4,5,7]) (vs:=[.agg [.func 86 [],.func 84 []],.agg [.func 84 [],.func 84 []],.agg [.func 84 [],.func 84 []],.agg [.func 84 [],.func 84 []],.agg [.func 84 [],.func 85 []],.agg [.func 84 [],.func 85 []]]) (k:=6) (a:=.agg [.func 85 [],.func 84 []]) (o2:=.mp (List.map kI [1,2,3,4,5,7,6]) [.agg [.func 86 [],.func 84 []],.agg [.func 84 [],.func 84 []],.agg [.func 84 [],.func 84 []],.agg [.func 84 [],.func 84 []],.agg [.func 84 [],.func 85 []],.agg [.func 84 [],.func 85 []],.agg [.func 85 [],.func 84 []]]) (.inr J) Ve (KeyT.int Vc) J J J J J J (Y 3 5 (sO (fg (ek:=kI) (ks:=[1,2,3,4,5,7,6]) (vs:=[.agg [.func 86 [],.func 84 []],.agg [.func 84 [],.func 84 []],.agg [.func 84 [],.func 84 []],.agg [.func 84 [],.func 84 []],.agg [.func 84 [],.func 85 []],.agg [.func 84 [],.func 85 []],.agg [.func 85 [],.func 84 []]]) (k:=8) (a:=.agg [.func 84 [],.func 86 []]) (o2:=.mp (List.map kI [1,2,3,4,5,7,6,8]) [.agg [.func 86 [],.func 84 []],.agg [.func 84 [],.func 84 []],.agg [.func 84 [],.func 84 []],.agg [.func 84 [],.func 84 []],.agg [.func 84 [],.func 85 []],.agg [.func 84 [],.func 85 []],.agg [.func 85 [],.func 84 []],.agg [.func 84 [],.func 86 []]]) (.inr J) Ve (KeyT.int Vc) J J J J J J (Y 3 5 ?_))))))))))));rcases bf (x8.Kind==1)with ig|ig
    .replace h:=bH h ig;refine sO (j9 (ek:=kI) (ks:=[1,2,3,4,5,7,6,8]) (vs:=[.agg [.func 86 [],.func 84 []],.agg [.func 84 [],.func 84 []],.agg [.func 84 [],.func 84 []],.agg [.func 84 [],.func 84 []],.agg [.func 84 [],.func 85 []],.agg [.func 84 [],.func 85 []],.agg [.func 85 [],.func 84 []],.agg [.func 84 [],.func 86 []]]) (k:=x8.Kind) (az:=.agg [.nilf,.nilf]) (a:=.agg [.func 86 [],.func 84 []]) (r:=(some 0)) Ve (KeyT.int Vc) S2 (λ_ _ _=>ky (vs:=[.nilFunc,.nilFunc]) (.cons (.nilf) (.cons (.nilf) (.nil))) J) J J J (fO (eq_of_beq ig)) J (B h λx9 hx9 h=>(Y 16 5 ?_)));obtain⟨Pk,hz,h⟩:=bind_some h;revert hz h;revert Pk;intro c11 hz h;refine j1 [(1,.ptr 0 0),(4,.mpr 1),(5,.mpr 2),(6,iI s3),(7,iI s4),(8,.ptr 3 0),(60,sL ao p0.Nodes),(61,iI ((p0.Nodes).length:Int)),(62,iI s4),(116,.bool c11)] [.box (aD p0),.mp (List.map kI (List.map Prod.fst s5)) (List.map kI (List.map Prod.snd s5)),.mp (List.map kI (List.map Prod.fst s6)) (List.map kI (List.map Prod.snd s6)),.box (ao x8)] ?_ (λhK=>?_)
     .refine Sv h J (λPl h=>?_) (λPl h=>?_)
      .refine X 5 4 ?_;replace h:=mi h fR;cases h;exact tO [(0,3,1)] [4] 4
      exact X 1 4 (sx (hK3 () h))
     refine X 6 6 (sQ (ai Sx J (sO (cF (Az hx9) ⟨J,(Y 2 6 (gi 108 hz (λPm hz=>?_) (λPm hz=>?_)))⟩))))
     .refine Yp 9 6 ?_;cases hz;exact wu hK [] [0,1,2,3] 6 J
     refine B hz λx10 ba hz=>(Y 4 6 (yQ J (ai Sx J (yO J (cF (iu ba) ⟨J,(Yp 3 6 ?_)⟩)))))
     cases hz;exact wu hK [] [0,1,2,3] 6 J
    replace h:=bG h ig;rcases bf (x8.Kind==2)with iQ|iQ
    .replace h:=bH h iQ;refine sO (j9 (ek:=kI) (ks:=[1,2,3,4,5,7,6,8]) (vs:=[.agg [.func 86 [],.func 84 []],.agg [.func 84 [],.func 84 []],.agg [.func 84 [],.func 84 []],.agg [.func 84 [],.func 84 []],.agg [.func 84 [],.func 85 []],.agg [.func 84 [],.func 85 []],.agg [.func 85 [],.func 84 []],.agg [.func 84 [],.func 86 []]]) (k:=x8.Kind) (az:=.agg [.nilf,.nilf]) (a:=.agg [.func 84 [],.func 84 []]) (r:=(some 1)) Ve (KeyT.int Vc) S2 (λ_ _ _=>ky (vs:=[.nilFunc,.nilFunc]) (.cons (.nilf) (.cons (.nilf) (.nil))) J) J J J (bh (ne_of_beq_false ig) (fO (eq_of_beq iQ))) J (B h λx12 bB h=>(Y 16 5 ?_)));obtain⟨Pn,hz,h⟩:=bind_some h;revert hz h;revert Pn;intro c14 hz h;refine j1 [(1,.ptr 0 0),(4,.mpr 1),(5,.mpr 2),(6,iI s3),(7,iI s4),(8,.ptr 3 0),(60,sL ao p0.Nodes),(61,iI ((p0.Nodes).length:Int)),(62,iI s4),(116,.bool c14)] [.box (aD p0),.mp (List.map kI (List.map Prod.fst s5)) (List.map kI (List.map Prod.snd s5)),.mp (List.map kI (List.map Prod.fst s6)) (List.map kI (List.map Prod.snd s6)),.box (ao x8)] ?_ (λhK=>?_)
     .refine Sv h J (λPo h=>?_) (λPo h=>?_)
      .refine X 5 4 ?_;replace h:=mi h fR;cases h;exact tO [(0,3,1)] [4] 4
      exact X 1 4 (sx (hK3 () h))
     refine X 6 6 (sQ (ai Sx J (sO (cF (iu bB) ⟨J,(Y 2 6 (gi 108 hz (λPp hz=>?_) (λPp hz=>?_)))⟩))))
     .refine Yp 9 6 ?_;cases hz;exact wu hK [] [0,1,2,3] 6 J
     refine B hz λx13 dJ hz=>(Y 4 6 (yQ J (ai Sx J (yO J (cF (iu dJ) ⟨J,(Yp 3 6 ?_)⟩)))))
     cases hz;exact wu hK [] [0,1,2,3] 6 J
    replace h:=bG h iQ;rcases bf (x8.Kind==3)with jG|jG
    .replace h:=bH h jG;refine sO (j9 (ek:=kI) (ks:=[1,2,3,4,5,7,6,8]) (vs:=[.agg [.func 86 [],.func 84 []],.agg [.func 84 [],.func 84 []],.agg [.func 84 [],.func 84 []],.agg [.func 84 [],.func 84 []],.agg [.func 84 [],.func 85 []],.agg [.func 84 [],.func 85 []],.agg [.func 85 [],.func 84 []],.agg [.func 84 [],.func 86 []]]) (k:=x8.Kind) (az:=.agg [.nilf,.nilf]) (a:=.agg [.func 84 [],.func 84 []]) (r:=(some 2)) Ve (KeyT.int Vc) S2 (λ_ _ _=>ky (vs:=[.nilFunc,.nilFunc]) (.cons (.nilf) (.cons (.nilf) (.nil))) J) J J J (bh (ne_of_beq_false ig) (bh (ne_of_beq_false iQ) (fO (eq_of_beq jG)))) J (B h λx15 cU h=>(Y 16 5 ?_)));obtain⟨Pq,hz,h⟩:=bind_some h;revert hz h;revert Pq;intro c17 hz h;refine j1 [(1,.ptr 0 0),(4,.mpr 1),(5,.mpr 2),(6,iI s3),(7,iI s4),(8,.ptr 3 0),(60,sL ao p0.Nodes),(61,iI ((p0.Nodes).length:Int)),(62,iI s4),(116,.bool c17)] [.box (aD p0),.mp (List.map kI (List.map Prod.fst s5)) (List.map kI (List.map Prod.snd s5)),.mp (List.map kI (List.map Prod.fst s6)) (List.map kI (List.map Prod.snd s6)),.box (ao x8)] ?_ (λhK=>?_)
     .refine Sv h J (λPr h=>?_) (λPr h=>?_)
      .refine X 5 4 ?_;replace h:=mi h fR;cases h;exact tO [(0,3,1)] [4] 4
      exact X 1 4 (sx (hK3 () h))
     refine X 6 6 (sQ (ai Sx J (sO (cF (iu cU) ⟨J,(Y 2 6 (gi 108 hz (λPs hz=>?_) (λPs hz=>?_)))⟩))))
     .refine Yp 9 6 ?_;cases hz;exact wu hK [] [0,1,2,3] 6 J
     refine B hz λx16 d7 hz=>(Y 4 6 (yQ J (ai Sx J (yO J (cF (iu d7) ⟨J,(Yp 3 6 ?_)⟩)))))
     cases hz;exact wu hK [] [0,1,2,3] 6 J
    replace h:=bG h jG;rcases bf (x8.Kind==4)with kR|kR
    .replace h:=bH h kR;refine sO (j9 (ek:=kI) (ks:=[1,2,3,4,5,7,6,8]) (vs:=[.agg [.func 86 [],.func 84 []],.agg [.func 84 [],.func 84 []],.agg [.func 84 [],.func 84 []],.agg [.func 84 [],.func 84 []],.agg [.func 84 [],.func 85 []],.agg [.func 84 [],.func 85 []],.agg [.func 85 [],.func 84 []],.agg [.func 84 [],.func 86 []]]) (k:=x8.Kind) (az:=.agg [.nilf,.nilf]) (a:=.agg [.func 84 [],.func 84 []]) (r:=(some 3)) Ve (KeyT.int Vc) S2 (λ_ _ _=>ky (vs:=[.nilFunc,.nilFunc]) (.cons (.nilf) (.cons (.nilf) (.nil))) J) J J J (bh (ne_of_beq_false ig) (bh (ne_of_beq_false iQ) (bh (ne_of_beq_false jG) (fO (eq_of_beq kR))))) J (B h λx18 b7 h=>(Y 16 5 ?_)));obtain⟨Pt,hz,h⟩:=bind_some h;revert hz h;revert Pt;intro c20 hz h;refine j1 [(1,.ptr 0 0),(4,.mpr 1),(5,.mpr 2),(6,iI s3),(7,iI s4),(8,.ptr 3 0),(60,sL ao p0.Nodes),(61,iI ((p0.Nodes).length:Int)),(62,iI s4),(116,.bool c20)] [.box (aD p0),.mp (List.map kI (List.map Prod.fst s5)) (List.map kI (List.map Prod.snd s5)),.mp (List.map kI (List.map Prod.fst s6)) (List.map kI (List.map Prod.snd s6)),.box (ao x8)] ?_ (λhK=>?_)
     .refine Sv h J (λPu h=>?_) (λPu h=>?_)
      .refine X 5 4 ?_;replace h:=mi h fR;cases h;exact tO [(0,3,1)] [4] 4
      exact X 1 4 (sx (hK3 () h))
     refine X 6 6 (sQ (ai Sx J (sO (cF (iu b7) ⟨J,(Y 2 6 (gi 108 hz (λPv hz=>?_) (λPv hz=>?_)))⟩))))
     .refine Yp 9 6 ?_;cases hz;exact wu hK [] [0,1,2,3] 6 J
     refine B hz λx19 cM hz=>(Y 4 6 (yQ J (ai Sx J (yO J (cF (iu cM) ⟨J,(Yp 3 6 ?_)⟩)))))
     cases hz;exact wu hK [] [0,1,2,3] 6 J
    replace h:=bG h kR;rcases bf (x8.Kind==5)with mf|mf
    .replace h:=bH h mf;refine sO (j9 (ek:=kI) (ks:=[1,2,3,4,5,7,6,8]) (vs:=[.agg [.func 86 [],.func 84 []],.agg [.func 84 [],.func 84 []],.agg [.func 84 [],.func 84 []],.agg [.func 84 [],.func 84 []],.agg [.func 84 [],.func 85 []],.agg [.func 84 [],.func 85 []],.agg [.func 85 [],.func 84 []],.agg [.func 84 [],.func 86 []]]) (k:=x8.Kind) (az:=.agg [.nilf,.nilf]) (a:=.agg [.func 84 [],.func 85 []]) (r:=(some 4)) Ve (KeyT.int Vc) S2 (λ_ _ _=>ky (vs:=[.nilFunc,.nilFunc]) (.cons (.nilf) (.cons (.nilf) (.nil))) J) J J J (bh (ne_of_beq_false ig) (bh (ne_of_beq_false iQ) (bh (ne_of_beq_false jG) (bh (ne_of_beq_false kR) (fO (eq_of_beq mf)))))) J (B h λx21 je h=>(Y 16 5 ?_)));obtain⟨Pw,hz,h⟩:=bind_some h;revert hz h;revert Pw;intro c23 hz h;refine j1 [(1,.ptr 0 0),(4,.mpr 1),(5,.mpr 2),(6,iI s3),(7,iI s4),(8,.ptr 3 0),(60,sL ao p0.Nodes),(61,iI ((p0.Nodes).length:Int)),(62,iI s4),(116,.bool c23)] [.box (aD p0),.mp (List.map kI (List.map Prod.fst s5)) (List.map kI (List.map Prod.snd s5)),.mp (List.map kI (List.map Prod.fst s6)) (List.map kI (List.map Prod.snd s6)),.box (ao x8)] ?_ (λhK=>?_)
     .refine Sv h J (λPx h=>?_) (λPx h=>?_)
      .refine X 5 4 ?_;replace h:=mi h fR;cases h;exact tO [(0,3,1)] [4] 4
      exact X 1 4 (sx (hK3 () h))
     refine X 6 6 (sQ (ai Sx J (sO (cF (iu je) ⟨J,(Y 2 6 (gi 108 hz (λPy hz=>?_) (λPy hz=>?_)))⟩))))
     .refine Yp 9 6 ?_;cases hz;exact wu hK [] [0,1,2,3] 6 J
     refine B hz λx22 eS hz=>(Y 4 6 (yQ J (ai Sx J (yO J (cF (xc eS) ⟨J,(Yp 3 6 ?_)⟩)))))
     cases hz;exact wu hK [] [0,1,2,3] 6 J
    replace h:=bG h mf;rcases bf (x8.Kind==7)with oq|oq
    .replace h:=bH h oq;refine sO (j9 (ek:=kI) (ks:=[1,2,3,4,5,7,6,8]) (vs:=[.agg [.func 86 [],.func 84 []],.agg [.func 84 [],.func 84 []],.agg [.func 84 [],.func 84 []],.agg [.func 84 [],.func 84 []],.agg [.func 84 [],.func 85 []],.agg [.func 84 [],.func 85 []],.agg [.func 85 [],.func 84 []],.agg [.func 84 [],.func 86 []]]) (k:=x8.Kind) (az:=.agg [.nilf,.nilf]) (a:=.agg [.func 84 [],.func 85 []]) (r:=(some 5)) Ve (KeyT.int Vc) S2 (λ_ _ _=>ky (vs:=[.nilFunc,.nilFunc]) (.cons (.nilf) (.cons (.nilf) (.nil))) J) J J J (bh (ne_of_beq_false ig) (bh (ne_of_beq_false iQ) (bh (ne_of_beq_false jG) (bh (ne_of_beq_false kR) (bh (ne_of_beq_false mf) (fO (eq_of_beq oq))))))) J (B h λx24 aS h=>(Y 16 5 ?_)));obtain⟨Pz,hz,h⟩:=bind_some h;revert hz h;revert Pz;intro c26 hz h;refine j1 [(1,.ptr 0 0),(4,.mpr 1),(5,.mpr 2),(6,iI s3),(7,iI s4),(8,.ptr 3 0),(60,sL ao p0.Nodes),(61,iI ((p0.Nodes).length:Int)),(62,iI s4),(116,.bool c26)] [.box (aD p0),.mp (List.map kI (List.map Prod.fst s5)) (List.map kI (List.map Prod.snd s5)),.mp (List.map kI (List.map Prod.fst s6)) (List.map kI (List.map Prod.snd s6)),.box (ao x8)] ?_ (λhK=>?_)
     .refine Sv h J (λPA h=>?_) (λPA h=>?_)
      .refine X 5 4 ?_;replace h:=mi h fR;cases h;exact tO [(0,3,1)] [4] 4
      exact X 1 4 (sx (hK3 () h))
     refine X 6 6 (sQ (ai Sx J (sO (cF (iu aS) ⟨J,(Y 2 6 (gi 108 hz (λPC hz=>?_) (λPC hz=>?_)))⟩))))
     .refine Yp 9 6 ?_;cases hz;exact wu hK [] [0,1,2,3] 6 J
     refine B hz λx25 eJ hz=>(Y 4 6 (yQ J (ai Sx J (yO J (cF (xc eJ) ⟨J,(Yp 3 6 ?_)⟩)))))
     cases hz;exact wu hK [] [0,1,2,3] 6 J
    replace h:=bG h oq;rcases bf (x8.Kind==6)with qA|qA
    .replace h:=bH h qA;refine sO (j9 (ek:=kI) (ks:=[1,2,3,4,5,7,6,8]) (vs:=[.agg [.func 86 [],.func 84 []],.agg [.func 84 [],.func 84 []],.agg [.func 84 [],.func 84 []],.agg [.func 84 [],.func 84 []],.agg [.func 84 [],.func 85 []],.agg [.func 84 [],.func 85 []],.agg [.func 85 [],.func 84 []],.agg [.func 84 [],.func 86 []]]) (k:=x8.Kind) (az:=.agg [.nilf,.nilf]) (a:=.agg [.func 85 [],.func 84 []]) (r:=(some 6)) Ve (KeyT.int Vc) S2 (λ_ _ _=>ky (vs:=[.nilFunc,.nilFunc]) (.cons (.nilf) (.cons (.nilf) (.nil))) J) J J J (bh (ne_of_beq_false ig) (bh (ne_of_beq_false iQ) (bh (ne_of_beq_false jG) (bh (ne_of_beq_false kR) (bh (ne_of_beq_false mf) (bh (ne_of_beq_false oq) (fO (eq_of_beq qA)))))))) J (B h λx27 uF h=>(Y 16 5 ?_)));obtain⟨PD,hz,h⟩:=bind_some h;revert hz h;revert PD;intro c29 hz h;refine j1 [(1,.ptr 0 0),(4,.mpr 1),(5,.mpr 2),(6,iI s3),(7,iI s4),(8,.ptr 3 0),(60,sL ao p0.Nodes),(61,iI ((p0.Nodes).length:Int)),(62,iI s4),(116,.bool c29)] [.box (aD p0),.mp (List.map kI (List.map Prod.fst s5)) (List.map kI (List.map Prod.snd s5)),.mp (List.map kI (List.map Prod.fst s6)) (List.map kI (List.map Prod.snd s6)),.box (ao x8)] ?_ (λhK=>?_)
     .refine Sv h J (λPE h=>?_) (λPE h=>?_)
      .refine X 5 4 ?_;replace h:=mi h fR;cases h;exact tO [(0,3,1)] [4] 4
      exact X 1 4 (sx (hK3 () h))
     refine X 6 6 (sQ (ai Sx J (sO (cF (xc uF) ⟨J,(Y 2 6 (gi 108 hz (λPF hz=>?_) (λPF hz=>?_)))⟩))))
     .refine Yp 9 6 ?_;cases hz;exact wu hK [] [0,1,2,3] 6 J
     refine B hz λx28 k0 hz=>(Y 4 6 (yQ J (ai Sx J (yO J (cF (iu k0) ⟨J,(Yp 3 6 ?_)⟩)))))
     cases hz;exact wu hK [] [0,1,2,3] 6 J
    replace h:=bG h qA;rcases bf (x8.Kind==8)with tT|tT
    .replace h:=bH h tT;refine sO (j9 (ek:=kI) (ks:=[1,2,3,4,5,7,6,8]) (vs:=[.agg [.func 86 [],.func 84 []],.agg [.func 84 [],.func 84 []],.agg [.func 84 [],.func 84 []],.agg [.func 84 [],.func 84 []],.agg [.func 84 [],.func 85 []],.agg [.func 84 [],.func 85 []],.agg [.func 85 [],.func 84 []],.agg [.func 84 [],.func 86 []]]) (k:=x8.Kind) (az:=.agg [.nilf,.nilf]) (a:=.agg [.func 84 [],.func 86 []]) (r:=(some 7)) Ve (KeyT.int Vc) S2 (λ_ _ _=>ky (vs:=[.nilFunc,.nilFunc]) (.cons (.nilf) (.cons (.nilf) (.nil))) J) J J J (bh (ne_of_beq_false ig) (bh (ne_of_beq_false iQ) (bh (ne_of_beq_false jG) (bh (ne_of_beq_false kR) (bh (ne_of_beq_false mf) (bh (ne_of_beq_false oq) (bh (ne_of_beq_false qA) (fO (eq_of_beq tT))))))))) J (B h λx30 f8 h=>(Y 16 5 ?_)));obtain⟨PG,hz,h⟩:=bind_some h;revert hz h;revert PG;intro c32 hz h;refine j1 [(1,.ptr 0 0),(4,.mpr 1),(5,.mpr 2),(6,iI s3),(7,iI s4),(8,.ptr 3 0),(60,sL ao p0.Nodes),(61,iI ((p0.Nodes).length:Int)),(62,iI s4),(116,.bool c32)] [.box (aD p0),.mp (List.map kI (List.map Prod.fst s5)) (List.map kI (List.map Prod.snd s5)),.mp (List.map kI (List.map Prod.fst s6)) (List.map kI (List.map Prod.snd s6)),.box (ao x8)] ?_ (λhK=>?_)
     .refine Sv h J (λPH h=>?_) (λPH h=>?_)
      .refine X 5 4 ?_;replace h:=mi h fR;cases h;exact tO [(0,3,1)] [4] 4
      exact X 1 4 (sx (hK3 () h))
     refine X 6 6 (sQ (ai Sx J (sO (cF (iu f8) ⟨J,(Y 2 6 (gi 108 hz (λPI hz=>?_) (λPI hz=>?_)))⟩))))
     .refine Yp 9 6 ?_;cases hz;exact wu hK [] [0,1,2,3] 6 J
     refine B hz λx31 jd hz=>(Y 4 6 (yQ J (ai Sx J (yO J (cF (Az jd) ⟨J,(Yp 3 6 ?_)⟩)))))
     cases hz;exact wu hK [] [0,1,2,3] 6 J
    replace h:=bG h tT;refine sO (j9 (ek:=kI) (ks:=[1,2,3,4,5,7,6,8]) (vs:=[.agg [.func 86 [],.func 84 []],.agg [.func 84 [],.func 84 []],.agg [.func 84 [],.func 84 []],.agg [.func 84 [],.func 84 []],.agg [.func 84 [],.func 85 []],.agg [.func 84 [],.func 85 []],.agg [.func 85 [],.func 84 []],.agg [.func 84 [],.func 86 []]]) (k:=x8.Kind) (az:=.agg [.nilf,.nilf]) (a:=.agg [.nilf,.nilf]) (r:=none) Ve (KeyT.int Vc) S2 (λ_ _ _=>ky (vs:=[.nilFunc,.nilFunc]) (.cons (.nilf) (.cons (.nilf) (.nil))) J) J J J (bh (ne_of_beq_false ig) (bh (ne_of_beq_false iQ) (bh (ne_of_beq_false jG) (bh (ne_of_beq_false kR) (bh (ne_of_beq_false mf) (bh (ne_of_beq_false oq) (bh (ne_of_beq_false qA) (bh (ne_of_beq_false tT) E3)))))))) J (Y 19 5 ?_));replace h:=mi h fR;cases h;exact tO [(0,3,1)] [6] 6
   refine X 1 3 ?_;replace h:=mi h fR;refine X 1 3 (j1 [(1,.ptr 0 0),(4,.mpr 1),(6,iI s3),(200,.bool ((((s5).length:Int)!=p0.Rings)||((s6).length:Int)!=p0.Rings))] [.box (aD p0),.mp (List.map kI (List.map Prod.fst s5)) (List.map kI (List.map Prod.snd s5))] ?_ (λhK=>?_))
   .refine Sv h J (λPJ h=>?_) (λPJ h=>?_)
    .refine X 5 2 ?_;cases h;exact tO [(0,3,1)] [2] 2
    refine X 7 2 (Sv h J (λPK h=>?_) (λPK h=>?_))
    .refine X 5 2 ?_;cases h;exact tO [(0,3,1)] [2] 2
    refine X 10 2 (sQ (ai Sw J (Y 3 2 (itr (λmc:Int×(U Int)=>mkA 249 [(1,.ptr 0 0),(4,.mpr 1),(23,.ref 2),(205,iI ((p0.Nodes).length:Int)),(206,iI mc.1)]) (λmc=>[.box (aD p0),.mp (List.map kI (List.map Prod.fst s5)) (List.map kI (List.map Prod.snd s5)),aR 3 1 aj mc.2]) h (wk [(23,3,1)] [0,1,2] 2 J) (λmc v_533 h Gc=>?_)))));obtain⟨s45,s46⟩:=mc;replace h:j6 p0 s5 s45 s46=some v_533:=h;try dsimp only
    unfold j6 at h;refine X 5 3 (Sv h J (λPL h=>?_) (λPL h=>?_))
    .refine X 12 3 (sQ (ai Sw J (Y 4 3 (itr (λma:Int×Int=>mkA 249 [(1,.ptr 0 0),(4,.mpr 1),(23,.ref 2),(24,iI ma.1),(25,iI ma.2),(205,iI ((p0.Nodes).length:Int)),(206,iI s45)]) (λma=>[.box (aD p0),.mp (List.map kI (List.map Prod.fst s5)) (List.map kI (List.map Prod.snd s5)),aR 3 1 aj s46]) h (wk [] [0,1,2] 3 J) (λma v_558 h PM=>?_)))));obtain⟨s47,s48⟩:=ma;replace h:lh p0 s5 s45 s46 s47 s48=some v_558:=h;try dsimp only
     unfold lh at h;refine X 6 3 (Sv h J (λPN h=>?_) (λPN h=>?_))
     .refine B h λx50 Qu h=>(X 8 3 (sO (cF (Ay Qu) ⟨J,(Y 1 3 (Sv h J (λPO h=>?_) (λPO h=>?_)))⟩)))
      .exact X 6 3 (lk h (wk [] [0,1,2] 3 J))
      refine B h λx52 Ao h=>(X 11 3 (sQ (aB Sw (λ_=>J) J J Ao (Y 2 3 (sQ (ai Sx J (Y 3 3 (itr (λl9:Bool×Int=>mkA 249 [(1,.ptr 0 0),(4,.mpr 1),(23,.ref 2),(24,iI s47),(25,iI s48),(26,.bool l9.1),(205,iI ((p0.Nodes).length:Int)),(206,iI s45),(224,sL aj x52.In),(225,iI ((x52.In).length:Int)),(226,iI l9.2)]) (λl9=>[.box (aD p0),.mp (List.map kI (List.map Prod.fst s5)) (List.map kI (List.map Prod.snd s5)),aR 3 1 aj s46]) h (wk [] [0,1,2] 3 J) (λl9 v_565 h PQ=>?_)))))))))
      obtain⟨s53,s54⟩:=l9;replace h:lm s5 s46 s47 s48 x52 s53 s54=some v_565:=h;try dsimp only
      unfold lm at h;refine X 5 3 (Sv h J (λPR h=>?_) (λPR h=>?_))
      .refine B h λx56 jf h=>(X 5 3 (sQ (aB Sx (λ_=>J) J J jf (Y 6 3 (gi 231 h (λPS h=>?_) (λPS h=>?_))))))
       .exact B h λx57 xa h=>(Y 3 3 (yO J (we (ek:=kI) (ev:=kI) (xs:=s5) (k:=x56) (z0:=0) Vg (KeyT.int Vc) Ts (λ_ _ _=>.int _ _) J J J (yO J (cF (Ay xa) ⟨J,(Yp 7 3 (lk h (wk [] [0,1,2] 3 J)))⟩)))))
       exact Yp 12 3 (lk h (wk [] [0,1,2] 3 J))
      refine X 1 3 ?_;replace h:=mi h PQ;refine X 4 3 (Sv h J (λPT h=>?_) (λPT h=>?_))
      .exact X 9 3 (lk h (wk [] [0,1,2] 3 J))
      exact X 6 3 (lk h (wk [] [0,1,2] 3 J))
     refine X 1 3 ?_;replace h:=mi h PM;refine X 6 3 (Sv h J (λPU h=>?_) (λPU h=>?_))
     .refine X 5 3 ?_;replace h:=mi h Gc;cases h;exact tO [(0,3,1)] [3] 3
     exact B h λx58 q5 h=>(X 4 3 (sO (be (rows:=List.map aj [s47]) (vs:=[iI s47]) Sx SP J J J J J J (sO (bQ (en:=aj) (xs:=s46) (ys:=([s47]:U Int)) Sx (λ_=>J) J J J q5 J J (Y 6 5 (lk h (wk [] [0,1,4] 5 J))))))))
    refine X 1 3 ?_;replace h:=mi h Gc;refine X 6 3 ?_;cases h;exact tO [] [2] 3
   refine X 3 3 (sO (Dc (ek:=kI) (ev:=kI) (xs:=s5) Vg J J (Y 4 3 (gp 194 (λzB=>?_) (λzB=>?_)))))
   .refine Yp 7 3 ?_;rw[zB]at hK;exact wu hK [] [0,1] 3 J
   refine Y 1 3 (yO J (Dc (ek:=kI) (ev:=kI) (xs:=s6) Vg J J (Yp 5 3 ?_)));rw[zB]at hK;exact wu hK [] [0,1] 3 J
  refine X 6 1 (gp 52 (λaI=>?_) (λaI=>?_))
  .refine Yp 5 1 ?_;rw[aI]at hK;exact sx hK
  refine Yp 5 1 ?_;rw[aI]at hK;exact sx hK
 refine X 4 1 (sQ (ai Sw J (Y 2 1 (gp 33 (λae=>?_) (λae=>?_)))))
 .refine Yp 16 1 ?_;rw[ae]at hK;exact sx hK
 refine Y 2 1 (yQ J (ai Sw J (Yp 3 1 (gp 39 (λab=>?_) (λab=>?_)))))
 .refine Yp 10 1 ?_;rw[ae]at hK;rw[ab]at hK;exact sx hK
 refine Yp 5 1 (gp 44 (λap=>?_) (λap=>?_))
 .refine Yp 5 1 ?_;rw[ae]at hK;rw[ab]at hK;rw[ap]at hK;exact sx hK
 refine Yp 5 1 ?_;rw[ae]at hK;rw[ab]at hK;rw[ap]at hK;exact sx hK
theorem Hb {p0:Net}{p1:U (U Item)}{r:Int}(h:rx p0 p1=some r):Fn Qbl 16 [.agg (aD p0),sL (ak aa) p1] (iI r):=by
 unfold rx at h;refine fT 0 0 Tryz.func16 Tryz.ntmps16 J ?_;refine B h λx2 hx2 h=>(X 9 0 (sO (cO 1 (AG hx2) ⟨J,(Y 11 2 (Sv h J (λae h=>?_) (λae h=>?_)))⟩)))
 .refine X 5 2 ?_;cases h;exact tD
 refine X 5 2 (sQ (ai SA J (Y 2 2 (Sv h J (λab h=>?_) (λab h=>?_)))))
 .refine X 4 2 ?_;cases h;exact tD
 refine X 5 2 (sQ (ai SA J (Y 3 2 (itr (λcr:Int=>mkA 72 [(1,sL (ak aa) p1),(2,.ptr 0 0),(25,sL (ak aa) p1),(26,iI ((p1).length:Int)),(27,iI cr)]) (λcr=>[.box (aD p0)]) h (wk [] [0] 2 J) (λcr v_28 h fZ=>?_)))));revert fZ h;revert cr;intro s3 h fZ;replace h:oS p0 p1 s3=some v_28:=h;try dsimp only
 unfold oS at h;refine X 5 1 (Sv h J (λiZ h=>?_) (λiZ h=>?_))
 .refine B h λx5 hx5 h=>(X 5 1 (sQ (aB SA (λ_=>J) J J hx5 (Y 7 1 (sQ (ai Sy J (Y 2 1 (Sv h J (λi6 h=>?_) (λi6 h=>?_)))))))))
  .refine X 4 1 ?_;replace h:=mi h fZ;cases h;exact tD
  refine X 4 1 (sQ (ai Sy J (Y 3 1 (itr (λbl:Int=>mkA 72 [(1,sL (ak aa) p1),(2,.ptr 0 0),(25,sL (ak aa) p1),(26,iI ((p1).length:Int)),(27,iI s3),(34,sL aa x5),(35,iI ((x5).length:Int)),(36,iI bl)]) (λbl=>[.box (aD p0)]) h (wk [] [0] 1 J) (λbl v_37 h fE=>?_)))));revert fE h;revert bl;intro s6 h fE;replace h:oT s3 x5 s6=some v_37:=h;try dsimp only
  unfold oT at h;refine X 5 1 (Sv h J (λdF h=>?_) (λdF h=>?_))
  .refine B h λx8 hx8 h=>(X 5 1 (sQ (aB Sy (λ_=>J) J J hx8 (Y 10 1 (Sv h J (λeR h=>?_) (λeR h=>?_))))))
   .refine X 4 2 ?_;replace h:=mi h fE;replace h:=mi h fZ;cases h;exact tD
   exact X 5 2 (lk h (wk [] [0] 2 J))
  refine X 1 1 ?_;replace h:=mi h fE;exact X 4 1 (lk h (wk [] [0] 1 J))
 refine X 1 1 ?_;replace h:=mi h fZ;refine X 2 1 (sO (pT J J (Y 7 2 (sQ (ai Sw J (Y 3 2 (itr (λeX:Int×(U (Int×Int))=>mkA 72 [(1,sL (ak aa) p1),(11,.mpr 0),(47,sL ao p0.Nodes),(48,iI ((p0.Nodes).length:Int)),(49,iI eX.1)]) (λeX=>[.mp (List.map kI (List.map Prod.fst eX.2)) (List.map kI (List.map Prod.snd eX.2))]) h (wk [] [1] 2 J) (λeX v_53 h ou=>?_))))))));obtain⟨s9,s10⟩:=eX;replace h:k8 p0 p1 s9 s10=some v_53:=h;try dsimp only
 unfold k8 at h;refine X 5 1 (Sv h J (λtV h=>?_) (λtV h=>?_))
 .refine B h λx12 bB h=>(X 5 1 (sQ (aB Sw (λ_=>J) J J bB (Y 10 1 (Sv h J (λtW h=>?_) (λtW h=>?_))))))
  .refine X 6 2 (sQ (ai SA J (Y 2 2 (Sv h J (λtX h=>?_) (λtX h=>?_)))))
   .refine X 4 2 ?_;replace h:=mi h ou;cases h;exact tD
   refine X 6 2 (sO (we (ek:=kI) (ev:=kI) (xs:=s10) (k:=x12.A) (z0:=0) Vg (KeyT.int Vc) Ts (λ_ _ _=>.int _ _) J J J (Y 1 2 (sO (tp (ek:=kI) (ev:=kI) (xs:=s10) (k:=x12.A) (a:=(IntKind.i64.wrap (((mget x12.A s10).getD 0)+1))) (.inl J) Vg (KeyT.int Vc) J J J J J (Y 6 2 (sO (we (ek:=kI) (ev:=kI) (xs:=(mset x12.A (IntKind.i64.wrap (((mget x12.A s10).getD 0)+1)) s10)) (k:=x12.A) (z0:=0) Vg (KeyT.int Vc) Ts (λ_ _ _=>.int _ _) J J J (Y 2 2 (Sv h J (λtY h=>?_) (λtY h=>?_)))))))))))
   .refine X 4 2 ?_;replace h:=mi h ou;cases h;exact tD
   exact X 5 2 (lk h (wk [] [0] 2 J))
  exact X 5 2 (lk h (wk [] [0] 2 J))
 refine X 1 1 ?_;replace h:=mi h ou;refine X 4 1 ?_;cases h;exact tD
theorem u0 {p0:Shop}(h:pg p0=some r):Fn Qbl 17 [.agg (ca p0)] (.bool r):=by
 unfold pg at h;refine fT 0 0 Tryz.func17 Tryz.ntmps17 J ?_;refine B h λx2 hx2 h=>(X 9 0 (sO (cF (uV hx2) ⟨J,(Y 2 1 ?_)⟩)))
 cases h;exact tD
theorem xg {p0:Net}{p1:U (U Item)}{r:State}(h:pk p0 p1=some r):Fn Qbl 45 [.agg (aD p0),sL (ak aa) p1] (.agg (bD r)):=by
 unfold pk at h;refine fT 0 0 Tryz.func45 Tryz.ntmps45 J ?_;refine B h λx4 hx4 h=>(B h λx5 hx5 h=>(B h λx6 hx6 h=>(X 6 0 (T.drawn mixed (k:=12) J ?_))))
 apply Su 1 (bm 12 2047);intro hS1;apply Su 3 (bm 12 991);intro hS2;apply Su 3 (bm 12 1019);intro hS3;apply Su 3 (bm 12 511);intro hS4;apply Su 4 (bm 12 975);intro hS5;apply Su 4 (bm 12 987);intro hS6;apply Su 4 (bm 12 479);intro hS7;apply Su 4 (bm 12 507);intro hS8;apply Su 5 (bm 12 463);intro hS9;apply Su 5 (bm 12 475);intro cN;apply Su 5 (bm 12 127);intro cE;apply Su 6 (bm 12 95);intro fc
 .refine rq [0] 11 (r0 1 J (ai SA J (rq [3,6] 8 (ra3 2 4 7 ?_ ?_ ?_))))
  .refine oO J (ee (en:=aj) (zr:=0) Sx SP J J hx4 J J (ra2 4 7 ?_ ?_))
   .exact og 3 ⟨J,(raE fc)⟩
   .exact og 3 ⟨J,(r0 8 J (ai Sw J (raE hS9)))⟩
  .refine og 2 ⟨J,(ra3 2 5 7 ?_ ?_ ?_)⟩
   .exact oO J (ee (en:=aj) (zr:=0) Sx SP J J hx4 J J (raT fc))
   .refine oO J (dR (en:=(ak aa)) (zr:=([]:U Item)) SA SU ⟨.inr ⟨J,J⟩,tqz⟩ J J hx5 J J (ra2 2 7 ?_ ?_))
    .exact oO J (ee (en:=aj) (zr:=0) Sx SP J J hx4 J J (raE cE))
    .exact og 3 ⟨J,(r0 8 J (ai Sw J (raE hS8)))⟩
   .exact og 2 ⟨J,(r0 8 J (ai Sw J (raE cN)))⟩
  .refine og 2 ⟨J,(r0 8 J (ai Sw J (ra3 2 4 9 ?_ ?_ ?_)))⟩
   .exact oO J (ee (en:=aj) (zr:=0) Sx SP J J hx4 J J (raT hS9))
   .exact og 2 ⟨J,(raT cN)⟩
   .refine oO J (dR (en:=aq) (zr:=(⟨0,[],0⟩:Memory)) SE SV ⟨.inl J,.inr ⟨J,J⟩,.inl J,tqz⟩ J J hx6 J J (ra2 2 4 ?_ ?_))
    .exact oO J (ee (en:=aj) (zr:=0) Sx SP J J hx4 J J (raE hS5))
    .exact og 3 ⟨J,(raE hS6)⟩
 .refine ra2 5 7 ?_ ?_
  .exact oO J (dR (en:=(ak aa)) (zr:=([]:U Item)) SA SU ⟨.inr ⟨J,J⟩,tqz⟩ J J hx5 J J (raV cE [0,1,3,2] J))
  .exact og 3 ⟨J,(r0 8 J (ai Sw J (raE hS7)))⟩
 .exact ra1 7 (og 4 ⟨J,(r0 8 J (ai Sw J (raE hS4)))⟩)
 .refine ra3 2 5 9 ?_ ?_ ?_
  .exact oO J (ee (en:=aj) (zr:=0) Sx SP J J hx4 J J (raT hS7))
  .exact oO J (dR (en:=(ak aa)) (zr:=([]:U Item)) SA SU ⟨.inr ⟨J,J⟩,tqz⟩ J J hx5 J J (raT hS8))
  .exact oO J (dR (en:=aq) (zr:=(⟨0,[],0⟩:Memory)) SE SV ⟨.inl J,.inr ⟨J,J⟩,.inl J,tqz⟩ J J hx6 J J (raT hS6))
 .refine ra2 4 9 ?_ ?_
  .exact og 3 ⟨J,(raT hS7)⟩
  .exact oO J (dR (en:=aq) (zr:=(⟨0,[],0⟩:Memory)) SE SV ⟨.inl J,.inr ⟨J,J⟩,.inl J,tqz⟩ J J hx6 J J (raV hS5 [0,1,3,2] J))
 .refine ra2 2 9 ?_ ?_
  .exact oO J (ee (en:=aj) (zr:=0) Sx SP J J hx4 J J (raT hS4))
  .exact oO J (dR (en:=aq) (zr:=(⟨0,[],0⟩:Memory)) SE SV ⟨.inl J,.inr ⟨J,J⟩,.inl J,tqz⟩ J J hx6 J J (raE hS3))
 .refine ra2 5 9 ?_ ?_
  .exact oO J (dR (en:=(ak aa)) (zr:=([]:U Item)) SA SU ⟨.inr ⟨J,J⟩,tqz⟩ J J hx5 J J (raV hS4 [0,1,3,2] J))
  .exact oO J (dR (en:=aq) (zr:=(⟨0,[],0⟩:Memory)) SE SV ⟨.inl J,.inr ⟨J,J⟩,.inl J,tqz⟩ J J hx6 J J (raE hS2))
 .refine ra2 2 5 ?_ ?_
  .exact oO J (ee (en:=aj) (zr:=0) Sx SP J J hx4 J J (raV hS2 [0,1,3,2] J))
  .exact oO J (dR (en:=(ak aa)) (zr:=([]:U Item)) SA SU ⟨.inr ⟨J,J⟩,tqz⟩ J J hx5 J J (raV hS3 [0,1,3,2] J))
 .exact ra1 4 (og 4 ⟨J,(raV hS2 [0,1,3,2] J)⟩)
 .exact ra1 9 (oO J (dR (en:=aq) (zr:=(⟨0,[],0⟩:Memory)) SE SV ⟨.inl J,.inr ⟨J,J⟩,.inl J,tqz⟩ J J hx6 J J (rq [10] 1 (raE hS1))))
 .exact ra1 2 (oO J (ee (en:=aj) (zr:=0) Sx SP J J hx4 J J (rq [10] 1 (raV hS1 [0,1,2,4,3] J))))
 .exact ra1 5 (oO J (dR (en:=(ak aa)) (zr:=([]:U Item)) SA SU ⟨.inr ⟨J,J⟩,tqz⟩ J J hx5 J J (rq [10] 1 (raV hS1 [0,1,4,2,3] J))))
 refine ra1 11 (og 5 ⟨J,(RA.done (by decide+kernel) ?_)⟩);cases h;exact tD
theorem pd {p0:Net}{p1:U (U Item)}{r:Shop}(h:jk p0 p1=some r):Fn Qbl 18 [.agg (aD p0),sL (ak aa) p1] (.agg (ca r)):=by
 unfold jk at h;refine fT 0 0 Tryz.func18 Tryz.ntmps18 J ?_;refine B h λx2 hx2 h=>(X 6 0 (T.drawn mixed (k:=7) J ?_))
 apply Su 1 (bm 7 63);intro hS1
 .refine rq [1,3] 5 (rL [2,4,5,6] 2 J (ra2 0 4 ?_ ?_))
  .exact og 2 ⟨J,(ra1 4 (oO J (cD (xg hx2) ⟨J,(rq [5] 1 (raE hS1))⟩)))⟩
  .exact oO J (cD (xg hx2) ⟨J,(ra1 0 (og 2 ⟨J,(rq [5] 1 (raT hS1))⟩))⟩)
 refine ra1 6 (og 2 ⟨J,(RA.done (by decide+kernel) ?_)⟩);cases h;exact tD
theorem Hy {p0:State}{r:State×(U (Bool×U Item))}(h:rT p0=some r):FnO Qbl 88 [.agg (bD p0)] (.agg [.ref 0,.ref 1,.ref 3,.ref 4,.ref 5]) [aR 3 1 aj r.1.At,.hd 30 2,.cl 75 3 (cL aa r.2),aR 84 3 aq r.1.Memory,aR 50 2 an r.1.Choices,aR 75 3 aa r.1.Out]:=by
 unfold rT at h;refine fT 0 0 Tryz.func88 Tryz.ntmps88 J ?_;refine B h λx4 hx4 h=>(B h λx5 hx5 h=>(B h λx6 hx6 h=>(X 6 0 (T.drawn mixed (k:=12) J ?_))))
 apply Su 1 (bm 12 2047);intro hS1;apply Su 3 (bm 12 1279);intro hS2;apply Su 4 (bm 12 1247);intro hS3;apply Su 4 (bm 12 255);intro hS4;apply Su 5 (bm 12 1119);intro hS5;apply Su 5 (bm 12 1243);intro hS6;apply Su 5 (bm 12 223);intro hS7;apply Su 6 (bm 12 95);intro hS8;apply Su 6 (bm 12 1115);intro hS9;apply Su 6 (bm 12 1227);intro cN;apply Su 6 (bm 12 219);intro cE
 .refine rq [0,3,6] 9 (rL [1,2,5,8,9,11] 1 J (ra4 2 4 7 10 ?_ ?_ ?_ ?_))
  .exact oO J (cO 2 (dC hx4) ⟨J,(rL [4,5,8,9,11] 4 J (raE hS8))⟩)
  .refine og 2 ⟨J,(ra3 2 7 10 ?_ ?_ ?_)⟩
   .exact oO J (cO 2 (dC hx4) ⟨J,(raT hS8)⟩)
   .exact og 2 ⟨J,(raE cE)⟩
   .exact og 2 ⟨J,(raE hS9)⟩
  .refine og 2 ⟨J,(ra3 2 4 10 ?_ ?_ ?_)⟩
   .exact oO J (cO 2 (dC hx4) ⟨J,(rL [4,5,8,9,11] 4 J (raE hS7))⟩)
   .exact og 2 ⟨J,(raT cE)⟩
   .exact og 2 ⟨J,(raE cN)⟩
  .refine og 2 ⟨J,(ra3 2 4 7 ?_ ?_ ?_)⟩
   .exact oO J (cO 3 (dC hx4) ⟨J,(rL [4,5,8,9,11] 4 J (raE hS5))⟩)
   .exact og 3 ⟨J,(raT hS9)⟩
   .exact og 3 ⟨J,(raT cN)⟩
 .refine ra2 2 10 ?_ ?_
  .exact oO J (cO 2 (dC hx4) ⟨J,(raT hS7)⟩)
  .exact og 2 ⟨J,(raE hS6)⟩
 .refine ra2 2 4 ?_ ?_
  .exact oO J (cO 3 (dC hx4) ⟨J,(ra1 4 (og 4 ⟨J,(raE hS3)⟩))⟩)
  .exact og 3 ⟨J,(raT hS6)⟩
 .refine ra2 2 7 ?_ ?_
  .exact oO J (cO 3 (dC hx4) ⟨J,(raT hS5)⟩)
  .exact og 3 ⟨J,(raT hS6)⟩
 .refine ra3 5 7 10 ?_ ?_ ?_
  .exact oO J (cO 3 (rz hx5) ⟨J,(rL [7,8,9,11] 7 J (raE hS4))⟩)
  .exact og 3 ⟨J,(raT hS7)⟩
  .exact og 3 ⟨J,(raV hS5 [0,1,3,2] J)⟩
 .refine ra2 5 10 ?_ ?_
  .exact oO J (cO 3 (rz hx5) ⟨J,(raT hS4)⟩)
  .exact og 3 ⟨J,(raV hS3 [0,1,3,2] J)⟩
 .exact ra1 2 (oO J (cO 3 (dC hx4) ⟨J,(raT hS3)⟩))
 .refine ra2 5 7 ?_ ?_
  .exact oO J (cO 4 (rz hx5) ⟨J,(ra1 7 (og 5 ⟨J,(raE hS2)⟩))⟩)
  .exact og 4 ⟨J,(raT hS3)⟩
 .refine ra2 8 10 ?_ ?_
  .exact oO J (cO 4 (fH hx6) ⟨J,(rq [9] 2 (ra1 10 (og 5 ⟨J,(raE hS1)⟩)))⟩)
  .exact og 4 ⟨J,(raV hS2 [0,1,4,2,3] J)⟩
 .exact ra1 5 (oO J (cO 4 (rz hx5) ⟨J,(raT hS2)⟩))
 .exact ra1 8 (oO J (cO 5 (fH hx6) ⟨J,(rq [9] 1 (raV hS1 [0,1,3,4,5,2] J))⟩))
 refine ra1 11 (og 6 ⟨J,(RA.done (by decide+kernel) (X 5 6 (sQ (ai SA J (Y 3 6 (TZ 5 1 30 1 (cs:=[.ref 2,.nils,.nils,.ref 3,.ref 4]) J J (cs':=[.ref 2,.ref 6,.nils,.ref 3,.ref 4]) J J (UP 6 75 3 aa J J J (itr (λiW:Int×(U (Bool×U Item))=>mkA 52 [(1,.ptr 0 0),(2,.ptr 1 0),(3,.ptr 2 0),(19,sL (ak aa) p0.Rings),(20,iI ((p0.Rings).length:Int)),(21,iI iW.1)]) (λiW=>[.box (bD p0),.box [.nils,.nils,.nils,.nils,.nils],.box [.ref 3,.ref 4,.nils,.ref 5,.ref 6],aR 3 1 aj x4,.hd 30 7,aR 50 2 an x5,aR 75 3 aa x6,.cl 75 3 (cL aa iW.2)]) h (wk [] [0,1,5,2,6,3,4,7] 8 J) (λiW v_19 h Qd=>?_)))))))))⟩);obtain⟨s7,s8⟩:=iW;replace h:lj p0 x4 x5 x6 s7 s8=some v_19:=h;try dsimp only
 unfold lj at h;refine X 5 8 (Sv h J (λbU h=>?_) (λbU h=>?_))
 .refine B h λx10 ba h=>(X 5 8 (sQ (aB SA (λ_=>J) J J ba (B h λx11 bA h=>(B h λx12 bB h=>(Y 3 8 (T.drawn mixed (k:=8) J ?_)))))))
  apply Su 4 (bm 8 15);intro uB
  .refine rq [0,2] 6 (ra2 1 3 ?_ ?_)
   .exact og 8 ⟨J,(ra1 3 (oO J (cO 8 (fH bA) ⟨J,(raE uB)⟩)))⟩
   .exact oO J (cO 8 (fH bA) ⟨J,(rL [1,5,6,7] 1 J (raT uB))⟩)
  exact ra1 4 (oO J (Mq (en:=aa) (xs:=x11) SA J (λ_=>J) J J J J (ra1 5 (oO J (Nb (en:=aa) (xs:=s8) (ys:=([(false,x11)]:U (Bool×U Item))) SA J J J J J J J J bB J J J (rq [6] 1 (ra1 7 (og 13 ⟨J,(RA.done (by decide+kernel) (X 4 13 (lk h (wk [] [0,1,2,3,11,5,6,12] 13 J))))⟩))))))))
 refine X 1 8 ?_;replace h:=mi h Qd;refine X 5 8 (sQ (ai SE J (Y 3 8 (nB 2 2 84 3 8 (itr (λiV:Int×(U Memory)=>mkA 52 [(2,.ptr 0 0),(3,.ptr 1 0),(34,sL aq p0.Memory),(35,iI ((p0.Memory).length:Int)),(36,iI iV.1)]) (λiV=>[.box [.nils,.nils,.nils,.nils,.nils],.box [.ref 2,.ref 3,.ref 4,.ref 5,.ref 6],aR 3 1 aj x4,.hd 30 7,aR 84 3 aq iV.2,aR 50 2 an x5,aR 75 3 aa x6,.cl 75 3 (cL aa s8)]) h (wk [] [1,2,3,4,8,5,6,7] 9 J) (λiV v_27 h Qe=>?_))))));obtain⟨s13,s14⟩:=iV;replace h:mJ p0 x4 x5 x6 s8 s13 s14=some v_27:=h;try dsimp only
 unfold mJ at h;refine X 5 8 (Sv h J (λzK h=>?_) (λzK h=>?_))
 .refine B h λx16 d7 h=>(X 5 8 (sQ (aB SE (λ_=>J) J J d7 (B h λx18 b7 h=>(Y 8 8 (sO (cO 9 (AD b7) ⟨J,(B h λx19 cM h=>(Y 7 10 (RS.fC 9 (sO (be (rows:=List.map aq [(⟨x16.Sum,x18,x16.Dep⟩:Memory)]) (vs:=[.agg [iI x16.Sum,sL aH x18,iI x16.Dep]]) SE SV J J J J J J ?_)))))⟩)))))))
  exact sO (bQ (en:=aq) (xs:=s14) (ys:=([(⟨x16.Sum,x18,x16.Dep⟩:Memory)]:U Memory)) SE (λ_=>J) J J J cM J J (Y 7 12 (lk h (wk [] [0,1,2,3,11,5,6,7] 12 J))))
 refine X 1 8 ?_;replace h:=mi h Qe;refine X 5 8 ?_;cases h;exact tO [] [2,3,7,4,5,6] 8
theorem AO {p0:Item}{r:Int}(h:sk p0 p1=some r):Fn Qbl 89 [.agg (aa p0),iI p1] (iI r):=by
 unfold sk at h;refine fT 0 0 Tryz.func89 Tryz.ntmps89 J ?_;refine B h λx2 hx2 h=>(X 10 0 (sQ (ii J J hx2 (Y 8 1 (Sv h J (λae h=>?_) (λae h=>?_))))))
 .refine X 11 1 ?_;cases h;exact tD
 refine X 6 1 ?_;cases h;exact tD
theorem H9 {p0:U Keyed}{p2:Int}{r:U Keyed}(h:xw p0 p1 p2=some r):FnX Qbl 134 [.ifc 82 (.ref 0),.func 135 [.ptr 1 0]] [aR 139 2 aH p0,.box [iI p1,.ref 0,iI p2]] (.tup []) [aR 139 2 aH r,.box [iI p1,.ref 0,iI p2]]:=M5 p0 r p1 p2 h
theorem ve {p2:Memory}{p3:Item}{r:Memory×Item×Int}(h:nh p0 p1 p2 p3=some r):Fn Qbl 90 [iI p0,iI p1,.agg (aq p2),.agg (aa p3)] (.tup [.agg (aq r.1),.agg (aa r.2.1),iI r.2.2]):=by
 unfold nh at h;refine fT 0 0 Tryz.func90 Tryz.ntmps90 J ?_;refine B h λx2 hx2 h=>(X 12 0 (sO (I8 (en:=aH) (ys:=p2.Keys) SB (λ_=>J) J J hx2 J J (Y 14 5 (Sv h J (λae h=>?_) (λae h=>?_))))))
 .refine X 10 5 (Sv h J (λab h=>?_) (λab h=>?_))
  .refine X 8 5 (T.drawn mixed (k:=5) J ?_);apply Su 2 (bm 5 7);intro hS3
   .refine rL [0,2,3,4] 0 J (ra2 1 2 ?_ ?_)
    .exact og 5 ⟨J,(ra1 2 (og 5 ⟨J,(raE hS3)⟩))⟩
    .exact og 5 ⟨J,(ra1 1 (og 5 ⟨J,(raT hS3)⟩))⟩
   refine ra1 3 (og 5 ⟨J,(rq [4] 0 (RA.done (by decide+kernel) ?_))⟩);cases h;exact tD
  refine X 5 5 (Sv h J (λaC h=>?_) (λaC h=>?_))
  .refine X 10 5 (T.drawn mixed (k:=5) J ?_);apply Su 2 (bm 5 7);intro hS5
   .refine rL [0,2,3,4] 0 J (ra2 1 2 ?_ ?_)
    .exact og 5 ⟨J,(ra1 2 (og 5 ⟨J,(raE hS5)⟩))⟩
    .exact og 5 ⟨J,(ra1 1 (og 5 ⟨J,(raT hS5)⟩))⟩
   refine ra1 3 (og 5 ⟨J,(rq [4] 0 (RA.done (by decide+kernel) ?_))⟩);cases h;exact tD
  refine X 5 5 (Sv h J (λaM h=>?_) (λaM h=>?_))
  .refine X 8 5 (T.drawn mixed (k:=5) J ?_);apply Su 2 (bm 5 7);intro hS7
   .refine rL [0,2,3,4] 0 J (ra2 1 2 ?_ ?_)
    .exact og 5 ⟨J,(ra1 2 (og 5 ⟨J,(raE hS7)⟩))⟩
    .exact og 5 ⟨J,(ra1 1 (og 5 ⟨J,(raT hS7)⟩))⟩
   refine ra1 3 (og 5 ⟨J,(rq [4] 0 (RA.done (by decide+kernel) ?_))⟩);cases h;exact tD
  refine X 5 5 (Sv h J (λbi h=>?_) (λbi h=>?_))
  .refine X 10 5 (T.drawn mixed (k:=5) J ?_);apply Su 2 (bm 5 7);intro hS9
   .refine rL [0,2,3,4] 0 J (ra2 1 2 ?_ ?_)
    .exact og 5 ⟨J,(ra1 2 (og 5 ⟨J,(raE hS9)⟩))⟩
    .exact og 5 ⟨J,(ra1 1 (og 5 ⟨J,(raT hS9)⟩))⟩
   refine ra1 3 (og 5 ⟨J,(rq [4] 0 (RA.done (by decide+kernel) ?_))⟩);cases h;exact tD
  refine X 8 5 ?_;cases h;exact tD
 refine X 5 5 (Sv h J (λfb h=>?_) (λfb h=>?_))
 .refine X 34 5 (T.drawn mixed (k:=5) J ?_);apply Su 2 (bm 5 7);intro cE
  .refine rL [0,2,3,4] 0 J (ra2 1 2 ?_ ?_)
   .exact og 5 ⟨J,(ra1 2 (og 5 ⟨J,(raE cE)⟩))⟩
   .exact og 5 ⟨J,(ra1 1 (og 5 ⟨J,(raT cE)⟩))⟩
  refine ra1 3 (og 5 ⟨J,(rq [4] 0 (RA.done (by decide+kernel) ?_))⟩);cases h;exact tD
 refine X 5 5 (Sv h J (λfY h=>?_) (λfY h=>?_))
 .refine X 26 5 (sQ (cP (en:=aH) SB J J (Y 3 5 (itr (λdX:Int×Int=>mkA 147 [(6,.ptr 0 0),(7,.ptr 1 0),(8,.ptr 2 0),(9,.ptr 3 0),(11,iI dX.1),(86,.ref 4),(87,iI ((x2).length:Int)),(88,iI dX.2)]) (λdX=>[.box [iI p2.Sum,.ref 4,iI (if p3.Dep> p2.Dep then p3.Dep else p2.Dep)],.box [iI p3.Key,iI p3.Val,iI (if p3.Dep> p2.Dep then p3.Dep else p2.Dep)],.box [iI 0,.nils,iI 0],.box [iI 0,iI 0,iI 0],aR 139 2 aH x2]) h (wk [] [0,1,2,3,4] 5 J) (λdX v_18 h w5=>?_)))));obtain⟨s3,s4⟩:=dX;replace h:gG p2 x2 p3 s3 s4=some v_18:=h;try dsimp only
  unfold gG at h;refine X 5 5 (Sv h J (λcC h=>?_) (λcC h=>?_))
  .refine B h λx7 hx7 h=>(B h λx8 hx8 h=>(X 6 5 (sQ (aK (en:=aH) SB J J J hx7 (sO (aU (en:=aH) (a:=x8) J J hx8 (eM Ud TK J (cs:=(aH x8)) J (Y 12 5 (Sv h J (λbU h=>?_) (λbU h=>?_))))))))))
   .exact X 8 6 (lk h (wk [] [0,1,2,3,4] 6 J))
   exact X 5 6 (lk h (wk [] [0,1,2,3,4] 6 J))
  refine X 1 5 ?_;replace h:=mi h w5;refine X 12 5 (Sv h J (λi7 h=>?_) (λi7 h=>?_))
  .refine B h λx13 dJ h=>(B h λx14 cI h=>(B h λx15 cU h=>(B h λx16 d7 h=>(X 5 5 (sQ (aK (en:=aH) SB J J J dJ (Y 1 5 (sO (aU (en:=aH) (a:=x14) J J cI (aN S4 (c:=iI x14.N) J (Y 1 5 (sQ (aK (en:=aH) SB J J J cU ?_)))))))))))))
   refine Y 1 5 (sO (eK (en:=aH) (a:=x16) (a':=(⟨x16.Key,IntKind.i64.wrap (x14.N+1)⟩:Keyed)) S0 Tl J (vs:=[iI (IntKind.i64.wrap (x14.N+1))]) J J J d7 J J J (B h λx17 cz h=>(B h λx18 b7 h=>(Y 5 5 (sQ (aK (en:=aH) SB J J J cz (Y 1 5 (sO (aU (en:=aH) (a:=x18) J J b7 (aN S4 (c:=iI x18.N) J (Y 4 5 (T.drawn mixed (k:=5) J ?_)))))))))))));apply Su 2 (bm 5 7);intro jQ
   .refine rL [0,2,3,4] 0 J (ra2 1 2 ?_ ?_)
    .exact og 5 ⟨J,(ra1 2 (og 5 ⟨J,(raE jQ)⟩))⟩
    .exact og 5 ⟨J,(ra1 1 (og 5 ⟨J,(raT jQ)⟩))⟩
   refine ra1 3 (og 5 ⟨J,(rq [4] 0 (RA.done (by decide+kernel) ?_))⟩);cases h;exact tD
  refine X 4 5 (sQ (cP (en:=aH) SB J J (Y 3 5 (Sv h J (λkV h=>?_) (λkV h=>?_)))))
  .refine B h λx20 dS h=>(X 7 5 (sO (be (rows:=List.map aH [(⟨p3.Key,1⟩:Keyed)]) (vs:=[.agg [iI p3.Key,iI 1]]) SB Ta J J J J J J (sO (bQ (en:=aH) (xs:=x2) (ys:=([(⟨p3.Key,1⟩:Keyed)]:U Keyed)) SB (λ_=>J) J J J dS J J (B h λx22 eS h=>(Y 7 7 (sO (lQ VD J J (Y 1 7 (sO (bt (aw2:=[.box [iI p2.Sum,.ref 6,iI (if p3.Dep> p2.Dep then p3.Dep else p2.Dep)],.box [iI p3.Key,iI 0,iI (if p3.Dep> p2.Dep then p3.Dep else p2.Dep)],.box [iI 0,.nils,iI 0],.box [iI 0,iI 0,iI 0],.dead,.dead,aR 139 2 aH x22]) (v':=.tup []) (n0:=7) (n1:=2) [6,0] J J (H9 eS) (eB J km J (aE J ⟨bE J,bX J,bE J,tqz⟩ aA)) ⟨Ov (bX J),gl ⟨al J,tqz⟩,tqz⟩ (Gb trivial) ⟨.inl ⟨1,_,by decide,J,aX ⟨au (aO _ _),iL (by decide),au (aO _ _),tqz⟩⟩,.inr ⟨J,J⟩,.inr ⟨J,J⟩,.inr ⟨J,J⟩,.inr ⟨J,J⟩,.inr ⟨J,J⟩,.inl ⟨0,_,by decide,J,kC km⟩,tqz⟩ (Y 6 7 ?_)))))))))))))
   refine T.drawn mixed (k:=5) J ?_;apply Su 2 (bm 5 7);intro fe
   .refine rL [0,2,3,4] 0 J (ra2 1 2 ?_ ?_)
    .exact og 7 ⟨J,(ra1 2 (og 7 ⟨J,(raE fe)⟩))⟩
    .exact og 7 ⟨J,(ra1 1 (og 7 ⟨J,(raT fe)⟩))⟩
   refine ra1 3 (og 7 ⟨J,(rq [4] 0 (RA.done (by decide+kernel) ?_))⟩);cases h;exact tD
  refine X 2 5 (T.drawn mixed (k:=5) J ?_);apply Su 2 (bm 5 7);intro kX
  .refine rL [0,2,3,4] 0 J (ra2 1 2 ?_ ?_)
   .exact og 5 ⟨J,(ra1 2 (og 5 ⟨J,(raE kX)⟩))⟩
   .exact og 5 ⟨J,(ra1 1 (og 5 ⟨J,(raT kX)⟩))⟩
  refine ra1 3 (og 5 ⟨J,(rq [4] 0 (RA.done (by decide+kernel) ?_))⟩);cases h;exact tD
 refine X 6 5 (Sv h J (λow h=>?_) (λow h=>?_))
 .refine X 1 5 (Sv h J (λzK h=>?_) (λzK h=>?_))
  .refine X 2 5 (T.drawn mixed (k:=5) J ?_);apply Su 2 (bm 5 7);intro mz
   .refine rL [0,2,3,4] 0 J (ra2 1 2 ?_ ?_)
    .exact og 5 ⟨J,(ra1 2 (og 5 ⟨J,(raE mz)⟩))⟩
    .exact og 5 ⟨J,(ra1 1 (og 5 ⟨J,(raT mz)⟩))⟩
   refine ra1 3 (og 5 ⟨J,(rq [4] 0 (RA.done (by decide+kernel) ?_))⟩);cases h;exact tD
  refine X 8 5 ?_;cases h;exact tD
 refine X 5 5 (Sv h J (λi6 h=>?_) (λi6 h=>?_))
 .refine X 1 5 (Sv h J (λja h=>?_) (λja h=>?_))
  .refine X 2 5 (T.drawn mixed (k:=5) J ?_);apply Su 2 (bm 5 7);intro mA
   .refine rL [0,2,3,4] 0 J (ra2 1 2 ?_ ?_)
    .exact og 5 ⟨J,(ra1 2 (og 5 ⟨J,(raE mA)⟩))⟩
    .exact og 5 ⟨J,(ra1 1 (og 5 ⟨J,(raT mA)⟩))⟩
   refine ra1 3 (og 5 ⟨J,(rq [4] 0 (RA.done (by decide+kernel) ?_))⟩);cases h;exact tD
  refine X 8 5 ?_;cases h;exact tD
 refine X 5 5 (Sv h J (λgB h=>?_) (λgB h=>?_))
 .refine X 1 5 (Sv h J (λkT h=>?_) (λkT h=>?_))
  .refine X 2 5 (T.drawn mixed (k:=5) J ?_);apply Su 2 (bm 5 7);intro uu
   .refine rL [0,2,3,4] 0 J (ra2 1 2 ?_ ?_)
    .exact og 5 ⟨J,(ra1 2 (og 5 ⟨J,(raE uu)⟩))⟩
    .exact og 5 ⟨J,(ra1 1 (og 5 ⟨J,(raT uu)⟩))⟩
   refine ra1 3 (og 5 ⟨J,(rq [4] 0 (RA.done (by decide+kernel) ?_))⟩);cases h;exact tD
  refine X 8 5 ?_;cases h;exact tD
 refine X 5 5 (Sv h J (λcW h=>?_) (λcW h=>?_))
 .refine X 1 5 (Sv h J (λaJ h=>?_) (λaJ h=>?_))
  .refine X 2 5 (T.drawn mixed (k:=5) J ?_);apply Su 2 (bm 5 7);intro GR
   .refine rL [0,2,3,4] 0 J (ra2 1 2 ?_ ?_)
    .exact og 5 ⟨J,(ra1 2 (og 5 ⟨J,(raE GR)⟩))⟩
    .exact og 5 ⟨J,(ra1 1 (og 5 ⟨J,(raT GR)⟩))⟩
   refine ra1 3 (og 5 ⟨J,(rq [4] 0 (RA.done (by decide+kernel) ?_))⟩);cases h;exact tD
  refine X 8 5 ?_;cases h;exact tD
 refine X 4 5 (Sv h J (λeR h=>?_) (λeR h=>?_))
 .refine X 2 5 (T.drawn mixed (k:=5) J ?_);apply Su 2 (bm 5 7);intro uv
  .refine rL [0,2,3,4] 0 J (ra2 1 2 ?_ ?_)
   .exact og 5 ⟨J,(ra1 2 (og 5 ⟨J,(raE uv)⟩))⟩
   .exact og 5 ⟨J,(ra1 1 (og 5 ⟨J,(raT uv)⟩))⟩
  refine ra1 3 (og 5 ⟨J,(rq [4] 0 (RA.done (by decide+kernel) ?_))⟩);cases h;exact tD
 refine X 8 5 ?_;cases h;exact tD
end
end
section
open Go.RowKit
set_option maxRecDepth 100000
set_option maxHeartbeats 4000000
set_option synthInstance.maxSize 100000
set_option synthInstance.maxHeartbeats 4000000
section
variable {p0:Net}{p1:U (U Item)}{p2:State}{r:Shop×Int}
theorem xh {p3:Move}{r:State×Bool}(h:ka p0 p1 p2 p3=some r):Fn Qbl 48 [.agg (aD p0),sL (ak aa) p1,.agg (bD p2),.agg (aV p3)] (.tup [.agg (bD r.1),.bool r.2]):=by
 unfold ka at h;refine fT 0 0 Tryz.func48 Tryz.ntmps48 J ?_;refine B h λx2 hx2 h=>(X 11 0 (sO (cG [] 4 6 (SG (Hy hx2)) ⟨J,(B h λx4 hx4 h=>(Y 8 10 (sQ (aB Sw (λ_=>J) J J hx4 (Y 8 10 (jn (Z:=Int×Int×Int×(U Int)×(U (Bool×U Item))) (λgC=>mkA 188 [(4,.ptr 0 0),(6,.ptr 1 0),(7,.ptr 2 0),(8,.ptr 3 0),(10,.ptr 4 0),(11,.ptr 5 0)]) (λgC=>[.box (aD p0),.box [.ref 6,.ref 7,.ref 8,.ref 9,.ref 10],.box (aV p3),.box [.nils,.nils,.nils,.nils,.nils],.box (ao x4),.box [iI gC.1,iI gC.2.1,iI gC.2.2.1],aR 3 1 aj gC.2.2.2.1,.hd 30 11,aR 84 3 aq x2.1.Memory,aR 50 2 an x2.1.Choices,aR 75 3 aa x2.1.Out,.cl 75 3 (cL aa gC.2.2.2.2)]) (λgC=>lr p0 x2 p3 x4 gC.1 gC.2.1 gC.2.2.1 gC.2.2.2.1 gC.2.2.2.2=some r) (λgC h=>?_) (λhK4=>?_)))))))⟩)))
 .obtain⟨z27,z28,z29,z30,z31⟩:=gC;replace h:lr p0 x2 p3 x4 z27 z28 z29 z30 z31=some r:=h;try dsimp only
  unfold lr at h;refine X 6 12 (jn (Z:=U Int) (λqI=>mkA 188 [(4,.ptr 0 0),(6,.ptr 1 0),(7,.ptr 2 0),(8,.ptr 3 0),(10,.ptr 4 0),(11,.ptr 5 0),(14,sL aj qI)]) (λqI=>[.box (aD p0),.box [.ref 6,.ref 7,.ref 8,.ref 9,.ref 10],.box (aV p3),.box [.nils,.nils,.nils,.nils,.nils],.box (ao x4),.box [iI z27,iI z28,iI z29],aR 3 1 aj z30,.hd 30 11,aR 84 3 aq x2.1.Memory,aR 50 2 an x2.1.Choices,aR 75 3 aa x2.1.Out,.cl 75 3 (cL aa z31)]) (λqI=>j8 p0 x2 p3 x4 z27 z28 z29 z30 z31 qI=some r) (λqI h=>?_) (λhK3=>?_))
  .revert h;revert qI;intro z34 h;replace h:j8 p0 x2 p3 x4 z27 z28 z29 z30 z31 z34=some r:=h;try dsimp only
   unfold j8 at h;refine jn (Z:=Int×(U Choice)) (λdG=>mkA 188 [(4,.ptr 0 0),(6,.ptr 1 0),(7,.ptr 2 0),(8,.ptr 3 0),(10,.ptr 4 0),(11,.ptr 5 0),(14,sL aj z34)]) (λdG=>[.box (aD p0),.box [.ref 6,.ref 7,.ref 8,.ref 9,.ref 10],.box (aV p3),.box [.nils,.nils,.nils,.nils,.nils],.box (ao x4),.box [iI z27,iI z28,iI dG.1],aR 3 1 aj z30,.hd 30 11,aR 84 3 aq x2.1.Memory,aR 50 2 an dG.2,aR 75 3 aa x2.1.Out,.cl 75 3 (cL aa z31)]) (λdG=>mU p0 x2 p3 x4 z27 z28 z30 z31 z34 dG.1 dG.2=some r) (λdG h=>?_) (λhK2=>?_)
   .obtain⟨z37,z38⟩:=dG;replace h:mU p0 x2 p3 x4 z27 z28 z30 z31 z34 z37 z38=some r:=h;try dsimp only
    unfold mU at h;refine B h λx44 kY h=>(B h λx45 q6 h=>(B h λx46 jS h=>(B h λx47 uG h=>(B h λx48 An h=>(X 1 12 (T.drawn mixed (k:=23) J ?_))))))
    apply Su 2 (bm 23 2097151);intro qY;apply Su 4 (bm 23 1048567);intro kZ;apply Su 8 (bm 23 32767);intro ir;apply Su 9 (bm 23 32759);intro gD;apply Su 9 (bm 23 32765);intro mE;apply Su 9 (bm 23 24575);intro iq
    .refine rq [0,2,4,6,8,10] 17 (rL [5,15,16,17,18,19,20,21,22] 5 J (rL [7,15,16,17,18,19,20,21,22] 7 J (rL [9,12,13,15,16,17,18,19,20,21,22] 9 J (rL [11,12,13,15,16,17,18,19,20,21,22] 11 J (r0 12 J (aK (en:=aq) SE J J J kY (rL [14,15,16,17,18,19,20,21,22] 14 J (ra3 1 3 13 ?_ ?_ ?_))))))))
     .refine og 12 ⟨J,(ra2 3 13 ?_ ?_)⟩
      .exact og 12 ⟨J,(raE iq)⟩
      .exact oO J (aU (en:=aq) (a:=x45) J J q6 (eM S6 SY J (cs:=(aq x45)) J (raE gD)))
     .refine og 12 ⟨J,(ra2 1 13 ?_ ?_)⟩
      .exact og 12 ⟨J,(raT iq)⟩
      .exact oO J (aU (en:=aq) (a:=x45) J J q6 (eM S6 SY J (cs:=(aq x45)) J (raE mE)))
     .refine oO J (aU (en:=aq) (a:=x45) J J q6 (eM S6 SY J (cs:=(aq x45)) J (ra3 1 3 15 ?_ ?_ ?_)))
      .exact og 12 ⟨J,(raT gD)⟩
      .exact og 12 ⟨J,(raT mE)⟩
      .exact oO J (cD (ve jS) ⟨J,(rq [16,17,18,19] 5 (rL [1,20,21,22] 1 J (raE kZ)))⟩)
    .exact ra1 13 (oO J (aU (en:=aq) (a:=x45) J J q6 (eM S6 SY J (cs:=(aq x45)) J (raE ir))))
    .refine ra2 1 15 ?_ ?_
     .exact og 12 ⟨J,(raT ir)⟩
     .exact oO J (cD (ve jS) ⟨J,(rq [16,17,18,19] 4 (ra1 1 (og 12 ⟨J,(r0 20 J (aK (en:=aq) SE J J J uG (raE qY)))⟩)))⟩)
    .refine ra2 3 15 ?_ ?_
     .exact og 12 ⟨J,(raT ir)⟩
     .exact oO J (cD (ve jS) ⟨J,(rq [16,17,18,19] 4 (raT kZ))⟩)
    .exact ra1 15 (oO J (cD (ve jS) ⟨J,(rq [16,17,18,19] 3 (r0 20 J (aK (en:=aq) SE J J J uG (raT qY))))⟩))
    .exact ra1 3 (og 12 ⟨J,(r0 20 J (aK (en:=aq) SE J J J uG (raT qY)))⟩)
    refine ra1 21 (oO J (eK (en:=aq) (a:=x48) (a':=x46.1) SY Tv J (vs:=[iI x46.1.Sum,sL aH x46.1.Keys,iI x46.1.Dep]) J J J An J J J (ra1 22 (og 12 ⟨J,(RA.done (by decide+kernel) (X 4 12 (sQ (ai Sx J (Y 3 12 (itr (λiX:Int×(U (Bool×U Item))=>mkA 188 [(4,.ptr 0 0),(6,.ptr 1 0),(8,.ptr 2 0),(10,.ptr 3 0),(11,.ptr 4 0),(144,sL aj z34),(145,iI ((z34).length:Int)),(146,iI iX.1)]) (λiX=>[.box (aD p0),.box [.ref 5,.ref 6,.ref 7,.ref 8,.ref 9],.box [.nils,.nils,.nils,.nils,.nils],.box (ao x4),.box (aa x46.2.1),aR 3 1 aj z30,.hd 30 10,aR 84 3 aq (List.set x2.1.Memory x47 x46.1),aR 50 2 an z38,aR 75 3 aa x2.1.Out,.cl 75 3 (cL aa iX.2)]) h (wk [] [0,1,3,4,5,6,7,8,9,10,11] 12 J) (λiX v_79 h Gh=>?_)))))))⟩))));obtain⟨s49,s50⟩:=iX;replace h:gE p0 x2 x4 z30 z34 z38 x46 x47 s49 s50=some v_79:=h;try dsimp only
    unfold gE at h;refine X 5 11 (Sv h J (λQf h=>?_) (λQf h=>?_))
    .refine B h λx52 Ao h=>(X 5 11 (sQ (aB Sx (λ_=>J) J J Ao (B h λx55 k5 h=>(B h λx56 jf h=>(Y 5 11 (T.drawn mixed (k:=9) J ?_)))))))
     apply Su 0 (bm 9 511);intro qO;apply Su 2 (bm 9 223);intro ug;apply Su 3 (bm 9 207);intro qP
     .refine rq [0,2,6] 6 (rL [1,3,4,5,8] 1 J (ra2 3 7 ?_ ?_))
      .refine oO J (cV SA J J J J cY k5 (ra2 4 7 ?_ ?_))
       .refine oO J (di SH J J J jf (ra2 5 7 ?_ ?_))
        .exact oO J (yU Sy J J jf (ra1 7 (og 11 ⟨J,(rq [8] 0 (raE qO))⟩)))
        .exact og 11 ⟨J,(raE ug)⟩
       .exact og 11 ⟨J,(raE qP)⟩
      .exact og 11 ⟨J,(ra1 3 (oO J (cV SA J J J J cY k5 (raT qP))))⟩
     .exact ra1 4 (oO J (di SH J J J jf (raT ug)))
     .exact ra1 5 (oO J (yU Sy J J jf (rq [8] 0 (raT qO))))
     refine RA.done (by decide+kernel) (Sv h J (λQg h=>?_) (λQg h=>?_))
     .refine X 6 11 (Tg 6 10 J J J ?_);replace h:=mi h Gh;cases h;exact tD
     refine B h λx57 xa h=>(B h λx58 q5 h=>(X 1 11 (T.drawn mixed (k:=13) J ?_)))
     apply Su 2 (bm 13 2047);intro oD;apply Su 3 (bm 13 1023);intro qQ;apply Su 4 (bm 13 895);intro qR;apply Su 4 (bm 13 1021);intro uh;apply Su 4 (bm 13 511);intro qS;apply Su 5 (bm 13 831);intro qT;apply Su 5 (bm 13 893);intro ui;apply Su 5 (bm 13 383);intro oE
     .refine rq [0,2,3,5] 9 (rL [4,6,7,10,11,12] 4 J (rL [8,9,10,11,12] 8 J (ra3 1 6 9 ?_ ?_ ?_)))
      .refine og 11 ⟨J,(ra2 6 9 ?_ ?_)⟩
       .exact oO J (cV SA J J J J cY k5 (raE oE))
       .exact oO J (be (rows:=List.map aa [x46.2.1]) (vs:=[.agg (aa x46.2.1)]) Sy SW J J J J J J (raE qT))
      .refine oO J (cV SA J J J J cY k5 (ra3 1 7 9 ?_ ?_ ?_))
       .exact og 11 ⟨J,(raT oE)⟩
       .refine oO J (di SH J J J jf (ra2 1 9 ?_ ?_))
        .exact og 11 ⟨J,(raE qS)⟩
        .exact oO J (be (rows:=List.map aa [x46.2.1]) (vs:=[.agg (aa x46.2.1)]) Sy SW J J J J J J (raE uh))
       .exact oO J (be (rows:=List.map aa [x46.2.1]) (vs:=[.agg (aa x46.2.1)]) Sy SW J J J J J J (raE ui))
      .refine oO J (be (rows:=List.map aa [x46.2.1]) (vs:=[.agg (aa x46.2.1)]) Sy SW J J J J J J (ra2 1 6 ?_ ?_))
       .exact og 12 ⟨J,(raT qT)⟩
       .exact oO J (cV SA J J J J cY k5 (raT ui))
     .refine ra2 7 9 ?_ ?_
      .exact oO J (di SH J J J jf (raT qS))
      .exact oO J (be (rows:=List.map aa [x46.2.1]) (vs:=[.agg (aa x46.2.1)]) Sy SW J J J J J J (raE qR))
     .refine ra2 1 7 ?_ ?_
      .exact og 12 ⟨J,(raT qR)⟩
      .exact oO J (di SH J J J jf (raT uh))
     .exact ra1 6 (oO J (cV SA J J J J cY k5 (raT qR)))
     .exact ra1 9 (oO J (be (rows:=List.map aa [x46.2.1]) (vs:=[.agg (aa x46.2.1)]) Sy SW J J J J J J (raE qQ)))
     .refine ra2 1 10 ?_ ?_
      .exact og 12 ⟨J,(raT qQ)⟩
      .exact TL 167 10 x55 J J xa J J (oO J (bQ (en:=aa) (xs:=x57) (ys:=([x46.2.1]:U Item)) Sy (λ_=>J) J J J q5 J J (ra1 1 (og 14 ⟨J,(raE oD)⟩))))
     .exact ra1 7 (oO J (di SH J J J jf (raT qQ)))
     .exact ra1 10 (TL 167 10 x55 J J xa J J (oO J (bQ (en:=aa) (xs:=x57) (ys:=([x46.2.1]:U Item)) Sy (λ_=>J) J J J q5 J J (raT oD))))
     exact ra1 11 (oO J (cV SA J J J J cl_lh k5 (ra1 12 (oO J (Nn Tf Tj (λ_=>J) (λ_=>J) J J J J cl_lh jf cl_sh J J (RA.done (by decide+kernel) (X 4 15 (lk h (wk [] [0,1,2,3,4,5,6,7,8,9,14] 15 J)))))))))
    refine X 1 11 ?_;replace h:=mi h Gh;refine X 7 11 (Sv h J (λQh h=>?_) (λQh h=>?_))
    .refine X 5 11 (sQ (cP (en:=aa) Sy J J (Y 2 11 (Sv h J (λQi h=>?_) (λQi h=>?_)))))
     .refine X 6 11 (Tg 6 10 J J J ?_);cases h;exact tD
     refine B h λx59 Qv h=>(X 5 11 (sO (be (rows:=List.map aa [x46.2.1]) (vs:=[.agg (aa x46.2.1)]) Sy SW J J J J J J (sO (bQ (en:=aa) (xs:=x2.1.Out) (ys:=([x46.2.1]:U Item)) Sy (λ_=>J) J J J Qv J J (Y 9 13 (Tg 6 10 J J J ?_)))))))
     cases h;exact tD
    refine X 7 11 (Tg 6 10 J J J ?_);cases h;exact tD
   refine X 7 12 (Sv h J (λQj h=>?_) (λQj h=>?_))
   .refine X 5 12 (sQ (cP (en:=an) Sz J J (Y 2 12 (Sv h J (λQk h=>?_) (λQk h=>?_)))))
    .refine X 6 12 (Tg 7 11 J J J ?_);cases h;exact tD
    refine B h λx36 uf h=>(X 10 12 (sO (be (rows:=List.map an [(⟨p3.Node,p3.Lane⟩:Choice)]) (vs:=[.agg (aV p3)]) Sz Tc J J J J J J (sO (bQ (en:=an) (xs:=x2.1.Choices) (ys:=([(⟨p3.Node,p3.Lane⟩:Choice)]:U Choice)) Sz (λ_=>J) J J J uf J J (Y 6 14 (sQ (cP (en:=an) Sz J J (Y 3 14 ?_)))))))))
    exact wu (hK2 (((x36).length:Int),x36) h) [] [0,1,2,3,4,5,6,7,8,13,10,11] 14 J
   exact X 1 12 (sx (hK2 (z29,x2.1.Choices) h))
  refine X 7 12 (Sv h J (λQl h=>?_) (λQl h=>?_))
  .refine B h λx32 jR h=>(B h λx33 qZ h=>(T.drawn mixed (k:=11) J ?_))
   apply Su 3 (bm 11 255);intro tZ
   .refine rq [0,3] 9 (rL [4,5,6,7,8,9,10] 4 J (r0 5 J (ai Sx J (rL [2,6,7,8,9,10] 2 J (ra2 1 6 ?_ ?_)))))
    .exact og 12 ⟨J,(ra1 6 (oO J (cF (AO jR) ⟨J,(r0 7 J (aB Sx (λ_=>J) J J qZ (raE tZ)))⟩)))⟩
    .exact oO J (cF (AO jR) ⟨J,(ra1 1 (og 12 ⟨J,(r0 7 J (aB Sx (λ_=>J) J J qZ (raT tZ)))⟩))⟩)
   exact ra1 8 (og 12 ⟨J,(ra1 9 (oO J (be (rows:=List.map aj [x33]) (vs:=[iI x33]) Sx SP J J J J J J (rq [10] 0 (RA.done (by decide+kernel) (T.fC 12 (wu (hK3 [x33] h) [] [0,1,2,3,4,5,6,7,8,9,10,11] 13 J)))))))⟩)
  exact X 1 12 (sx (hK3 x4.Out h))
 refine X 7 12 (Sv h J (λgU h=>?_) (λgU h=>?_))
 .refine B h λx9 hx9 h=>(B h λx10 ba h=>(B h λx11 bA h=>(B h λx12 bB h=>(X 1 12 (T.drawn mixed (k:=13) J (rq [0,1,5,7] 9 (rL [2,3,4,11,12] 2 J (r0 3 J (aB SA (λ_=>J) J J hx9 (rL [4,11,12] 4 J ?_))))))))))
  refine rL [6,9,10,11,12] 6 J (ra1 8 (og 12 ⟨J,(r0 9 J (aK (en:=aj) Sx J J J ba (ra1 10 (oO J (aU (en:=aj) (a:=x11) J J bA (aN S4 (c:=iI x11) J (r0 11 J (eo Sy (λ_=>J) J J J bB (rq [12] 0 (RA.done (by decide+kernel) (X 4 12 ?_)))))))))))⟩));refine sQ (ai Sy J (Y 2 12 (Sv h J (λic h=>?_) (λic h=>?_))))
  .refine X 6 12 (Tg 5 6 J J J ?_);cases h;exact tD
  refine B h λx14 cI h=>(X 4 12 (sQ (aB Sy (λ_=>J) J J cI (B h λx15 cU h=>(B h λx16 d7 h=>(B h λx17 cz h=>(B h λx18 b7 h=>(Y 8 12 (sQ (aK (en:=aj) Sx J J J cU (sO (aU (en:=aj) (a:=x16) J J d7 (aN S4 (c:=iI x16) J ?_)))))))))))))
  exact Y 1 12 (sQ (aK (en:=aj) Sx J J J cz (sO (eK (en:=aj) (a:=x18) (a':=IntKind.i64.wrap (x16+1)) S0 Tl J (vs:=[iI (IntKind.i64.wrap (x16+1))]) J J J b7 J J J (Y 1 12 (wu (hK4 (x14.Key,x14.Val,x14.Dep,(List.set x2.1.At x17 (IntKind.i64.wrap (x16+1))),x2.2) h) [] [0,1,2,3,10,11,4,5,7,8,9,6] 12 J))))))
 refine B h λx20 dS h=>(X 6 12 (sQ (aB Sx (λ_=>J) J J dS (B h λx23 bO h=>(B h λx24 aS h=>(Y 9 12 (sO (cV SA J J J J cY bO (sO (di SH J J J aS (sO (yU Sy J J aS (Y 2 12 ?_)))))))))))))
 refine Sv h J (λiP h=>?_) (λiP h=>?_)
 .refine X 6 12 (Tg 5 6 J J J ?_);cases h;exact tD
 refine B h λx25 eJ h=>(B h λx26 dB h=>(X 1 12 (T.drawn mixed (k:=19) J ?_)))
 apply Su 2 (bm 19 131071);intro qE;apply Su 3 (bm 19 65535);intro zL;apply Su 3 (bm 19 131069);intro Gi;apply Su 4 (bm 19 65533);intro zM;apply Su 4 (bm 19 65023);intro Gj;apply Su 4 (bm 19 81919);intro zN;apply Su 5 (bm 19 16383);intro zO;apply Su 5 (bm 19 81917);intro Gk;apply Su 5 (bm 19 73727);intro zP;apply Su 6 (bm 19 64639);intro zQ;apply Su 6 (bm 19 15871);intro zR;apply Su 6 (bm 19 16381);intro Gl;apply Su 6 (bm 19 8191);intro zS;apply Su 6 (bm 19 73725);intro Gm;apply Su 7 (bm 19 64575);intro zT;apply Su 7 (bm 19 64637);intro Gn;apply Su 7 (bm 19 15869);intro Gp;apply Su 7 (bm 19 7679);intro zU;apply Su 7 (bm 19 8189);intro Gq;apply Su 7 (bm 19 6143);intro Gr;apply Su 8 (bm 19 64573);intro Gs;apply Su 8 (bm 19 15487);intro zV;apply Su 8 (bm 19 7677);intro Gt;apply Su 8 (bm 19 5631);intro Gu;apply Su 9 (bm 19 15423);intro zW;apply Su 9 (bm 19 15485);intro Gv;apply Su 9 (bm 19 7295);intro zX;apply Su 10 (bm 19 15407);intro Gw;apply Su 10 (bm 19 15421);intro Gx;apply Su 10 (bm 19 7231);intro zY;apply Su 10 (bm 19 7293);intro Gy;apply Su 10 (bm 19 5247);intro Gz;apply Su 11 (bm 19 7215);intro GA;apply Su 11 (bm 19 7229);intro GB;apply Su 11 (bm 19 5183);intro GC
 .refine rq [0,2,3,5,10,12] 13 (ra3 1 4 11 ?_ ?_ ?_)
  .refine og 12 ⟨J,(ra2 4 11 ?_ ?_)⟩
   .exact og 12 ⟨J,(raE GC)⟩
   .exact og 12 ⟨J,(raE GA)⟩
  .refine og 12 ⟨J,(ra3 1 6 11 ?_ ?_ ?_)⟩
   .exact og 12 ⟨J,(raT GC)⟩
   .refine oO J (cV SA J J J J cY bO (ra3 1 7 11 ?_ ?_ ?_))
    .exact og 12 ⟨J,(raE Gz)⟩
    .refine oO J (di SH J J J aS (SR 76 6 x23 J J aS J (r0 8 J (aB Sy (λ_=>J) J J eJ (ra3 1 9 11 ?_ ?_ ?_)))))
     .exact og 13 ⟨J,(raE Gu)⟩
     .refine og 13 ⟨J,(ra3 1 11 16 ?_ ?_ ?_)⟩
      .exact og 13 ⟨J,(raE Gr)⟩
      .exact og 13 ⟨J,(raE Gq)⟩
      .exact og 13 ⟨J,(rL [11,13,14,15,17,18] 11 J (raE Gm))⟩
     .exact og 13 ⟨J,(raE Gt)⟩
    .exact og 12 ⟨J,(raE Gy)⟩
   .exact og 12 ⟨J,(raE GB)⟩
  .refine og 12 ⟨J,(ra3 1 4 13 ?_ ?_ ?_)⟩
   .exact og 12 ⟨J,(raT GA)⟩
   .exact og 12 ⟨J,(raT GB)⟩
   .refine oO J (cV SA J J J J cY bO (ra3 1 4 14 ?_ ?_ ?_))
    .exact og 12 ⟨J,(raE Gw)⟩
    .exact og 12 ⟨J,(raE Gx)⟩
    .exact oO J (di SH J J J aS (SR 83 6 x23 J J aS J (r0 15 J (eo Sy (λ_=>J) J J J dB (rL [4,6,7,8,9,16,17,18] 4 J (raE Gs))))))
 .refine ra2 6 11 ?_ ?_
  .exact oO J (cV SA J J J J cY bO (raT Gz))
  .exact og 12 ⟨J,(raE zY)⟩
 .refine ra3 1 6 13 ?_ ?_ ?_
  .exact og 12 ⟨J,(raT zY)⟩
  .exact oO J (cV SA J J J J cY bO (raT Gy))
  .exact oO J (cV SA J J J J cY bO (raT Gx))
 .refine ra2 4 13 ?_ ?_
  .exact og 12 ⟨J,(raT zY)⟩
  .exact oO J (cV SA J J J J cY bO (raT Gw))
 .refine ra2 7 11 ?_ ?_
  .exact oO J (di SH J J J aS (SR 76 6 x23 J J aS J (r0 8 J (aB Sy (λ_=>J) J J eJ (raT Gu)))))
  .exact og 12 ⟨J,(raE zX)⟩
 .refine ra3 1 7 13 ?_ ?_ ?_
  .exact og 12 ⟨J,(raT zX)⟩
  .exact oO J (di SH J J J aS (SR 76 6 x23 J J aS J (r0 8 J (aB Sy (λ_=>J) J J eJ (raT Gt)))))
  .exact oO J (cV SA J J J J cY bO (raE Gv))
 .refine ra2 6 13 ?_ ?_
  .exact oO J (cV SA J J J J cY bO (raT zX))
  .exact oO J (cV SA J J J J cY bO (raE zW))
 .refine ra3 1 6 14 ?_ ?_ ?_
  .exact og 12 ⟨J,(raT zW)⟩
  .exact oO J (cV SA J J J J cY bO (raT Gv))
  .exact oO J (di SH J J J aS (SR 83 6 x23 J J aS J (r0 15 J (eo Sy (λ_=>J) J J J dB (raT Gs)))))
 .refine ra2 4 14 ?_ ?_
  .exact og 12 ⟨J,(raT zW)⟩
  .exact oO J (di SH J J J aS (SR 83 6 x23 J J aS J (r0 15 J (eo Sy (λ_=>J) J J J dB (ra1 4 (og 13 ⟨J,(raE zT)⟩))))))
 .refine ra2 7 13 ?_ ?_
  .exact oO J (di SH J J J aS (SR 76 6 x23 J J aS J (r0 8 J (aB Sy (λ_=>J) J J eJ (raE zU)))))
  .exact oO J (cV SA J J J J cY bO (raE zV))
 .refine ra3 1 7 14 ?_ ?_ ?_
  .exact og 12 ⟨J,(raT zV)⟩
  .exact oO J (di SH J J J aS (SR 76 6 x23 J J aS J (r0 8 J (aB Sy (λ_=>J) J J eJ (raE Gp)))))
  .exact oO J (di SH J J J aS (SR 83 6 x23 J J aS J (r0 15 J (eo Sy (λ_=>J) J J J dB (raE Gn)))))
 .refine ra2 6 14 ?_ ?_
  .exact oO J (cV SA J J J J cY bO (raT zV))
  .exact oO J (di SH J J J aS (SR 83 6 x23 J J aS J (r0 15 J (eo Sy (λ_=>J) J J J dB (raT zT)))))
 .refine ra2 9 11 ?_ ?_
  .exact og 13 ⟨J,(raT Gr)⟩
  .exact og 13 ⟨J,(raT zU)⟩
 .refine ra3 1 9 13 ?_ ?_ ?_
  .exact og 13 ⟨J,(raT zU)⟩
  .exact og 13 ⟨J,(raT Gq)⟩
  .exact oO J (cV SA J J J J cY (ixf bO) (raT Gp))
 .refine ra2 7 14 ?_ ?_
  .exact oO J (di SH J J J aS (SR 76 6 x23 J J aS J (r0 8 J (aB Sy (λ_=>J) J J eJ (raE zR)))))
  .exact oO J (di SH J J J aS (SR 83 6 x23 J J aS J (r0 15 J (eo Sy (λ_=>J) J J J dB (raE zQ)))))
 .refine ra2 1 6 ?_ ?_
  .exact og 13 ⟨J,(raT zT)⟩
  .exact oO J (cV SA J J J J cY (ixf bO) (raT Gn))
 .refine ra2 11 16 ?_ ?_
  .exact og 13 ⟨J,(raE zS)⟩
  .exact og 13 ⟨J,(ra1 11 (og 13 ⟨J,(raE zP)⟩))⟩
 .refine ra3 1 13 16 ?_ ?_ ?_
  .exact og 13 ⟨J,(raT zS)⟩
  .exact oO J (cV SA J J J J cY (ixf bO) (raE Gl))
  .exact og 13 ⟨J,(raT Gm)⟩
 .refine ra2 9 13 ?_ ?_
  .exact og 13 ⟨J,(raT zS)⟩
  .exact oO J (cV SA J J J J cY (ixf bO) (raT zR))
 .refine ra3 1 9 14 ?_ ?_ ?_
  .exact og 13 ⟨J,(raT zR)⟩
  .exact og 13 ⟨J,(raT Gl)⟩
  .exact oO J (di SH J J J (atf aS aS) (SR 83 6 x23 J J (atf aS aS) J (r0 15 J (eo Sy (λ_=>J) J J J dB (rL [9,16,17,18] 9 J (raE zM))))))
 .refine ra2 1 7 ?_ ?_
  .exact og 13 ⟨J,(raT zQ)⟩
  .exact oO J (di SH J J J (atf aS aS) (SR 76 6 x23 J J (atf aS aS) J (r0 8 J (aB Sy (λ_=>J) J J eJ (rL [9,16,17,18] 9 J (raT zM))))))
 .exact ra1 6 (oO J (cV SA J J J J cY (ixf bO) (raT zQ)))
 .refine ra2 1 13 ?_ ?_
  .exact og 13 ⟨J,(raT zP)⟩
  .exact oO J (cV SA J J J J cY (ixf bO) (raE Gk))
 .refine ra2 13 16 ?_ ?_
  .exact oO J (cV SA J J J J cY (ixf bO) (raE zO))
  .exact og 13 ⟨J,(raT zP)⟩
 .refine ra3 1 14 16 ?_ ?_ ?_
  .exact og 13 ⟨J,(raT zO)⟩
  .exact oO J (di SH J J J (atf aS aS) (SR 83 6 x23 J J (atf aS aS) J (r0 15 J (eo Sy (λ_=>J) J J J dB (raT zM)))))
  .exact og 13 ⟨J,(raT Gk)⟩
 .refine ra2 9 14 ?_ ?_
  .exact og 13 ⟨J,(raT zO)⟩
  .exact oO J (di SH J J J (atf aS aS) (SR 83 6 x23 J J (atf aS aS) J (r0 15 J (eo Sy (λ_=>J) J J J dB (raE Gj)))))
 .exact ra1 7 (oO J (di SH J J J (atf aS aS) (SR 76 6 x23 J J (atf aS aS) J (r0 8 J (aB Sy (λ_=>J) J J eJ (raT Gj))))))
 .exact ra1 13 (oO J (cV SA J J J J cY (ixf bO) (raE zN)))
 .refine ra2 1 14 ?_ ?_
  .exact og 13 ⟨J,(raT zN)⟩
  .exact oO J (di SH J J J (atf aS aS) (SR 83 6 x23 J J (atf aS aS) J (r0 15 J (eo Sy (λ_=>J) J J J dB (raE Gi)))))
 .refine ra2 14 16 ?_ ?_
  .exact oO J (di SH J J J (atf aS aS) (SR 83 6 x23 J J (atf aS aS) J (r0 15 J (eo Sy (λ_=>J) J J J dB (raE zL)))))
  .exact og 13 ⟨J,(raT zN)⟩
 .exact ra1 14 (oO J (di SH J J J (atf aS aS) (SR 83 6 x23 J J (atf aS aS) J (r0 15 J (eo Sy (λ_=>J) J J J dB (raE qE))))))
 .exact ra1 9 (og 14 ⟨J,(raT zL)⟩)
 .refine ra2 1 16 ?_ ?_
  .exact og 14 ⟨J,(raT zL)⟩
  .exact og 14 ⟨J,(raT Gi)⟩
 .exact ra1 1 (og 14 ⟨J,(raT qE)⟩)
 .exact ra1 16 (og 14 ⟨J,(raT qE)⟩)
 exact ra1 17 (oO J (cV SA J J J J cY (ixf (ixf bO)) (ra1 18 (oO J (LO Tf Tj (λ_=>J) (λ_=>J) J J J cY (atf (atf aS aS) (atf aS aS)) cl_f J J (RA.done (by decide+kernel) (wu (hK4 (x25.Key,x25.Val,x25.Dep,x2.1.At,(fzd (fzd (fzd x2.2 x23 x24) x23 x24) x23 x26)) h) [] [0,1,2,3,10,11,4,5,7,8,9,14] 15 J)))))))
theorem AL {r:U Move}(h:pj p0 p1 p2=some r):FnO Qbl 47 [.agg (aD p0),sL (ak aa) p1,.agg (bD p2)] (.ref 0) [aR 97 2 aV r]:=by
 unfold pj at h;refine fT 0 15 Tryz.func47 Tryz.ntmps47 J (sQ (ai Sw J (Y 3 2 (itr (λcr:Int×(U Move)=>mkA 52 [(1,sL (ak aa) p1),(3,.ptr 0 0),(5,.ptr 1 0),(7,.ref 2),(16,sL ao p0.Nodes),(17,iI ((p0.Nodes).length:Int)),(18,iI cr.1)]) (λcr=>[.box (aD p0),.box (bD p2),aR 97 2 aV cr.2]) h (wk [(7,97,2)] [0,1,2] 2 J) (λcr v_28 h fZ=>?_)))));obtain⟨s1,s2⟩:=cr;replace h:mV p0 p1 p2 s1 s2=some v_28:=h;try dsimp only
 unfold mV at h;refine X 5 3 (Sv h J (λiZ h=>?_) (λiZ h=>?_))
 .refine B h λx4 hx4 h=>(X 6 3 (sQ (aB Sw (λ_=>J) J J hx4 (Y 9 3 (jn (Z:=Int) (λeG=>mkA 52 [(1,sL (ak aa) p1),(3,.ptr 0 0),(5,.ptr 1 0),(7,.ref 2),(8,iI s1),(10,iI eG),(16,sL ao p0.Nodes),(17,iI ((p0.Nodes).length:Int)),(18,iI s1)]) (λeG=>[.box (aD p0),.box (bD p2),aR 97 2 aV s2]) (λeG=>o7 p0 p1 s1 p2 s2 eG=some v_28) (λeG h=>?_) (λhK2=>?_))))))
  .revert h;revert eG;intro z5 h;replace h:o7 p0 p1 s1 p2 s2 z5=some v_28:=h;try dsimp only
   unfold o7 at h;refine X 5 3 (itr (λbl:Int×(U Move)=>mkA 52 [(1,sL (ak aa) p1),(3,.ptr 0 0),(5,.ptr 1 0),(7,.ref 2),(8,iI s1),(10,iI z5),(11,iI bl.1),(16,sL ao p0.Nodes),(17,iI ((p0.Nodes).length:Int)),(18,iI s1)]) (λbl=>[.box (aD p0),.box (bD p2),aR 97 2 aV bl.2]) h (wk [] [0,1,2] 3 J) (λbl v_37 h fE=>?_));obtain⟨s6,s7⟩:=bl;replace h:lu p0 p1 s1 p2 z5 s6 s7=some v_37:=h;try dsimp only
   unfold lu at h;refine X 7 3 (Sv h J (λdF h=>?_) (λdF h=>?_))
   .refine B h λx9 hx9 h=>(X 17 3 (sO (cD (xh hx9) ⟨J,(Y 11 4 (Sv h J (λeR h=>?_) (λeR h=>?_)))⟩)))
    .exact B h λx10 ba h=>(X 3 5 (sO (be (rows:=List.map aV [(⟨s1,s6⟩:Move)]) (vs:=[.agg [iI s1,iI s6]]) SM Tw J J J J J J (sO (bQ (en:=aV) (xs:=s7) (ys:=([(⟨s1,s6⟩:Move)]:U Move)) SM (λ_=>J) J J J ba J J (Y 7 7 (lk h (wk [] [0,1,6] 7 J))))))))
    exact X 6 5 (lk h (wk [] [0,1,2] 5 J))
   refine X 1 3 ?_;replace h:=mi h fE;exact X 4 3 (lk h (wk [] [0,1,2] 3 J))
  refine X 7 4 (Sv h J (λoA h=>?_) (λoA h=>?_))
  .exact X 3 4 (sQ (ai Sx J (Y 2 4 (wu (hK2 ((x4.In).length:Int) h) [] [0,1,2] 4 J))))
  exact X 1 4 (wu (hK2 1 h) [] [0,1,2] 4 J)
 refine X 1 3 ?_;replace h:=mi h fZ;refine X 5 3 ?_;cases h;exact tO [] [2] 3
theorem ji {p0:Int}(h:hJ p0=some r):Fn Qbl 46 [iI p0] (.tup [.agg (ca r.1),iI r.2]):=by unfold hJ at h;refine fT 0 12 Tryz.func46 Tryz.ntmps46 J ?_;cases h;exact tD
theorem lx {p0 p1 r:Int}(h:sB p0 p1=some r):Fn Qbl 49 [iI p0,iI p1] (iI r):=by
 unfold sB at h;refine fT 0 0 Tryz.func49 Tryz.ntmps49 J ?_;refine B h λx2 hx2 h=>(X 8 0 (sQ (ii J J hx2 (Y 8 0 (Sv h J (λae h=>?_) (λae h=>?_))))))
 .refine X 11 0 ?_;cases h;exact tD
 refine X 6 0 ?_;cases h;exact tD
theorem G7 {p0:Int}{r:U Item}(h:rv p0=some r):FnO Qbl 99 [.nils,iI p0] (.ref 0) [aR 75 3 aa r]:=by
 unfold rv at h;refine fT 0 10 Tryz.func99 Tryz.ntmps99 J (Sv h J (λae h=>?_) (λae h=>?_))
 .cases h
 refine X 6 0 (sO (vS Sy J (Y 11 0 (Sv h J (λab h=>?_) (λab h=>?_)))))
 .refine B h λx1 hx1 h=>(B h λx2 hx2 h=>(X 3 0 (sO (vS Sy J (sO (A7 Sy J J (Y 1 0 (sO (Dt (en:=aa) (z0:=(⟨0,0,0⟩:Item)) Sy Vc SW (λ_=>J) J J hx1 J J (Y 2 1 (sO (BI (en:=aa) (xs:=x1) Sy J J J hx2 J J (Y 7 2 ?_)))))))))))))
  cases h;exact tO [] [1] 2
 refine X 6 0 ?_;cases h;exact tO [(0,75,3)] [0] 0
theorem Hs {p0:U (U Item)}{r:U Item}(h:rM p0=some r):FnO Qbl 55 [sL (ak aa) p0] (.ref 0) [aR 75 3 aa r]:=by
 unfold rM at h;refine fT 0 12 Tryz.func55 Tryz.ntmps55 J (sQ (ai SA J (Y 3 0 (itr (λam:Int×Int=>mkA 36 [(0,sL (ak aa) p0),(3,iI am.1),(9,sL (ak aa) p0),(10,iI ((p0).length:Int)),(11,iI am.2)]) (λam=>[]) h (wk [] [] 0 J) (λam v_6 h bu=>?_)))));obtain⟨s1,s2⟩:=am;replace h:j4 p0 s1 s2=some v_6:=h;try dsimp only
 unfold j4 at h;refine X 5 0 (Sv h J (λbN h=>?_) (λbN h=>?_))
 .refine B h λx4 hx4 h=>(X 5 0 (sQ (aB SA (λ_=>J) J J hx4 (Y 7 0 (sQ (ai Sy J (Y 8 0 (Sv h J (λbi h=>?_) (λbi h=>?_)))))))))
  .cases h
  exact X 5 0 (lk h (wk [] [] 0 J))
 refine X 1 0 ?_;replace h:=mi h bu;refine B h λx6 hx6 h=>(X 3 0 (sO (cG [] 0 1 (SG (G7 hx6)) ⟨J,(Y 6 1 (sQ (ai SA J (Y 3 1 (itr (λbp:Int×(U Item)=>mkA 36 [(6,.ref 0),(25,sL (ak aa) p0),(26,iI ((p0).length:Int)),(27,iI bp.1)]) (λbp=>[aR 75 3 aa bp.2]) h (wk [] [0] 1 J) (λbp v_13 h gZ=>?_))))))⟩)))
 obtain⟨s7,s8⟩:=bp;replace h:j5 p0 s7 s8=some v_13:=h;try dsimp only
 unfold j5 at h;refine X 5 1 (Sv h J (λg6 h=>?_) (λg6 h=>?_))
 .exact B h λx10 ba h=>(X 5 1 (sQ (aB SA (λ_=>J) J J ba (B h λx11 bA h=>(Y 6 1 (sO (bQ (en:=aa) (xs:=s8) (ys:=x10) Sy (λ_=>J) J J J bA J J (Y 6 2 (lk h (wk [] [1] 2 J))))))))))
 refine X 1 1 ?_;replace h:=mi h gZ;refine X 5 1 ?_;cases h;exact tO [] [0] 1
theorem Ha {p1:U Choice}{r:Int}(h:rA p0 p1=some r):Fn Qbl 60 [.agg (aD p0),sL an p1] (iI r):=by
 unfold rA at h;refine fT 0 0 Tryz.func60 Tryz.ntmps60 J ?_;refine B h λx2 hx2 h=>(X 9 0 (sO (cO 1 (AG hx2) ⟨J,(Y 11 2 (Sv h J (λae h=>?_) (λae h=>?_)))⟩)))
 .refine X 5 2 ?_;cases h;exact tD
 refine X 5 2 (sQ (ai Sz J (Y 2 2 (Sv h J (λab h=>?_) (λab h=>?_)))))
 .refine X 4 2 ?_;cases h;exact tD
 refine X 5 2 (sQ (ai Sz J (Y 3 2 (itr (λcB:Int=>mkA 64 [(2,.ptr 0 0),(20,sL an p1),(21,iI ((p1).length:Int)),(22,iI cB)]) (λcB=>[.box (aD p0)]) h (wk [] [0] 2 J) (λcB v_30 h eF=>?_)))));revert eF h;revert cB;intro s3 h eF;replace h:rp p0 p1 s3=some v_30:=h;try dsimp only
 unfold rp at h;refine X 5 1 (Sv h J (λja h=>?_) (λja h=>?_))
 .refine B h λx5 hx5 h=>(X 5 1 (sQ (aB Sz (λ_=>J) J J hx5 (Y 5 1 ?_))))
  obtain⟨zI,hz,h⟩:=bind_some h;revert hz h;revert zI;intro c7 hz h;refine j1 [(2,.ptr 0 0),(8,.ptr 1 0),(20,sL an p1),(21,iI ((p1).length:Int)),(22,iI s3),(46,.bool c7)] [.box (aD p0),.box (an x5)] ?_ (λhK=>?_)
  .refine Sv h J (λuc h=>?_) (λuc h=>?_)
   .refine X 4 2 ?_;replace h:=mi h eF;cases h;exact tD
   refine X 1 2 ?_;obtain⟨zJ,hz,h⟩:=bind_some h;revert hz h;revert zJ;intro c9 hz h;refine j1 [(2,.ptr 0 0),(20,sL an p1),(21,iI ((p1).length:Int)),(22,iI s3),(62,.bool c9)] [.box (aD p0)] ?_ (λhK=>?_)
   .refine Sv h J (λeR h=>?_) (λeR h=>?_)
    .refine X 4 1 ?_;replace h:=mi h eF;cases h;exact tD
    exact X 5 1 (lk h (wk [] [0] 1 J))
   refine X 1 2 ?_;rcases bf (decide (x5.Lane<0))with aJ|aJ
   .replace hz:=bH hz aJ;refine T.drawn mixed (k:=16) J (rq [0] 15 (ra1 1 (og 2 ⟨J,(rq [2,3] 12 (r2 4 J aJ (r2 5 J aJ (r2 6 J aJ (r2 7 J aJ (r2 8 J aJ ?_))))))⟩)));exact r2 9 J aJ (r2 10 J aJ (r2 11 J aJ (r2 12 J aJ (r2 13 J aJ (r2 14 J aJ (r0 15 J (bg (v:=.bool true) J aJ J (RA.done (by decide+kernel) (T.weakR hK (SD [] [0] (by decide) (bP _) J ⟨al J,cK J,bE J,bE J,dl ((congrArg (λp=>p) (QH hz)).symm),tqz⟩ (bL (aD p0) J (aA))))))))))))
   replace hz:=bG hz aJ;refine B hz λx8 hx8 hz=>(T.drawn mixed (k:=16) J ?_)
   apply Su 0 (bm 16 65535);intro mD;apply Su 4 (bm 16 4095);intro g7;apply Su 5 (bm 16 4063);intro mC;apply Su 7 (bm 16 895);intro uC;apply Su 7 (bm 16 511);intro uD
   .refine rq [0] 15 (ra1 1 (og 2 ⟨J,(rq [2,3] 12 (ry 4 aJ J (ry 6 aJ J (ry 8 aJ J (ra3 5 7 9 ?_ ?_ ?_)))))⟩))
    .refine oy 2 aJ J (ra2 7 9 ?_ ?_)
     .exact oy 2 aJ J (raE uD)
     .exact oy 2 aJ J (raE uC)
    .refine oy 2 aJ J (ra2 5 9 ?_ ?_)
     .exact oy 2 aJ J (raT uD)
     .exact oy 2 aJ J (r1 10 J aJ (aB Sw (λ_=>J) J J hx8 (ry 11 aJ J (raE mC))))
    .refine oy 2 aJ J (ra2 5 7 ?_ ?_)
     .exact oy 2 aJ J (raT uC)
     .exact oy 2 aJ J (r1 10 J aJ (aB Sw (λ_=>J) J J hx8 (ry 11 aJ J (raT mC))))
   .exact ra1 9 (oy 2 aJ J (r1 10 J aJ (aB Sw (λ_=>J) J J hx8 (ry 11 aJ J (raE g7)))))
   .exact ra1 7 (oy 2 aJ J (r1 10 J aJ (aB Sw (λ_=>J) J J hx8 (ry 11 aJ J (raT g7)))))
   .refine ra2 5 12 ?_ ?_
    .exact oy 2 aJ J (raT g7)
    .exact oy 2 aJ J (r1 13 J aJ (ai Sx J (ra1 5 (oy 2 aJ J (ry 14 aJ J (r0 15 J (aP (v:=.bool (decide (x5.Lane>=((x8.In).length:Int)))) J aJ J (raE mD))))))))
   .exact ra1 12 (oy 2 aJ J (r1 13 J aJ (ai Sx J (ry 14 aJ J (r0 15 J (aP (v:=.bool (decide (x5.Lane>=((x8.In).length:Int)))) J aJ J (raT mD)))))))
   exact RA.done (by decide+kernel) (T.weakR hK (SD [] [0] (by decide) (bP _) J ⟨al J,cK J,bE J,bE J,dl ((congrArg (λp=>p) (QH hz)).symm),tqz⟩ (bL (aD p0) J (aA))))
  refine X 6 2 (gi 29 hz (λed hz=>?_) (λed hz=>?_))
  .refine Yp 18 2 ?_;cases hz;exact sx hK
  refine Y 4 2 (yQ J (ai Sw J (Yp 3 2 (gi 37 hz (λgB hz=>?_) (λgB hz=>?_)))))
  .refine Yp 10 2 ?_;cases hz;exact sx hK
  refine B hz λx6 hx6 hz=>(Y 4 2 (yQ J (aB Sw (λ_=>J) J J hx6 (Yp 5 2 ?_))))
  cases hz;exact sx hK
 refine X 1 1 ?_;replace h:=mi h eF;refine X 4 1 ?_;cases h;exact tD
theorem G6 {p0:Int}{r:U Choice}(h:ru p0=some r):FnO Qbl 142 [.nils,iI p0] (.ref 0) [aR 50 2 an r]:=by
 unfold ru at h;refine fT 0 10 Tryz.func142 Tryz.ntmps142 J (Sv h J (λae h=>?_) (λae h=>?_))
 .cases h
 refine X 6 0 (sO (vS Sz J (Y 11 0 (Sv h J (λab h=>?_) (λab h=>?_)))))
 .refine B h λx1 hx1 h=>(B h λx2 hx2 h=>(X 3 0 (sO (vS Sz J (sO (A7 Sz J J (Y 1 0 (sO (Dt (en:=an) (z0:=(⟨0,0⟩:Choice)) Sz Vc Tc (λ_=>J) J J hx1 J J (Y 2 1 (sO (BI (en:=an) (xs:=x1) Sz J J J hx2 J J (Y 7 2 ?_)))))))))))))
  cases h;exact tO [] [1] 2
 refine X 6 0 ?_;cases h;exact tO [(0,50,2)] [0] 0
theorem He {p0:U (U Choice)}{r:U Choice}(h:rB p0=some r):FnO Qbl 116 [sL (ak an) p0] (.ref 0) [aR 50 2 an r]:=by
 unfold rB at h;refine fT 0 12 Tryz.func116 Tryz.ntmps116 J (sQ (ai Th J (Y 3 0 (itr (λam:Int×Int=>mkA 36 [(0,sL (ak an) p0),(3,iI am.1),(9,sL (ak an) p0),(10,iI ((p0).length:Int)),(11,iI am.2)]) (λam=>[]) h (wk [] [] 0 J) (λam v_6 h bu=>?_)))));obtain⟨s1,s2⟩:=am;replace h:jZ p0 s1 s2=some v_6:=h;try dsimp only
 unfold jZ at h;refine X 5 0 (Sv h J (λbN h=>?_) (λbN h=>?_))
 .refine B h λx4 hx4 h=>(X 5 0 (sQ (aB Th (λ_=>J) J J hx4 (Y 7 0 (sQ (ai Sz J (Y 8 0 (Sv h J (λbi h=>?_) (λbi h=>?_)))))))))
  .cases h
  exact X 5 0 (lk h (wk [] [] 0 J))
 refine X 1 0 ?_;replace h:=mi h bu;refine B h λx6 hx6 h=>(X 3 0 (sO (cG [] 0 1 (SG (G6 hx6)) ⟨J,(Y 6 1 (sQ (ai Th J (Y 3 1 (itr (λbp:Int×(U Choice)=>mkA 36 [(6,.ref 0),(25,sL (ak an) p0),(26,iI ((p0).length:Int)),(27,iI bp.1)]) (λbp=>[aR 50 2 an bp.2]) h (wk [] [0] 1 J) (λbp v_13 h gZ=>?_))))))⟩)))
 obtain⟨s7,s8⟩:=bp;replace h:jX p0 s7 s8=some v_13:=h;try dsimp only
 unfold jX at h;refine X 5 1 (Sv h J (λg6 h=>?_) (λg6 h=>?_))
 .exact B h λx10 ba h=>(X 5 1 (sQ (aB Th (λ_=>J) J J ba (B h λx11 bA h=>(Y 6 1 (sO (bQ (en:=an) (xs:=s8) (ys:=x10) Sz (λ_=>J) J J J bA J J (Y 6 2 (lk h (wk [] [1] 2 J))))))))))
 refine X 1 1 ?_;replace h:=mi h gZ;refine X 5 1 ?_;cases h;exact tO [] [0] 1
theorem Hz {p3:U Choice}{r:State×Int}(h:o8 p0 p1 p2 p3=some r):Fn Qbl 61 [.agg (aD p0),sL (ak aa) p1,.agg (bD p2),sL an p3] (.tup [.agg (bD r.1),iI r.2]):=by
 unfold o8 at h;refine fT 0 12 Tryz.func61 Tryz.ntmps61 J (sQ (ai Sz J (Y 1 3 (sQ (ai Sz J (Y 3 3 (Sv h J (λae h=>?_) (λae h=>?_))))))))
 .refine X 6 3 ?_;cases h;exact tD
 refine B h λx2 hx2 h=>(X 6 3 (sO (be (rows:=List.map (ak an) [p2.Choices,p3]) (vs:=[sL an p2.Choices,sL an p3]) Th TS J J J J J J (sO (cO 4 (He hx2) ⟨J,(Y 4 5 (itr (λbl:(U Int)×(U (U Item))×(U Memory)×(U Choice)×(U Item)=>mkA 94 [(1,sL (ak aa) p1),(4,.ptr 0 0),(6,.ptr 1 0),(8,.ptr 2 0),(10,.ref 3)]) (λbl=>[.box (aD p0),.box [sL aj bl.1,sL (ak aa) bl.2.1,sL aq bl.2.2.1,sL an bl.2.2.2.1,sL aa bl.2.2.2.2],.box [.nils,.nils,.nils,.nils,.nils],aR 50 2 an x2]) h (wk [] [0,1,2,4] 5 J) (λbl v_37 h fE=>?_)))⟩)))))
 obtain⟨s3,s4,s5,s6,s7⟩:=bl;replace h:ll p0 p1 x2 s3 s4 s5 s6 s7=some v_37:=h;try dsimp only
 unfold ll at h;refine X 5 4 (sQ (ai Sz J (Y 1 4 (sQ (cP (en:=an) Sz J J (Y 2 4 (Sv h J (λdF h=>?_) (λdF h=>?_))))))))
 .refine B h λx10 ba h=>(B h λx11 bA h=>(X 7 4 (sQ (ai Sz J (sQ (aK (en:=an) Sz J J J ba (sO (aU (en:=an) (a:=x11) J J bA (eM Ut TW J (cs:=(an x11)) J (B h λx13 dJ h=>(Y 12 4 (sO (cO 5 (AL dJ) ⟨J,(Y 6 6 ?_)⟩)))))))))))))
  refine sQ (cP (en:=aV) SM J J (Y 4 6 (itr (λiY:Int×Int=>mkA 94 [(1,sL (ak aa) p1),(4,.ptr 0 0),(6,.ptr 1 0),(8,.ptr 2 0),(10,.ref 3),(11,.ptr 4 0),(12,iI iY.1),(13,.ref 5),(14,iI iY.2)]) (λiY=>[.box (aD p0),.box [sL aj s3,sL (ak aa) s4,sL aq s5,sL an s6,sL aa s7],.box [.nils,.nils,.nils,.nils,.nils],aR 50 2 an x2,.box (an x11),aR 97 2 aV x13]) h (wk [] [0,1,2,3,4,5] 6 J) (λiY v_48 h Qm=>?_))));obtain⟨s14,s15⟩:=iY;replace h:mK p0 p1 s3 s4 s5 s6 s7 x11 x13 s14 s15=some v_48:=h;try dsimp only
  unfold mK at h;refine X 6 6 (Sv h J (λQn h=>?_) (λQn h=>?_))
  .refine B h λx18 b7 h=>(B h λx19 cM h=>(X 7 6 (sQ (aK (en:=aV) SM J J J b7 (sO (aU (en:=aV) (a:=x19) J J cM (eM Ti Te J (cs:=(aV x19)) J (B h λx20 dS h=>(Y 3 6 (j1 [(1,sL (ak aa) p1),(4,.ptr 0 0),(6,.ptr 1 0),(8,.ptr 2 0),(10,.ref 3),(11,.ptr 4 0),(12,iI s14),(13,.ref 5),(14,iI s15),(77,.bool ((x20.Kind !=6)||((x19.Node==x11.Node)&&x19.Lane==x11.Lane)))] [.box (aD p0),.box [sL aj s3,sL (ak aa) s4,sL aq s5,sL an s6,sL aa s7],.box [.nils,.nils,.nils,.nils,.nils],aR 50 2 an x2,.box (an x11),aR 97 2 aV x13] ?_ (λhK=>?_)))))))))))
   .refine Sv h J (λQo h=>?_) (λQo h=>?_)
    .exact X 9 6 (lk h (wk [] [0,1,2,3,4,5] 6 J))
    exact X 6 6 (lk h (wk [] [0,1,2,3,4,5] 6 J))
   refine X 6 7 (sQ (aB Sw (λ_=>J) J J dS (Y 4 7 ?_)));rcases bf (x20.Kind !=6)with f5|f5
   .exact gT 64 f5 (Yp 14 7 (T.weakR hK (SD [] [0,1,2,3,4,5] (by decide) (bP _) J ⟨cK J,al J,al J,al J,bX J,al J,bE J,bX J,bE J,dl (by simp only[f5,bz,if_true,if_false,QI]),tqz⟩ (bL (aD p0) J (bL [sL aj s3,sL (ak aa) s4,sL aq s5,sL an s6,sL aa s7] J (bL [.nils,.nils,.nils,.nils,.nils] J (fD J J (bL (an x11) J (fD J J (aA))))))))))
   refine yg 7 f5 (yg 7 f5 (yg 7 f5 (yg 7 f5 (yg 7 f5 (yg 7 f5 ?_)))));rcases bf (x19.Node==x11.Node)with ud|ud
   .exact gT 70 ud (Y 5 7 (gF 64 f5 (Yp 3 7 (T.weakR hK (SD [] [0,1,2,3,4,5] (by decide) (bP _) J ⟨cK J,al J,al J,al J,bX J,al J,bE J,bX J,bE J,dl (by simp only[f5,ud,bz,if_true,if_false,QI]),tqz⟩ (bL (aD p0) J (bL [sL aj s3,sL (ak aa) s4,sL aq s5,sL an s6,sL aa s7] J (bL [.nils,.nils,.nils,.nils,.nils] J (fD J J (bL (an x11) J (fD J J (aA))))))))))))
   exact gF 70 ud (Y 5 7 (gF 64 f5 (Yp 3 7 (T.weakR hK (SD [] [0,1,2,3,4,5] (by decide) (bP _) J ⟨cK J,al J,al J,al J,bX J,al J,bE J,bX J,bE J,dl (by simp only[f5,ud,bz,if_true,if_false,QI]),tqz⟩ (bL (aD p0) J (bL [sL aj s3,sL (ak aa) s4,sL aq s5,sL an s6,sL aa s7] J (bL [.nils,.nils,.nils,.nils,.nils] J (fD J J (bL (an x11) J (fD J J (aA))))))))))))
  refine X 1 6 ?_;replace h:=mi h Qm;refine X 6 6 (Sv h J (λtV h=>?_) (λtV h=>?_))
  .refine X 6 6 ?_;replace h:=mi h fE;cases h;exact tD
  refine B h λx22 eS h=>(B h λx23 bO h=>(B h λx24 aS h=>(X 1 6 (T.drawn mixed (k:=12) J (rq [1,3,4] 9 (r0 5 J (aK (en:=aV) SM J J J eS (rL [0,7,8,9,10,11] 0 J (rL [2,7,8,9,10,11] 2 J (ra1 6 ?_))))))))))
  exact oO J (aU (en:=aV) (a:=x23) J J bO (eM Ti Te J (cs:=(aV x23)) J (ra1 7 (oO J (cD (xh aS) ⟨J,(rq [8,9,10] 1 (ra1 11 (og 6 ⟨J,(RA.done (by decide+kernel) (lk h (wk [] [0,1,2,3] 6 J)))⟩)))⟩)))))
 refine X 1 4 ?_;replace h:=mi h fE;refine X 6 4 ?_;cases h;exact tD
theorem H8 {p0:Shop}{p1:Happening}(h:pt p0 p1=some r):Fn Qbl 19 [.agg (ca p0),.agg (cJ p1)] (.tup [.agg (ca r.1),iI r.2]):=by
 unfold pt at h;refine fT 0 8 Tryz.func19 Tryz.ntmps19 J (j1 [(2,.ptr 0 0),(3,.ptr 1 0),(4,.ptr 2 0),(37,.bool ((decide (p1.Kind<1))||decide (p1.Kind> 7)))] [.box (ca p0),.box (cJ p1),.box [.nils,iI 0,iI 0,.nils,.nils,.nils,.nils,.nils,.nils,.nils,.nils,iI 0,iI 0,iI 0,iI 0,iI 0,.nils,.bool false]] ?_ (λhK=>?_))
 .refine Sv h J (λab h=>?_) (λab h=>?_)
  .refine X 6 3 ?_;cases h;exact tD
  refine X 11 3 (Sv h J (λap h=>?_) (λap h=>?_))
  .refine X 6 3 ?_;cases h;exact tD
  refine X 17 3 (Sv h J (λaC h=>?_) (λaC h=>?_))
  .refine B h λx3 hx3 h=>(X 8 3 (sO (cO 3 (AL hx3) ⟨J,(Y 6 4 (sQ (cP (en:=aV) SM J J (Y 2 4 (Sv h J (λaI h=>?_) (λaI h=>?_))))))⟩)))
   .refine B h λx5 hx5 h=>(X 3 4 (sO (cD (ji hx5) ⟨J,(Y 5 4 ?_)⟩)))
    cases h;exact tD
   refine B h λx6 hx6 h=>(B h λx7 hx7 h=>(B h λx8 hx8 h=>(B h λx9 hx9 h=>(X 1 4 (T.drawn mixed (k:=20) J ?_)))))
   apply Su 7 (bm 20 8191);intro hS6;apply Su 9 (bm 20 2047);intro hS7;apply Su 10 (bm 20 2039);intro hS8;apply Su 10 (bm 20 2045);intro hS9;apply Su 10 (bm 20 2015);intro cN
   .refine rq [0,2,4,6,7,9] 14 (r0 10 J (cP (en:=aV) SM J J (rL [8,11,12,13,14,15,16,17,18,19] 8 J (ra4 1 3 5 11 ?_ ?_ ?_ ?_))))
    .refine og 4 ⟨J,(ra3 3 5 11 ?_ ?_ ?_)⟩
     .exact og 4 ⟨J,(raE cN)⟩
     .exact og 4 ⟨J,(raE hS8)⟩
     .exact oO J (cF (lx hx6) ⟨J,(r0 12 J (aK (en:=aV) SM J J J hx7 (rL [3,14,15,16,17,18,19] 3 J (rL [5,14,15,16,17,18,19] 5 J (raE hS6)))))⟩)
    .refine og 4 ⟨J,(ra3 1 5 11 ?_ ?_ ?_)⟩
     .exact og 4 ⟨J,(raT cN)⟩
     .exact og 4 ⟨J,(raE hS9)⟩
     .exact oO J (cF (lx hx6) ⟨J,(r0 12 J (aK (en:=aV) SM J J J hx7 (rL [1,14,15,16,17,18,19] 1 J (rL [5,14,15,16,17,18,19] 5 J (raT hS6)))))⟩)
    .refine og 4 ⟨J,(ra3 1 3 11 ?_ ?_ ?_)⟩
     .exact og 4 ⟨J,(raT hS8)⟩
     .exact og 4 ⟨J,(raT hS9)⟩
     .exact oO J (cF (lx hx6) ⟨J,(r0 12 J (aK (en:=aV) SM J J J hx7 (rL [1,14,15,16,17,18,19] 1 J (rL [3,14,15,16,17,18,19] 3 J (raT hS6)))))⟩)
    .exact oO J (cF (lx hx6) ⟨J,(r0 12 J (aK (en:=aV) SM J J J hx7 (rL [1,14,15,16,17,18,19] 1 J (rL [3,14,15,16,17,18,19] 3 J (rL [5,14,15,16,17,18,19] 5 J (raT hS6))))))⟩)
   .refine ra2 5 11 ?_ ?_
    .exact og 4 ⟨J,(raE hS7)⟩
    .exact oO J (cF (lx hx6) ⟨J,(r0 12 J (aK (en:=aV) SM J J J hx7 (rL [5,14,15,16,17,18,19] 5 J (raT hS6))))⟩)
   .refine ra2 1 11 ?_ ?_
    .exact og 4 ⟨J,(raT hS7)⟩
    .exact oO J (cF (lx hx6) ⟨J,(r0 12 J (aK (en:=aV) SM J J J hx7 (rL [1,14,15,16,17,18,19] 1 J (raT hS6))))⟩)
   .refine ra2 3 11 ?_ ?_
    .exact og 4 ⟨J,(raT hS7)⟩
    .exact oO J (cF (lx hx6) ⟨J,(r0 12 J (aK (en:=aV) SM J J J hx7 (rL [3,14,15,16,17,18,19] 3 J (raT hS6))))⟩)
   .exact ra1 11 (oO J (cF (lx hx6) ⟨J,(r0 12 J (aK (en:=aV) SM J J J hx7 (raT hS6)))⟩))
   refine ra1 13 (oO J (aU (en:=aV) (a:=x8) J J hx8 (eM Ti Te J (cs:=(aV x8)) J (ra1 14 (oO J (cD (xh hx9) ⟨J,(rq [15,16,17,18] 1 (ra1 19 (og 4 ⟨J,(RA.done (by decide+kernel) (X 6 4 ?_))⟩)))⟩))))));cases h;exact tD
  refine X 5 3 (Sv h J (λot h=>?_) (λot h=>?_))
  .refine X 7 3 (Sv h J (λfY h=>?_) (λfY h=>?_))
   .refine B h λx11 bA h=>(X 3 3 (sO (cD (ji bA) ⟨J,(Y 5 3 ?_)⟩)))
    cases h;exact tD
   refine B h λx14 cI h=>(B h λx15 cU h=>(X 2 3 (T.drawn mixed (k:=21) J ?_)))
   apply Su 3 (bm 21 262143);intro jc
   .refine rq [0,2,4,6,7,9] 15 (rL [8,11,12,13,14,15,16,18,19,20] 8 J (rL [10,11,12,13,14,15,16,18,19,20] 10 J (r0 11 J (eo Sz (λ_=>J) J J J cI (rL [1,12,13,14,15,16,18,19,20] 1 J (rL [3,12,13,14,15,16,18,19,20] 3 J (rL [5,12,13,14,15,16,18,19,20] 5 J (ra2 12 17 ?_ ?_))))))))
    .exact oO J (cD (vo cU) ⟨J,(rq [13,14,15,16] 4 (ra1 17 (og 3 ⟨J,(raE jc)⟩)))⟩)
    .exact og 3 ⟨J,(ra1 12 (oO J (cD (vo cU) ⟨J,(rq [13,14,15,16] 3 (raT jc))⟩)))⟩
   refine ra1 18 (og 4 ⟨J,(rq [19,20] 0 (RA.done (by decide+kernel) (X 6 4 (Sv h J (λg6 h=>?_) (λg6 h=>?_)))))⟩)
   .refine B h λx17 cz h=>(X 4 4 (sO (cD (ji cz) ⟨J,(Y 5 4 ?_)⟩)))
    cases h;exact tD
   refine X 7 4 (sQ (ai Sz J (Y 13 4 ?_)));cases h;exact tD
  refine X 5 3 (Sv h J (λfF h=>?_) (λfF h=>?_))
  .refine X 7 3 (Sv h J (λfG h=>?_) (λfG h=>?_))
   .refine B h λx19 cM h=>(X 3 3 (sO (cD (ji cM) ⟨J,(Y 5 3 ?_)⟩)))
    cases h;exact tD
   refine X 8 3 (Sv h J (λf0 h=>?_) (λf0 h=>?_))
   .refine B h λx21 je h=>(X 3 3 (sO (cD (ji je) ⟨J,(Y 5 3 ?_)⟩)))
    cases h;exact tD
   refine B h λx23 bO h=>(X 9 3 (sO (cF (xy bO) ⟨J,(Y 12 3 (Sv h J (λov h=>?_) (λov h=>?_)))⟩)))
   .refine B h λx25 eJ h=>(X 4 3 (sO (cD (ji eJ) ⟨J,(Y 5 3 ?_)⟩)))
    cases h;exact tD
   refine B h λx28 k0 h=>(B h λx29 Ah h=>(X 8 3 (sQ (ii J J k0 (Y 4 3 (sO (cD (Cc Ah) ⟨J,(Y 13 3 (Sv h J (λcC h=>?_) (λcC h=>?_)))⟩)))))))
   .refine B h λx31 jd h=>(X 4 4 (sO (cD (ji jd) ⟨J,(Y 5 4 ?_)⟩)))
    cases h;exact tD
   refine X 6 4 (sQ (ai Sz J (Y 11 4 ?_)));cases h;exact tD
  refine X 5 3 (Sv h J (λbU h=>?_) (λbU h=>?_))
  .refine B h λx33 qZ h=>(X 4 3 (sO (cD (Bg qZ) ⟨J,(Y 19 3 (Sv h J (λua h=>?_) (λua h=>?_)))⟩)))
   .refine X 28 3 ?_;cases h;exact tD
   refine X 7 3 ?_;cases h;exact tD
  refine X 5 3 (Sv h J (λi7 h=>?_) (λi7 h=>?_))
  .refine B h λx35 oB h=>(X 9 3 (sO (cO 3 (A5 oB) ⟨J,(Y 12 4 (Sv h J (λoz h=>?_) (λoz h=>?_)))⟩)))
   .refine B h λx37 oC h=>(X 4 4 (sO (cD (ji oC) ⟨J,(Y 5 4 ?_)⟩)))
    cases h;exact tD
   refine B h λx38 Qw h=>(X 5 4 (RS.fC 3 (sO (be (rows:=List.map (ak aa) [p0.Told,x35.1]) (vs:=[sL aa p0.Told,sL aa x35.1]) SA SU J J J J J J (sO (cO 5 (Hs Qw) ⟨J,(Y 9 6 ?_)⟩))))))
   cases h;exact tD
  refine X 5 3 (Sv h J (λkV h=>?_) (λkV h=>?_))
  .refine B h λx40 ux h=>(X 6 3 (sO (cD (xD ux) ⟨J,(Y 13 3 (Sv h J (λt8 h=>?_) (λt8 h=>?_)))⟩)))
   .refine B h λx42 jO h=>(X 4 4 (sO (cD (ji jO) ⟨J,(Y 5 4 ?_)⟩)))
    cases h;exact tD
   refine B h λx44 kY h=>(X 13 4 (sO (cD (pd kY) ⟨J,(Y 18 4 ?_)⟩)))
   cases h;exact tD
  refine X 5 3 (Sv h J (λzZ h=>?_) (λzZ h=>?_))
  .refine B h λx46 jS h=>(X 6 3 (sO (cD (xg jS) ⟨J,(Y 10 3 (itr (λdz:Int×Int×(U Int)×(U (U Item))×(U Memory)×(U Choice)×(U Item)=>mkA 356 [(2,.ptr 0 0),(4,.ptr 1 0),(6,.func 46 []),(19,.ptr 2 0),(20,iI dz.1),(275,iI dz.2.1)]) (λdz=>[.box (ca p0),.box [.nils,iI 0,iI 0,.nils,.nils,.nils,.nils,.nils,.nils,.nils,.nils,iI 0,iI 0,iI 0,iI 0,iI 0,.nils,.bool false],.box [sL aj dz.2.2.1,sL (ak aa) dz.2.2.2.1,sL aq dz.2.2.2.2.1,sL an dz.2.2.2.2.2.1,sL aa dz.2.2.2.2.2.2]]) h (wk [] [0,2,3] 4 J) (λdz v_36 h Qp=>?_)))⟩)))
   obtain⟨s47,s48,s49,s50,s51,s52,s53⟩:=dz;replace h:lv p0 s47 s48 s49 s50 s51 s52 s53=some v_36:=h;try dsimp only
   unfold lv at h;refine X 5 3 (Sv h J (λaJ h=>?_) (λaJ h=>?_))
   .refine B h λx55 k5 h=>(X 13 3 (sO (cF (BN k5) ⟨J,(Y 9 3 (j1 [(2,.ptr 0 0),(4,.ptr 1 0),(6,.func 46 []),(19,.ptr 2 0),(20,iI s47),(22,.str x55.1),(23,iI x55.2.1),(275,iI s48),(292,.bool ((x55.2.2 !=0)||decide (x55.2.1<=s47)))] [.box (ca p0),.box [.nils,iI 0,iI 0,.nils,.nils,.nils,.nils,.nils,.nils,.nils,.nils,iI 0,iI 0,iI 0,iI 0,iI 0,.nils,.bool false],.box [sL aj s49,sL (ak aa) s50,sL aq s51,sL an s52,sL aa s53]] ?_ (λhK=>?_)))⟩)))
    .refine Sv h J (λeR h=>?_) (λeR h=>?_)
     .exact X 5 3 (lk h (wk [] [0,1,2] 3 J))
     refine B h λx58 q5 h=>(X 8 3 (sO (cD (xM q5) ⟨J,(Y 12 3 (Sv h J (λkW h=>?_) (λkW h=>?_)))⟩)))
     .exact X 10 4 (lk h (wk [] [0,1,2] 4 J))
     exact X 5 4 (lk h (wk [] [0,1,2] 4 J))
    refine X 5 3 (gp 288 (λdF=>?_) (λdF=>?_))
    .refine Yp 5 3 ?_;rw[dF]at hK;exact sx hK
    refine Yp 5 3 ?_;rw[dF]at hK;exact sx hK
   refine X 1 3 ?_;replace h:=mi h Qp;refine B h λx60 Qx h=>(X 5 3 (sO (cO 3 (BQ Qx) ⟨J,(Y 8 4 (jn (Z:=Int) (λqJ=>mkA 356 [(2,.ptr 0 0),(4,.ptr 1 0),(6,.func 46 []),(19,.ptr 2 0),(20,iI s47),(27,.ref 3),(28,iI x60.2.1),(29,iI qJ)]) (λqJ=>[.box (ca p0),.box [.nils,iI 0,iI 0,.nils,.nils,.nils,.nils,.nils,.nils,.nils,.nils,iI 0,iI 0,iI 0,iI 0,iI 0,.nils,.bool false],.box [sL aj s49,sL (ak aa) s50,sL aq s51,sL an s52,sL aa s53],aR 50 2 an x60.1]) (λqJ=>pc p0 s47 s49 s50 s51 s52 s53 x60 qJ=some r) (λqJ h=>?_) (λhK2=>?_)))⟩)))
   .revert h;revert qJ;intro z62 h;replace h:pc p0 s47 s49 s50 s51 s52 s53 x60 z62=some r:=h;try dsimp only
    unfold pc at h;refine jn (Z:=Int×(U Int)×(U (U Item))×(U Memory)×(U Choice)×(U Item)) (λdG=>mkA 356 [(2,.ptr 0 0),(4,.ptr 1 0),(6,.func 46 []),(19,.ptr 2 0),(20,iI s47),(28,iI x60.2.1),(29,iI dG.1)]) (λdG=>[.box (ca p0),.box [.nils,iI 0,iI 0,.nils,.nils,.nils,.nils,.nils,.nils,.nils,.nils,iI 0,iI 0,iI 0,iI 0,iI 0,.nils,.bool false],.box [sL aj dG.2.1,sL (ak aa) dG.2.2.1,sL aq dG.2.2.2.1,sL an dG.2.2.2.2.1,sL aa dG.2.2.2.2.2]]) (λdG=>mY p0 s47 x60 dG.1 dG.2.1 dG.2.2.1 dG.2.2.2.1 dG.2.2.2.2.1 dG.2.2.2.2.2=some r) (λdG h=>?_) (λhK1=>?_)
    .obtain⟨z65,z66,z67,z68,z69,z70⟩:=dG;replace h:mY p0 s47 x60 z65 z66 z67 z68 z69 z70=some r:=h;try dsimp only
     unfold mY at h;refine X 6 3 (Sv h J (λt7 h=>?_) (λt7 h=>?_))
     .refine B h λx72 Qy h=>(X 4 3 (sO (cD (ji Qy) ⟨J,(Y 5 3 ?_)⟩)))
      cases h;exact tD
     refine X 1 3 (T.drawn mixed (k:=21) J ?_);apply Su 7 (bm 21 16383);intro kZ;apply Su 9 (bm 21 4095);intro ir;apply Su 11 (bm 21 1023);intro gD;apply Su 11 (bm 21 3999);intro mE;apply Su 12 (bm 21 2035);intro iq;apply Su 13 (bm 21 1011);intro oH;apply Su 13 (bm 21 510);intro uy;apply Su 13 (bm 21 927);intro uz
     .refine rq [1,4,7,8] 17 (ra3 0 2 5 ?_ ?_ ?_)
      .refine og 3 ⟨J,(rq [9] 15 (ra3 2 5 10 ?_ ?_ ?_))⟩
       .exact og 3 ⟨J,(r0 3 J (ai Sz J (raE uz)))⟩
       .exact og 3 ⟨J,(r0 6 J (ai Sz J (raE oH)))⟩
       .refine og 3 ⟨J,(ra2 2 5 ?_ ?_)⟩
        .exact og 3 ⟨J,(r0 3 J (ai Sz J (rq [11] 11 (raE mE))))⟩
        .exact og 3 ⟨J,(r0 6 J (ai Sz J (raE iq)))⟩
      .refine og 3 ⟨J,(r0 3 J (ai Sz J (ra2 0 5 ?_ ?_)))⟩
       .exact og 3 ⟨J,(rq [9] 13 (raT uz))⟩
       .exact og 3 ⟨J,(r0 6 J (ai Sz J (raE uy)))⟩
      .refine og 3 ⟨J,(r0 6 J (ai Sz J (ra2 0 2 ?_ ?_)))⟩
       .exact og 3 ⟨J,(rq [9] 13 (raT oH))⟩
       .exact og 3 ⟨J,(r0 3 J (ai Sz J (raT uy)))⟩
     .refine ra2 5 10 ?_ ?_
      .exact og 3 ⟨J,(r0 6 J (ai Sz J (raE gD)))⟩
      .exact og 3 ⟨J,(rq [11] 11 (raT mE))⟩
     .exact ra1 0 (og 3 ⟨J,(rq [9] 11 (raT gD))⟩)
     .refine ra2 2 10 ?_ ?_
      .exact og 3 ⟨J,(r0 3 J (ai Sz J (raT gD)))⟩
      .exact og 3 ⟨J,(raT iq)⟩
     .exact ra1 2 (og 3 ⟨J,(r0 3 J (ai Sz J (rq [11] 9 (raE ir))))⟩)
     .refine ra2 5 12 ?_ ?_
      .exact og 3 ⟨J,(r0 6 J (ai Sz J (raT ir)))⟩
      .exact og 3 ⟨J,(ra1 5 (og 3 ⟨J,(r0 6 J (ai Sz J (rq [13] 7 (raE kZ))))⟩))⟩
     .exact ra1 10 (og 3 ⟨J,(rq [11] 9 (raT ir))⟩)
     .exact ra1 12 (og 3 ⟨J,(rq [13] 7 (raT kZ))⟩)
     refine ra1 14 (og 3 ⟨J,(rq [15] 5 (ra1 16 (og 3 ⟨J,(rq [17] 3 (ra1 18 (og 3 ⟨J,(rq [19] 1 (ra1 20 ?_))⟩)))⟩)))⟩);refine og 3 ⟨J,(RA.done (by decide+kernel) (X 6 3 ?_))⟩;cases h;exact tD
    refine X 6 4 (Sv h J (λtW h=>?_) (λtW h=>?_))
    .exact B h λx64 Qz h=>(X 7 4 (RS.fC 3 (sO (cD (Hz Qz) ⟨J,(Y 6 4 (wu (hK1 (x64.2,x64.1.At,x64.1.Rings,x64.1.Memory,x64.1.Choices,x64.1.Out) h) [] [0,1,2] 4 J))⟩))))
    exact X 1 4 (wu (hK1 (z62,s49,s50,s51,s52,s53) h) [] [0,1,2] 4 J)
   refine X 6 4 (Sv h J (λtX h=>?_) (λtX h=>?_))
   .exact B h λx61 QA h=>(X 4 4 (sO (cF (Ha QA) ⟨J,(Y 2 4 (sx (hK2 x61 h)))⟩)))
   exact X 1 4 (sx (hK2 x60.2.2 h))
  refine X 7 3 ?_;cases h;exact tD
 refine X 6 3 (gp 33 (λae=>?_) (λae=>?_))
 .refine Yp 5 3 ?_;rw[ae]at hK;exact sx hK
 refine Yp 5 3 ?_;rw[ae]at hK;exact sx hK
theorem Hp {p0 p1:U Int}{r:Bool}(h:rJ p0 p1=some r):Fn Qbl 20 [sL aj p0,sL aj p1] (.bool r):=by
 unfold rJ at h;refine fT 0 8 Tryz.func20 Tryz.ntmps20 J (sQ (ai SX J (Y 1 0 (sQ (ai SX J (Y 2 0 (Sv h J (λae h=>?_) (λae h=>?_))))))))
 .refine X 4 0 ?_;cases h;exact tD
 refine X 5 0 (sQ (ai SX J (Y 3 0 (itr (λaQ:Int=>mkA 26 [(0,sL aj p0),(1,sL aj p1),(12,iI ((p0).length:Int)),(13,iI aQ)]) (λaQ=>[]) h (wk [] [] 0 J) (λaQ v_7 h bv=>?_)))));revert bv h;revert aQ;intro s1 h bv;replace h:uR p0 p1 s1=some v_7:=h;try dsimp only
 unfold uR at h;refine X 5 0 (Sv h J (λbi h=>?_) (λbi h=>?_))
 .refine B h λx4 hx4 h=>(B h λx5 hx5 h=>(X 9 0 (T.drawn mixed (k:=9) J (rq [0,1] 7 (r0 2 J (aB SX (λ_=>J) J J hx4 (rq [4,5] 4 (r0 6 J (aB SX (λ_=>J) J J hx5 (rL [3,8] 3 J (ra1 7 ?_)))))))))))
  refine og 0 ⟨J,(rq [8] 0 (RA.done (by decide+kernel) (Sv h J (λbY h=>?_) (λbY h=>?_))))⟩
  .refine X 4 0 ?_;replace h:=mi h bv;cases h;exact tD
  exact X 5 0 (lk h (wk [] [] 0 J))
 refine X 1 0 ?_;replace h:=mi h bv;refine X 4 0 ?_;cases h;exact tD
theorem HG {p2:U Happening}{r:Bool}(h:u6 p0 p1 p2=some r):Fn Qbl 6 [.agg (aD p0),sL (ak aa) p1,sL cJ p2] (.bool r):=by
 unfold u6 at h;refine fT 0 0 Vu Tryz.ntmps6 J ?_;refine B h λx2 hx2 h=>(X 9 0 (sO (cD (B4 hx2) ⟨J,(B h λx4 hx4 h=>(Y 12 1 (sO (cD (Cb hx4) ⟨J,(B h λx6 hx6 h=>(Y 13 2 (sO (cF (Hb hx6) ⟨J,(B h λx7 hx7 h=>?_)⟩))))⟩))))⟩)))
 refine Y 3 3 ?_;obtain⟨uA,hz,h⟩:=bind_some h;revert hz h;revert uA;intro c13 hz h;refine j1 [(1,sL (ak aa) p1),(2,sL cJ p2),(3,.ptr 0 0),(9,.ptr 1 0),(10,sL aj x4.2.1),(11,iI x4.2.2),(12,iI x6),(63,.bool c13)] [.box (aD p0),.box (ca x4.1)] ?_ (λhK=>?_)
 .refine Sv h J (λbi h=>?_) (λbi h=>?_)
  .refine X 4 2 ?_;cases h;exact tD
  refine X 1 2 (jn (Z:=Int) (λqK=>mkA 125 [(1,sL (ak aa) p1),(2,sL cJ p2),(3,.ptr 0 0),(9,.ptr 1 0),(10,sL aj x4.2.1),(11,iI x4.2.2),(12,iI qK)]) (λqK=>[.box (aD p0),.box (ca x4.1)]) (λqK=>lp p0 p1 p2 x4 qK=some r) (λqK h=>?_) (λhK2=>?_))
  .revert h;revert qK;intro z14 h;replace h:lp p0 p1 p2 x4 z14=some r:=h;try dsimp only
   unfold lp at h;refine X 6 2 (Sv h J (λfY h=>?_) (λfY h=>?_))
   .obtain⟨Qq,hz,h⟩:=bind_some h;revert hz h;revert Qq;intro c16 hz h;refine j1 [(6,.bool c16)] [] ?_ (λhK=>?_)
    .cases h;exact tD
    refine X 6 2 (gi 76 hz (λtU hz=>?_) (λtU hz=>?_))
    .refine B hz λx15 cU hz=>(Y 1 2 (yO J (cF (u0 cU) ⟨J,(Yp 2 2 (gi 80 hz (λg6 hz=>?_) (λg6 hz=>?_)))⟩)))
     .refine Y 1 2 (yQ J (ai SX J (Yp 4 2 ?_)));cases hz;exact wu hK [] [] 2 J
     refine Yp 6 2 ?_;cases hz;exact wu hK [] [] 2 J
    refine Yp 10 2 ?_;cases hz;exact wu hK [] [] 2 J
   refine B h λx18 b7 h=>(X 5 2 (sO (cD (pd b7) ⟨J,(Y 11 2 (sQ (ai Td J (Y 3 3 (itr (λaZ:Int×(U Node)×Int×Int×(U (U Item))×(U Int)×(U (U Item))×(U Memory)×(U Choice)×(U Item)×(U (U UInt8))×(U Write)×Int×Int×Int×Int×Int×(U Item)×Bool×(U Int)=>mkA 125 [(9,.ptr 0 0),(10,sL aj x4.2.1),(11,iI x4.2.2),(13,.ptr 1 0),(14,.ref 2),(88,sL cJ p2),(89,iI ((p2).length:Int)),(90,iI aZ.1)]) (λaZ=>[.box (ca x4.1),.box [sL ao aZ.2.1,iI aZ.2.2.1,iI aZ.2.2.2.1,sL (ak aa) aZ.2.2.2.2.1,sL aj aZ.2.2.2.2.2.1,sL (ak aa) aZ.2.2.2.2.2.2.1,sL aq aZ.2.2.2.2.2.2.2.1,sL an aZ.2.2.2.2.2.2.2.2.1,sL aa aZ.2.2.2.2.2.2.2.2.2.1,sL aT aZ.2.2.2.2.2.2.2.2.2.2.1,sL bb aZ.2.2.2.2.2.2.2.2.2.2.2.1,iI aZ.2.2.2.2.2.2.2.2.2.2.2.2.1,iI aZ.2.2.2.2.2.2.2.2.2.2.2.2.2.1,iI aZ.2.2.2.2.2.2.2.2.2.2.2.2.2.2.1,iI aZ.2.2.2.2.2.2.2.2.2.2.2.2.2.2.2.1,iI aZ.2.2.2.2.2.2.2.2.2.2.2.2.2.2.2.2.1,sL aa aZ.2.2.2.2.2.2.2.2.2.2.2.2.2.2.2.2.2.1,.bool aZ.2.2.2.2.2.2.2.2.2.2.2.2.2.2.2.2.2.2.1],aR 39 1 aj aZ.2.2.2.2.2.2.2.2.2.2.2.2.2.2.2.2.2.2.2]) h (wk [(14,39,1)] [1,2,3] 3 J) (λaZ v_21 h ub=>?_))))))⟩)))
   obtain⟨s19,s20,s21,s22,s23,s24,s25,s26,s27,s28,s29,s30,s31,s32,s33,s34,s35,s36,s37,s38⟩:=aZ;replace h:ln p2 x4 s19 s20 s21 s22 s23 s24 s25 s26 s27 s28 s29 s30 s31 s32 s33 s34 s35 s36 s37 s38=some v_21:=h;try dsimp only
   unfold ln at h;refine X 5 3 (Sv h J (λi7 h=>?_) (λi7 h=>?_))
   .refine B h λx40 ux h=>(X 5 3 (sQ (aB Td (λ_=>J) J J ux (B h λx42 jO h=>(Y 8 3 (sO (cD (H8 jO) ⟨J,(Y 13 4 (Sv h J (λoz h=>?_) (λoz h=>?_)))⟩)))))))
    .exact B h λx43 q4 h=>(X 7 5 (sO (be (rows:=List.map aj [x42.2]) (vs:=[iI x42.2]) SX Tp J J J J J J (sO (bQ (en:=aj) (xs:=s38) (ys:=([x42.2]:U Int)) SX (λ_=>J) J J J q4 J J (Y 6 7 (lk h (wk [] [0,1,6] 7 J))))))))
    exact B h λx44 kY h=>(X 4 5 (sO (be (rows:=List.map aj [x42.2]) (vs:=[iI x42.2]) SX Tp J J J J J J (sO (bQ (en:=aj) (xs:=s38) (ys:=([x42.2]:U Int)) SX (λ_=>J) J J J kY J J (Y 6 7 (lk h (wk [] [0,1,6] 7 J))))))))
   refine X 1 3 ?_;replace h:=mi h ub;obtain⟨Qr,hz,h⟩:=bind_some h;revert hz h;revert Qr;intro c48 hz h;refine j1 [(6,.bool c48)] [] ?_ (λhK=>?_)
   .cases h;exact tD
   refine X 5 3 (gi 110 hz (λt8 hz=>?_) (λt8 hz=>?_))
   .refine B hz λx45 q6 hz=>(Y 2 3 (yO J (cF (Hp q6) ⟨J,(Yp 2 3 (gi 115 hz (λzZ hz=>?_) (λzZ hz=>?_)))⟩)))
    .refine B hz λx46 jS hz=>(Y 2 3 (yO J (cF (uV jS) ⟨J,(Yp 2 3 (gi 120 hz (λow hz=>?_) (λow hz=>?_)))⟩)))
     .refine B hz λx47 uG hz=>(Y 1 3 (yO J (cF (A8 uG) ⟨J,(Yp 4 3 ?_)⟩)))
      cases hz;exact wu hK [] [] 3 J
     refine Yp 6 3 ?_;cases hz;exact wu hK [] [] 3 J
    refine Yp 11 3 ?_;cases hz;exact wu hK [] [] 3 J
   refine Yp 16 3 ?_;cases hz;exact wu hK [] [] 3 J
  refine X 1 2 (j1 [(1,sL (ak aa) p1),(2,sL cJ p2),(3,.ptr 0 0),(9,.ptr 1 0),(10,sL aj x4.2.1),(11,iI x4.2.2),(12,iI x6),(70,.bool ((x6==0)&&decide (((p2).length:Int)> 1200)))] [.box (aD p0),.box (ca x4.1)] ?_ (λhK=>?_))
  .refine Sv h J (λi6 h=>?_) (λi6 h=>?_)
   .exact X 3 2 (sx (hK2 2 h))
   exact X 1 2 (sx (hK2 x6 h))
  refine X 5 2 (gp 66 (λiZ=>?_) (λiZ=>?_))
  .refine Y 1 2 (yQ J (ai Td J (Yp 3 2 ?_)));rw[iZ]at hK;exact sx hK
  refine Yp 5 2 ?_;rw[iZ]at hK;exact sx hK
 refine X 1 3 ?_;rcases bf (!x7)with ae|ae
 .replace hz:=bH hz ae;refine T.drawn mixed (k:=28) J (ra1 0 (oO J (cF (mP hx7) ⟨J,(rq [1,2] 25 (r2 3 J ae (r2 4 J ae (r2 5 J ae (r0 6 J (bg (v:=.bool true) J ae J (rq [7] 20 (r2 8 J J ?_))))))))⟩)));refine r2 9 J J (r2 10 J J (r3 11 J (r3 12 J (r3 13 J (r2 14 J J (r0 15 J (bg (v:=.bool true) J J J (rq [16] 11 (r2 17 J J (r2 18 J J ?_))))))))));exact r2 19 J J (r3 20 J (r3 21 J (r3 22 J (r3 23 J (r3 24 J (r3 25 J (r2 26 J J (r0 27 J (bg (v:=.bool true) J J J (RA.done (by decide+kernel) (T.weakR hK (SD [] [0,2] (by decide) (bP _) J ⟨cK J,cK J,al J,al J,cK J,bE J,bE J,dl ((congrArg (λp=>p) (QH hz)).symm),tqz⟩ (bL (aD p0) J (bL (ca x4.1) J (aA)))))))))))))))
 replace hz:=bG hz ae;rcases bf (x2.2 !=x6)with ab|ab
 .replace hz:=bH hz ab;refine T.drawn mixed (k:=28) J (ra1 0 (oO J (cF (mP hx7) ⟨J,(rq [1,2] 25 (ry 3 ae J (ry 4 ae J (ry 5 ae J (r0 6 J (aP (v:=.bool (x2.2 !=x6)) J ae J (rq [7] 20 (r2 8 J ab ?_))))))))⟩)));refine r2 9 J ab (r2 10 J ab (r3 11 J (r3 12 J (r3 13 J (r2 14 J ab (r0 15 J (bg (v:=.bool true) J ab J (rq [16] 11 (r2 17 J J (r2 18 J J ?_))))))))));exact r2 19 J J (r3 20 J (r3 21 J (r3 22 J (r3 23 J (r3 24 J (r3 25 J (r2 26 J J (r0 27 J (bg (v:=.bool true) J J J (RA.done (by decide+kernel) (T.weakR hK (SD [] [0,2] (by decide) (bP _) J ⟨cK J,cK J,al J,al J,cK J,bE J,bE J,dl ((congrArg (λp=>p) (QH hz)).symm),tqz⟩ (bL (aD p0) J (bL (ca x4.1) J (aA)))))))))))))))
 replace hz:=bG hz ab;rcases bf (x6 !=0)with ap|ap
 .replace hz:=bH hz ap;refine B hz λx8 hx8 hz=>?_
  rcases bf (!x8)with aC|aC
  .replace hz:=bH hz aC;refine T.drawn mixed (k:=28) J (ra1 0 (oO J (cF (mP hx7) ⟨J,(rq [1,2] 25 (ry 3 ae J (ry 4 ae J (ry 5 ae J (r0 6 J (aP (v:=.bool (x2.2 !=x6)) J ae J (rq [7] 20 (ry 8 ab J ?_))))))))⟩)));refine ry 9 ab J (ry 10 ab J (ra1 11 (oy 3 ap J (ra1 12 (oP J ap (cF (u0 hx8) ⟨J,(ry 13 ap J (r1 14 J ab (bg (v:=.bool (!x8)) J ap J (r0 15 J (aP (v:=.bool (!x8)) J ab J (rq [16] 11 ?_))))))⟩))))));refine r2 17 J aC (r2 18 J aC (r2 19 J aC (r3 20 J (r3 21 J (r3 22 J (r3 23 J (r3 24 J (r3 25 J (r2 26 J aC ?_)))))))));exact r0 27 J (bg (v:=.bool true) J aC J (RA.done (by decide+kernel) (T.weakR hK (SD [] [0,2] (by decide) (bP _) J ⟨cK J,cK J,al J,al J,cK J,bE J,bE J,dl ((congrArg (λp=>p) (QH hz)).symm),tqz⟩ (bL (aD p0) J (bL (ca x4.1) J (aA)))))))
  replace hz:=bG hz aC;rcases bf (x6==0)with aI|aI
  .replace hz:=bH hz aI;refine B hz λx9 hx9 hz=>(B hz λx10 ba hz=>(T.drawn mixed (k:=28) J ?_))
   apply Su 4 (bm 28 16777215);intro qW;apply Su 5 (bm 28 8388607);intro mA
   .refine ra1 0 (oO J (cF (mP hx7) ⟨J,(rq [1,2] 25 (ry 3 ae J (ry 4 ae J (ry 5 ae J (r0 6 J (aP (v:=.bool (x2.2 !=x6)) J ae J (rq [7] 20 (ry 8 ab J (ry 9 ab J ?_)))))))))⟩));refine ry 10 ab J (ra1 11 (oy 3 ap J (ra1 12 (oP J ap (cF (u0 hx8) ⟨J,(ry 13 ap J (r1 14 J ab (bg (v:=.bool (!x8)) J ap J (r0 15 J (aP (v:=.bool (!x8)) J ab J (rq [16] 11 (ry 17 aC J ?_)))))))⟩)))));refine ry 18 aC J (ry 19 aC J (ry 22 aI J (ra2 20 21 ?_ ?_)))
    .exact oy 3 aI J (ra1 21 (oy 3 aI J (raE mA)))
    .refine oy 3 aI J (ra2 20 23 ?_ ?_)
     .exact oy 3 aI J (raT mA)
     .exact oP J aI (cD (pd hx9) ⟨J,(ra1 20 (oy 3 aI J (raE qW)))⟩)
   .exact ra1 23 (oP J aI (cD (pd hx9) ⟨J,(raT qW)⟩))
   exact ra1 24 (oP J aI (cF (uV ba) ⟨J,(ry 25 aI J (r1 26 J aC (bg (v:=.bool (!x10)) J aI J (r0 27 J (aP (v:=.bool (!x10)) J aC J (RA.done (by decide+kernel) (T.weakR hK (SD [] [0,2] (by decide) (bP _) J ⟨cK J,cK J,al J,al J,cK J,bE J,bE J,dl ((congrArg (λp=>p) (QH hz)).symm),tqz⟩ (bL (aD p0) J (bL (ca x4.1) J (aA)))))))))))⟩))
  replace hz:=bG hz aI;refine T.drawn mixed (k:=28) J (ra1 0 (oO J (cF (mP hx7) ⟨J,(rq [1,2] 25 (ry 3 ae J (ry 4 ae J (ry 5 ae J (r0 6 J (aP (v:=.bool (x2.2 !=x6)) J ae J (rq [7] 20 (ry 8 ab J ?_))))))))⟩)));refine ry 9 ab J (ry 10 ab J (ra1 11 (oy 3 ap J (ra1 12 (oP J ap (cF (u0 hx8) ⟨J,(ry 13 ap J (r1 14 J ab (bg (v:=.bool (!x8)) J ap J (r0 15 J (aP (v:=.bool (!x8)) J ab J (rq [16] 11 ?_))))))⟩))))));refine ry 17 aC J (ry 18 aC J (ry 19 aC J (r2 20 J aI (r2 21 J aI (r2 22 J aI (r2 23 J aI (r2 24 J aI (r2 25 J aI (r1 26 J aC (aP (v:=.bool false) J aI J ?_))))))))));exact r0 27 J (aP (v:=.bool false) J aC J (RA.done (by decide+kernel) (T.weakR hK (SD [] [0,2] (by decide) (bP _) J ⟨cK J,cK J,al J,al J,cK J,bE J,bE J,dl ((congrArg (λp=>p) (QH hz)).symm),tqz⟩ (bL (aD p0) J (bL (ca x4.1) J (aA)))))))
 replace hz:=bG hz ap;rcases bf (x6==0)with aM|aM
 .replace hz:=bH hz aM;refine B hz λx11 bA hz=>(B hz λx12 bB hz=>(T.drawn mixed (k:=28) J ?_))
  apply Su 4 (bm 28 16777215);intro qX;apply Su 5 (bm 28 8388607);intro ut
  .refine ra1 0 (oO J (cF (mP hx7) ⟨J,(rq [1,2] 25 (ry 3 ae J (ry 4 ae J (ry 5 ae J (r0 6 J (aP (v:=.bool (x2.2 !=x6)) J ae J (rq [7] 20 (ry 8 ab J (ry 9 ab J ?_)))))))))⟩));refine ry 10 ab J (r2 11 J ap (r2 12 J ap (r2 13 J ap (r1 14 J ab (aP (v:=.bool false) J ap J (r0 15 J (aP (v:=.bool false) J ab J (rq [16] 11 (ry 17 J J (ry 18 J J (ry 19 J J ?_)))))))))));refine ry 22 aM J (ra2 20 21 ?_ ?_)
   .exact oy 3 aM J (ra1 21 (oy 3 aM J (raE ut)))
   .refine oy 3 aM J (ra2 20 23 ?_ ?_)
    .exact oy 3 aM J (raT ut)
    .exact oP J aM (cD (pd bA) ⟨J,(ra1 20 (oy 3 aM J (raE qX)))⟩)
  .exact ra1 23 (oP J aM (cD (pd bA) ⟨J,(raT qX)⟩))
  exact ra1 24 (oP J aM (cF (uV bB) ⟨J,(ry 25 aM J (r1 26 J J (bg (v:=.bool (!x12)) J aM J (r0 27 J (aP (v:=.bool (!x12)) J J J (RA.done (by decide+kernel) (T.weakR hK (SD [] [0,2] (by decide) (bP _) J ⟨cK J,cK J,al J,al J,cK J,bE J,bE J,dl ((congrArg (λp=>p) (QH hz)).symm),tqz⟩ (bL (aD p0) J (bL (ca x4.1) J (aA)))))))))))⟩))
 replace hz:=bG hz aM;refine T.drawn mixed (k:=28) J (ra1 0 (oO J (cF (mP hx7) ⟨J,(rq [1,2] 25 (ry 3 ae J (ry 4 ae J (ry 5 ae J (r0 6 J (aP (v:=.bool (x2.2 !=x6)) J ae J (rq [7] 20 (ry 8 ab J ?_))))))))⟩)));refine ry 9 ab J (ry 10 ab J (r2 11 J ap (r2 12 J ap (r2 13 J ap (r1 14 J ab (aP (v:=.bool false) J ap J (r0 15 J (aP (v:=.bool false) J ab J (rq [16] 11 (ry 17 J J (ry 18 J J ?_)))))))))));exact ry 19 J J (r2 20 J aM (r2 21 J aM (r2 22 J aM (r2 23 J aM (r2 24 J aM (r2 25 J aM (r1 26 J J (aP (v:=.bool false) J aM J (r0 27 J (aP (v:=.bool false) J J J (RA.done (by decide+kernel) (T.weakR hK (SD [] [0,2] (by decide) (bP _) J ⟨cK J,cK J,al J,al J,cK J,bE J,bE J,dl ((congrArg (λp=>p) (QH hz)).symm),tqz⟩ (bL (aD p0) J (bL (ca x4.1) J (aA))))))))))))))))
end
end
section
open Go.ChangeShapes Go.WideShapes Go.ChangeAt Go.RowKit
section
variable {α H β:Type}{P:Program}{t:TypeId}{v:Value}{total base:Nat}{fs:Array Field}{ps:U MemPlace}{en:α->U AV}{m:α->Nat}{enc:TypeId×Value->H}{d:DataW H}
theorem BF {p:Nat->α->Prop}:∀n:Nat,(∀i,i<n->∃x,p i x)->∃l:U α,l.length=n/\∀(i:Nat) x,l[i]?=some x->p i x
 |0,_=>⟨[],J,λi x h=>by simp at h⟩
 | n+1,h=>by
  obtain⟨l,hl,hp⟩:=BF n (λi hi=>h i (by omega));obtain⟨y,hy⟩:=h n (by omega);refine⟨l++[y],by simp[hl],λi x hx=>?_⟩;rw[Q2]at hx;split at hx
  .exact hp i x hx
  .have:i=n:=by
    have:=(QD.1 hx).1;simp at this;omega
   subst this;simp[hl]at hx;subst hx;exact hy
theorem L1 (d:DataW H):1<=Rows.uptoBulk d:=by
 cases d with
 |lit l=>cases l<;>simp[Rows.uptoBulk]
 |_=>simp[Rows.uptoBulk]
theorem Em (m:α->Nat):∀(l:U α) (ds:U (DataW H)),l.length=ds.length->(∀(i:Nat) x d,l[i]?=some x->ds[i]?=some d->m x<=Rows.uptoBulk d)->(l.map m).sum<=Rows.uptoBulkAll ds
 |[],[],_,_=>by simp
 |[],_::_,h,_=>by simp at h
 |_::_,[],h,_=>by simp at h
 |x::l,d::ds,h,hp=>by have h0:=hp 0 x d J J;have h1:=Em m l ds (by simpa using h) (λi y e hy he=>hp (i+1) y e (by simpa using hy) (by simpa using he));simp only[Re,List.sum_cons,Rows.uptoBulkAll];omega
structure Opn (P:Program) (t:TypeId) {α:Type} (en:α->List AV) (good:α->Prop) (m:α->Nat):Prop where
 opn:∀{H:Type} {enc:TypeId×Value->H} {W:World} {fuel:Nat} {cs:List Value} {x:DataW H×List MemPlace},DataW.trod enc P W 0 (λ_=>true) true fuel t cs=some x ->
  ∃a,RelL [] W (λb=>b<W.heap.size) (en a) cs/\(∀u,u∈cs->u.oneCell'=true)/\good a/\m a<=Rows.uptoBulk x.1
theorem Opn.map {good:α->Prop}(h:Opn P t en good m)(f:α->β){en':β->U AV}{good':β->Prop}{m':β->Nat}(he:∀a,en' (f a)=en a)(hg:∀a,good a->good' (f a))(hm:∀a,m' (f a)<=m a):Opn P t en' good' m':=
 ⟨λhx=>by obtain⟨a,h1,h2,h3,h4⟩:=h.opn hx;exact⟨f a,by rw[he];exact h1,h2,hg a h3,RJ (hm a) h4⟩⟩
theorem yv {σ:U Value}{w:World}{F:Nat->Prop}{a:AV}(h:Rel σ w F a v):RelL σ w F [a] [v]:=.cons h .nil
theorem Opn.int {k:IntKind}(ht:P.underlying t=some (.int k)):Opn P t (λn:Int=>[.int k n]) (λn=>k.min<=n/\n<=k.max) (λ_=>1):=
 ⟨λhx=>by obtain⟨n,rfl,rfl,hw⟩:=DataW.trod_int ht hx;refine⟨n,yv (.int k n),by simp[Value.oneCell'],?_,L1 _⟩;simpa only[Lit.wf,RR,decide_eq_true_eq]using hw⟩
theorem Opn.slice {e:TypeId}{good:α->Prop}{size:Nat}(ht:P.underlying t=some (.slice e))(hc:P.cellsOf e=size+1)(h:Opn P e en good m):
  Opn P t (λl:U α=>[.sl (l.map en)]) (λl=>∀a,a∈l->good a) (λl=>(l.map m).sum+1):=by
 refine⟨λ{H enc W fuel cs x} hx=>?_⟩
 rcases DataW.trod_slice ht hx with⟨rfl,rfl⟩|⟨a,len,cap,elems,rest,n,_,rfl,rfl,hb,hl,hm,hlen,hel,hsp,hns⟩
 .exact⟨[],yv .slNil,by simp[Value.oneCell'],by simp,by simp[Rows.uptoBulk]⟩
 rw[hc]at hel
 have hone:∀i,i<len->∃y:α×U Value×(DataW H×U MemPlace),elems[i]?=some y.2.2/\W.cells? 0 (a.add (i*(size+1))) (size+1)=some y.2.1/\RelL [] W (λb=>b<W.heap.size) (en y.1) y.2.1/\(∀u,u∈y.2.1->u.oneCell'=true)/\good y.1/\m y.1<=Rows.uptoBulk y.2.2.1:=by intro i hi;have h1:=hel i hi;rw[QC (by omega:i<elems.length)]at h1;obtain⟨cs',hcs,ht'⟩:=Option.bind_eq_some_iff.1 h1;obtain⟨y,g1,g2,g3,g4⟩:=h.opn ht';exact⟨(y,cs',elems[i]),QC (by omega),hcs,g1,g2,g3,g4⟩
 obtain⟨ys,hys,hp⟩:=BF len hone
 refine⟨ys.map (·.1),yv ?_,by simp[Value.oneCell'],?_,?_⟩
 .have hrl:((ys.map (·.1)).map en).length=len:=by simp[hys]
  have key:Rel [] W (λb=>b<W.heap.size) (.sl ((ys.map (·.1)).map en)) (.slice (some a) ((ys.map (·.1)).map en).length cap):=by
   refine .sl _ (size+1) a cap (λi j=>((ys[i]?).bind (λy=>y.2.1[j]?)).getD .nilIface) (λhne=>?_) (by omega) hm (λrow hrow=>?_) (λi j hi hj=>?_) (λi j hi hj=>?_) (λi row j x hi hj=>?_)
   .have hpos:0<len:=by
     rcases Nat.eq_zero_or_pos len with h0|h0
     .exfalso;apply hne;apply QK;omega
     .exact h0
    obtain⟨y,hy⟩:∃y,ys[0]?=some y:=⟨ys[0],QC (by omega)⟩
    have:=World.cells?_block (hp 0 y hy).2.1 (by omega);rwa [py]at this
   .simp only[Sp,Rs]at hrow;obtain⟨y,hy,rfl⟩:=hrow;obtain⟨i,hi,hi'⟩:=List.getElem_of_mem hy;have h1:=hp i y (by rw[QC hi,hi']);have h2:=(World.cells?_some h1.2.1).2.1;have h3:=h1.2.2.1.1;simp only[Function.comp];omega
   .rw[hrl]at hi;obtain⟨y,hy⟩:∃y,ys[i]?=some y:=⟨ys[i],QC (by omega)⟩
    have h1:=hp i y hy;have h2:=(World.cells?_some h1.2.1).2.1;have h3:y.2.1[j]?=some y.2.1[j]:=QC (by omega);simp only[hy,QB,h3,Se];exact h1.2.2.2.1 _ (QU _)
   .rw[hrl]at hi;obtain⟨y,hy⟩:∃y,ys[i]?=some y:=⟨ys[i],QC (by omega)⟩
    have h1:=hp i y hy;have h2:=World.cells?_some h1.2.1;have h3:y.2.1[j]?=some y.2.1[j]:=QC (by omega);simp only[hy,QB,h3,Se];rw[<- jr,h2.2.2 j hj,h3]
   .simp only[Sp,QW,QT]at hi;obtain⟨y,hy,rfl⟩:=hi;have h1:=hp i y hy;obtain⟨v,hv,hr⟩:=h1.2.2.1.get hj;simp only[hy,QB,hv,Se];exact hr
  rwa [hrl]at key
 .intro z hz
  simp only[Rs]at hz
  obtain⟨y,hy,rfl⟩:=hz
  obtain⟨i,hi,hi'⟩:=List.getElem_of_mem hy
  exact(hp i y (by rw[QC hi,hi'])).2.2.2.2.1
 .have:=Em m (ys.map (·.1)) (elems.map (·.1)) (by simp[hys,hlen]) (λi z d hz hd=>by
   simp only[QW,QT]at hz hd;obtain⟨y,hy,rfl⟩:=hz;obtain⟨el,he,rfl⟩:=hd;have h1:=hp i y hy;rw[h1.1]at he;obtain rfl:=QH he;exact h1.2.2.2.2.2)
  simp only[Rows.uptoBulk]
  omega
structure OpnF (P:Program) (fs:List Field) (off total:Nat) {α:Type} (en:α->List AV) (good:α->Prop) (m:α->Nat):Prop where
 opn:∀{H:Type} {enc:TypeId×Value->H} {W:World} {fuel:Nat} {cs:List Value} {xs:List (DataW H×List MemPlace)},cs.length=total ->
  xs.length=fs.length->(∀(i:Nat) (f:Field),fs[i]?=some f->DataW.trod enc P W 0 (λ_=>true) true fuel f.type ((cs.drop f.offset).take (P.cellsOf f.type))=xs[i]?) ->
  ∃a,RelL [] W (λb=>b<W.heap.size) (en a) (cs.drop off)/\(∀u,u∈cs.drop off->u.oneCell'=true)/\good a/\m a<=Rows.uptoBulkAll (xs.map (·.1))
theorem OpnF.nil:OpnF P [] total total (λ_:Unit=>[]) (λ_=>True) (λ_=>0):=
 ⟨λhl hx hp=>⟨(),by rw[Q9 (by omega)];exact .nil,by rw[Q9 (by omega)];simp,trivial,by simp⟩⟩
theorem OpnF.cons {f:Field}{fs:U Field}{off:Nat}{en1:α->U AV}{en2:β->U AV}{g1:α->Prop}{g2:β->Prop}{m1:α->Nat}{m2:β->Nat}(ho:f.offset=off)(c:Nat)(hc:P.cellsOf f.type=c)(h1:Opn P f.type en1 g1 m1)(h2:OpnF P fs (off+c) total en2 g2 m2):
  OpnF P (f::fs) off total (λp:α×β=>en1 p.1++en2 p.2) (λp=>g1 p.1/\g2 p.2) (λp=>m1 p.1+m2 p.2):=by
 refine⟨λ{H enc W fuel cs xs} hl hx hp=>?_⟩
 match xs,hx with
 | x::xs,hx=>
  have h0:=hp 0 f J
  simp only[Sc]at h0
  subst ho;subst hc
  obtain⟨a,a1,a2,a3,a4⟩:=h1.opn h0
  obtain⟨b,b1,b2,b3,b4⟩:=h2.opn (xs:=xs) hl (by simpa using hx) (λi f' hf=>by simpa using hp (i+1) f' (by simpa using hf))
  have hs:cs.drop f.offset=(cs.drop f.offset).take (P.cellsOf f.type)++cs.drop (f.offset+P.cellsOf f.type):=by rw[<- RY];exact(Rm _ _).symm
  refine⟨(a,b),?_,λu hu=>?_,⟨a3,b3⟩,?_⟩
  .rw[hs];exact a1.append b1
  .rw[hs,QX]at hu
   exact hu.elim (a2 u) (b2 u)
  .simp only[Re,Rows.uptoBulkAll];omega
theorem Opn.struct {good:α->Prop}(ht:P.underlying t=some (.struct fs))(hc:P.cellsOf t=total)(h:OpnF P fs.toList 0 total en good m):Opn P t en good m:=by
 refine⟨λ{H enc W fuel cs x} hx=>?_⟩
 obtain⟨xs,n,rfl,rfl,hl,hxl,hp⟩:=DataW.trod_struct ht hx
 obtain⟨a,h1,h2,h3,h4⟩:=h.opn (enc:=enc) (W:=W) (fuel:=n) (cs:=cs) (xs:=xs) (by omega) (by simp[hxl]) (λi f hf=>hp i f (by simpa using hf))
 exact⟨a,by simpa using h1,by simpa using h2,h3,by simp only[Rows.uptoBulk];omega⟩
theorem TM {en:α->AV}{good:α->Prop}(h:Opn P t (λa=>[en a]) good m)(ht:(match P.underlying t with|some (.struct _)|some (.array _ _)=>false|_=>true)=true){W:World}(hval:Value.okWide P W .any base t v)(hd:DataW.Trod enc P W 0 (λ_=>true) true t v d ps):
  ∃a,Rel [] W (λb=>b<W.heap.size) (en a) v/\good a/\m a<=Rows.uptoBulk d:=by
 obtain⟨fuel,hf⟩:=hd
 obtain⟨a,h1,h2,h3,h4⟩:=h.opn hf
 have hv:v.cells=#[v]:=by
  cases v with
  |agg cs=>
   exfalso;unfold Value.okWide at hval;split at hval
   .rename_i e;rw[e]at ht;simp at ht
   .rename_i e;rw[e]at ht;simp at ht
   .unfold Cell.okWide at hval;split at hval<;>simp_all[Cell.ok]
  |_=>rfl
 rw[hv]at h1
 exact⟨a,h1.2 0 (en a) v J J,h3,h4⟩
theorem Opn.args {good:α->Prop}(h:Opn P t en good m)(ht:P.underlying t=some (.struct fs)){W:World}(hval:Value.okWide P W .any base t v)(hd:DataW.Trod enc P W 0 (λ_=>true) true t v d ps):
  ∃a,Rel [] W (λb=>b<W.heap.size) (.agg (en a)) v/\good a/\m a<=Rows.uptoBulk d:=by
 obtain⟨fuel,hf⟩:=hd
 obtain⟨a,h1,h2,h3,h4⟩:=h.opn hf
 unfold Value.okWide at hval
 rw[ht]at hval
 obtain⟨cs,rfl,_,_⟩:=hval
 simp only[Value.cells]at h1 h2
 refine⟨a,?_,h3,h4⟩
 have:=Rel.agg (σ:=[]) (w:=W) (F:=λb=>b<W.heap.size) (en a) cs.toList h1.1 h2 h1.2
 simpa using this
theorem Cu (hl:laidOutB P=true){W W':World}(hb:Below W.heap.size W W')(sp:Nat->Bool):
  ∀{ts:U TypeId} {vs:U Value} {ds:U (DataW H)} {ps:U MemPlace},(ts.all λt=>P.readableRec t&&decide (t<P.types.size))=true->DataW.TrodAll enc P W 0 (λ_=>true) true ts vs ds ps ->
   (∀x∈ps,x.block<W.heap.size)->(∀x∈ps,sp x.block=true)->DataW.TrodAll enc P W' 0 sp true ts vs ds ps
 |[],[],[],_,_,h,_,_=>h
 |[],_::_,_,_,_,h,_,_=>h.elim
 |[],[],_::_,_,_,h,_,_=>h.elim
 |_::_,[],_,_,_,h,_,_=>h.elim
 |_::_,_::_,[],_,_,h,_,_=>h.elim
 | t::ts,v::vs,d::ds,ps,hr,h,hlt,hsp=>by
  obtain⟨p,q,h1,h2,rfl⟩:=h;simp only[List.all_cons,RR,decide_eq_true_eq]at hr;exact⟨p,q,WideElems.Trod_stays hl hr.1.1 hr.1.2 h1 (λx hx=>hb.same (hlt x (by simp[hx]))) (λx hx=>hsp x (by simp[hx])),
   Cu hl hb sp hr.2 h2 (λx hx=>hlt x (by simp[hx])) (λx hx=>hsp x (by simp[hx])),J⟩
end
section
variable {H:Type} {enc:TypeId×Value→H} {P:Program}
theorem If{f:Func}{s:ChangeSpec}{apart fresh handsOn again:Bool}{W W':World}{args:Array Value}{v:Value}{ds gs:U (DataW H)}{before pa pv:U MemPlace}
  (hW:DataW.Whole enc P f.params.toList s.vars apart W args.toList ds gs before)
  (hres:∀(b:Nat) (sp:Nat->Bool) (hd:Bool),DataW.TrodAll enc P W' b sp hd f.resultTypes.toList (v.resultList f.resultTypes.size) (s.fn H (ds++gs)).results [])
  (hargs:∀sp:Nat->Bool,(∀p∈before,sp p.block=true)->DataW.TrodAll enc P W' 0 sp true f.params.toList args.toList (s.fn H (ds++gs)).args pa)
  (hvars:∀sp:Nat->Bool,(∀p∈before,sp p.block=true)->DataW.TrodVars enc P W' sp s.vars (s.fn H (ds++gs)).vars pv)
  (hps:before=pa++pv) (hb:Below W.heap.size W W')
  (hok:∀(j:Nat) (t:TypeId) (r:Value),f.resultTypes[j]?=some t->(v.resultList f.resultTypes.size)[j]?=some r->Value.okWide P W' .any 0 t r):
  s.post enc P f apart fresh handsOn again W args v W':=by
 have hlt:∀p∈before,p.block<W.heap.size:=λp hp=>hW.lt p hp
 have hold:∀p∈before,(λb=>decide (b<W.heap.size)) p.block=true:=λp hp=>by simpa using hlt p hp
 refine⟨ds,gs,before,[],pa,pv,hW,hres _ _ _,hargs _ hold,hvars _ hold,World.keptBut_mono (λp hp=>⟨hp,?_⟩) (hb.frame (·∈before)),λ_=>?_⟩
 .rw[hps,QX]at hp
  exact Or.inr hp
 .obtain⟨_,_,_,_,_,hz,hn⟩:=hW
  refine⟨hok,_,_,([]++pa)++pv,⟨[]++pa,pv,trodAll_append (hargs _ (λ_ _=>J)) (hres _ _ _),hvars _ (λ_ _=>J),J,?_,?_⟩,?_⟩
  .intro b off hp
   have hin:MemPlace.cell b off∈before:=by rw[hps];simpa using hp
   rw[hb.frozen (hlt _ hin)]
   exact hz b off hin
  .intro ha
   have:=hn ha
   rw[hps]at this
   simpa using this
  .intro p hp _
   rw[hps]
   simpa using hp
end
theorem LB{H:Type}{enc:TypeId×Value->H}{P:Program}{id:FuncId}{f:Func}{s:ChangeSpec}{W:World}{args:Array Value}{ds gs:U (DataW H)}{before:U MemPlace}{av:U AV}{tb:TypeId}
  (hl:laidOutB P=true) (htb:P.underlying tb=some .bool) (hres:f.resultTypes=#[tb]) (hr:(f.params.toList.all λt=>P.readableRec t&&decide (t<P.types.size))=true) (hvars:s.vars=[])
  (hfn:(s.fn H (ds++gs)).results=[.lit (.bool true)]) (hfa:(s.fn H (ds++gs)).args=ds) (hfv:(s.fn H (ds++gs)).vars=[])
  (hW:DataW.Whole enc P f.params.toList s.vars false W args.toList ds gs before)
  (hrel:RelL [] W (λb=>b<W.heap.size) av args.toList) (hc:ACalls P id av [] λr aw'=>r=.bool true/\aw'=[]):
  Calls P id args W λe W'=>∃v,e=.returned v/\s.post enc P f false true false false W args v W':=by
 have hs:Sim [] [] W (λb=>b<W.heap.size):=⟨J,λk o v h=>by simp at h,λk k' o o' v v' g _ h=>by simp at h,λb h=>h⟩
 refine(hc.2 W _ [] args.toList hs hrel).mono λe W' hx=>?_
 obtain⟨v,r,aw',σ',F',he,⟨hr1,hr2⟩,_,hv,hm⟩:=hx
 subst hr1;subst hr2
 cases hv
 have hb:Below W.heap.size W W':=⟨hm.os,hm.tape,hm.output.1,hm.size,λk hk=>hm.keep k hk (λ⟨k',o,v,ho,_⟩=>by simp at ho)⟩
 refine⟨.bool true,he,?_⟩
 have hW':=hW
 obtain⟨p,q,hA,hV,rfl,hfz,hnd⟩:=hW'
 rw[hvars]at hV
 obtain⟨rfl,rfl⟩:=trodVars_none hV
 have hlt:∀x∈p++[],x.block<W.heap.size:=λx hx=>hW.lt x hx
 refine If (pa:=p) (pv:=[]) hW (λb sp hd=>?_) (λsp hsp=>?_) (λsp hsp=>?_) J hb (ok_one hres J (okWide_bool_mk htb _))
 .rw[hfn,hres]
  exact trodAll_cons_mk (shut_bool htb _) trodAll_mk0
 .rw[hfa]
  exact Cu hl hb sp hr hA (λx hx=>hlt x (by simpa using hx)) (λx hx=>hsp x (by simpa using hx))
 .rw[hfv,hvars]
  exact J
end
section
def gI(n:Int):Prop:= -9223372036854775808<=n/\n<=9223372036854775807
def gL{α:Type}(g:α->Prop)(l:List α):Prop:=∀a,a∈l->g a
def dW(a:Item):Prop:=gI a.Key/\gI a.Val/\gI a.Dep
def gNode(a:Node):Prop:=gI a.Kind/\gI a.A/\gL gI a.In/\gL gI a.Out
def gNet(a:Net):Prop:=gL gNode a.Nodes/\gI a.Rings/\gI a.Room
def od(a:Keyed):Prop:=gI a.Key/\gI a.N
def yL(a:Memory):Prop:=gI a.Sum/\gL od a.Keys/\gI a.Dep
def nT(a:Choice):Prop:=gI a.Node/\gI a.Lane
def yY(a:State):Prop:=gL gI a.At/\gL (gL dW) a.Rings/\gL yL a.Memory/\gL nT a.Choices/\gL dW a.Out
def xG(a:Happening):Prop:=gI a.Kind/\gI a.N
def mI(n:Int):Nat:=1
def mB(b:Bool):Nat:=1
def mL{α:Type}(m:α->Nat)(l:List α):Nat:=(l.map m).sum+1
def dE(a:Item):Nat:=3
def mNode(a:Node):Nat:=mL mI a.In+mL mI a.Out+2
def mNet(a:Net):Nat:=mL mNode a.Nodes+2
def kH(a:Keyed):Nat:=2
def gN(a:Memory):Nat:=mL kH a.Keys+2
def iK(a:Choice):Nat:=2
def oe(a:State):Nat:=mL mI a.At+mL (mL dE) a.Rings+mL gN a.Memory+mL iK a.Choices+mL dE a.Out
def vI(a:Happening):Nat:=2
section
variable {α σ ρ τ:Type}{k i j:Nat}{m:α->Nat}{xs:U α}{body:τ->Qbm (τ⊕ρ)}
theorem kG (h:∀a,1<=m a):∀l:U α,l.length<=mL m l
 |[]=>by simp[mL]
 |a::l=>by have:=kG h l;grind[mL]
theorem wM {m:α->Nat}:∀{l:U α} {a:α},a∈l->m a<=mL m l
 |b::l,a,h=>by
  rcases Rl.1 h with rfl|h
  .simp[mL];omega
  .have:=wM (m:=m) h;grind[mL]
theorem OB (l:U α)(a:α):mL m (a::l)=m a+mL m l:=by rfl
theorem bq {n:Int}(h0: -9223372036854775808<=n)(h1:n<=9223372036854775807):IntKind.i64.wrap n=n:=IntWalk.i64_in n ⟨h0,h1⟩
theorem bc (h:k<4611686018427387904):IntKind.i64.wrap ((k:Int)+1)=((k+1:Nat):Int):=by grind[bq]
theorem bj {x:α}(h:xs[k]?=some x):idx xs (k:Int)=some x:=by assumption
theorem dL (h:k<xs.length):ixN xs (k:Int)=some k:=by simp_all[ixN]
theorem bT {ys:U α}(h:xs.length+ys.length<=1099511627776):app xs ys=some (xs++ys):=by unfold app;rw[if_pos h]
theorem nW {xs ys:U UInt8}(h:xs.length+ys.length<=4611686018427387904):cat xs ys=some (xs++ys):=by unfold cat;rw[if_pos h]
theorem qr (h:i<=j)(h2:j<=xs.length):sub xs (i:Int) (j:Int)=some ((xs.take j).drop i):=by simp_all[sub]
theorem sub_0 (h2:j<=xs.length):sub xs 0 (j:Int)=some (xs.take j):=by have:=qr (xs:=xs) (i:=0) (j:=j) (by omega) h2;grind
theorem jx (h2:i<=xs.length):sub xs (i:Int) (xs.length:Int)=some (xs.drop i):=by simp_all[qr]
def d9{α σ ρ:Type}(f:Nat->α->σ->Option (σ⊕ρ))(fin:σ->Option ρ):Nat->List α->σ->Option ρ
 |_,[],st=>fin st
 |k,x::xs,st=>match f k x st with
  |none=>none
  |some (.inl st')=>d9 f fin (k+1) xs st'
  |some (.inr r)=>some r
theorem Cn (xs:U α)(hx:xs.length<=1099511627776)(e:Nat->σ->τ)(f:Nat->α->σ->Qbm (σ⊕ρ))(fin:σ->Qbm ρ)(h1:∀(k:Nat) x st,xs[k]?=some x->k<xs.length->idx xs (k:Int)=some x->decide ((k:Int)<(xs.length:Int))=true->IntKind.i64.wrap ((k:Int)+1)=((k+1:Nat):Int) ->
   body (e k st)=match f k x st with
    |none=>none
    |some (.inl st')=>some (.inl (e (k+1) st'))
    |some (.inr r)=>some (.inr r))(h2:∀st,decide ((xs.length:Int)<(xs.length:Int))=false->body (e xs.length st)=(fin st).map .inr):
  ∀(n k:Nat) st,k+n=xs.length->iter body (e k st)=d9 f fin k (xs.drop k) st
 |0,k,st,h=>by
  have hk:k=xs.length:=by omega
  subst hk;rw[aF,h2 st (by simp),RB];unfold d9;cases fin st<;>rfl
 | n+1,k,st,h=>by
  have hlt:k<xs.length:=by omega
  have hg:xs[k]?=some xs[k]:=QC hlt;rw[aF,h1 k xs[k] st hg hlt (bj hg) (by simp;omega) (bc (by omega)),QG hlt];unfold d9;cases f k xs[k] st with
  |none=>rfl
  |some v=>
   cases v with
   |inl st'=>exact Cn xs hx e f fin h1 h2 n (k+1) st' (by omega)
   |inr r=>rfl
theorem nK (xs:U α)(hx:xs.length<=1099511627776)(e:Nat->σ->τ)(f:Nat->α->σ->Qbm (σ⊕ρ))(fin:σ->Qbm ρ)(st:σ)(h1:∀(k:Nat) x st,xs[k]?=some x->k<xs.length->idx xs (k:Int)=some x->decide ((k:Int)<(xs.length:Int))=true->IntKind.i64.wrap ((k:Int)+1)=((k+1:Nat):Int) ->
   body (e k st)=match f k x st with
    |none=>none
    |some (.inl st')=>some (.inl (e (k+1) st'))
    |some (.inr r)=>some (.inr r))(h2:∀st,decide ((xs.length:Int)<(xs.length:Int))=false->body (e xs.length st)=(fin st).map .inr):iter body (e 0 st)=d9 f fin 0 xs st:=by
 have:=Cn xs hx e f fin h1 h2 xs.length 0 st (by omega)
 grind
theorem wa {β:Type}{body:α->Qbm (α⊕β)}(I:α->Prop)(μ:α->Nat)(R:β->Prop)(h:∀s,I s->(∃s',body s=some (.inl s')/\I s'/\μ s'< μ s)∨∃r,body s=some (.inr r)/\R r):∀(n:Nat) s,μ s<=n->I s->∃r,iter body s=some r/\R r
 | n,s,hn,hs=>by
  rcases h s hs with⟨s',h1,h2,h3⟩|⟨r,h1,h2⟩
  .match n,hn with
   |0,hn=>omega
   |n+1,hn=>
    obtain⟨r,h4,h5⟩:=wa I μ R h n s' (by omega) h2
    grind[aF]
  grind[aF]
theorem lO [DecidableEq α](a b:U α)(ha:a.length<=1099511627776)(hl:a.length=b.length){body:Int->Qbm (Int⊕Bool)}(h1:∀(k:Nat) x y,decide ((k:Int)<(a.length:Int))=true->idx a (k:Int)=some x->idx b (k:Int)=some y->IntKind.i64.wrap ((k:Int)+1)=((k+1:Nat):Int)->body k=if x=y then some (.inl ((k+1:Nat):Int))else some (.inr false))(h2:decide ((a.length:Int)<(a.length:Int))=false->body a.length=some (.inr true)):iter body 0=some (decide (a=b)):=by
 have key:∀(n k:Nat),k+n=a.length->iter body k=some (decide (a.drop k=b.drop k)):=by
  intro n;induction n with
  |zero=>
   grind[aF]
  |succ n ih=>
   intro k hk;have hlt:k<a.length:=by omega
   have hlt2:k<b.length:=by omega
   have hd:(a.drop k=b.drop k)↔(a[k]=b[k]/\a.drop (k+1)=b.drop (k+1)):=by grind[List.drop_eq_getElem_cons]
   rw[aF,h1 k a[k] b[k] (by simp;omega) (bj (QC hlt)) (bj (QC hlt2)) (bc (by omega))];grind
 have:=key a.length 0 (by omega)
 grind
end
end
section
open Go.RowKit
theorem on3:Opn Qbl 3 (λn:Int=>[.int .i64 n]) gI mI:=
 (Opn.int Vc).map id (λ_=>J) (λa h=>⟨h.1,h.2⟩) (λ_=>QJ _)
theorem on27:Opn Qbl 27 (λl=>[.sl (l.map aj)]) (gL gI) (mL mI):=
 (Opn.slice (size:=0) Vn S0 on3).map id (λ_=>J) (λa h=>h) (λ_=>QJ _)
theorem on90:Opn Qbl 90 ao gNode mNode:=
 (Opn.struct Vz TA (OpnF.cons J 1 S0 on3 (OpnF.cons J 1 S0 on3 (OpnF.cons J 1 Tq on27 (OpnF.cons J 1 Tq on27 OpnF.nil))))).map (λp=>(⟨p.1,p.2.1,p.2.2.1,p.2.2.2.1⟩:Node)) (λp=>J) (λp h=>⟨h.1,h.2.1,h.2.2.1,h.2.2.2.1⟩) (λp=>by simp only[mNode,mI,mB];omega)
theorem on22:Opn Qbl 22 (λl=>[.sl (l.map ao)]) (gL gNode) (mL mNode):=
 (Opn.slice (size:=3) VC TA on90).map id (λ_=>J) (λa h=>h) (λ_=>QJ _)
theorem on24:Opn Qbl 24 aD gNet mNet:=
 (Opn.struct VP UD (OpnF.cons J 1 UE on22 (OpnF.cons J 1 S0 on3 (OpnF.cons J 1 S0 on3 OpnF.nil)))).map (λp=>(⟨p.1,p.2.1,p.2.2.1⟩:Net)) (λp=>J) (λp h=>⟨h.1,h.2.1,h.2.2.1⟩) (λp=>by simp only[mNet,mI,mB];omega)
theorem on75:Opn Qbl 75 aa dW dE:=
 (Opn.struct Vp TB (OpnF.cons J 1 S0 on3 (OpnF.cons J 1 S0 on3 (OpnF.cons J 1 S0 on3 OpnF.nil)))).map (λp=>(⟨p.1,p.2.1,p.2.2.1⟩:Item)) (λp=>J) (λp h=>⟨h.1,h.2.1,h.2.2.1⟩) (λp=>by simp only[dE,mI,mB];omega)
theorem on30:Opn Qbl 30 (λl=>[.sl (l.map aa)]) (gL dW) (mL dE):=
 (Opn.slice (size:=2) Vo TB on75).map id (λ_=>J) (λa h=>h) (λ_=>QJ _)
theorem on25:Opn Qbl 25 (λl=>[.sl (l.map (ak aa))]) (gL (gL dW)) (mL (mL dE)):=
 (Opn.slice (size:=0) Vq Tf on30).map id (λ_=>J) (λa h=>h) (λ_=>QJ _)
theorem on44:Opn Qbl 44 cJ xG vI:=
 (Opn.struct Vx TC (OpnF.cons J 1 S0 on3 (OpnF.cons J 1 S0 on3 OpnF.nil))).map (λp=>(⟨p.1,p.2.1⟩:Happening)) (λp=>J) (λp h=>⟨h.1,h.2.1⟩) (λp=>by simp only[vI,mI,mB];omega)
theorem on26:Opn Qbl 26 (λl=>[.sl (l.map cJ)]) (gL xG) (mL vI):=
 (Opn.slice (size:=1) Vr TC on44).map id (λ_=>J) (λa h=>h) (λ_=>QJ _)
end
def iO:Ends:=⟨-1, -1⟩
theorem D7(R:Nat)(hR:R<=16):∀(n k:Nat) (xs:U Ends),R- k<=n->1<=k->k<=R->xs.length=R->xs.take k=List.replicate k iO ->
  iter (λss:Int×U Ends=>lf ss.1 ss.2) ((k:Int),xs)=some (List.replicate R iO)
 | n,k,xs,hn,h1,h2,hl,ht=>by
  rw[aF];by_cases hk:k=R
  .simp_all[lf,Rt]
  .have hkR:k<R:=by omega
   have v1:vwok xs.length (k:Int) (xs.length:Int)=some ():=by simp_all[vwok]
   have v2:vwok xs.length 0 (k:Int)=some ():=by simp_all[vwok]
   have v3:vwok xs.length ((((k:Int)).toNat:Nat):Int) ((((k:Int).toNat:Nat):Int)+((((xs.length:Int)).toNat- (k:Int).toNat:Nat):Int))=some ():=by grind
   have v4:vwok xs.length ((((0:Int)).toNat:Nat):Int) ((((0:Int).toNat:Nat):Int)+(((k:Int).toNat- (0:Int).toNat:Nat):Int))=some ():=by grind
   have hstep:lf (k:Int) xs=some (.inl (((k+min (R- k) k:Nat):Int),xs.take k++(xs.take k).take (R- k)++xs.drop (k+min (R- k) k))):=by
    unfold lf;rw[if_pos (by simp;omega),v1,QB,v2,QB,v3,QB,v4,QB];have e1:IntKind.i64.wrap ((k:Int)+((min (((xs.length:Int)).toNat- (k:Int).toNat) ((k:Int).toNat- (0:Int).toNat):Nat):Int))=((k+min (R- k) k:Nat):Int):=by grind[bq]
    simp_all[cpy]
   rw[hstep];simp only;have hm:1<=min (R- k) k:=by omega
   match n,hn with
   |0,hn=>omega
   |n+1,hn=>
    refine D7 R hR n (k+min (R- k) k) _ (by omega) (by omega) (by omega) (by simp;omega) ?_
    simp_all
theorem Mg(R:Nat)(hR:R<=16):vk (IntKind.u64.wrap (([(⟨(-1),(-1)⟩:Ends)]:U Ends).length:Int)) (IntKind.u64.wrap (R:Int))=some (0,(R:Int)):=by
 have:R=0∨R=1∨R=2∨R=3∨R=4∨R=5∨R=6∨R=7∨R=8∨R=9∨R=10∨R=11∨R=12∨R=13∨R=14∨R=15∨R=16:=by omega
 rcases this with rfl|rfl|rfl|rfl|rfl|rfl|rfl|rfl|rfl|rfl|rfl|rfl|rfl|rfl|rfl|rfl|rfl<;>rfl
theorem Ka(R:Nat)(hR:R<=16):rR ([(⟨(-1),(-1)⟩:Ends)]:U Ends) (R:Int)=some (List.replicate R iO):=by
 unfold rR;rw[if_neg (by simp),Mg R hR,QB,if_neg (by simp;omega),bq (show-9223372036854775808<=(R:Int) by omega) (show(R:Int)<=9223372036854775807 by omega)];have hmk:mk (R:Int) (⟨0,0⟩:Ends)=some (List.replicate R ⟨0,0⟩):=by unfold mk;grind
 rw[hmk,QB];simp only[List.length_replicate,Sg];by_cases h0:R=0
 .grind[aF,lf,cpy]
 .have e:min R 1=1:=by omega
  rw[e];have hc:cpy (List.replicate R (⟨0,0⟩:Ends)) 0 R [(⟨(-1),(-1)⟩:Ends)]=iO::(List.replicate R (⟨0,0⟩:Ends)).drop 1:=by grind[cpy,List.take_of_length_le,iO]
  rw[hc];exact D7 R hR R 1 _ (by omega) (by omega) (by omega) (by simp;omega) (by simp)
def e8(k:Int):Option (Int×Int):=if k=1 then some (0,1)else if k=2∨k=3∨k=4 then some (1,1)else if k=5∨k=7 then some (1, -1)else if k=6 then some (-1,1)else if k=8 then some (1,0)else none
def ea(n:Nat)(want:Int):Bool:=decide ((n:Int)=want∨want<0/\0<n)
def badA(x:Node):Bool:=decide (x.A<0∨x.Kind=1/\4<=x.A∨x.Kind=2/\3<x.A∨x.Kind≠1/\x.Kind≠2/\x.A≠0)
def gj(x:Node):Int:=match e8 x.Kind with
 |none=>5
 |some (i,o)=>if(ea x.In.length i&&ea x.Out.length o)=false then 4 else if badA x then 3 else 0
def fS(R i:Int):List Int->List Ends->Int⊕List Ends
 |[],l=>.inr l
 |r::rs,l=>if r<0∨R<=r then .inl 3 else match l[r.toNat]? with
  |none=>.inl 99
  |some e=>if 0<=e.dst then .inl 6 else fS R i rs (l.set r.toNat ⟨e.src,i⟩)
def eW(R i:Int):List Int->List Ends->Int⊕List Ends
 |[],l=>.inr l
 |r::rs,l=>if r<0∨R<=r then .inl 3 else match l[r.toNat]? with
  |none=>.inl 99
  |some e=>if 0<=e.src then .inl 6 else eW R i rs (l.set r.toNat ⟨i,e.dst⟩)
def oneN(R:Int)(i:Nat)(x:Node)(l:List Ends):Int⊕List Ends:=
 if gj x≠0 then .inl (gj x)else match fS R i x.In l with
  | .inl e=>.inl e
  | .inr l1=>eW R i x.Out l1
def gS(R:Int):Nat->List Node->Nat->List Ends->Int⊕(Nat×List Ends)
 |_,[],s,l=>.inr (s,l)
 |i,x::xs,s,l=>match oneN R i x l with
  | .inl e=>.inl e
  | .inr l1=>gS R (i+1) xs (if x.Kind=8 then s+1 else s) l1
def iS(n:Net):Int⊕List Ends:=
 if n.Nodes.length<1∨12<n.Nodes.length∨n.Rings<0∨16<n.Rings then .inl 2
 else if n.Room<1∨6<n.Room then .inl 3
 else match gS n.Rings 0 n.Nodes 0 (List.replicate n.Rings.toNat iO)with
  | .inl e=>.inl e
  | .inr (s,l)=>if l.any (λe=>decide (e.src<0∨e.dst<0))then .inl 9 else if s≠1 then .inl 4 else .inr l
theorem xU(R i:Int):∀(rs:U Int) (l l1:U Ends),fS R i rs l=.inr l1->l1.length=l.length
 |[],l,l1,h=>by cases h;rfl
 | r::rs,l,l1,h=>by
  unfold fS at h;split at h
  .cases h
  .split at h
   .cases h
   .split at h
    .cases h
    .have:=xU R i rs _ l1 h;grind
theorem vT(R i:Int):∀(rs:U Int) (l l1:U Ends),eW R i rs l=.inr l1->l1.length=l.length
 |[],l,l1,h=>by cases h;rfl
 | r::rs,l,l1,h=>by
  unfold eW at h;split at h
  .cases h
  .split at h
   .cases h
   .split at h
    .cases h
    .have:=vT R i rs _ l1 h;grind
theorem Dn{R:Int}{i:Nat}{x:Node}{l l1:U Ends}(h:oneN R i x l=.inr l1):l1.length=l.length:=by
 unfold oneN at h;split at h
 .cases h
 .split at h
  .cases h
  .rename_i l2 h2;exact(vT R i _ _ _ h).trans (xU R i _ _ _ h2)
theorem Lj(k:Int):sY k=some (match e8 k with|some (i,o)=>(i,o,true)|none=>(0,0,false)):=by grind[sY,nm,pz,e8]
theorem Mf(n:Nat)(w:Int):pZ (n:Int) w=some (ea n w):=by unfold pZ ea;congr 1;grind
theorem MU(n:Net)(s:Int)(i:Nat)(x:Node)(hR:n.Rings<=16)(k:Nat)(l:U Ends)(hlt:k<x.Out.length)(hx:x.Out.length<=1099511627776)(hl:(l.length:Int)=n.Rings):
  lH n i x s k l=if x.Out[k]<0∨n.Rings<=x.Out[k]then some (.inr (.inr ([],3)))else match l[x.Out[k].toNat]? with
   |none=>none
   |some e=>if 0<=e.src then some (.inr (.inr ([],6)))else some (.inl (((k+1:Nat):Int),l.set x.Out[k].toNat ⟨i,e.dst⟩)):=by
 unfold lH
 rw[if_pos (by simp;omega),bj (QC hlt),QB]
 by_cases hr:x.Out[k]<0∨n.Rings<=x.Out[k]
 .grind
 .rw[if_neg (by simp;omega),if_neg hr]
  have hrl:x.Out[k].toNat<l.length:=by omega
  have hix:ixN l x.Out[k]=some x.Out[k].toNat:=by simp_all[ixN]
  have hg:=QC hrl
  simp only[hix,hg,QB,bc (show k<4611686018427387904 by omega)]
  simp
theorem Nj(n:Net)(s:Int)(i:Nat)(x:Node)(hR:n.Rings<=16)(k:Nat)(l:U Ends)(hlt:k<x.In.length)(hx:x.In.length<=1099511627776)(hl:(l.length:Int)=n.Rings):
  lF n i x s k l=if x.In[k]<0∨n.Rings<=x.In[k]then some (.inr (.inr ([],3)))else match l[x.In[k].toNat]? with
   |none=>none
   |some e=>if 0<=e.dst then some (.inr (.inr ([],6)))else some (.inl (((k+1:Nat):Int),l.set x.In[k].toNat ⟨e.src,i⟩)):=by
 unfold lF
 rw[if_pos (by simp;omega),bj (QC hlt),QB]
 by_cases hr:x.In[k]<0∨n.Rings<=x.In[k]
 .grind
 .rw[if_neg (by simp;omega),if_neg hr]
  have hrl:x.In[k].toNat<l.length:=by omega
  have hix:ixN l x.In[k]=some x.In[k].toNat:=by simp_all[ixN]
  have hg:=QC hrl
  simp only[hix,hg,QB,bc (show k<4611686018427387904 by omega)]
  simp
theorem Eu(n:Net)(s:Int)(i:Nat)(x:Node)(hx:x.Out.length<=1099511627776)(hi:i<=12)(hR:n.Rings<=16):
  ∀(m k:Nat) (l:U Ends),k+m=x.Out.length->(l.length:Int)=n.Rings ->
  iter (λss:Int×U Ends=>lH n i x s ss.1 ss.2) ((k:Int),l)=match eW n.Rings i (x.Out.drop k) l with
   | .inl e=>some (.inr ([],e))
   | .inr l1=>some (.inl (s,((i+1:Nat):Int),l1))
 |0,k,l,h,hl=>by
  have hk:k=x.Out.length:=by omega
  subst hk;have:lH n i x s (x.Out.length:Int) l=some (.inr (.inl (s,((i+1:Nat):Int),l))):=by unfold lH;rw[if_neg (by simp),bc (by omega)];rfl
  grind[aF,eW]
 | m+1,k,l,h,hl=>by
  have hlt:k<x.Out.length:=by omega
  rw[aF,QG hlt];simp only[eW,MU n s i x hR k l hlt hx hl];by_cases hr:x.Out[k]<0∨n.Rings<=x.Out[k]
  .grind
  .simp only[if_neg hr];have hrl:x.Out[k].toNat<l.length:=by omega
   simp only[QC hrl];by_cases he:0<=l[x.Out[k].toNat].src
   .grind
   .simp only[if_neg he];exact Eu n s i x hx hi hR m (k+1) _ (by omega) (by grind)
theorem E9(n:Net)(s:Int)(i:Nat)(x:Node)(hx:x.Out.length<=1099511627776)(hx2:x.In.length<=1099511627776)(hi:i<=12)(hR:n.Rings<=16):
  ∀(m k:Nat) (l:U Ends),k+m=x.In.length->(l.length:Int)=n.Rings ->
  iter (λss:Int×U Ends=>lF n i x s ss.1 ss.2) ((k:Int),l)=match(match fS n.Rings i (x.In.drop k) l with| .inl e=>Sum.inl e| .inr l1=>eW n.Rings i x.Out l1)with
   | .inl e=>some (.inr ([],e))
   | .inr l1=>some (.inl (s,((i+1:Nat):Int),l1))
 |0,k,l,h,hl=>by
  have hk:k=x.In.length:=by omega
  subst hk;have:=Eu n s i x hx hi hR x.Out.length 0 l (by omega) hl;simp only[Rn,Q0]at this;have h2:lF n i x s (x.In.length:Int) l=Option.map Sum.inr (match eW n.Rings i x.Out l with| .inl e=>some (.inr ([],e))| .inr l1=>some (.inl (s,((i+1:Nat):Int),l1))):=by simp_all[lF]
  grind[aF,fS]
 | m+1,k,l,h,hl=>by
  have hlt:k<x.In.length:=by omega
  rw[aF,QG hlt];simp only[fS,Nj n s i x hR k l hlt hx2 hl];by_cases hr:x.In[k]<0∨n.Rings<=x.In[k]
  .grind
  .simp only[if_neg hr];have hrl:x.In[k].toNat<l.length:=by omega
   simp only[QC hrl];by_cases he:0<=l[x.In[k].toNat].dst
   .grind
   .simp only[if_neg he];exact E9 n s i x hx hx2 hi hR m (k+1) _ (by omega) (by grind)
theorem MF(x:Node):((decide (x.A<0))||(if(x.Kind==1)=true then((decide (x.A>=4))||(if(x.Kind==2)=true then((decide (x.A> 3))||((x.Kind !=1)&&((x.Kind !=2)&&x.A !=0)))else((x.Kind !=1)&&((x.Kind !=2)&&x.A !=0))))else(if(x.Kind==2)=true then((decide (x.A> 3))||((x.Kind !=1)&&((x.Kind !=2)&&x.A !=0)))else((x.Kind !=1)&&((x.Kind !=2)&&x.A !=0)))))=badA x:=by unfold badA;grind
theorem No(s:Int)(l:U Ends)(hl:l.length<=16):iter (λss:Int=>nw s l ss) 0=some (if l.any (λe=>decide (e.src<0∨e.dst<0))then([],9)else if s≠1 then([],4)else(l,0)):=by
 have:=nK (σ:=Unit) l (by omega) (λk _=>(k:Int)) (body:=λss=>nw s l ss)
  (λk e _=>if e.src<0∨e.dst<0 then some (.inr ([],9))else some (.inl ())) (λ_=>if s≠1 then some ([],4)else some (l,0)) ()
  (λk e _ hk hlt _ h2 h3=>by unfold nw;rw[h2,dL hlt,h3];grind)
  (λ_ h=>by simp[nw])
 refine Eq.trans this ?_;have key:∀(ys:U Ends) (k:Nat),d9 (σ:=Unit) (ρ:=U Ends×Int) (λk e _=>if e.src<0∨e.dst<0 then some (.inr ([],9))else some (.inl ())) (λ_=>if s≠1 then some ([],4)else some (l,0)) k ys ()=some (if ys.any (λe=>decide (e.src<0∨e.dst<0))then([],9)else if s≠1 then([],4)else(l,0)):=by
  intro ys;induction ys with
  |nil=>grind[d9]
  |cons y ys ih=>
   intro k;unfold d9;grind
 exact key l 0
theorem Ew(n:Net)(hn:n.Nodes.length<=12)(hR0:0<=n.Rings)(hR:n.Rings<=16)(hio:∀x∈n.Nodes,x.In.length<=1099511627776/\x.Out.length<=1099511627776):
  ∀(m k s:Nat) (l:U Ends),k+m=n.Nodes.length->s<=k->(l.length:Int)=n.Rings ->
  iter (λss:Int×Int×U Ends=>lI n ss.1 ss.2.1 ss.2.2) ((s:Int),(k:Int),l)=some (match gS n.Rings k (n.Nodes.drop k) s l with
   | .inl e=>([],e)
   | .inr (s,l)=>if l.any (λe=>decide (e.src<0∨e.dst<0))then([],9)else if s≠1 then([],4)else(l,0))
 |0,k,s,l,h,hs,hl=>by
  have hk:k=n.Nodes.length:=by omega
  subst hk;have h5:lI n s (n.Nodes.length:Int) l=some (.inr (if l.any (λe=>decide (e.src<0∨e.dst<0))then([],9)else if(s:Int)≠1 then([],4)else(l,0))):=by unfold lI;rw[if_neg (by simp),No _ _ (by omega)];rfl
  grind[aF,gS]
 | m + 1,k,s,l,h,hs,hl=>by
  have hlt:k<n.Nodes.length:=by omega
  have hmem:n.Nodes[k]∈n.Nodes:=QU hlt;rw[aF,QG hlt];simp only[gS];have step:lI n s k l=match oneN n.Rings k n.Nodes[k] l with
    | .inl e=>some (.inr ([],e))
    | .inr l1=>some (.inl (((if n.Nodes[k].Kind=8 then s+1 else s:Nat):Int),((k+1:Nat):Int),l1)):=by
   unfold lI
   rw[if_pos (by simp;omega),bj (QC hlt),QB,Lj,QB]
   generalize n.Nodes[k]=x at hmem
   unfold oneN gj
   cases ha:e8 x.Kind with
   |none=>simp
   | some io=>
    obtain⟨i0,o0⟩:=io
    simp only[Bool.not_true,QI,if_false,Mf,QB]
    have hfit:(if(!ea x.In.length i0)=true then some true else some (!ea x.Out.length o0))=some (!(ea x.In.length i0&&ea x.Out.length o0)):=by grind
    rw[hfit,QB]
    by_cases hf:(ea x.In.length i0&&ea x.Out.length o0)=false
    .grind
    .have hf':(ea x.In.length i0&&ea x.Out.length o0)=true:=by grind
     rw[if_neg (by simp[hf']),MF]
     simp only[hf',Bool.true_eq_false,if_false]
     by_cases hb:badA x=true
     .simp[hb]
     .simp only[hb,if_false,QI,ne_eq,not_true_eq_false]
      obtain⟨h1,h2⟩:=hio x hmem
      have k3:∀s':Int,nz n k l x s'=match(match fS n.Rings k x.In l with| .inl e=>Sum.inl e| .inr l1=>eW n.Rings k x.Out l1)with
        | .inl e=>some (.inr ([],e))
        | .inr l1=>some (.inl (s',((k+1:Nat):Int),l1)):=λs'=>by
       unfold nz
       have:=E9 n s' k x h2 h1 (by omega) hR x.In.length 0 l (by omega) hl
       grind
      by_cases h8:x.Kind=8
      .rw[if_pos (by simp[h8]),k3,bc (by omega)]
       grind
      grind
  simp only[step];cases ho:oneN n.Rings k n.Nodes[k] l with
  |inl e=>rfl
  |inr l1=>
   simp only;exact Ew n hn hR0 hR hio m (k+1) _ l1 (by omega) (by grind) (by grind[Dn])
theorem IH(n:Net)(hio:∀x∈n.Nodes,x.In.length<=1099511627776/\x.Out.length<=1099511627776):tm n=some (match iS n with| .inl e=>([],e)| .inr l=>(l,0)):=by
 unfold tm iS;by_cases h1:n.Nodes.length<1∨12<n.Nodes.length∨n.Rings<0∨16<n.Rings
 .grind
 rw[if_neg (by simp;omega),if_neg h1];by_cases h2:n.Room<1∨6<n.Room
 .grind
 rw[if_neg (by simp;omega),if_neg h2];have hRn:n.Rings=((n.Rings.toNat:Nat):Int):=by omega
 rw[hRn,Ka _ (by omega),QB,<- hRn];have:=Ew n (by omega) (by omega) (by omega) hio n.Nodes.length 0 0 (List.replicate n.Rings.toNat iO) (by omega) (by omega) (by simp;omega);grind
theorem B8(R i:Int)(hi:0<=i):∀(rs:U Int) (l l1:U Ends),(l.length:Int)=R->fS R i rs l=.inr l1 ->
  (∀r∈rs,0<=r/\r<R/\∀e,l[r.toNat]?=some e->e.dst<0)/\rs.Nodup/\∀j:Nat,l1[j]?=if(j:Int)∈rs then(l[j]?).map (λe=>⟨e.src,i⟩)else l[j]?
 |[],l,l1,hl,h=>by cases h;simp
 | r ::rs,l,l1,hl,h=>by
  unfold fS at h;split at h
  .cases h
  .rename_i hr;split at h
   .cases h
   .rename_i e he;split at h
    .cases h
    .rename_i hd;have hlt:r.toNat<l.length:=(QD.1 he).1;obtain⟨h1,h2,h3⟩:=B8 R i hi rs _ l1 (by grind) h;have hnot:r∉rs:=λhm=>by
      grind
     refine⟨λq hq=>?_,R7.2 ⟨hnot,h2⟩,λj=>?_⟩
     .rcases Rl.1 hq with rfl|hq
      .grind
      .obtain⟨a,b,c⟩:=h1 q hq;refine⟨a,b,λe' he'=>?_⟩;have hne:q≠r:=λe=>hnot (e▸hq)
       exact c e' (by rw[QS,if_neg (by omega)];exact he')
     .rw[h3 j,QS];by_cases hj:(j:Int)=r
      .have hjr:r.toNat=j:=by omega
       grind
      .have hjr:¬r.toNat=j:=by omega
       simp_all
theorem Ca(R i:Int)(hi:0<=i):∀(rs:U Int) (l l1:U Ends),(l.length:Int)=R->eW R i rs l=.inr l1 ->
  (∀r∈rs,0<=r/\r<R/\∀e,l[r.toNat]?=some e->e.src<0)/\rs.Nodup/\∀j:Nat,l1[j]?=if(j:Int)∈rs then(l[j]?).map (λe=>⟨i,e.dst⟩)else l[j]?
 |[],l,l1,hl,h=>by cases h;simp
 | r ::rs,l,l1,hl,h=>by
  unfold eW at h;split at h
  .cases h
  .rename_i hr;split at h
   .cases h
   .rename_i e he;split at h
    .cases h
    .rename_i hd;have hlt:r.toNat<l.length:=(QD.1 he).1;obtain⟨h1,h2,h3⟩:=Ca R i hi rs _ l1 (by grind) h;have hnot:r∉rs:=λhm=>by
      grind
     refine⟨λq hq=>?_,R7.2 ⟨hnot,h2⟩,λj=>?_⟩
     .rcases Rl.1 hq with rfl|hq
      .grind
      .obtain⟨a,b,c⟩:=h1 q hq;refine⟨a,b,λe' he'=>?_⟩;have hne:q≠r:=λe=>hnot (e▸hq)
       exact c e' (by rw[QS,if_neg (by omega)];exact he')
     .rw[h3 j,QS];by_cases hj:(j:Int)=r
      .have hjr:r.toNat=j:=by omega
       grind
      .have hjr:¬r.toNat=j:=by omega
       simp_all
structure Looked (ns:List Node) (R:Int) (k:Nat) (l:List Ends):Prop where
 len:(l.length:Int)=R
 src:∀(j:Nat) e,l[j]?=some e->(e.src<0∨∃(i:Nat) (x:Node),i<k/\ns[i]?=some x/\e.src=i/\(j:Int)∈x.Out)
 dst:∀(j:Nat) e,l[j]?=some e->(e.dst<0∨∃(i:Nat) (x:Node),i<k/\ns[i]?=some x/\e.dst=i/\(j:Int)∈x.In)
 node:∀(i:Nat) x,i<k->ns[i]?=some x->gj x=0/\x.In.Nodup/\x.Out.Nodup /\
  (∀r∈x.In,0<=r/\r<R/\∃e,l[r.toNat]?=some e/\e.dst=i)/\(∀r∈x.Out,0<=r/\r<R/\∃e,l[r.toNat]?=some e/\e.src=i)
theorem Looked.one{ns:U Node}{R:Int}{k:Nat}{l l1:U Ends}{x:Node}(h:Looked ns R k l)(hx:ns[k]?=some x)(ho:oneN R k x l=.inr l1):Looked ns R (k+1) l1:=by
 unfold oneN at ho;split at ho
 .cases ho
 .rename_i hne;split at ho
  .cases ho
  .rename_i l2 h2;have hl2:(l2.length:Int)=R:=by rw[xU R k _ _ _ h2];exact h.len
   obtain⟨a1,a2,a3⟩:=B8 R k (by omega) _ _ _ h.len h2;obtain⟨b1,b2,b3⟩:=Ca R k (by omega) _ _ _ hl2 ho;have hent:∀(j:Nat) e1,l1[j]?=some e1->∃e,l[j]?=some e/\e1.src=(if(j:Int)∈x.Out then(k:Int)else e.src)/\e1.dst=(if(j:Int)∈x.In then(k:Int)else e.dst):=λj e1 he1=>by
    rw[b3 j,a3 j]at he1;cases hj:l[j]? with
    |none=>simp_all
    |some e=>
     rw[hj]at he1;refine⟨e,J,?_⟩;split at he1<;>split at he1<;>cases he1<;>simp_all
   have hent2:∀(j:Nat) e,l[j]?=some e->∃e1,l1[j]?=some e1/\e1.src=(if(j:Int)∈x.Out then(k:Int)else e.src)/\e1.dst=(if(j:Int)∈x.In then(k:Int)else e.dst):=λj e he=>by
    have hlt:j<l1.length:=by grind[vT]
    obtain⟨e',h1,h3⟩:=hent j _ (QC hlt);rw[he]at h1;cases h1;grind
   refine⟨by grind[vT],λj e1 he1=>?_,λj e1 he1=>?_,λi y hi hy=>?_⟩
   .obtain⟨e,he,hs,_⟩:=hent j e1 he1;by_cases hm:(j:Int)∈x.Out
    .grind
    .rw[if_neg hm]at hs;rw[hs];rcases h.src j e he with h1|⟨i,y,h1,h2,h3,h4⟩
     all_goals grind
   .obtain⟨e,he,_,hs⟩:=hent j e1 he1;by_cases hm:(j:Int)∈x.In
    .grind
    .rw[if_neg hm]at hs;rw[hs];rcases h.dst j e he with h1|⟨i,y,h1,h2,h3,h4⟩
     all_goals grind
   .rcases Nat.lt_or_ge i k with hik|hik
    .obtain⟨c1,c2,c3,c4,c5⟩:=h.node i y hik hy;refine⟨c1,c2,c3,λr hr=>?_,λr hr=>?_⟩
     .obtain⟨d1,d2,e,d3,d4⟩:=c4 r hr;refine⟨d1,d2,?_⟩;obtain⟨e1,f1,_,f2⟩:=hent2 _ e d3;have hnm:(r.toNat:Int)∉x.In:=λhm=>by
       grind[Int.toNat_natCast]
      grind
     .obtain⟨d1,d2,e,d3,d4⟩:=c5 r hr;refine⟨d1,d2,?_⟩;obtain⟨e1,f1,f2,_⟩:=hent2 _ e d3;have hnm:(r.toNat:Int)∉x.Out:=λhm=>by
       have hl2e:∃e2,l2[r.toNat]?=some e2/\e2.src=e.src:=by rw[a3];split<;>simp[d3]
       obtain⟨e2,g1,g2⟩:=hl2e;grind[Int.toNat_natCast]
      grind
    .have hik:i=k:=by omega
     subst hik;rw[hx]at hy;cases hy;refine⟨by omega,a2,b2,λr hr=>?_,λr hr=>?_⟩
     .obtain⟨d1,d2,_⟩:=a1 r hr;refine⟨d1,d2,?_⟩;have hlt:r.toNat<l.length:=by have:=h.len;omega
      obtain⟨e1,f1,_,f2⟩:=hent2 _ _ (QC hlt);rw[if_pos (by grind[Int.toNat_of_nonneg])]at f2;grind
     .obtain⟨d1,d2,_⟩:=b1 r hr;refine⟨d1,d2,?_⟩;have hlt:r.toNat<l.length:=by have:=h.len;omega
      obtain⟨e1,f1,f2,_⟩:=hent2 _ _ (QC hlt);rw[if_pos (by grind[Int.toNat_of_nonneg])]at f2;grind
theorem Looked.start(ns:U Node)(R:Nat):Looked ns R 0 (List.replicate R iO):=
 ⟨by simp,λj e he=>by rw[RU]at he;split at he<;>cases he;exact .inl (by decide),λj e he=>by rw[RU]at he;split at he<;>cases he;exact .inl (by decide),λi x hi=>by omega⟩
theorem CD(ns:U Node)(R:Int):∀(xs:U Node) (k s:Nat) (l:U Ends) (s1:Nat) (l1:U Ends),ns.drop k=xs->Looked ns R k l->gS R k xs s l=.inr (s1,l1) ->
  Looked ns R ns.length l1/\s1=s+(xs.filter (λx=>decide (x.Kind=8))).length
 | [],k,s,l,s1,l1,hd,h,hn=>by
  cases hn;have hk:ns.length<=k:=List.drop_eq_nil_iff.1 hd;refine⟨⟨h.len,λj e he=>?_,λj e he=>?_,λi x hi hx=>h.node i x (by omega) hx⟩,by simp⟩
  .rcases h.src j e he with h1|⟨i,y,h1,h2,h3⟩
   all_goals grind
  .rcases h.dst j e he with h1|⟨i,y,h1,h2,h3⟩
   all_goals grind
 |x::xs,k,s,l,s1,l1,hd,h,hn=>by
  have hx:ns[k]?=some x:=by have:=congrArg (λl=>l[0]?) hd;grind
  have hd2:ns.drop (k+1)=xs:=by have:=congrArg (List.drop 1) hd;grind[List.drop_drop]
  unfold gS at hn;split at hn
  .cases hn
  .rename_i l2 h2;obtain⟨a,b⟩:=CD ns R xs (k+1) _ l2 s1 l1 hd2 (h.one hx h2) hn;grind
structure NetL (n:Net) (l:List Ends):Prop where
 n1:1<=n.Nodes.length
 n2:n.Nodes.length<=12
 r1:0<=n.Rings
 r2:n.Rings<=16
 m1:1<=n.Room
 m2:n.Room<=6
 len:(l.length:Int)=n.Rings
 src:∀(j:Nat) e,l[j]?=some e->∃(i:Nat) (x:Node),n.Nodes[i]?=some x/\e.src=i/\(j:Int)∈x.Out
 dst:∀(j:Nat) e,l[j]?=some e->∃(i:Nat) (x:Node),n.Nodes[i]?=some x/\e.dst=i/\(j:Int)∈x.In
 err:∀(i:Nat) x,n.Nodes[i]?=some x->gj x=0
 ndI:∀(i:Nat) x,n.Nodes[i]?=some x->x.In.Nodup
 ndO:∀(i:Nat) x,n.Nodes[i]?=some x->x.Out.Nodup
 inn:∀(i:Nat) x,n.Nodes[i]?=some x->∀r∈x.In,0<=r/\r<n.Rings/\∃e,l[r.toNat]?=some e/\e.dst=i
 out:∀(i:Nat) x,n.Nodes[i]?=some x->∀r∈x.Out,0<=r/\r<n.Rings/\∃e,l[r.toNat]?=some e/\e.src=i
 sink:(n.Nodes.filter (λx=>decide (x.Kind=8))).length=1
theorem yu{n:Net}{l:U Ends}(h:iS n=.inr l):NetL n l:=by
 unfold iS at h;split at h
 .cases h
 .rename_i h1;split at h
  .cases h
  .rename_i h2;split at h
   .cases h
   .rename_i s l' hn;split at h
    .cases h
    .rename_i hany;split at h
     .cases h
     .rename_i hs;cases h;have hst:=Looked.start n.Nodes n.Rings.toNat;rw[Ri (by omega)]at hst;obtain⟨a,b⟩:=CD n.Nodes n.Rings n.Nodes 0 0 _ s l (by simp) hst hn;have hpos:∀(j:Nat) e,l[j]?=some e->¬e.src<0/\¬e.dst<0:=λj e he=>by
       grind
      refine⟨by omega,by omega,by omega,by omega,by omega,by omega,a.len,λj e he=>?_,λj e he=>?_,λi x hx=>(a.node i x (QD.1 hx).1 hx).1,λi x hx=>(a.node i x (QD.1 hx).1 hx).2.1,λi x hx=>(a.node i x (QD.1 hx).1 hx).2.2.1,λi x hx=>(a.node i x (QD.1 hx).1 hx).2.2.2.1,λi x hx=>(a.node i x (QD.1 hx).1 hx).2.2.2.2,by omega⟩
      .rcases a.src j e he with h3|⟨i,y,_,h4⟩
       all_goals grind
      .rcases a.dst j e he with h3|⟨i,y,_,h4⟩
       all_goals grind
section
def e9(ok:Nat->Bool):Nat->Nat->Option Nat
 |0,_=>none
 |m+1,k=>if ok k then some k else e9 ok m (k+1)
theorem Bp {ok:Nat->Bool}:∀{m k i:Nat},e9 ok m k=some i->k<=i/\i<k+m/\ok i=true
 |0,k,i,h=>by cases h
 |m+1,k,i,h=>by
  unfold e9 at h;split at h
  .grind
  .obtain⟨a,b,c⟩:=Bp h;grind
theorem Bv {ok:Nat->Bool}:∀(m k:Nat),e9 ok (m+1) k=match e9 ok m k with|some i=>some i|none=>if ok (k+m)then some (k+m)else none
 |0,k=>by simp[e9]
 |m+1,k=>by
  rw[e9,Bv m (k+1)];by_cases h:ok k=true
  .simp[e9,h]
  .rw[if_neg h,e9,if_neg h];grind
def lastD(ok:Nat->Bool):Nat->Int->Int
 |0,b=>b
 |k+1,b=>lastD ok k (if ok k then(k:Int)else b)
theorem D5 {ok:Nat->Bool}:∀(k:Nat) (b:Int),lastD ok k b=match e9 ok k 0 with|some i=>(i:Int)|none=>b
 |0,b=>rfl
 |k+1,b=>by rw[lastD,D5 k,Bv];grind
def fedN(l:List Ends)(out:List Nat)(x:Node):Bool:=x.In.all λr=>match l[r.toNat]? with|some e=>out.contains e.src.toNat|none=>false
def okN(l:List Ends)(out:List Nat)(ns:List Node)(i:Nat):Bool:=!(out.contains i)&&(match ns[i]? with|some x=>fedN l out x|none=>false)
def ordN(l:List Ends)(ns:List Node):Nat->List Nat->Option (List Nat)
 |0,out=>some out
 |m+1,out=>match e9 (okN l out ns) ns.length 0 with
  |none=>none
  |some i=>ordN l ns m (out++[i])
def dA(n:Net):List Int×Int:=match iS n with
 | .inl e=>([],e)
 | .inr l=>match ordN l n.Nodes n.Nodes.length []with
  |none=>([],7)
  |some out=>(out.map (λi:Nat=>(i:Int)),0)
def dy(N:Nat)(out:List Nat):List Bool:=(List.range N).map λi=>out.contains i
section
variable {N i:Nat}{out:U Nat}
theorem pX (h:i<N):(dy N out)[i]?=some (out.contains i):=by grind[dy]
theorem sS:(dy N out).length=N:=by simp[dy]
theorem J1 (h:i<N):(dy N out).set i true=dy N (out++[i]):=by
 apply Rj;intro j;rw[QS,sS];by_cases hj:j<N
 .rw[pX hj];by_cases hij:i=j
  .simp_all[pX]
  .rw[if_neg hij,pX hj];grind
 simp_all[sS]
theorem JW (N:Nat):List.replicate N false=dy N []:=by
 apply Rj;intro j;rw[RU];by_cases hj:j<N
 .simp_all[pX]
 simp_all[sS]
theorem K6 {n:Net}(out:U Nat)(ho:out.length<=12)(z:Qbm Nat)(hz:∀i,z=some i->i<n.Nodes.length):nt (out.map (λi:Nat=>(i:Int))) (dy n.Nodes.length out) (match z with|some i=>(i:Int)|none=> -1)=match z with
  |some i=>some (.inl ((out++[i]).map (λi:Nat=>(i:Int)),dy n.Nodes.length (out++[i])))
  |none=>some (.inr ([],7)):=by
 unfold nt
 cases z with
 |none=>rfl
 |some i=>
  have hi:=hz i J
  simp only
  rw[if_neg (by simp)]
  have e1:ixN (dy n.Nodes.length out) (i:Int)=some i:=by simp_all[ixN,sS]
  grind[pX,bT,J1]
end
section
variable {n:Net} {l:List Ends} (hn:NetL n l)
include hn
theorem FB {j:Nat}{e:Ends}(h:l[j]?=some e):0<=e.src/\e.src.toNat<n.Nodes.length:=by obtain⟨i,x,h1,h2,_⟩:=hn.src j e h;grind
variable {i:Nat}{x:Node}
theorem JO (hx:n.Nodes[i]?=some x)(out:U Nat){r:Int}(hr:r∈x.In):
  rU r (dy n.Nodes.length out) l=some (!(match l[r.toNat]? with|some e=>out.contains e.src.toNat|none=>false)):=by
 obtain⟨h1,h2,e,h3,_⟩:=hn.inn i x hx r hr
 have hlt:=(QD.1 h3).1
 obtain⟨h4,h5⟩:=FB hn h3
 simp_all[ixN,dy,rU]
theorem JI (hx:n.Nodes[i]?=some x)(out:U Nat)(hl:x.In.length<=1099511627776):oL x.In (dy n.Nodes.length out) l=some (!fedN l out x):=by
 unfold oL uM;have:=nK (σ:=Unit) x.In hl (λk _=>(k:Int)) (body:=λss=>oM x.In (dy n.Nodes.length out) l ss)
  (λk r _=>if(match l[r.toNat]? with|some e=>out.contains e.src.toNat|none=>false)=false then some (.inr (k:Int))else some (.inl ())) (λ_=>some (-1)) ()
  (λk r _ hk hlt h1 h2 h3=>by unfold oM;rw[h2,h1,h3];simp only[if_true,QB];grind[JO])
  (λ_ h=>by simp[oM])
 simp only[Q0]at this;rw[this];have key:∀(ys:U Int) (k:Nat),∃v:Int,d9 (σ:=Unit) (λk r _=>if(match l[r.toNat]? with|some e=>out.contains e.src.toNat|none=>false)=false then some (.inr (k:Int))else some (.inl ())) (λ_=>some (-1:Int)) k ys ()=some v /\
   decide (v>=0)=!(ys.all λr=>match l[r.toNat]? with|some e=>out.contains e.src.toNat|none=>false):=by
  intro ys
  induction ys with
  |nil=>intro k;exact⟨-1,J,by simp⟩
  |cons y ys ih=>
   intro k
   unfold d9
   by_cases h:(match l[y.toNat]? with|some e=>out.contains e.src.toNat|none=>false)=false
   .simp_all
   simp_all
 obtain⟨v,h1,h2⟩:=key x.In 0;rw[h1,QB,h2];rfl
theorem DV (hio:∀x∈n.Nodes,x.In.length<=1099511627776)(q:Int)(out:U Nat)(ho:out.length<=12):∀(m k:Nat),k+m=n.Nodes.length ->
  iter (λss:Int=>lC n (l,q) (out.map (λi:Nat=>(i:Int))) (dy n.Nodes.length out) ss) (k:Int)=match e9 (okN l out n.Nodes) m k with
   |some i=>some (.inl ((out++[i]).map (λi:Nat=>(i:Int)),dy n.Nodes.length (out++[i])))
   |none=>some (.inr ([],7))
 |0,k,h=>by
  have hk:k=n.Nodes.length:=by omega
  subst hk;have:lC n (l,q) (out.map (λi:Nat=>(i:Int))) (dy n.Nodes.length out) (n.Nodes.length:Int)=some (.inr (.inr ([],7))):=by unfold lC;rw[if_neg (by simp)];rfl
  rw[aF,this];rfl
 | m+1,k,h=>by
  have hlt:k<n.Nodes.length:=by omega
  have hn2:=hn.n2;have hx:n.Nodes[k]?=some n.Nodes[k]:=QC hlt;have e1:ixN (dy n.Nodes.length out) (k:Int)=some k:=by simp_all[ixN,sS]
  have hstep:lC n (l,q) (out.map (λi:Nat=>(i:Int))) (dy n.Nodes.length out) (k:Int)=if okN l out n.Nodes k then some (.inr (.inl ((out++[k]).map (λi:Nat=>(i:Int)),dy n.Nodes.length (out++[k]))))else some (.inl ((k+1:Nat):Int)):=by
   unfold lC;rw[if_pos (by simp;omega),bj hx,QB];simp only[e1,QB,pX hlt];have hok:okN l out n.Nodes k=(!(out.contains k)&&fedN l out n.Nodes[k]):=by unfold okN;rw[hx]
   have hin:(if(!(out.contains k))=true then(oL n.Nodes[k].In (dy n.Nodes.length out) l).bind λx12=>some (!x12)else some false)=some (okN l out n.Nodes k):=by grind[JI]
   rw[hin,QB,bc (by omega)];by_cases hb:okN l out n.Nodes k=true
   .rw[if_pos hb,if_pos hb];have:=K6 (n:=n) out ho (some k) (λi e=>by grind);grind
   grind
  rw[aF,hstep,e9];by_cases hb:okN l out n.Nodes k=true
  .grind
  .simp only[if_neg hb];exact DV hio q out ho m (k+1) (by omega)
theorem Du (hio:∀x∈n.Nodes,x.In.length<=1099511627776)(q:Int):∀(m:Nat) (out:U Nat),out.length+m=n.Nodes.length ->
  iter (λss:U Int×U Bool=>lD n (l,q) ss.1 ss.2) (out.map (λi:Nat=>(i:Int)),dy n.Nodes.length out)=some (match ordN l n.Nodes m out with
   |none=>([],7)
   |some out=>(out.map (λi:Nat=>(i:Int)),0))
 |0,out,h=>by
  have:lD n (l,q) (out.map (λi:Nat=>(i:Int))) (dy n.Nodes.length out)=some (.inr (out.map (λi:Nat=>(i:Int)),0)):=by simp_all[lD]
  grind[aF,ordN]
 | m+1,out,h=>by
  have hstep:lD n (l,q) (out.map (λi:Nat=>(i:Int))) (dy n.Nodes.length out)=match e9 (okN l out n.Nodes) n.Nodes.length 0 with
   |some i=>some (.inl ((out++[i]).map (λi:Nat=>(i:Int)),dy n.Nodes.length (out++[i])))
   |none=>some (.inr ([],7)):=by
   unfold lD
   rw[if_pos (by simp;omega)]
   have:=DV hn hio q out (by have:=hn.n2;omega) n.Nodes.length 0 (by omega)
   omega
  rw[aF];simp only[hstep,ordN];cases e9 (okN l out n.Nodes) n.Nodes.length 0 with
  |none=>rfl
  |some i=>
   simp only;exact Du hio q m (out++[i]) (by simp;omega)
end
theorem DH(R i:Int):∀(rs:U Int) (l:U Ends),fS R i rs l≠.inl 0
 |[],l,h=>by cases h
 | r::rs,l,h=>by
  unfold fS at h;split at h
  .grind
  .split at h
   .grind
   .split at h
    .grind
    .exact DH R i rs _ h
theorem En(R i:Int):∀(rs:U Int) (l:U Ends),eW R i rs l≠.inl 0
 |[],l,h=>by cases h
 | r::rs,l,h=>by
  unfold eW at h;split at h
  .grind
  .split at h
   .grind
   .split at h
    .grind
    .exact En R i rs _ h
theorem MO(R:Int)(i:Nat)(x:Node)(l:U Ends):oneN R i x l≠.inl 0:=λh=>by grind[oneN,DH,En]
theorem CI(R:Int):∀(xs:U Node) (k s:Nat) (l:U Ends),gS R k xs s l≠.inl 0
 |[],k,s,l,h=>by cases h
 |x::xs,k,s,l,h=>by
  unfold gS at h;split at h
  .grind[MO]
  .exact CI R xs _ _ _ h
theorem DW(n:Net):iS n≠.inl 0:=λh=>by grind[iS,CI]
theorem Is(n:Net)(hio:∀x∈n.Nodes,x.In.length<=1099511627776/\x.Out.length<=1099511627776):sW n=some (dA n):=by
 unfold sW dA;rw[IH n hio,QB];cases h:iS n with
 |inl e=>
  simp only;have he:e≠0:=λe0=>DW n (e0▸h)
  grind
 |inr l=>
  simp only;have hn:=yu h;rw[if_neg (by simp)];have hmk:mk (n.Nodes.length:Int) false=some (dy n.Nodes.length []):=by unfold mk;rw[if_pos (by have:=hn.n2;omega),<- JW];rfl
  rw[hmk,QB];have:=Du hn (λx hx=>(hio x hx).1) 0 n.Nodes.length [] (by simp);grind
theorem Bn(n:Net)(hio:∀x∈n.Nodes,x.In.length<=1099511627776/\x.Out.length<=1099511627776):pU n=some (dA n).2:=by grind[pU,Is]
end
section
section
variable {κ ν:Type}{j:Nat}{l:U Ends}{e:Ends}{k:κ}
theorem vg [DecidableEq κ](k:κ)(v:ν):∀m:U (κ×ν),mget k (mset k v m)=some v
 |[]=>by simp[mset,mget]
 |p::r=>by
  unfold mset;split
  .simp[mget]
  .rename_i h;simp only[mget,if_neg h];exact vg k v r
theorem xu [DecidableEq κ]{k':κ}(v:ν)(hk:k≠k'):∀m:U (κ×ν),mget k (mset k' v m)=mget k m
 |[]=>by simp[mset,mget,hk]
 |p::r=>by
  unfold mset;split
  .simp_all[mget]
  .simp only[mget];rw[xu v hk r]
theorem Bi [DecidableEq κ](v:ν):∀{m:U (κ×ν)},mget k m=none->(mset k v m).length=m.length+1
 |[],_=>rfl
 |p::r,h=>by
  simp only[mget]at h;split at h
  .cases h
  .rename_i hk;simp only[mset,if_neg hk,Rq];rw[Bi v h]
structure MRi (v:List Int) (m:List (Int×Int)):Prop where
 len:m.length=v.countP (λx=>decide (0<=x))
 get:∀(j:Nat) x,v[j]?=some x->mget (j:Int) m=if x<0 then none else some x
theorem MRi.set {v:U Int}{m:U (Int×Int)}(h:MRi v m){x y:Int}(hx:v[j]?=some x)(h0:x<0)(h1:0<=y):MRi (v.set j y) (mset (j:Int) y m):=by
 have hlt:=(QD.1 hx).1;have hv:v[j]=x:=(QD.1 hx).2;have hn:mget (j:Int) m=none:=by rw[h.get j x hx,if_pos h0]
 refine⟨?_,λk z hz=>?_⟩
 .rw[Bi y hn,h.len,List.countP_set hlt,hv];grind
 .rw[QS]at hz;by_cases hjk:j=k
  .simp_all[vg]
  .rw[if_neg hjk]at hz;rw[xu y (by omega)];exact h.get k z hz
theorem MRi.start (R:Nat):MRi (List.replicate R (-1)) []:=by
 refine⟨?_,λj x hx=>?_⟩
 .grind
 .rw[RU]at hx;split at hx<;>cases hx;rfl
theorem I2 (i:Int)(h:l[j]?=some e):(l.set j ⟨i,e.dst⟩).map Ends.src=(l.map Ends.src).set j i/\(l.set j ⟨i,e.dst⟩).map Ends.dst=l.map Ends.dst:=by grind[List.map_set,List.set_getElem_self]
theorem IQ (i:Int)(h:l[j]?=some e):(l.set j ⟨e.src,i⟩).map Ends.dst=(l.map Ends.dst).set j i/\(l.set j ⟨e.src,i⟩).map Ends.src=l.map Ends.src:=by grind[List.map_set,List.set_getElem_self]
theorem F6 (n:Net)(s i:Nat)(x:Node)(to:U (Int×Int))(hx:x.Out.length<=1099511627776)(hi:i<=12)(hs:s<=12)(hR:n.Rings<=16):
  ∀(m k:Nat) (l:U Ends) (fr:U (Int×Int)),k+m=x.Out.length->(l.length:Int)=n.Rings->MRi (l.map Ends.src) fr ->
  match eW n.Rings i (x.Out.drop k) l with
   | .inl e=>iter (λss:Int×U (Int×Int)=>jh n s i x to ss.1 ss.2) ((k:Int),fr)=some (.inr ([],e))
   | .inr l1=>∃fr1,MRi (l1.map Ends.src) fr1/\l1.map Ends.dst=l.map Ends.dst/\iter (λss:Int×U (Int×Int)=>jh n s i x to ss.1 ss.2) ((k:Int),fr)=some (.inl (((if x.Kind=8 then s+1 else s:Nat):Int),((i+1:Nat):Int),fr1,to))
 |0,k,l,fr,h,hl,hm=>by
  have hk:k=x.Out.length:=by omega
  subst hk;rw[RB];simp only[eW];refine⟨fr,hm,trivial,?_⟩;have hstep:jh n s i x to (x.Out.length:Int) fr=some (.inr (.inl (((if x.Kind=8 then s+1 else s:Nat):Int),((i+1:Nat):Int),fr,to))):=by unfold jh;rw[if_neg (by simp),bc (by omega),bc (by omega)];grind
  grind[aF]
 | m+1,k,l,fr,h,hl,hm=>by
  have hlt:k<x.Out.length:=by omega
  rw[QG hlt,aF];have hstep:jh n s i x to (k:Int) fr=if x.Out[k]<0∨n.Rings<=x.Out[k]then some (.inr (.inr ([],3)))else if(mget x.Out[k] fr).isSome then some (.inr (.inr ([],6)))else some (.inl (((k+1:Nat):Int),mset x.Out[k] i fr)):=by unfold jh;rw[if_pos (by simp;omega),bj (QC hlt),QB,bc (by omega)];simp
  simp only[eW,hstep];by_cases hr:x.Out[k]<0∨n.Rings<=x.Out[k]
  .grind
  .simp only[if_neg hr];have hrl:x.Out[k].toNat<l.length:=by omega
   have hge:=QC hrl;have hge2:(l.map Ends.src)[x.Out[k].toNat]?=some l[x.Out[k].toNat].src:=by grind
   have hget:=hm.get _ _ hge2;have hc:((x.Out[k].toNat:Nat):Int)=x.Out[k]:=by omega
   rw[hc]at hget;simp only[hge];by_cases he:0<=l[x.Out[k].toNat].src
   .grind
   .rw[if_pos (by omega)]at hget;simp only[if_neg he,hget,Option.isSome_none,QI,if_false];obtain⟨q1,q2⟩:=I2 (i:Int) hge;have hm2:=hm.set (y:=(i:Int)) hge2 (by omega) (by omega);rw[hc,<- q1]at hm2;have:=F6 n s i x to hx hi hs hR m (k+1) (l.set x.Out[k].toNat ⟨i,l[x.Out[k].toNat].dst⟩) (mset x.Out[k] i fr) (by omega) (by grind) hm2;grind
theorem Ga (n:Net)(s i:Nat)(x:Node)(fr:U (Int×Int))(hx:x.Out.length<=1099511627776)(hx2:x.In.length<=1099511627776)(hi:i<=12)(hs:s<=12)(hR:n.Rings<=16):
  ∀(m k:Nat) (l:U Ends) (to:U (Int×Int)),k+m=x.In.length->(l.length:Int)=n.Rings->MRi (l.map Ends.src) fr->MRi (l.map Ends.dst) to ->
  match(match fS n.Rings i (x.In.drop k) l with| .inl e=>Sum.inl e| .inr l1=>eW n.Rings i x.Out l1)with
   | .inl e=>iter (λss:Int×U (Int×Int)=>g8 n s i fr x ss.1 ss.2) ((k:Int),to)=some (.inr ([],e))
   | .inr l1=>∃fr1 to1,MRi (l1.map Ends.src) fr1/\MRi (l1.map Ends.dst) to1/\iter (λss:Int×U (Int×Int)=>g8 n s i fr x ss.1 ss.2) ((k:Int),to)=some (.inl (((if x.Kind=8 then s+1 else s:Nat):Int),((i+1:Nat):Int),fr1,to1))
 |0,k,l,to,h,hl,hm,hm2=>by
  have hk:k=x.In.length:=by omega
  subst hk;rw[RB];simp only[fS];have h1:=F6 n s i x to hx hi hs hR x.Out.length 0 l fr (by omega) hl hm;simp only[Rn,Q0]at h1;have hstep:g8 n s i fr x (x.In.length:Int) to=Option.map Sum.inr (iter (λss:Int×U (Int×Int)=>jh n s i x to ss.1 ss.2) (0,fr)):=by simp[g8]
  grind[aF]
 | m+1,k,l,to,h,hl,hm,hm2=>by
  have hlt:k<x.In.length:=by omega
  rw[QG hlt,aF];have hstep:g8 n s i fr x (k:Int) to=if x.In[k]<0∨n.Rings<=x.In[k]then some (.inr (.inr ([],3)))else if(mget x.In[k] to).isSome then some (.inr (.inr ([],6)))else some (.inl (((k+1:Nat):Int),mset x.In[k] i to)):=by unfold g8;rw[if_pos (by simp;omega),bj (QC hlt),QB,bc (by omega)];simp
  simp only[fS,hstep];by_cases hr:x.In[k]<0∨n.Rings<=x.In[k]
  .grind
  .simp only[if_neg hr];have hrl:x.In[k].toNat<l.length:=by omega
   have hge:=QC hrl;have hge2:(l.map Ends.dst)[x.In[k].toNat]?=some l[x.In[k].toNat].dst:=by grind
   have hget:=hm2.get _ _ hge2;have hc:((x.In[k].toNat:Nat):Int)=x.In[k]:=by omega
   rw[hc]at hget;simp only[hge];by_cases he:0<=l[x.In[k].toNat].dst
   .grind
   .rw[if_pos (by omega)]at hget;simp only[if_neg he,hget,Option.isSome_none,QI,if_false];obtain⟨q1,q2⟩:=IQ (i:Int) hge;have hm3:=hm2.set (y:=(i:Int)) hge2 (by omega) (by omega);rw[hc,<- q1]at hm3;exact Ga n s i x fr hx hx2 hi hs hR m (k+1) (l.set x.In[k].toNat ⟨l[x.In[k].toNat].src,i⟩) (mset x.In[k] i to) (by omega) (by grind) (by grind) hm3
theorem chk_A (x:Node)(h:e8 x.Kind≠none):((decide (x.A<0))||decide (x.A> ((mget x.Kind (mset 2 3 (mset 1 3 ([]:U (Int×Int))))).getD 0)))=badA x:=by
 have e:mset 2 3 (mset 1 3 ([]:U (Int×Int)))=[(1,3),(2,3)]:=by decide
 rw[e];unfold badA;by_cases h1:x.Kind=1
 .rw[Sk];grind[mget]
 .by_cases h2:x.Kind=2
  .simp_all[mget]
  .rw[Sk];grind[mget]
theorem L6 (n:Net)(s i:Nat)(x:Node)(hx:n.Nodes[i]?=some x)(hx1:x.Out.length<=1099511627776)(hx2:x.In.length<=1099511627776)(hi:i<n.Nodes.length)(hn:n.Nodes.length<=12)(hs:s<=12)(hR:n.Rings<=16)(l:U Ends)(fr to:U (Int×Int))(hl:(l.length:Int)=n.Rings)(hm:MRi (l.map Ends.src) fr)(hm2:MRi (l.map Ends.dst) to):
  match oneN n.Rings i x l with
   | .inl e=>jg n s i fr to=some (.inr ([],e))
   | .inr l1=>∃fr1 to1,MRi (l1.map Ends.src) fr1/\MRi (l1.map Ends.dst) to1/\jg n s i fr to=some (.inl (((if x.Kind=8 then s+1 else s:Nat):Int),((i+1:Nat):Int),fr1,to1)):=by
 have h2:=Ga n s i x fr hx1 hx2 (by omega) hs hR x.In.length 0 l to (by omega) hl hm hm2
 simp only[Rn,Q0]at h2
 have k3:e8 x.Kind≠none->f9 n s i fr to x=if badA x=true then some (.inr ([],3))else iter (λss:Int×U (Int×Int)=>g8 n s i fr x ss.1 ss.2) (0,to):=λha=>by grind[f9,chk_A]
 have fit:∀(a b:Int),e8 x.Kind=some (a,b)->∀(p q:Qbm Bool),p=some (ea x.In.length a)->q=some (ea x.Out.length b) ->
   (Option.bind p λx9=>Option.bind (if(!x9)=true then some true else Option.bind q λx10=>some (!x10)) λc11=>if c11=true then(Option.map Sum.inr (some ([],4)))else f9 n s i fr to x)
    =(if gj x≠0 then(some (.inr ([],gj x)):Qbm ((Int×Int×(U (Int×Int))×(U (Int×Int)))⊕((U Int)×Int)))else iter (λss:Int×U (Int×Int)=>g8 n s i fr x ss.1 ss.2) (0,to)):=λa b hab p q hp hq=>by
  grind[gj]
 have c1:∀m:Nat,fI (m:Int)=some (ea m 1):=λm=>by unfold fI ea;grind
 have c2:∀m:Nat,mM (m:Int)=some (ea m (-1)):=λm=>by unfold mM ea;simp_all<;>omega
 have c3:∀m:Nat,oZ (m:Int)=some (ea m 0):=λm=>by unfold oZ ea;grind
 have hl7:jg n s i fr to=if gj x≠0 then some (.inr ([],gj x))else iter (λss:Int×U (Int×Int)=>g8 n s i fr x ss.1 ss.2) (0,to):=by
  unfold jg;rw[if_pos (by simp;omega),bj hx,QB];by_cases h1:x.Kind=1
  .simp_all[e8]
  rw[if_neg (by simp[h1])];by_cases h2:x.Kind=2
  .simp_all[e8]
  rw[if_neg (by simp[h2])];by_cases h3:x.Kind=3
  .simp_all[e8]
  rw[if_neg (by simp[h3])];by_cases h4:x.Kind=4
  .simp_all[e8]
  rw[if_neg (by simp[h4])];by_cases h5:x.Kind=5
  .simp_all[e8]
  rw[if_neg (by simp[h5])];by_cases h7:x.Kind=7
  .simp_all[e8]
  rw[if_neg (by simp[h7])];by_cases h6:x.Kind=6
  .simp_all[e8]
  rw[if_neg (by simp[h6])];by_cases h8:x.Kind=8
  .simp_all[e8]
  simp_all[gj,e8]
 unfold oneN
 grind
theorem AM (out:U Nat)(ho:out.length<=12)(z:Int)(hz:0<=z):o4 (out.map (λi:Nat=>(i:Int))) z=some (out.contains z.toNat):=by
 unfold o4 u9;have:=nK (σ:=Unit) (out.map (λi:Nat=>(i:Int))) (by simp;omega) (λk _=>(k:Int)) (body:=λss=>oX (out.map (λi:Nat=>(i:Int))) z ss)
  (λk r _=>if z=r then some (.inr (k:Int))else some (.inl ())) (λ_=>some (-1)) ()
  (λk r _ hk hlt h1 h2 h3=>by grind[oX])
  (λ_ h=>by simp[oX])
 simp only[Q0]at this;rw[this];have key:∀(ys:U Nat) (k:Nat),∃v:Int,d9 (σ:=Unit) (λk r _=>if z=r then some (.inr (k:Int))else some (.inl ())) (λ_=>some (-1:Int)) k (ys.map (λi:Nat=>(i:Int))) ()=some v/\decide (v>=0)=ys.contains z.toNat:=by
  intro ys;induction ys with
  |nil=>intro k;exact⟨-1,J,by simp⟩
  |cons y ys ih=>
   intro k;simp only[Re,d9];by_cases h:z=(y:Int)
   .grind
   .rw[if_neg h];simp only;obtain⟨v,h1,h2⟩:=ih (k+1);grind
 obtain⟨v,h1,h2⟩:=key out 0;grind
end
section
variable {n:Net} {l:List Ends} (hn:NetL n l) {fr:List (Int×Int)} (hm:MRi (l.map Ends.src) fr)
include hn hm
theorem FSx(out:U Nat)(ho:out.length<=12)(best k:Int){x:Node}{i:Nat}(hx:n.Nodes[i]?=some x)(hxl:x.In.length<=1099511627776):∀(m j:Nat) (b:Bool),j+m=x.In.length ->
  iter (λss:Bool×Int=>lm fr (out.map (λi:Nat=>(i:Int))) best k x ss.1 ss.2) (b,(j:Int))=some (.inl (if(b&&(x.In.drop j).all λr=>match l[r.toNat]? with|some e=>out.contains e.src.toNat|none=>false)=true then k else best,IntKind.i64.wrap (k- 1)))
 |0,j,b,h=>by
  have hk:j=x.In.length:=by omega
  subst hk;have hstep:lm fr (out.map (λi:Nat=>(i:Int))) best k x b (x.In.length:Int)=some (.inr (.inl (if b=true then k else best,IntKind.i64.wrap (k- 1)))):=by unfold lm;grind
  simp_all[aF]
 |m+1,j,b,h=>by
  have hlt:j<x.In.length:=by omega
  have hmem:x.In[j]∈x.In:=QU hlt;obtain⟨r0,r1,e,he,_⟩:=hn.inn i x hx _ hmem;obtain⟨s0,_⟩:=FB hn he;have hge2:(l.map Ends.src)[x.In[j].toNat]?=some e.src:=by grind
  have hget:=hm.get _ _ hge2;rw[Ri r0,if_neg (by omega)]at hget;have hstep:lm fr (out.map (λi:Nat=>(i:Int))) best k x b (j:Int)=some (.inl (b&&out.contains e.src.toNat,((j+1:Nat):Int))):=by unfold lm;rw[if_pos (by simp;omega),bj (QC hlt),QB,bc (by omega),hget];cases b;all_goals (simp_all[AM])
  rw[aF];simp only[hstep];rw[FSx out ho best k hx hxl m (j+1) _ (by omega),QG hlt,List.all_cons,he];grind
theorem F9(hio:∀x∈n.Nodes,x.In.length<=1099511627776)(cnt:Nat)(hcnt:cnt<=12)(out:U Nat)(ho:out.length<=12):∀(k:Nat) (best:Int),k<=n.Nodes.length ->
  iter (λss:Int×Int=>lh n fr (cnt:Int) (out.map (λi:Nat=>(i:Int))) ss.1 ss.2) (best,(k:Int)- 1)=(if lastD (okN l out n.Nodes) k best<0 then some (.inr ([],7))else some (.inl (((cnt+1:Nat):Int),out.map (λi:Nat=>(i:Int))++[lastD (okN l out n.Nodes) k best])))
 |0,best,_=>by
  have hstep:lh n fr (cnt:Int) (out.map (λi:Nat=>(i:Int))) best (((0:Nat):Int)- 1)=some (.inr (if best<0 then .inr ([],7)else .inl (((cnt+1:Nat):Int),out.map (λi:Nat=>(i:Int))++[best]))):=by unfold lh;rw[if_neg (by simp),bc (by omega),bT (by simp;omega)];grind
  grind[aF,lastD]
 | k+1,best,hk=>by
  have hlt:k<n.Nodes.length:=by omega
  have hx:n.Nodes[k]?=some n.Nodes[k]:=QC hlt;have hn2:=hn.n2;have hw:IntKind.i64.wrap ((k:Int)- 1)=(k:Int)- 1:=bq (by omega) (by omega);have hok:okN l out n.Nodes k=(!(out.contains k)&&fedN l out n.Nodes[k]):=by unfold okN;rw[hx]
  have hstep:lh n fr (cnt:Int) (out.map (λi:Nat=>(i:Int))) best (((k+1:Nat):Int)- 1)=some (.inl (if okN l out n.Nodes k=true then(k:Int)else best,(k:Int)- 1)):=by
   have e1:(((k+1:Nat):Int)- 1)=(k:Int):=by omega
   rw[e1];unfold lh;rw[if_pos (by simp),AM out ho _ (by omega),QB,Q1];by_cases hc:out.contains k=true
   .grind
   .rw[if_neg hc,bj hx,QB];have:=FSx hn hm out ho best k hx (hio _ (QU hlt)) n.Nodes[k].In.length 0 true (by omega);simp only[Q0,Rn,Bool.true_and]at this;rw[this,hw,hok];have hc':out.contains k=false:=by grind
    rw[hc'];rfl
  rw[aF];simp only[hstep,lastD];exact F9 hio cnt hcnt out ho k _ (by omega)
theorem Fo(hio:∀x∈n.Nodes,x.In.length<=1099511627776):∀(m:Nat) (out:U Nat),out.length+m=n.Nodes.length ->
  iter (λss:Int×U Int=>j6 n fr ss.1 ss.2) ((out.length:Int),out.map (λi:Nat=>(i:Int)))=some (match ordN l n.Nodes m out with
   |none=>([],7)
   |some out=>(out.map (λi:Nat=>(i:Int)),0))
 |0,out,h=>by
  have:j6 n fr (out.length:Int) (out.map (λi:Nat=>(i:Int)))=some (.inr (out.map (λi:Nat=>(i:Int)),0)):=by simp_all[j6]
  grind[aF,ordN]
 | m+1,out,h=>by
  have hn2:=hn.n2;have hstep:j6 n fr (out.length:Int) (out.map (λi:Nat=>(i:Int)))=match e9 (okN l out n.Nodes) n.Nodes.length 0 with
   |some i=>some (.inl (((out++[i]).length:Int),(out++[i]).map (λi:Nat=>(i:Int))))
   |none=>some (.inr ([],7)):=by
   unfold j6
   rw[if_pos (by simp;omega),bq (by omega) (by omega),F9 hn hm hio out.length (by omega) out (by omega) n.Nodes.length (-1) (by omega),D5]
   grind
  rw[aF];simp only[hstep,ordN];cases e9 (okN l out n.Nodes) n.Nodes.length 0 with
  |none=>rfl
  |some i=>
   simp only;exact Fo hio m (out++[i]) (by simp;omega)
end
theorem Fs(n:Net)(hn:n.Nodes.length<=12)(hn1:1<=n.Nodes.length)(hR0:0<=n.Rings)(hR:n.Rings<=16)(hm1:1<=n.Room)(hm2':n.Room<=6)(hio:∀x∈n.Nodes,x.In.length<=1099511627776/\x.Out.length<=1099511627776):
  ∀(m k s:Nat) (l:U Ends) (fr to:U (Int×Int)),k+m=n.Nodes.length->s<=k->(l.length:Int)=n.Rings->MRi (l.map Ends.src) fr->MRi (l.map Ends.dst) to ->
  (∀s1 l1,gS n.Rings k (n.Nodes.drop k) s l=.inr (s1,l1)->¬(l1.any (λe=>decide (e.src<0∨e.dst<0))=true)->s1=1->NetL n l1) ->
  iter (λss:Int×Int×U (Int×Int)×U (Int×Int)=>jg n ss.1 ss.2.1 ss.2.2.1 ss.2.2.2) ((s:Int),(k:Int),fr,to)=some (match gS n.Rings k (n.Nodes.drop k) s l with
   | .inl e=>([],e)
   | .inr (s,l)=>if l.any (λe=>decide (e.src<0∨e.dst<0))then([],9)else if s≠1 then([],4)else match ordN l n.Nodes n.Nodes.length []with
    |none=>([],7)
    |some out=>(out.map (λi:Nat=>(i:Int)),0))
 | 0,k,s,l,fr,to,h,hs,hl,hm,hm2,hL=>by
  have hk:k=n.Nodes.length:=by omega
  subst hk;rw[RB]at hL ⊢;have hlen:∀(f:Ends->Int) (mm:U (Int×Int)),MRi (l.map f) mm->((mm.length:Int)=n.Rings↔ ∀e∈l,0<=f e):=λf mm hmm=>by have e1:=hmm.len;grind[List.countP_eq_length]
  have a1:=hlen _ _ hm;have a2:=hlen _ _ hm2;simp only[gS]at hL ⊢;have hany:(l.any (λe=>decide (e.src<0∨e.dst<0))=true)↔ ¬((fr.length:Int)=n.Rings/\(to.length:Int)=n.Rings):=by grind
  have hstep:jg n (s:Int) (n.Nodes.length:Int) fr to=Option.map Sum.inr (if(l.any (λe=>decide (e.src<0∨e.dst<0)))=true then some ([],9)else if s≠1 then some ([],4)else iter (λss:Int×U Int=>j6 n fr ss.1 ss.2) (0,[])):=by unfold jg;grind
  rw[aF];simp only[hstep];by_cases h1:l.any (λe=>decide (e.src<0∨e.dst<0))=true
  .grind
  .simp only[if_neg h1];by_cases h2:s=1
   .subst h2;have hnl:=hL 1 l J h1 J;have:=Fo hnl hm (λx hx=>(hio x hx).1) n.Nodes.length [] (by simp);grind
   grind
 | m+1,k,s,l,fr,to,h,hs,hl,hm,hm2,hL=>by
  have hlt:k<n.Nodes.length:=by omega
  have hx:n.Nodes[k]?=some n.Nodes[k]:=QC hlt;obtain⟨q1,q2⟩:=hio _ (QU hlt);have hone:=L6 n s k n.Nodes[k] hx q2 q1 hlt hn (by omega) hR l fr to hl hm hm2;rw[QG hlt]at hL ⊢;simp only[gS]at hL ⊢;rw[aF];cases ho:oneN n.Rings k n.Nodes[k] l with
  |inl e=>
   grind
  |inr l1=>
   rw[ho]at hone hL;obtain⟨fr1,to1,r1,r2,r3⟩:=hone;simp only[r3];exact Fs n hn hn1 hR0 hR hm1 hm2' hio m (k+1) _ l1 fr1 to1 (by omega) (by grind) (by grind[Dn]) r1 r2 (by omega)
theorem AC(n:Net)(hio:∀x∈n.Nodes,x.In.length<=1099511627776/\x.Out.length<=1099511627776):o9 n=some (dA n):=by
 unfold o9 dA;have hL:∀l,iS n=.inr l->NetL n l:=λl h=>yu h
 unfold iS at hL ⊢;by_cases h1:n.Nodes.length<1∨12<n.Nodes.length∨n.Rings<0∨16<n.Rings
 .grind
 rw[if_neg (by grind),if_neg h1];rw[if_neg h1]at hL;by_cases h2:n.Room<1∨6<n.Room
 .grind
 rw[if_neg (by simp;omega),if_neg h2];rw[if_neg h2]at hL;have:=Fs n (by omega) (by omega) (by omega) (by omega) (by omega) (by omega) hio n.Nodes.length 0 0 (List.replicate n.Rings.toNat iO) [] [] (by omega) (by omega) (by simp;omega) (by simp[iO,MRi.start]) (by simp[iO,MRi.start]) (λs1 l1 a b c=>by grind)
 grind
end
theorem yP{n:Net}(h:(dA n).2=0):∃l out,iS n=.inr l/\NetL n l/\ordN l n.Nodes n.Nodes.length []=some out/\dA n=(out.map (λi:Nat=>(i:Int)),0):=by grind[dA,DW,yu]
def iE:List (List Item)->Int
 |[]=>0
 |s::r=>if 20<s.length then 2 else if s.any (λx=>decide (x.Dep≠0))then 4 else iE r
def gP(len:Nat):List Node->List Int->Int
 |[],_=>0
 |x::xs,seen=>if x.Kind≠1 then gP len xs seen else if(len:Int)<=x.A then 5 else if x.A∈seen then 6 else gP len xs (x.A::seen)
def cX(n:Net)(l:List (List Item)):Int:=if(dA n).2≠0 then(dA n).2 else if 4<l.length then 2 else if iE l≠0 then iE l else gP l.length n.Nodes []
theorem xH(l:U (U Item))(hl:l.length<=4){body:Int->Qbm (Int⊕Int)}{inner:Nat->U Item->Int->Qbm (Int⊕(Int⊕Int))}(fin:Qbm Int)
  (h1:∀(k:Nat) s,l[k]?=some s->k<l.length->body (k:Int)=if 20<s.length then some (.inr 2)else iter (inner k s) 0)
  (h2:body (l.length:Int)=fin.map Sum.inr)
  (h3:∀(k:Nat) s (j:Nat) x,l[k]?=some s->k<l.length->s[j]?=some x->j<20->inner k s (j:Int)=if x.Dep≠0 then some (.inr (.inr 4))else some (.inl ((j+1:Nat):Int)))
  (h4:∀(k:Nat) s,l[k]?=some s->k<l.length->inner k s (s.length:Int)=some (.inr (.inl ((k+1:Nat):Int)))):
  ∀(m k:Nat),k+m=l.length->iter body (k:Int)=if iE (l.drop k)≠0 then some (iE (l.drop k))else fin
 |0,k,h=>by
  have hk:k=l.length:=by omega
  subst hk;rw[aF,h2,RB];simp only[iE,ne_eq,not_true_eq_false,if_false];cases fin<;>rfl
 | m + 1,k,h=>by
  have hlt:k<l.length:=by omega
  have hs:l[k]?=some l[k]:=QC hlt;rw[aF,h1 k _ hs hlt,QG hlt];generalize hsq:l[k]=s at *;simp only[iE];by_cases h20:20<s.length
  .simp[h20]
  .simp only[if_neg h20];have key:∀(q j:Nat),j+q=s.length->iter (inner k s) (j:Int)=if(s.drop j).any (λx=>decide (x.Dep≠0))then some (.inr 4)else some (.inl ((k+1:Nat):Int)):=by
    intro q;induction q with
    |zero=>
     grind[aF]
    |succ q ih=>
     intro j hj;have hjl:j<s.length:=by omega
     rw[aF,h3 k s j s[j] hs hlt (QC hjl) (by omega),QG hjl,List.any_cons];by_cases hd:s[j].Dep≠0
     .simp[hd]
     .rw[if_neg hd];grind
   have:=key s.length 0 (by omega);simp only[Q0,Rn]at this;rw[this];by_cases hany:s.any (λx=>decide (x.Dep≠0))=true
   .grind
   .simp only[if_neg hany];exact xH l hl fin h1 h2 h3 h4 m (k+1) (by omega)
theorem J6{N:Nat}(hN:N<=4)(seen:U Int){a:Int}(h0:0<=a)(h1:a<N):((List.range N).map λi:Nat=>decide ((i:Int)∈seen))[a.toNat]?=some (decide (a∈seen)):=by grind
theorem xP(n:Net)(l:U (U Item))(hl:l.length<=4)(hn:n.Nodes.length<=12)(hA:∀x∈n.Nodes,0<=x.A):∀(m k:Nat) (seen:U Int),k+m=n.Nodes.length ->
  iter (λss:Int×U Bool=>lw n l ss.1 ss.2) ((k:Int),(List.range l.length).map λi:Nat=>decide ((i:Int)∈seen))=some (gP l.length (n.Nodes.drop k) seen)
 |0,k,seen,h=>by
  have hk:k=n.Nodes.length:=by omega
  subst hk;have:∀b,lw n l (n.Nodes.length:Int) b=some (.inr 0):=λb=>by unfold lw;rw[if_neg (by simp)];rfl
  rw[aF];simp only[this,RB,gP]
 | m + 1,k,seen,h=>by
  have hlt:k<n.Nodes.length:=by omega
  have hx:n.Nodes[k]?=some n.Nodes[k]:=QC hlt;have hA':=hA _ (QU hlt);rw[QG hlt,aF];generalize hxq:n.Nodes[k]=x at *;simp only[gP];have hstep:lw n l (k:Int) ((List.range l.length).map λi:Nat=>decide ((i:Int)∈seen))=if x.Kind≠1 then some (.inl (((k+1:Nat):Int),(List.range l.length).map λi:Nat=>decide ((i:Int)∈seen)))else if(l.length:Int)<=x.A then some (.inr 5)else if x.A∈seen then some (.inr 6)else some (.inl (((k+1:Nat):Int),(List.range l.length).map λi:Nat=>decide ((i:Int)∈x.A::seen))):=by
   unfold lw;rw[if_pos (by simp;omega),bj hx,QB,bc (by omega)];by_cases h1:x.Kind≠1
   .rw[if_pos (by simpa using h1),if_pos h1]
   .rw [if_neg (by simpa using h1),if_neg h1];by_cases h2:(l.length:Int)<=x.A
    .rw[if_pos (by simpa using h2),if_pos h2];rfl
    .rw [if_neg (by simpa using h2),if_neg h2];have hix:ixN ((List.range l.length).map λi:Nat=>decide ((i:Int)∈seen)) x.A=some x.A.toNat:=by unfold ixN;rw[if_pos (by simp;omega)]
     have hg:=J6 hl seen hA' (show x.A<l.length by omega);simp only[hix,hg,QB];by_cases h3:x.A∈seen
     .simp[h3]
     .simp only[h3,decide_false,QI,if_false];congr 3;apply Rj;intro j;rw[QS,QW,QW];by_cases hj:j<l.length
      .rw[List.getElem?_range hj];simp only[QV,List.length_range,Ra];by_cases hjx:x.A.toNat=j
       .rw[if_pos hjx,if_pos (by omega)];have:(j:Int)=x.A:=by omega
        simp[this]
       .rw[if_neg hjx];have:¬(j:Int)=x.A:=by omega
        simp[this]
      .rw[if_neg (by omega),RH (by simp;omega)];rfl
  rw[hstep];by_cases h1:x.Kind≠1
  .simp only[if_pos h1];exact xP n l hl hn hA m (k+1) seen (by omega)
  .simp only[if_neg h1];by_cases h2:(l.length:Int)<=x.A
   .simp only[if_pos h2]
   .simp only[if_neg h2];by_cases h3:x.A∈seen
    .simp only[if_pos h3]
    .simp only[if_neg h3];exact xP n l hl hn hA m (k+1) (x.A::seen) (by omega)
theorem yx(n:Net)(l:U (U Item))(hl:l.length<=4)(hn:n.Nodes.length<=12):∀(m k:Nat) (seen:U Int) (rd:U (Int×Int)),k+m=n.Nodes.length->(∀a,mget a rd=if a∈seen then some 1 else none) ->
  iter (λss:Int×U (Int×Int)=>k8 n l ss.1 ss.2) ((k:Int),rd)=some (gP l.length (n.Nodes.drop k) seen)
 |0,k,seen,rd,h,hr=>by
  have hk:k=n.Nodes.length:=by omega
  subst hk;have:∀b,k8 n l (n.Nodes.length:Int) b=some (.inr 0):=λb=>by unfold k8;rw[if_neg (by simp)];rfl
  rw[aF];simp only[this,RB,gP]
 | m + 1,k,seen,rd,h,hr=>by
  have hlt:k<n.Nodes.length:=by omega
  have hx:n.Nodes[k]?=some n.Nodes[k]:=QC hlt;rw[QG hlt,aF];generalize hxq:n.Nodes[k]=x at *;simp only[gP];have hstep:k8 n l (k:Int) rd=if x.Kind≠1 then some (.inl (((k+1:Nat):Int),rd))else if(l.length:Int)<=x.A then some (.inr 5)else if x.A∈seen then some (.inr 6)else some (.inl (((k+1:Nat):Int),mset x.A 1 rd)):=by
   unfold k8;rw[if_pos (by simp;omega),bj hx,QB,bc (by omega),vg,hr];by_cases h1:x.Kind≠1
   .rw[if_neg (by simpa using h1),if_pos h1]
   .rw[if_pos (by simpa using h1),if_neg h1];by_cases h2:(l.length:Int)<=x.A
    .rw[if_pos (by simpa using h2),if_pos h2];rfl
    .rw[if_neg (by simpa using h2),if_neg h2];by_cases h3:x.A∈seen
     .rw[if_pos h3,if_pos h3,if_pos (by decide)];rfl
     .rw[if_neg h3,if_neg h3,if_neg (by decide)];rfl
  rw[hstep];by_cases h1:x.Kind≠1
  .simp only[if_pos h1];exact yx n l hl hn m (k+1) seen rd (by omega) hr
  .simp only[if_neg h1];by_cases h2:(l.length:Int)<=x.A
   .simp only[if_pos h2]
   .simp only[if_neg h2];by_cases h3:x.A∈seen
    .simp only[if_pos h3]
    .simp only[if_neg h3];refine yx n l hl hn m (k+1) (x.A::seen) _ (by omega) (λa=>?_);by_cases ha:a=x.A
     .subst ha;rw[vg];simp
     .rw[xu 1 ha,hr a];simp[ha]
theorem nodeA{n:Net}{l:U Ends}(h:NetL n l):∀x∈n.Nodes,0<=x.A:=λx hx=>by obtain⟨i,hi,rfl⟩:=List.mem_iff_getElem.1 hx;have:=h.err i _ (QC hi);grind[gj,badA]
theorem vh(n:Net)(l:U (U Item))(hio:∀x∈n.Nodes,x.In.length<=1099511627776/\x.Out.length<=1099511627776):lJ n l=some (cX n l):=by
 unfold lJ cX;rw[Bn n hio,QB];by_cases h:(dA n).2=0
 .obtain⟨le,out,_,hl,_,_⟩:=yP h;rw[if_neg (show ¬((dA n).2 !=0)=true by simp[h]),if_neg (show ¬(dA n).2≠0 by simp[h])];by_cases h4:4<l.length
  .rw[if_pos (by simp;omega),if_pos h4]
  .rw[if_neg (by simp;omega),if_neg h4];have hmk:mk (l.length:Int) false=some ((List.range l.length).map λi:Nat=>decide ((i:Int)∈([]:U Int))):=by
    unfold mk;rw[if_pos (by omega)];congr 1;simp[List.map_const']
   have hseen:=xP n l (by omega) hl.n2 (nodeA hl) n.Nodes.length 0 [] (by omega);simp only[Q0,Rn]at hseen;have:=xH l (by omega) (body:=λss=>ph n l ss) (inner:=λk s ss=>pi k s ss) (some (gP l.length n.Nodes []))
    (λk s hs hlt=>by
     unfold ph;rw[if_pos (by simp;omega),bj hs,QB];by_cases h20:20<s.length
     .rw[if_pos (by simp;omega),if_pos h20];rfl
     .rw[if_neg (by simp;omega),if_neg h20])
    (by unfold ph;rw[if_neg (by simp),hmk,QB,hseen])
    (λk s j x hs hlt hx hj=>by
     have hjl:=(QD.1 hx).1;unfold pi;rw[if_pos (by simp;omega),bj hx,QB,bc (by omega)];by_cases hd:x.Dep≠0
     .rw[if_pos (by simpa using hd),if_pos hd];rfl
     .rw[if_neg (by simpa using hd),if_neg hd])
    (λk s hs hlt=>by unfold pi;rw[if_neg (by simp),bc (by omega)];rfl) l.length 0 (by omega)
   simp only[Q0,Rn]at this;rw[this];by_cases hi:iE l≠0
   .rw[if_pos hi,if_pos hi]
   .rw[if_neg hi,if_neg hi]
 .rw[if_pos (by simpa using h),if_pos h]
theorem G8(n:Net)(l:U (U Item))(hio:∀x∈n.Nodes,x.In.length<=1099511627776/\x.Out.length<=1099511627776):rx n l=some (cX n l):=by
 unfold rx cX;rw[AC n hio,QB];by_cases h:(dA n).2=0
 .obtain⟨le,out,_,hl,_,_⟩:=yP h;rw[if_neg (show ¬((dA n).2 !=0)=true by simp[h]),if_neg (show ¬(dA n).2≠0 by simp[h])];by_cases h4:4<l.length
  .rw[if_pos (by simp;omega),if_pos h4]
  .rw[if_neg (by simp;omega),if_neg h4];have hseen:=yx n l (by omega) hl.n2 n.Nodes.length 0 [] [] (by omega) (λa=>by simp[mget]);simp only[Q0,Rn]at hseen;have:=xH l (by omega) (body:=λss=>oS n l ss) (inner:=λk s ss=>oT k s ss) (some (gP l.length n.Nodes []))
    (λk s hs hlt=>by
     unfold oS;rw[if_pos (by simp;omega),bj hs,QB];by_cases h20:20<s.length
     .rw[if_pos (by simp;omega),if_pos h20];rfl
     .rw[if_neg (by simp;omega),if_neg h20])
    (by unfold oS;rw[if_neg (by simp),hseen])
    (λk s j x hs hlt hx hj=>by
     have hjl:=(QD.1 hx).1;unfold oT;rw[if_pos (by simp;omega),bj hx,QB,bc (by omega)];by_cases hd:x.Dep≠0
     .rw[if_pos (by simpa using hd),if_pos hd];rfl
     .rw[if_neg (by simpa using hd),if_neg hd])
    (λk s hs hlt=>by unfold oT;rw[if_neg (by simp),bc (by omega)];rfl) l.length 0 (by omega)
   simp only[Q0,Rn]at this;rw[this];by_cases hi:iE l≠0
   .rw[if_pos hi,if_pos hi]
   .rw[if_neg hi,if_neg hi]
 .rw[if_pos (by simpa using h),if_pos h]
def meetN:Net:=⟨[⟨1,0,[],[0]⟩,⟨1,1,[],[1]⟩,⟨6,0,[0,1],[2]⟩,⟨8,0,[2],[]⟩],3,1⟩
def twoN:List (List Item):=[[⟨1,1,0⟩],[⟨2,2,0⟩]]
theorem M7:∀x∈meetN.Nodes,x.In.length<=1099511627776/\x.Out.length<=1099511627776:=by decide
theorem C7:cX meetN twoN=0:=by decide
theorem C8(l:U Ends)(ns:U Node):∀(m:Nat) (out o:U Nat),ordN l ns m out=some o->o.length=out.length+m
 |0,out,o,h=>by cases h;rfl
 |m+1,out,o,h=>by
  unfold ordN at h;split at h
  .cases h
  .have:=C8 l ns m _ o h;grind
theorem Ck{l:U Ends}{ns:U Node}:∀{m:Nat} {out o:U Nat},ordN l ns m out=some o->out.Nodup->(∀x∈out,x<ns.length) ->
  o.Nodup/\(∀x∈o,x<ns.length)/\out <+: o/\∀(p i:Nat),out.length<=p->o[p]?=some i->okN l (o.take p) ns i=true
 |0,out,o,h,h1,h2=>by
  cases h;grind
 | m+1,out,o,h,h1,h2=>by
  unfold ordN at h;split at h
  .cases h
  .rename_i i hi;obtain⟨_,hlt,hok⟩:=Bp hi;have hni:i∉out:=by
    simp_all[okN]
   obtain⟨a,b,c,d⟩:=Ck h (List.nodup_append.2 ⟨h1,by simp,by grind⟩) (λx hx=>by grind)
   refine⟨a,b,(List.prefix_append out [i]).trans c,λp j hp hj=>?_⟩;by_cases hpe:p=out.length
   .subst hpe;obtain⟨t,ht⟩:=c;grind
   grind
theorem xx:∀(N:Nat) (l:U Nat),l.Nodup->(∀x∈l,x<N)->l.length<=N
 |0,l,_,h=>by
  cases l with
  |nil=>simp
  |cons x l=>grind[List.mem_cons_self]
 |N+1,l,hd,h=>by
  have:=xx N (l.erase N) (hd.erase N) (λx hx=>by grind)
  grind
theorem Lo{N:Nat}{l:U Nat}(hd:l.Nodup)(h:∀x∈l,x<N)(hl:l.length=N){i:Nat}(hi:i<N):i∈l:=by
 refine Classical.byContradiction λhn=>?_
 have:=xx N (i::l) (R7.2 ⟨hn,hd⟩) (λx hx=>by grind)
 grind
structure OrdL (n:Net) (l:List Ends) (o:List Nat):Prop where
 nd:o.Nodup
 lt:∀x∈o,x<n.Nodes.length
 len:o.length=n.Nodes.length
 fed:∀(p i:Nat) (x:Node) (r:Int) (e:Ends),o[p]?=some i->n.Nodes[i]?=some x->r∈x.In->l[r.toNat]?=some e->e.src.toNat∈o.take p
theorem MJ{n:Net}{l:U Ends}{o:U Nat}(h:ordN l n.Nodes n.Nodes.length []=some o):OrdL n l o:=by obtain⟨a,b,_,d⟩:=Ck h List.nodup_nil (λx hx=>by simp at hx);have hl:=C8 _ _ _ _ _ h;refine⟨a,b,by grind,λp i x r e hp hx hr he=>?_⟩;have:=d p i (QY _) hp;unfold okN at this;rw[RR,hx]at this;grind[fedN]
theorem bnd{α β:Type}{o:Qbm α}{k:α->Qbm β}{x:α}{r:Qbm β}(h:o=some x)(h2:k x=r):Option.bind o k=r:=by grind
theorem gQ{n:Nat}{i j:Int}(h:0<=i/\i<=j/\j<=n):vwok n i j=some ():=by unfold vwok;rw[if_pos h]
theorem yJ{α:Type}(a c d ys:U α)(n:Nat)(h:c.length=ys.length)(hn:ys.length<=n):cpy (a++(c++d)) a.length n ys=a++(ys++d):=by grind[cpy,List.take_of_length_le]
theorem FP(a b:U Keyed)(y:Keyed)(h:a.length+b.length<=1000000):ro (a.length:Int) (a++b) [y]=some (a++y::b):=by
 unfold ro;refine My (λC hC=>?_);unfold xb;have hl:(a++b).length=a.length+b.length:=QO;have h1:([y]:U Keyed).length=1:=rfl;have w1:IntKind.i64.wrap ((((a++b).length:Nat):Int)+(([y]:U Keyed).length:Int))=((a.length+b.length+1:Nat):Int):=by rw[bq (by omega) (by omega)];omega
 have w2:IntKind.i64.wrap ((a.length:Int)+(([y]:U Keyed).length:Int))=((a.length+1:Nat):Int):=by rw[bq (by omega) (by omega)];omega
 have w3:IntKind.i64.wrap (((a.length+b.length+1:Nat):Int)- (a.length:Int))=((b.length+1:Nat):Int):=by rw[bq (by omega) (by omega)];omega
 simp only[w1,w2,w3,Q1];refine bnd (gQ (by omega)) ?_;rw[if_neg (by simp)];by_cases hb:b=[]
 .subst hb;rw[if_pos (by simp)];refine bnd (bT (by simp;omega)) ?_;simp
 .have hbl:0<b.length:=RE.2 hb;rw[if_neg (by simp;omega)];by_cases hg:a.length+b.length+1> C
  .rw[if_pos (by simp;omega)];refine bnd (gQ (by omega)) ?_;have hz:growz (a++b) a.length C ((b.length+1:Nat):Int) (⟨0,0⟩:Keyed)=some (a++([(⟨0,0⟩:Keyed)]++List.replicate b.length (⟨0,0⟩:Keyed))):=by
    unfold growz;rw[if_pos (by rw[hl];omega),List.take_left,Q1,R4];rfl
   refine bnd hz ?_;have hzl:(a++([(⟨0,0⟩:Keyed)]++List.replicate b.length (⟨0,0⟩:Keyed))).length=a.length+(b.length+1):=by simp<;>omega
   have e1:a.length+(b.length+1)- a.length=b.length+1:=by omega
   have c1:=yJ a [(⟨0,0⟩:Keyed)] (List.replicate b.length (⟨0,0⟩:Keyed)) [y] (b.length+1) J (by simp);have hal:(a++([y]++List.replicate b.length (⟨0,0⟩:Keyed))).length=a.length+(b.length+1):=by simp<;>omega
   have e2:a.length+(b.length+1)- (a.length+1)=b.length:=by omega
   simp only[hzl,e1,c1,hal,e2,hl,RF,Nat.add_sub_cancel_left,Q1];refine bnd (gQ (by omega)) (bnd (gQ (by omega)) (bnd (gQ (by omega)) (bnd (gQ (by omega)) (bnd (gQ (by omega)) (bnd (gQ (by omega)) ?_)))));rw[Sa,Sf];have c2:=yJ (a++[y]) (List.replicate b.length (⟨0,0⟩:Keyed)) [] b b.length (by simp) (QJ _);simp only[RV,QO,Sg,Rc]at c2;rw[c2];simp
  .rw[if_neg (by simp;omega)];have hx:roomx (a++b).length C ((a.length+b.length+1:Nat):Int)=some 1:=by
    unfold roomx;rw[if_pos (by rw[hl];omega),hl,Q1];congr 1;omega
   refine bnd hx ?_;have e2:a.length+b.length+1- (a.length+1)=b.length:=by omega
   have e3:a.length+b.length+1- a.length=b.length+1:=by omega
   simp only[hl,Q1,e2,e3];refine bnd (gQ (by omega)) ?_;refine bnd (show ovok [y] b.length=some () by unfold ovok;rw[if_pos (by simp;omega)]) ?_;refine bnd (gQ (by omega)) (bnd (gQ (by omega)) ?_);have hu:cpyU (a++b) 1 (a.length+1) b.length a.length (b.length+1)=some (a++(b.take 1++b)):=by unfold cpyU;rw[if_pos (by rw[hl];omega),Sa,List.take_append];simp[Rt]
   refine bnd hu ?_;have htl:(b.take 1).length=1:=by simp;omega
   have hul:(a++(b.take 1++b)).length=a.length+(b.length+1):=by rw[QO,QO,htl];omega
   have e1:a.length+(b.length+1)- a.length=b.length+1:=by omega
   have c1:=yJ a (b.take 1) b [y] (b.length+1) (by rw[htl];rfl) (by simp);simp only[hul,e1,c1,Q1];refine bnd (gQ (by omega)) (bnd (gQ (by omega)) ?_);rfl
theorem FZ(x:Keyed)(k:Int):pA x k=some (if x.Key<k then-1 else if x.Key> k then 1 else 0):=by
 unfold pA;by_cases h1:x.Key<k
 .simp[h1]
 .by_cases h2:x.Key> k<;>simp[h1,h2]
def good(l:List Keyed)(i:Nat):Prop:=∀x,l[i]?=some x->1<=x.N/\∀j y,i=j+1->l[j]?=some y->y.Key<x.Key
theorem BX(m:Memory)(hl:m.Keys.length<=6):∀(n k:Nat),k+n=m.Keys.length->∃c,iter (λss:Int=>jm m ss) (k:Int)=some c/\(c=0↔(∀i,k<=i->i<m.Keys.length->good m.Keys i)/\0<=m.Dep)
  | 0,k,h=>by
    have hk:k=m.Keys.length:=by omega
    subst hk;by_cases hd:m.Dep<0
    · refine⟨3,?_,by constructor<;>intro h<;>omega⟩;rw[aF];unfold jm;simp[hd]
    · refine⟨0,?_,?_⟩
      · rw[aF];unfold jm;simp[hd]
      · exact⟨λ_=>⟨λi h1 h2=>by omega,by omega⟩,λ_=>J⟩
  | n + 1, k, h => by
    have hk:k<m.Keys.length:=by omega
    have hx:m.Keys[k]?=some m.Keys[k]:=QC hk;generalize hxv:m.Keys[k]=x at hx;have hkw:decide ((k:Int)<(m.Keys.length:Int))=true:=by simp;omega
    have hw:IntKind.i64.wrap ((k:Int)+1)=((k+1:Nat):Int):=bc (by omega);by_cases hg:good m.Keys k
    · obtain⟨hg1,hg2⟩:=hg x hx;obtain⟨c,h1,h2⟩:=BX m hl n (k+1) (by omega);refine⟨c,?_,?_⟩
      · rw[aF];have e:jm m (k:Int)=some (.inl ((k+1:Nat):Int)):=by
          unfold jm;rw[if_pos hkw,bj hx,QB,if_neg (show ¬decide (x.N<1)=true by simp;omega)];cases k with
          |zero=>simp[show IntKind.i64.wrap 1=1 from J]
          | succ j=>
            have hy:m.Keys[j]?=some m.Keys[j]:=QC (by omega);have:=hg2 j _ J hy;rw[if_pos (by simp),bq (by omega) (by omega),show((j+1:Nat):Int)- 1=(j:Int) by omega,bj hy,QB,QB,if_neg (by simp;omega),hw]
        simp only[e];exact h1
      · rw[h2];constructor
        · rintro⟨h3,h4⟩;exact⟨λi hi hi2=>by
            by_cases e:i=k
            · subst e;exact hg
            · exact h3 i (by omega) hi2,h4⟩
        · rintro⟨h3,h4⟩;exact⟨λi hi hi2=>h3 i (by omega) hi2,h4⟩
    · refine ⟨4, ?_, by constructor
                        · intro h;omega
                        · rintro⟨h3,_⟩;exact absurd (h3 k (QJ _) hk) hg⟩
      rw[aF];have e:jm m (k:Int)=some (.inr 4):=by
        unfold jm;rw[if_pos hkw,bj hx,QB];by_cases hn:x.N<1
        · rw[if_pos (show decide (x.N<1)=true by simpa using hn)];rfl
        · rw[if_neg (show ¬decide (x.N<1)=true by simpa using hn)];cases k with
          |zero=>exact absurd (λy hy=>by rw[hx]at hy;cases hy;exact⟨by omega,λj z hj=>by omega⟩) hg
          | succ j=>
            have hy:m.Keys[j]?=some m.Keys[j]:=QC (by omega);rw[if_pos (by simp),bq (by omega) (by omega),show((j+1:Nat):Int)- 1=(j:Int) by omega,bj hy,QB,QB];have:x.Key<=(m.Keys[j]).Key:=by
              apply Int.not_lt.1;intro hlt;exact hg (λz hz=>by
                rw[hx]at hz;cases hz;exact⟨by omega,λi y hi hy2=>by
                  have:i=j:=by omega
                  subst this;rw[hy]at hy2;cases hy2;exact hlt⟩)
            rw[if_pos (by simpa using this)];rfl
      simp only[e]
structure okM (m:Memory):Prop where
 len:m.Keys.length<=6
 n:∀x,x∈m.Keys->1<=x.N
 lt:∀(i j:Nat) x y,i<j->m.Keys[i]?=some x->m.Keys[j]?=some y->x.Key<y.Key
 dep:0<=m.Dep
theorem Es{l:U Keyed}(h:∀i,i<l.length->good l i):∀(n i j:Nat) x y,j=i+1+n->l[i]?=some x->l[j]?=some y->x.Key<y.Key
 |0,i,j,x,y,e,hx,hy=>(h j (QD.1 hy).1 y hy).2 i x (by omega) hx
 |n+1,i,j,x,y,e,hx,hy=>by have hj:=(QD.1 hy).1;have hz:l[i+1+n]?=some l[i+1+n]:=QC (by omega);have h1:=Es h n i (i+1+n) x _ J hx hz;have h2:=(h j hj y hy).2 (i+1+n) _ (by omega) hz;omega
theorem xZ(m:Memory):∃c,lG m=some c/\(c=0↔okM m):=by
 unfold lG;by_cases hl:m.Keys.length<=6
 .rw[if_neg (by simp;omega)];obtain⟨c,h1,h2⟩:=BX m hl m.Keys.length 0 (by omega);refine⟨c,h1,h2.trans ⟨λ⟨h3,h4⟩=>⟨hl,λx hx=>?_,λi j x y hij hx hy=>?_,h4⟩,λh=>⟨λi _ hi x hx=>⟨h.n x (QE hx),λj y e hy=>h.lt j i y x (by omega) hy hx⟩,h.dep⟩⟩⟩
  .obtain⟨i,hi⟩:=QL hx;exact(h3 i (QY _) (QD.1 hi).1 x hi).1
  .exact Es (λi hi=>h3 i (QY _) hi) (j- i- 1) i j x y (by omega) hx hy
 .rw[if_pos (by simp;omega)];exact⟨2,J,λh=>by omega,λh=>absurd h.len hl⟩
theorem CN(l:U Keyed)(key:Int)(hl:l.length<=6)(hs:∀(i j:Nat) x y,i<j->l[i]?=some x->l[j]?=some y->x.Key<y.Key):
    ∃(i:Nat) (b:Bool),rf l key=some ((i:Int),b)/\i<=l.length/\(∀t x,t<i->l[t]?=some x->x.Key<key)/\(∀t x,i<=t->l[t]?=some x->key<=x.Key)/\(b=true↔ ∃x,l[i]?=some x/\x.Key=key):=by
  unfold rf
  obtain ⟨r,h1,i,h2,h3,h4,h5,h6⟩:=wa (body:=λss:Int×Int=>re l key ss.1 ss.2)
    (λs=>(0<=s.1/\s.1<=s.2/\s.2<=(l.length:Int))/\(∀(t:Nat) (x:Keyed),(t:Int)<s.1->l[t]?=some x->x.Key<key)/\(∀(t:Nat) (x:Keyed),s.2<=(t:Int)->l[t]?=some x->key<=x.Key)) (λs=>(s.2- s.1).toNat)
    (λr=>∃i:Nat,r.1=(i:Int)/\i<=l.length/\(∀t x,t<i->l[t]?=some x->x.Key<key)/\(∀t x,i<=t->l[t]?=some x->key<=x.Key)/\(r.2=true↔ ∃x,l[i]?=some x/\x.Key=key)) (λs hs0=>by
      obtain⟨s1,s2⟩:=s;simp only at hs0 ⊢;obtain⟨hb,ha,hc⟩:=hs0;unfold re;by_cases hlt:s1<s2
      · rw[if_pos (by simpa using hlt)];have e1:shr .u64 (IntKind.u64.wrap (IntKind.i64.wrap (s1+s2))) 1=some ((s1+s2)/ 2):=by
          rw[bq (by omega) (by omega),IntWalk.u64_in _ ⟨by omega,by omega⟩];unfold shr;rw[if_pos (by decide)];congr 1;show(s1+s2).fdiv 2=_;rw[Int.fdiv_eq_ediv_of_nonneg _ (by decide)]
        rw[e1,QB];obtain⟨h,hh⟩:∃h:Nat,(s1+s2)/ 2=(h:Int):=RD (by omega);have hhl:h<l.length:=by omega
        have hx:l[h]?=some l[h]:=QC hhl;generalize hxv:l[h]=x at hx;have e2:IntKind.i64.wrap (h:Int)=(h:Int):=bq (by omega) (by omega);have e4:IntKind.i64.wrap ((h:Int)+1)=(h:Int)+1:=bq (by omega) (by omega);rw[hh,e2,bj hx,QB,FZ,QB,e4];refine .inl ?_;by_cases hk:x.Key<key
        · rw[if_pos hk];refine⟨((h:Int)+1,s2),J,⟨⟨by show 0<=(h:Int)+1;omega,by show(h:Int)+1<=s2;omega,hb.2.2⟩,λt y ht hy=>?_,hc⟩,by show(s2- ((h:Int)+1)).toNat<(s2- s1).toNat;omega⟩;have ht:(t:Int)<(h:Int)+1:=ht;by_cases e:t=h
          · subst e;rw[hx]at hy;cases hy;exact hk
          · have:=hs t h y x (by omega) hy hx;omega
        · have e5:(if decide ((if x.Key<key then(-1:Int)else if x.Key> key then 1 else 0)<0)=true then(some (.inl ((h:Int)+1,s2)):Qbm ((Int×Int)⊕(Int×Bool)))else some (.inl (s1,(h:Int))))=some (.inl (s1,(h:Int))):=by
            rw[if_neg hk];split<;>rfl
          refine⟨(s1,(h:Int)),e5,⟨⟨hb.1,by show s1<=(h:Int);omega,by show(h:Int)<=_;omega⟩,ha,λt y ht hy=>?_⟩,by show((h:Int)- s1).toNat<(s2- s1).toNat;omega⟩;have ht:(h:Int)<=(t:Int):=ht;by_cases e:t=h
          · subst e;rw[hx]at hy;cases hy;omega
          · have:=hs h t x y (by omega) hx hy;omega
      · rw[if_neg (by simpa using hlt)];refine .inr ?_;obtain⟨k,rfl⟩:=RD hb.1;have hk2:s2=(k:Int):=by omega
        subst hk2;by_cases hk:k<l.length
        · have hx:l[k]?=some l[k]:=QC hk;generalize hxv:l[k]=x at hx;rw[if_pos (by simp;omega),bj hx,QB,FZ];refine⟨_,J,k,J,by omega,λt y ht hy=>ha t y (by omega) hy,λt y ht hy=>hc t y (by omega) hy,?_⟩;have:=hc k x (by omega) hx;simp only[hx,Rv,exists_eq_left'];by_cases e:x.Key=key
          · simp[e]
          · have h1:¬x.Key<key:=by omega
            have h2:x.Key> key:=by omega
            simp[h1,h2,e]
        · rw[if_neg (by simp;omega)];refine⟨_,J,k,J,by omega,λt y ht hy=>ha t y (by omega) hy,λt y ht hy=>hc t y (by omega) hy,?_⟩;rw[RH (by omega)];simp) _ (0,(l.length:Int)) (QJ _) ⟨by simp,λt x ht=>by
            have ht:(t:Int)<0:=ht;omega,λt x ht hx=>by
            have ht:(l.length:Int)<=(t:Int):=ht;have:=(QD.1 hx).1;omega⟩
  obtain⟨r1,r2⟩:=r
  simp only at h2
  subst h2
  exact⟨i,r2,h1,h3,h4,h5,h6⟩
theorem Lm(l t:U Keyed)(hl:l.length<=12)(hp:t.Perm l)(hs:t.Pairwise (λa b=>a.Key<b.Key)):sortK l=some t:=by
 unfold sortK;split
 .rename_i h1;match l,hp,h1 with
  |[],hp,_=>rw[List.perm_nil.1 hp]
  |[a],hp,_=>rw[List.perm_singleton.1 hp]
 .congr 1;have swo:Sort.SWO ltK:=⟨λx=>by simp[ltK],λx y z h1 h2=>by simp[ltK]at *;omega,λx y z h1 h2=>by simp[ltK]at *;omega⟩
  obtain⟨⟨hsz,_,hperm⟩,hsort⟩:=Sort.insertionSort_holds swo l.toArray 0 l.toArray.size (QY _) (QJ _);generalize hD:Sort.insertionSort ltK l.toArray 0 l.toArray.size=D at hsz hperm hsort;have hpl:D.toList.Perm l:=by rw[<- hsz,Array.extract_size]at hperm;rw[hsz,Array.extract_size]at hperm;exact hperm
  have hpt:D.toList.Perm t:=hpl.trans hp.symm;have hnd:(D.toList.map (·.Key)).Nodup:=by
   have h1:(t.map (·.Key)).Nodup:=by unfold List.Nodup;rw[List.pairwise_map];exact hs.imp (λh=>by omega)
   exact((hpt.map _).nodup_iff).2 h1
  refine List.Perm.eq_of_pairwise (le:=λa b=>a.Key<b.Key) (λa b _ _ h1 h2=>by omega) ?_ hs hpt;rw[List.pairwise_iff_getElem];intro i j hi hj hij;have h1:=hsort i j (QY _) hij (by simpa [hsz]using hj);have hi':i<D.size:=by simpa using hi
  have hj':j<D.size:=by simpa using hj
  rw[getElem!_pos D i hi',getElem!_pos D j hj']at h1;simp only[ltK,decide_eq_false_iff_not]at h1;have h2:D.toList[i].Key≠D.toList[j].Key:=by unfold List.Nodup at hnd;rw[List.pairwise_map,List.pairwise_iff_getElem]at hnd;exact hnd i j hi hj hij
  simp only[Array.getElem_toList]at h2 ⊢;omega
theorem Cd(m:Memory)(x:Item)(hl:m.Keys.length<=6)(i:Nat)(fd:Bool)(h1:∀t y,t<i->m.Keys[t]?=some y->y.Key<x.Key)(h2:∀t y,i<=t->m.Keys[t]?=some y->x.Key<=y.Key)
  (h3:fd=true↔ ∃y,m.Keys[i]?=some y/\y.Key=x.Key) (hs:∀(i j:Nat) x y,i<j->m.Keys[i]?=some x->m.Keys[j]?=some y->x.Key<y.Key):∀(n k:Nat),k+n=m.Keys.length ->
  iter (λss:Int×Int=>gG m m.Keys x ss.1 ss.2) ((if fd=true/\i<k then(i:Int)else-1),(k:Int))=iter (λss:Int×Int=>gG m m.Keys x ss.1 ss.2) ((if fd=true then(i:Int)else-1),(m.Keys.length:Int))
 |0,k,h=>by
  have hk:k=m.Keys.length:=by omega
  subst hk;by_cases hf:fd=true
  .obtain⟨y,hy,_⟩:=h3.1 hf;have:=(QD.1 hy).1;rw[if_pos ⟨hf,this⟩,if_pos hf]
  .rw[if_neg (λe=>hf e.1),if_neg hf]
 | n + 1,k,h=>by
  have hk:k<m.Keys.length:=by omega
  have hy:m.Keys[k]?=some m.Keys[k]:=QC hk;generalize hyv:m.Keys[k]=y at hy;have e:gG m m.Keys x (if fd=true/\i<k then(i:Int)else-1) (k:Int)=some (.inl ((if fd=true/\i<k+1 then(i:Int)else-1),((k+1:Nat):Int))):=by
   unfold gG;rw[if_pos (by simp;omega),dL hk,QB,hy,QB,bc (by omega)];by_cases hkey:y.Key=x.Key
   .have hik:i=k:=by
     rcases Nat.lt_trichotomy k i with h4|h4|h4
     .have:=h1 k y h4 hy;omega
     .omega
     .have hz:m.Keys[i]?=some m.Keys[i]:=QC (by omega);have h5:=h2 i _ (QJ _) hz;have h6:=hs i k _ y h4 hz hy;omega
    subst hik;have hf:fd=true:=h3.2 ⟨y,hy,hkey⟩;rw[if_pos (by simpa using hkey),if_pos ⟨hf,by omega⟩]
   .rw [if_neg (by simpa using hkey)];have:(fd=true/\i<k+1)↔(fd=true/\i<k):=by
     constructor
     .rintro⟨hf,h4⟩;refine⟨hf,?_⟩;rcases Nat.lt_or_ge i k with h5|h5
      .exact h5
      .have:i=k:=by omega
       subst this;obtain⟨z,hz,hz2⟩:=h3.1 hf;rw[hy]at hz;cases hz;exact absurd hz2 hkey
     .rintro⟨hf,h4⟩;exact⟨hf,by omega⟩
    simp only[this]
  rw[aF];simp only[e];exact Cd m x hl i fd h1 h2 h3 hs n (k+1) (by omega)
inductive StepR (k f:Int) (m:Memory) (x:Item):Memory×Item×Int->Prop
 |err (e:Int) (h:e≠0):StepR k f m x (⟨0,[],0⟩,⟨0,0,0⟩,e)
 |same (s d:Int) (y:Item) (hd:0<=d):StepR k f m x (⟨s,m.Keys,d⟩,y,0)
 |inc (i:Nat) (v:Keyed) (d:Int) (y:Item) (hi:m.Keys[i]?=some v) (hd:0<=d):StepR k f m x (⟨m.Sum,m.Keys.set i ⟨v.Key,IntKind.i64.wrap (v.N+1)⟩,d⟩,y,0)
 |ins (i:Nat) (d:Int) (y:Item) (hd:0<=d) (hl:m.Keys.length<6) (hi:i<=m.Keys.length) (h1:∀t z,t<i->m.Keys[t]?=some z->z.Key<x.Key) (h2:∀t z,i<=t->m.Keys[t]?=some z->x.Key<z.Key):StepR k f m x (⟨m.Sum,m.Keys.take i++⟨x.Key,1⟩::m.Keys.drop i,d⟩,y,0)
theorem JJ(k f:Int)(m:Memory)(x:Item)(ok:okM m)(hx:0<=x.Dep):∃R,iB k f m x=some R/\nh k f m x=some R/\StepR k f m x R:=by
 obtain⟨c,hc,hc2⟩:=xZ m;have hc0:=hc2.2 ok;subst hc0;have hap:app [] m.Keys=some m.Keys:=by rw[bT (by have:=ok.len;simp;omega)];rfl
 have hcl:lq m.Keys=some m.Keys:=hap;have hco:ki m=some m:=by unfold ki;rw[hcl];rfl
 have hdp:0<=(if x.Dep> m.Dep then x.Dep else m.Dep):=by have:=ok.dep;split<;>omega
 have hnd:¬decide (x.Dep<0)=true:=by simpa using hx
 unfold iB nh;rw[hc,QB,if_neg (by simp),if_neg hnd,hco,QB,hap,QB];by_cases k2:k=2
 .subst k2;rw[if_pos (show((2:Int)==2)=true from J),if_pos (show((2:Int)==2)=true from J)];by_cases hf:0<=f/\f<=3
  .rw[if_neg (by simp;omega)];have:f=0∨f=1∨f=2∨f=3:=by omega
   rcases this with rfl|rfl|rfl|rfl
   .exact⟨_,J,J,.same _ _ _ ok.dep⟩
   .refine⟨_,J,?_,.same _ _ _ ok.dep⟩;rw[Int.two_mul];rfl
   .exact⟨_,J,J,.same _ _ _ ok.dep⟩
   .exact⟨_,J,J,.same _ _ _ ok.dep⟩
  .rw[if_pos (by simp;omega),if_neg (by simp;omega),if_neg (by simp;omega),if_neg (by simp;omega),if_neg (by simp;omega)];exact⟨_,J,J,.err 3 (by decide)⟩
 .have n2 : ¬(k==2)=true:=by simpa using k2
  rw[if_neg n2,if_neg n2];by_cases k3:k=3
  .subst k3;rw[if_pos (show((3:Int)==3)=true from J),if_pos (show((3:Int)==3)=true from J)];exact⟨_,J,J,.same _ _ _ hdp⟩
  .have n3 : ¬(k==3)=true:=by simpa using k3
   rw[if_neg n3,if_neg n3];by_cases k4:k=4
   .subst k4;rw[if_pos (show((4:Int)==4)=true from J),if_pos (show((4:Int)==4)=true from J)];obtain⟨i,b,hs,hi,h1,h2,h3⟩:=CN m.Keys x.Key ok.len ok.lt;have hlp:=Cd m x ok.len i b h1 h2 h3 ok.lt m.Keys.length 0 (by omega);rw[if_neg (by omega)]at hlp;rw[hs,QB];rw[show((0:Nat):Int)=0 from J]at hlp;rw[hlp,aF];cases b with
    | true=>
     obtain⟨v,hv,hvk⟩:=h3.1 J;have hil:=(QD.1 hv).1;rw[if_neg (by simp),if_neg (by simp)];have hset:i<(m.Keys.set i (⟨v.Key,IntKind.i64.wrap (v.N+1)⟩:Keyed)).length:=by simpa using hil
     have hsg:(m.Keys.set i (⟨v.Key,IntKind.i64.wrap (v.N+1)⟩:Keyed))[i]?=some ⟨v.Key,IntKind.i64.wrap (v.N+1)⟩:=by simp[hil]
     refine⟨(⟨m.Sum,m.Keys.set i ⟨v.Key,IntKind.i64.wrap (v.N+1)⟩,if x.Dep> m.Dep then x.Dep else m.Dep⟩,⟨x.Key,IntKind.i64.wrap (v.N+1),if x.Dep> m.Dep then x.Dep else m.Dep⟩,0),?_,?_,.inc i v _ _ hv hdp⟩
     .unfold ke;simp only[dL hil,QB,hv,dL hset,hsg]
     .have e:gG m m.Keys x (if True then(i:Int)else-1) (m.Keys.length:Int)=some (.inr (⟨m.Sum,m.Keys.set i ⟨v.Key,IntKind.i64.wrap (v.N+1)⟩,if x.Dep> m.Dep then x.Dep else m.Dep⟩,⟨x.Key,IntKind.i64.wrap (v.N+1),if x.Dep> m.Dep then x.Dep else m.Dep⟩,0)):=by
       unfold gG;rw[if_pos trivial,if_neg (by simp),if_pos (by simp)];simp only[dL hil,QB,hv,dL hset,hsg];rfl
      simp only[e]
    | false=>
     have hnf:∀t z,i<=t->m.Keys[t]?=some z->x.Key<z.Key:=λt z ht hz=>by
      have h4:=h2 t z ht hz;rcases Int.lt_or_eq_of_le h4 with h5|h5
      .exact h5
      .exfalso;by_cases e:t=i
       .subst e;exact absurd (h3.2 ⟨z,hz,h5.symm⟩) (by decide)
       .have hil:i<m.Keys.length:=by have:=(QD.1 hz).1;omega
        have hy:m.Keys[i]?=some m.Keys[i]:=QC hil;have h6:=h2 i _ (QJ _) hy;have h7:=ok.lt i t _ z (by omega) hy hz;omega
     by_cases h6:m.Keys.length=6
     .rw[if_pos (by simp;omega)];refine⟨_,J,?_,.same _ _ _ hdp⟩;have e:gG m m.Keys x (if False then(i:Int)else-1) (m.Keys.length:Int)=some (.inr (⟨m.Sum,m.Keys,if x.Dep> m.Dep then x.Dep else m.Dep⟩,⟨x.Key,0,if x.Dep> m.Dep then x.Dep else m.Dep⟩,0)):=by
       unfold gG;rw[if_neg (λh:False=>h),if_neg (by simp),if_neg (by simp),if_neg (by simp;omega)];rfl
      simp only[QI,e]
     .have hl6:m.Keys.length<6:=by have:=ok.len;omega
      rw[if_neg (by simp;omega),if_pos (by simp)];have hin:=FP (m.Keys.take i) (m.Keys.drop i) (⟨x.Key,0⟩:Keyed) (by simp;omega);have hti:(m.Keys.take i).length=i:=by simp;omega
      rw[Rm,hti]at hin;have hset:∀a b:Keyed,(m.Keys.take i++a::m.Keys.drop i).set i b=m.Keys.take i++b::m.Keys.drop i:=λa b=>by rw[List.set_append_right _ _ (by omega),hti,R8];rfl
      have hget:∀a:Keyed,(m.Keys.take i++a::m.Keys.drop i)[i]?=some a:=λa=>by rw[Rr (by omega),hti,R8];rfl
      have hlen:∀a:Keyed,i<(m.Keys.take i++a::m.Keys.drop i).length:=λa=>by simp;omega
      have hw:IntKind.i64.wrap ((0:Int)+1)=1:=rfl;refine⟨(⟨m.Sum,m.Keys.take i++⟨x.Key,1⟩::m.Keys.drop i,if x.Dep> m.Dep then x.Dep else m.Dep⟩,⟨x.Key,1,if x.Dep> m.Dep then x.Dep else m.Dep⟩,0),?_,?_,.ins i _ _ hdp hl6 hi h1 hnf⟩
      .simp only;rw[hin,QB];unfold ke;simp only[dL (hlen _),QB,hget,hset,hw]
      .have hsort:sortK (m.Keys++[(⟨x.Key,1⟩:Keyed)])=some (m.Keys.take i++⟨x.Key,1⟩::m.Keys.drop i):=by
        refine Lm _ _ (by simp;omega) ?_ ?_
        .refine List.perm_middle.trans ?_;rw[Rm];exact(List.perm_append_singleton _ _).symm
        .rw[List.pairwise_append,List.pairwise_cons];have hpw:m.Keys.Pairwise (λa b=>a.Key<b.Key):=by
          rw[List.pairwise_iff_getElem];exact λa b ha hb hab=>ok.lt a b _ _ hab (QC ha) (QC hb)
         refine⟨hpw.sublist (List.take_sublist _ _),⟨λz hz=>?_,hpw.sublist (List.drop_sublist _ _)⟩,λa ha b hb=>?_⟩
         .obtain⟨t,ht⟩:=QL hz;rw[Q4]at ht;exact hnf (i+t) z (by omega) ht
         .obtain⟨t,ht⟩:=QL ha;rw[Q3]at ht;split at ht
          .rename_i hti2;have h7:=h1 t a hti2 ht;rcases Rl.1 hb with rfl|hb
           .exact h7
           .obtain⟨t2,ht2⟩:=QL hb;rw[Q4]at ht2;have h8:=hnf (i+t2) b (by omega) ht2;omega
          .cases ht
       have e:gG m m.Keys x (if False then(i:Int)else-1) (m.Keys.length:Int)=some (.inr (⟨m.Sum,m.Keys.take i++⟨x.Key,1⟩::m.Keys.drop i,if x.Dep> m.Dep then x.Dep else m.Dep⟩,⟨x.Key,1,if x.Dep> m.Dep then x.Dep else m.Dep⟩,0)):=by unfold gG;rw[if_neg (λh:False=>h),if_neg (by simp),if_neg (by simp),if_pos (by simp;omega),bT (by simp;omega),QB];unfold xw;rw[hsort];rfl
       simp only[QI,e]
   .have n4:¬(k==4)=true:=by simpa using k4
    rw[if_neg n4,if_neg n4];have sm:StepR k f m x (m,x,0):=.same m.Sum m.Dep x ok.dep;by_cases hk:k=1∨k=5∨k=6∨k=7∨k=8
    .rcases hk with rfl|rfl|rfl|rfl|rfl<;>exact⟨_,rfl,rfl,sm⟩
    .have n1:¬(k==1)=true:=by simp;omega
     have n5:¬(k==5)=true:=by simp;omega
     have n6:¬(k==6)=true:=by simp;omega
     have n7:¬(k==7)=true:=by simp;omega
     have n8:¬(k==8)=true:=by simp;omega
     rw[if_neg n1,if_neg n5,if_neg n6,if_neg n7,if_neg n8];exact⟨_,J,J,.err 5 (by decide)⟩
section
section
variable {l:U Keyed}
theorem LF (h:l.Pairwise (λa b=>a.Key<b.Key)):∀(i j:Nat) x y,i<j->l[i]?=some x->l[j]?=some y->x.Key<y.Key:=λi j x y hij hx hy=>by grind[List.pairwise_iff_getElem]
theorem Oi {i:Nat}{key:Int}(hlt:∀(i j:Nat) x y,i<j->l[i]?=some x->l[j]?=some y->x.Key<y.Key)(h1:∀t z,t<i->l[t]?=some z->z.Key<key)(h2:∀t z,i<=t->l[t]?=some z->key<z.Key):
  (l.take i++(⟨key,1⟩:Keyed)::l.drop i).Pairwise (λa b=>a.Key<b.Key):=by
 rw[List.pairwise_append,List.pairwise_cons]
 have hpw:l.Pairwise (λa b=>a.Key<b.Key):=by rw[List.pairwise_iff_getElem];exact λa b ha hb hab=>hlt a b _ _ hab (QC ha) (QC hb)
 refine⟨hpw.sublist (List.take_sublist _ _),⟨λz hz=>?_,hpw.sublist (List.drop_sublist _ _)⟩,λa ha b hb=>?_⟩
 .obtain⟨t,ht⟩:=QL hz
  rw[Q4]at ht
  exact h2 (i+t) z (by omega) ht
 .obtain⟨t,ht⟩:=QL ha
  rw[Q3]at ht
  split at ht
  .rename_i hti
   have h7:=h1 t a hti ht
   rcases Rl.1 hb with rfl|hb
   .exact h7
   .obtain⟨t2,ht2⟩:=QL hb
    grind
  .cases ht
theorem Lq {k f:Int}{m:Memory}{x:Item}{R:Memory×Item×Int}(h:StepR k f m x R)(ok:okM m)(B:Int)(h0:0<=B)(hB:∀y,y∈m.Keys->y.N<=B)(hB2:B<4611686018427387904)(hR:R.2.2=0):okM R.1/\∀y,y∈R.1.Keys->y.N<=B+1:=by
 cases h with
 |err e he=>grind
 |same s d y hd=>exact⟨⟨ok.len,ok.n,ok.lt,hd⟩,λy hy=>by grind⟩
 | inc i v d y hi hd=>
  have hv:=QE hi;have hv1:=ok.n v hv;have hv2:=hB v hv;have hw:IntKind.i64.wrap (v.N+1)=v.N+1:=bq (by omega) (by omega);have hget:∀(a:Nat) (z:Keyed),(m.Keys.set i ⟨v.Key,IntKind.i64.wrap (v.N+1)⟩)[a]?=some z->∃z',m.Keys[a]?=some z'/\z'.Key=z.Key:=λa z hz=>by grind
  refine⟨⟨by simpa using ok.len,λz hz=>?_,λa b z1 z2 hab hz1 hz2=>?_,hd⟩,λz hz=>?_⟩
  .rcases Rx hz with h1|h1
   .exact ok.n z h1
   grind
  .obtain⟨w1,e1,e2⟩:=hget a z1 hz1;obtain⟨w2,e3,e4⟩:=hget b z2 hz2;have:=ok.lt a b w1 w2 hab e1 e3;omega
  grind
 | ins i d y hd hl hi h1 h2=>
  have hm:∀z,z∈m.Keys.take i++(⟨x.Key,1⟩:Keyed)::m.Keys.drop i->z∈m.Keys∨z.N=1:=λz hz=>by grind
  refine⟨⟨by simp;omega,λz hz=>?_,LF (Oi ok.lt h1 h2),hd⟩,λz hz=>?_⟩
  .rcases hm z hz with h3|h3
   .exact ok.n z h3
   .omega
  grind
end
end
def maxD(a b:Int):Int:=if b> a then b else a
def mapP(f:Int)(x:Item):Int:=if f=0 then IntKind.i64.wrap (x.Val+1)else if f=1 then IntKind.i64.wrap (2*x.Val)else if f=2 then IntKind.i64.wrap (0- x.Val)else IntKind.i64.wrap (x.Val+x.Key)
def lowN(key:Int):List Keyed->Nat
 |[]=>0
 |y::ys=>if y.Key<key then lowN key ys+1 else 0
def newK(key:Int)(l:List Keyed):List Keyed×Int:=if l.length=6 then(l,0)else(l.take (lowN key l)++⟨key,1⟩::l.drop (lowN key l),1)
def cntP(key:Int)(l:List Keyed):List Keyed×Int:=
 match l[lowN key l]? with
 |some y=>if y.Key=key then(l.set (lowN key l) ⟨y.Key,IntKind.i64.wrap (y.N+1)⟩,IntKind.i64.wrap (y.N+1))else newK key l
 |none=>newK key l
def dV(k f:Int)(m:Memory)(x:Item):Memory×Item:=
 if k=2 then(m,⟨x.Key,mapP f x,x.Dep⟩)
 else if k=3 then(⟨IntKind.i64.wrap (m.Sum+x.Val),m.Keys,maxD m.Dep x.Dep⟩,⟨x.Key,IntKind.i64.wrap (m.Sum+x.Val),maxD m.Dep x.Dep⟩)
 else if k=4 then(⟨m.Sum,(cntP x.Key m.Keys).1,maxD m.Dep x.Dep⟩,⟨x.Key,(cntP x.Key m.Keys).2,maxD m.Dep x.Dep⟩)
 else(m,x)
def nY(k f:Int):Prop:=1<=k/\k<=8/\(k=2->0<=f/\f<=3)
theorem E7{key:Int}:∀{l:U Keyed} {i:Nat},i<=l.length->(∀t x,t<i->l[t]?=some x->x.Key<key)->(∀t x,i<=t->l[t]?=some x->key<=x.Key)->lowN key l=i
 |[],i,hi,_,_=>by simp at hi;subst hi;rfl
 |y::ys,0,hi,h1,h2=>by
  have:=h2 0 y (QJ _) J;simp_all[lowN]
 |y::ys,i+1,hi,h1,h2=>by have:=h1 0 y (by omega) J;unfold lowN;rw[if_pos this,E7 (i:=i) (by grind) (λt x ht hx=>h1 (t+1) x (by omega) (by grind)) (λt x ht hx=>h2 (t+1) x (by omega) (by grind))]
theorem Ff(k f:Int)(m:Memory)(x:Item)(ok:okM m)(hx:0<=x.Dep)(hk:nY k f):iB k f m x=some ((dV k f m x).1,(dV k f m x).2,0)/\StepR k f m x ((dV k f m x).1,(dV k f m x).2,0):=by
 obtain⟨c,hc,hc2⟩:=xZ m;have hc0:=hc2.2 ok;subst hc0;have hap:app [] m.Keys=some m.Keys:=by rw[bT (by have:=ok.len;simp;omega)];rfl
 have hcl:lq m.Keys=some m.Keys:=hap;have hco:ki m=some m:=by unfold ki;rw[hcl];rfl
 have hnd:¬decide (x.Dep<0)=true:=by simpa using hx
 have hdp:0<=maxD m.Dep x.Dep:=by have:=ok.dep;unfold maxD;split<;>omega
 unfold iB;rw[hc,QB,if_neg (by simp),if_neg hnd,hco,QB];by_cases k2:k=2
 .subst k2;rw[if_pos (show((2:Int)==2)=true from J)];have hf:=hk.2.2 J;rw[if_neg (by simp;omega)];have:f=0∨f=1∨f=2∨f=3:=by omega
  rcases this with rfl|rfl|rfl|rfl<;>exact⟨rfl,.same _ _ _ ok.dep⟩
 .have n2:¬(k==2)=true:=by simpa using k2
  rw[if_neg n2];by_cases k3:k=3
  .subst k3;rw[if_pos (show((3:Int)==3)=true from J)];exact⟨J,.same _ _ _ hdp⟩
  .have n3:¬(k==3)=true:=by simpa using k3
   rw[if_neg n3];by_cases k4:k=4
   .subst k4;rw[if_pos (show((4:Int)==4)=true from J)];obtain⟨i,b,hs,hi,h1,h2,h3⟩:=CN m.Keys x.Key ok.len ok.lt;have hlow:=E7 hi h1 h2;have hP:dV 4 f m x=(⟨m.Sum,(cntP x.Key m.Keys).1,maxD m.Dep x.Dep⟩,⟨x.Key,(cntP x.Key m.Keys).2,maxD m.Dep x.Dep⟩):=rfl;rw[hs,QB,hP];cases b with
    |true=>
     obtain⟨v,hv,hvk⟩:=h3.1 J;have hil:=(QD.1 hv).1;have hcp:cntP x.Key m.Keys=(m.Keys.set i ⟨v.Key,IntKind.i64.wrap (v.N+1)⟩,IntKind.i64.wrap (v.N+1)):=by unfold cntP;rw[hlow,hv];simp only;rw[if_pos hvk]
     rw[if_neg (by simp),if_neg (by simp),hcp];have hset:i<(m.Keys.set i (⟨v.Key,IntKind.i64.wrap (v.N+1)⟩:Keyed)).length:=by simpa using hil
     have hsg:(m.Keys.set i (⟨v.Key,IntKind.i64.wrap (v.N+1)⟩:Keyed))[i]?=some ⟨v.Key,IntKind.i64.wrap (v.N+1)⟩:=by simp[hil]
     refine⟨?_,.inc i v _ _ hv hdp⟩;unfold ke;simp only[dL hil,QB,hv,dL hset,hsg];rfl
    | false=>
     have hcn:cntP x.Key m.Keys=newK x.Key m.Keys:=by
      unfold cntP;rw[hlow];cases hv:m.Keys[i]? with
      |none=>rfl
      |some v=>
       simp only;rw[if_neg (λe=>absurd (h3.2 ⟨v,hv,e⟩) (by decide))]
     rw[hcn];by_cases h6:m.Keys.length=6
     .rw[if_pos (by simp;omega)];unfold newK;rw[if_pos h6];exact⟨J,.same _ _ _ hdp⟩
     .have hl6:m.Keys.length<6:=by have:=ok.len;omega
      rw[if_neg (by simp;omega),if_pos (by simp)];have hin:=FP (m.Keys.take i) (m.Keys.drop i) (⟨x.Key,0⟩:Keyed) (by simp;omega);have hti:(m.Keys.take i).length=i:=by simp;omega
      rw[Rm,hti]at hin;have hset:∀a b:Keyed,(m.Keys.take i++a::m.Keys.drop i).set i b=m.Keys.take i++b::m.Keys.drop i:=λa b=>by rw[List.set_append_right _ _ (by omega),hti,R8];rfl
      have hget:∀a:Keyed,(m.Keys.take i++a::m.Keys.drop i)[i]?=some a:=λa=>by rw[Rr (by omega),hti,R8];rfl
      have hlen:∀a:Keyed,i<(m.Keys.take i++a::m.Keys.drop i).length:=λa=>by simp;omega
      have hw:IntKind.i64.wrap ((0:Int)+1)=1:=rfl;have hnf:∀t z,i<=t->m.Keys[t]?=some z->x.Key<z.Key:=λt z ht hz=>by
       have h4:=h2 t z ht hz;rcases Int.lt_or_eq_of_le h4 with h5|h5
       .exact h5
       .exfalso;by_cases e:t=i
        .subst e;exact absurd (h3.2 ⟨z,hz,h5.symm⟩) (by decide)
        .have hil:i<m.Keys.length:=by have:=(QD.1 hz).1;omega
         have hy:m.Keys[i]?=some m.Keys[i]:=QC hil;have h6:=h2 i _ (QJ _) hy;have h7:=ok.lt i t _ z (by omega) hy hz;omega
      have hnk:newK x.Key m.Keys=(m.Keys.take i++⟨x.Key,1⟩::m.Keys.drop i,1):=by unfold newK;rw[if_neg h6,hlow]
      rw[hnk];refine⟨?_,.ins i _ _ hdp hl6 hi h1 hnf⟩;simp only;rw[hin,QB];unfold ke;simp only[dL (hlen _),QB,hget,hset,hw];rfl
   .have n4:¬(k==4)=true:=by simpa using k4
    rw[if_neg n4];have hP:dV k f m x=(m,x):=by unfold dV;rw[if_neg k2,if_neg k3,if_neg k4]
    rw[hP];have hk':k=1∨k=5∨k=6∨k=7∨k=8:=by have:=hk.1;have:=hk.2.1;omega
    rcases hk' with rfl|rfl|rfl|rfl|rfl<;>exact⟨rfl,.same m.Sum m.Dep x ok.dep⟩
theorem yZ(k f:Int)(m:Memory)(x:Item)(ok:okM m)(hx:0<=x.Dep)(hk:nY k f):iB k f m x=some ((dV k f m x).1,(dV k f m x).2,0):=(Ff k f m x ok hx hk).1
theorem Np(k f:Int)(m:Memory)(x:Item)(ok:okM m)(hx:0<=x.Dep)(hk:nY k f):StepR k f m x ((dV k f m x).1,(dV k f m x).2,0):=(Ff k f m x ok hx hk).2
theorem Lk{k f:Int}{m:Memory}{x:Item}(ok:okM m)(hx:0<=x.Dep)(hk:nY k f)(B:Int)(h0:0<=B)(hB:∀y,y∈m.Keys->y.N<=B)(hB2:B<4611686018427387904):
 okM (dV k f m x).1/\∀y,y∈(dV k f m x).1.Keys->y.N<=B+1:=Lq (Np k f m x ok hx hk) ok B h0 hB hB2 J
theorem NA(k f:Int)(m:Memory)(x:Item)(ok:okM m)(hx:0<=x.Dep)(hk:nY k f):nh k f m x=some ((dV k f m x).1,(dV k f m x).2,0):=by obtain⟨R,h1,h2,_⟩:=JJ k f m x ok hx;rw[yZ k f m x ok hx hk]at h1;cases h1;exact h2
def deep(k:Int):Bool:=k==3||k==4
theorem KP(k f:Int)(m:Memory)(x:Item):(dV k f m x).2.Dep=(if deep k then maxD m.Dep x.Dep else x.Dep)/\(dV k f m x).1.Dep=if deep k then maxD m.Dep x.Dep else m.Dep:=by unfold dV deep;grind
section
def ah(n:Net)(i:Nat):Node:=n.Nodes.getD i ⟨0,0,[],[]⟩
structure RightN (n:Net):Prop where
 n1:1<=n.Nodes.length
 n2:n.Nodes.length<=12
 r1:0<=n.Rings
 r2:n.Rings<=16
 m1:1<=n.Room
 m2:n.Room<=6
 kind:∀i,i<n.Nodes.length->nY (ah n i).Kind (ah n i).A
 a0:∀i,i<n.Nodes.length->0<=(ah n i).A
 in1:∀i,i<n.Nodes.length->(ah n i).Kind=1->(ah n i).In=[]
 in6:∀i,i<n.Nodes.length->(ah n i).Kind=6->1<=(ah n i).In.length
 inx:∀i,i<n.Nodes.length->(ah n i).Kind≠1->(ah n i).Kind≠6->(ah n i).In.length=1
 out8:∀i,i<n.Nodes.length->(ah n i).Kind=8->(ah n i).Out=[]
 out1:∀i,i<n.Nodes.length->(ah n i).Kind≠8->1<=(ah n i).Out.length
 outx:∀i,i<n.Nodes.length->(ah n i).Kind≠8->(ah n i).Kind≠5->(ah n i).Kind≠7->(ah n i).Out.length=1
 inR:∀i,i<n.Nodes.length->∀r,r∈(ah n i).In->0<=r/\r<n.Rings
 outR:∀i,i<n.Nodes.length->∀r,r∈(ah n i).Out->0<=r/\r<n.Rings
 ndI:∀i,i<n.Nodes.length->(ah n i).In.Nodup
 ndO:∀i,i<n.Nodes.length->(ah n i).Out.Nodup
 oneI:∀i j r,i<n.Nodes.length->j<n.Nodes.length->r∈(ah n i).In->r∈(ah n j).In->i=j
 oneO:∀i j r,i<n.Nodes.length->j<n.Nodes.length->r∈(ah n i).Out->r∈(ah n j).Out->i=j
 toI:∀r:Nat,(r:Int)<n.Rings->∃i,i<n.Nodes.length/\(r:Int)∈(ah n i).In
 toO:∀r:Nat,(r:Int)<n.Rings->∃i,i<n.Nodes.length/\(r:Int)∈(ah n i).Out
 sink:∃s,s<n.Nodes.length/\(ah n s).Kind=8
 sink1:∀i j,i<n.Nodes.length->j<n.Nodes.length->(ah n i).Kind=8->(ah n j).Kind=8->i=j
 ord:∃pos:Nat->Nat,(∀i,i<n.Nodes.length->pos i<n.Nodes.length)/\(∀i j,i<n.Nodes.length->j<n.Nodes.length->pos i=pos j->i=j)/\∀i j r,i<n.Nodes.length->j<n.Nodes.length->r∈(ah n i).Out->r∈(ah n j).In->pos i<pos j
structure RightS (n:Net) (items:List (List Item)):Prop extends RightN n where
 l4:items.length<=4
 l20:∀(a:Nat) (l:List Item),items[a]?=some l->l.length<=20
 dep0:∀(a:Nat) (l:List Item) (x:Item),items[a]?=some l->x∈l->x.Dep=0
 srcA:∀i,i<n.Nodes.length->(ah n i).Kind=1->(ah n i).A<items.length
 src1:∀i j,i<n.Nodes.length->j<n.Nodes.length->(ah n i).Kind=1->(ah n j).Kind=1->(ah n i).A=(ah n j).A->i=j
section
variable {n:Net}
theorem gJ {i:Nat}(h:i<n.Nodes.length):n.Nodes[i]?=some (ah n i):=by grind[ah]
theorem JK {x:Node}(h:gj x=0):nY x.Kind x.A/\0<=x.A/\(x.Kind=1->x.In=[])/\(x.Kind=6->1<=x.In.length)/\(x.Kind≠1->x.Kind≠6->x.In.length=1)/\(x.Kind=8->x.Out=[])/\(x.Kind≠8->1<=x.Out.length) /\
  (x.Kind≠8->x.Kind≠5->x.Kind≠7->x.Out.length=1):=by
 unfold gj at h
 split at h
 .omega
 .rename_i i o har
  split at h
  .omega
  .rename_i hf
   split at h
   .omega
   .rename_i hb
    have hfi:ea x.In.length i=true/\ea x.Out.length o=true:=by grind
    have h1:=of_decide_eq_true hfi.1
    have h2:=of_decide_eq_true hfi.2
    have h3:¬(x.A<0∨x.Kind=1/\4<=x.A∨x.Kind=2/\3<x.A∨x.Kind≠1/\x.Kind≠2/\x.A≠0):=λe=>hb (by grind[badA])
    unfold e8 at har
    have hz:∀l:U Int,(l.length:Int)=0->l=[]:=λl hl=>QK (by omega)
    split at har
    .cases har;rename_i hk
     exact⟨⟨by omega,by omega,by omega⟩,by omega,λ_=>hz _ (by omega),by omega,by omega,by omega,by omega,by omega⟩
    .split at har
     .cases har;rename_i hk1 hk
      exact⟨⟨by omega,by omega,by omega⟩,by omega,by omega,by omega,by omega,by omega,by omega,by omega⟩
     .split at har
      .cases har;rename_i hk1 hk2 hk
       exact⟨⟨by omega,by omega,by omega⟩,by omega,by omega,by omega,by omega,by omega,by omega,by omega⟩
      .split at har
       .cases har;rename_i hk1 hk2 hk3 hk
        exact⟨⟨by omega,by omega,by omega⟩,by omega,by omega,by omega,by omega,by omega,by omega,by omega⟩
       .split at har
        .cases har;rename_i hk1 hk2 hk3 hk4 hk
         exact⟨⟨by omega,by omega,by omega⟩,by omega,by omega,by omega,by omega,λ_=>hz _ (by omega),by omega,by omega⟩
        .cases har
theorem BY {α:Type}{p:α->Bool}:∀{l:U α},(l.filter p).length=1->∃(i:Nat) (x:α),l[i]?=some x/\p x=true/\∀(j:Nat) (y:α),l[j]?=some y->p y=true->j=i
 |[],h=>by simp at h
 | a::l,h=>by
  by_cases ha:p a=true
  .rw[List.filter_cons_of_pos ha]at h;have h0:l.filter p=[]:=QK (by simpa using h);refine⟨0,a,J,ha,λj y hy hp=>?_⟩;cases j with
   |zero=>rfl
   |succ j=>
    have hm:y∈l.filter p:=List.mem_filter.2 ⟨QE (by assumption),hp⟩;grind
  .rw[List.filter_cons_of_neg ha]at h;obtain⟨i,x,h1,h2,h3⟩:=BY h;refine⟨i+1,x,by grind,h2,λj y hy hp=>?_⟩;grind
theorem KQ (h:(dA n).2=0):RightN n:=by
 obtain⟨l,o,hlk,hl,ho,_⟩:=yP h;have hord:=MJ ho;have hg:∀i,i<n.Nodes.length->n.Nodes[i]?=some (ah n i):=λi hi=>gJ hi
 have he:=λi hi=>JK (hl.err i _ (hg i hi))
 obtain⟨s,xs,hs,hs8,hsu⟩:=BY hl.sink;have hsl:=(QD.1 hs).1;have hsx:ah n s=xs:=by grind
 refine⟨hl.n1,hl.n2,hl.r1,hl.r2,hl.m1,hl.m2,λi hi=>(he i hi).1,λi hi=>(he i hi).2.1,λi hi=>(he i hi).2.2.1,λi hi=>(he i hi).2.2.2.1,λi hi=>(he i hi).2.2.2.2.1,λi hi=>(he i hi).2.2.2.2.2.1,λi hi=>(he i hi).2.2.2.2.2.2.1,λi hi=>(he i hi).2.2.2.2.2.2.2,
  λi hi r hr=>⟨(hl.inn i _ (hg i hi) r hr).1,(hl.inn i _ (hg i hi) r hr).2.1⟩,λi hi r hr=>⟨(hl.out i _ (hg i hi) r hr).1,(hl.out i _ (hg i hi) r hr).2.1⟩,λi hi=>hl.ndI i _ (hg i hi),λi hi=>hl.ndO i _ (hg i hi),
  λi j r hi hj h1 h2=>?_,λi j r hi hj h1 h2=>?_,λr hr=>?_,λr hr=>?_,⟨s,hsl,by grind⟩,λi j hi hj h1 h2=>?_,?_⟩
 .obtain⟨_,_,e,e1,e2⟩:=hl.inn i _ (hg i hi) r h1;obtain⟨_,_,e',e3,e4⟩:=hl.inn j _ (hg j hj) r h2;grind
 .obtain⟨_,_,e,e1,e2⟩:=hl.out i _ (hg i hi) r h1;obtain⟨_,_,e',e3,e4⟩:=hl.out j _ (hg j hj) r h2;grind
 .have hlt:r<l.length:=by have:=hl.len;omega
  obtain⟨i,x,h1,_,h3⟩:=hl.dst r _ (QC hlt);grind
 .have hlt:r<l.length:=by have:=hl.len;omega
  obtain⟨i,x,h1,_,h3⟩:=hl.src r _ (QC hlt);grind
 .grind
 .have hmem:∀i,i<n.Nodes.length->i∈o:=λi hi=>Lo hord.nd hord.lt hord.len hi
  have hidx:∀i,i<n.Nodes.length->o[o.idxOf i]?=some i:=λi hi=>by grind
  refine⟨λi=>o.idxOf i,λi hi=>?_,λi j hi hj e=>?_,λi j r hi hj h1 h2=>?_⟩
  .show o.idxOf i<_;rw[<- hord.len];grind
  .grind
  .obtain⟨_,_,e,e1,e2⟩:=hl.out i _ (hg i hi) r h1;have h3:=hord.fed _ j _ r e (hidx j hj) (hg j hj) h2 e1;rw[e2,Q1]at h3;show o.idxOf i<o.idxOf j;obtain⟨q,hq⟩:=QL h3;rw[Q3]at hq;split at hq
   .rename_i hlt;have hq2:=hidx i hi;have:q=o.idxOf i:=by
     have hql:=(QD.1 hq).1;refine(List.getElem?_inj hql hord.nd).1 ?_;rw[hq,hq2]
    omega
   .cases hq
theorem BO:∀{l:U (U Item)},iE l=0->∀(a:Nat) (s:U Item),l[a]?=some s->s.length<=20/\∀x:Item,x∈s->x.Dep=0
 |[],_,a,s,h=>by simp at h
 | t ::l,h,a,s,hs=>by
  unfold iE at h;split at h
  .omega
  .split at h
   .omega
   .rename_i h1 h2;cases a with
    |zero=>
     grind
    |succ a=>exact BO h a s (by grind)
theorem yb (len:Nat):∀{ns:U Node} {seen:U Int},gP len ns seen=0->(∀(i:Nat) x,ns[i]?=some x->x.Kind=1->x.A<len/\x.A∉seen)/\∀(i j:Nat) x y,ns[i]?=some x->ns[j]?=some y->x.Kind=1->y.Kind=1->x.A=y.A->i=j
 |[],seen,_=>⟨λi x h=>by simp at h,λi j x y h=>by simp at h⟩
 | z::ns,seen,h=>by
  unfold gP at h;split at h
  .rename_i hk;obtain⟨h1,h2⟩:=yb len h;grind
  .split at h
   .omega
   .split at h
    .omega
    .rename_i hk hl hs;obtain⟨h1,h2⟩:=yb len h;grind
theorem lP {items:U (U Item)}(h:cX n items=0):RightS n items:=by
 unfold cX at h;split at h
 .omega
 .split at h
  .omega
  .split at h
   .omega
   .rename_i h1 h2 h3;have hi:=λa s hs=>BO (Decidable.not_not.1 h3) a s hs
    obtain⟨s1,s2⟩:=yb items.length h;exact{ KQ (Decidable.not_not.1 h1)with
     l4:=by omega
     l20:=λa l hl=>(hi a l hl).1
     dep0:=λa l x hl hx=>(hi a l hl).2 x hx
     srcA:=λi hi hk=>(s1 i _ (gJ hi) hk).1
     src1:=λi j hi hj h1 h2 he=>s2 i j _ _ (gJ hi) (gJ hj) h1 h2 he }
end
end
section
def idxI{α:Type}(p:α->Bool)(xs:List α):Int:=match xs.findIdx? p with|some i=>(i:Int)|none=> -1
theorem xC{α:Type}(xs:U α)(hx:xs.length<=1099511627776)(p:α->Bool){body:Int->Qbm (Int⊕Int)}
  (h1:∀(k:Nat) (x:α),xs[k]?=some x->k<xs.length->idx xs (k:Int)=some x->decide ((k:Int)<(xs.length:Int))=true->IntKind.i64.wrap ((k:Int)+1)=((k+1:Nat):Int)->body k=if p x=true then some (.inr (k:Int))else some (.inl ((k+1:Nat):Int)))
  (h2:decide ((xs.length:Int)<(xs.length:Int))=false->body xs.length=some (.inr (-1))):iter body 0=some (idxI p xs):=by
 have key:∀(m k:Nat),k+m=xs.length->iter body k=some (match(xs.drop k).findIdx? p with|some i=>((k+i:Nat):Int)|none=> -1):=by
  intro m;induction m with
  |zero=>
   grind[aF]
  | succ m ih=>
   intro k hk;have hlt:k<xs.length:=by omega
   have hg:xs[k]?=some xs[k]:=QC hlt;rw[aF,h1 k _ hg hlt (bj hg) (by simp;omega) (bc (by omega)),QG hlt,List.findIdx?_cons];by_cases hp:p xs[k]=true
   .grind
   .rw[if_neg hp,Bool.eq_false_iff.2 hp];simp only;rw[ih (k+1) (by omega)];cases(xs.drop (k+1)).findIdx? p with
    |none=>rfl
    |some i=>
     grind
 have:=key xs.length 0 (by omega)
 simp only[Q0,Rn,RF]at this
 exact this
theorem De{α:Type}(p:α->Bool)(xs:U α):decide (idxI p xs>=0)=xs.any p:=by grind[idxI]
theorem NN(x:Item)(r:Int)(hr:1<=r/\r<=16):sD x r=some (x.Key% r,0):=by
 have h1:=Int.tmod_lt_of_pos x.Key (show 0<r by omega);have h2:=Int.lt_tmod_of_pos x.Key (show 0<r by omega);have hn:((r.natAbs:Nat):Int)=r:=by omega
 unfold sD;rw[if_neg (by simp;omega)];unfold rem;rw[if_neg (by omega),QB,if_neg (by omega),QB];rw[bq (by omega) (by omega)];have h3:(x.Key.tmod r+r).tmod r=x.Key% r:=by rw[Int.tmod_eq_emod_of_nonneg (by omega),Int.add_emod_right,Int.tmod_eq_emod];split<;>simp[hn,Int.sub_emod_right]
 rw[h3]
def dQ(x:Node)(k:Nat):Nat:=(x.In.getD k 0).toNat
def bK(x:Node):Nat:=if x.Kind=6 then x.In.length else 1
def memN(s:State)(i:Nat):Memory:=s.Memory.getD i ⟨0,[],0⟩
def dm(n:Net)(items:List (List Item))(s:State)(i k:Nat):Option Item:=
 if(ah n i).Kind=1 then(items.getD (ah n i).A.toNat [])[(s.At.getD (ah n i).A.toNat 0).toNat]? else(s.Rings.getD (dQ (ah n i) k) []).head?
def bJ(x:Node)(key:Int):List Int:=if x.Kind=7 then[x.Out.getD (key% x.Out.length).toNat 0]else x.Out
def roomy(n:Net)(s:State)(l:List Int):Bool:=l.all λr=>decide (((s.Rings.getD r.toNat []).length:Int)<n.Room)
def dg(n:Net)(items:List (List Item))(s:State)(i k:Nat):Bool:=
 match dm n items s i k with
 |none=>false
 |some it=>roomy n s (bJ (ah n i) it.Key)&& !(decide ((ah n i).Kind=6/\s.Choices.length=500))&& !(decide ((ah n i).Kind=8/\s.Out.length=2000))
def cT(y:Item)(l:List Int)(R:List (List Item)):List (List Item):=l.foldl (λR r=>R.set r.toNat (R.getD r.toNat []++[y])) R
def chD(x:Node)(s:State)(it:Item):Item:=if x.Kind=6 then⟨it.Key,it.Val,(s.Choices.length:Int)+1⟩else it
def cm(n:Net)(s:State)(i:Nat)(it:Item):Memory×Item:=dV (ah n i).Kind (ah n i).A (memN s i) (chD (ah n i) s it)
def doM(n:Net)(items:List (List Item))(s:State)(i k:Nat):State:=
  match dm n items s i k with
  |none=>s
  | some it=>
    { At:=if(ah n i).Kind=1 then s.At.set (ah n i).A.toNat (s.At.getD (ah n i).A.toNat 0+1)else s.At
      Rings:=cT (cm n s i it).2 (bJ (ah n i) it.Key) (if(ah n i).Kind=1 then s.Rings else s.Rings.set (dQ (ah n i) k) (s.Rings.getD (dQ (ah n i) k) []).tail)
      Memory:=s.Memory.set i (cm n s i it).1
      Choices:=if(ah n i).Kind=6 then s.Choices++[⟨i,k⟩]else s.Choices
      Out:=if(ah n i).Kind=8 then s.Out++[(cm n s i it).2]else s.Out }
def jC(n:Net)(items:List (List Item))(s:State)(i:Nat):List Move:=((List.range (bK (ah n i))).filter λk=>dg n items s i k).map λk:Nat=>⟨i,k⟩
def aY(n:Net)(items:List (List Item))(s:State):List Move:=(List.range n.Nodes.length).flatMap λi=>jC n items s i
def vX(n:Net)(c:Choice):Prop:=0<=c.Node/\c.Node<n.Nodes.length/\(ah n c.Node.toNat).Kind=6/\0<=c.Lane/\c.Lane<(ah n c.Node.toNat).In.length
structure OkS (n:Net) (items:List (List Item)) (B:Int) (s:State):Prop where
 at_:s.At.length=items.length
 rg:(s.Rings.length:Int)=n.Rings
 mm:s.Memory.length=n.Nodes.length
 ch:s.Choices.length<=500
 out:s.Out.length<=2000
 atP:∀(a:Nat) (p:Int),s.At[a]?=some p->0<=p/\p<=(items.getD a []).length
 room:∀(r:Nat) (l:List Item),s.Rings[r]?=some l->(l.length:Int)<=n.Room
 depR:∀(r:Nat) (l:List Item) (x:Item),s.Rings[r]?=some l->x∈l->0<=x.Dep/\x.Dep<=s.Choices.length
 mem:∀(i:Nat) (m:Memory),s.Memory[i]?=some m->okM m/\m.Dep<=s.Choices.length/\∀y,y∈m.Keys->y.N<=B
 cho:∀c,c∈s.Choices->vX n c
 depO:∀x,x∈s.Out->0<=x.Dep/\x.Dep<=s.Choices.length
section
variable {n:Net} {items:List (List Item)} {B:Int} {s:State}
variable {α:Type}{k i:Nat}{l:U α}
theorem dv (z:α)(h:k<l.length):l[k]?=some (l.getD k z):=by grind
theorem iT {i:Int}(z:α)(h0:0<=i)(h:i<l.length):idx l i=some (l.getD i.toNat z):=by simp_all[idx]
theorem ixN_D {i:Int}(h0:0<=i)(h:i<l.length):ixN l i=some i.toNat:=by simp_all[ixN]
theorem tB (hR:RightN n)(hi:i<n.Nodes.length)(hk:k<bK (ah n i))(h1:(ah n i).Kind≠1):k<(ah n i).In.length:=by
 unfold bK at hk;split at hk
 .exact hk
 .rename_i h6;have:=hR.inx i hi h1 h6;omega
theorem tw (hR:RightN n)(hi:i<n.Nodes.length)(hk:k<(ah n i).In.length):(ah n i).In.getD k 0∈(ah n i).In/\0<=(ah n i).In.getD k 0/\(ah n i).In.getD k 0<n.Rings:=by have:(ah n i).In.getD k 0∈(ah n i).In:=QE (dv 0 hk);exact⟨this,hR.inR i hi _ this⟩
theorem at_ok (hS:RightS n items)(ok:OkS n items B s)(hi:i<n.Nodes.length)(h1:(ah n i).Kind=1):
  0<=(ah n i).A/\(ah n i).A<s.At.length/\(ah n i).A<items.length/\0<=s.At.getD (ah n i).A.toNat 0/\s.At.getD (ah n i).A.toNat 0<=(items.getD (ah n i).A.toNat []).length/\(items.getD (ah n i).A.toNat []).length<=20:=by
 have h0:=hS.a0 i hi
 have h2:=hS.srcA i hi h1
 have h3:=ok.at_
 have h4:=ok.atP (ah n i).A.toNat _ (dv 0 (by omega))
 exact⟨h0,by omega,h2,h4.1,h4.2,hS.l20 _ _ (dv [] (by omega))⟩
theorem EO (hS:RightS n items)(ok:OkS n items B s)(hi:i<n.Nodes.length)(hk:k<bK (ah n i)):
  pW n items s ⟨i,k⟩=some (match dm n items s i k with|some it=>(it,true)|none=>(⟨0,0,0⟩,false)):=by
 unfold pW dm
 simp only
 rw[bj (gJ hi),QB]
 by_cases h1:(ah n i).Kind=1
 .rw[if_pos (by grind),if_pos h1]
  obtain⟨a0,a1,a2,a3,a4,a5⟩:=at_ok hS ok hi h1
  rw[iT 0 a0 a1,QB,iT [] a0 a2,QB]
  by_cases he:s.At.getD (ah n i).A.toNat 0=((items.getD (ah n i).A.toNat []).length:Int)
  .grind
  .rw[if_neg (by grind),QB,QB,iT ⟨0,0,0⟩ a3 (by omega),QB,dv (⟨0,0,0⟩:Item) (show(s.At.getD (ah n i).A.toNat 0).toNat<_ by omega)]
 .rw[if_neg (by grind),if_neg h1]
  have hkl:=tB hS.toRightN hi hk h1
  obtain⟨_,b0,b1⟩:=tw hS.toRightN hi hkl
  have hrg:=ok.rg
  rw[iT (0:Int) (by omega) (by omega),QB]
  simp only[Q1]
  rw[iT [] b0 (by omega),QB]
  show _=some (match(s.Rings.getD (dQ (ah n i) k) []).head? with|some it=>(it,true)|none=>(⟨0,0,0⟩,false))
  unfold dQ
  cases hl:s.Rings.getD ((ah n i).In.getD k 0).toNat []with
  |nil=>rfl
  |cons y ys=>rfl
theorem lY (hR:RightN n)(hi:i<n.Nodes.length)(key:Int):∀r,r∈bJ (ah n i) key->r∈(ah n i).Out:=by
 intro r hr;unfold bJ at hr;split at hr
 .rename_i h7;have h1:=hR.out1 i hi (by omega);have hm:=RN key (show((ah n i).Out.length:Int)≠0 by omega);have hm2:=Int.emod_lt_of_pos key (show(0:Int)<(ah n i).Out.length by omega);grind
 .exact hr
theorem xY {l:U Int}{R:Int}(hd:l.Nodup)(h:∀r,r∈l->0<=r/\r<R)(hR:0<=R):(l.length:Int)<=R:=by
 have h1:(l.map Int.toNat).Nodup:=List.pairwise_map.2 (List.Pairwise.imp_of_mem (λ{a b} ha hb hne e=>hne (by grind)) hd);have:=xx R.toNat (l.map Int.toNat) h1 (λx hx=>by grind)
 grind
theorem wo (hR:RightN n)(hi:i<n.Nodes.length)(key:Int):(bJ (ah n i) key).Nodup:=by
 unfold bJ;split
 .simp
 .exact hR.ndO i hi
theorem ql (hR:RightN n)(hi:i<n.Nodes.length):(ah n i).Out.length<=16:=by have:=xY (hR.ndO i hi) (hR.outR i hi) hR.r1;have:=hR.r2;omega
theorem Bf (hR:RightN n)(hi:i<n.Nodes.length)(it:Item):pM (ah n i) it=some (bJ (ah n i) it.Key):=by
 unfold pM bJ;by_cases h7:(ah n i).Kind=7
 .rw[if_neg (by simp[h7]),if_pos h7];have h1:=hR.out1 i hi (by omega);have h2:=ql hR hi;have hm:=RN it.Key (show((ah n i).Out.length:Int)≠0 by omega);have hm2:=Int.emod_lt_of_pos it.Key (show(0:Int)<(ah n i).Out.length by omega);rw[NN it _ (by omega),QB];simp only;rw[bq (by omega) (by omega)];obtain⟨q,hq⟩:=RD hm;rw[hq]at hm2 ⊢;rw[show((q:Nat):Int)+1=((q+1:Nat):Int)from J,qr (by omega) (by omega),QB];have hql:q<(ah n i).Out.length:=by omega
  grind[List.take_succ_eq_append_getElem]
 grind
theorem IY (hR:RightN n)(ok:OkS n items B s)(l:U Int)(hl:∀r,r∈l->0<=r/\r<n.Rings)(hll:l.length<=16):rk l s.At s.Rings s.Memory s.Choices s.Out n.Nodes n.Rings n.Room=some (!roomy n s l):=by
 unfold rk uL;have hrg:=ok.rg;rw[xC l (by omega) (λr=>decide (n.Room<=((s.Rings.getD r.toNat []).length:Int))) (λk x hx hk h1 h2 h3=>by
  have hm:=hl x (QE hx);unfold rj u3;rw[h2,h1,h3];simp only[if_true,QB];grind[iT]) (λh=>by
  simp[rj])]
 rw[QB,De];congr 1;unfold roomy;grind
theorem v7 (hS:RightS n items)(ok:OkS n items B s){it:Item}(h:dm n items s i k=some it):0<=it.Dep/\it.Dep<=s.Choices.length:=by
 unfold dm at h;split at h
 .rename_i h1;have hm:=QE h;rw[QR]at hm;cases hg:items[(ah n i).A.toNat]? with
  |none=>grind
  |some l=>
   rw[hg]at hm;rw[hS.dep0 _ l it hg hm];omega
 .have hm:=List.mem_of_head? h;rw[QR]at hm;cases hg:s.Rings[dQ (ah n i) k]? with
  |none=>grind
  |some l=>rw[hg]at hm;exact ok.depR _ l it hg hm
theorem Fq (hS:RightS n items)(ok:OkS n items B s)(hi:i<n.Nodes.length)(hk:k<bK (ah n i)):
  nO n items s ⟨i,k⟩=some (dg n items s i k):=by
 unfold nO dg
 simp only
 rw[bj (gJ hi),QB,EO hS ok hi hk,QB]
 cases hh:dm n items s i k with
 |none=>rfl
 | some it=>
  simp only[Bool.not_true,QI,if_false]
  have hol:(bJ (ah n i) it.Key).length<=16:=by
   unfold bJ;split
   .simp
   .exact ql hS.toRightN hi
  rw[Bf hS.toRightN hi,QB,IY hS.toRightN ok _ (λr hr=>hS.outR i hi r (lY hS.toRightN hi _ r hr)) hol,QB,QB]
  cases hr:roomy n s (bJ (ah n i) it.Key)with
  |false=>rfl
  | true=>
   simp only[Bool.not_true,QI,if_false,Bool.true_and]
   have hch:=ok.ch
   have hst:(Option.bind (idx s.Memory (i:Int)) λx11=>Option.bind (iB (ah n i).Kind (ah n i).A x11 it) λx12=>some (x12.2.2==0))=some true:=by have hm:=dv (⟨0,[],0⟩:Memory) (show i<s.Memory.length by rw[ok.mm];exact hi);rw[bj hm,QB,yZ _ _ _ _ (ok.mem i _ hm).1 (v7 hS ok hh).1 (hS.kind i hi)];rfl
   rw[hst]
   by_cases h6:(ah n i).Kind=6
   .have h8:¬(ah n i).Kind=8:=by omega
    by_cases hc:s.Choices.length=500
    all_goals grind
   .by_cases h8:(ah n i).Kind=8
    .by_cases hc:s.Out.length=2000
     all_goals grind
    grind
end
end
section
theorem vW(y:Item):∀(l:U Int) (R:U (U Item)),(cT y l R).length=R.length
 |[],R=>rfl
 |r::l,R=>by show(cT y l (R.set r.toNat (R.getD r.toNat []++[y]))).length=_;rw[vW y l];simp
theorem LG{α:Type}(l:U α)(i j:Nat)(a z:α)(h:i<l.length):(l.set i a).getD j z=if j=i then a else l.getD j z:=by grind
theorem vU(y:Item):∀(l:U Int) (R:U (U Item)),l.Nodup->(∀r,r∈l->0<=r/\r<R.length)->∀j:Nat,(cT y l R).getD j []=if(j:Int)∈l then R.getD j []++[y]else R.getD j []
 |[],R,_,_,j=>by simp[cT]
 |r::l,R,hd,hl,j=>by obtain⟨hn,hd⟩:=R7.1 hd;have hr:=hl r Q8;show(cT y l (R.set r.toNat (R.getD r.toNat []++[y]))).getD j []=_;rw[vU y l _ hd (λq hq=>by grind) j,LG _ _ _ _ _ (by omega)];grind
theorem Cg(y:Item)(l:U Int)(r:Int)(R:U (U Item)):cT y (l++[r]) R=(cT y l R).set r.toNat ((cT y l R).getD r.toNat []++[y]):=by simp[cT]
theorem IU(l:U Item)(R:Int)(y:Item)(h1:1<=R)(h2:R<=6)(h:(l.length:Int)<R):tg l R y=some (l++[y],0):=by unfold tg;rw[if_neg (by simp;omega),if_neg (by simp;omega),if_neg (by simp;omega)];grind[em,bT]
theorem Ir(x:Item)(l:U Item)(h:(x::l).length<=6):sM (x::l)=some (x,l,0):=by
 unfold sM;have h':l.length+1<=6:=by simpa using h
 rw[if_neg (by simp;omega),if_neg (by simp;omega)];grind[idx,sub,jx,em,bT]
section
variable {n:Net} {items:List (List Item)} {B:Int} {s:State}
def dc(n:Net)(s:State)(i k:Nat):List (List Item):=if(ah n i).Kind=1 then s.Rings else s.Rings.set (dQ (ah n i) k) (s.Rings.getD (dQ (ah n i) k) []).tail
theorem vL (i k:Nat):(dc n s i k).length=s.Rings.length:=by grind[dc]
variable {i k:Nat}
theorem xK (hR:RightN n)(hrg:(s.Rings.length:Int)=n.Rings)(hi:i<n.Nodes.length)(hk:k<bK (ah n i))(j:Nat):
  (dc n s i k).getD j []=if(ah n i).Kind≠1/\j=dQ (ah n i) k then(s.Rings.getD j []).tail else s.Rings.getD j []:=by
 unfold dc
 grind
theorem wg (hc:dg n items s i k=true):∃it,dm n items s i k=some it/\roomy n s (bJ (ah n i) it.Key)=true/\((ah n i).Kind=6->s.Choices.length≠500)/\((ah n i).Kind=8->s.Out.length≠2000):=by unfold dg at hc;grind
theorem CF (hR:RightN n)(a2:U Memory)(a3 l:U Int)(a5:U Choice)(M:Memory×Item×Int)(q:Nat)(O:U Item)(R:U (U Item))(hd:l.Nodup)(hl:∀r,r∈l->0<=r/\r<R.length/\((R.getD r.toNat []).length:Int)<n.Room)(hll:l.length<=16):∀(m j:Nat),j+m=l.length ->
  iter (λss:Int×(U (U Item))=>m8 n a2 a3 l a5 M q O ss.1 ss.2) ((j:Int),cT M.2.1 (l.take j) R)=some (a3,cT M.2.1 l R,a2.set q M.1,a5,O)
 |0,j,h=>by
  simp_all[m8,aF]
 | m+1,j,h=>by
  have hlt:j<l.length:=by omega
  have hm:=hl _ (QU hlt);have htk:l.take (j+1)=l.take j++[l[j]]:=List.take_succ_eq_append_getElem hlt;have hnd:(l.take j).Nodup:=hd.sublist (List.take_sublist _ _);have hnm:l[j]∉l.take j:=λhmem=>by grind[List.nodup_append]
  have hlen:=vW M.2.1 (l.take j) R;have hget:(cT M.2.1 (l.take j) R).getD l[j].toNat []=R.getD l[j].toNat []:=by rw[vU _ _ _ hnd (λr hr=>⟨(hl r (QN hr)).1,(hl r (QN hr)).2.1⟩),if_neg (by grind)]
  have e:m8 n a2 a3 l a5 M q O (j:Int) (cT M.2.1 (l.take j) R)=some (.inl (((j+1:Nat):Int),cT M.2.1 (l.take (j+1)) R)):=by
   unfold m8;rw[if_pos (by simp;omega),bj (QC hlt),QB,ixN_D hm.1 (by omega),QB,dv [] (show l[j].toNat<_ by omega),QB,hget,
    IU _ _ _ hR.m1 hR.m2 hm.2.2,QB,QB,dv [] (show l[j].toNat<_ by omega),QB,bc (by omega),htk,Cg,hget]
  rw[aF];simp only[e];exact CF hR a2 a3 l a5 M q O R hd hl hll m (j+1) (by omega)
theorem B9 (hR:RightN n)(a2:U Memory)(a3 l:U Int)(a5:U Choice)(M:Memory×Item×Int)(q:Nat)(O:U Item)(R:U (U Item))(hd:l.Nodup)(hl:∀r,r∈l->0<=r/\r<R.length/\((R.getD r.toNat []).length:Int)<n.Room)(hll:l.length<=16):
 pb n a2 a3 R l a5 M q O=some (a3,cT M.2.1 l R,a2.set q M.1,a5,O):=CF hR a2 a3 l a5 M q O R hd hl hll l.length 0 (by omega)
theorem do_eq (hS:RightS n items)(ok:OkS n items B s)(hi:i<n.Nodes.length)(hk:k<bK (ah n i))(hc:dg n items s i k=true):
  pn n items ⟨i,k⟩ s.At s.Rings s.Memory s.Choices s.Out=some ((doM n items s i k).At,(doM n items s i k).Rings,(doM n items s i k).Memory,(doM n items s i k).Choices,(doM n items s i k).Out):=by
 obtain⟨it,hh,hroom,h500,h2000⟩:=wg hc
 have hhd:=EO hS ok hi hk
 rw[hh]at hhd
 have hrg:=ok.rg
 have hR:=hS.toRightN
 have hlt:∀r,r∈bJ (ah n i) it.Key->0<=r/\r<(dc n s i k).length/\(((dc n s i k).getD r.toNat []).length:Int)<n.Room:=λr hr=>by have h1:=hR.outR i hi r (lY hR hi _ r hr);refine⟨h1.1,by grind[vL],?_⟩;have h2:=Q7.1 hroom r hr;have h2:=of_decide_eq_true h2;grind[xK]
 have hol:(bJ (ah n i) it.Key).length<=16:=by grind[bJ,ql]
 have tail:∀(At:U Int) (R:U (U Item)),R=dc n s i k->m6 n ⟨i,k⟩ (ah n i) (it,true) s.Memory s.Choices s.Out At R=
   some (At,cT (cm n s i it).2 (bJ (ah n i) it.Key) R,s.Memory.set i (cm n s i it).1,if(ah n i).Kind=6 then s.Choices++[⟨i,k⟩]else s.Choices,if(ah n i).Kind=8 then s.Out++[(cm n s i it).2]else s.Out):=λAt R hRe=>by
  subst hRe
  have hmi:i<s.Memory.length:=by rw[ok.mm];exact hi
  have hm:=dv (⟨0,[],0⟩:Memory) hmi
  have hdep:=v7 hS ok hh
  have hch:=ok.ch
  have k3:∀(z22:Int) (z23:U Choice),(⟨it.Key,it.Val,z22⟩:Item)=chD (ah n i) s it->0<=z22->mZ n ⟨i,k⟩ (ah n i) (it,true) s.Memory s.Out At (dc n s i k) (bJ (ah n i) it.Key) z22 z23=
    some (At,cT (cm n s i it).2 (bJ (ah n i) it.Key) (dc n s i k),s.Memory.set i (cm n s i it).1,z23,if(ah n i).Kind=8 then s.Out++[(cm n s i it).2]else s.Out):=λz22 z23 hz hz0=>by
   have hst:iB (ah n i).Kind (ah n i).A (s.Memory.getD i ⟨0,[],0⟩) (⟨it.Key,it.Val,z22⟩:Item)=some ((cm n s i it).1,(cm n s i it).2,0):=by rw[yZ _ _ _ _ (ok.mem i _ hm).1 hz0 (hS.kind i hi),hz];rfl
   unfold mZ
   simp only
   rw[dL hmi,QB,hm,QB,hst,QB,QB,hm,QB]
   by_cases h8:(ah n i).Kind=8
   .have:=ok.out
    rw[if_pos (by grind),bT (by simp;omega),QB,B9 hR _ _ _ _ _ _ _ _ (wo hR hi _) hlt hol,if_pos h8]
   simp_all[B9,wo]
  unfold m6
  rw[Bf hR hi,QB]
  by_cases h6:(ah n i).Kind=6
  .rw[if_pos (by grind),bT (by simp;omega),QB,k3 _ _ (by simp_all[chD]) (by omega),if_pos h6]
  simp_all[chD]
 unfold pn doM
 simp only[hh]
 rw[bj (gJ hi),QB,hhd,QB]
 by_cases h1:(ah n i).Kind=1
 .rw[if_pos (by grind)]
  obtain⟨a0,a1,a2,a3,a4,a5⟩:=at_ok hS ok hi h1
  rw[ixN_D a0 a1,QB,dv 0 (show(ah n i).A.toNat<s.At.length by omega),QB,QB,dv 0 (show(ah n i).A.toNat<s.At.length by omega),QB]
  simp only
  rw[tail _ _ (by simp_all[dc]),if_pos h1,if_pos h1,bq (by omega) (by omega)]
 .rw[if_neg (by grind)]
  have hkl:=tB hR hi hk h1
  obtain⟨_,b0,b1⟩:=tw hR hi hkl
  have hd0:idx (ah n i).In (k:Int)=some ((ah n i).In.getD k 0):=bj (dv 0 hkl)
  have hrl:((ah n i).In.getD k 0).toNat<s.Rings.length:=by omega
  unfold dm at hh
  rw[if_neg h1]at hh
  obtain⟨tl,htl⟩:∃tl,s.Rings.getD (dQ (ah n i) k) []=it::tl:=by
   cases hq:s.Rings.getD (dQ (ah n i) k) []with
   |nil=>grind
   |cons y ys=>grind
  have hrm:=ok.room _ _ (dv [] hrl)
  have hm2:=hS.m2
  rw[hd0,QB,QB,ixN_D b0 (by omega),QB,dv [] hrl,QB]
  have htl':s.Rings.getD ((ah n i).In.getD k 0).toNat []=it::tl:=htl
  rw[htl']at hrm⊢
  rw[Ir it tl (by omega),QB,QB,dv [] hrl,QB]
  simp only
  rw[tail _ _ (by unfold dc;rw[if_neg h1,htl];rfl),if_neg h1,if_neg h1,htl]
  rfl
theorem Lf (hR:RightN n)(hrg:(s.Rings.length:Int)=n.Rings)(hi:i<n.Nodes.length)(hk:k<bK (ah n i)){it:Item}(hh:dm n items s i k=some it)(j:Nat):
  (doM n items s i k).Rings.getD j []=(if(ah n i).Kind≠1/\j=dQ (ah n i) k then(s.Rings.getD j []).tail else s.Rings.getD j [])++if(j:Int)∈bJ (ah n i) it.Key then[(cm n s i it).2]else[]:=by
 unfold doM
 simp only[hh]
 show(cT (cm n s i it).2 (bJ (ah n i) it.Key) (dc n s i k)).getD j []=_
 rw[vU _ _ _ (wo hR hi _) (λr hr=>by have:=hR.outR i hi r (lY hR hi _ r hr);grind[vL]),xK hR hrg hi hk]
 grind
theorem NY:(doM n items s i k).Rings.length=s.Rings.length/\(doM n items s i k).At.length=s.At.length/\(doM n items s i k).Memory.length=s.Memory.length:=by grind[doM,vW]
theorem get_D {α:Type}{l:U α}{a:α}(z:α)(h:l[k]?=some a):l.getD k z=a:=by grind
theorem Fj {a b c:Int}(h1:a<=c)(h2:b<=c):maxD a b<=c:=by grind[maxD]
theorem Nl (a b:Int):a<=maxD a b/\b<=maxD a b:=by grind[maxD]
theorem do_ch {it:Item}(hh:dm n items s i k=some it):(doM n items s i k).Choices=if(ah n i).Kind=6 then s.Choices++[⟨i,k⟩]else s.Choices:=by grind[doM]
theorem Fy {it:Item}(hh:dm n items s i k=some it):(doM n items s i k).Out=if(ah n i).Kind=8 then s.Out++[(cm n s i it).2]else s.Out:=by grind[doM]
theorem NX {it:Item}(hh:dm n items s i k=some it):(doM n items s i k).Memory=s.Memory.set i (cm n s i it).1:=by grind[doM]
theorem do_at {it:Item}(hh:dm n items s i k=some it):(doM n items s i k).At=if(ah n i).Kind=1 then s.At.set (ah n i).A.toNat (s.At.getD (ah n i).A.toNat 0+1)else s.At:=by grind[doM]
theorem EP (hS:RightS n items)(ok:OkS n items B s){it:Item}(hh:dm n items s i k=some it):0<=(chD (ah n i) s it).Dep/\(chD (ah n i) s it).Dep<=(doM n items s i k).Choices.length:=by have:=v7 hS ok hh;grind[do_ch,chD]
theorem LA (hS:RightS n items)(ok:OkS n items B s)(hi:i<n.Nodes.length){it:Item}(hh:dm n items s i k=some it):
  0<=(cm n s i it).2.Dep/\(cm n s i it).2.Dep<=(doM n items s i k).Choices.length/\(cm n s i it).1.Dep<=(doM n items s i k).Choices.length:=by
 have h1:=EP hS ok hh
 have hm:=dv (⟨0,[],0⟩:Memory) (show i<s.Memory.length by rw[ok.mm];exact hi)
 have h2:=(ok.mem i _ hm).2.1
 have h3:(s.Choices.length:Int)<=(doM n items s i k).Choices.length:=by rw[do_ch hh];grind
 have h4:=(ok.mem i _ hm).1.dep
 have h5:=KP (ah n i).Kind (ah n i).A (memN s i) (chD (ah n i) s it)
 have e1:(cm n s i it)=dV (ah n i).Kind (ah n i).A (memN s i) (chD (ah n i) s it):=rfl
 have e2:memN s i=s.Memory.getD i ⟨0,[],0⟩:=rfl
 rw[e1,h5.1,h5.2]
 have h6:=Nl (memN s i).Dep (chD (ah n i) s it).Dep
 refine⟨?_,?_,?_⟩
 .omega
 .split
  .exact Fj (by grind) h1.2
  .exact h1.2
 .split
  .exact Fj (by grind) h1.2
  grind
theorem do_ok (hS:RightS n items)(ok:OkS n items B s)(hi:i<n.Nodes.length)(hk:k<bK (ah n i))(hc:dg n items s i k=true)(hB0:0<=B)(hB:B<4611686018427387904):OkS n items (B+1) (doM n items s i k):=by
 obtain⟨it,hh,hroom,h500,h2000⟩:=wg hc;obtain⟨l1,l2,l3⟩:=NY (n:=n) (items:=items) (s:=s) (i:=i) (k:=k);have hR:=hS.toRightN;have hmi:i<s.Memory.length:=by rw[ok.mm];exact hi
 have hm:=dv (⟨0,[],0⟩:Memory) hmi;have hcd:=EP hS ok hh;obtain⟨d0,d1,d2⟩:=LA hS ok hi hh;have hcl:(s.Choices.length:Int)<=(doM n items s i k).Choices.length:=by rw[do_ch hh];grind
 have hrings:∀(r:Nat) (l:U Item),(doM n items s i k).Rings[r]?=some l->r<s.Rings.length/\l=(if(ah n i).Kind≠1/\r=dQ (ah n i) k then(s.Rings.getD r []).tail else s.Rings.getD r [])++if(r:Int)∈bJ (ah n i) it.Key then[(cm n s i it).2]else[]:=λr l hl=>by have hr:=(QD.1 hl).1;rw[l1]at hr;exact⟨hr,by rw[<- get_D [] hl,Lf hR ok.rg hi hk hh]⟩
 refine⟨by rw[l2];exact ok.at_,by rw[l1];exact ok.rg,by rw[l3];exact ok.mm,?_,?_,λa p hp=>?_,λr l hl=>?_,λr l x hl hx=>?_,λj m hj=>?_,λc hcm=>?_,λx hx=>?_⟩
 .rw[do_ch hh];have:=ok.ch;grind
 .rw[Fy hh];have:=ok.out;grind
 .rw[do_at hh]at hp;split at hp
  .rename_i h1;obtain⟨a0,a1,a2,a3,a4,a5⟩:=at_ok hS ok hi h1;rw[QS]at hp;split at hp
   .rename_i e;split at hp
    .cases hp;unfold dm at hh;grind
    .cases hp
   .exact ok.atP a p hp
  .exact ok.atP a p hp
 .obtain⟨hr,rfl⟩:=hrings r l hl;have h1:=ok.room r _ (dv [] hr);have h4:(if(ah n i).Kind≠1/\r=dQ (ah n i) k then(s.Rings.getD r []).tail else s.Rings.getD r []).length<=(s.Rings.getD r []).length:=by
   grind
  rw[QO];by_cases hin:(r:Int)∈bJ (ah n i) it.Key
  .have h2:=of_decide_eq_true (Q7.1 hroom _ hin);grind
  grind
 .obtain⟨hr,rfl⟩:=hrings r l hl;rcases QX.1 hx with hx|hx
  .have hx':x∈s.Rings.getD r []:=by
    grind[List.mem_of_mem_tail]
   have:=ok.depR r _ x (dv [] hr) hx';omega
  grind
 .rw[NX hh,QS]at hj;split at hj
  .rename_i e;subst e;first
   |(rw[if_pos hmi]at hj)
   |skip
   .cases hj;obtain⟨q1,q2⟩:=Lk (k:=(ah n i).Kind) (f:=(ah n i).A) (x:=chD (ah n i) s it) (ok.mem i _ hm).1 hcd.1 (hS.kind i hi) B hB0 (ok.mem i _ hm).2.2 hB;exact⟨q1,d2,q2⟩
  .obtain⟨q1,q2,q3⟩:=ok.mem j m hj;grind
 .rw[do_ch hh]at hcm;split at hcm
  .rename_i h6;rcases QX.1 hcm with h|h
   .exact ok.cho c h
   .simp at h;subst h;have:k<(ah n i).In.length:=by simp_all[bK]
    exact⟨by simp,by simp;omega,by grind,by simp,by grind⟩
  .exact ok.cho c hcm
 .rw[Fy hh]at hx;split at hx
  .rcases QX.1 hx with h|h
   .have:=ok.depO x h;omega
   grind
  .have:=ok.depO x hx;omega
end
end
noncomputable section
section
variable {n:Net} {items:List (List Item)} {B:Int} {s:State}
variable {i k:Nat}{m:Move}
theorem sZ (hR:RightN n)(hi:i<n.Nodes.length):bK (ah n i)<=16:=by
 unfold bK;split
 .have:=xY (hR.ndI i hi) (hR.inR i hi) hR.r1;have:=hR.r2;omega
 .omega
theorem Da (hS:RightS n items)(ok:OkS n items B s)(hi:i<n.Nodes.length):∀(m k:Nat) (acc:U Move),k+m=bK (ah n i)->acc.length+m<=1000000 ->
  iter (λss:Int×(U Move)=>iv n items (i:Int) s (bK (ah n i):Int) ss.1 ss.2) ((k:Int),acc)=some (.inl (((i+1:Nat):Int),acc++(((List.range (bK (ah n i))).drop k).filter λk=>dg n items s i k).map λk:Nat=>(⟨i,k⟩:Move)))
 |0,k,acc,h,ha=>by
  have hk:k=bK (ah n i):=by omega
  have e:iv n items (i:Int) s (bK (ah n i):Int) (k:Int) acc=some (.inr (.inl (((i+1:Nat):Int),acc))):=by unfold iv;have:=hS.n2;rw[if_neg (by simp;omega),bc (by omega)];rfl
  grind[aF,List.drop_of_length_le]
 | m+1,k,acc,h,ha=>by
  have hk:k<bK (ah n i):=by omega
  have h16:=sZ hS.toRightN hi;have hd:(List.range (bK (ah n i))).drop k=k::(List.range (bK (ah n i))).drop (k+1):=by grind[List.drop_eq_getElem_cons]
  have e:iv n items (i:Int) s (bK (ah n i):Int) (k:Int) acc=some (.inl (((k+1:Nat):Int),if dg n items s i k=true then acc++[⟨i,k⟩]else acc)):=by
   unfold iv;rw[if_pos (by simp;omega),Fq hS ok hi hk,QB,bc (by omega)];cases dg n items s i k with
   |true=>rw[if_pos J,if_pos J,bT (by simp;omega)];rfl
   |false=>rfl
  rw[aF];simp only[e];rw[Da hS ok hi m (k+1) _ (by omega) (by grind),hd,List.filter_cons];grind
theorem xJ (hR:RightN n)(hi:i<n.Nodes.length):(jC n items s i).length<=16:=by grind[jC,sZ]
theorem CA (hS:RightS n items)(ok:OkS n items B s):∀(m i:Nat) (acc:U Move),i+m=n.Nodes.length->acc.length+16*m<=1000 ->
  iter (λss:Int×(U Move)=>nf n items s ss.1 ss.2) ((i:Int),acc)=some (acc++((List.range n.Nodes.length).drop i).flatMap λi=>jC n items s i)
 |0,i,acc,h,ha=>by
  simp_all[nf,aF,Q9]
 | m + 1,i,acc,h,ha=>by
  have hi:i<n.Nodes.length:=by omega
  have hd:(List.range n.Nodes.length).drop i=i::(List.range n.Nodes.length).drop (i+1):=by grind[List.drop_eq_getElem_cons]
  have hin:=Da hS ok hi (bK (ah n i)) 0 acc (by omega) (by have:=sZ hS.toRightN hi;omega);have e:nf n items s (i:Int) acc=some (.inl (((i+1:Nat):Int),acc++jC n items s i)):=by
   unfold nf pp;rw[if_pos (by simp;omega),bj (gJ hi),QB];have hl:(if((ah n i).Kind==6)=true then iter (λbl:Int×(U Move)=>iv n items (i:Int) s ((ah n i).In.length:Int) bl.1 bl.2) (0,acc)else iter (λbl:Int×(U Move)=>iv n items (i:Int) s 1 bl.1 bl.2) (0,acc))=
     iter (λss:Int×(U Move)=>iv n items (i:Int) s (bK (ah n i):Int) ss.1 ss.2) (0,acc):=by
    unfold bK
    grind
   rw[hl];assumption
  rw[aF];simp only[e];have h16:=xJ (items:=items) (s:=s) hS.toRightN hi;rw[CA hS ok m (i+1) _ (by omega) (by grind),hd,RX,Rc]
theorem LX (hS:RightS n items)(ok:OkS n items B s):sJ n items s=some (aY n items s):=by unfold sJ;have:=CA hS ok n.Nodes.length 0 [] (by omega) (by have:=hS.n2;simp;omega);assumption
theorem nJ (h:m∈aY n items s):∃i k:Nat,m=⟨i,k⟩/\i<n.Nodes.length/\k<bK (ah n i)/\dg n items s i k=true:=by grind[aY,jC]
theorem sE (hR:RightN n):(aY n items s).length<=192:=by
 have h:∀(l:U Nat),(∀i,i∈l->i<n.Nodes.length)->(l.flatMap λi=>jC n items s i).length<=16*l.length:=by
  intro l;induction l with
  |nil=>intro _;simp
  |cons a l ih=>
   grind[xJ]
 have:=h (List.range n.Nodes.length) (λi hi=>by grind);have h2:=hR.n2;grind[aY]
def doMv(n:Net)(items:List (List Item))(s:State)(m:Move):State:=doM n items s m.Node.toNat m.Lane.toNat
def wsum(w:Nat->Nat):Nat->List (List Item)->Nat
 |_,[]=>0
 |k,l::R=>l.length*w k+wsum w (k+1) R
def jH:List (List Item)->List Int->Nat
 |l::ls,p::ps=>(l.length- p.toNat)+jH ls ps
 |_,_=>0
theorem yj (w:Nat->Nat)(x:U Item):∀(R:U (U Item)) (k j:Nat),j<R.length->wsum w k (R.set j x)+(R.getD j []).length*w (k+j)=wsum w k R+x.length*w (k+j)
 |[],k,j,h=>by simp at h
 |l::R,k,0,h=>by simp[wsum];omega
 |l::R,k,j+1,h=>by have:=yj w x R (k+1) j (by simpa using h);grind[wsum]
theorem CR:∀(ls:U (U Item)) (ps:U Int) (a:Nat),a<ps.length->0<=ps.getD a 0->(ps.getD a 0).toNat<(ls.getD a []).length->jH ls (ps.set a (ps.getD a 0+1))+1=jH ls ps
 |ls,[],a,h,_,_=>by simp at h
 |[],p::ps,a,h,_,h2=>by simp at h2
 |l::ls,p::ps,0,h,h0,h2=>by
  grind[jH]
 |l::ls,p::ps,a+1,h,h0,h2=>by simp only[List.getD_cons_succ]at h0 h2 ⊢;have:=CR ls ps a (by simpa using h) h0 h2;grind[jH]
theorem Dq (w:Nat->Nat)(y:Item):∀(l:U Int) (R:U (U Item)),(∀r,r∈l->0<=r/\r<R.length)->wsum w 0 (cT y l R)=wsum w 0 R+(l.map λr=>w r.toNat).sum
 |[],R,_=>by simp[cT]
 |r::l,R,h=>by have hr:=h r Q8;show wsum w 0 (cT y l (R.set r.toNat (R.getD r.toNat []++[y])))=_;rw[Dq w y l _ (λq hq=>by grind)];have:=yj w (R.getD r.toNat []++[y]) R 0 r.toNat (by omega);grind
def y9(n:Net)(r:Nat):Nat:=((List.range n.Nodes.length).find? λi=>decide ((r:Int)∈(ah n i).In)).getD 0
theorem CY (hR:RightN n)(hi:i<n.Nodes.length){r:Int}(hr:r∈(ah n i).In):y9 n r.toNat=i:=by
 have h0:=hR.inR i hi r hr;unfold y9;cases h:(List.range n.Nodes.length).find? λi=>decide ((r.toNat:Int)∈(ah n i).In)with
 |none=>
  grind
 |some j=>
  have h1:=List.find?_some h;have h2:=RI h;rw[Ri h0.1]at h1;exact hR.oneI j i r (by grind) hi (by grind) hr
open Classical in
noncomputable def posN (n:Net):Nat->Nat:=if h:RightN n then Classical.choose h.ord else λ_=>0
theorem Cf (hR:RightN n):(∀i,i<n.Nodes.length->posN n i<n.Nodes.length)/\(∀i j,i<n.Nodes.length->j<n.Nodes.length->posN n i=posN n j->i=j)/\∀i j r,i<n.Nodes.length->j<n.Nodes.length->r∈(ah n i).Out->r∈(ah n j).In->posN n i<posN n j:=by
 have:posN n=Classical.choose hR.ord:=by simp_all[posN]
 rw[this];exact Classical.choose_spec hR.ord
def wN(n:Net)(r:Nat):Nat:=17 ^ (12- posN n (y9 n r))
def muN(n:Net)(items:List (List Item))(s:State):Nat:=wsum (wN n) 0 s.Rings+jH items s.At*17 ^ 12
theorem NV (hR:RightN n)(hi:i<n.Nodes.length)(key:Int):((bJ (ah n i) key).map λr=>wN n r.toNat).sum<17 ^ (12- posN n i):=by
 obtain⟨p1,_,p2⟩:=Cf hR;have hpi:=p1 i hi;have hn:=hR.n2;have hb:∀r,r∈bJ (ah n i) key->wN n r.toNat<=17 ^ (11- posN n i):=λr hr=>by have hro:=lY hR hi key r hr;have h0:=hR.outR i hi r hro;obtain⟨j,hj,hrj⟩:=hR.toI r.toNat (by omega);rw[Ri h0.1]at hrj;have h1:=p2 i j r hi hj hro hrj;have h2:=p1 j hj;unfold wN;rw[CY hR hj hrj];exact Nat.pow_le_pow_right (by omega) (by omega)
 have hsum:∀(l:U Int),(∀r,r∈l->wN n r.toNat<=17 ^ (11- posN n i))->(l.map λr=>wN n r.toNat).sum<=l.length*17 ^ (11- posN n i):=by
  intro l;induction l with
  |nil=>intro _;simp
  |cons a l ih=>
   intro h;have h1:=h a Q8;have h2:=ih λr hr=>h r (Rf _ hr)
   rw[Re,List.sum_cons,Rq,Ru,Sl];omega
 have h1:=hsum _ hb;have h2:(bJ (ah n i) key).length<=16:=by grind[bJ,ql]
 have h3:(bJ (ah n i) key).length*17 ^ (11- posN n i)<=16*17 ^ (11- posN n i):=QP _ h2;have e:12- posN n i=(11- posN n i)+1:=by omega
 grind
theorem mu_do (hS:RightS n items)(ok:OkS n items B s)(hi:i<n.Nodes.length)(hk:k<bK (ah n i))(hc:dg n items s i k=true):muN n items (doM n items s i k)+1<=muN n items s:=by
 obtain⟨it,hh,hroom,h500,h2000⟩:=wg hc;have hR:=hS.toRightN;have hrg:=ok.rg;have hw:=NV hR hi it.Key;have hrl:∀r,r∈bJ (ah n i) it.Key->0<=r/\r<(dc n s i k).length:=λr hr=>by have:=hR.outR i hi r (lY hR hi _ r hr);grind[vL]
 have hput:=Dq (wN n) (cm n s i it).2 _ _ hrl;have hrings:(doM n items s i k).Rings=cT (cm n s i it).2 (bJ (ah n i) it.Key) (dc n s i k):=by unfold doM;simp only[hh];rfl
 unfold muN;rw[hrings,hput,do_at hh];by_cases h1:(ah n i).Kind=1
 .obtain⟨a0,a1,a2,a3,a4,a5⟩:=at_ok hS ok hi h1;unfold dm at hh;rw[if_pos h1]at hh;have h2:=(QD.1 hh).1;have h3:=CR items s.At (ah n i).A.toNat (by omega) a3 h2;rw[if_pos h1];unfold dc;rw[if_pos h1];have h4:17 ^ (12- posN n i)<=17 ^ 12:=Nat.pow_le_pow_right (by omega) (by omega);omega
 .have hkl:=tB hR hi hk h1;obtain⟨hm,b0,b1⟩:=tw hR hi hkl;rw[if_neg h1];unfold dc;rw[if_neg h1];unfold dm at hh;rw[if_neg h1]at hh;have h2:=yj (wN n) (s.Rings.getD (dQ (ah n i) k) []).tail s.Rings 0 (dQ (ah n i) k) (by grind);have h3:wN n (dQ (ah n i) k)=17 ^ (12- posN n i):=by
   grind[wN,dQ,CY]
  cases hq:s.Rings.getD (dQ (ah n i) k) []with
  |nil=>simp_all
  |cons y ys=>
   rw[hq]at h2;rw[RF,h3,List.tail_cons,Rq,Ru,Sl]at h2;simp_all<;>omega
def Inv(n:Net)(items:List (List Item))(s:State):Prop:=∃B:Nat,OkS n items B s/\B+muN n items s<=1000000000000000000
theorem Inv.doM (hS:RightS n items)(h:Inv n items s)(hi:i<n.Nodes.length)(hk:k<bK (ah n i))(hc:dg n items s i k=true):Inv n items (doM n items s i k)/\muN n items (Go.Proofs.YtnlmagdmmjkklaaGreat.doM n items s i k)+1<=muN n items s:=by obtain⟨B,ok,hB⟩:=h;have:=mu_do hS ok hi hk hc;refine⟨⟨B+1,do_ok hS ok hi hk hc (by omega) (by omega),by omega⟩,this⟩
theorem Inv.doMv (hS:RightS n items)(h:Inv n items s)(hm:m∈aY n items s):Inv n items (doMv n items s m)/\muN n items (Go.Proofs.YtnlmagdmmjkklaaGreat.doMv n items s m)+1<=muN n items s:=by obtain⟨i,k,rfl,hi,hk,hc⟩:=nJ hm;exact Inv.doM hS h hi hk hc
def bC(n:Net)(items:List (List Item)):State:=⟨List.replicate items.length 0,List.replicate n.Rings.toNat [],List.replicate n.Nodes.length ⟨0,[],0⟩,[],[]⟩
theorem FN (w:Nat->Nat):∀(m k:Nat),wsum w k (List.replicate m [])=0
 |0,k=>rfl
 |m+1,k=>by rw[R4];simp[wsum,FN w m (k+1)]
theorem Ef (L:Nat):∀(ls:U (U Item)) (ps:U Int),(∀l,l∈ls->l.length<=L)->jH ls ps<=L*ls.length
 |[],ps,_=>by simp[jH]
 |l::ls,[],_=>by simp[jH]
 |l::ls,p::ps,h=>by
  have h1:=h l Q8;have h2:=Ef L ls ps λx hx=>h x (Rf _ hx)
  grind[jH,Nat.mul_add]
theorem vO (hS:RightS n items):Inv n items (bC n items):=by
 have hr:∀(r:Nat) (l:U Item),(bC n items).Rings[r]?=some l->l=[]:=λr l h=>by have:=QE h;exact(RW.1 this).2
 refine⟨0,⟨by simp[bC],by have:=hS.r1;simp[bC];omega,by simp[bC],by simp[bC],by simp[bC],λa p hp=>?_,λr l hl=>?_,λr l x hl hx=>?_,λi m hm=>?_,λc hc=>by simp[bC]at hc,λx hx=>by simp[bC]at hx⟩,?_⟩
 .have:=(RW.1 (QE hp)).2;omega
 .rw[hr r l hl];have:=hS.m1;simp;omega
 .grind
 .have:=(RW.1 (QE hm)).2;subst this;refine⟨⟨by simp,λx hx=>(by cases hx),λi j x y _ h=>(by simp at h),by simp⟩,by simp[bC],λy hy=>(by cases hy)⟩
 .have h1:=Ef 20 items (bC n items).At (λl hl=>by
   obtain⟨a,ha⟩:=QL hl;exact hS.l20 a l ha)
  have h2:=hS.l4;grind[muN,bC,FN]
theorem L0 (hS:RightS n items)(hio:∀x∈n.Nodes,x.In.length<=1099511627776/\x.Out.length<=1099511627776):sH n items=some (bC n items):=by
 unfold sH;have h1:=hS.r1;have h2:=hS.r2;have h3:=hS.n2;have h4:=hS.l4;have e1:mk ((items.length:Nat):Int) (0:Int)=some (List.replicate items.length 0):=by unfold mk;grind
 have e2:mk n.Rings ([]:U Item)=some (List.replicate n.Rings.toNat []):=by unfold mk;grind
 have e3:mk ((n.Nodes.length:Nat):Int) (⟨0,[],0⟩:Memory)=some (List.replicate n.Nodes.length ⟨0,[],0⟩):=by unfold mk;grind
 simp only[e1,e2,e3,QB];rfl
def gX(l:List Move)(c:Int):Move:=l.getD (c% l.length).toNat ⟨0,0⟩
theorem yz {l:U Move}(h:l≠[])(c:Int):gX l c∈l/\(c% l.length).toNat<l.length:=by
 have h1:0<l.length:=RE.2 h;have h2:=RN c (show(l.length:Int)≠0 by omega);have h3:=Int.emod_lt_of_pos c (show(0:Int)<l.length by omega);have h4:(c% l.length).toNat<l.length:=by omega
 exact⟨QE (dv _ h4),h4⟩
theorem N2 (c:Int)(m:Nat)(h0:0<m)(h:m<=1000):(rem c m).bind (λx=>(rem (IntKind.i64.wrap (x+m)) m))=some (c% m):=by have h1:=Int.tmod_lt_of_pos c (show(0:Int)<m by omega);have h2:=Int.lt_tmod_of_pos c (show(0:Int)<m by omega);unfold rem;rw[if_neg (by omega),QB,if_neg (by omega),bq (by omega) (by omega)];congr 1;rw[Int.tmod_eq_emod_of_nonneg (by omega),Int.add_emod_right,Int.tmod_eq_emod];split<;>simp[Int.sub_emod_right]
def noS:State:=⟨[],[],[],[],[]⟩
end
end
noncomputable section
def fN{α ρ:Type}(f:Nat->α->Option ρ):Nat->List α->Option ρ
 |_,[]=>none
 |k,x::xs=>match f k x with
  |some r=>some r
  |none=>fN f (k+1) xs
section
variable {α ρ:Type}
theorem qa (xs:U α)(hx:xs.length<=1099511627776)(f:Nat->α->Qbm ρ)(fin:Qbm ρ){body:Int->Qbm (Int⊕ρ)}(h1:∀(k:Nat) (x:α),xs[k]?=some x->k<xs.length->idx xs (k:Int)=some x->decide ((k:Int)<(xs.length:Int))=true->IntKind.i64.wrap ((k:Int)+1)=((k+1:Nat):Int)->body k=match f k x with|some r=>some (.inr r)|none=>some (.inl ((k+1:Nat):Int)))(h2:decide ((xs.length:Int)<(xs.length:Int))=false->body xs.length=fin.map .inr):iter body 0=match fN f 0 xs with|some r=>some r|none=>fin:=by
 have key:∀(m k:Nat),k+m=xs.length->iter body k=match fN f k (xs.drop k)with|some r=>some r|none=>fin:=by
  intro m;induction m with
  |zero=>
   intro k hk;have hk:k=xs.length:=by omega
   subst hk;rw[aF,h2 (by simp),RB];unfold fN;cases fin<;>rfl
  |succ m ih=>
   intro k hk;have hlt:k<xs.length:=by omega
   have hg:xs[k]?=some xs[k]:=QC hlt;rw[aF,h1 k _ hg hlt (bj hg) (by simp;omega) (bc (by omega)),QG hlt];grind[fN]
 have:=key xs.length 0 (by omega)
 grind
theorem nu {f:Nat->α->Qbm ρ}:∀{xs:U α} {k:Nat},fN f k xs=none↔ ∀(j:Nat) (x:α),xs[j]?=some x->f (k+j) x=none
 |[],k=>⟨λ_ j x h=>by simp at h,λ_=>J⟩
 | y::xs,k=>by
  unfold fN;cases hf:f k y with
  |some r=>
   refine⟨λh=>(by cases h),λh=>?_⟩;have:=h 0 y J;grind
  |none=>
   simp only;rw[nu];constructor
   .grind
   .intro h j x hj;have:=h (j+1) x (by grind);grind
def lW(s:State)(l:List Item):Bool:=l.any λx=>decide (x.Dep<0)||decide (x.Dep> (s.Choices.length:Int))
def chkM(m:Memory):Int:=(lG m).getD 0
theorem yM (m:Memory):lG m=some (chkM m)/\(chkM m=0↔okM m):=by obtain⟨c,h1,h2⟩:=xZ m;grind[chkM]
def qk(n:Net)(c:Choice):Bool:=decide (0<=c.Node/\c.Node<n.Nodes.length/\(ah n c.Node.toNat).Kind=6/\0<=c.Lane/\c.Lane<(ah n c.Node.toNat).In.length)
def dI(n:Net)(items:List (List Item))(s:State):Int:=
 if cX n items≠0 then cX n items
 else if s.At.length≠items.length∨(s.Rings.length:Int)≠n.Rings∨s.Memory.length≠n.Nodes.length then 4
 else if 500<s.Choices.length∨2000<s.Out.length then 2
 else(fN (λk (p:Int)=>if p<0∨p> ((items.getD k []).length:Int)then some (3:Int)else none) 0 s.At).getD
  ((fN (λ_ (l:List Item)=>if n.Room<(l.length:Int)then some (2:Int)else if lW s l=true then some 3 else none) 0 s.Rings).getD
  ((fN (λ_ (m:Memory)=>if chkM m≠0 then some (chkM m)else if m.Dep> (s.Choices.length:Int)then some 3 else none) 0 s.Memory).getD
  ((fN (λ_ (c:Choice)=>if qk n c=true then none else some (5:Int)) 0 s.Choices).getD (if lW s s.Out=true then 3 else 0))))
end
section
variable {n:Net} {items:List (List Item)} {B:Int} {s:State}
theorem Ep(s:State)(l:U Item)(hl:l.length<=1099511627776):o6 l s.At s.Rings s.Memory s.Choices s.Out=some (!lW s l):=by
 unfold o6 uJ uK;rw[xC l hl (λx=>decide (x.Dep<0)||decide (x.Dep> (s.Choices.length:Int))) (λk x hx hk h1 h2 h3=>by
  simp_all[ri,uU]) (λh=>by
  simp[ri])]
 rw[QB,De];rfl
theorem Kz(n:Net)(c:Choice):sC n c=some (qk n c):=by
 unfold sC qk;by_cases h0:0<=c.Node
 .rw[if_pos (by grind)];by_cases h1:c.Node<n.Nodes.length
  .have hi:idx n.Nodes c.Node=some (ah n c.Node.toNat):=iT _ h0 h1;grind
  grind
 grind
theorem th(n:Net)(items:U (U Item))(s:State)(hio:∀x∈n.Nodes,x.In.length<=1099511627776/\x.Out.length<=1099511627776)(hr:∀l,l∈s.Rings->l.length<=1099511627776):iC n items s=some (dI n items s):=by
 unfold iC dI;rw[vh n items hio,QB];by_cases h:cX n items=0
 .have hS:=lP h;rw[if_neg (show ¬(cX n items !=0)=true by simp[h]),if_neg (show ¬cX n items≠0 by simp[h])];by_cases hl:s.At.length≠items.length∨(s.Rings.length:Int)≠n.Rings∨s.Memory.length≠n.Nodes.length
  .grind
  .have h1:s.At.length=items.length:=by omega
   have h2:(s.Rings.length:Int)=n.Rings:=by omega
   have h3:s.Memory.length=n.Nodes.length:=by omega
   rw[if_neg hl,if_neg (by simp;omega)];by_cases hm:500<s.Choices.length∨2000<s.Out.length
   .grind
   .rw[if_neg hm,if_neg (by simp;omega)];have h4:=hS.l4;have h5:=hS.r2;have h6:=hS.n2;rw[qa s.At (by omega) (λk (p:Int)=>if p<0∨p> ((items.getD k []).length:Int)then some (3:Int)else none) (iter (λml:Int=>pw n s ml) 0) (λk x hx hk e1 e2 e3=>by
     unfold so;rw[e2,e1,e3];simp only[if_true,QB];have hi:=bj (dv ([]:U Item) (show k<items.length by omega));grind) (λe=>by
     simp[so])]
    rw[qa s.Rings (by omega) (λ_ (l:U Item)=>if n.Room<(l.length:Int)then some (2:Int)else if lW s l=true then some 3 else none) (iter (λjN:Int=>px n s jN) 0) (λk x hx hk e1 e2 e3=>by
     unfold pw;rw[e2,e1,e3];simp only[if_true,QB];rw[Ep s x (hr x (QE hx)),QB];grind) (λe=>by
     simp[pw])]
    rw[qa s.Memory (by omega) (λ_ (m:Memory)=>if chkM m≠0 then some (chkM m)else if m.Dep> (s.Choices.length:Int)then some 3 else none) (iter (λjN:Int=>pu n s jN) 0) (λk x hx hk e1 e2 e3=>by
     unfold px;rw[e2,e1,e3];simp only[if_true,QB];rw[(yM x).1,QB];grind) (λe=>by
     simp[px])]
    rw[qa s.Choices (by omega) (λ_ (c:Choice)=>if qk n c=true then none else some (5:Int)) (some (if lW s s.Out=true then 3 else 0)) (λk x hx hk e1 e2 e3=>by
     unfold pu;rw[e2,e1,e3];simp only[if_true,QB];grind[Kz]) (λe=>by
     unfold pu;rw[e,Ep s s.Out (by omega)];grind)]
    grind
 grind
theorem vi{l:U Item}:lW s l=false↔ ∀x,x∈l->0<=x.Dep/\x.Dep<=s.Choices.length:=by simp[lW]
theorem wI{o:Qbm Int}{z:Int}(h:o.getD z=0)(ho:∀r,o=some r->r≠0):o=none/\z=0:=by
 cases o with
 |none=>grind
 |some r=>grind
theorem sy{α ρ:Type}{f:Nat->α->Qbm ρ}:∀{xs:U α} {k:Nat} {r:ρ},fN f k xs=some r->∃(j:Nat) (x:α),xs[j]?=some x/\f (k+j) x=some r
 |[],k,r,h=>by cases h
 |y::xs,k,r,h=>by
  unfold fN at h;split at h
  .rename_i r' hf;cases h;exact⟨0,y,J,hf⟩
  .obtain⟨j,x,h1,h2⟩:=sy h;exact⟨j+1,x,by grind,by grind⟩
theorem NS(h:dI n items s=0)(hB:∀m,m∈s.Memory->∀y,y∈m.Keys->y.N<=B):OkS n items B s:=by
 unfold dI at h;split at h
 .omega
 .split at h
  .omega
  .split at h
   .omega
   .rename_i h1 h2 h3;obtain⟨e1,h⟩:=wI h (λr hr=>by grind[sy]);obtain⟨e2,h⟩:=wI h (λr hr=>by
     grind[sy])
    obtain⟨e3,h⟩:=wI h (λr hr=>by grind[sy])
    obtain⟨e4,h⟩:=wI h (λr hr=>by grind[sy]);rw[nu]at e1 e2 e3 e4;refine⟨by omega,by omega,by omega,by omega,by omega,λa p hp=>?_,λr l hl=>?_,λr l x hl hx=>?_,λi m hm=>?_,λc hc=>?_,?_⟩
    .grind
    .grind
    .have:=e2 r l hl;split at this
     .cases this
     .split at this
      .cases this
      .rename_i hb;exact vi.1 (Bool.eq_false_iff.2 hb) x hx
    .have:=e3 i m hm;split at this
     .cases this
     .rename_i hb;split at this
      .cases this
      .exact⟨(yM m).2.1 (Decidable.not_not.1 hb),by omega,hB m (QE hm)⟩
    .obtain⟨j,hj⟩:=QL hc;have:=e4 j c hj;split at this
     .rename_i hb;unfold qk at hb;unfold vX;grind
     .cases this
    .split at h
     .omega
     .rename_i hb;exact vi.1 (Bool.eq_false_iff.2 hb)
theorem wU(hsrc:cX n items=0)(ok:OkS n items B s):dI n items s=0:=by
 unfold dI;have h1:=ok.at_;have h2:=ok.rg;have h3:=ok.mm;have h4:=ok.ch;have h5:=ok.out;rw[if_neg (by omega),if_neg (by omega),if_neg (by omega)];rw[nu.2 (λj p hp=>by have:=ok.atP j p hp;grind),nu.2 (λr l hl=>by
  have:=ok.room r l hl;rw[if_neg (by omega),if_neg (by rw[vi.2 (λx hx=>ok.depR r l x hl hx)];decide)]),nu.2 (λi m hm=>by
  have:=ok.mem i m hm;simp_all[yM]),nu.2 (λj c hc=>by
  have:=ok.cho c (QE hc);simp_all[qk,vX])]
 show(if lW s s.Out=true then 3 else 0)=(0:Int)
 rw[if_neg (by rw[vi.2 ok.depO];decide)]
theorem yd{α:Type}{l:U α}{k:Nat}{a:α}(h:l[k]?=some a):l.set k a=l:=by grind[List.set_getElem_self]
theorem Ml(s:State)(h1:s.At.length<=1099511627776)(h2:s.Rings.length<=1099511627776)(h3:s.Memory.length<=1099511627776)(h4:s.Choices.length<=1099511627776)(h5:s.Out.length<=1099511627776)
  (h6:∀l,l∈s.Rings->l.length<=1099511627776) (h7:∀m,m∈s.Memory->m.Keys.length<=1099511627776):lS s=some s:=by
 have cl:∀{α:Type} (l:U α),l.length<=1099511627776->app [] l=some l:=λl hl=>by grind[bT]
 have l1:∀(m k:Nat),k+m=s.Memory.length->iter (λGD:Int×(U Memory)=>nr s s.At s.Rings s.Memory GD.1 GD.2) ((k:Int),s.Memory)=some s:=by
  intro m;induction m with
  |zero=>
   simp_all[nr,oY,em,aF]
  |succ m ih=>
   intro k hk;have hlt:k<s.Memory.length:=by omega
   have hg:s.Memory[k]?=some s.Memory[k]:=QC hlt;have e:nr s s.At s.Rings s.Memory (k:Int) s.Memory=some (.inl (((k+1:Nat):Int),s.Memory)):=by unfold nr ki lq;rw[if_pos (by simp;omega),dL hlt,QB,hg,QB,cl _ (h7 _ (QU hlt)),QB,QB,QB,hg,QB,bc (by omega),yd hg]
   rw[aF];simp only[e];exact ih (k+1) (by omega)
 have l2:∀(m k:Nat),k+m=s.Rings.length->iter (λjb:Int×(U (U Item))=>lz s s.At s.Rings jb.1 jb.2) ((k:Int),s.Rings)=some s:=by
  intro m;induction m with
  |zero=>
   intro k hk;have hk:k=s.Rings.length:=by omega
   subst hk;have e:lz s s.At s.Rings (s.Rings.length:Int) s.Rings=some (.inr s):=by unfold lz uX;have:=l1 s.Memory.length 0 (by omega);grind
   grind[aF]
  |succ m ih=>
   intro k hk;have hlt:k<s.Rings.length:=by omega
   have hg:s.Rings[k]?=some s.Rings[k]:=QC hlt;have e:lz s s.At s.Rings (k:Int) s.Rings=some (.inl (((k+1:Nat):Int),s.Rings)):=by unfold lz em;rw[if_pos (by simp;omega),dL hlt,QB,hg,QB,cl _ (h6 _ (QU hlt)),QB,QB,hg,QB,bc (by omega),yd hg]
   grind[aF]
 unfold lS jj uI
 rw[cl _ h1,QB,cl _ h2,QB]
 have:=l2 s.Rings.length 0 (by omega)
 omega
theorem Fk(hS:RightS n items)(ok:OkS n items B s):lS s=some s:=by
 have h1:=ok.at_;have h2:=ok.rg;have h3:=ok.mm;have h4:=ok.ch;have h5:=ok.out;have h6:=hS.l4;have h7:=hS.r2;have h8:=hS.n2;have h9:=hS.m2;refine Ml s (by omega) (by omega) (by omega) (by omega) (by omega) (λl hl=>?_) (λm hm=>?_)
 .obtain⟨r,hr⟩:=QL hl;have:=ok.room r l hr;omega
 .obtain⟨i,hi⟩:=QL hm;have:=(ok.mem i m hi).1.len;omega
end
theorem G9(a b:U Choice)(ha:a.length<=1099511627776):rG a b=some (decide (a=b)):=by
 unfold rG;by_cases hl:a.length=b.length
 .rw[if_neg (by simp;omega)];grind[lO,uP]
 .rw[if_pos (by simp;omega)];have:a≠b:=λe=>hl (by rw[e])
  simp[this]
theorem Hm(a b:U Item)(ha:a.length<=1099511627776):rS a b=some (decide (a=b)):=by
 unfold rS;by_cases hl:a.length=b.length
 .rw[if_neg (by simp;omega)];grind[lO,uT]
 .rw[if_pos (by simp;omega)];have:a≠b:=λe=>hl (by rw[e])
  simp[this]
theorem JG:u4=some meetN:=rfl
theorem Ox:vn=some twoN:=rfl
end
section
section
variable {n:Net} {items:List (List Item)} {B:Int} {s:State}
def EG(l:List Choice)(i:Nat):List Int:=(l.filter λc=>decide (c.Node=(i:Int))).map Choice.Lane
end
end
def zz(n:Int):Nat:=if 0<=n then(2*n).toNat else(-2*n- 1).toNat
theorem zz_lt{n:Int}(h:gI n):zz n<18446744073709551616:=by grind[gI,zz]
def vb:Nat->Nat->List UInt8
 |0,u=>[UInt8.ofNat u]
 |f+1,u=>if u<128 then[UInt8.ofNat u]else UInt8.ofNat (u% 128+128)::vb f (u/ 128)
def num(n:Int):List UInt8:=vb 9 (zz n)
theorem FR:∀(f u:Nat),(vb f u).length<=f+1/\1<=(vb f u).length
 |0,u=>by simp[vb]
 |f+1,u=>by unfold vb;have:=FR f (u/ 128);grind
theorem gh(n:Int):(num n).length<=10/\1<=(num n).length:=FR 9 _
def lst{α:Type}(e:α->List UInt8)(l:List α):List UInt8:=num (l.length:Int)++l.flatMap e
def bR(x:Item):List UInt8:=num x.Key++(num x.Val++num x.Dep)
def ia(x:Keyed):List UInt8:=num x.Key++num x.N
def dY(x:Memory):List UInt8:=num x.Sum++(num x.Dep++lst ia x.Keys)
def dj(x:Choice):List UInt8:=num x.Node++num x.Lane
def bI(x:State):List UInt8:=lst num x.At++(lst (lst bR) x.Rings++(lst dY x.Memory++(lst dj x.Choices++lst bR x.Out)))
abbrev short{α:Type}(ok:α->Prop)(l:List α):Prop:=l.length<=1099511627776/\∀a,a∈l->ok a
def sMem(x:Memory):Prop:=gI x.Sum/\gI x.Dep/\short od x.Keys
def ob(x:State):Prop:=short gI x.At/\short (short dW) x.Rings/\short sMem x.Memory/\short nT x.Choices/\short dW x.Out
section
theorem L2 (a b:Nat)(ha:a<9223372036854775808)(hb:b<9223372036854775808):ibits .and .i64 (a:Int) (b:Int)=((a &&& b:Nat):Int):=by have hx:a &&& b<2 ^ 63:=Nat.lt_of_le_of_lt Nat.and_le_left (by omega);show IntKind.i64.wrap ((BitVec.ofInt 64 (a:Int) &&& BitVec.ofInt 64 (b:Int)).toNat:Int)=_;grind[bq]
theorem ER (a b:Nat)(ha:a<9223372036854775808)(hb:b<9223372036854775808):ibits .or .i64 (a:Int) (b:Int)=((a ||| b:Nat):Int):=by
 have hx:a ||| b<2 ^ 63:=Nat.or_lt_two_pow (by omega) (by omega)
 show IntKind.i64.wrap ((BitVec.ofInt 64 (a:Int) ||| BitVec.ofInt 64 (b:Int)).toNat:Int)=_;grind[bq]
theorem yk (a b:Nat)(ha:a<9223372036854775808)(hb:b<9223372036854775808):ibits .xor .i64 (a:Int) (b:Int)=((a ^^^ b:Nat):Int):=by have hx:a ^^^ b<2 ^ 63:=Nat.xor_lt_two_pow (by omega) (by omega);show IntKind.i64.wrap ((BitVec.ofInt 64 (a:Int) ^^^ BitVec.ofInt 64 (b:Int)).toNat:Int)=_;grind[bq]
def crc1(n:Nat):Nat:=if(n*2) &&& 65536≠0 then(n*2) ^^^ 69665 else n*2
def crcN:Nat->Nat->Nat
 |0,n=>n
 |k+1,n=>crcN k (crc1 n)
def crcB(n:Nat)(b:UInt8):Nat:=crcN 8 (n ^^^ (b.toNat*256))
def crc(l:List UInt8):Nat:=l.foldl crcB 65535
theorem FU (q r q' r':Nat)(hr:r<65536)(hr':r'< 65536):(65536*q+r) &&& (65536*q'+ r')=65536*(q &&& q')+(r &&& r'):=by
 have hrr:r &&& r'< 2 ^ 16:=Nat.lt_of_le_of_lt Nat.and_le_left hr;apply Nat.eq_of_testBit_eq;intro i;have e:(65536:Nat)=2 ^ 16:=by decide
 rw[e]at hr hr' ⊢;rw[Nat.testBit_and,Rp _ hr,Rp _ hr',Rp _ hrr];grind
theorem NO (q r q' r':Nat)(hr:r<65536)(hr':r'< 65536):(65536*q+r) ^^^ (65536*q'+ r')=65536*(q ^^^ q')+(r ^^^ r'):=by
 have hrr:r ^^^ r'< 2 ^ 16:=Nat.xor_lt_two_pow (n:=16) (by omega) (by omega);apply Nat.eq_of_testBit_eq;intro i;have e:(65536:Nat)=2 ^ 16:=by decide
 rw[e]at hr hr' ⊢;rw[Nat.testBit_xor,Rp _ hr,Rp _ hr',Rp _ hrr];grind
theorem Dh {a b:Nat}(ha:a<65536)(hb:b<65536):a ^^^ b<65536:=Nat.xor_lt_two_pow (n:=16) ha hb
section
variable {b:UInt8}{n k x:Nat}
theorem MT (h:n<32768):crc1 n=n*2:=by
 have e:(n*2) &&& 65536=0:=by have:=FU 0 (n*2) 1 0 (by omega) (by omega);grind
 grind[crc1]
theorem MD (h:32768<=n)(h':n<65536):crc1 n=(n*2- 65536) ^^^ 4129:=by
 have e:n*2=65536*1+(n*2- 65536):=by omega
 have e1:(n*2) &&& 65536=65536:=by have:=FU 1 (n*2- 65536) 1 0 (by omega) (by omega);grind
 have e2:=NO 1 (n*2- 65536) 1 4129 (by omega) (by omega);rw[<- e]at e2;unfold crc1;grind
theorem EM (h:n<65536):crc1 n<65536:=by grind[MT,MD,Dh]
theorem MQ (h:n<65536):crcN k n<65536:=by
 induction k generalizing n with
 |zero=>exact h
 |succ k ih=>exact ih (EM h)
theorem EC (h:n<65536):n ^^^ (b.toNat*256)<65536:=Dh h (by have:=b.toNat_lt;omega)
theorem yI (h:n<65536):crcB n b<65536:=MQ (EC h)
theorem MP (l:U UInt8):∀{n:Nat},n<65536->l.foldl crcB n<65536:=by
 induction l with
 |nil=>simp
 |cons b l ih=>grind[yI]
theorem ze (l:U UInt8):crc l<65536:=MP l (by decide)
theorem tJ (h:n<9223372036854775808):IntKind.i64.wrap (n:Int)=(n:Int):=bq (by omega) (by omega)
theorem fM (c:UInt8):IntKind.i64.wrap (c.toNat:Int)=(c.toNat:Int):=tJ (by have:=c.toNat_lt;omega)
theorem wO (n:Nat):IntKind.u8.wrap (n:Int)=((n% 256:Nat):Int):=by rfl
theorem str_1 (n:Nat):cq [IntKind.u8.wrap (n:Int)]=[UInt8.ofNat n]:=by unfold cq;rw[wO];simp only[Re,List.map_nil,Q1];congr 1;exact UInt8.toNat_inj.1 (by simp)
theorem str_2 (n m:Nat):cq [IntKind.u8.wrap (n:Int),IntKind.u8.wrap (m:Int)]=[UInt8.ofNat n,UInt8.ofNat m]:=by have h1:=str_1 n;have h2:=str_1 m;simp_all[cq]
theorem shl_n (hk:k<=64)(h:x*2 ^ k<9223372036854775808):shl .i64 (x:Int) (k:Int)=some ((x*2 ^ k:Nat):Int):=by
 unfold shl;rw[if_pos (by omega)];have e:min (k:Int).toNat IntKind.i64.bits=k:=by have:IntKind.i64.bits=64:=rfl;omega
 rw[e];congr 1;have:((x:Int)*2 ^ k)=((x*2 ^ k:Nat):Int):=by rfl
 rw[this,tJ h]
theorem shr8 (h:x<9223372036854775808):shr .i64 (x:Int) 8=some ((x/ 256:Nat):Int):=by unfold shr;rw[if_pos (by omega)];have e:min (8:Int).toNat IntKind.i64.bits=8:=rfl;grind
theorem Cl (s2:Int):∀(n j x:Nat),j+n=8->x<65536->iter (λss:Int×Int=>lE s2 ss.1 ss.2) ((x:Int),(j:Int))=some (.inl (((crcN n x:Nat):Int),IntKind.i64.wrap (s2+1)))
 |0,j,x,hj,hx=>by
  have e:lE s2 (x:Int) (j:Int)=some (.inr (.inl ((x:Int),IntKind.i64.wrap (s2+1)))):=by simp_all[lE]
  rw[aF];simp only[e];rfl
 |n+1,j,x,hj,hx=>by
  have h1:shl .i64 (x:Int) 1=some ((x*2:Nat):Int):=by have:=shl_n (x:=x) (k:=1) (by omega) (by omega);omega
  have ha:ibits .and .i64 ((x*2:Nat):Int) 65536=(((x*2) &&& 65536:Nat):Int):=L2 (x*2) 65536 (by omega) (by decide);have hb:ibits .xor .i64 ((x*2:Nat):Int) 69665=(((x*2) ^^^ 69665:Nat):Int):=yk (x*2) 69665 (by omega) (by decide);have e:lE s2 (x:Int) (j:Int)=some (.inl (((crc1 x:Nat):Int),((j+1:Nat):Int))):=by unfold lE;rw[if_pos (by simp;omega),h1];simp only[QB];rw[ha,hb,bc (by omega)];unfold crc1;grind
  rw[aF];simp only[e];exact Cl s2 n (j+1) (crc1 x) (by omega) (EM hx)
theorem Bm (b:U UInt8)(hb:b.length<=1099511627776):pP b=some ((crc b:Nat):Int):=by
 unfold pP;have:=nK (σ:=Fin 65536) b hb (λk st=>((st.val:Int),(k:Int))) (body:=λss:Int×Int=>nk b ss.1 ss.2)
  (λk x st=>some (.inl ⟨crcB st.val x,yI st.isLt⟩)) (λst=>some (st.val:Int)) ⟨65535,by decide⟩
  (λk x st _ hk h1 h2 h3=>by
   show nk b (st.val:Int) (k:Int)=_;unfold nk;rw[h2,h1];simp only[if_true,QB,fM];have hx:=x.toNat_lt;have hst:=st.isLt;have h4:shl .i64 (x.toNat:Int) 8=some ((x.toNat*256:Nat):Int):=by have:=shl_n (x:=x.toNat) (k:=8) (by omega) (by omega);omega
   rw[h4];simp only[QB];rw[yk _ _ (by omega) (by omega)];have:=Cl (k:Int) 8 0 (st.val ^^^ x.toNat*256) (by omega) (EC st.isLt);rw[h3]at this;exact this)
  (λst h=>by simp[nk])
 refine Eq.trans this ?_;have fold:∀(ys:U UInt8) (k:Nat) (st:Fin 65536),d9 (σ:=Fin 65536) (ρ:=Int) (λk x st=>some (.inl ⟨crcB st.val x,yI st.isLt⟩)) (λst=>some (st.val:Int)) k ys st=some ((ys.foldl crcB st.val:Nat):Int):=by
  intro ys;induction ys with
  |nil=>intro k st;rfl
  |cons y ys ih=>grind[d9]
 rw[fold];rfl
def frm(b:List UInt8):List UInt8:=UInt8.ofNat b.length::b++[UInt8.ofNat (crc (UInt8.ofNat b.length::b)/ 256),UInt8.ofNat (crc (UInt8.ofNat b.length::b))]
def putFr(b:List UInt8):List UInt8×Int:=if b=[]then([],4)else if 60<b.length then([],2)else(frm b,0)
theorem vp (b:U UInt8):pV b=some (putFr b):=by
 unfold pV putFr;by_cases h1:b=[]
 .grind
 rw[if_neg (by grind),if_neg h1];by_cases h2:60<b.length
 .grind
 rw[if_neg (by simp;omega),if_neg h2,str_1,nW (by simp;omega)];simp only[QB,Sh];grind[Bm,ze,shr8,str_2,nW,frm]
def iR(r:List UInt8):Option (List UInt8):=
 match r with
 |[]=>none
 |h::t=>
  if h.toNat<1∨60<h.toNat∨t.length+1<h.toNat+3 then none
  else if(t.getD h.toNat 0).toNat*256+(t.getD (h.toNat+1) 0).toNat≠crc (h::t.take h.toNat)then none
  else some (t.take h.toNat)
def records:Nat->List UInt8->List (List UInt8)×Nat
 |0,_=>([],0)
 |n+1,r=>
  match iR r with
  |none=>([],0)
  |some p=>(p::(records n (r.drop (p.length+3))).1,p.length+3+(records n (r.drop (p.length+3))).2)
def readR(b:List UInt8):List (List UInt8)×Int×Int:=
 if 12800<b.length then([],0,2)else((records b.length b).1,((records b.length b).2:Int),0)
theorem A3 (b:U UInt8):pH b=some (readR b):=by
 unfold pH readR;by_cases h0:12800<b.length
 .grind
 rw [if_neg (by simp;omega),if_neg h0];have key:∀(n u:Nat) (acc:U (U UInt8)),u<=b.length->acc.length<=u->b.length<=u+n ->
   iter (λss:Int×U (U UInt8)=>hM b ss.1 ss.2) ((u:Int),acc)=some (acc++(records n (b.drop u)).1,((u+(records n (b.drop u)).2:Nat):Int),0):=by
  intro n
  induction n with
  |zero=>
   simp_all[hM,if_neg,aF,records]
  | succ n ih=>
   intro u acc hu ha hn
   have stop:iR (b.drop u)=none->hM b (u:Int) acc=some (.inr (acc,(u:Int),0))->iter (λss:Int×U (U UInt8)=>hM b ss.1 ss.2) ((u:Int),acc)=some (acc++(records (n+1) (b.drop u)).1,((u+(records (n+1) (b.drop u)).2:Nat):Int),0):=by grind[aF,records]
   by_cases hlt:u<b.length
   .have hr:b.drop u=b[u]::b.drop (u+1):=QG hlt
    generalize hc:b[u]=c at hr
    generalize ht:b.drop (u+1)=t at hr
    have hlen:t.length+1+u=b.length:=by grind
    have hcl:=c.toNat_lt
    have w1:IntKind.i64.wrap ((c.toNat:Int)+1)=((c.toNat+1:Nat):Int):=by grind[bq]
    have w2:IntKind.i64.wrap ((c.toNat:Int)+2)=((c.toNat+2:Nat):Int):=by grind[bq]
    have w3:IntKind.i64.wrap ((c.toNat:Int)+3)=((c.toNat+3:Nat):Int):=by grind[bq]
    have e1:sub b (u:Int) (b.length:Int)=some (c::t):=by rw[jx hu,hr]
    have e2:idx (c::t) 0=some c:=by simp[idx]
    rw[hr]at stop⊢
    by_cases hbad:c.toNat<1∨60<c.toNat∨t.length+1<c.toNat+3
    .refine stop (by simp_all[iR]) ?_
     unfold hM
     rw[if_pos (by simp;omega),e1]
     simp only[QB]
     rw[e2]
     simp only[QB,fM,w1,w2,w3]
     grind
    have e3:sub (c::t) 0 ((c.toNat+1:Nat):Int)=some (c::t.take c.toNat):=by rw[sub_0 (by simp;omega)];simp
    have e4:sub (c::t) 1 ((c.toNat+1:Nat):Int)=some (t.take c.toNat):=by have:=qr (xs:=c::t) (i:=1) (j:=c.toNat+1) (by omega) (by simp;omega);grind
    have hs:=Bm (c::t.take c.toNat) (by simp;omega)
    have hcs:=ze (c::t.take c.toNat)
    have hx:∃x,t[c.toNat]?=some x:=⟨_,QC (by omega)⟩
    have hy:∃y,t[c.toNat+1]?=some y:=⟨_,QC (by omega)⟩
    obtain⟨x,hx⟩:=hx
    obtain⟨y,hy⟩:=hy
    have ix:idx (c::t) ((c.toNat+1:Nat):Int)=some x:=bj (by grind)
    have iy:idx (c::t) ((c.toNat+2:Nat):Int)=some y:=bj (by grind)
    have hxl:=x.toNat_lt
    have hyl:=y.toNat_lt
    have h8:shl .i64 (x.toNat:Int) 8=some ((x.toNat*256:Nat):Int):=by have:=shl_n (x:=x.toNat) (k:=8) (by omega) (by omega);omega
    have hor:x.toNat*256 ||| y.toNat=x.toNat*256+y.toNat:=by have:=Nat.two_pow_add_eq_or_of_lt (i:=8) (b:=y.toNat) hyl x.toNat;grind
    have hx':t.getD c.toNat 0=x:=by grind
    have hy':t.getD (c.toNat+1) 0=y:=by grind
    by_cases hsum:x.toNat*256+y.toNat=crc (c::t.take c.toNat)
    .have hsome:iR (c::t)=some (t.take c.toNat):=by simp_all[iR]
     have hp:(t.take c.toNat).length=c.toNat:=by simp;omega
     have e:hM b (u:Int) acc=some (.inl (((u+(c.toNat+3):Nat):Int),acc++[t.take c.toNat])):=by unfold hM;rw[if_pos (by simp;omega),e1];simp only[QB];rw[e2];simp only[QB,fM,w1,w2,w3];rw[if_neg (by simp;omega),e3];simp only[QB];rw[hs];simp only[QB];rw[ix];simp only[QB,fM];rw[h8];simp only[QB];rw[iy];simp only[QB,fM];rw[ER _ _ (by omega) (by omega),hor,if_neg (by simp[hsum]),e4];grind[bT,tJ]
     rw[aF];simp only[e]
     have hdrop:(c::t).drop (c.toNat+3)=b.drop (u+(c.toNat+3)):=by grind[List.drop_drop]
     rw[ih (u+(c.toNat+3)) (acc++[t.take c.toNat]) (by omega) (by simp;omega) (by omega)]
     grind[records]
    .refine stop (by simp_all[iR]) ?_
     unfold hM
     rw[if_pos (by simp;omega),e1]
     simp only[QB]
     rw[e2]
     simp only[QB,fM,w1,w2,w3]
     rw[if_neg (by simp;omega),e3]
     simp only[QB]
     rw[hs]
     simp only[QB]
     rw[ix]
     simp only[QB,fM]
     rw[h8]
     simp only[QB]
     rw[iy]
     simp only[QB,fM]
     rw[ER _ _ (by omega) (by omega),hor,if_pos (by simp;omega)];rfl
   .have hnil:b.drop u=[]:=Q9 (by omega)
    refine stop (by rw[hnil];rfl) ?_
    unfold hM
    grind
 have:=key b.length 0 [] (by omega) (by simp) (by omega);grind
theorem Hf (a b:U (U UInt8))(ha:a.length<=1099511627776):rF a b=some (decide (a=b)):=by
 unfold rF;by_cases hl:a.length=b.length
 .rw[if_neg (by simp;omega)];grind[lO,uO]
 .rw[if_pos (by simp;omega)];have:a≠b:=λe=>hl (by rw[e])
  simp[this]
theorem NI (k:Int)(n:Nat)(hn:0<n)(hn':n<=1099511627776):sB k (n:Int)=some (k% (n:Int)):=by
 unfold sB rem;have e:=Int.tmod_eq_emod (a:=k) (b:=(n:Int));have h1:=RN k (by omega:(n:Int)≠0);have h2:=Int.emod_lt_of_pos k (by omega:(0:Int)<n);rw[if_neg (by omega)];simp only[QB];rw[e];by_cases hc:0<=k∨(n:Int) ∣ k
 .grind
 .rw[if_neg hc,if_pos (by simp;omega),bq (by omega) (by omega)];congr 1;simp
end
end
end Go.Proofs.YtnlmagdmmjkklaaGreat
