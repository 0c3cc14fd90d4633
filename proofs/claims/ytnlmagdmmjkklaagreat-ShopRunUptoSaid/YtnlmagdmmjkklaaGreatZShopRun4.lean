/-
  Part 4 of the proof of shopRunLaw.proved: the code computes these functions, and the law holds of them, with no condition beyond the statement's own; put together by a program of ours (wip/decl.py) out of texts of ours.
-/
import Derived.Recover
import Derived.Shelf.Strings.Builder1
import Derived.Lib.Builder
import Derived.Laws.Externs
import Derived.Deep.QuietTactic
import Derived.Sort.LotA
import Derived.Sort.Row
import Derived.Tactics
import Derived.Tactics2
import Derived.Shelf.GgSortFunc.SmallK
import Derived.Shelf.GgSortFunc.Tiny
import Derived.Test.YtnlmagdmmjkklaaGreatZShopRun3
set_option linter.unusedVariables false
set_option linter.unusedSimpArgs false
namespace Go.Proofs.YtnlmagdmmjkklaaGreat
section
open Go.RowKit
set_option maxRecDepth 100000
set_option maxHeartbeats 4000000
set_option synthInstance.maxSize 100000
set_option synthInstance.maxHeartbeats 4000000
section
variable {p0 p1 p2 p3 p12 p13 p14 p15 p16:Int}{p4 p6:U (U Item)}{p5:U Int}{p7:U Memory}{r p17:Bool}{p8:U Choice}{p9 p18:U Item}{p10:U (U UInt8)}{p11:U Write}
theorem HY {p0:Net}{p1:U (U Item)}{p2:Move}{p3:U Int}{p5:U Memory}{p6:U Choice}{p7:U Item}{r:(U Int)×(U (U Item))×(U Memory)×(U Choice)×(U Item)}(h:pn p0 p1 p2 p3 p4 p5 p6 p7=some r):FnX Qbl 125 [.agg (aD p0),sL (ak aa) p1,.ptr 0 0,.agg (aV p2)] [.box [.ref 1,.ref 2,.ref 3,.ref 4,.ref 5],aR 3 1 aj p3,aR 30 1 (ak aa) p4,aR 84 3 aq p5,aR 50 2 an p6,aR 75 3 aa p7] (.tup []) [.box [.ref 1,.ref 2,.ref 3,.ref 6,.ref 7],aR 3 1 aj r.1,aR 30 1 (ak aa) r.2.1,aR 84 3 aq r.2.2.1,.dead,.dead,aR 50 2 an r.2.2.2.1,aR 75 3 aa r.2.2.2.2]:=by
 unfold pn at h;refine fT 6 0 Tryz.func125 Tryz.ntmps125 J ?_;refine mO 0 4 5 6 (mO 0 3 4 7 (B h λx2 hx2 h=>(X 11 8 (sQ (aB Sw (λ_=>J) J J hx2 (B h λx4 hx4 h=>(Y 5 10 (T.drawn mixed (k:=13) J ?_))))))));apply Su 2 (bm 13 2047);intro hS1
 .refine rq [1,2,3] 10 (rL [0,6,7,8,9,11,12] 0 J (rL [4,6,7,8,9,11,12] 4 J (rL [5,6,7,8,9,11,12] 5 J (ra2 6 10 ?_ ?_))))
  .exact oO J (cF (xB hx4) ⟨J,(rq [7,8,9] 3 (ra1 10 (og 11 ⟨J,(raE hS1)⟩)))⟩)
  .exact og 11 ⟨J,(ra1 6 (oO J (cF (xB hx4) ⟨J,(rq [7,8,9] 2 (raT hS1))⟩)))⟩
 refine ra1 11 (og 12 ⟨J,(rq [12] 0 (RA.done (by decide+kernel) (jn (Z:=(U Int)×(U (U Item))) (λf7=>mkA 162 [(2,.ptr 0 0),(4,.ptr 6 0),(7,.ptr 7 0),(8,.ptr 8 0),(9,.ptr 9 0)]) (λf7=>[.box [.ref 1,.ref 2,.ref 3,.ref 10,.ref 11],aR 3 1 aj f7.1,aR 30 1 (ak aa) f7.2,aR 84 3 aq p5,.dead,.dead,.box (aD p0),.box (aV p2),.box (ao x2),.box (aa x4.1),aR 50 2 an p6,aR 75 3 aa p7]) (λf7=>m6 p0 p2 x2 x4 p5 p6 p7 f7.1 f7.2=some r) (λf7 h=>?_) (λhK4=>?_))))⟩)
 .obtain⟨z16,z17⟩:=f7;replace h:m6 p0 p2 x2 x4 p5 p6 p7 z16 z17=some r:=h;try dsimp only
  unfold m6 at h;refine B h λx19 cM h=>(X 4 12 (sO (cD (By cM) ⟨J,(Y 2 12 (jn (Z:=Int×(U Choice)) (λmu=>mkA 162 [(2,.ptr 0 0),(4,.ptr 6 0),(7,.ptr 7 0),(8,.ptr 8 0),(9,.ptr 9 0),(11,sL aj x19)]) (λmu=>[.box [.ref 1,.ref 2,.ref 3,.ref 10,.ref 11],aR 3 1 aj z16,aR 30 1 (ak aa) z17,aR 84 3 aq p5,.dead,.dead,.box (aD p0),.box (aV p2),.box (ao x2),.box [iI x4.1.Key,iI x4.1.Val,iI mu.1],aR 50 2 an mu.2,aR 75 3 aa p7]) (λmu=>mZ p0 p2 x2 x4 p5 p7 z16 z17 x19 mu.1 mu.2=some r) (λmu h=>?_) (λhK3=>?_)))⟩)))
  .obtain⟨z22,z23⟩:=mu;replace h:mZ p0 p2 x2 x4 p5 p7 z16 z17 x19 z22 z23=some r:=h;try dsimp only
   unfold mZ at h;refine B h λx29 Ah h=>(B h λx30 f8 h=>(B h λx31 jd h=>(B h λx32 jR h=>(B h λx33 qZ h=>(X 1 12 (T.drawn mixed (k:=27) J ?_))))))
   apply Su 2 (bm 27 33554431);intro jP;apply Su 4 (bm 27 16777183);intro fe;apply Su 8 (bm 27 524287);intro kX;apply Su 9 (bm 27 524255);intro oG;apply Su 9 (bm 27 524279);intro ur;apply Su 9 (bm 27 393215);intro mz
   .refine rq [0,1,2,4,6,8,10,11,12,14] 17 (rL [7,19,20,21,22,23,24,25,26] 7 J (rL [9,19,20,21,22,23,24,25,26] 9 J (rL [13,16,17,19,20,21,22,23,24,25,26] 13 J (rL [15,16,17,19,20,21,22,23,24,25,26] 15 J (r0 16 J (aK (en:=aq) SE J J J Ah (rL [18,19,20,21,22,23,24,25,26] 18 J (ra3 3 5 17 ?_ ?_ ?_))))))))
    .refine og 12 ⟨J,(ra2 5 17 ?_ ?_)⟩
     .exact og 12 ⟨J,(raE mz)⟩
     .exact oO J (aU (en:=aq) (a:=x30) J J f8 (eM S6 SY J (cs:=(aq x30)) J (raE oG)))
    .refine og 12 ⟨J,(ra2 3 17 ?_ ?_)⟩
     .exact og 12 ⟨J,(raT mz)⟩
     .exact oO J (aU (en:=aq) (a:=x30) J J f8 (eM S6 SY J (cs:=(aq x30)) J (raE ur)))
    .refine oO J (aU (en:=aq) (a:=x30) J J f8 (eM S6 SY J (cs:=(aq x30)) J (ra3 3 5 19 ?_ ?_ ?_)))
     .exact og 12 ⟨J,(raT oG)⟩
     .exact og 12 ⟨J,(raT ur)⟩
     .exact oO J (cD (lA jd) ⟨J,(rq [20,21,22,23] 5 (rL [3,24,25,26] 3 J (raE fe)))⟩)
   .exact ra1 17 (oO J (aU (en:=aq) (a:=x30) J J f8 (eM S6 SY J (cs:=(aq x30)) J (raE kX))))
   .refine ra2 3 19 ?_ ?_
    .exact og 12 ⟨J,(raT kX)⟩
    .exact oO J (cD (lA jd) ⟨J,(rq [20,21,22,23] 4 (ra1 3 (og 12 ⟨J,(r0 24 J (aK (en:=aq) SE J J J jR (raE jP)))⟩)))⟩)
   .refine ra2 5 19 ?_ ?_
    .exact og 12 ⟨J,(raT kX)⟩
    .exact oO J (cD (lA jd) ⟨J,(rq [20,21,22,23] 4 (raT fe))⟩)
   .exact ra1 19 (oO J (cD (lA jd) ⟨J,(rq [20,21,22,23] 3 (r0 24 J (aK (en:=aq) SE J J J jR (raT jP))))⟩))
   .exact ra1 5 (og 12 ⟨J,(r0 24 J (aK (en:=aq) SE J J J jR (raT jP)))⟩)
   refine ra1 25 (oO J (eK (en:=aq) (a:=x33) (a':=x31.1) SY Tv J (vs:=[iI x31.1.Sum,sL aH x31.1.Keys,iI x31.1.Dep]) J J J qZ J J J (ra1 26 (og 12 ⟨J,(RA.done (by decide+kernel) (jn (Z:=U Item) (λeG=>mkA 162 [(2,.ptr 0 0),(4,.ptr 6 0),(9,.ptr 7 0),(11,sL aj x19)]) (λeG=>[.box [.ref 1,.ref 2,.ref 3,.ref 8,.ref 9],aR 3 1 aj z16,aR 30 1 (ak aa) z17,aR 84 3 aq (List.set p5 x32 x31.1),.dead,.dead,.box (aD p0),.box (aa x31.2.1),aR 50 2 an z23,aR 75 3 aa eG]) (λeG=>pb p0 p5 z16 z17 x19 z23 x31 x32 eG=some r) (λeG h=>?_) (λhK2=>?_)))⟩))))
   .revert h;revert eG;intro z35 h;replace h:pb p0 p5 z16 z17 x19 z23 x31 x32 z35=some r:=h;try dsimp only
    unfold pb at h;refine X 3 10 (sQ (ai Sx J (Y 3 10 (itr (λmq:Int×(U (U Item))=>mkA 162 [(2,.ptr 0 0),(4,.ptr 6 0),(9,.ptr 7 0),(135,sL aj x19),(136,iI ((x19).length:Int)),(137,iI mq.1)]) (λmq=>[.box [.ref 1,.ref 2,.ref 3,.ref 8,.ref 9],aR 3 1 aj z16,aR 30 1 (ak aa) mq.2,aR 84 3 aq (List.set p5 x32 x31.1),.dead,.dead,.box (aD p0),.box (aa x31.2.1),aR 50 2 an z23,aR 75 3 aa z35]) h (wk [] [0,1,2,3,4,5,6,7,8,9] 10 J) (λmq v_39 h P5=>?_)))));obtain⟨s36,s37⟩:=mq;replace h:m8 p0 p5 z16 x19 z23 x31 x32 z35 s36 s37=some v_39:=h;try dsimp only
    unfold m8 at h;refine X 5 10 (Sv h J (λkW h=>?_) (λkW h=>?_))
    .refine B h λx39 Qt h=>(X 5 10 (sQ (aB Sx (λ_=>J) J J Qt (B h λx40 ux h=>(B h λx41 qN h=>(B h λx42 jO h=>(B h λx43 q4 h=>(B h λx44 kY h=>(Y 3 10 (T.drawn mixed (k:=21) J ?_))))))))))
     apply Su 1 (bm 21 1048575);intro mD;apply Su 6 (bm 21 32767);intro g7
     .refine rq [0,1,2,4,5,6,7,9,12] 12 (rL [8,10,11,15,16,17,18,19,20] 8 J (r0 10 J (aK (en:=(ak aa)) SA J J J ux (rL [13,15,16,17,18,19,20] 13 J (rL [14,15,16,17,18,19,20] 14 J (ra2 3 11 ?_ ?_))))))
      .exact og 10 ⟨J,(ra1 11 (oO J (aU (en:=(ak aa)) (a:=x41) J J qN (aN SH (c:=sL aa x41) J (raE g7)))))⟩
      .refine oO J (aU (en:=(ak aa)) (a:=x41) J J qN (aN SH (c:=sL aa x41) J (ra2 3 15 ?_ ?_)))
       .exact og 10 ⟨J,(raT g7)⟩
       .exact oO J (cO 10 (BP jO) ⟨J,(rq [16,17,18] 3 (ra1 3 (og 11 ⟨J,(r0 19 J (aK (en:=(ak aa)) SA J J J q4 (raE mD)))⟩)))⟩)
     .exact ra1 15 (oO J (cO 10 (BP jO) ⟨J,(rq [16,17,18] 2 (r0 19 J (aK (en:=(ak aa)) SA J J J q4 (raT mD))))⟩))
     exact ra1 20 (RO.fC 10 (oO J (eK (en:=(ak aa)) (a:=x44) (a':=x42.1) Tf Tj J (vs:=[sL aa x42.1]) J J J kY J J J (RA.done (by decide+kernel) (X 4 11 (lk h (wk [] [0,1,2,3,4,5,6,7,8,9] 11 J)))))))
    refine X 1 10 ?_;replace h:=mi h P5;cases h;exact eN [0,1,2,3,4,5,8,9]
   refine X 7 12 (Sv h J (λzG h=>?_) (λzG h=>?_))
   .refine B h λx34 ue h=>(T.drawn mixed (k:=11) J (rq [0,1,2,3] 7 (rL [4,7,8,9,10] 4 J (ra1 5 (og 12 ⟨J,(ra1 6 (oO J (be (rows:=List.map aa [x31.2.1]) (vs:=[.agg (aa x31.2.1)]) Sy SW J J J J J J (ra1 7 (oO J (bQ (en:=aa) (xs:=p7) (ys:=([x31.2.1]:U Item)) Sy (λ_=>J) J J J ue J J ?_))))))⟩)))))
    exact rq [8,9] 1 (ra1 10 (og 14 ⟨J,(RA.done (by decide+kernel) (wu (hK2 x34 h) [] [0,1,2,3,4,5,6,9,10,13] 14 J))⟩))
   exact X 1 12 (wu (hK2 p7 h) [] [0,1,2,3,4,5,6,9,10,11] 12 J)
  refine X 7 12 (Sv h J (λt6 h=>?_) (λt6 h=>?_))
  .refine B h λx21 je h=>(X 1 12 (T.drawn mixed (k:=15) J (rq [0,1,2,3,5,7] 9 (rL [4,11,12,13,14] 4 J (rL [6,9,10,11,12,13,14] 6 J (ra1 8 (og 12 ⟨J,(rq [9] 5 (ra1 10 ?_))⟩)))))))
   refine oO J (be (rows:=List.map an [(⟨p2.Node,p2.Lane⟩:Choice)]) (vs:=[.agg (aV p2)]) Sz Tc J J J J J J (ra1 11 (oO J (bQ (en:=an) (xs:=p6) (ys:=([(⟨p2.Node,p2.Lane⟩:Choice)]:U Choice)) Sz (λ_=>J) J J J je J J (rq [12,13] 1 (ra1 14 (og 14 ⟨J,(RA.done (by decide+kernel) (X 5 14 (sQ (cP (en:=an) Sz J J (Y 3 14 ?_)))))⟩)))))));exact wu (hK3 (((x21).length:Int),x21) h) [] [0,1,2,3,4,5,6,7,8,9,13,11] 14 J
  exact X 1 12 (sx (hK3 (x4.1.Dep,p6) h))
 refine X 7 12 (Sv h J (λt7 h=>?_) (λt7 h=>?_))
 .refine B h λx5 hx5 h=>(B h λx6 hx6 h=>(B h λx7 hx7 h=>(B h λx8 hx8 h=>(T.drawn mixed (k:=11) J (rq [0,1,2,4] 7 (rL [3,6,7,8,9,10] 3 J (ra1 5 (og 12 ⟨J,(r0 6 J (aK (en:=aj) Sx J J J hx5 ?_))⟩))))))))
  exact ra1 7 (oO J (aU (en:=aj) (a:=x6) J J hx6 (aN S4 (c:=iI x6) J (rq [8] 2 (r0 9 J (aK (en:=aj) Sx J J J hx7 (ra1 10 (oO J (eK (en:=aj) (a:=x8) (a':=IntKind.i64.wrap (x6+1)) S0 Tl J (vs:=[iI (IntKind.i64.wrap (x6+1))]) J J J hx8 J J J (RA.done (by decide+kernel) (wu (hK4 ((List.set p3 x7 (IntKind.i64.wrap (x6+1))),p4) h) [] [0,1,2,3,4,5,8,9,10,11,7,6] 12 J)))))))))))
 refine B h λx9 hx9 h=>(B h λx10 ba h=>(B h λx11 bA h=>(B h λx12 bB h=>(B h λx13 dJ h=>(B h λx14 cI h=>(B h λx15 cU h=>(T.drawn mixed (k:=29) J ?_)))))))
 apply Su 1 (bm 29 268435455);intro kZ;apply Su 3 (bm 29 134217215);intro ir;apply Su 5 (bm 29 134216831);intro gD;apply Su 5 (bm 29 134216927);intro mE;apply Su 7 (bm 29 4194303);intro iq;apply Su 8 (bm 29 4193791);intro oH;apply Su 8 (bm 29 4194295);intro uy;apply Su 8 (bm 29 2097151);intro uz;apply Su 9 (bm 29 4193783);intro Ai;apply Su 9 (bm 29 2096639);intro Aj;apply Su 10 (bm 29 4193503);intro Ak;apply Su 10 (bm 29 4193407);intro Al;apply Su 10 (bm 29 2096631);intro GL;apply Su 11 (bm 29 4193375);intro GM;apply Su 11 (bm 29 4193399);intro GN;apply Su 11 (bm 29 4193495);intro GO;apply Su 11 (bm 29 2096351);intro GP;apply Su 11 (bm 29 2096255);intro GQ
 .refine rq [0,1,2,4,6,10,11,12,14,16] 19 (rL [13,20,21,22,23,24,25,26,27,28] 13 J (rL [15,18,19,20,21,22,23,24,25,26,27,28] 15 J (rL [17,18,19,20,21,22,23,24,25,26,27,28] 17 J (r0 18 J (aB Sx (λ_=>J) J J ba (rL [19,20,21,22,23,24,25,26,27,28] 19 J (r0 20 J (aK (en:=(ak aa)) SA J J J bA (ra4 3 5 7 21 ?_ ?_ ?_ ?_)))))))))
  .refine og 12 ⟨J,(ra3 5 7 21 ?_ ?_ ?_)⟩
   .exact og 12 ⟨J,(raE GQ)⟩
   .exact og 12 ⟨J,(raE GP)⟩
   .exact oO J (aU (en:=(ak aa)) (a:=x12) J J bB (aN SH (c:=sL aa x12) J (raE GM)))
  .refine og 12 ⟨J,(ra3 3 7 21 ?_ ?_ ?_)⟩
   .exact og 12 ⟨J,(raT GQ)⟩
   .exact og 12 ⟨J,(r0 8 J (aB Sx (λ_=>J) J J hx9 (raE GL)))⟩
   .exact oO J (aU (en:=(ak aa)) (a:=x12) J J bB (aN SH (c:=sL aa x12) J (raE GN)))
  .refine og 12 ⟨J,(ra3 3 5 21 ?_ ?_ ?_)⟩
   .exact og 12 ⟨J,(raT GP)⟩
   .exact og 12 ⟨J,(r0 8 J (aB Sx (λ_=>J) J J hx9 (raT GL)))⟩
   .exact oO J (aU (en:=(ak aa)) (a:=x12) J J bB (aN SH (c:=sL aa x12) J (raE GO)))
  .refine oO J (aU (en:=(ak aa)) (a:=x12) J J bB (aN SH (c:=sL aa x12) J (ra4 3 5 7 22 ?_ ?_ ?_ ?_)))
   .exact og 12 ⟨J,(raT GM)⟩
   .exact og 12 ⟨J,(raT GN)⟩
   .exact og 12 ⟨J,(raT GO)⟩
   .exact oO J (cO 12 (jp dJ) ⟨J,(rq [23,24,25,26] 7 (rL [3,27,28] 3 J (rL [5,8,9,27,28] 5 J (raE gD))))⟩)
 .refine ra2 7 21 ?_ ?_
  .exact og 12 ⟨J,(r0 8 J (aB Sx (λ_=>J) J J hx9 (raE Aj)))⟩
  .exact oO J (aU (en:=(ak aa)) (a:=x12) J J bB (aN SH (c:=sL aa x12) J (raE Al)))
 .refine ra2 5 21 ?_ ?_
  .exact og 12 ⟨J,(r0 8 J (aB Sx (λ_=>J) J J hx9 (raT Aj)))⟩
  .exact oO J (aU (en:=(ak aa)) (a:=x12) J J bB (aN SH (c:=sL aa x12) J (raE Ak)))
 .refine ra3 3 5 22 ?_ ?_ ?_
  .exact og 12 ⟨J,(raT Ak)⟩
  .exact og 12 ⟨J,(r0 8 J (aB Sx (λ_=>J) J J hx9 (raE Ai)))⟩
  .exact oO J (cO 12 (jp dJ) ⟨J,(rq [23,24,25,26] 6 (rL [3,27,28] 3 J (raE mE)))⟩)
 .refine ra3 3 7 22 ?_ ?_ ?_
  .exact og 12 ⟨J,(raT Al)⟩
  .exact og 12 ⟨J,(r0 8 J (aB Sx (λ_=>J) J J hx9 (raT Ai)))⟩
  .exact oO J (cO 12 (jp dJ) ⟨J,(rq [23,24,25,26] 6 (rL [3,27,28] 3 J (raT gD)))⟩)
 .refine ra3 5 7 22 ?_ ?_ ?_
  .exact og 12 ⟨J,(raT Al)⟩
  .exact og 12 ⟨J,(raT Ak)⟩
  .exact oO J (cO 12 (jp dJ) ⟨J,(rq [23,24,25,26] 6 (rL [5,8,9,27,28] 5 J (raT gD)))⟩)
 .refine ra3 3 9 21 ?_ ?_ ?_
  .exact og 12 ⟨J,(raT Aj)⟩
  .refine og 12 ⟨J,(ra2 3 21 ?_ ?_)⟩
   .exact og 12 ⟨J,(raE uz)⟩
   .exact oO J (aU (en:=(ak aa)) (a:=x12) J J bB (aN SH (c:=sL aa x12) J (raE uy)))
  .exact oO J (aU (en:=(ak aa)) (a:=x12) J J bB (aN SH (c:=sL aa x12) J (raT Ai)))
 .refine ra2 7 22 ?_ ?_
  .exact og 12 ⟨J,(r0 8 J (aB Sx (λ_=>J) J J hx9 (raE oH)))⟩
  .exact oO J (cO 12 (jp dJ) ⟨J,(rq [23,24,25,26] 5 (raT gD))⟩)
 .refine ra2 5 22 ?_ ?_
  .exact og 12 ⟨J,(r0 8 J (aB Sx (λ_=>J) J J hx9 (raT oH)))⟩
  .exact oO J (cO 12 (jp dJ) ⟨J,(rq [23,24,25,26] 5 (raT mE))⟩)
 .refine ra2 9 21 ?_ ?_
  .exact og 12 ⟨J,(raT uz)⟩
  .exact oO J (aU (en:=(ak aa)) (a:=x12) J J bB (aN SH (c:=sL aa x12) J (raT oH)))
 .refine ra3 3 9 22 ?_ ?_ ?_
  .exact og 12 ⟨J,(raT oH)⟩
  .exact og 12 ⟨J,(raT uy)⟩
  .exact oO J (cO 12 (jp dJ) ⟨J,(rq [23,24,25,26] 4 (rL [3,27,28] 3 J (raE ir)))⟩)
 .exact ra1 21 (oO J (aU (en:=(ak aa)) (a:=x12) J J bB (aN SH (c:=sL aa x12) J (raE iq))))
 .refine ra2 3 22 ?_ ?_
  .exact og 12 ⟨J,(raT iq)⟩
  .exact oO J (cO 12 (jp dJ) ⟨J,(rq [23,24,25,26] 3 (ra1 3 (og 13 ⟨J,(r0 27 J (aK (en:=(ak aa)) SA J J J cI (raE kZ)))⟩)))⟩)
 .refine ra2 9 22 ?_ ?_
  .exact og 12 ⟨J,(raT iq)⟩
  .exact oO J (cO 12 (jp dJ) ⟨J,(rq [23,24,25,26] 3 (raT ir))⟩)
 .exact ra1 22 (oO J (cO 12 (jp dJ) ⟨J,(rq [23,24,25,26] 2 (r0 27 J (aK (en:=(ak aa)) SA J J J cI (raT kZ))))⟩))
 .exact ra1 5 (og 13 ⟨J,(r0 8 J (aB Sx (λ_=>J) J J hx9 (raT ir)))⟩)
 .exact ra1 7 (og 13 ⟨J,(r0 8 J (aB Sx (λ_=>J) J J hx9 (raT ir)))⟩)
 .exact ra1 9 (og 13 ⟨J,(r0 27 J (aK (en:=(ak aa)) SA J J J cI (raT kZ)))⟩)
 exact ra1 28 (RO.fC 12 (oO J (eK (en:=(ak aa)) (a:=x15) (a':=x13.2.1) Tf Tj J (vs:=[sL aa x13.2.1]) J J J cU J J J (RA.done (by decide+kernel) (wu (hK4 (p3,(List.set p4 x14 x13.2.1)) h) [] [0,1,2,3,4,5,8,9,10,11,7,6] 13 J)))))
theorem Co {p0:Net}{p1:U (U Item)}{p2:State}{p3:Move}{r:State×Int}(h:kz p0 p1 p2 p3=some r):Fn Qbl 71 [.agg (aD p0),sL (ak aa) p1,.agg (bD p2),.agg (aV p3)] (.tup [.agg (bD r.1),iI r.2]):=by
 unfold kz at h;refine fT 0 0 Tryz.func71 Tryz.ntmps71 J ?_;refine B h λx2 hx2 h=>(X 14 0 (sO (cF (vq hx2) ⟨J,(Y 7 4 (Sv h J (λae h=>?_) (λae h=>?_)))⟩)))
 .refine X 7 4 ?_;cases h;exact tD
 refine X 2 4 ?_;obtain⟨uA,hz,h⟩:=bind_some h;revert hz h;revert uA;intro c5 hz h;refine j1 [(1,sL (ak aa) p1),(4,.ptr 0 0),(6,.ptr 1 0),(7,.ptr 2 0),(8,.ptr 3 0),(62,.bool c5)] [.box (aD p0),.box (bD p2),.box (aV p3),.box [.nils,.nils,.nils,.nils,.nils]] ?_ (λhK=>?_)
 .refine Sv h J (λbi h=>?_) (λbi h=>?_)
  .refine X 6 4 ?_;cases h;exact tD
  refine B h λx7 hx7 h=>(X 8 4 (sO (cF (BM hx7) ⟨J,(Y 2 4 (Sv h J (λbY h=>?_) (λbY h=>?_)))⟩)))
  .refine X 6 4 ?_;cases h;exact tD
  refine B h λx9 hx9 h=>(X 4 4 (sO (cG [] 4 5 (SG (Br hx9)) ⟨J,(B h λx11 bA h=>(Y 7 9 (sO (cG [1,4,5,6,7,8] 9 8 (HY bA) ⟨J,(Y 7 11 ?_)⟩))))⟩)))
  cases h;exact tD
 refine X 1 4 ?_;rcases bf (decide (p3.Node<0))with ab|ab
 .replace hz:=bH hz ab;refine T.drawn mixed (k:=44) J (rq [0] 43 (ra1 1 (og 4 ⟨J,(rq [2,3] 40 (r2 4 J ab (r2 5 J ab (r2 6 J ab (r2 7 J ab (r2 8 J ab ?_))))))⟩)));refine r2 9 J ab (r0 10 J (bg (v:=.bool true) J ab J (rq [11] 32 (r2 12 J J (r2 13 J J (r2 14 J J (r0 15 J (bg (v:=.bool true) J J J (rq [16] 27 (r2 17 J J (r2 18 J J ?_)))))))))));refine r2 19 J J (r2 20 J J (r3 21 J (r3 22 J (r3 23 J (r3 24 J (r3 25 J (r3 26 J (r3 27 J (r3 28 J ?_)))))))));refine r3 29 J (r3 30 J (r3 31 J (r3 32 J (r3 33 J (r3 34 J (r3 35 J (r3 36 J (r3 37 J (r3 38 J ?_)))))))));exact r3 39 J (r3 40 J (r3 41 J (r2 42 J J (r0 43 J (bg (v:=.bool true) J J J (RA.done (by decide+kernel) (T.sub hK ⟨J,J,J,J,J,(congrArg AV.bool ((congrArg (λp=>p) (QH hz)).symm)).symm,tqz⟩)))))))
 replace hz:=bG hz ab;rcases bf (decide (p3.Node>=((p0.Nodes).length:Int)))with ap|ap
 .replace hz:=bH hz ap;refine T.drawn mixed (k:=44) J ?_;apply Su 0 (bm 44 17592186044415);intro cN
  .refine rq [0] 43 (ra1 1 (og 4 ⟨J,(rq [2,3] 40 (ry 4 ab J (ry 6 ab J (ra2 5 7 ?_ ?_))))⟩))
   .refine oy 4 ab J (ra1 7 (oy 4 ab J (r1 8 J ab (ai Sw J (ry 9 ab J (r0 10 J (aP (v:=.bool (decide (p3.Node>=((p0.Nodes).length:Int)))) J ab J (rq [11] 32 (r2 12 J ap (r2 13 J ap (r2 14 J ap ?_)))))))))));refine r0 15 J (bg (v:=.bool true) J ap J (rq [16] 27 (r2 17 J J (r2 18 J J (r2 19 J J (r2 20 J J (r3 21 J (r3 22 J (r3 23 J (r3 24 J ?_))))))))));refine r3 25 J (r3 26 J (r3 27 J (r3 28 J (r3 29 J (r3 30 J (r3 31 J (r3 32 J (r3 33 J (r3 34 J ?_)))))))));exact r3 35 J (r3 36 J (r3 37 J (r3 38 J (r3 39 J (r3 40 J (r3 41 J (r2 42 J J (r0 43 J (bg (v:=.bool true) J J J (raE cN))))))))))
   .refine oy 4 ab J (r1 8 J ab (ai Sw J (ra1 5 (oy 4 ab J (ry 9 ab J (r0 10 J (aP (v:=.bool (decide (p3.Node>=((p0.Nodes).length:Int)))) J ab J (rq [11] 32 (r2 12 J ap (r2 13 J ap (r2 14 J ap ?_)))))))))));refine r0 15 J (bg (v:=.bool true) J ap J (rq [16] 27 (r2 17 J J (r2 18 J J (r2 19 J J (r2 20 J J (r3 21 J (r3 22 J (r3 23 J (r3 24 J ?_))))))))));refine r3 25 J (r3 26 J (r3 27 J (r3 28 J (r3 29 J (r3 30 J (r3 31 J (r3 32 J (r3 33 J (r3 34 J ?_)))))))));exact r3 35 J (r3 36 J (r3 37 J (r3 38 J (r3 39 J (r3 40 J (r3 41 J (r2 42 J J (r0 43 J (bg (v:=.bool true) J J J (raT cN))))))))))
  exact RA.done (by decide+kernel) (T.sub hK ⟨J,J,J,J,J,(congrArg AV.bool ((congrArg (λp=>p) (QH hz)).symm)).symm,tqz⟩)
 replace hz:=bG hz ap;rcases bf (decide (p3.Lane<0))with aC|aC
 .replace hz:=bH hz aC;refine T.drawn mixed (k:=44) J ?_;apply Su 31 (bm 44 8191);intro cE
  .refine rq [0] 43 (ra1 1 (og 4 ⟨J,(rq [2,3] 40 (ry 4 ab J (ry 6 ab J (ra2 5 7 ?_ ?_))))⟩))
   .exact oy 4 ab J (ra1 7 (oy 4 ab J (r1 8 J ab (ai Sw J (ry 9 ab J (r0 10 J (aP (v:=.bool (decide (p3.Node>=((p0.Nodes).length:Int)))) J ab J (rq [11] 32 (ry 12 ap J (raE cE))))))))))
   .exact oy 4 ab J (r1 8 J ab (ai Sw J (ra1 5 (oy 4 ab J (ry 9 ab J (r0 10 J (aP (v:=.bool (decide (p3.Node>=((p0.Nodes).length:Int)))) J ab J (rq [11] 32 (ry 12 ap J (raT cE))))))))))
  refine ra1 13 (oy 4 ap J (ry 14 ap J (r0 15 J (aP (v:=.bool (decide (p3.Lane<0))) J ap J (rq [16] 27 (r2 17 J aC (r2 18 J aC (r2 19 J aC (r2 20 J aC (r3 21 J ?_))))))))));refine r3 22 J (r3 23 J (r3 24 J (r3 25 J (r3 26 J (r3 27 J (r3 28 J (r3 29 J (r3 30 J (r3 31 J ?_)))))))));refine r3 32 J (r3 33 J (r3 34 J (r3 35 J (r3 36 J (r3 37 J (r3 38 J (r3 39 J (r3 40 J (r3 41 J ?_)))))))));exact r2 42 J aC (r0 43 J (bg (v:=.bool true) J aC J (RA.done (by decide+kernel) (T.sub hK ⟨J,J,J,J,J,(congrArg AV.bool ((congrArg (λp=>p) (QH hz)).symm)).symm,tqz⟩))))
 replace hz:=bG hz aC;rcases bf (decide (p3.Lane> 0))with aI|aI
 .replace hz:=bH hz aI;refine B hz λx3 hx3 hz=>?_
  rcases bf (x3.Kind !=6)with aM|aM
  .replace hz:=bH hz aM;refine T.drawn mixed (k:=44) J ?_;apply Su 17 (bm 44 134217727);intro fc;apply Su 31 (bm 44 8191);intro jc
   .refine rq [0] 43 (ra1 1 (og 4 ⟨J,(rq [2,3] 40 (ry 4 ab J (ry 6 ab J (ra2 5 7 ?_ ?_))))⟩))
    .exact oy 4 ab J (ra1 7 (oy 4 ab J (r1 8 J ab (ai Sw J (ry 9 ab J (r0 10 J (aP (v:=.bool (decide (p3.Node>=((p0.Nodes).length:Int)))) J ab J (rq [11] 32 (ry 12 ap J (raE jc))))))))))
    .exact oy 4 ab J (r1 8 J ab (ai Sw J (ra1 5 (oy 4 ab J (ry 9 ab J (r0 10 J (aP (v:=.bool (decide (p3.Node>=((p0.Nodes).length:Int)))) J ab J (rq [11] 32 (ry 12 ap J (raT jc))))))))))
   .refine ra1 13 (oy 4 ap J (ry 14 ap J (r0 15 J (aP (v:=.bool (decide (p3.Lane<0))) J ap J (rq [16] 27 (ry 17 aC J (ra1 18 (oy 4 aC J (ry 19 aC J (ry 20 aC J ?_))))))))));refine ry 21 aI J (ry 23 aI J (ra2 22 24 ?_ ?_))
    .exact oy 4 aI J (ra1 24 (oy 4 aI J (r1 25 J aI (aB Sw (λ_=>J) J J hx3 (ry 26 aI J (raE fc))))))
    .exact oy 4 aI J (ra1 22 (oy 4 aI J (r1 25 J aI (aB Sw (λ_=>J) J J hx3 (ry 26 aI J (raT fc))))))
   refine ra1 27 (oy 4 aI J (ry 28 aI J (ry 29 aI J (r2 30 J aM (r2 31 J aM (r2 32 J aM (r2 33 J aM (r2 34 J aM (r2 35 J aM ?_)))))))));exact r2 36 J aM (r2 37 J aM (r2 38 J aM (r2 39 J aM (r2 40 J aM (r1 41 J aI (bg (v:=.bool true) J aM J (r1 42 J aC (bg (v:=.bool true) J aI J (r0 43 J (aP (v:=.bool true) J aC J (RA.done (by decide+kernel) (T.sub hK ⟨J,J,J,J,J,(congrArg AV.bool ((congrArg (λp=>p) (QH hz)).symm)).symm,tqz⟩))))))))))))
  replace hz:=bG hz aM;refine B hz λx4 hx4 hz=>(T.drawn mixed (k:=44) J ?_)
  apply Su 0 (bm 44 17592186044415);intro mw;apply Su 6 (bm 44 274877906943);intro qU;apply Su 7 (bm 44 272730423295);intro ul;apply Su 9 (bm 44 60129542143);intro um;apply Su 9 (bm 44 34359738367);intro qV;apply Su 17 (bm 44 134217727);intro uo;apply Su 31 (bm 44 8191);intro uq
  .refine rq [0] 43 (ra1 1 (og 4 ⟨J,(rq [2,3] 40 (ry 4 ab J (ry 6 ab J (ra2 5 7 ?_ ?_))))⟩))
   .exact oy 4 ab J (ra1 7 (oy 4 ab J (r1 8 J ab (ai Sw J (ry 9 ab J (r0 10 J (aP (v:=.bool (decide (p3.Node>=((p0.Nodes).length:Int)))) J ab J (rq [11] 32 (ry 12 ap J (raE uq))))))))))
   .exact oy 4 ab J (r1 8 J ab (ai Sw J (ra1 5 (oy 4 ab J (ry 9 ab J (r0 10 J (aP (v:=.bool (decide (p3.Node>=((p0.Nodes).length:Int)))) J ab J (rq [11] 32 (ry 12 ap J (raT uq))))))))))
  .refine ra1 13 (oy 4 ap J (ry 14 ap J (r0 15 J (aP (v:=.bool (decide (p3.Lane<0))) J ap J (rq [16] 27 (ry 17 aC J (ra1 18 (oy 4 aC J (ry 19 aC J (ry 20 aC J ?_))))))))));refine ry 21 aI J (ry 23 aI J (ra2 22 24 ?_ ?_))
   .exact oy 4 aI J (ra1 24 (oy 4 aI J (r1 25 J aI (aB Sw (λ_=>J) J J hx3 (ry 26 aI J (raE uo))))))
   .exact oy 4 aI J (ra1 22 (oy 4 aI J (r1 25 J aI (aB Sw (λ_=>J) J J hx3 (ry 26 aI J (raT uo))))))
  .refine ra1 27 (oy 4 aI J (ry 28 aI J (ry 29 aI J (ry 30 aM J (ry 32 aM J (ry 34 aM J (ra3 31 33 35 ?_ ?_ ?_)))))))
   .refine oy 4 aM J (ra2 33 35 ?_ ?_)
    .exact oy 4 aM J (raE qV)
    .exact oy 4 aM J (raE um)
   .refine oy 4 aM J (ra2 31 35 ?_ ?_)
    .exact oy 4 aM J (raT qV)
    .exact oy 4 aM J (r1 36 J aM (aB Sw (λ_=>J) J J hx4 (ry 37 aM J (raE ul))))
   .refine oy 4 aM J (ra2 31 33 ?_ ?_)
    .exact oy 4 aM J (raT um)
    .exact oy 4 aM J (r1 36 J aM (aB Sw (λ_=>J) J J hx4 (ry 37 aM J (raT ul))))
  .exact ra1 35 (oy 4 aM J (r1 36 J aM (aB Sw (λ_=>J) J J hx4 (ry 37 aM J (raE qU)))))
  .exact ra1 33 (oy 4 aM J (r1 36 J aM (aB Sw (λ_=>J) J J hx4 (ry 37 aM J (raT qU)))))
  .refine ra2 31 38 ?_ ?_
   .exact oy 4 aM J (raT qU)
   .exact oy 4 aM J (r1 39 J aM (ai Sx J (ra1 31 (oy 4 aM J (ry 40 aM J (r1 41 J aI (aP (v:=.bool (decide (p3.Lane>=((x4.In).length:Int)))) J aM J (r1 42 J aC (bg (v:=.bool (decide (p3.Lane>=((x4.In).length:Int)))) J aI J (r0 43 J (aP (v:=.bool (decide (p3.Lane>=((x4.In).length:Int)))) J aC J (raE mw))))))))))))
  .exact ra1 38 (oy 4 aM J (r1 39 J aM (ai Sx J (ry 40 aM J (r1 41 J aI (aP (v:=.bool (decide (p3.Lane>=((x4.In).length:Int)))) J aM J (r1 42 J aC (bg (v:=.bool (decide (p3.Lane>=((x4.In).length:Int)))) J aI J (r0 43 J (aP (v:=.bool (decide (p3.Lane>=((x4.In).length:Int)))) J aC J (raT mw)))))))))))
  exact RA.done (by decide+kernel) (T.sub hK ⟨J,J,J,J,J,(congrArg AV.bool ((congrArg (λp=>p) (QH hz)).symm)).symm,tqz⟩)
 replace hz:=bG hz aI;refine T.drawn mixed (k:=44) J ?_;apply Su 31 (bm 44 8191);intro uB
 .refine rq [0] 43 (ra1 1 (og 4 ⟨J,(rq [2,3] 40 (ry 4 ab J (ry 6 ab J (ra2 5 7 ?_ ?_))))⟩))
  .exact oy 4 ab J (ra1 7 (oy 4 ab J (r1 8 J ab (ai Sw J (ry 9 ab J (r0 10 J (aP (v:=.bool (decide (p3.Node>=((p0.Nodes).length:Int)))) J ab J (rq [11] 32 (ry 12 ap J (raE uB))))))))))
  .exact oy 4 ab J (r1 8 J ab (ai Sw J (ra1 5 (oy 4 ab J (ry 9 ab J (r0 10 J (aP (v:=.bool (decide (p3.Node>=((p0.Nodes).length:Int)))) J ab J (rq [11] 32 (ry 12 ap J (raT uB))))))))))
 refine ra1 13 (oy 4 ap J (ry 14 ap J (r0 15 J (aP (v:=.bool (decide (p3.Lane<0))) J ap J (rq [16] 27 (ry 17 aC J (ra1 18 (oy 4 aC J (ry 19 aC J (ry 20 aC J ?_))))))))));refine r2 21 J aI (r2 22 J aI (r2 23 J aI (r2 24 J aI (r2 25 J aI (r2 26 J aI (r2 27 J aI (r2 28 J aI (r2 29 J aI (r3 30 J ?_)))))))));refine r3 31 J (r3 32 J (r3 33 J (r3 34 J (r3 35 J (r3 36 J (r3 37 J (r3 38 J (r3 39 J (r3 40 J ?_)))))))));exact r2 41 J aI (r1 42 J aC (aP (v:=.bool false) J aI J (r0 43 J (aP (v:=.bool false) J aC J (RA.done (by decide+kernel) (T.sub hK ⟨J,J,J,J,J,(congrArg AV.bool ((congrArg (λp=>p) (QH hz)).symm)).symm,tqz⟩))))))
theorem HM {p1:U Node}{r:Int×(U Int)×(U (U Item))×(U Memory)×(U Choice)×(U Item)}(h:r8 p0 p1 p2 p3 p4 p5 p6 p7 p8 p9 p10 p11 p12 p13 p14 p15 p16 p17 p18=some r):FnX Qbl 27 [.ptr 0 0,iI p0] [.box [sL ao p1,iI p2,iI p3,sL (ak aa) p4,sL aj p5,sL (ak aa) p6,sL aq p7,sL an p8,sL aa p9,sL aT p10,sL bb p11,iI p12,iI p13,iI p14,iI p15,iI p16,.ref 1,.bool p17],aR 75 3 aa p18] (iI r.1) [.box [sL ao p1,iI p2,iI p3,sL (ak aa) p4,sL aj r.2.1,sL (ak aa) r.2.2.1,sL aq r.2.2.2.1,sL an r.2.2.2.2.1,sL aa r.2.2.2.2.2,sL aT p10,sL bb p11,iI p12,iI p13,iI p14,iI p15,iI p16,.ref 1,.bool p17],aR 75 3 aa p18]:=by
 unfold r8 at h;refine fT 2 0 Tryz.func27 Tryz.ntmps27 J ?_;refine B h λx2 hx2 h=>(X 5 2 (T.drawn mixed (k:=18) J (rq [0,1,2,4,5,6,8,9,10] 9 (rL [3,12,13,14,15,16,17] 3 J (rL [7,12,13,14,15,16,17] 7 J (ra1 11 (og 2 ⟨J,(ra1 12 (oO J (cO 2 (Bc hx2) ⟨J,?_⟩)))⟩)))))))
 refine rq [13,14,15,16,17] 0 (RA.done (by decide+kernel) (X 4 3 (sQ (cP (en:=aV) SM J J (Y 2 3 (Sv h J (λae h=>?_) (λae h=>?_)))))))
 .refine X 4 3 ?_;cases h;exact tN [0,1]
 refine B h λx8 hx8 h=>(B h λx9 hx9 h=>(B h λx10 ba h=>(B h λx11 bA h=>(B h λx12 bB h=>(X 2 3 (T.drawn mixed (k:=33) J (rq [0,1,2,3,5,6,7,9,10,11,13,14,15] 20 (r0 16 J (cP (en:=aV) SM J J (r0 17 J (ii J J hx8 ?_)))))))))))
 refine rq [18] 17 (r0 19 J (cP (en:=aV) SM J J (rq [20,21] 14 (r0 22 J (cP (en:=aV) SM J J (r0 23 J (ii J J hx9 (r0 24 J (aK (en:=aV) SM J J J ba (rL [4,26,27,28,29,30,31,32] 4 J (rL [8,26,27,28,29,30,31,32] 8 J (rL [12,26,27,28,29,30,31,32] 12 J (ra1 25 ?_)))))))))))));refine oO J (aU (en:=aV) (a:=x11) J J bA (eM Ti Te J (cs:=(aV x11)) J (ra1 26 (oO J (cD (Co bB) ⟨J,(rq [27,28,29,30,31] 1 (ra1 32 (og 3 ⟨J,(RA.done (by decide+kernel) (X 4 3 ?_))⟩)))⟩)))));cases h;exact tN [0,1]
theorem H2 {p0:U Choice}{r:(U UInt8)×Int}(h:sv p0=some r):Fn Qbl 91 [sL an p0] (.tup [.str r.1,iI r.2]):=by
 unfold sv at h;refine fT 0 9 Tryz.func91 Tryz.ntmps91 J (sQ (ai Sz J (Y 2 0 (Sv h J (λae h=>?_) (λae h=>?_)))))
 .refine X 5 0 ?_;cases h;exact tD
 refine X 9 0 (sQ (ai Sz J (Y 3 0 (itr (λbp:Int×(U Int)=>mkA 46 [(4,.ref 0),(10,sL an p0),(11,iI ((p0).length:Int)),(12,iI bp.1)]) (λbp=>[aR 5 1 b6 bp.2]) h (wk [(4,5,1)] [0] 0 J) (λbp v_13 h gZ=>?_)))));obtain⟨s1,s2⟩:=bp;replace h:m7 p0 s1 s2=some v_13:=h;try dsimp only
 unfold m7 at h;refine X 5 1 (Sv h J (λg6 h=>?_) (λg6 h=>?_))
 .refine B h λx4 hx4 h=>(X 5 1 (sQ (aB Sz (λ_=>J) J J hx4 (Y 5 1 (j1 [(4,.ref 0),(6,.ptr 1 0),(10,sL an p0),(11,iI ((p0).length:Int)),(12,iI s1),(33,.bool ((decide (x4.Node<0))||((decide (x4.Node>=12))||((decide (x4.Lane<0))||decide (x4.Lane>=16)))))] [aR 5 1 b6 s2,.box (an x4)] ?_ (λhK=>?_))))))
  .refine Sv h J (λov h=>?_) (λov h=>?_)
   .refine X 5 2 ?_;replace h:=mi h gZ;cases h;exact tD
   refine B h λx6 hx6 h=>(X 9 2 (sO (be (rows:=List.map b6 [IntKind.u8.wrap x4.Node,IntKind.u8.wrap x4.Lane]) (vs:=[.int .u8 (IntKind.u8.wrap x4.Node),.int .u8 (IntKind.u8.wrap x4.Lane)]) S3 Tk J J J J J J (sO (bQ (en:=b6) (xs:=s2) (ys:=([IntKind.u8.wrap x4.Node,IntKind.u8.wrap x4.Lane]:U Int)) S3 (λ_=>J) J J J hx6 J J (Y 6 4 ?_))))))
   exact lk h (wk [] [3] 4 J)
  refine X 6 2 (gp 19 (λfF=>?_) (λfF=>?_))
  .refine Yp 15 2 ?_;rw[fF]at hK;exact sx hK
  refine Yp 5 2 (gp 24 (λfG=>?_) (λfG=>?_))
  .refine Yp 10 2 ?_;rw[fF]at hK;rw[fG]at hK;exact sx hK
  refine Yp 5 2 (gp 29 (λf0=>?_) (λf0=>?_))
  .refine Yp 5 2 ?_;rw[fF]at hK;rw[fG]at hK;rw[f0]at hK;exact sx hK
  refine Yp 5 2 ?_;rw[fF]at hK;rw[fG]at hK;rw[f0]at hK;exact sx hK
 refine X 1 1 ?_;replace h:=mi h gZ;refine X 3 1 (sO (pB (xs:=s2) Vh Vk Vd J J (Y 3 1 ?_)));cases h;exact tD
theorem Bw {p0:U UInt8}{r:Int}(h:pP p0=some r):Fn Qbl 136 [.str p0] (iI r):=by
 unfold pP at h;refine fT 0 16 Tryz.func136 Tryz.ntmps136 J (itr (λfW:Int×Int=>mkA 29 [(0,.str p0),(3,iI fW.1),(6,iI ((p0).length:Int)),(7,iI fW.2)]) (λfW=>[]) h (wk [] [] 0 J) (λfW v_22 h ox=>?_));obtain⟨s1,s2⟩:=fW;replace h:nk p0 s1 s2=some v_22:=h;try dsimp only
 unfold nk at h;refine X 5 0 (Sv h J (λoz h=>?_) (λoz h=>?_))
 .refine B h λx5 hx5 h=>(B h λx6 hx6 h=>(X 13 0 (sQ (dq Vd J J hx5 (Y 1 0 (sQ (v_shl J J hx6 (Y 8 0 (itr (λeE:Int×Int=>mkA 29 [(0,.str p0),(3,iI eE.1),(6,iI ((p0).length:Int)),(7,iI s2),(17,iI eE.2)]) (λeE=>[]) h (wk [] [] 0 J) (λeE v_29 h zH=>?_))))))))))
  obtain⟨s7,s8⟩:=eE;replace h:lE s2 s7 s8=some v_29:=h;try dsimp only
  unfold lE at h;refine X 5 0 (Sv h J (λi6 h=>?_) (λi6 h=>?_))
  .refine B h λx10 ba h=>(X 6 0 (sQ (v_shl J J ba (Y 8 0 (Sv h J (λja h=>?_) (λja h=>?_))))))
   .exact X 9 0 (lk h (wk [] [] 0 J))
   exact X 5 0 (lk h (wk [] [] 0 J))
  refine X 1 0 ?_;replace h:=mi h zH;exact X 4 0 (lk h (wk [] [] 0 J))
 refine X 1 0 ?_;replace h:=mi h ox;refine X 5 0 ?_;cases h;exact tD
theorem Bt {p0:U UInt8}{r:(U UInt8)×Int}(h:pV p0=some r):Fn Qbl 92 [.str p0] (.tup [.str r.1,iI r.2]):=by
 unfold pV at h;refine fT 0 11 Tryz.func92 Tryz.ntmps92 J (Sv h J (λae h=>?_) (λae h=>?_))
 .refine X 5 0 ?_;cases h;exact tD
 refine X 8 0 (Sv h J (λab h=>?_) (λab h=>?_))
 .refine X 5 0 ?_;cases h;exact tD
 refine B h λx3 hx3 h=>(B h λx4 hx4 h=>(X 6 0 (sO (be (rows:=List.map b6 [IntKind.u8.wrap ((p0).length:Int)]) (vs:=[.int .u8 (IntKind.u8.wrap ((p0).length:Int))]) S3 Tk J J J J J J (sO (pB (xs:=[IntKind.u8.wrap ((p0).length:Int)]) Vh Vk Vd J J (Y 1 1 (sQ (qv J J hx3 (sO (cF (Bw hx4) ⟨J,(B h λx8 hx8 h=>(B h λx9 hx9 h=>?_))⟩)))))))))))
 refine B h λx10 ba h=>(Y 7 1 (sO (be (rows:=List.map b6 [IntKind.u8.wrap ((p0).length:Int)]) (vs:=[.int .u8 (IntKind.u8.wrap ((p0).length:Int))]) S3 Tk J J J J J J (sO (pB (xs:=[IntKind.u8.wrap ((p0).length:Int)]) Vh Vk Vd J J (Y 1 2 (sQ (qv J J hx8 (Y 1 2 (sQ (jI J J hx9 (Y 3 2 (sO (be (rows:=List.map b6 [IntKind.u8.wrap x9,IntKind.u8.wrap x4]) (vs:=[.int .u8 (IntKind.u8.wrap x9),.int .u8 (IntKind.u8.wrap x4)]) S3 Tk J J J J J J ?_))))))))))))))
 refine sO (pB (xs:=[IntKind.u8.wrap x9,IntKind.u8.wrap x4]) Vh Vk Vd J J (sQ (qv J J ba (Y 3 3 ?_))));cases h;exact tD
theorem Ba {p0:Disk}{p2:U UInt8}{r:Disk×Int}(h:jt p0 p1 p2=some r):Fn Qbl 93 [.agg (co p0),iI p1,.str p2] (.tup [.agg (co r.1),iI r.2]):=by
 unfold jt at h;refine fT 0 0 Tryz.func93 Tryz.ntmps93 J ?_;refine B h λx2 hx2 h=>(X 10 0 (sO (cF (ni hx2) ⟨J,(Y 7 2 (Sv h J (λae h=>?_) (λae h=>?_)))⟩)))
 .refine X 7 2 ?_;cases h;exact tD
 refine X 2 2 (j1 [(1,iI p1),(2,.str p2),(3,.ptr 0 0),(6,.ptr 1 0),(20,.bool ((decide (p1<0))||decide (p1>=200)))] [.box (co p0),.box [.nils,.nils]] ?_ (λhK=>?_))
 .refine Sv h J (λap h=>?_) (λap h=>?_)
  .refine X 6 2 ?_;cases h;exact tD
  refine X 8 2 (Sv h J (λaC h=>?_) (λaC h=>?_))
  .refine X 6 2 ?_;cases h;exact tD
  refine X 6 2 (sQ (ai SN J (Y 2 2 (Sv h J (λaI h=>?_) (λaI h=>?_)))))
  .refine X 6 2 ?_;cases h;exact tD
  refine B h λx7 hx7 h=>(B h λx8 hx8 h=>(B h λx9 hx9 h=>(X 2 2 (T.drawn mixed (k:=14) J ?_))))
  apply Su 4 (bm 14 1023);intro hS6;apply Su 5 (bm 14 991);intro hS7;apply Su 6 (bm 14 479);intro hS8;apply Su 6 (bm 14 987);intro hS9
  .refine rq [0,3,6,7,8] 9 (rL [1,2,5,10,11,12,13] 1 J (ra3 2 4 9 ?_ ?_ ?_))
   .exact oO J (cO 2 (ld hx7) ⟨J,(rL [4,5,10,11,12,13] 4 J (raE hS8))⟩)
   .refine og 2 ⟨J,(ra2 2 9 ?_ ?_)⟩
    .exact oO J (cO 2 (ld hx7) ⟨J,(raT hS8)⟩)
    .exact oO J (be (rows:=List.map bb [(⟨p1,p2⟩:Write)]) (vs:=[.agg [iI p1,.str p2]]) SN Tb J J J J J J (raE hS9))
   .refine oO J (be (rows:=List.map bb [(⟨p1,p2⟩:Write)]) (vs:=[.agg [iI p1,.str p2]]) SN Tb J J J J J J (ra2 2 4 ?_ ?_))
    .exact oO J (cO 3 (ld hx7) ⟨J,(ra1 4 (og 4 ⟨J,(raE hS7)⟩))⟩)
    .exact og 3 ⟨J,(raT hS9)⟩
  .exact ra1 2 (oO J (cO 3 (ld hx7) ⟨J,(raT hS7)⟩))
  .refine ra2 5 9 ?_ ?_
   .exact oO J (cO 3 (xe hx8) ⟨J,(ra1 9 (oO J (be (rows:=List.map bb [(⟨p1,p2⟩:Write)]) (vs:=[.agg [iI p1,.str p2]]) SN Tb J J J J J J (raE hS6))))⟩)
   .exact oO J (be (rows:=List.map bb [(⟨p1,p2⟩:Write)]) (vs:=[.agg [iI p1,.str p2]]) SN Tb J J J J J J (raV hS7 [0,1,3,2] J))
  .exact ra1 5 (oO J (cO 4 (xe hx8) ⟨J,(raV hS6 [0,1,3,4,2] J)⟩))
  refine ra1 10 (oO J (bQ (en:=bb) (xs:=x8) (ys:=([(⟨p1,p2⟩:Write)]:U Write)) SN (λ_=>J) J J J hx9 J J (rq [11] 2 (ra1 12 (og 6 ⟨J,(rq [13] 0 (RA.done (by decide+kernel) ?_))⟩)))));cases h;exact tD
 refine X 5 2 (gp 17 (λab=>?_) (λab=>?_))
 .refine Yp 4 2 ?_;rw[ab]at hK;exact sx hK
 refine Yp 4 2 ?_;rw[ab]at hK;exact sx hK
theorem vo {p0:Disk}{p3:U Choice}{r:Disk×Int×Int}(h:nI p0 p1 p2 p3=some r):Fn Qbl 50 [.agg (co p0),iI p1,iI p2,sL an p3] (.tup [.agg (co r.1),iI r.2.1,iI r.2.2]):=by
 unfold nI at h;refine fT 0 0 Tryz.func50 Tryz.ntmps50 J ?_;refine B h λx2 hx2 h=>(X 11 0 (sO (cF (ni hx2) ⟨J,(Y 7 2 (Sv h J (λae h=>?_) (λae h=>?_)))⟩)))
 .refine X 8 2 ?_;cases h;exact tD
 refine X 2 2 (j1 [(1,iI p1),(2,iI p2),(3,sL an p3),(4,.ptr 0 0),(8,.ptr 1 0),(36,.bool ((decide (p1<0))||((decide (p1> 200))||((decide (p2<0))||decide (p2> 80)))))] [.box (co p0),.box [.nils,.nils]] ?_ (λhK=>?_))
 .refine Sv h J (λaI h=>?_) (λaI h=>?_)
  .refine X 7 2 ?_;cases h;exact tD
  refine X 3 2 (itr (λil:Int×(U Choice)×(U (U UInt8))×(U Write)=>mkA 88 [(1,iI p1),(2,iI il.1),(3,sL an il.2.1),(4,.ptr 0 0),(8,.ptr 1 0)]) (λil=>[.box [sL aT il.2.2.1,sL bb il.2.2.2],.box [.nils,.nils]]) h (wk [] [0,1] 2 J) (λil v_15 h w4=>?_));obtain⟨s4,s5,s6,s7⟩:=il;replace h:gc p1 s4 s5 s6 s7=some v_15:=h;try dsimp only
  unfold gc at h;refine X 4 2 (sQ (ai Sz J (Y 2 2 (Sv h J (λfG h=>?_) (λfG h=>?_)))))
  .refine X 5 2 (sQ (ai Sz J (B h λx10 ba h=>(B h λx11 bA h=>(Y 7 2 (sO (pK Sz (λ_=>J) J J J ba (sO (cF (H2 bA) ⟨J,(Y 12 2 (Sv h J (λf0 h=>?_) (λf0 h=>?_)))⟩)))))))))
   .refine X 8 2 ?_;replace h:=mi h w4;cases h;exact tD
   refine B h λx14 cI h=>(B h λx15 cU h=>(X 5 2 (sO (be (rows:=List.map b6 [IntKind.u8.wrap p1]) (vs:=[.int .u8 (IntKind.u8.wrap p1)]) S3 Tk J J J J J J (sO (pB (xs:=[IntKind.u8.wrap p1]) Vh Vk Vd J J (Y 1 3 (sQ (qv J J cI (sO (cF (Bt cU) ⟨J,(Y 13 3 (Sv h J (λcC h=>?_) (λcC h=>?_)))⟩)))))))))))
   .refine X 7 3 ?_;replace h:=mi h w4;cases h;exact tD
   refine B h λx17 cz h=>(X 8 3 (sO (cD (Ba cz) ⟨J,(Y 11 3 (Sv h J (λua h=>?_) (λua h=>?_)))⟩)))
   .refine X 8 3 ?_;replace h:=mi h w4;cases h;exact tD
   exact B h λx18 b7 h=>(X 10 3 (sO (pK Sz (λ_=>J) J J J b7 (Y 2 3 (lk h (wk [] [0,1] 3 J))))))
  refine X 1 2 ?_;replace h:=mi h w4;refine X 8 2 ?_;cases h;exact tD
 refine X 5 2 (gp 25 (λab=>?_) (λab=>?_))
 .refine Yp 12 2 ?_;rw[ab]at hK;exact sx hK
 refine Yp 4 2 (gp 29 (λap=>?_) (λap=>?_))
 .refine Yp 8 2 ?_;rw[ab]at hK;rw[ap]at hK;exact sx hK
 refine Yp 4 2 (gp 33 (λaC=>?_) (λaC=>?_))
 .refine Yp 4 2 ?_;rw[ab]at hK;rw[ap]at hK;rw[aC]at hK;exact sx hK
 refine Yp 4 2 ?_;rw[ab]at hK;rw[ap]at hK;rw[aC]at hK;exact sx hK
theorem HD {p1:U Node}{r:Int×(U (U UInt8))×(U Write)×Int×Int}(h:rZ p0 p1 p2 p3 p4 p5 p6 p7 p8 p9 p10 p11 p12 p13 p14 p15 p16 p17 p18=some r):FnX Qbl 28 [.ptr 0 0,iI p0] [.box [sL ao p1,iI p2,iI p3,sL (ak aa) p4,sL aj p5,sL (ak aa) p6,sL aq p7,sL an p8,sL aa p9,sL aT p10,sL bb p11,iI p12,iI p13,iI p14,iI p15,iI p16,.ref 1,.bool p17],aR 75 3 aa p18] (iI r.1) [.box [sL ao p1,iI p2,iI p3,sL (ak aa) p4,sL aj p5,sL (ak aa) p6,sL aq p7,sL an p8,sL aa p9,sL aT r.2.1,sL bb r.2.2.1,iI r.2.2.2.1,iI p13,iI p14,iI p15,iI r.2.2.2.2,.ref 1,.bool p17],aR 75 3 aa p18]:=by
 unfold rZ at h;refine fT 2 13 Tryz.func28 Tryz.ntmps28 J (Sv h J (λae h=>?_) (λae h=>?_))
 .refine X 4 2 ?_;cases h;exact tN [0,1]
 refine B h λx3 hx3 h=>(B h λx4 hx4 h=>(X 2 2 (T.drawn mixed (k:=31) J ?_)))
 apply Su 3 (bm 31 268435455);intro hS2
 .refine rq [0,1,2,4,5,6,8,9,10,12,13,14,15,17,18,19] 15 (rL [16,21,22,23,24,25,26,28,29,30] 16 J (rL [20,21,22,23,24,25,26,28,29,30] 20 J (r0 21 J (eo Sz (λ_=>J) J J J hx3 (rL [3,22,23,24,25,26,28,29,30] 3 J (rL [7,22,23,24,25,26,28,29,30] 7 J (rL [11,22,23,24,25,26,28,29,30] 11 J (ra2 22 27 ?_ ?_))))))))
  .exact oO J (cD (vo hx4) ⟨J,(rq [23,24,25,26] 4 (ra1 27 (og 2 ⟨J,(raE hS2)⟩)))⟩)
  .exact og 2 ⟨J,(ra1 22 (oO J (cD (vo hx4) ⟨J,(rq [23,24,25,26] 3 (raT hS2))⟩)))⟩
 refine ra1 28 (og 3 ⟨J,(rq [29,30] 0 (RA.done (by decide+kernel) (X 6 3 (Sv h J (λap h=>?_) (λap h=>?_)))))⟩)
 .refine X 5 3 ?_;cases h;exact tN [0,1]
 refine X 2 3 (T.drawn mixed (k:=20) J (rq [0,1,2,4,5,6,7,8] 12 (rL [9,10,11,12,13,14,15,16,17,18,19] 9 J (r0 10 J (ai Sz J (ra1 3 (og 3 ⟨J,(rq [11,12] 7 (ra1 13 (og 3 ⟨J,?_⟩)))⟩)))))));refine rq [14,15] 4 (ra1 16 (og 3 ⟨J,(rq [17,18] 1 (ra1 19 (og 3 ⟨J,(RA.done (by decide+kernel) (X 4 3 ?_))⟩)))⟩));cases h;exact tN [0,1]
theorem HX {p0:U Write}{p1 r:U (U UInt8)}(h:sh p0 p1=some r):FnX Qbl 100 [.ref 0,sL bb p0] [aR 9 1 aT p1] (.ref 1) [.dead,aR 9 1 aT r]:=by
 unfold sh at h;refine fT 1 0 Tryz.func100 Tryz.ntmps100 J ?_;refine Uq 0 0 J J J J (X 8 2 (sQ (ai SN J (Y 3 2 (itr (λeY:Int×(U (U UInt8))=>mkA 29 [(0,.ref 1),(7,sL bb p0),(8,iI ((p0).length:Int)),(9,iI eY.1)]) (λeY=>[.dead,aR 9 1 aT eY.2]) h (wk [] [0,1] 2 J) (λeY v_16 h qF=>?_))))));obtain⟨s1,s2⟩:=eY;replace h:mW p0 s1 s2=some v_16:=h;try dsimp only
 unfold mW at h;refine X 5 2 (Sv h J (λf0 h=>?_) (λf0 h=>?_))
 .refine B h λx4 hx4 h=>(X 5 2 (sQ (aB SN (λ_=>J) J J hx4 (Y 6 2 (itr (λaZ:U (U UInt8)=>mkA 29 [(0,.ref 1),(6,.ptr 2 0),(7,sL bb p0),(8,iI ((p0).length:Int)),(9,iI s1)]) (λaZ=>[.dead,aR 9 1 aT aZ,.box (bb x4)]) h (wk [] [0,1,2] 3 J) (λaZ v_21 h ub=>?_))))))
  revert ub h;revert aZ;intro s5 h ub;replace h:uZ s1 x4 s5=some v_21:=h;try dsimp only
  unfold uZ at h;refine X 4 3 (sQ (cP (en:=aT) SI J J (Y 4 3 (Sv h J (λi7 h=>?_) (λi7 h=>?_)))))
  .exact B h λx6 hx6 h=>(X 4 3 (sO (be (rows:=List.map aT [[]]) (vs:=[.str []]) SI TH J J J J J J (sO (bQ (en:=aT) (xs:=s5) (ys:=([[]]:U (U UInt8))) SI (λ_=>J) J J J hx6 J J (Y 2 5 (lk h (wk [] [0,4,2] 5 J))))))))
  refine X 1 3 ?_;replace h:=mi h ub;exact B h λx7 hx7 h=>(B h λx8 hx8 h=>(X 6 3 (sQ (aK (en:=aT) SI J J J hx7 (sO (eK (en:=aT) (a:=x8) (a':=x4.Bytes) Up Uo J (vs:=[.str x4.Bytes]) J J J hx8 J J J (Y 5 3 (lk h (wk [] [0,1] 3 J)))))))))
 refine X 1 2 ?_;replace h:=mi h qF;refine X 5 2 ?_;cases h;exact tO [] [0,1] 2
theorem xD {p0:Disk}{r:Disk×Int}(h:gK p0 p1=some r):Fn Qbl 56 [.agg (co p0),iI p1] (.tup [.agg (co r.1),iI r.2]):=by
 unfold gK at h;refine fT 0 0 Tryz.func56 Tryz.ntmps56 J ?_;refine B h λx2 hx2 h=>(X 10 0 (sO (cF (ni hx2) ⟨J,(Y 7 2 (Sv h J (λae h=>?_) (λae h=>?_)))⟩)))
 .refine X 7 2 ?_;cases h;exact tD
 refine X 2 2 (j1 [(1,iI p1),(2,.ptr 0 0),(4,.ptr 1 0),(21,.bool ((decide (p1<0))||decide (p1> ((p0.Wait).length:Int))))] [.box (co p0),.box [.nils,.nils]] ?_ (λhK=>?_))
 .refine Sv h J (λap h=>?_) (λap h=>?_)
  .refine X 6 2 ?_;cases h;exact tD
  refine B h λx7 hx7 h=>(B h λx8 hx8 h=>(B h λx9 hx9 h=>(X 2 2 (T.drawn mixed (k:=11) J ?_))))
  apply Su 4 (bm 11 127);intro hS4;apply Su 5 (bm 11 123);intro hS5
  .refine rq [0,3,5] 8 (ra2 1 4 ?_ ?_)
   .refine og 2 ⟨J,(ra2 2 4 ?_ ?_)⟩
    .exact oO J (cO 2 (ld hx7) ⟨J,(ra1 4 (og 3 ⟨J,(r0 6 J (eo SN (λ_=>J) J J J hx8 (raE hS4)))⟩))⟩)
    .exact og 2 ⟨J,(r0 6 J (eo SN (λ_=>J) J J J hx8 (raE hS5)))⟩
   .exact og 2 ⟨J,(r0 6 J (eo SN (λ_=>J) J J J hx8 (ra1 1 (og 2 ⟨J,(raT hS5)⟩))))⟩
  .exact ra1 2 (oO J (cO 2 (ld hx7) ⟨J,(raT hS4)⟩))
  refine ra1 7 (oO J (cG [2] 3 2 (HX hx9) ⟨J,(rq [8] 2 (ra1 9 (og 4 ⟨J,(rq [10] 0 (RA.done (by decide+kernel) ?_))⟩)))⟩));cases h;exact tD
 refine X 5 2 (gp 15 (λab=>?_) (λab=>?_))
 .refine Yp 7 2 ?_;rw[ab]at hK;exact sx hK
 refine Y 3 2 (yQ J (ai SN J (Yp 3 2 ?_)));rw[ab]at hK;exact sx hK
theorem Bg {p0:Disk}{r:Disk×Int}(h:nH p0=some r):Fn Qbl 53 [.agg (co p0)] (.tup [.agg (co r.1),iI r.2]):=by
 unfold nH at h;refine fT 0 0 Tryz.func53 Tryz.ntmps53 J ?_;refine B h λx2 hx2 h=>(X 11 0 (sQ (ai SN J (sO (cD (xD hx2) ⟨J,(Y 5 2 ?_)⟩)))))
 cases h;exact tD
theorem HC {p1:U Node}{r:Int×(U (U UInt8))×(U Write)×Int×Int×Int×Int×Int}(h:rX p0 p1 p2 p3 p4 p5 p6 p7 p8 p9 p10 p11 p12 p13 p14 p15 p16 p17 p18=some r):FnX Qbl 29 [.ptr 0 0,iI p0] [.box [sL ao p1,iI p2,iI p3,sL (ak aa) p4,sL aj p5,sL (ak aa) p6,sL aq p7,sL an p8,sL aa p9,sL aT p10,sL bb p11,iI p12,iI p13,iI p14,iI p15,iI p16,.ref 1,.bool p17],aR 75 3 aa p18] (iI r.1) [.box [sL ao p1,iI p2,iI p3,sL (ak aa) p4,sL aj p5,sL (ak aa) p6,sL aq p7,sL an p8,sL aa p9,sL aT r.2.1,sL bb r.2.2.1,iI r.2.2.2.1,iI r.2.2.2.2.1,iI r.2.2.2.2.2.1,iI r.2.2.2.2.2.2.1,iI r.2.2.2.2.2.2.2,.ref 1,.bool p17],aR 75 3 aa p18]:=by
 unfold rX at h;refine fT 2 0 Tryz.func29 Tryz.ntmps29 J ?_;refine B h λx2 hx2 h=>(X 11 2 (sO (cD (Bg hx2) ⟨J,(Y 27 2 (Sv h J (λae h=>?_) (λae h=>?_)))⟩)))
 .refine X 16 2 (T.drawn mixed (k:=20) J (rq [0,1,2,3,4,5,7,8,9] 11 (rL [6,11,12,13,14,15,16,17,18,19] 6 J (ra1 10 (og 2 ⟨J,(rq [11,12] 7 (ra1 13 (og 2 ⟨J,(rq [14,15] 4 ?_)⟩)))⟩)))));refine ra1 16 (og 2 ⟨J,(rq [17,18] 1 (ra1 19 (og 2 ⟨J,(RA.done (by decide+kernel) (X 4 2 ?_))⟩)))⟩);cases h;exact tN [0,1]
 refine X 5 2 ?_;cases h;exact tN [0,1]
theorem HA {p0:Item}(h:uY p0 p1=some r):FnX Qbl 139 [.agg (aa p0),.ptr 0 0] [.box [iI p1]] (.bool r) [.box [iI p1]]:=by unfold uY at h;refine fT 1 13 Tryz.func139 Tryz.ntmps139 J ?_;cases h;exact tN [0]
theorem G1 {p0:U Item}{r:Int}(h:rm p0 p1=some r):FnX Qbl 138 [sL aa p0,.func 139 [.ptr 0 0]] [.box [iI p1]] (iI r) [.box [iI p1]]:=by
 unfold rm at h;refine fT 1 8 Tryz.func138 Tryz.ntmps138 J (sQ (ai Sy J (Y 3 1 (itr (λam:Int=>mkA 19 [(0,sL aa p0),(1,.func 139 [.ptr 0 0]),(7,iI ((p0).length:Int)),(8,iI am)]) (λam=>[.box [iI p1]]) h (wk [] [0] 1 J) (λam v_6 h bu=>?_)))));revert bu h;revert am;intro s1 h bu;replace h:oK p0 p1 s1=some v_6:=h;try dsimp only
 unfold oK at h;refine X 5 1 (Sv h J (λbN h=>?_) (λbN h=>?_))
 .refine B h λx4 hx4 h=>(B h λx5 hx5 h=>(X 13 1 (sQ (aB Sy (λ_=>J) J J hx4 (Y 1 1 (sO (cG [0] 1 1 (HA hx5) ⟨J,(Y 1 1 (Sv h J (λbi h=>?_) (λbi h=>?_)))⟩)))))))
  .refine X 5 1 ?_;replace h:=mi h bu;cases h;exact tN [0]
  exact X 5 1 (lk h (wk [] [0] 1 J))
 refine X 1 1 ?_;replace h:=mi h bu;refine X 4 1 ?_;cases h;exact tN [0]
theorem IZ {p0:U Item}{r:Int×Int}(h:sP p0 p1=some r):Fn Qbl 97 [sL aa p0,iI p1] (.tup [iI r.1,iI r.2]):=by
 unfold sP at h;refine fT 0 10 Tryz.func97 Tryz.ntmps97 J (sQ (ai Sy J (Y 2 1 (Sv h J (λae h=>?_) (λae h=>?_)))))
 .refine X 5 1 ?_;cases h;exact tD
 refine X 2 1 (j1 [(0,sL aa p0),(3,.ptr 0 0),(15,.bool ((decide (p1<0))||decide (p1> 500)))] [.box [iI p1]] ?_ (λhK=>?_))
 .refine Sv h J (λap h=>?_) (λap h=>?_)
  .refine X 5 1 ?_;cases h;exact tD
  refine B h λx3 hx3 h=>(X 5 1 (sO (cG [0] 1 1 (G1 hx3) ⟨J,(Y 8 1 (Sv h J (λaC h=>?_) (λaC h=>?_)))⟩)))
  .refine X 3 1 (sQ (ai Sy J (Y 3 1 ?_)));cases h;exact tD
  refine X 7 1 ?_;cases h;exact tD
 refine X 5 1 (gp 12 (λab=>?_) (λab=>?_))
 .refine Yp 4 1 ?_;rw[ab]at hK;exact sx hK
 refine Yp 4 1 ?_;rw[ab]at hK;exact sx hK
theorem H5 {p0 p1:Item}(h:vj p0 p1=some r):Fn Qbl 36 [.agg (aa p0),.agg (aa p1)] (.bool r):=by
 unfold vj at h;refine fT 0 6 Tryz.func36 Tryz.ntmps36 J (j1 [(4,.bool ((p0.Key==p1.Key)&&p0.Val==p1.Val))] [] ?_ (λhK=>?_))
 .cases h;exact tD
 refine X 8 2 (gp 10 (λae=>?_) (λae=>?_))
 .refine Yp 8 2 ?_;rw[ae]at hK;exact wu hK [] [] 2 J
 refine Yp 8 2 ?_;rw[ae]at hK;exact wu hK [] [] 2 J
theorem GU {p0 p1:U Item}(h:rc p0 p1=some r):Fn Qbl 35 [sL aa p0,sL aa p1,.func 36 []] (.bool r):=by
 unfold rc at h;refine fT 0 8 Tryz.func35 Tryz.ntmps35 J (sQ (ai Sy J (Y 1 0 (sQ (ai Sy J (Y 2 0 (Sv h J (λae h=>?_) (λae h=>?_))))))))
 .refine X 4 0 ?_;cases h;exact tD
 refine X 5 0 (sQ (ai Sy J (Y 3 0 (itr (λaQ:Int=>mkA 32 [(1,sL aa p1),(2,.func 36 []),(15,sL aa p0),(16,iI ((p0).length:Int)),(17,iI aQ)]) (λaQ=>[]) h (wk [] [] 0 J) (λaQ v_7 h bv=>?_)))));revert bv h;revert aQ;intro s1 h bv;replace h:ra p0 p1 s1=some v_7:=h;try dsimp only
 unfold ra at h;refine X 5 0 (Sv h J (λbi h=>?_) (λbi h=>?_))
 .refine B h λx3 hx3 h=>(X 6 0 (sQ (aB Sy (λ_=>J) J J hx3 (B h λx5 hx5 h=>(Y 9 0 (sQ (aB Sy (λ_=>J) J J hx5 (B h λx7 hx7 h=>(Y 9 1 (sO (cF (H5 hx7) ⟨J,(Y 2 2 ?_)⟩)))))))))))
  refine Sv h J (λbY h=>?_) (λbY h=>?_)
  .refine X 4 2 ?_;replace h:=mi h bv;cases h;exact tD
  exact X 5 2 (lk h (wk [] [] 2 J))
 refine X 1 0 ?_;replace h:=mi h bv;refine X 4 0 ?_;cases h;exact tD
theorem AZ {p0 p1:U Item}(h:nA p0 p1=some r):Fn Qbl 10 [sL aa p0,sL aa p1] (.bool r):=by
 unfold nA at h;refine fT 0 4 Tryz.func10 Tryz.ntmps10 J ?_;obtain⟨uw,hz,h⟩:=bind_some h;revert hz h;revert uw;intro c3 hz h;refine j1 [(4,.bool c3)] [] ?_ (λhK=>?_)
 .cases h;exact tD
 refine X 3 0 (sQ (ai Sy J (Y 1 0 (sQ (ai Sy J (Y 2 0 (gi 10 hz (λae hz=>?_) (λae hz=>?_))))))))
 .refine B hz λx1 hx1 hz=>(B hz λx2 hx2 hz=>(Y 3 0 (yQ J (ai Sy J (yO J (pK Sy (λ_=>J) J J J hx1 (yO J (cF (GU hx2) ⟨J,(Yp 3 0 ?_)⟩))))))))
  cases hz;exact sx hK
 refine Yp 9 0 ?_;cases hz;exact sx hK
theorem Io {p0:U Item}{r:(U Item)×Int}(h:sF p0=some r):FnO Qbl 98 [sL aa p0] (.tup [.ref 0,iI r.2]) [aR 75 3 aa r.1]:=by
 unfold sF at h;refine fT 0 9 Tryz.func98 Tryz.ntmps98 J (sQ (ai Sy J (Y 2 0 (Sv h J (λae h=>?_) (λae h=>?_)))))
 .refine X 5 0 ?_;cases h;exact tO [(0,75,3)] [0] 0
 refine B h λx2 hx2 h=>(X 4 0 (sO (cO 0 (fH hx2) ⟨J,(Y 6 1 (sQ (cP (en:=aa) Sy J J (Y 3 1 (itr (λeH:Int×(U Item)=>mkA 22 [(4,.ref 0),(12,iI ((x2).length:Int)),(13,iI eH.1)]) (λeH=>[aR 75 3 aa eH.2]) h (wk [] [0] 1 J) (λeH v_5 h Am=>?_))))))⟩)))
 obtain⟨s3,s4⟩:=eH;replace h:ne x2 s3 s4=some v_5:=h;try dsimp only
 unfold ne at h;refine X 5 1 (Sv h J (λaM h=>?_) (λaM h=>?_))
 .exact B h λx5 hx5 h=>(B h λx6 hx6 h=>(X 11 1 (sQ (aK (en:=aa) Sy J J J hx5 (Y 1 1 (sO (eK (en:=aa) (a:=x6) (a':=(⟨x6.Key,x6.Val,0⟩:Item)) S0 Tl J (vs:=[iI 0]) J J J hx6 J J J (Y 5 1 (lk h (wk [] [0] 1 J))))))))))
 refine X 1 1 ?_;replace h:=mi h Am;refine X 6 1 ?_;cases h;exact tO [] [0] 1
theorem A5 {p0 p1:U Item}{r:(U Item)×Int}(h:pE p0 p1 p2=some r):FnO Qbl 54 [sL aa p0,sL aa p1,iI p2] (.tup [.ref 0,iI r.2]) [aR 75 3 aa r.1]:=by
 unfold pE at h;refine fT 0 9 Tryz.func54 Tryz.ntmps54 J (sQ (ai Sy J (Y 2 0 (Sv h J (λae h=>?_) (λae h=>?_)))))
 .refine X 5 0 ?_;cases h;exact tO [(0,75,3)] [0] 0
 refine B h λx2 hx2 h=>(X 5 0 (sO (cF (IZ hx2) ⟨J,(Y 12 0 (Sv h J (λab h=>?_) (λab h=>?_)))⟩)))
 .refine X 6 0 ?_;cases h;exact tO [(0,75,3)] [0] 0
 refine B h λx3 hx3 h=>(X 2 0 ?_)
 obtain⟨oF,hz,h⟩:=bind_some h;revert hz h;revert oF;intro c5 hz h;refine j1 [(0,sL aa p0),(1,sL aa p1),(8,iI x2.1),(31,.bool c5)] [] ?_ (λhK=>?_)
 .refine Sv h J (λaI h=>?_) (λaI h=>?_)
  .refine X 5 0 ?_;cases h;exact tO [(0,75,3)] [0] 0
  refine X 6 0 (sQ (ai Sy J (Y 2 0 (Sv h J (λaM h=>?_) (λaM h=>?_)))))
  .refine X 5 0 ?_;cases h;exact tO [(0,75,3)] [0] 0
  refine B h λx8 hx8 h=>(B h λx9 hx9 h=>(X 5 0 (sQ (ai Sy J (Y 1 0 (sO (pK Sy (λ_=>J) J J J hx8 (sO (cO 0 (Io hx9) ⟨J,(Y 5 1 ?_)⟩)))))))))
  cases h;exact tO [] [0] 1
 refine X 4 0 (sO (cF (AZ hx3) ⟨J,(Y 2 0 (gi 26 hz (λap hz=>?_) (λap hz=>?_)))⟩))
 .refine B hz λx4 hx4 hz=>(Y 2 0 (yO J (cF (AZ hx4) ⟨J,(Yp 3 0 ?_)⟩)))
  cases hz;exact sx hK
 refine Yp 6 0 ?_;cases hz;exact sx hK
theorem HO {p1:U Node}{r:Int×(U Item)}(h:r7 p0 p1 p2 p3 p4 p5 p6 p7 p8 p9 p10 p11 p12 p13 p14 p15 p16 p17 p18=some r):FnX Qbl 30 [.ptr 0 0,iI p0] [.box [sL ao p1,iI p2,iI p3,sL (ak aa) p4,sL aj p5,sL (ak aa) p6,sL aq p7,sL an p8,sL aa p9,sL aT p10,sL bb p11,iI p12,iI p13,iI p14,iI p15,iI p16,.ref 1,.bool p17],aR 75 3 aa p18] (iI r.1) [.box [sL ao p1,iI p2,iI p3,sL (ak aa) p4,sL aj p5,sL (ak aa) p6,sL aq p7,sL an p8,sL aa p9,sL aT p10,sL bb p11,iI p12,iI p13,iI p14,iI p15,iI p16,.ref 2,.bool p17],.dead,aR 75 3 aa r.2]:=by
 unfold r7 at h;refine fT 2 0 Tryz.func30 Tryz.ntmps30 J ?_;refine mO 0 16 1 2 (B h λx2 hx2 h=>(X 5 3 (T.drawn mixed (k:=19) J (rq [0,1,2,4,5,6,7,9,10,11] 9 (rL [3,13,14,15,16,17,18] 3 J (rL [8,13,14,15,16,17,18] 8 J (ra1 12 (og 3 ⟨J,(ra1 13 ?_)⟩))))))));refine oO J (cO 3 (A5 hx2) ⟨J,(rq [14,15,16,17,18] 0 (RA.done (by decide+kernel) (X 6 4 (Sv h J (λae h=>?_) (λae h=>?_)))))⟩)
 .refine X 5 4 ?_;cases h;exact tN [0,1,2]
 refine B h λx4 hx4 h=>(X 9 4 (sO (bQ (en:=aa) (xs:=p18) (ys:=x2.1) Sy (λ_=>J) J J J hx4 J J (Y 8 5 ?_))))
 cases h;exact tN [0,1,4]
theorem HT {p1:U Node}{r:Int×(U Int)×(U (U Item))×(U Memory)×(U Choice)×(U Item)×(U (U UInt8))×(U Write)×Int×Int×Int×Int×Int×Bool}(h:sa p0 p1 p2 p3 p4 p5 p6 p7 p8 p9 p10 p11 p12 p13 p14 p15 p16 p17 p18=some r):FnX Qbl 31 [.ptr 0 0,iI p0] [.box [sL ao p1,iI p2,iI p3,sL (ak aa) p4,sL aj p5,sL (ak aa) p6,sL aq p7,sL an p8,sL aa p9,sL aT p10,sL bb p11,iI p12,iI p13,iI p14,iI p15,iI p16,.ref 1,.bool p17],aR 75 3 aa p18] (iI r.1) [.box [sL ao p1,iI p2,iI p3,sL (ak aa) p4,sL aj r.2.1,sL (ak aa) r.2.2.1,sL aq r.2.2.2.1,sL an r.2.2.2.2.1,sL aa r.2.2.2.2.2.1,sL aT r.2.2.2.2.2.2.1,sL bb r.2.2.2.2.2.2.2.1,iI r.2.2.2.2.2.2.2.2.1,iI r.2.2.2.2.2.2.2.2.2.1,iI r.2.2.2.2.2.2.2.2.2.2.1,iI r.2.2.2.2.2.2.2.2.2.2.2.1,iI r.2.2.2.2.2.2.2.2.2.2.2.2.1,.ref 1,.bool r.2.2.2.2.2.2.2.2.2.2.2.2.2],aR 75 3 aa p18]:=by
 unfold sa at h;refine fT 2 0 Tryz.func31 Tryz.ntmps31 J ?_;refine B h λx2 hx2 h=>(X 11 2 (sO (cD (xD hx2) ⟨J,(Y 13 2 (Sv h J (λae h=>?_) (λae h=>?_)))⟩)))
 .refine X 5 3 ?_;cases h;exact tN [0,1]
 refine B h λx4 hx4 h=>(X 2 3 (T.drawn mixed (k:=15) J ?_))
 apply Su 2 (bm 15 8191);intro hS2
 .refine rq [0,1,2,4,5,6] 9 (rL [3,8,9,10,11,13,14] 3 J (rL [7,8,9,10,11,13,14] 7 J (ra2 8 12 ?_ ?_)))
  .exact oO J (cG [] 3 5 (SG (sw hx4)) ⟨J,(rq [9,10,11] 3 (ra1 12 (og 8 ⟨J,(raE hS2)⟩)))⟩)
  .exact og 3 ⟨J,(ra1 8 (oO J (cG [] 4 5 (SG (sw hx4)) ⟨J,(rq [9,10,11] 2 (raV hS2 [0,1,2,4,5,6,7,8,3] J))⟩)))⟩
 refine ra1 13 (og 9 ⟨J,(rq [14] 0 (RA.done (by decide+kernel) (X 1 9 (T.drawn mixed (k:=34) J ?_))))⟩);apply Su 19 (bm 34 32767);intro hS3
 .refine rq [0,1,2,3,4,5,6,7] 26 (rL [8,10,11,12,13,14,15,16,17,18,19,20,21,22,23,24,25,26,27,28,29,30,31,32,33] 8 J (rq [10,11] 23 (ra2 9 12 ?_ ?_)))
  .exact og 9 ⟨J,(ra1 12 (og 9 ⟨J,(rq [13,14] 19 (raE hS3))⟩))⟩
  .exact og 9 ⟨J,(ra1 9 (og 9 ⟨J,(rq [13,14] 19 (raT hS3))⟩))⟩
 refine ra1 15 (og 9 ⟨J,(rq [16,17] 16 (ra1 18 (og 9 ⟨J,(rq [19,20] 13 (ra1 21 (og 9 ⟨J,(rq [22,23] 10 (ra1 24 ?_))⟩)))⟩)))⟩);refine og 9 ⟨J,(rq [25,26] 7 (ra1 27 (og 9 ⟨J,(rq [28,29] 4 (ra1 30 (og 9 ⟨J,(rq [31,32] 1 (ra1 33 (og 9 ⟨J,?_⟩)))⟩)))⟩)))⟩;refine RA.done (by decide+kernel) (X 4 9 (T.fC 3 (T.fC 4 (T.fC 5 (T.fC 6 (T.fC 7 ?_))))));cases h;exact tN [0,1]
theorem Bh {p0:U UInt8}{r:(U (U UInt8))×Int×Int}(h:pH p0=some r):FnO Qbl 102 [.str p0] (.tup [.ref 0,iI r.2.1,iI r.2.2]) [aR 9 1 aT r.1]:=by
 unfold pH at h;refine fT 0 13 Tryz.func102 Tryz.ntmps102 J (Sv h J (λae h=>?_) (λae h=>?_))
 .refine X 6 0 ?_;cases h;exact tO [(0,9,1)] [0] 0
 refine X 3 0 (itr (λbp:Int×(U (U UInt8))=>mkA 66 [(0,.str p0),(2,.ref 0),(3,iI bp.1)]) (λbp=>[aR 9 1 aT bp.2]) h (wk [(2,9,1)] [0] 0 J) (λbp v_13 h gZ=>?_));obtain⟨s1,s2⟩:=bp;replace h:hM p0 s1 s2=some v_13:=h;try dsimp only
 unfold hM at h;refine X 8 1 (Sv h J (λg6 h=>?_) (λg6 h=>?_))
 .refine B h λx4 hx4 h=>(X 6 1 (sO (nF Vd J J J hx4 (B h λx6 hx6 h=>(Y 5 1 (sQ (dq Vd J J hx6 (Y 4 1 (j1 [(0,.str p0),(2,.ref 0),(3,iI s1),(5,.str x4),(6,iI (IntKind.i64.wrap (x6.toNat:Int))),(33,.bool ((decide ((IntKind.i64.wrap (x6.toNat:Int))<1))||((decide ((IntKind.i64.wrap (x6.toNat:Int))> 60))||decide (((x4).length:Int)<(IntKind.i64.wrap ((IntKind.i64.wrap (x6.toNat:Int))+3))))))] [aR 9 1 aT s2] ?_ (λhK=>?_))))))))))
  .refine Sv h J (λf0 h=>?_) (λf0 h=>?_)
   .refine X 1 1 ?_;replace h:=mi h gZ;refine X 8 1 ?_;cases h;exact tO [] [0] 1
   refine B h λx10 ba h=>(B h λx11 bA h=>(X 6 1 (sO (nF Vd J J J ba (sO (cF (Bw bA) ⟨J,(B h λx15 cU h=>(B h λx16 d7 h=>(B h λx17 cz h=>(Y 4 1 (T.drawn mixed (k:=14) J ?_)))))⟩))))))
   refine rq [0,1,2] 11 (r0 3 J (dq Vd J J cU (rq [4] 9 (r0 5 J (v_shl J J d7 (rq [6,7,8] 5 (r0 9 J (dq Vd J J cz (rq [10,11,12,13] 0 (RA.done (by decide+kernel) (Sv h J (λcC h=>?_) (λcC h=>?_))))))))))))
   .refine X 1 1 ?_;replace h:=mi h gZ;refine X 8 1 ?_;cases h;exact tO [] [0] 1
   exact B h λx20 dS h=>(B h λx21 je h=>(X 7 1 (sO (nF Vd J J J dS (sO (be (rows:=List.map aT [x20]) (vs:=[.str x20]) SI TH J J J J J J (sO (bQ (en:=aT) (xs:=s2) (ys:=([x20]:U (U UInt8))) SI (λ_=>J) J J J je J J (Y 9 3 (lk h (wk [] [2] 3 J)))))))))))
  refine X 5 1 (gp 23 (λfF=>?_) (λfF=>?_))
  .refine Yp 11 1 ?_;rw[fF]at hK;exact sx hK
  refine Yp 4 1 (gp 27 (λfG=>?_) (λfG=>?_))
  .refine Yp 7 1 ?_;rw[fF]at hK;rw[fG]at hK;exact sx hK
  refine Yp 7 1 ?_;rw[fF]at hK;rw[fG]at hK;exact sx hK
 refine X 1 1 ?_;replace h:=mi h gZ;refine X 8 1 ?_;cases h;exact tO [] [0] 1
theorem AI {p2:U (U UInt8)}{p3:U Write}{r:(U UInt8)×Bool}(h:pf p0 p1 p2 p3=some r):FnX Qbl 101 [iI p0,.ptr 0 0,.ptr 1 0] [.box [iI p1],.box [sL aT p2,sL bb p3]] (.tup [.str r.1,.bool r.2]) [.box [iI p1],.box [sL aT p2,sL bb p3]]:=by
 unfold pf at h;refine fT 2 19 Tryz.func101 Tryz.ntmps101 J (sQ (ai SI J (Y 2 2 (Sv h J (λae h=>?_) (λae h=>?_)))))
 .refine X 5 2 ?_;cases h;exact tN [0,1]
 refine B h λx3 hx3 h=>(B h λx4 hx4 h=>(X 6 2 (sQ (aB SI (λ_=>J) J J hx3 (Y 1 2 (sO (cO 2 (Bh hx4) ⟨J,(Y 9 3 ?_)⟩)))))))
 obtain⟨uk,hz,h⟩:=bind_some h;revert hz h;revert uk;intro c11 hz h;refine j1 [(7,.ref 2),(57,.bool c11)] [.box [iI p1],.box [sL aT p2,sL bb p3],aR 9 1 aT x4.1] ?_ (λhK=>?_)
 .refine Sv h J (λaM h=>?_) (λaM h=>?_)
  .refine X 5 3 ?_;cases h;exact tN [0,1]
  refine B h λx14 cI h=>(B h λx15 cU h=>(X 4 3 (sQ (aK (en:=aT) SI J J J cI (sO (aU (en:=aT) (a:=x15) J J cU (aN Tt (c:=.str x15) J (Y 3 3 ?_))))))))
  cases h;exact tN [0,1]
 refine X 3 3 (sQ (cP (en:=aT) SI J J (Y 2 3 (gi 32 hz (λab hz=>?_) (λab hz=>?_)))))
 .refine Yp 26 3 ?_;cases hz;exact sx hK
 refine B hz λx5 hx5 hz=>(Y 4 3 (yQ J (aB SI (λ_=>J) J J hx5 (Yp 5 3 (gi 42 hz (λap hz=>?_) (λap hz=>?_))))))
 .refine Yp 16 3 ?_;cases hz;exact sx hK
 refine B hz λx6 hx6 hz=>(B hz λx7 hx7 hz=>(Y 1 3 (yQ J (aK (en:=aT) SI J J J hx6 (yO J (aU (en:=aT) (a:=x7) J J hx7 (aN Tt (c:=.str x7) J (Yp 4 3 (gi 49 hz (λaC hz=>?_) (λaC hz=>?_))))))))))
 .refine Yp 9 3 ?_;cases hz;exact sx hK
 refine B hz λx8 hx8 hz=>(B hz λx9 hx9 hz=>(B hz λx10 ba hz=>(Y 1 3 (yQ J (aK (en:=aT) SI J J J hx8 (yO J (aU (en:=aT) (a:=x9) J J hx9 (aN Tt (c:=.str x9) J (yQ J (dq Vd J J ba (Yp 5 3 ?_)))))))))))
 cases hz;exact sx hK
theorem BN {p0:Disk}{r:(U UInt8)×Int×Int}(h:nQ p0 p1=some r):Fn Qbl 57 [.agg (co p0),iI p1] (.tup [.str r.1,iI r.2.1,iI r.2.2]):=by
 unfold nQ at h;refine fT 0 0 Tryz.func57 Tryz.ntmps57 J ?_;refine B h λx2 hx2 h=>(X 12 0 (sO (cF (ni hx2) ⟨J,(Y 7 2 (Sv h J (λae h=>?_) (λae h=>?_)))⟩)))
 .refine X 7 2 ?_;cases h;exact tD
 refine X 2 2 (j1 [(2,.ptr 0 0),(3,.ptr 1 0),(4,.str []),(25,.bool ((decide (p1<0))||decide (p1> 1)))] [.box (co p0),.box [iI p1]] ?_ (λhK=>?_))
 .refine Sv h J (λap h=>?_) (λap h=>?_)
  .refine X 6 2 ?_;cases h;exact tD
  refine B h λx5 hx5 h=>(X 9 2 (sO (cG [1,0] 2 2 (AI hx5) ⟨J,(Y 7 2 ?_)⟩)))
  obtain⟨uA,hz,h⟩:=bind_some h;revert hz h;revert uA;intro c8 hz h;refine j1 [(4,.str []),(8,.func 101 [.ptr 0 0,.ptr 1 0]),(9,.str x5.1),(50,.bool c8)] [.box [iI p1],.box (co p0)] ?_ (λhK=>?_)
  .refine Sv h J (λbi h=>?_) (λbi h=>?_)
   .refine X 6 2 ?_;cases h;exact tD
   refine X 7 2 (itr (λcB:(U UInt8)×Int=>mkA 112 [(4,.str cB.1),(8,.func 101 [.ptr 0 0,.ptr 1 0]),(9,.str x5.1),(11,iI cB.2)]) (λcB=>[.box [iI p1],.box (co p0)]) h (wk [] [0,1] 2 J) (λcB v_30 h eF=>?_));obtain⟨s9,s10⟩:=cB;replace h:nD p0 p1 x5 s9 s10=some v_30:=h;try dsimp only
   unfold nD at h;refine B h λx12 bB h=>(X 5 2 (sQ (dq Vd J J bB (Y 3 2 (Sv h J (λja h=>?_) (λja h=>?_))))))
   .refine B h λx14 cI h=>(X 7 2 (sO (cG [0,1] 2 2 (AI cI) ⟨J,(Y 6 2 ?_)⟩)))
    obtain⟨P6,hz,h⟩:=bind_some h;revert hz h;revert P6;intro c16 hz h;refine j1 [(4,.str s9),(8,.func 101 [.ptr 0 0,.ptr 1 0]),(9,.str x5.1),(11,iI s10),(12,.str x14.1),(13,.bool x14.2),(14,.bool c16)] [.box [iI p1],.box (co p0)] ?_ (λhK=>?_)
    .refine X 1 2 ?_;obtain⟨P7,hz,h⟩:=bind_some h;revert hz h;revert P7;intro c21 hz h;refine j1 [(4,.str s9),(8,.func 101 [.ptr 0 0,.ptr 1 0]),(9,.str x5.1),(11,iI s10),(12,.str x14.1),(103,.bool c21)] [.box [iI p1],.box (co p0)] ?_ (λhK=>?_)
     .refine Sv h J (λkW h=>?_) (λkW h=>?_)
      .refine X 6 2 ?_;replace h:=mi h eF;cases h;exact tD
      exact B h λx22 eS h=>(B h λx23 bO h=>(X 4 2 (sO (nF Vd J J J eS (sQ (qv J J bO (Y 7 2 (lk h (wk [] [0,1] 2 J)))))))))
     refine X 1 2 ?_;rcases bf (!x14.2)with cW|cW
     .replace hz:=bH hz cW;refine T.drawn mixed (k:=20) J (rq [0,1,2] 17 (r2 3 J cW (r2 4 J cW (r2 5 J cW (r2 6 J cW (r2 7 J cW (r0 8 J (bg (v:=.bool true) J cW J (rq [9] 10 (r2 10 J J ?_))))))))));exact r2 11 J J (r2 12 J J (r2 13 J J (r2 14 J J (r0 15 J (bg (v:=.bool true) J J J (rq [16] 3 (r2 17 J J (r2 18 J J (r0 19 J (bg (v:=.bool true) J J J (RA.done (by decide+kernel) (T.sub hK ⟨J,J,J,J,J,(congrArg AV.bool ((congrArg (λp=>p) (QH hz)).symm)).symm,tqz⟩))))))))))))
     replace hz:=bG hz cW;refine B hz λx17 cz hz=>(B hz λx18 b7 hz=>?_)
     rcases bf ((x17.toNat:Int)!=(x18.toNat:Int))with aJ|aJ
     .replace hz:=bH hz aJ;refine T.drawn mixed (k:=20) J (rq [0,1,2] 17 (ry 3 cW J (r1 4 J cW (dq Vd J J cz (ry 5 cW J (r1 6 J cW (dq Vd J J b7 (ry 7 cW J (r0 8 J (aP (v:=.bool ((x17.toNat:Int)!=(x18.toNat:Int))) J cW J (rq [9] 10 (r2 10 J aJ ?_))))))))))));exact r2 11 J aJ (r2 12 J aJ (r2 13 J aJ (r2 14 J aJ (r0 15 J (bg (v:=.bool true) J aJ J (rq [16] 3 (r2 17 J J (r2 18 J J (r0 19 J (bg (v:=.bool true) J J J (RA.done (by decide+kernel) (T.sub hK ⟨J,J,J,J,J,(congrArg AV.bool ((congrArg (λp=>p) (QH hz)).symm)).symm,tqz⟩))))))))))))
     replace hz:=bG hz aJ;refine B hz λx19 cM hz=>(B hz λx20 dS hz=>?_)
     rcases bf ((x19.toNat:Int)!=(x20.toNat:Int))with dF|dF
     .replace hz:=bH hz dF;refine T.drawn mixed (k:=20) J (rq [0,1,2] 17 (ry 3 cW J (r1 4 J cW (dq Vd J J cz (ry 5 cW J (r1 6 J cW (dq Vd J J b7 (ry 7 cW J (r0 8 J (aP (v:=.bool ((x17.toNat:Int)!=(x18.toNat:Int))) J cW J (rq [9] 10 (ry 10 aJ J ?_))))))))))));exact r1 11 J aJ (dq Vd J J cM (ry 12 aJ J (r1 13 J aJ (dq Vd J J dS (ry 14 aJ J (r0 15 J (aP (v:=.bool ((x19.toNat:Int)!=(x20.toNat:Int))) J aJ J (rq [16] 3 (r2 17 J dF (r2 18 J dF (r0 19 J (bg (v:=.bool true) J dF J (RA.done (by decide+kernel) (T.sub hK ⟨J,J,J,J,J,(congrArg AV.bool ((congrArg (λp=>p) (QH hz)).symm)).symm,tqz⟩))))))))))))))
     replace hz:=bG hz dF;refine T.drawn mixed (k:=20) J (rq [0,1,2] 17 (ry 3 cW J (r1 4 J cW (dq Vd J J cz (ry 5 cW J (r1 6 J cW (dq Vd J J b7 (ry 7 cW J (r0 8 J (aP (v:=.bool ((x17.toNat:Int)!=(x18.toNat:Int))) J cW J (rq [9] 10 (ry 10 aJ J ?_))))))))))));exact r1 11 J aJ (dq Vd J J cM (ry 12 aJ J (r1 13 J aJ (dq Vd J J dS (ry 14 aJ J (r0 15 J (aP (v:=.bool ((x19.toNat:Int)!=(x20.toNat:Int))) J aJ J (rq [16] 3 (ry 17 dF J (ry 18 dF J (r0 19 J (aP (v:=.bool (!c16)) J dF J (RA.done (by decide+kernel) (T.sub hK ⟨J,J,J,J,J,(congrArg AV.bool ((congrArg (λp=>p) (QH hz)).symm)).symm,tqz⟩))))))))))))))
    refine X 6 2 ?_;rcases bf (((x14.1).length:Int)==53)with ed|ed
    .replace hz:=bH hz ed;exact gT 67 ed (Yp 18 2 (T.sub hK ⟨J,J,J,J,J,J,(congrArg AV.bool ((congrArg (λp=>p) (QH hz)).symm)).symm,tqz⟩))
    replace hz:=bG hz ed;refine B hz λx15 cU hz=>(yg 2 ed (yg 2 ed (yQ ed (dq Vd J J cU (yg 2 ed (yg 2 ed (yg 2 ed ?_)))))))
    rcases bf (s10==(IntKind.i64.wrap (x15.toNat:Int)))with gB|gB
    .replace hz:=bH hz gB;refine yg 2 gB (yg 2 gB (yg 2 gB (yQ ed (bg (v:=.bool (decide (((x14.1).length:Int)> 3))) J gB J (yg 2 ed ?_)))));rcases bf (decide (((x14.1).length:Int)> 3))with kT|kT
     .replace hz:=bH hz kT;exact gT 78 kT (Y 3 2 (gF 67 ed (Yp 4 2 (T.sub hK ⟨J,J,J,J,J,J,(congrArg AV.bool ((congrArg (λp=>p) (QH hz)).symm)).symm,tqz⟩))))
     replace hz:=bG hz kT;exact gF 78 kT (Y 3 2 (gF 67 ed (Yp 4 2 (T.sub hK ⟨J,J,J,J,J,J,(congrArg AV.bool ((congrArg (λp=>p) (QH hz)).symm)).symm,tqz⟩))))
    replace hz:=bG hz gB;exact gF 73 gB (Y 3 2 (gF 67 ed (Yp 9 2 (T.sub hK ⟨J,J,J,J,J,J,(congrArg AV.bool ((congrArg (λp=>p) (QH hz)).symm)).symm,tqz⟩))))
   refine X 1 2 ?_;replace h:=mi h eF;refine B h λx25 eJ h=>(X 1 2 (T.drawn mixed (k:=7) J (rq [0,1] 5 (r0 2 J (dq Vd J J eJ (rq [3,4,5,6] 0 (RA.done (by decide+kernel) ?_)))))))
   cases h;exact tD
  refine X 5 2 (gi 34 hz (λaC hz=>?_) (λaC hz=>?_))
  .refine Yp 17 2 ?_;cases hz;exact wu hK [] [1,0] 2 J
  refine Yp 5 2 (gi 39 hz (λaI hz=>?_) (λaI hz=>?_))
  .refine Yp 12 2 ?_;cases hz;exact wu hK [] [1,0] 2 J
  refine B hz λx6 hx6 hz=>(Y 1 2 (yQ J (dq Vd J J hx6 (Yp 4 2 (gi 45 hz (λaM hz=>?_) (λaM hz=>?_))))))
  .refine Yp 6 2 ?_;cases hz;exact wu hK [] [1,0] 2 J
  refine B hz λx7 hx7 hz=>(Y 1 2 (yQ J (dq Vd J J hx7 (Yp 4 2 ?_))))
  cases hz;exact wu hK [] [1,0] 2 J
 refine X 5 2 (gp 22 (λab=>?_) (λab=>?_))
 .refine Yp 4 2 ?_;rw[ab]at hK;exact sx hK
 refine Yp 4 2 ?_;rw[ab]at hK;exact sx hK
theorem aW {p0:U UInt8}{r:(Int×(U UInt8))⊕Unit}(h:dT p0=some r):FnP Qbl (.iface 173 (.agg #[])) 105 [.ptr 0 0] [.box [.str p0]] (λr:Int×(U UInt8)=>iI r.1) (λr=>[.box [.str r.2]]) r:=by
 unfold dT at h;refine fnPT 1 Tryz.func105 Tryz.ntmps105 ?_;refine q0 ?_;refine X 20 1 (itr (λam:Int×Int=>mkA 55 [(0,.ptr 0 0),(2,iI 0),(3,.int .u64 am.1),(10,iI (if((p0).length:Int)<10 then((p0).length:Int)else 10)),(11,iI am.2)]) (λam=>[.box [.str p0]]) h (wk [] [0] 1 J) (λam v_6 h bu=>?_));obtain⟨s1,s2⟩:=am;replace h:eT p0 s1 s2=some v_6:=h;try dsimp only
 unfold eT at h;refine X 5 1 (Sv h J (λbN h=>?_) (λbN h=>?_))
 .refine B h λx5 hx5 h=>(B h λx6 hx6 h=>(X 16 1 (sQ (dq Vd J J hx5 (Y 4 1 (sQ (v_shl J J hx6 (B h λx8 hx8 h=>(Y 10 1 (sQ (dq Vd J J hx8 (Y 2 1 ?_))))))))))))
  refine Sv h J (λbi h=>?_) (λbi h=>?_)
  .refine B h λx10 ba h=>(X 9 1 (sO (nF Vd J J J ba (B h λx12 bB h=>(Y 7 1 (sQ (jI J J bB (Y 8 1 ?_))))))))
   replace h:=mi h bu;cases h;exact tN [0]
  exact X 5 1 (lk h (wk [] [0] 1 J))
 refine X 1 1 ?_;replace h:=mi h bu;cases h;(refine SZ (V:=(.iface 173 (.agg #[]))) 2 J ?_);exact go 1 1 (sO (lQ Vi J J (RS.nil (PP.panic J J))))
theorem AA {p0:U UInt8}{r:((U Int)×(U UInt8))⊕Unit}(h:oW p0=some r):FnP Qbl (.iface 173 (.agg #[])) 104 [.ptr 0 0,.bnd 105 [.ptr 0 0]] [.box [.str p0]] (λr:(U Int)×(U UInt8)=>.ref 1) (λr=>[.box [.str r.2],aR 3 1 aj r.1]) r:=by
 unfold oW at h;refine fnPT 1 Tryz.func104 Tryz.ntmps104 ?_;refine q0 ?_;refine X 5 1 (da h (λhx2 h=>?_) (λx2 hx2 h=>?_))
 .cases h;(refine SZ (V:=(.iface 173 (.agg #[]))) 1 J ?_);exact go 1 1 (RS.nil (qc (aw2:=[.dead]) (n0:=1) (n1:=1) [0] J J (aW hx2) (aE J ⟨aL J,tqz⟩ aA) ⟨al J,tqz⟩ ⟨.inl ⟨0,_,by decide,J,tqz⟩,tqz⟩ J))
 refine X 2 1 (sO (bt (aw2:=[.box [.str x2.2]]) (v':=iI x2.1) (n0:=1) (n1:=1) [0] J J (aW hx2) (aE J ⟨aL J,tqz⟩ aA) ⟨al J,tqz⟩ (au (aO _ _)) ⟨.inl ⟨0,_,by decide,J,aX ⟨au (bd _),tqz⟩⟩,tqz⟩ (Y 3 1 (j1 [(1,.bnd 105 [.ptr 0 0]),(5,iI x2.1),(19,.bool ((decide (x2.1<0))||decide (x2.1> ((x2.2).length:Int))))] [.box [.str x2.2]] ?_ (λhK=>?_)))))
 .refine Sv h J (λab h=>?_) (λab h=>?_)
  .cases h;(refine SZ (V:=(.iface 173 (.agg #[]))) 2 J ?_);exact go 1 1 (sO (lQ Vi J J (RS.nil (PP.panic J J))))
  refine X 12 1 (itr (λam:Int×(U UInt8)×(U Int)=>mkA 32 [(1,.bnd 105 [.ptr 0 0]),(6,.ref 1),(22,iI x2.1),(23,iI am.1)]) (λam=>[.box [.str am.2.1],aR 3 1 aj am.2.2]) h (wk [(6,3,1)] [0,1] 1 J) (λam v_6 h bu=>?_));obtain⟨s4,s5,s6⟩:=am;replace h:j3 x2 s4 s5 s6=some v_6:=h;try dsimp only
  unfold j3 at h;refine X 5 2 (Sv h J (λbN h=>?_) (λbN h=>?_))
  .refine X 3 2 (da h (λhx7 h=>?_) (λx7 hx7 h=>?_))
   .replace h:=mi h bu;cases h;(refine SZ (V:=(.iface 173 (.agg #[]))) 2 J ?_);exact go 2 2 (RS.nil (qcb (aw2:=[.dead,aR 3 1 aj s6]) (n0:=2) (n1:=1) [0] J J (aW hx7) (aE J ⟨aL J,tqz⟩ aA) ⟨al J,tqz⟩ ⟨.inl ⟨0,_,by decide,J,tqz⟩,.inr ⟨J,J⟩,tqz⟩ J))
   refine B h λx8 hx8 h=>(X 3 2 (sO (yf (aw2:=[.box [.str x7.2],aR 3 1 aj s6]) (v':=iI x7.1) (n0:=2) (n1:=1) [0] J J (aW hx7) (aE J ⟨aL J,tqz⟩ aA) ⟨al J,tqz⟩ (au (aO _ _)) ⟨.inl ⟨0,_,by decide,J,aX ⟨au (bd _),tqz⟩⟩,.inr ⟨J,J⟩,tqz⟩ (sO (be (rows:=List.map aj [x7.1]) (vs:=[iI x7.1]) Sx SP J J J J J J (sO (bQ (en:=aj) (xs:=s6) (ys:=([x7.1]:U Int)) Sx (λ_=>J) J J J hx8 J J (Y 6 4 ?_))))))))
   exact lk h (wk [] [0,3] 4 J)
  refine X 1 2 ?_;replace h:=mi h bu;refine X 5 2 ?_;cases h;exact tO [] [0,1] 2
 refine X 5 1 (gp 11 (λae=>?_) (λae=>?_))
 .refine Yp 9 1 ?_;rw[ae]at hK;exact sx hK
 refine Yp 9 1 ?_;rw[ae]at hK;exact sx hK
end
end
section
open Go.RowKit
section
variable {P:Program} {N n:Nat} {σ:List Value} {w:World} {F:Nat→Prop} {aw aw':List Ob} {l:List (Nat×AV)} {K2:AV→List Ob→Prop} {d:Option Tmp} {ty:TypeId} {ps:String} {af:Array Edge} {g:Option (Nat×Bool)}
variable {o:Ob}{v:Value}{t off e:Nat}{x:Operand}{cs:U AV}
theorem M0 {id:Nat}{o':Ob}(h:Sim aw σ w F)(ho:aw[id]?=some o)(hl:o.live=true)(hv:σ[id]?=some v)(hr:ORel σ w F o' v)(hb:∀b,Bk o' v b->Bk o v b):
  Sim (aw.set id o') σ w F/\∀b,Dof (aw.set id o') σ b->Dof aw σ b:=by
 have old:∀(k:Nat) p u b,(aw.set id o')[k]?=some p->p.live=true->σ[k]?=some u->Bk p u b->∃q,aw[k]?=some q/\q.live=true/\Bk q u b:=λk p u b hp hpl hu hbk=>by grind
 refine⟨⟨by rw[Rw];exact h.len,λk p u hp hu=>?_,λk k' p p' u u' b hne hp hp' hpl hpl' hu hu' hbk hbk'=>?_,h.lt⟩,λb hd=>?_⟩
 .rcases bV hp with⟨rfl,rfl,_⟩|⟨_,h2⟩
  .grind
  .exact h.obj k p u h2 hu
 .obtain⟨q,h1,h2,h3⟩:=old k p u b hp hpl hu hbk
  obtain⟨q',h1',h2',h3'⟩:=old k' p' u' b hp' hpl' hu' hbk'
  exact h.sep k k' q q' u u' b hne h1 h1' h2 h2' hu hu' h3 h3'
 .obtain⟨k,p,u,hp,hpl,hu,hbk⟩:=hd
  obtain⟨q,h1,h2,h3⟩:=old k p u b hp hpl hu hbk
  exact⟨k,q,u,h1,h2,hu,h3⟩
theorem NF {aw0 aw2:U Ob}{σ0:U Value}{w0:World}{F0:Nat->Prop}(h:Mv aw0 σ0 w0 F0 aw σ w F)(hd:∀b,Dof aw2 σ b->Dof aw σ b):Mv aw0 σ0 w0 F0 aw2 σ w F:=
 ⟨h.os,h.tape,h.output,h.size,h.keep,h.pre,h.sub,h.sup,λb hb=>h.own b (hd b hb)⟩
def unB:Ob->Ob
 | .boxB _ cs=>.box cs
 |o=>o
theorem Ee (o:Ob):(unB o).live=o.live:=by cases o<;>rfl
theorem FO {b:Nat}:Bk (unB o) v b↔Bk o v b:=by cases o<;>exact Iff.rfl
theorem Nd (h:Sim aw σ w F):Sim (aw.map unB) σ w F:=by
 have old:∀(k:Nat) p,(aw.map unB)[k]?=some p->∃q,aw[k]?=some q/\p=unB q:=λk p hp=>by grind
 refine⟨by rw[QV];exact h.len,λk p u hp hu=>?_,λk k' p p' u u' b hne hp hp' hpl hpl' hu hu' hbk hbk'=>?_,h.lt⟩
 .obtain⟨q,h1,rfl⟩:=old k p hp;have hr:=h.obj k q u h1 hu;cases q with
  |boxB t cs=>
   obtain⟨g,vs,e1,hg,hr1,h11,hf⟩:=hr;exact⟨g,vs,t,e1,hg,hr1,h11,hf⟩
  |_=>exact hr
 .obtain⟨q,h1,rfl⟩:=old k p hp;obtain⟨q',h1',rfl⟩:=old k' p' hp';exact h.sep k k' q q' u u' b hne h1 h1' (by grind[Ee]) (by grind[Ee]) hu hu' (FO.1 hbk) (FO.1 hbk')
theorem U5 {o:Oper}(hq:∀K:AV->Prop,vcQ P (mkA n l) (aw.map unB) o.op K->∀σ w F a,ARel σ w F (mkA n l) a->Sim (aw.map unB) σ w F->∃v r,(execOp a.eval o).run P w=.ok (.value v) w/\Rel σ w F r v/\K r)(h:vcQ P (mkA n l) (aw.map unB) o.op λr=>K2 r aw):OP P N o (mkA n l) aw K2:=
 SC λσ w F a ha hs=>by obtain⟨v,r,h1,h2,h3⟩:=hq _ h σ w F a ha (Nd hs);exact⟨v,_,w,aw,σ,F,r,h1,.inl J,hs,.refl _ _ _ _,h2,h3⟩
theorem UU {o:Oper}(h:vcQ P (mkA n l) (aw.map unB) o.op λr=>K2 r aw):OP P N o (mkA n l) aw K2:=
 U5 (λK hK σ w F a ha hs=>by obtain⟨v,r,h1,h2,h3⟩:=wL ha hs o hK;exact⟨v,r,h1 w (λ_ _=>J),h2,h3⟩) h
theorem Ld {t:TypeId}{y:Operand}{id T:Nat}{vs:U AV}(hx:evA n l x=.ptr id off)(hob:aw[id]?=some (.boxB T cs))(hvs:(evA n l y).cells=some vs){du:TypeDesc}(hsome:P.underlying t=some du)(hlen:vs.length=P.cellsOf t)(hfit:off+vs.length<=cs.length)(haw:aw.set id (.boxB T (splice cs off vs))=aw')(h:K2 .any aw'):OP P N ⟨d,.store t x y,ty,ps,af,g⟩ (mkA n l) aw K2:=
 SC λσ w F a ha hs=>by
  subst haw;have hex:=ha.ev x;rw[aG,hx]at hex;obtain⟨hr,h1⟩:=(ha.ev y).cells (by rw[aG];exact hvs);generalize hv:a.eval x=vx at hex;cases hex with
  | ptr _ _ gg hσ=>
   obtain⟨g',cur,e1,hg,hcr,hc1,hF⟩:=hs.obj id _ _ hob hσ;injection e1 with e1
   injection e1 with e1
   injection e1 with e1
   subst e1;have hcl:cur.size=cs.length:=by simpa using hcr.1
   have hul:(a.eval y).cells.toList.length=vs.length:=hr.1;have hst:=run_storeCells_at P gg off T (a.eval y).cells.toList 0 cur w hg (by omega) h1;have hk:∀b,b≠gg->(w.setRow gg (dw cur.toList off (a.eval y).cells.toList).toArray).heap[b]?=w.heap[b]?:=λb hb=>setRow_other w gg b _ hb
   have hself:Sim (aw.set id (.boxB T (splice cs off vs))) σ (w.setRow gg (dw cur.toList off (a.eval y).cells.toList).toArray) F:=by
    refine hs.write (b0:=gg) id hob J hσ J hk (by simp) (.boxB T (splice cs off vs)) ⟨gg,_,J,setRow_heap w gg cur _ T (0,0) hg,?_,?_,hF⟩ (λ_ h=>h)
    .have:=(hcr.splice off hr).mono (σ':=σ) (w':=w.setRow gg (dw cur.toList off (a.eval y).cells.toList).toArray) (F':=F) (λ_ _ e=>e) (λ_ e=>e) (λb hb=>hk b (λe=>hF (e▸hb)));omega
    grind[vF]
   refine⟨undef,_,_,_,σ,F,.any,?_,.inr ⟨J,J⟩,hself,Mv.write (w:=w) (F:=F) (w':=w.setRow gg _) (b0:=gg) id hob J hσ J J J drO hk (by simp) (.boxB T (splice cs off vs)) (λ_ h=>h),.any _,h⟩;simp_all[execOp,Instr.storeAt,Instr.sureAddr,storeVar,eb,dw]
theorem Ot {z k:Nat}(hx:(evA n l x).cells=some [.nilp,.nils])(hk:aw.length=k)(haw:aw++[.boxB t [.np k,.ref (k+1)],.arr e z []]=aw')(h:K2 (.ptr k 0) aw'):OP P N ⟨d,.box t x,ty,ps,af,g⟩ (mkA n l) aw K2:=
 SC λσ w F a ha hs=>by
  subst hk haw;obtain⟨hrx,h1x⟩:=(ha.ev x).cells (by rw[aG];exact hx);obtain⟨s1,m1,r1⟩:=ym hs [.nilp,.nils] (a.eval x).cells t hrx h1x;obtain⟨s2,m2,r2⟩:=yp e z s1;have hlen:=hs.len;have hσ:(σ++[Value.pointer (some ⟨w.heap.size,0,none⟩)]++[Value.slice none 0 0])[aw.length]?=some (Value.pointer (some ⟨w.heap.size,0,none⟩)):=by grind
  have hσ2:(σ++[Value.pointer (some ⟨w.heap.size,0,none⟩)]++[Value.slice none 0 0])[aw.length+1]?=some (Value.slice none 0 0):=by simp_all
  have hid:(aw++[Ob.box [.nilp,.nils]]++[Ob.arr e z []])[aw.length]?=some (Ob.box [.nilp,.nils]):=by simp
  obtain⟨gq,vs,tyq,e1,hg,hcr,hc1,hF⟩:=s2.obj _ _ _ hid hσ;injection e1 with e1
  injection e1 with e1
  injection e1 with e1
  subst e1;have hty:(w.alloc (.cells (a.eval x).cells t)).heap[w.heap.size]?=some (.cells (a.eval x).cells t (0,0)):=by show(w.heap.push _)[w.heap.size]?=_;simp
  rw[hty]at hg;cases hg;have hnew:RelL (σ++[Value.pointer (some ⟨w.heap.size,0,none⟩)]++[Value.slice none 0 0]) (w.alloc (.cells (a.eval x).cells t)) F [.np aw.length,.ref (aw.length+1)] (a.eval x).cells.toList:=by
   obtain⟨hl2,hc⟩:=hcr;refine⟨hl2,λj x u hx hu=>?_⟩;match j,hx with
   |0,hx=>
    cases hx
    have:=hc 0 _ u J hu
    cases this
    exact .np0 _
   |1,hx=>
    cases hx
    have:=hc 1 _ u J hu
    cases this
    grind
  obtain⟨s3,hd3⟩:=M0 s2 hid J hσ (o':=.boxB t [.np aw.length,.ref (aw.length+1)]) ⟨_,_,J,hty,hnew,hc1,hF⟩ (λ_ h=>h);have e3:(aw++[Ob.box [.nilp,.nils]]++[Ob.arr e z []]).set aw.length (.boxB t [.np aw.length,.ref (aw.length+1)])=aw++[.boxB t [.np aw.length,.ref (aw.length+1)],.arr e z []]:=by simp
  rw[e3]at s3 hd3;refine⟨_,_,_,_,_,F,.ptr aw.length 0,?_,.inl J,s3,NF (m1.trans m2) hd3,.ptr _ _ _ hσ,h⟩;rfl
theorem TG {T0:Nat}{c:Code}{Q:Exit->U AV->U Ob->Prop}{fr:U AV}(b j id:Nat){s n0:Nat}{rows:U (U AV)}{cs':U AV}(hb:aw[b]?=some (.boxB T0 cs))(hj:cs[j]?=some (.ref id))(ho:aw[id]?=some (.arr e s rows))(hn:aw.length=n0)(hc:cs.set j (.ref n0)=cs')(ha:(aw.set id .dead).set b (.boxB T0 cs')++[.arr e s rows]=aw')(h:T P N c Q fr aw'):T P N c Q fr aw:=
 ⟨λst h1 h2 σ w F a hcur=>by
  subst hc ha hn;have hbl:b<aw.length:=(QD.1 hb).1;have hbσ:∃vb,σ[b]?=some vb:=⟨_,QC (by rw[hcur.sim.len];exact hbl)⟩
  obtain⟨vb,hvb⟩:=hbσ;obtain⟨g,vs,rfl,hg,hcr,h1c,hf⟩:=hcur.sim.obj b _ vb hb hvb;obtain⟨u,hu,hru⟩:=hcr.get hj;cases hru with
  |ref _ A m c2 hgσ=>
   obtain⟨s1,m1⟩:=yF hcur.sim ho hgσ;have hbid:b≠id:=by grind
   have hb1:(aw.set id .dead++[.arr e s rows])[b]?=some (.boxB T0 cs):=by grind
   have hnew:ORel (σ++[.slice A m c2]) w F (.boxB T0 (cs.set j (.ref aw.length))) (.pointer (some ⟨g,0,none⟩)):=by refine⟨g,vs,J,hg,?_,h1c,hf⟩;have hcr1:=m1.relL hcur.sim hcr;have:=hcr1.set j (Rel.ref (σ:=σ++[.slice A m c2]) (w:=w) (F:=F) aw.length A m c2 (by rw[<- hcur.sim.len];simp));grind[List.set_getElem_self]
   have hvb1:(σ++[.slice A m c2])[b]?=some (.pointer (some ⟨g,0,none⟩)):=d8 hvb;have hset:(aw.set id .dead).set b (.boxB T0 (cs.set j (.ref aw.length)))++[Ob.arr e s rows]=(aw.set id .dead++[Ob.arr e s rows]).set b (.boxB T0 (cs.set j (.ref aw.length))):=by grind
   rw[hset]at h;have s2:=s1.write (b0:=g) b hb1 J hvb1 J (λ_ _=>J) J _ hnew (λ_ h=>h);have m2:=Mv.write (w:=w) (w':=w) (F:=F) (b0:=g) b hb1 J hvb1 J J J drO (λ_ _=>J) J (.boxB T0 (cs.set j (.ref aw.length))) (λ_ h=>h);exact h.out st h1 h2 _ w F a ⟨s2,m2.aRel s1 (m1.aRel hcur.sim hcur.fr),(hcur.mv.trans m1).trans m2,hcur.ds⟩⟩
theorem IV {id T:Nat}(hx:evA n l x=.ptr id off)(ho:aw[id]?=some (.boxB T cs))(h:cu P t cs off λr=>K2 r aw):OP P N ⟨d,.load t x,ty,ps,af,g⟩ (mkA n l) aw K2:=
 UU (by simp_all[unB,vcQ,aG])
end
end
section
open Go.RowKit
def Idle(P:Program)(d:Deferred):Prop:=∃fv cap f args,d.target=.fn fv cap/\(∀w,(invoke d.target d.args).run P w=.ok (.enter f args) w) /\
 ∀w,CallsD P f args .returning w λe u' w'=>(∃v,e=.returned v)/\u'=.returning/\w'=w
def IdleF(P:Program)(g:FuncId)(k:Nat):Prop:=∀cvs:List Value,cvs.length=k->Idle P ⟨.fn (.func g) cvs.toArray,#[]⟩
section
variable {P:Program} {N n:Nat} {fr:List AV} {aw:List Ob} {l:List (Nat×AV)} {Q:Exit→List AV→List Ob→Prop}
end
end
section
open Go.RowKit
set_option maxRecDepth 100000
set_option maxHeartbeats 4000000
theorem Nh(b:Nat)(w:World)(h0:w.cell? ⟨b,0,none⟩=some (.pointer (some ⟨b,0,none⟩))):
  Calls Qbl 156 #[.pointer (some ⟨b,0,none⟩)] w λe w'=>e=.returned (.tuple #[])/\w'=w:=by
 obtain⟨j,hj,hjs⟩:=QT.1 (show(Qbl.info? 157).map (·.size)=some 2 by kernel_rfl)
 go_enter Vs,Tryz.ntmps156
 go_wp2
 rw[Lib.run_neq_ptr_same w _ Vt hj]
 go_wp2
 go_end0
 exact⟨J,J⟩
theorem LS(b:Nat)(w:World)(h0:w.cell? ⟨b,0,none⟩=some (.pointer none))(hsh:w.shape? b=some (159,2))(hfz:w.frozen? ⟨b,0,none⟩=false):
  Calls Qbl 156 #[.pointer (some ⟨b,0,none⟩)] w λe w'=>e=.returned (.tuple #[])/\w'=w.setCell ⟨b,0,none⟩ (.pointer (some ⟨b,0,none⟩)):=by
 obtain⟨j,hj,hjs⟩:=QT.1 (show(Qbl.info? 157).map (·.size)=some 2 by kernel_rfl)
 go_enter Vs,Tryz.ntmps156
 go_wp2
 rw[Lib.run_to_unsafe w ⟨b,0,none⟩ Vt VL hj (by rw[hjs];decide) hsh (Nat.zero_lt_succ 1)]
 simp only[Result.andThen]
 rw[Oper.upon_value]
 go_wp2
 rw[run_callFunc_extern Tryz.func184 (by kernel_rfl) (by kernel_rfl) (by kernel_rfl) (e:=Extern.AbiNoEscape.same) (by kernel_rfl)]
 rw[Lib.run_noEscape]
 simp only[Result.andThen]
 rw[Oper.upon_value]
 go_wp2
 rw[Lib.run_from_unsafe w ⟨b,0,none⟩ VL Vt hj hsh (by kernel_rfl)]
 simp only[Result.andThen]
 rw[Oper.upon_value]
 go_wp2
 go_end0
 exact⟨J,J⟩
theorem Ip(rows:U (U AV)):FnX Qbl 156 [.ptr 0 0] [.boxB 159 [.np 0,.ref 1],.arr 5 1 rows] (.tup []) [.boxB 159 [.np 0,.ref 1],.arr 5 1 rows]:=by
 refine⟨callable Vs J (by kernel_rfl),λw F σ vs hs hr=>?_⟩;match vs,hr with
 | [v0],hr=>
  have r0:Rel σ w F (.ptr 0 0) v0:=hr.2 0 _ v0 J J
  cases r0 with
  |ptr _ _ g hσ=>
  obtain⟨g',us,e1,hg,hcr,hc1,hF⟩:=hs.obj 0 _ _ J hσ
  injection e1 with e1
  injection e1 with e1
  injection e1 with e1
  subst e1
  have hlen:us.size=2:=by simpa using hcr.1
  obtain⟨p,hp,hrp⟩:=hcr.get (j:=0) (a:=.np 0) J
  have hp':us[0]?=some p:=by simpa using hp
  have hcell:w.cell? ⟨g,0,none⟩=some p:=by rw[World.cell?];simp[hg,hp']
  cases hrp with
  | np0 _=>
   have hsh:w.shape? g=some (159,2):=by simp[World.shape?,hg,hlen]
   have hfz:w.frozen? ⟨g,0,none⟩=false:=by simp[World.frozen?,hg]
   refine(LS g w hcell hsh hfz).mono ?_
   rintro e w' ⟨rfl,rfl⟩
   have hk:∀b,b≠g->(w.setCell ⟨g,0,none⟩ (.pointer (some ⟨g,0,none⟩))).heap[b]?=w.heap[b]?:=λb hb=>by
    have:¬g=b:=λe=>hb e.symm
    rw[Go.Sort.setCell_eq];simp[Go.Sort.mapBlock,RP,this]
   have hsz:(w.setCell ⟨g,0,none⟩ (.pointer (some ⟨g,0,none⟩))).heap.size=w.heap.size:=by rw[Go.Sort.setCell_eq];simp[Go.Sort.mapBlock]
   have hg':(w.setCell ⟨g,0,none⟩ (.pointer (some ⟨g,0,none⟩))).heap[g]?=some (.cells (us.setIfInBounds 0 (.pointer (some ⟨g,0,none⟩))) 159 (0,0)):=by rw[Go.Sort.setCell_eq];simp[Go.Sort.mapBlock,RP,hg,Go.Sort.onCells]
   have hnew:RelL σ (w.setCell ⟨g,0,none⟩ (.pointer (some ⟨g,0,none⟩))) F [.np 0,.ref 1] (us.setIfInBounds 0 (.pointer (some ⟨g,0,none⟩))).toList:=by
    refine⟨by simp[hlen],λj x u hx hu=>?_⟩;match j,hx with
    |0,hx=>
     cases hx
     simp[hlen]at hu
     subst hu
     exact .npS 0 g hσ
    |1,hx=>
     cases hx
     have hu2:us[1]?=some u:=by simpa using hu
     have:=hcr.2 1 _ u J (by simpa using hu2)
     cases this with
     |ref _ A q cp h9=>exact .ref 1 A q cp h9
   have hone:∀u,u∈us.setIfInBounds 0 (.pointer (some ⟨g,0,none⟩))->u.oneCell'=true:=λu hu=>by
    rcases Array.mem_or_eq_of_mem_setIfInBounds hu with h|h
    .exact hc1 u h
    .subst h;rfl
   have s1:=hs.write (b0:=g) 0 J J hσ J hk hsz (.boxB 159 [.np 0,.ref 1]) ⟨g,_,J,hg',hnew,hone,hF⟩ (λ_ h=>h)
   have m1:Mv [.boxB 159 [.np 0,.ref 1],.arr 5 1 rows] σ w F ([Ob.boxB 159 [.np 0,.ref 1],.arr 5 1 rows].set 0 (.boxB 159 [.np 0,.ref 1])) σ (w.setCell ⟨g,0,none⟩ (.pointer (some ⟨g,0,none⟩))) F:=
    Mv.write (aw:=[.boxB 159 [.np 0,.ref 1],.arr 5 1 rows]) (w:=w) (w':=w.setCell ⟨g,0,none⟩ (.pointer (some ⟨g,0,none⟩))) (F:=F) (o:=.boxB 159 [.np 0,.ref 1]) (b0:=g) 0 J J hσ J J J drO hk hsz (.boxB 159 [.np 0,.ref 1]) (λ_ h=>h)
   exact⟨_,_,_,σ,F,J,⟨J,J⟩,s1,lR,m1⟩
  |npS _ g2 h2=>
   rw[hσ]at h2
   cases h2
   refine(Nh g w hcell).mono ?_
   rintro e w' ⟨rfl,rfl⟩
   exact⟨_,_,_,σ,F,J,⟨J,J⟩,hs,lR,.refl _ _ _ _⟩
theorem NB(b g cap:Nat)(cur:Array Value)(l:U UInt8)(w:World)(c0:w.cell? ⟨b,1,none⟩=some (.slice (some ⟨g,0,none⟩) l.length cap))(h0:l≠[])(hg:w.heap[g]?=some (.cells cur 5 (0,0)))(hnc:l.length<=cap)(hcm:cap<=maxLen)(hcs:cur.size=cap)
  (hx:∀(j:Nat) x,l[j]?=some x->w.cell? ⟨g,j,none⟩=some (.int .u8 x.toNat)):
  Calls Qbl 96 #[.pointer (some ⟨b,0,none⟩)] w λe w'=>e=.returned (.string ⟨l.toArray⟩)/\w'=w.drew.freeze ⟨g,0,none⟩ l.length:=by
 have hl0:l.length≠0:=by simpa using h0
 have c1:w.drew.cell? ⟨b,1,none⟩=some (.slice (some ⟨g,0,none⟩) l.length cap):=c0
 have hSD:(Builtin.unsafeSliceData_ #[152] 217 #[.slice (some ⟨g,0,none⟩) l.length cap]).run Qbl w.drew=.ok (.pointer (some ⟨g,0,none⟩)) w.drew:=
  Lib.run_unsafeSliceData_row _ _ _ _ _ _ (by omega)
 have hUS:(Builtin.unsafeString_ #[217,3] 9 #[.pointer (some ⟨g,0,none⟩),.int .i64 l.length]).run Qbl w.drew=.ok (.string ⟨l.toArray⟩) (w.drew.freeze ⟨g,0,none⟩ l.length):=by
  refine Lib.run_unsafeString_row w.drew 217 3 9 5 Tryz.underlying217 (by kernel_rfl) g cur.size (by have hg':w.drew.heap[g]?=some (.cells cur 5 (0,0)):=hg;simp[World.shape?,hg']) l h0 (by omega) (by unfold maxLen at hcm;omega) ?_;intro j x hj;show w.cell? _=_;have e:(⟨g,0,none⟩:Addr).add j=⟨g,j,none⟩:=by unfold Addr.add;simp;intro h;exact h.symm
  rw[e];exact hx j x hj
 have mixed:=mixed
 clear c0 hx hg
 go_enter Tryz.func96,Tryz.ntmps96
 go_wp2
 go_region_o
 all_goals (go_wp2;go_ret;exact⟨J,J⟩)
theorem FD{σ:U Value}{w:World}{F:Nat->Prop}:∀(xs:U Int) (flat:U Value),RelL σ w F (xs.map b6).flatten flat->flat=xs.map λn=>Value.int .u8 n
 |[],flat,h=>QK h.1
 | x::xs,flat,h=>by
  match flat,h with
  |[],h=>exact absurd h.1 (by simp[b6])
  |a::r,h=>
   have h1:Rel σ w F (.int .u8 x) a:=h.2 0 _ a J J
   have h3:=FD xs r ⟨by have:=h.1;simp[b6]at this ⊢;omega,λj y v hy hv=>h.2 (j+1) y v (by simpa [b6]using hy) (by simpa using hv)⟩
   cases h1
   rw[h3];rfl
theorem KC(xs:U Int)(r:U UInt8)(h:bldS xs=some r):FnX Qbl 96 [.ptr 0 0] [.boxB 159 [.np 0,.ref 1],.arr 5 1 (List.map b6 xs)] (.str r) [.dead,.dead]:=by
 unfold bldS at h;split at h;rotate_left
 .cases h
 rename_i hc;cases h;refine⟨callable Tryz.func96 J (by kernel_rfl),λw F σ vs hs hr=>?_⟩;match vs,hr with
 | [v0],hr=>
  have r0:Rel σ w F (.ptr 0 0) v0:=hr.2 0 _ v0 J J
  cases r0 with
  |ptr _ _ b hσ=>
  obtain⟨b',us,e1,hb,hcr,hc1,hF⟩:=hs.obj 0 _ _ J hσ
  injection e1 with e1
  injection e1 with e1
  injection e1 with e1
  subst e1
  have hlen:us.size=2:=by simpa using hcr.1
  obtain⟨p,hp,hrp⟩:=hcr.get (j:=1) (a:=.ref 1) J
  have hp':us[1]?=some p:=by simpa using hp
  have hcell:w.cell? ⟨b,1,none⟩=some p:=by rw[World.cell?];simp[hb,hp']
  cases hrp with
  |ref _ A q cp hσ1=>
  obtain⟨hq,flat,hown,hfl,hcase⟩:=gM hs (id:=1) J hσ1
  rw[QV]at hq
  subst hq
  rcases hcase with hcase|⟨g,cur,rfl,hFa,hga,hnc,hcm,hsz,htk⟩
  .exact absurd (Q6.1 hcase) hc.1
  .have hflat:=FD xs flat hfl.2.2
   have hlt:(cq xs).length=xs.length:=by simp[cq]
   have hx:∀(j:Nat) x,(cq xs)[j]?=some x->w.cell? ⟨g,j,none⟩=some (.int .u8 x.toNat):=λj x hj=>by
    have hj2:j<xs.length:=by rw[<- hlt];exact(QD.1 hj).1
    have h1:cur.toList[j]?=some (.int .u8 xs[j]):=by
     have:(cur.toList.take (xs.length*1))[j]?=flat[j]?:=by rw[htk]
     rw[Q3,if_pos (by omega),hflat]at this;rw[this];simp[hj2]
    have h2:x=UInt8.ofNat (xs[j]).toNat:=by unfold cq at hj;rw[QW,QC hj2]at hj;exact(QH hj).symm
    have h3:=hc.2 xs[j] (QU hj2);have h4:((UInt8.ofNat (xs[j]).toNat).toNat:Int)=xs[j]:=by rw[UInt8.toNat_ofNat',RT (by omega)];omega
    rw[World.cell?];rw[h2,h4];have h5:cur[j]?=some (.int .u8 xs[j]):=by simpa using h1
    simp[hga,h5]
   have hne:cq xs≠[]:=λe=>hc.1 (QK (by rw[<- hlt,e];rfl))
   have hS:=NB b g cp cur (cq xs) w (by rw[hlt];exact hcell) hne hga (by rw[hlt];exact hnc) hcm (by omega) hx
   refine hS.mono ?_
   rintro e w' ⟨rfl,rfl⟩
   have hn0:(cq xs).length≠0:=by simpa using hne
   have hfz:∀k,k≠g->(w.drew.freeze ⟨g,0,none⟩ (cq xs).length).heap[k]?=w.heap[k]?:=λk hk=>by
    have:¬g=k:=λe=>hk e.symm
    unfold World.freeze;rw[if_neg hn0];show(w.heap.modify g _)[k]?=_;rw[RP,if_neg this]
   have hsize:(w.drew.freeze ⟨g,0,none⟩ (cq xs).length).heap.size=w.heap.size:=by unfold World.freeze;rw[if_neg hn0];show(w.heap.modify g _).size=_;simp
   have hD:Dof [Ob.boxB 159 [.np 0,.ref 1],.arr 5 1 (List.map b6 xs)] σ g:=⟨1,_,_,J,J,hσ1,J⟩
   refine⟨_,_,_,σ,F,J,⟨J,J⟩,⟨by have:=hs.len;simpa using this,λk o v ho hv=>?_,λk k' o o' v v' gg hne ho ho' hl=>?_,λk hk=>by rw[hsize];exact hs.lt k hk⟩,.str _,⟨by unfold World.freeze;rw[if_neg hn0];rfl,by unfold World.freeze;rw[if_neg hn0];rfl,⟨by unfold World.freeze;rw[if_neg hn0];rfl,by unfold World.freeze;rw[if_neg hn0];first|exact Nat.le_succ _|exact QJ _⟩,Nat.le_of_eq hsize.symm,λk hk hd=>hfz k (λe=>hd (e▸hD)),λ_ _ h=>h,λ_ h=>h,λ_ h=>.inl h,λk hd=>?_⟩⟩
   .match k,ho with
    |0,ho=>cases ho;trivial
    |1,ho=>cases ho;trivial
   .match k,ho with
    |0,ho=>cases ho;cases hl
    |1,ho=>cases ho;cases hl
   .obtain⟨j,o,v,ho,hl,_⟩:=hd
    match j,ho with
    |0,ho=>cases ho;cases hl
    |1,ho=>cases ho;cases hl
end
section
open Go.RowKit
set_option maxRecDepth 100000
set_option maxHeartbeats 4000000
theorem Jx(p q:Value)(w:World):
  CallsD Qbl 103 #[p,q] .returning w λe u' w'=>(∃v,e=.returned v)/\u'=.returning/\w'=w:=by
 refine callsD_of_wpS Vm J λc₀ cs hu=>?_
 apply wpS_seq
 apply wpS_region
 simp[wpOpsS,go_sem,recoverD,hu,Tryz.ntmps103,Exit.thenS]
 apply wpS_seq
 apply wpS_region
 simp[wpOpsS,go_sem,Exit.thenS]
 refine wpS_cond (t:=false) (by simp[Act.eval,Array.replicate]) ?_
 simp only[QI,if_false]
 refine wpS_of_wp (wp_skip ?_)
 cases c₀
 simp_all[bodyPostS,results,Tryz.results103]
theorem idleF:IdleF Qbl 103 2:=λcvs h=>by
 match cvs,h with
 |[p,q],_=>
  exact⟨.func 103,#[p,q],103,#[p,q],J,λw=>callable Vm J (by kernel_rfl) _ w,λw=>Jx p q w⟩
end
section
open Go.RowKit
abbrev pan1(V:Value):List PanicEntry:=[{ v:=V,recovered:=false }]
abbrev pan2(V:Value):List PanicEntry:=[{ v:=V,recovered:=true }]
def CatX(P:Program)(V:Value)(g:FuncId)(args:List AV)(aw aw':List Ob):Prop:=∀w F σ vs,Sim aw σ w F->RelL σ w F args vs ->
 CallsD P g vs.toArray (.panicking (pan1 V)) w λe u' w'=>(∃v,e=.returned v)/\u'=.panicking (pan2 V)/\∃σ' F',Sim aw' σ' w' F'/\Mv aw σ w F aw' σ' w' F'
structure Caught (P:Program) (V:Value) (g:FuncId) (caps:List AV) (aw aw2:List Ob):Prop where
 out:∃(ρ:List Nat) (as0:List AV) (aw0 aw1:List Ob),ρ.Nodup/\cy ρ aw ρ aw0/\cS ρ as0 caps/\CatX P V g as0 aw0 aw1/\aw2.length+ρ.length=aw.length+aw1.length/\fa (ck ρ aw.length aw1.length) ρ aw aw1 0 aw2
theorem S7{P:Program}{V:Value}{g:FuncId}{caps as0:U AV}{aw aw0 aw1 aw2:U Ob}{n0 n1:Nat}(ρ:U Nat)(hn0:aw.length=n0)(hn1:aw1.length=n1)(hnd:ρ.Nodup)(hW:cy ρ aw ρ aw0)(hA:cS ρ as0 caps)(hC:CatX P V g as0 aw0 aw1)
 (hl:aw2.length+ρ.length=n0+n1) (hB:fa (ck ρ n0 n1) ρ aw aw1 0 aw2):Caught P V g caps aw aw2:=by subst hn0 hn1;exact⟨ρ,as0,aw0,aw1,hnd,hW,hA,hC,hl,hB⟩
section
variable {P:Program} {V:Value} {N n Nf:Nat} {fr:List AV} {aw aw2:List Ob} {l:List (Nat×AV)} {fn:Func} {Q:AV→List Ob→Prop} {g:FuncId} {caps:List AV}
theorem Caught.run{σ:U Value}{w:World}{F:Nat->Prop}{cvs:U Value}(h:Caught P V g caps aw aw2)(hs:Sim aw σ w F)(hr:RelL σ w F caps cvs):
  CallsD P g cvs.toArray (.panicking (pan1 V)) w λe u' w'=>(∃v,e=.returned v)/\u'=.panicking (pan2 V)/\∃σ' F',Sim aw2 σ' w' F'/\Mv aw σ w F aw2 σ' w' F':=by
 obtain⟨ρ,as0,aw0,aw1,hnd,hW,hA,hC,hl,hB⟩:=h.out
 obtain⟨σ0,hσ,hs0,hd0⟩:=jz hs hnd hW
 have hl0:σ0.length=ρ.length:=by rw[hs0.len,(kx hW).1]
 refine(hC w F σ0 cvs hs0 (fJ hA hr hσ)).mono ?_
 grind[sG]
section
variable {aw:List Ob} {K2:AV→List Ob→Prop} {d:Option Tmp} {ty:TypeId} {ps:String} {af:Array Edge} {gd:Option (Nat×Bool)}
variable {t ti:TypeId}{its:Array (String×TypeId)}{x:Operand}{a:AV}
theorem LH (k:Nat)(hu:P.underlying t=some (.interface its))(u:Value)(w:World):(Op.equalIn (k+1) t (.iface ti u) .nilIface).run P w=.ok false w:=by simp[Op.equalIn,Sem.run_bind,run_underlying hu]
theorem JV {t2:TypeId}{y:Operand}(hu:P.underlying t=some (.interface its))(hx:evA n l x=.ifc ti a)(hy:evA n l y=.nili)(h:K2 (.bool true) aw):OP P N ⟨d,.binOp .neq t x y t2,ty,ps,af,gd⟩ (mkA n l) aw K2:=
 SC (λσ w F ac har hs=>by
  have ex:=har.ev x;have ey:=har.ev y;rw[aG,hx]at ex;rw[aG,hy]at ey;generalize hvx:ac.eval x=vx at ex;generalize hvy:ac.eval y=vy at ey;cases ey;cases ex with
  |ifc _ _ u hu2=>
   refine⟨.bool true,_,w,aw,σ,F,_,?_,.inl J,hs,.refl ..,.bool true,h⟩;have he:(Op.equalIn Op.maxDepth t (.iface ti u) .nilIface).run P w=.ok false w:=LH 9999 hu u w;simp_all[execOp,eqGuard,binOp,Op.equal])
theorem LE {t0:TypeId}{dd:TypeDesc}(hu:P.underlying t=some dd)(hd:(match dd with| .interface _=>false|_=>true)=true)(hx:evA n l x=.ifc t a)(h:K2 (.tup [a,.bool true]) aw):OP P N ⟨d,.typeAssert x t0 t true,ty,ps,af,gd⟩ (mkA n l) aw K2:=
 SC (λσ w F ac har hs=>by
  have ex:=har.ev x;rw[aG,hx]at ex;generalize hvx:ac.eval x=vx at ex;cases ex with
  |ifc _ _ u hu2=>
   have hr:RelL σ w F [a,.bool true] [u,.bool true]:=.cons hu2 (.cons (.bool true) .nil);refine⟨.tuple #[u,.bool true],_,w,aw,σ,F,_,?_,.inl J,hs,.refl ..,.tup _ _ hr.1 hr.2,h⟩;cases dd<;>simp_all[execOp,Instr.typeAssert,Sem.run_bind,run_underlying hu])
end
def RecQ(P:Program)(fn:Func)(Nf:Nat)(Q:AV->List Ob->Prop)(V:Value)(g:FuncId)(caps:List AV):Exit->List AV->List Ob->Prop
 | .panic ch,fr,aw=>ch=pan1 V/\∃aw2,Caught P V g caps aw aw2/\cv P fr aw2 fn.results.toList (Ret Nf Q aw2)
 |e,fr,aw=>retQ P fn Nf Q e fr aw
instance:RetI (RecQ P fn Nf Q V g caps) (λfr aw=>cv P fr aw fn.results.toList (Ret Nf Q aw)):=⟨λ_ _ h=>h⟩
def CQR(P:Program)(st:St)(fn:Func)(Nf:Nat)(Q:AV->List Ob->Prop)(V:Value)(e:Exit)(a:Act)(w:World):Prop:=
 CQ st (retQ P fn Nf Q) e a w∨∃(g:FuncId) (caps:List AV) (cvs:List Value) (st':St),Idle P ⟨.fn (.func g) cvs.toArray,#[]⟩/\(∀w,(callFunc g cvs.toArray).run P w=.ok (.enter g cvs.toArray) w) /\
  RelL st'.σ st'.w st'.F caps cvs/\Sim st'.aw st'.σ st'.w st'.F/\Mv st.aw st.σ st.w st.F st'.aw st'.σ st'.w st'.F/\st'.ds=[⟨.fn (.func g) cvs.toArray,#[]⟩]/\CQ st' (RecQ P fn Nf Q V g caps) e a w
structure TDR (P:Program) (N:Nat) (c:Code) (fn:Func) (Nf:Nat) (Q:AV->List Ob->Prop) (V:Value) (fr:List AV) (aw:List Ob):Prop where
 out:∀st:St,st.aw.length=N->st.σ.length=st.aw.length->st.ds=[]->∀σ w F a,Cur st fr aw σ w F a->c.wp P (CQR P st fn Nf Q V) a w
theorem TDR.seq{x y:Code}(h:T P N x (thenA (TDR P N y fn Nf Q V) (retQ P fn Nf Q)) fr aw):TDR P N (.seq x y) fn Nf Q V fr aw:=
 ⟨λst h1 h2 h3 σ w F a hc=>wp_seq (wp_mono (h.out st h1 h2 σ w F a hc) (by
  rintro e a' w' ⟨fr',aw',σ',F',hq,hcur⟩;cases e with
  |normal=>exact TDR.out hq st h1 h2 h3 σ' w' F' a' hcur
  |_=>exact .inl ⟨fr',aw',σ',F',hq,hcur⟩))⟩
theorem TDR.defer{id:Nat}{ops:Array Oper}{y:Code}{ty:TypeId}{ps:String}{af:Array Edge}{f:Operand}{ts:Array TypeId}(i:Nat)(ho:ops.toList.drop i=[⟨none,.defer ⟨.value f,#[],ts⟩,ty,ps,af,none⟩])
  (h:RS P N ops (ops.toList.take i) (λfr aw=>∃(N':Nat) (l:U (Nat×AV)) (caps:U AV) (g:FuncId),aw.length=N'/\fr=mkA n l/\evA n l f=.func g caps/\IdleF P g caps.length/\(∀vs w,(callFunc g vs).run P w=.ok (.enter g vs) w)/\T P N' y (RecQ P fn Nf Q V g caps) (mkA n l) aw) fr aw):TDR P N (.seq (.region id ops false) y) fn Nf Q V fr aw:=
 ⟨λst h1 h2 h3 σ w F a hc=>by
  refine wp_seq (wp_region_list ?_);rw[<- Rm i ops.toList,ho];refine vB _ _ _ (h.out st h1 h2 σ w F a hc _ λfr aw σ w F a hc hK=>?_);obtain⟨_,l,caps,g,rfl,rfl,hf,hI,hcall,hT⟩:=hK;show wpList P ops _ (_::[]) a w;unfold wpList;rw[if_pos (by rfl)];refine .inl ?_;have hfv:=hc.fr.ev f;rw[aG,hf]at hfv;generalize hvf:a.eval f=vf at hfv;cases hfv with
  |func _ _ cvs hl hcs=>
   have hrun:(execOp a.eval ⟨none,.defer ⟨.value f,#[],ts⟩,ty,ps,af,none⟩).run P w=.ok (.defer ⟨.fn (.func g) cvs.toArray,#[]⟩) w:=by simp_all[execOp,resolve,Deferred.ofValue]
   unfold Oper.wp;rw[hrun,Oper.upon_defer];show wpList P ops _ [] _ w;unfold wpList;refine wp_mono (hT.out ⟨aw,σ,w,F,[⟨.fn (.func g) cvs.toArray,#[]⟩]⟩ J hc.sim.len σ w F _ ?_) λ_ _ _ h=>.inr ⟨g,caps,cvs,⟨aw,σ,w,F,[⟨.fn (.func g) cvs.toArray,#[]⟩]⟩,hI cvs hl,hcall _,⟨hl,hcs⟩,hc.sim,hc.mv,J,h⟩
   refine⟨hc.sim,hc.fr,.refl ..,?_⟩;have hds:=hc.ds;rw[h3]at hds;show _::a.defers=_;rw[hds]⟩
theorem Kt{f:FuncId}{c:Code}{args:U AV}{m:Nat}(hN:aw.length=N)(hf:P.funcs[f]?=some fn)(hb:fn.body=some c)(hname:(fn.name== "runtime.NumGoroutine")=false)(hm:fn.ntmps=m)(hl:Nat.ble args.length m=true)
  (h:TDR P N c fn N Q V (mkA m (initA 0 args)) aw):ACalls P f args aw Q:=by
 subst hm hN
 refine⟨callable hf (by rw[hb];rfl) hname,λw F σ vs hs hr=>?_⟩
 have hc:Cur ⟨aw,σ,w,F,[]⟩ (args++List.replicate (fn.ntmps- args.length) .any) aw σ w F { tmps:=vs.toArray++Array.replicate (fn.ntmps- vs.toArray.size) undef,defers:=[] }:=by
  refine⟨hs,⟨?_,tqz⟩,.refl ..,J⟩;have h2:RelL σ w F (List.replicate (fn.ntmps- args.length) .any) (List.replicate (fn.ntmps- vs.length) undef):=
   ⟨by simp[hr.1],λj x v hx hv=>by rw[RM (QE hx)];exact .any v⟩
  simpa using hr.append h2
 rw[ye _ _ (Ry hl)]at hc
 refine calls_of_wp_defers hf hb (wp_mono (h.out ⟨aw,σ,w,F,[]⟩ J hs.len J σ w F _ hc) ?_)
 have key:∀(a':Act) (w':World) (fr':U AV) (aw':U Ob) (σ':U Value) (F':Nat->Prop),Sim aw' σ' w' F'->ARel σ' w' F' fr' a'->Mv aw σ w F aw' σ' w' F'->cv P fr' aw' fn.results.toList (Ret aw.length Q aw')->∃v,(results fn a'.tmps).run P w'=.ok v w' /\
   (∃v' r aw2 σ2 F2,Ending.returned v=.returned v'/\Q r aw2/\Sim aw2 σ2 w' F2/\Rel σ2 w' F2 r v'/\Mv aw σ w F aw2 σ2 w' F2):=by
  intro a' w' fr' aw' σ' F' hsim hfr hmv hq
  obtain⟨rs,us,h1,⟨nl,z,r',aw2,hW,hQ⟩,h3⟩:=wK hfr hsim _ _ hq
  obtain⟨σn,sn,h1n,mn⟩:=sX nl hsim h1
  refine⟨_,BH fn a'.tmps us h3,?_⟩
  have hrel:=EK h1n
  have fin:∀(r1:AV) (aw1:U Ob) (F1:Nat->Prop),Sim aw1 σn w' F1->Mv aw σ w F aw1 σn w' F1->Rel σn w' F1 r1 (if h:us.length=1 then us[0]else .tuple us.toArray)->WeakR aw.length r1 aw1 r' aw2 ->
    ∃v' r aw2 σ2 F2,Ending.returned (if h:us.length=1 then us[0]else .tuple us.toArray)=.returned v'/\Q r aw2/\Sim aw2 σ2 w' F2/\Rel σ2 w' F2 r v'/\Mv aw σ w F aw2 σ2 w' F2:=by
   intro r1 aw1 F1 s1 m1 hr1 ⟨ρ,hnd,hρ,hren,hRW⟩
   obtain⟨σ2,hσ,s2,hd⟩:=jz s1 hnd hRW
   exact⟨_,r',aw2,σ2,F1,J,hQ,s2,hren σn w' F1 _ hr1 σ2 hσ,Tr (st:=⟨aw,σ,w,F,[]⟩) hs.len m1 hρ hσ hd⟩
  cases z with
  |true=>
   obtain⟨F1,s1,m1,r1⟩:=Dy sn hrel
   exact fin _ _ F1 s1 ((hmv.trans mn).trans m1) r1 hW
  |false=>exact fin _ _ F' sn (hmv.trans mn) hrel hW
 have plain:∀(a':Act) (w':World) (fr':U AV) (aw':U Ob) (σ':U Value) (F':Nat->Prop),Cur ⟨aw,σ,w,F,[]⟩ fr' aw' σ' w' F' a'->cv P fr' aw' fn.results.toList (Ret aw.length Q aw') ->
   Leaves P fn a'.tmps (λe w'=>∃v r aw' σ' F',e=.returned v/\Q r aw'/\Sim aw' σ' w' F'/\Rel σ' w' F' r v/\Mv aw σ w F aw' σ' w' F') a'.defers .returning w':=by
  intro a' w' fr' aw' σ' F' hcur hq
  have hd:=hcur.ds
  rw[hd]
  exact key a' w' fr' aw' σ' F' hcur.sim hcur.fr hcur.mv hq
 rintro e a' w' (⟨fr',aw',σ',F',hq,hcur⟩|⟨g,caps,cvs,st',hI,hcall,hcv,hsim',hmv',hds',fr',aw',σ',F',hq,hcur⟩)
 .cases e with
  |normal=>exact plain _ _ _ _ _ _ hcur hq
  |ret=>exact plain _ _ _ _ _ _ hcur hq
  |exit id=>exact hq.elim
  |goto l=>exact hq.elim
  |panic ch=>exact hq.elim
  |outgrown=>exact hq.elim
 .have hd:=hcur.ds
  rw[hds']at hd
  have hmv:=hmv'.trans hcur.mv
  have idle:cv P fr' aw' fn.results.toList (Ret aw.length Q aw')->Leaves P fn a'.tmps (λe w'=>∃v r aw' σ' F',e=.returned v/\Q r aw'/\Sim aw' σ' w' F'/\Rel σ' w' F' r v/\Mv aw σ w F aw' σ' w' F') a'.defers .returning w':=λhq=>by have hk:=key a' w' fr' aw' σ' F' hcur.sim hcur.fr hmv hq;obtain⟨fv,cap,g2,gargs,e1,e2,e3⟩:=hI;rw[hd];refine⟨by simp,fv,cap,g2,gargs,e1,e2 w',(e3 w').mono ?_⟩;rintro e u' w'' ⟨⟨v,rfl⟩,rfl,rfl⟩;exact hk
  cases e with
  |normal=>exact idle hq
  |ret=>exact idle hq
  |exit id=>exact hq.elim
  |goto l=>exact hq.elim
  | panic ch=>
   obtain⟨rfl,aw2,hcat,hq⟩:=hq
   show Leaves P fn a'.tmps _ a'.defers (.panicking (pan1 V)) w'
   rw[hd]
   refine⟨by simp,.func g,cvs.toArray,g,cvs.toArray,J,?_,(hcat.run hcur.sim (hcur.mv.relL hsim' hcv)).mono ?_⟩
   .grind[invoke]
   .rintro e u' w'' ⟨⟨v,rfl⟩,rfl,σ2,F2,s2,m2⟩
    exact key a' w'' fr' aw2 σ2 F2 s2 (m2.aRel hcur.sim hcur.fr) (hmv.trans m2) hq
  |outgrown=>exact hq.elim
end
end
section
open Go.RowKit
set_option maxRecDepth 100000
set_option maxHeartbeats 4000000
theorem vD{n:Nat}{l:U (Nat×AV)}{aw:U Ob}{rs:U ResultVar}{V:AV}[hV:PureC V](h:resC tyT n l aw rs λvs=>jJ aw (dO vs) λv _=>v=V:=by rfl):cv Qbl (mkA n l) aw rs (Ret 0 (λr aw'=>r=V/\aw'=[]) aw):=
 qm e7 (λvs hv=>by have h1:=yl hv;exact DJ (v:=V) (aw1:=(gW aw (dO vs)).2) (by rw[<- h1]) hV.out ⟨J,J⟩) h
theorem fnTDR{P:Program}{V:Value}{aw:U Ob}{f:FuncId}{fn:Func}{c:Code}{args:U AV}{Q:AV->U Ob->Prop}{m:Nat}(N:Nat)(hf:P.funcs[f]?=some fn)(hm:fn.ntmps=m)(h:iniC 0 args λl=>TDR P N c fn N Q V (mkA m l) aw)
  (hb:fn.body=some c:=by rfl) (hN:aw.length=N:=by rfl) (hname:(fn.name== "runtime.NumGoroutine")=false:=by kernel_rfl) (hl:Nat.ble args.length m=true:=by rfl):ACalls P f args aw Q:=
 Kt hN hf hb hname hm hl (wj (K:=λl=>TDR P N c fn N Q V (mkA m l) aw) h)
theorem catX:CatX Qbl (.iface 173 (.agg #[])) 103 [.ptr 0 0,.ptr 1 0] [.box [.any,.any,.any,.any,.any],.box [.any]] [.box [.nils,.nils,.nils,.nils,.nils],.box [iI 12]]:=by
 intro w F σ vs hs hr;match vs,hr with
 | [p,q],hr=>
  refine callsD_of_wpS Vm J λc₀ cs hu=>?_
  apply wpS_seq
  apply wpS_region
  simp[wpOpsS,go_sem,recoverD,hu,Tryz.ntmps103,Exit.thenS]
  have hp:Rel σ w F (.ptr 0 0) p:=hr.2 0 _ p J J
  have hq:Rel σ w F (.ptr 1 0) q:=hr.2 1 _ q J J
  have hv:Rel σ w F (.ifc 173 (.agg [])) (.iface 173 (.agg #[])):=.ifc _ _ _ (.agg [] [] J (λ_ h=>(RZ h).elim) (λj c u h=>by simp at h))
  have hc:Cur ⟨[.box [.any,.any,.any,.any,.any],.box [.any]],σ,w,F,[]⟩ [.ptr 0 0,.ptr 1 0,.ifc 173 (.agg []),.any,.any,.any,.any,.any,.any,.any,.any,.any,.any,.any,.any,.any,.any] [.box [.any,.any,.any,.any,.any],.box [.any]] σ w F { tmps:=#[p,q,(.iface 173 (.agg #[])),undef,undef,(.iface 173 (.agg #[])),undef,undef,undef,undef,undef,undef,undef,undef,undef,undef,undef],defers:=[] }:=
   ⟨hs,⟨.cons hp (.cons hq (.cons hv (.cons (.any _) (.cons (.any _) (.cons (.any _) (.cons (.any _) (.cons (.any _) (.cons (.any _) (.cons (.any _) (.cons (.any _) (.cons (.any _) (.cons (.any _) (.cons (.any _) (.cons (.any _) (.cons (.any _) (.cons (.any _) (.nil))))))))))))))))),tqz⟩,.refl ..,J⟩
  refine wpS_of_wp (wp_mono (T.out (P:=Qbl) (N:=2) (Q:=λe fr aw=>e=.normal/\aw=[.box [.nils,.nils,.nils,.nils,.nils],.box [iI 12],.box []]) (fr:=mkA 17 [(0,.ptr 0 0),(1,.ptr 1 0),(2,.ifc 173 (.agg []))]) (aw:=[.box [.any,.any,.any,.any,.any],.box [.any]]) ?_ ⟨[.box [.any,.any,.any,.any,.any],.box [.any]],σ,w,F,[]⟩ J hs.len σ w F _ hc) ?_)
  .refine T.seq (T.region (go 1 2 (sO (JV Tryz.underlying20 J J (RS.nil (Va J (T.seq (T.seq (T.region (go 1 2 ?_))))))))))
   refine sO (LE Vi J J (go 6 2 (RS.nil (T.seq (T.region (go 2 3 (RS.nil (Vb J (T.skip (T.region ?_))))))))))
   exact go 3 3 (RS.nil (⟨J,J⟩))
  .rintro e a' w' ⟨fr',aw',σ',F',⟨rfl,rfl⟩,hcur⟩
   obtain⟨σ2,hσ,s2,hd⟩:=jz (aw':=[.box [.nils,.nils,.nils,.nils,.nils],.box [iI 12]]) (ρ:=[0,1]) hcur.sim (by decide) (aE (cs:=[.nils,.nils,.nils,.nils,.nils]) (ds:=[.nils,.nils,.nils,.nils,.nils]) J ⟨dU cb,dU cb,dU cb,dU cb,dU cb,tqz⟩ (aE (cs:=[iI 12]) (ds:=[iI 12]) J ⟨bE J,tqz⟩ aA))
   refine⟨hcur.ds,_,J,.tuple #[],?_,⟨_,J⟩,J,σ2,F',s2,Tr (st:=⟨[.box [.any,.any,.any,.any,.any],.box [.any]],σ,w,F,[]⟩) hs.len hcur.mv (λk hk=>?_) hσ hd⟩
   .simp[results,Tryz.results103]
   .match k,hk with
    |0,_=>rfl
    |1,_=>rfl
end
section
open Go.RowKit
set_option maxRecDepth 100000
set_option maxHeartbeats 4000000
set_option synthInstance.maxSize 100000
set_option synthInstance.maxHeartbeats 4000000
section
variable {p0:U UInt8}{r p1:U Int}
theorem Aw {r:(Item×(U UInt8))⊕Unit}(h:mH p0=some r):FnP Qbl (.iface 173 (.agg #[])) 141 [.ptr 0 0] [.box [.str p0]] (λr:Item×(U UInt8)=>.agg (aa r.1)) (λr=>[.box [.str r.2]]) r:=by
 unfold mH at h;refine fnPT 1 Tryz.func141 Tryz.ntmps141 ?_;refine q0 ?_;refine X 5 1 (da h (λhx4 h=>?_) (λx4 hx4 h=>?_))
 .cases h;(refine SZ (V:=(.iface 173 (.agg #[]))) 1 J ?_);exact go 1 2 (RS.nil (qc (aw2:=[.dead,.box [iI 0,iI 0,iI 0]]) (n0:=2) (n1:=1) [0] J J (aW hx4) (aE J ⟨aL J,tqz⟩ aA) ⟨al J,tqz⟩ ⟨.inl ⟨0,_,by decide,J,tqz⟩,.inr ⟨J,J⟩,tqz⟩ J))
 refine da h (λhx5 h=>?_) (λx5 hx5 h=>?_)
 .cases h;(refine SZ (V:=(.iface 173 (.agg #[]))) 3 J ?_);exact go 1 2 (sO (bt (aw2:=[.box [.str x4.2],.box [iI 0,iI 0,iI 0]]) (v':=iI x4.1) (n0:=2) (n1:=1) [0] J J (aW hx4) (aE J ⟨aL J,tqz⟩ aA) ⟨al J,tqz⟩ (au (aO _ _)) ⟨.inl ⟨0,_,by decide,J,aX ⟨au (bd _),tqz⟩⟩,.inr ⟨J,J⟩,tqz⟩ (go 1 2 (RS.nil (qc (aw2:=[.dead,.box [iI 0,iI 0,iI 0]]) (n0:=2) (n1:=1) [0] J J (aW hx5) (aE J ⟨aL J,tqz⟩ aA) ⟨al J,tqz⟩ ⟨.inl ⟨0,_,by decide,J,tqz⟩,.inr ⟨J,J⟩,tqz⟩ J)))))
 refine da h (λhx6 h=>?_) (λx6 hx6 h=>?_)
 .cases h;(refine SZ (V:=(.iface 173 (.agg #[]))) 5 J ?_);refine go 1 2 (sO (bt (aw2:=[.box [.str x4.2],.box [iI 0,iI 0,iI 0]]) (v':=iI x4.1) (n0:=2) (n1:=1) [0] J J (aW hx4) (aE J ⟨aL J,tqz⟩ aA) ⟨al J,tqz⟩ (au (aO _ _)) ⟨.inl ⟨0,_,by decide,J,aX ⟨au (bd _),tqz⟩⟩,.inr ⟨J,J⟩,tqz⟩ (go 1 2 (sO (bt (aw2:=[.box [.str x5.2],.box [iI 0,iI 0,iI 0]]) (v':=iI x5.1) (n0:=2) (n1:=1) [0] J J (aW hx5) (aE J ⟨aL J,tqz⟩ aA) ⟨al J,tqz⟩ (au (aO _ _)) ⟨.inl ⟨0,_,by decide,J,aX ⟨au (bd _),tqz⟩⟩,.inr ⟨J,J⟩,tqz⟩ (go 1 2 ?_))))));exact RS.nil (qc (aw2:=[.dead,.box [iI 0,iI 0,iI 0]]) (n0:=2) (n1:=1) [0] J J (aW hx6) (aE J ⟨aL J,tqz⟩ aA) ⟨al J,tqz⟩ ⟨.inl ⟨0,_,by decide,J,tqz⟩,.inr ⟨J,J⟩,tqz⟩ J)
 refine X 2 2 (sO (bt (aw2:=[.box [.str x4.2],.box [iI 0,iI 0,iI 0]]) (v':=iI x4.1) (n0:=2) (n1:=1) [0] J J (aW hx4) (aE J ⟨aL J,tqz⟩ aA) ⟨al J,tqz⟩ (au (aO _ _)) ⟨.inl ⟨0,_,by decide,J,aX ⟨au (bd _),tqz⟩⟩,.inr ⟨J,J⟩,tqz⟩ (Y 1 2 (sO (bt (aw2:=[.box [.str x5.2],.box [iI 0,iI 0,iI 0]]) (v':=iI x5.1) (n0:=2) (n1:=1) [0] J J (aW hx5) (aE J ⟨aL J,tqz⟩ aA) ⟨al J,tqz⟩ (au (aO _ _)) ⟨.inl ⟨0,_,by decide,J,aX ⟨au (bd _),tqz⟩⟩,.inr ⟨J,J⟩,tqz⟩ (Y 1 2 (sO (bt (aw2:=[.box [.str x6.2],.box [iI 0,iI 0,iI 0]]) (v':=iI x6.1) (n0:=2) (n1:=1) [0] J J (aW hx6) (aE J ⟨aL J,tqz⟩ aA) ⟨al J,tqz⟩ (au (aO _ _)) ⟨.inl ⟨0,_,by decide,J,aX ⟨au (bd _),tqz⟩⟩,.inr ⟨J,J⟩,tqz⟩ (Y 3 2 ?_)))))))));cases h;exact tN [0]
theorem Au {r:((U Item)×(U UInt8))⊕Unit}(h:rr p0=some r):FnP Qbl (.iface 173 (.agg #[])) 140 [.ptr 0 0,.bnd 141 [.ptr 0 0]] [.box [.str p0]] (λr:(U Item)×(U UInt8)=>.ref 1) (λr=>[.box [.str r.2],aR 75 3 aa r.1]) r:=by
 unfold rr at h;refine fnPT 1 Tryz.func140 Tryz.ntmps140 ?_;refine q0 ?_;refine X 5 1 (da h (λhx2 h=>?_) (λx2 hx2 h=>?_))
 .cases h;(refine SZ (V:=(.iface 173 (.agg #[]))) 1 J ?_);exact go 1 1 (RS.nil (qc (aw2:=[.dead]) (n0:=1) (n1:=1) [0] J J (aW hx2) (aE J ⟨aL J,tqz⟩ aA) ⟨al J,tqz⟩ ⟨.inl ⟨0,_,by decide,J,tqz⟩,tqz⟩ J))
 refine X 2 1 (sO (bt (aw2:=[.box [.str x2.2]]) (v':=iI x2.1) (n0:=1) (n1:=1) [0] J J (aW hx2) (aE J ⟨aL J,tqz⟩ aA) ⟨al J,tqz⟩ (au (aO _ _)) ⟨.inl ⟨0,_,by decide,J,aX ⟨au (bd _),tqz⟩⟩,tqz⟩ (Y 3 1 (j1 [(1,.bnd 141 [.ptr 0 0]),(5,iI x2.1),(19,.bool ((decide (x2.1<0))||decide (x2.1> ((x2.2).length:Int))))] [.box [.str x2.2]] ?_ (λhK=>?_)))))
 .refine Sv h J (λab h=>?_) (λab h=>?_)
  .cases h;(refine SZ (V:=(.iface 173 (.agg #[]))) 2 J ?_);exact go 1 1 (sO (lQ Vi J J (RS.nil (PP.panic J J))))
  refine X 12 1 (itr (λam:Int×(U UInt8)×(U Item)=>mkA 32 [(1,.bnd 141 [.ptr 0 0]),(6,.ref 1),(22,iI x2.1),(23,iI am.1)]) (λam=>[.box [.str am.2.1],aR 75 3 aa am.2.2]) h (wk [(6,75,3)] [0,1] 1 J) (λam v_6 h bu=>?_));obtain⟨s4,s5,s6⟩:=am;replace h:jW x2 s4 s5 s6=some v_6:=h;try dsimp only
  unfold jW at h;refine X 5 2 (Sv h J (λbN h=>?_) (λbN h=>?_))
  .refine X 3 2 (da h (λhx7 h=>?_) (λx7 hx7 h=>?_))
   .replace h:=mi h bu;cases h;(refine SZ (V:=(.iface 173 (.agg #[]))) 2 J ?_);exact go 2 2 (RS.nil (qcb (aw2:=[.dead,aR 75 3 aa s6]) (n0:=2) (n1:=1) [0] J J (Aw hx7) (aE J ⟨aL J,tqz⟩ aA) ⟨al J,tqz⟩ ⟨.inl ⟨0,_,by decide,J,tqz⟩,.inr ⟨J,J⟩,tqz⟩ J))
   refine B h λx8 hx8 h=>(X 3 2 (sO (yf (aw2:=[.box [.str x7.2],aR 75 3 aa s6]) (v':=.agg (aa x7.1)) (n0:=2) (n1:=1) [0] J J (Aw hx7) (aE J ⟨aL J,tqz⟩ aA) ⟨al J,tqz⟩ (tH ⟨au (aO _ _),au (aO _ _),au (aO _ _),tqz⟩) ⟨.inl ⟨0,_,by decide,J,aX ⟨au (bd _),tqz⟩⟩,.inr ⟨J,J⟩,tqz⟩ (sO (be (rows:=List.map aa [x7.1]) (vs:=[.agg (aa x7.1)]) Sy SW J J J J J J (sO (bQ (en:=aa) (xs:=s6) (ys:=([x7.1]:U Item)) Sy (λ_=>J) J J J hx8 J J (Y 6 4 ?_))))))))
   exact lk h (wk [] [0,3] 4 J)
  refine X 1 2 ?_;replace h:=mi h bu;refine X 5 2 ?_;cases h;exact tO [] [0,1] 2
 refine X 5 1 (gp 11 (λae=>?_) (λae=>?_))
 .refine Yp 9 1 ?_;rw[ae]at hK;exact sx hK
 refine Yp 9 1 ?_;rw[ae]at hK;exact sx hK
theorem uN {r:((U Item)×(U UInt8))⊕Unit}(h:lc p0=some r):FnP Qbl (.iface 173 (.agg #[])) 107 [.ptr 0 0] [.box [.str p0]] (λr:(U Item)×(U UInt8)=>.ref 1) (λr=>[.box [.str r.2],aR 75 3 aa r.1]) r:=by
 unfold lc at h;refine fnPT 1 Tryz.func107 Tryz.ntmps107 ?_;refine q0 ?_;refine X 5 1 (da h (λhx2 h=>?_) (λx2 hx2 h=>?_))
 .cases h;(refine SZ (V:=(.iface 173 (.agg #[]))) 3 J ?_);exact go 2 1 (sQ (v_bnd (cs:=[.ptr 0 0]) J (RS.nil (qc (aw2:=[.dead]) (n0:=1) (n1:=1) [0] J J (Au hx2) (aE J ⟨aL J,tqz⟩ aA) ⟨al J,n9 ⟨al J,tqz⟩,tqz⟩ ⟨.inl ⟨0,_,by decide,J,tqz⟩,tqz⟩ J))))
 refine X 3 1 (sQ (v_bnd (cs:=[.ptr 0 0]) J (sO (bt (aw2:=[.box [.str x2.2],aR 75 3 aa x2.1]) (v':=.ref 1) (n0:=1) (n1:=2) [0] J J (Au hx2) (aE J ⟨aL J,tqz⟩ aA) ⟨al J,n9 ⟨al J,tqz⟩,tqz⟩ (iL (by decide)) ⟨.inl ⟨0,_,by decide,J,aX ⟨au (bd _),tqz⟩⟩,.inl ⟨1,_,by decide,J,kC fj⟩,tqz⟩ (Y 2 2 ?_)))));cases h;exact tO [] [0,1] 2
theorem Ax {r:((U (U Item))×(U UInt8))⊕Unit}(h:oV p0=some r):FnP Qbl (.iface 173 (.agg #[])) 106 [.ptr 0 0,.bnd 107 [.ptr 0 0]] [.box [.str p0]] (λr:(U (U Item))×(U UInt8)=>.ref 1) (λr=>[.box [.str r.2],aR 30 1 (ak aa) r.1]) r:=by
 unfold oV at h;refine fnPT 1 Tryz.func106 Tryz.ntmps106 ?_;refine q0 ?_;refine X 5 1 (da h (λhx2 h=>?_) (λx2 hx2 h=>?_))
 .cases h;(refine SZ (V:=(.iface 173 (.agg #[]))) 1 J ?_);exact go 1 1 (RS.nil (qc (aw2:=[.dead]) (n0:=1) (n1:=1) [0] J J (aW hx2) (aE J ⟨aL J,tqz⟩ aA) ⟨al J,tqz⟩ ⟨.inl ⟨0,_,by decide,J,tqz⟩,tqz⟩ J))
 refine X 2 1 (sO (bt (aw2:=[.box [.str x2.2]]) (v':=iI x2.1) (n0:=1) (n1:=1) [0] J J (aW hx2) (aE J ⟨aL J,tqz⟩ aA) ⟨al J,tqz⟩ (au (aO _ _)) ⟨.inl ⟨0,_,by decide,J,aX ⟨au (bd _),tqz⟩⟩,tqz⟩ (Y 3 1 (j1 [(1,.bnd 107 [.ptr 0 0]),(5,iI x2.1),(19,.bool ((decide (x2.1<0))||decide (x2.1> ((x2.2).length:Int))))] [.box [.str x2.2]] ?_ (λhK=>?_)))))
 .refine Sv h J (λab h=>?_) (λab h=>?_)
  .cases h;(refine SZ (V:=(.iface 173 (.agg #[]))) 2 J ?_);exact go 1 1 (sO (lQ Vi J J (RS.nil (PP.panic J J))))
  refine X 12 1 (itr (λam:Int×(U UInt8)×(U (U Item))=>mkA 32 [(1,.bnd 107 [.ptr 0 0]),(6,.ref 1),(22,iI x2.1),(23,iI am.1)]) (λam=>[.box [.str am.2.1],aR 30 1 (ak aa) am.2.2]) h (wk [(6,30,1)] [0,1] 1 J) (λam v_6 h bu=>?_));obtain⟨s4,s5,s6⟩:=am;replace h:jY x2 s4 s5 s6=some v_6:=h;try dsimp only
  unfold jY at h;refine X 5 2 (Sv h J (λbN h=>?_) (λbN h=>?_))
  .refine X 3 2 (da h (λhx7 h=>?_) (λx7 hx7 h=>?_))
   .replace h:=mi h bu;cases h;(refine SZ (V:=(.iface 173 (.agg #[]))) 2 J ?_);exact go 2 2 (RS.nil (qcb (aw2:=[.dead,aR 30 1 (ak aa) s6]) (n0:=2) (n1:=1) [0] J J (uN hx7) (aE J ⟨aL J,tqz⟩ aA) ⟨al J,tqz⟩ ⟨.inl ⟨0,_,by decide,J,tqz⟩,.inr ⟨J,J⟩,tqz⟩ J))
   refine B h λx8 hx8 h=>(X 3 2 (sO (yf (aw2:=[.box [.str x7.2],aR 30 1 (ak aa) s6,aR 75 3 aa x7.1]) (v':=.ref 2) (n0:=2) (n1:=2) [0] J J (uN hx7) (aE J ⟨aL J,tqz⟩ aA) ⟨al J,tqz⟩ (iL (by decide)) ⟨.inl ⟨0,_,by decide,J,aX ⟨au (bd _),tqz⟩⟩,.inr ⟨J,J⟩,.inl ⟨1,_,by decide,J,kC fj⟩,tqz⟩ (RS.fC 2 (sO (be (rows:=List.map (ak aa) [x7.1]) (vs:=[sL aa x7.1]) SA SU J J J J J J (sO (bQ (en:=(ak aa)) (xs:=s6) (ys:=([x7.1]:U (U Item))) SA (λ_=>J) J J J hx8 J J (Y 6 5 ?_)))))))))
   exact lk h (wk [] [0,4] 5 J)
  refine X 1 2 ?_;replace h:=mi h bu;refine X 5 2 ?_;cases h;exact tO [] [0,1] 2
 refine X 5 1 (gp 11 (λae=>?_) (λae=>?_))
 .refine Yp 9 1 ?_;rw[ae]at hK;exact sx hK
 refine Yp 9 1 ?_;rw[ae]at hK;exact sx hK
theorem AF {r:(Keyed×(U UInt8))⊕Unit}(h:mR p0=some r):FnP Qbl (.iface 173 (.agg #[])) 111 [.ptr 0 0] [.box [.ptr 1 0],.box [.str p0]] (λr:Keyed×(U UInt8)=>.agg (aH r.1)) (λr=>[.box [.ptr 1 0],.box [.str r.2]]) r:=by
 unfold mR at h;refine fnPT 2 Tryz.func111 Tryz.ntmps111 ?_;refine q0 ?_;refine X 5 2 (da h (λhx3 h=>?_) (λx3 hx3 h=>?_))
 .cases h;refine S5 (V:=(.iface 173 (.agg #[]))) (λ_=>True) mixed (k:=6) J ?_ (λ_ _ _=>J);refine qpl [0,1,3,4,5] 0 J (iz J J (aN SF (c:=.ptr 1 0) J (qA2 1 2 ?_ ?_)))
  .exact qpP J (qc (aw2:=[.box [.ptr 1 0],.dead,.box [iI 0,iI 0]]) (n0:=3) (n1:=1) [1] J J (aW hx3) (aE J ⟨aL J,tqz⟩ aA) ⟨al J,tqz⟩ ⟨.inr ⟨J,J⟩,.inl ⟨0,_,by decide,J,tqz⟩,.inr ⟨J,J⟩,tqz⟩ trivial)
  exact qpO J (dr J J (aN SF (c:=.ptr 1 0) J (qA1 1 (qpP J (qc (aw2:=[.box [.ptr 1 0],.dead,.box [iI 0,iI 0]]) (n0:=3) (n1:=1) [1] J J (aW hx3) (aE J ⟨aL J,tqz⟩ aA) ⟨al J,tqz⟩ ⟨.inr ⟨J,J⟩,.inl ⟨0,_,by decide,J,tqz⟩,.inr ⟨J,J⟩,tqz⟩ trivial)))))
 refine da h (λhx4 h=>?_) (λx4 hx4 h=>?_)
 .cases h;refine S5 (V:=(.iface 173 (.agg #[]))) (λ_=>True) mixed (k:=6) J ?_ (λ_ _ _=>J);refine qpl [0,1,3,4,5] 0 J (iz J J (aN SF (c:=.ptr 1 0) J (qA2 1 2 ?_ ?_)))
  .refine qpO J (bt (aw2:=[.box [.ptr 1 0],.box [.str x3.2],.box [iI 0,iI 0]]) (v':=iI x3.1) (n0:=3) (n1:=1) [1] J J (aW hx3) (aE J ⟨aL J,tqz⟩ aA) ⟨al J,tqz⟩ (au (aO _ _)) ⟨.inr ⟨J,J⟩,.inl ⟨0,_,by decide,J,aX ⟨au (bd _),tqz⟩⟩,.inr ⟨J,J⟩,tqz⟩ (qA1 2 (qpO J (dr J J (aN SF (c:=.ptr 1 0) J (qA1 3 ?_))))));exact qpP J (qc (aw2:=[.box [.ptr 1 0],.dead,.box [iI 0,iI 0]]) (n0:=3) (n1:=1) [1] J J (aW hx4) (aE J ⟨aL J,tqz⟩ aA) ⟨al J,tqz⟩ ⟨.inr ⟨J,J⟩,.inl ⟨0,_,by decide,J,tqz⟩,.inr ⟨J,J⟩,tqz⟩ trivial)
  refine qpO J (dr J J (aN SF (c:=.ptr 1 0) J (qA1 1 (qpO J (bt (aw2:=[.box [.ptr 1 0],.box [.str x3.2],.box [iI 0,iI 0]]) (v':=iI x3.1) (n0:=3) (n1:=1) [1] J J (aW hx3) (aE J ⟨aL J,tqz⟩ aA) ⟨al J,tqz⟩ (au (aO _ _)) ⟨.inr ⟨J,J⟩,.inl ⟨0,_,by decide,J,aX ⟨au (bd _),tqz⟩⟩,.inr ⟨J,J⟩,tqz⟩ (qA1 3 ?_))))));exact qpP J (qc (aw2:=[.box [.ptr 1 0],.dead,.box [iI 0,iI 0]]) (n0:=3) (n1:=1) [1] J J (aW hx4) (aE J ⟨aL J,tqz⟩ aA) ⟨al J,tqz⟩ ⟨.inr ⟨J,J⟩,.inl ⟨0,_,by decide,J,tqz⟩,.inr ⟨J,J⟩,tqz⟩ trivial)
 refine T.drawn mixed (k:=6) J ?_;apply Su 3 (bm 6 7);intro hS1
 .refine rL [0,1,3,4,5] 0 J (ra2 1 2 ?_ ?_)
  .refine oO J (bt (aw2:=[.box [.ptr 1 0],.box [.str x3.2],.box [iI 0,iI 0]]) (v':=iI x3.1) (n0:=3) (n1:=1) [1] J J (aW hx3) (aE J ⟨aL J,tqz⟩ aA) ⟨al J,tqz⟩ (au (aO _ _)) ⟨.inr ⟨J,J⟩,.inl ⟨0,_,by decide,J,aX ⟨au (bd _),tqz⟩⟩,.inr ⟨J,J⟩,tqz⟩ (ra1 2 (og 3 ⟨J,?_⟩)));exact raE hS1
  .refine og 3 ⟨J,(ra1 1 (oO J (bt (aw2:=[.box [.ptr 1 0],.box [.str x3.2],.box [iI 0,iI 0]]) (v':=iI x3.1) (n0:=3) (n1:=1) [1] J J (aW hx3) (aE J ⟨aL J,tqz⟩ aA) ⟨al J,tqz⟩ (au (aO _ _)) ⟨.inr ⟨J,J⟩,.inl ⟨0,_,by decide,J,aX ⟨au (bd _),tqz⟩⟩,.inr ⟨J,J⟩,tqz⟩ ?_)))⟩;exact raT hS1
 refine ra1 3 (oO J (bt (aw2:=[.box [.ptr 1 0],.box [.str x4.2],.box [iI 0,iI 0]]) (v':=iI x4.1) (n0:=3) (n1:=1) [1] J J (aW hx4) (aE J ⟨aL J,tqz⟩ aA) ⟨al J,tqz⟩ (au (aO _ _)) ⟨.inr ⟨J,J⟩,.inl ⟨0,_,by decide,J,aX ⟨au (bd _),tqz⟩⟩,.inr ⟨J,J⟩,tqz⟩ (rq [4] 1 (ra1 5 (og 3 ⟨J,(RA.done (by decide+kernel) ?_)⟩)))));cases h;exact tN [0,1]
theorem k6 {r:((U Keyed)×(U UInt8))⊕Unit}(h:oR p0=some r):FnP Qbl (.iface 173 (.agg #[])) 110 [.ptr 0 0,.func 111 [.ptr 1 0]] [.box [.str p0],.box [.ptr 0 0]] (λr:(U Keyed)×(U UInt8)=>.ref 2) (λr=>[.box [.str r.2],.box [.ptr 0 0],aR 139 2 aH r.1]) r:=by
 unfold oR at h;refine fnPT 2 Tryz.func110 Tryz.ntmps110 ?_;refine q0 ?_;refine X 5 2 (da h (λhx2 h=>?_) (λx2 hx2 h=>?_))
 .cases h;(refine SZ (V:=(.iface 173 (.agg #[]))) 1 J ?_);exact go 1 2 (RS.nil (qc (aw2:=[.dead,.box [.ptr 0 0]]) (n0:=2) (n1:=1) [0] J J (aW hx2) (aE J ⟨aL J,tqz⟩ aA) ⟨al J,tqz⟩ ⟨.inl ⟨0,_,by decide,J,tqz⟩,.inr ⟨J,J⟩,tqz⟩ J))
 refine X 2 2 (sO (bt (aw2:=[.box [.str x2.2],.box [.ptr 0 0]]) (v':=iI x2.1) (n0:=2) (n1:=1) [0] J J (aW hx2) (aE J ⟨aL J,tqz⟩ aA) ⟨al J,tqz⟩ (au (aO _ _)) ⟨.inl ⟨0,_,by decide,J,aX ⟨au (bd _),tqz⟩⟩,.inr ⟨J,J⟩,tqz⟩ (Y 3 2 (j1 [(1,.func 111 [.ptr 1 0]),(5,iI x2.1),(19,.bool ((decide (x2.1<0))||decide (x2.1> ((x2.2).length:Int))))] [.box [.str x2.2],.box [.ptr 0 0]] ?_ (λhK=>?_)))))
 .refine Sv h J (λab h=>?_) (λab h=>?_)
  .cases h;(refine SZ (V:=(.iface 173 (.agg #[]))) 2 J ?_);exact go 1 2 (sO (lQ Vi J J (RS.nil (PP.panic J J))))
  refine X 12 2 (itr (λam:Int×(U UInt8)×(U Keyed)=>mkA 32 [(1,.func 111 [.ptr 1 0]),(6,.ref 2),(22,iI x2.1),(23,iI am.1)]) (λam=>[.box [.str am.2.1],.box [.ptr 0 0],aR 139 2 aH am.2.2]) h (wk [(6,139,2)] [0,1,2] 2 J) (λam v_6 h bu=>?_));obtain⟨s4,s5,s6⟩:=am;replace h:jV x2 s4 s5 s6=some v_6:=h;try dsimp only
  unfold jV at h;refine X 5 3 (Sv h J (λbN h=>?_) (λbN h=>?_))
  .refine X 3 3 (da h (λhx7 h=>?_) (λx7 hx7 h=>?_))
   .replace h:=mi h bu;cases h;(refine SZ (V:=(.iface 173 (.agg #[]))) 2 J ?_);exact go 2 3 (RS.nil (qc (aw2:=[.dead,.dead,aR 139 2 aH s6]) (n0:=3) (n1:=2) [1,0] J J (AF hx7) (aE J ⟨al J,tqz⟩ (aE J ⟨aL J,tqz⟩ aA)) ⟨al J,tqz⟩ ⟨.inl ⟨1,_,by decide,J,tqz⟩,.inl ⟨0,_,by decide,J,tqz⟩,.inr ⟨J,J⟩,tqz⟩ J))
   refine B h λx8 hx8 h=>(X 3 3 (sO (bt (aw2:=[.box [.str x7.2],.box [.ptr 0 0],aR 139 2 aH s6]) (v':=.agg (aH x7.1)) (n0:=3) (n1:=2) [1,0] J J (AF hx7) (aE J ⟨al J,tqz⟩ (aE J ⟨aL J,tqz⟩ aA)) ⟨al J,tqz⟩ (tH ⟨au (aO _ _),au (aO _ _),tqz⟩) ⟨.inl ⟨1,_,by decide,J,aX ⟨au (bd _),tqz⟩⟩,.inl ⟨0,_,by decide,J,aX ⟨lZ (by decide),tqz⟩⟩,.inr ⟨J,J⟩,tqz⟩ (sO (be (rows:=List.map aH [x7.1]) (vs:=[.agg (aH x7.1)]) SB Ta J J J J J J (sO (bQ (en:=aH) (xs:=s6) (ys:=([x7.1]:U Keyed)) SB (λ_=>J) J J J hx8 J J (Y 6 5 ?_))))))))
   exact lk h (wk [] [0,1,4] 5 J)
  refine X 1 3 ?_;replace h:=mi h bu;refine X 5 3 ?_;cases h;exact tO [] [0,1,2] 3
 refine X 5 2 (gp 11 (λae=>?_) (λae=>?_))
 .refine Yp 9 2 ?_;rw[ae]at hK;exact sx hK
 refine Yp 9 2 ?_;rw[ae]at hK;exact sx hK
theorem AJ {r:(Memory×(U UInt8))⊕Unit}(h:m9 p0=some r):FnP Qbl (.iface 173 (.agg #[])) 109 [.ptr 0 0] [.box [.ptr 1 0],.box [.str p0]] (λr:Memory×(U UInt8)=>.agg (aq r.1)) (λr=>[.box [.ptr 1 0],.box [.str r.2]]) r:=by
 unfold m9 at h;refine fnPT 2 Tryz.func109 Tryz.ntmps109 ?_;refine q0 ?_;refine X 5 2 (da h (λhx4 h=>?_) (λx4 hx4 h=>?_))
 .cases h;refine S5 (V:=(.iface 173 (.agg #[]))) (λ_=>True) mixed (k:=9) J ?_ (λ_ _ _=>J);refine qp0 5 J (vM (cs:=[.ptr 0 0]) J (qpl [0,1,3,6,7,8] 0 J (iz J J (aN SF (c:=.ptr 1 0) J (qA3 1 2 4 ?_ ?_ ?_)))))
  .exact qpP J (qc (aw2:=[.box [.ptr 1 0],.dead,.box [iI 0,.nils,iI 0]]) (n0:=3) (n1:=1) [1] J J (aW hx4) (aE J ⟨aL J,tqz⟩ aA) ⟨al J,tqz⟩ ⟨.inr ⟨J,J⟩,.inl ⟨0,_,by decide,J,tqz⟩,.inr ⟨J,J⟩,tqz⟩ trivial)
  .refine qpO J (dr J J (aN SF (c:=.ptr 1 0) J (qA2 1 4 ?_ ?_)))
   .exact qpP J (qc (aw2:=[.box [.ptr 1 0],.dead,.box [iI 0,.nils,iI 0]]) (n0:=3) (n1:=1) [1] J J (aW hx4) (aE J ⟨aL J,tqz⟩ aA) ⟨al J,tqz⟩ ⟨.inr ⟨J,J⟩,.inl ⟨0,_,by decide,J,tqz⟩,.inr ⟨J,J⟩,tqz⟩ trivial)
   exact qpO J (dr J J (aN SF (c:=.ptr 1 0) J (qA1 1 (qpP J (qc (aw2:=[.box [.ptr 1 0],.dead,.box [iI 0,.nils,iI 0]]) (n0:=3) (n1:=1) [1] J J (aW hx4) (aE J ⟨aL J,tqz⟩ aA) ⟨al J,tqz⟩ ⟨.inr ⟨J,J⟩,.inl ⟨0,_,by decide,J,tqz⟩,.inr ⟨J,J⟩,tqz⟩ trivial)))))
  refine qpO J (dr J J (aN SF (c:=.ptr 1 0) J (qA2 1 2 ?_ ?_)))
  .exact qpP J (qc (aw2:=[.box [.ptr 1 0],.dead,.box [iI 0,.nils,iI 0]]) (n0:=3) (n1:=1) [1] J J (aW hx4) (aE J ⟨aL J,tqz⟩ aA) ⟨al J,tqz⟩ ⟨.inr ⟨J,J⟩,.inl ⟨0,_,by decide,J,tqz⟩,.inr ⟨J,J⟩,tqz⟩ trivial)
  exact qpO J (dr J J (aN SF (c:=.ptr 1 0) J (qA1 1 (qpP J (qc (aw2:=[.box [.ptr 1 0],.dead,.box [iI 0,.nils,iI 0]]) (n0:=3) (n1:=1) [1] J J (aW hx4) (aE J ⟨aL J,tqz⟩ aA) ⟨al J,tqz⟩ ⟨.inr ⟨J,J⟩,.inl ⟨0,_,by decide,J,tqz⟩,.inr ⟨J,J⟩,tqz⟩ trivial)))))
 refine da h (λhx5 h=>?_) (λx5 hx5 h=>?_)
 .cases h;refine S5 (V:=(.iface 173 (.agg #[]))) (λ_=>True) mixed (k:=9) J ?_ (λ_ _ _=>J);refine qp0 5 J (vM (cs:=[.ptr 0 0]) J (qpl [0,1,3,6,7,8] 0 J (iz J J (aN SF (c:=.ptr 1 0) J (qA3 1 2 4 ?_ ?_ ?_)))))
  .refine qpO J (bt (aw2:=[.box [.ptr 1 0],.box [.str x4.2],.box [iI 0,.nils,iI 0]]) (v':=iI x4.1) (n0:=3) (n1:=1) [1] J J (aW hx4) (aE J ⟨aL J,tqz⟩ aA) ⟨al J,tqz⟩ (au (aO _ _)) ⟨.inr ⟨J,J⟩,.inl ⟨0,_,by decide,J,aX ⟨au (bd _),tqz⟩⟩,.inr ⟨J,J⟩,tqz⟩ (qpl [2,3,6,7,8] 2 J (iz J J (aN SF (c:=.ptr 1 0) J (qA2 3 4 ?_ ?_)))))
   .exact qpP J (qc (aw2:=[.box [.ptr 1 0],.dead,.box [iI 0,.nils,iI 0]]) (n0:=3) (n1:=1) [1] J J (aW hx5) (aE J ⟨aL J,tqz⟩ aA) ⟨al J,tqz⟩ ⟨.inr ⟨J,J⟩,.inl ⟨0,_,by decide,J,tqz⟩,.inr ⟨J,J⟩,tqz⟩ trivial)
   exact qpO J (dr J J (aN SF (c:=.ptr 1 0) J (qA1 3 (qpP J (qc (aw2:=[.box [.ptr 1 0],.dead,.box [iI 0,.nils,iI 0]]) (n0:=3) (n1:=1) [1] J J (aW hx5) (aE J ⟨aL J,tqz⟩ aA) ⟨al J,tqz⟩ ⟨.inr ⟨J,J⟩,.inl ⟨0,_,by decide,J,tqz⟩,.inr ⟨J,J⟩,tqz⟩ trivial)))))
  .refine qpO J (dr J J (aN SF (c:=.ptr 1 0) J (qA2 1 4 ?_ ?_)))
   .refine qpO J (bt (aw2:=[.box [.ptr 1 0],.box [.str x4.2],.box [iI 0,.nils,iI 0]]) (v':=iI x4.1) (n0:=3) (n1:=1) [1] J J (aW hx4) (aE J ⟨aL J,tqz⟩ aA) ⟨al J,tqz⟩ (au (aO _ _)) ⟨.inr ⟨J,J⟩,.inl ⟨0,_,by decide,J,aX ⟨au (bd _),tqz⟩⟩,.inr ⟨J,J⟩,tqz⟩ (qA2 3 4 ?_ ?_))
    .exact qpP J (qc (aw2:=[.box [.ptr 1 0],.dead,.box [iI 0,.nils,iI 0]]) (n0:=3) (n1:=1) [1] J J (aW hx5) (aE J ⟨aL J,tqz⟩ aA) ⟨al J,tqz⟩ ⟨.inr ⟨J,J⟩,.inl ⟨0,_,by decide,J,tqz⟩,.inr ⟨J,J⟩,tqz⟩ trivial)
    exact qpO J (dr J J (aN SF (c:=.ptr 1 0) J (qA1 3 (qpP J (qc (aw2:=[.box [.ptr 1 0],.dead,.box [iI 0,.nils,iI 0]]) (n0:=3) (n1:=1) [1] J J (aW hx5) (aE J ⟨aL J,tqz⟩ aA) ⟨al J,tqz⟩ ⟨.inr ⟨J,J⟩,.inl ⟨0,_,by decide,J,tqz⟩,.inr ⟨J,J⟩,tqz⟩ trivial)))))
   refine qpO J (dr J J (aN SF (c:=.ptr 1 0) J (qA1 1 (qpO J (bt (aw2:=[.box [.ptr 1 0],.box [.str x4.2],.box [iI 0,.nils,iI 0]]) (v':=iI x4.1) (n0:=3) (n1:=1) [1] J J (aW hx4) (aE J ⟨aL J,tqz⟩ aA) ⟨al J,tqz⟩ (au (aO _ _)) ⟨.inr ⟨J,J⟩,.inl ⟨0,_,by decide,J,aX ⟨au (bd _),tqz⟩⟩,.inr ⟨J,J⟩,tqz⟩ (qA1 3 ?_))))));exact qpP J (qc (aw2:=[.box [.ptr 1 0],.dead,.box [iI 0,.nils,iI 0]]) (n0:=3) (n1:=1) [1] J J (aW hx5) (aE J ⟨aL J,tqz⟩ aA) ⟨al J,tqz⟩ ⟨.inr ⟨J,J⟩,.inl ⟨0,_,by decide,J,tqz⟩,.inr ⟨J,J⟩,tqz⟩ trivial)
  refine qpO J (dr J J (aN SF (c:=.ptr 1 0) J (qA2 1 2 ?_ ?_)))
  .refine qpO J (bt (aw2:=[.box [.ptr 1 0],.box [.str x4.2],.box [iI 0,.nils,iI 0]]) (v':=iI x4.1) (n0:=3) (n1:=1) [1] J J (aW hx4) (aE J ⟨aL J,tqz⟩ aA) ⟨al J,tqz⟩ (au (aO _ _)) ⟨.inr ⟨J,J⟩,.inl ⟨0,_,by decide,J,aX ⟨au (bd _),tqz⟩⟩,.inr ⟨J,J⟩,tqz⟩ (qA1 2 (qpO J (dr J J (aN SF (c:=.ptr 1 0) J (qA1 3 ?_))))));exact qpP J (qc (aw2:=[.box [.ptr 1 0],.dead,.box [iI 0,.nils,iI 0]]) (n0:=3) (n1:=1) [1] J J (aW hx5) (aE J ⟨aL J,tqz⟩ aA) ⟨al J,tqz⟩ ⟨.inr ⟨J,J⟩,.inl ⟨0,_,by decide,J,tqz⟩,.inr ⟨J,J⟩,tqz⟩ trivial)
  refine qpO J (dr J J (aN SF (c:=.ptr 1 0) J (qA1 1 (qpO J (bt (aw2:=[.box [.ptr 1 0],.box [.str x4.2],.box [iI 0,.nils,iI 0]]) (v':=iI x4.1) (n0:=3) (n1:=1) [1] J J (aW hx4) (aE J ⟨aL J,tqz⟩ aA) ⟨al J,tqz⟩ (au (aO _ _)) ⟨.inr ⟨J,J⟩,.inl ⟨0,_,by decide,J,aX ⟨au (bd _),tqz⟩⟩,.inr ⟨J,J⟩,tqz⟩ (qA1 3 ?_))))));exact qpP J (qc (aw2:=[.box [.ptr 1 0],.dead,.box [iI 0,.nils,iI 0]]) (n0:=3) (n1:=1) [1] J J (aW hx5) (aE J ⟨aL J,tqz⟩ aA) ⟨al J,tqz⟩ ⟨.inr ⟨J,J⟩,.inl ⟨0,_,by decide,J,tqz⟩,.inr ⟨J,J⟩,tqz⟩ trivial)
 refine da h (λhx6 h=>?_) (λx6 hx6 h=>?_)
 .cases h;refine S5 (V:=(.iface 173 (.agg #[]))) (λ_=>True) mixed (k:=9) J ?_ (λ_ _ _=>J);refine qp0 5 J (vM (cs:=[.ptr 0 0]) J (qpl [0,1,3,6,7,8] 0 J (iz J J (aN SF (c:=.ptr 1 0) J (qA3 1 2 4 ?_ ?_ ?_)))))
  .refine qpO J (bt (aw2:=[.box [.ptr 1 0],.box [.str x4.2],.box [iI 0,.nils,iI 0]]) (v':=iI x4.1) (n0:=3) (n1:=1) [1] J J (aW hx4) (aE J ⟨aL J,tqz⟩ aA) ⟨al J,tqz⟩ (au (aO _ _)) ⟨.inr ⟨J,J⟩,.inl ⟨0,_,by decide,J,aX ⟨au (bd _),tqz⟩⟩,.inr ⟨J,J⟩,tqz⟩ (qpl [2,3,6,7,8] 2 J (iz J J (aN SF (c:=.ptr 1 0) J (qA2 3 4 ?_ ?_)))))
   .refine qpO J (bt (aw2:=[.box [.ptr 1 0],.box [.str x5.2],.box [iI 0,.nils,iI 0]]) (v':=iI x5.1) (n0:=3) (n1:=1) [1] J J (aW hx5) (aE J ⟨aL J,tqz⟩ aA) ⟨al J,tqz⟩ (au (aO _ _)) ⟨.inr ⟨J,J⟩,.inl ⟨0,_,by decide,J,aX ⟨au (bd _),tqz⟩⟩,.inr ⟨J,J⟩,tqz⟩ (qA1 4 (qpO J (dr J J (aN SF (c:=.ptr 1 0) J (qA1 6 ?_))))));exact qpP J (qc (aw2:=[.dead,.dead,.box [iI 0,.nils,iI 0]]) (n0:=3) (n1:=2) [1,0] J J (k6 hx6) (aE J ⟨aL J,tqz⟩ (aE J ⟨al J,tqz⟩ aA)) ⟨al J,gl ⟨al J,tqz⟩,tqz⟩ ⟨.inl ⟨1,_,by decide,J,tqz⟩,.inl ⟨0,_,by decide,J,tqz⟩,.inr ⟨J,J⟩,tqz⟩ trivial)
   refine qpO J (dr J J (aN SF (c:=.ptr 1 0) J (qA1 3 (qpO J (bt (aw2:=[.box [.ptr 1 0],.box [.str x5.2],.box [iI 0,.nils,iI 0]]) (v':=iI x5.1) (n0:=3) (n1:=1) [1] J J (aW hx5) (aE J ⟨aL J,tqz⟩ aA) ⟨al J,tqz⟩ (au (aO _ _)) ⟨.inr ⟨J,J⟩,.inl ⟨0,_,by decide,J,aX ⟨au (bd _),tqz⟩⟩,.inr ⟨J,J⟩,tqz⟩ (qA1 6 ?_))))));exact qpP J (qc (aw2:=[.dead,.dead,.box [iI 0,.nils,iI 0]]) (n0:=3) (n1:=2) [1,0] J J (k6 hx6) (aE J ⟨aL J,tqz⟩ (aE J ⟨al J,tqz⟩ aA)) ⟨al J,gl ⟨al J,tqz⟩,tqz⟩ ⟨.inl ⟨1,_,by decide,J,tqz⟩,.inl ⟨0,_,by decide,J,tqz⟩,.inr ⟨J,J⟩,tqz⟩ trivial)
  .refine qpO J (dr J J (aN SF (c:=.ptr 1 0) J (qA2 1 4 ?_ ?_)))
   .refine qpO J (bt (aw2:=[.box [.ptr 1 0],.box [.str x4.2],.box [iI 0,.nils,iI 0]]) (v':=iI x4.1) (n0:=3) (n1:=1) [1] J J (aW hx4) (aE J ⟨aL J,tqz⟩ aA) ⟨al J,tqz⟩ (au (aO _ _)) ⟨.inr ⟨J,J⟩,.inl ⟨0,_,by decide,J,aX ⟨au (bd _),tqz⟩⟩,.inr ⟨J,J⟩,tqz⟩ (qA2 3 4 ?_ ?_))
    .refine qpO J (bt (aw2:=[.box [.ptr 1 0],.box [.str x5.2],.box [iI 0,.nils,iI 0]]) (v':=iI x5.1) (n0:=3) (n1:=1) [1] J J (aW hx5) (aE J ⟨aL J,tqz⟩ aA) ⟨al J,tqz⟩ (au (aO _ _)) ⟨.inr ⟨J,J⟩,.inl ⟨0,_,by decide,J,aX ⟨au (bd _),tqz⟩⟩,.inr ⟨J,J⟩,tqz⟩ (qA1 4 (qpO J (dr J J (aN SF (c:=.ptr 1 0) J (qA1 6 ?_))))));exact qpP J (qc (aw2:=[.dead,.dead,.box [iI 0,.nils,iI 0]]) (n0:=3) (n1:=2) [1,0] J J (k6 hx6) (aE J ⟨aL J,tqz⟩ (aE J ⟨al J,tqz⟩ aA)) ⟨al J,gl ⟨al J,tqz⟩,tqz⟩ ⟨.inl ⟨1,_,by decide,J,tqz⟩,.inl ⟨0,_,by decide,J,tqz⟩,.inr ⟨J,J⟩,tqz⟩ trivial)
    refine qpO J (dr J J (aN SF (c:=.ptr 1 0) J (qA1 3 (qpO J (bt (aw2:=[.box [.ptr 1 0],.box [.str x5.2],.box [iI 0,.nils,iI 0]]) (v':=iI x5.1) (n0:=3) (n1:=1) [1] J J (aW hx5) (aE J ⟨aL J,tqz⟩ aA) ⟨al J,tqz⟩ (au (aO _ _)) ⟨.inr ⟨J,J⟩,.inl ⟨0,_,by decide,J,aX ⟨au (bd _),tqz⟩⟩,.inr ⟨J,J⟩,tqz⟩ (qA1 6 ?_))))));exact qpP J (qc (aw2:=[.dead,.dead,.box [iI 0,.nils,iI 0]]) (n0:=3) (n1:=2) [1,0] J J (k6 hx6) (aE J ⟨aL J,tqz⟩ (aE J ⟨al J,tqz⟩ aA)) ⟨al J,gl ⟨al J,tqz⟩,tqz⟩ ⟨.inl ⟨1,_,by decide,J,tqz⟩,.inl ⟨0,_,by decide,J,tqz⟩,.inr ⟨J,J⟩,tqz⟩ trivial)
   refine qpO J (dr J J (aN SF (c:=.ptr 1 0) J (qA1 1 (qpO J (bt (aw2:=[.box [.ptr 1 0],.box [.str x4.2],.box [iI 0,.nils,iI 0]]) (v':=iI x4.1) (n0:=3) (n1:=1) [1] J J (aW hx4) (aE J ⟨aL J,tqz⟩ aA) ⟨al J,tqz⟩ (au (aO _ _)) ⟨.inr ⟨J,J⟩,.inl ⟨0,_,by decide,J,aX ⟨au (bd _),tqz⟩⟩,.inr ⟨J,J⟩,tqz⟩ (qA1 3 (qpO J (bt (aw2:=[.box [.ptr 1 0],.box [.str x5.2],.box [iI 0,.nils,iI 0]]) (v':=iI x5.1) (n0:=3) (n1:=1) [1] J J (aW hx5) (aE J ⟨aL J,tqz⟩ aA) ⟨al J,tqz⟩ (au (aO _ _)) ⟨.inr ⟨J,J⟩,.inl ⟨0,_,by decide,J,aX ⟨au (bd _),tqz⟩⟩,.inr ⟨J,J⟩,tqz⟩ (qA1 6 ?_)))))))));exact qpP J (qc (aw2:=[.dead,.dead,.box [iI 0,.nils,iI 0]]) (n0:=3) (n1:=2) [1,0] J J (k6 hx6) (aE J ⟨aL J,tqz⟩ (aE J ⟨al J,tqz⟩ aA)) ⟨al J,gl ⟨al J,tqz⟩,tqz⟩ ⟨.inl ⟨1,_,by decide,J,tqz⟩,.inl ⟨0,_,by decide,J,tqz⟩,.inr ⟨J,J⟩,tqz⟩ trivial)
  refine qpO J (dr J J (aN SF (c:=.ptr 1 0) J (qA2 1 2 ?_ ?_)))
  .refine qpO J (bt (aw2:=[.box [.ptr 1 0],.box [.str x4.2],.box [iI 0,.nils,iI 0]]) (v':=iI x4.1) (n0:=3) (n1:=1) [1] J J (aW hx4) (aE J ⟨aL J,tqz⟩ aA) ⟨al J,tqz⟩ (au (aO _ _)) ⟨.inr ⟨J,J⟩,.inl ⟨0,_,by decide,J,aX ⟨au (bd _),tqz⟩⟩,.inr ⟨J,J⟩,tqz⟩ (qA1 2 (qpO J (dr J J (aN SF (c:=.ptr 1 0) J (qA1 3 (qpO J (bt (aw2:=[.box [.ptr 1 0],.box [.str x5.2],.box [iI 0,.nils,iI 0]]) (v':=iI x5.1) (n0:=3) (n1:=1) [1] J J (aW hx5) (aE J ⟨aL J,tqz⟩ aA) ⟨al J,tqz⟩ (au (aO _ _)) ⟨.inr ⟨J,J⟩,.inl ⟨0,_,by decide,J,aX ⟨au (bd _),tqz⟩⟩,.inr ⟨J,J⟩,tqz⟩ (qA1 6 ?_)))))))));exact qpP J (qc (aw2:=[.dead,.dead,.box [iI 0,.nils,iI 0]]) (n0:=3) (n1:=2) [1,0] J J (k6 hx6) (aE J ⟨aL J,tqz⟩ (aE J ⟨al J,tqz⟩ aA)) ⟨al J,gl ⟨al J,tqz⟩,tqz⟩ ⟨.inl ⟨1,_,by decide,J,tqz⟩,.inl ⟨0,_,by decide,J,tqz⟩,.inr ⟨J,J⟩,tqz⟩ trivial)
  refine qpO J (dr J J (aN SF (c:=.ptr 1 0) J (qA1 1 (qpO J (bt (aw2:=[.box [.ptr 1 0],.box [.str x4.2],.box [iI 0,.nils,iI 0]]) (v':=iI x4.1) (n0:=3) (n1:=1) [1] J J (aW hx4) (aE J ⟨aL J,tqz⟩ aA) ⟨al J,tqz⟩ (au (aO _ _)) ⟨.inr ⟨J,J⟩,.inl ⟨0,_,by decide,J,aX ⟨au (bd _),tqz⟩⟩,.inr ⟨J,J⟩,tqz⟩ (qA1 3 (qpO J (bt (aw2:=[.box [.ptr 1 0],.box [.str x5.2],.box [iI 0,.nils,iI 0]]) (v':=iI x5.1) (n0:=3) (n1:=1) [1] J J (aW hx5) (aE J ⟨aL J,tqz⟩ aA) ⟨al J,tqz⟩ (au (aO _ _)) ⟨.inr ⟨J,J⟩,.inl ⟨0,_,by decide,J,aX ⟨au (bd _),tqz⟩⟩,.inr ⟨J,J⟩,tqz⟩ (qA1 6 ?_)))))))));exact qpP J (qc (aw2:=[.dead,.dead,.box [iI 0,.nils,iI 0]]) (n0:=3) (n1:=2) [1,0] J J (k6 hx6) (aE J ⟨aL J,tqz⟩ (aE J ⟨al J,tqz⟩ aA)) ⟨al J,gl ⟨al J,tqz⟩,tqz⟩ ⟨.inl ⟨1,_,by decide,J,tqz⟩,.inl ⟨0,_,by decide,J,tqz⟩,.inr ⟨J,J⟩,tqz⟩ trivial)
 refine T.drawn mixed (k:=9) J ?_;apply Su 3 (bm 9 63);intro hS1;apply Su 4 (bm 9 55);intro hS2;apply Su 5 (bm 9 39);intro hS3;apply Su 5 (bm 9 53);intro hS4
 .refine rq [5] 8 (rL [0,1,3,6,7,8] 0 J (ra3 1 2 4 ?_ ?_ ?_))
  .refine oO J (bt (aw2:=[.box [.ptr 1 0],.box [.str x4.2],.box [iI 0,.nils,iI 0]]) (v':=iI x4.1) (n0:=3) (n1:=1) [1] J J (aW hx4) (aE J ⟨aL J,tqz⟩ aA) ⟨al J,tqz⟩ (au (aO _ _)) ⟨.inr ⟨J,J⟩,.inl ⟨0,_,by decide,J,aX ⟨au (bd _),tqz⟩⟩,.inr ⟨J,J⟩,tqz⟩ (rL [2,3,6,7,8] 2 J ?_));exact raE hS3
  .refine og 3 ⟨J,(ra2 1 4 ?_ ?_)⟩
   .exact oO J (bt (aw2:=[.box [.ptr 1 0],.box [.str x4.2],.box [iI 0,.nils,iI 0]]) (v':=iI x4.1) (n0:=3) (n1:=1) [1] J J (aW hx4) (aE J ⟨aL J,tqz⟩ aA) ⟨al J,tqz⟩ (au (aO _ _)) ⟨.inr ⟨J,J⟩,.inl ⟨0,_,by decide,J,aX ⟨au (bd _),tqz⟩⟩,.inr ⟨J,J⟩,tqz⟩ (raT hS3))
   .exact og 3 ⟨J,(raE hS4)⟩
  .refine og 3 ⟨J,(ra2 1 2 ?_ ?_)⟩
   .refine oO J (bt (aw2:=[.box [.ptr 1 0],.box [.str x4.2],.box [iI 0,.nils,iI 0]]) (v':=iI x4.1) (n0:=3) (n1:=1) [1] J J (aW hx4) (aE J ⟨aL J,tqz⟩ aA) ⟨al J,tqz⟩ (au (aO _ _)) ⟨.inr ⟨J,J⟩,.inl ⟨0,_,by decide,J,aX ⟨au (bd _),tqz⟩⟩,.inr ⟨J,J⟩,tqz⟩ (ra1 2 (og 3 ⟨J,?_⟩)));exact raE hS2
   .exact og 3 ⟨J,(raT hS4)⟩
 .exact ra1 1 (oO J (bt (aw2:=[.box [.ptr 1 0],.box [.str x4.2],.box [iI 0,.nils,iI 0]]) (v':=iI x4.1) (n0:=3) (n1:=1) [1] J J (aW hx4) (aE J ⟨aL J,tqz⟩ aA) ⟨al J,tqz⟩ (au (aO _ _)) ⟨.inr ⟨J,J⟩,.inl ⟨0,_,by decide,J,aX ⟨au (bd _),tqz⟩⟩,.inr ⟨J,J⟩,tqz⟩ (raT hS2)))
 .refine ra2 3 4 ?_ ?_
  .refine oO J (bt (aw2:=[.box [.ptr 1 0],.box [.str x5.2],.box [iI 0,.nils,iI 0]]) (v':=iI x5.1) (n0:=3) (n1:=1) [1] J J (aW hx5) (aE J ⟨aL J,tqz⟩ aA) ⟨al J,tqz⟩ (au (aO _ _)) ⟨.inr ⟨J,J⟩,.inl ⟨0,_,by decide,J,aX ⟨au (bd _),tqz⟩⟩,.inr ⟨J,J⟩,tqz⟩ (ra1 4 (og 3 ⟨J,?_⟩)));exact raE hS1
  .exact og 3 ⟨J,(raT hS2)⟩
 .exact ra1 3 (oO J (bt (aw2:=[.box [.ptr 1 0],.box [.str x5.2],.box [iI 0,.nils,iI 0]]) (v':=iI x5.1) (n0:=3) (n1:=1) [1] J J (aW hx5) (aE J ⟨aL J,tqz⟩ aA) ⟨al J,tqz⟩ (au (aO _ _)) ⟨.inr ⟨J,J⟩,.inl ⟨0,_,by decide,J,aX ⟨au (bd _),tqz⟩⟩,.inr ⟨J,J⟩,tqz⟩ (raT hS1)))
 refine ra1 6 (oO J (bt (aw2:=[.box [.ptr 1 0],.box [.str x6.2],.box [iI 0,.nils,iI 0],aR 139 2 aH x6.1]) (v':=.ref 3) (n0:=3) (n1:=3) [1,0] J J (k6 hx6) (aE J ⟨aL J,tqz⟩ (aE J ⟨al J,tqz⟩ aA)) ⟨al J,gl ⟨al J,tqz⟩,tqz⟩ (iL (by decide)) ⟨.inl ⟨1,_,by decide,J,aX ⟨lZ (by decide),tqz⟩⟩,.inl ⟨0,_,by decide,J,aX ⟨au (bd _),tqz⟩⟩,.inr ⟨J,J⟩,.inl ⟨2,_,by decide,J,kC km⟩,tqz⟩ (rq [7] 1 (ra1 8 (og 4 ⟨J,(RA.done (by decide+kernel) ?_)⟩)))));cases h;exact tN [0,1]
theorem As {r:((U Memory)×(U UInt8))⊕Unit}(h:oQ p0=some r):FnP Qbl (.iface 173 (.agg #[])) 108 [.ptr 0 0,.func 109 [.ptr 1 0]] [.box [.str p0],.box [.ptr 0 0]] (λr:(U Memory)×(U UInt8)=>.ref 2) (λr=>[.box [.str r.2],.box [.ptr 0 0],aR 84 3 aq r.1]) r:=by
 unfold oQ at h;refine fnPT 2 Tryz.func108 Tryz.ntmps108 ?_;refine q0 ?_;refine X 5 2 (da h (λhx2 h=>?_) (λx2 hx2 h=>?_))
 .cases h;(refine SZ (V:=(.iface 173 (.agg #[]))) 1 J ?_);exact go 1 2 (RS.nil (qc (aw2:=[.dead,.box [.ptr 0 0]]) (n0:=2) (n1:=1) [0] J J (aW hx2) (aE J ⟨aL J,tqz⟩ aA) ⟨al J,tqz⟩ ⟨.inl ⟨0,_,by decide,J,tqz⟩,.inr ⟨J,J⟩,tqz⟩ J))
 refine X 2 2 (sO (bt (aw2:=[.box [.str x2.2],.box [.ptr 0 0]]) (v':=iI x2.1) (n0:=2) (n1:=1) [0] J J (aW hx2) (aE J ⟨aL J,tqz⟩ aA) ⟨al J,tqz⟩ (au (aO _ _)) ⟨.inl ⟨0,_,by decide,J,aX ⟨au (bd _),tqz⟩⟩,.inr ⟨J,J⟩,tqz⟩ (Y 3 2 (j1 [(1,.func 109 [.ptr 1 0]),(5,iI x2.1),(19,.bool ((decide (x2.1<0))||decide (x2.1> ((x2.2).length:Int))))] [.box [.str x2.2],.box [.ptr 0 0]] ?_ (λhK=>?_)))))
 .refine Sv h J (λab h=>?_) (λab h=>?_)
  .cases h;(refine SZ (V:=(.iface 173 (.agg #[]))) 2 J ?_);exact go 1 2 (sO (lQ Vi J J (RS.nil (PP.panic J J))))
  refine X 12 2 (itr (λam:Int×(U UInt8)×(U Memory)=>mkA 32 [(1,.func 109 [.ptr 1 0]),(6,.ref 2),(22,iI x2.1),(23,iI am.1)]) (λam=>[.box [.str am.2.1],.box [.ptr 0 0],aR 84 3 aq am.2.2]) h (wk [(6,84,3)] [0,1,2] 2 J) (λam v_6 h bu=>?_));obtain⟨s4,s5,s6⟩:=am;replace h:jT x2 s4 s5 s6=some v_6:=h;try dsimp only
  unfold jT at h;refine X 5 3 (Sv h J (λbN h=>?_) (λbN h=>?_))
  .refine X 3 3 (da h (λhx7 h=>?_) (λx7 hx7 h=>?_))
   .replace h:=mi h bu;cases h;(refine SZ (V:=(.iface 173 (.agg #[]))) 2 J ?_);exact go 2 3 (RS.nil (qc (aw2:=[.dead,.dead,aR 84 3 aq s6]) (n0:=3) (n1:=2) [1,0] J J (AJ hx7) (aE J ⟨al J,tqz⟩ (aE J ⟨aL J,tqz⟩ aA)) ⟨al J,tqz⟩ ⟨.inl ⟨1,_,by decide,J,tqz⟩,.inl ⟨0,_,by decide,J,tqz⟩,.inr ⟨J,J⟩,tqz⟩ J))
   refine B h λx8 hx8 h=>(X 3 3 (sO (bt (aw2:=[.box [.str x7.2],.box [.ptr 0 0],aR 84 3 aq s6]) (v':=.agg (aq x7.1)) (n0:=3) (n1:=2) [1,0] J J (AJ hx7) (aE J ⟨al J,tqz⟩ (aE J ⟨aL J,tqz⟩ aA)) ⟨al J,tqz⟩ (tH ⟨au (aO _ _),au (dt km _),au (aO _ _),tqz⟩) ⟨.inl ⟨1,_,by decide,J,aX ⟨au (bd _),tqz⟩⟩,.inl ⟨0,_,by decide,J,aX ⟨lZ (by decide),tqz⟩⟩,.inr ⟨J,J⟩,tqz⟩ (sO (be (rows:=List.map aq [x7.1]) (vs:=[.agg (aq x7.1)]) SE SV J J J J J J (sO (bQ (en:=aq) (xs:=s6) (ys:=([x7.1]:U Memory)) SE (λ_=>J) J J J hx8 J J (Y 6 5 ?_))))))))
   exact lk h (wk [] [0,1,4] 5 J)
  refine X 1 3 ?_;replace h:=mi h bu;refine X 5 3 ?_;cases h;exact tO [] [0,1,2] 3
 refine X 5 2 (gp 11 (λae=>?_) (λae=>?_))
 .refine Yp 9 2 ?_;rw[ae]at hK;exact sx hK
 refine Yp 9 2 ?_;rw[ae]at hK;exact sx hK
theorem AK {r:(Choice×(U UInt8))⊕Unit}(h:na p0=some r):FnP Qbl (.iface 173 (.agg #[])) 113 [.ptr 0 0] [.box [.ptr 1 0],.box [.str p0]] (λr:Choice×(U UInt8)=>.agg (an r.1)) (λr=>[.box [.ptr 1 0],.box [.str r.2]]) r:=by
 unfold na at h;refine fnPT 2 Tryz.func113 Tryz.ntmps113 ?_;refine q0 ?_;refine X 5 2 (da h (λhx3 h=>?_) (λx3 hx3 h=>?_))
 .cases h;refine S5 (V:=(.iface 173 (.agg #[]))) (λ_=>True) mixed (k:=6) J ?_ (λ_ _ _=>J);refine qpl [0,1,3,4,5] 0 J (iz J J (aN SF (c:=.ptr 1 0) J (qA2 1 2 ?_ ?_)))
  .exact qpP J (qc (aw2:=[.box [.ptr 1 0],.dead,.box [iI 0,iI 0]]) (n0:=3) (n1:=1) [1] J J (aW hx3) (aE J ⟨aL J,tqz⟩ aA) ⟨al J,tqz⟩ ⟨.inr ⟨J,J⟩,.inl ⟨0,_,by decide,J,tqz⟩,.inr ⟨J,J⟩,tqz⟩ trivial)
  exact qpO J (dr J J (aN SF (c:=.ptr 1 0) J (qA1 1 (qpP J (qc (aw2:=[.box [.ptr 1 0],.dead,.box [iI 0,iI 0]]) (n0:=3) (n1:=1) [1] J J (aW hx3) (aE J ⟨aL J,tqz⟩ aA) ⟨al J,tqz⟩ ⟨.inr ⟨J,J⟩,.inl ⟨0,_,by decide,J,tqz⟩,.inr ⟨J,J⟩,tqz⟩ trivial)))))
 refine da h (λhx4 h=>?_) (λx4 hx4 h=>?_)
 .cases h;refine S5 (V:=(.iface 173 (.agg #[]))) (λ_=>True) mixed (k:=6) J ?_ (λ_ _ _=>J);refine qpl [0,1,3,4,5] 0 J (iz J J (aN SF (c:=.ptr 1 0) J (qA2 1 2 ?_ ?_)))
  .refine qpO J (bt (aw2:=[.box [.ptr 1 0],.box [.str x3.2],.box [iI 0,iI 0]]) (v':=iI x3.1) (n0:=3) (n1:=1) [1] J J (aW hx3) (aE J ⟨aL J,tqz⟩ aA) ⟨al J,tqz⟩ (au (aO _ _)) ⟨.inr ⟨J,J⟩,.inl ⟨0,_,by decide,J,aX ⟨au (bd _),tqz⟩⟩,.inr ⟨J,J⟩,tqz⟩ (qA1 2 (qpO J (dr J J (aN SF (c:=.ptr 1 0) J (qA1 3 ?_))))));exact qpP J (qc (aw2:=[.box [.ptr 1 0],.dead,.box [iI 0,iI 0]]) (n0:=3) (n1:=1) [1] J J (aW hx4) (aE J ⟨aL J,tqz⟩ aA) ⟨al J,tqz⟩ ⟨.inr ⟨J,J⟩,.inl ⟨0,_,by decide,J,tqz⟩,.inr ⟨J,J⟩,tqz⟩ trivial)
  refine qpO J (dr J J (aN SF (c:=.ptr 1 0) J (qA1 1 (qpO J (bt (aw2:=[.box [.ptr 1 0],.box [.str x3.2],.box [iI 0,iI 0]]) (v':=iI x3.1) (n0:=3) (n1:=1) [1] J J (aW hx3) (aE J ⟨aL J,tqz⟩ aA) ⟨al J,tqz⟩ (au (aO _ _)) ⟨.inr ⟨J,J⟩,.inl ⟨0,_,by decide,J,aX ⟨au (bd _),tqz⟩⟩,.inr ⟨J,J⟩,tqz⟩ (qA1 3 ?_))))));exact qpP J (qc (aw2:=[.box [.ptr 1 0],.dead,.box [iI 0,iI 0]]) (n0:=3) (n1:=1) [1] J J (aW hx4) (aE J ⟨aL J,tqz⟩ aA) ⟨al J,tqz⟩ ⟨.inr ⟨J,J⟩,.inl ⟨0,_,by decide,J,tqz⟩,.inr ⟨J,J⟩,tqz⟩ trivial)
 refine T.drawn mixed (k:=6) J ?_;apply Su 3 (bm 6 7);intro hS1
 .refine rL [0,1,3,4,5] 0 J (ra2 1 2 ?_ ?_)
  .refine oO J (bt (aw2:=[.box [.ptr 1 0],.box [.str x3.2],.box [iI 0,iI 0]]) (v':=iI x3.1) (n0:=3) (n1:=1) [1] J J (aW hx3) (aE J ⟨aL J,tqz⟩ aA) ⟨al J,tqz⟩ (au (aO _ _)) ⟨.inr ⟨J,J⟩,.inl ⟨0,_,by decide,J,aX ⟨au (bd _),tqz⟩⟩,.inr ⟨J,J⟩,tqz⟩ (ra1 2 (og 3 ⟨J,?_⟩)));exact raE hS1
  .refine og 3 ⟨J,(ra1 1 (oO J (bt (aw2:=[.box [.ptr 1 0],.box [.str x3.2],.box [iI 0,iI 0]]) (v':=iI x3.1) (n0:=3) (n1:=1) [1] J J (aW hx3) (aE J ⟨aL J,tqz⟩ aA) ⟨al J,tqz⟩ (au (aO _ _)) ⟨.inr ⟨J,J⟩,.inl ⟨0,_,by decide,J,aX ⟨au (bd _),tqz⟩⟩,.inr ⟨J,J⟩,tqz⟩ ?_)))⟩;exact raT hS1
 refine ra1 3 (oO J (bt (aw2:=[.box [.ptr 1 0],.box [.str x4.2],.box [iI 0,iI 0]]) (v':=iI x4.1) (n0:=3) (n1:=1) [1] J J (aW hx4) (aE J ⟨aL J,tqz⟩ aA) ⟨al J,tqz⟩ (au (aO _ _)) ⟨.inr ⟨J,J⟩,.inl ⟨0,_,by decide,J,aX ⟨au (bd _),tqz⟩⟩,.inr ⟨J,J⟩,tqz⟩ (rq [4] 1 (ra1 5 (og 3 ⟨J,(RA.done (by decide+kernel) ?_)⟩)))));cases h;exact tN [0,1]
theorem Ar {r:((U Choice)×(U UInt8))⊕Unit}(h:oN p0=some r):FnP Qbl (.iface 173 (.agg #[])) 112 [.ptr 0 0,.func 113 [.ptr 1 0]] [.box [.str p0],.box [.ptr 0 0]] (λr:(U Choice)×(U UInt8)=>.ref 2) (λr=>[.box [.str r.2],.box [.ptr 0 0],aR 50 2 an r.1]) r:=by
 unfold oN at h;refine fnPT 2 Tryz.func112 Tryz.ntmps112 ?_;refine q0 ?_;refine X 5 2 (da h (λhx2 h=>?_) (λx2 hx2 h=>?_))
 .cases h;(refine SZ (V:=(.iface 173 (.agg #[]))) 1 J ?_);exact go 1 2 (RS.nil (qc (aw2:=[.dead,.box [.ptr 0 0]]) (n0:=2) (n1:=1) [0] J J (aW hx2) (aE J ⟨aL J,tqz⟩ aA) ⟨al J,tqz⟩ ⟨.inl ⟨0,_,by decide,J,tqz⟩,.inr ⟨J,J⟩,tqz⟩ J))
 refine X 2 2 (sO (bt (aw2:=[.box [.str x2.2],.box [.ptr 0 0]]) (v':=iI x2.1) (n0:=2) (n1:=1) [0] J J (aW hx2) (aE J ⟨aL J,tqz⟩ aA) ⟨al J,tqz⟩ (au (aO _ _)) ⟨.inl ⟨0,_,by decide,J,aX ⟨au (bd _),tqz⟩⟩,.inr ⟨J,J⟩,tqz⟩ (Y 3 2 (j1 [(1,.func 113 [.ptr 1 0]),(5,iI x2.1),(19,.bool ((decide (x2.1<0))||decide (x2.1> ((x2.2).length:Int))))] [.box [.str x2.2],.box [.ptr 0 0]] ?_ (λhK=>?_)))))
 .refine Sv h J (λab h=>?_) (λab h=>?_)
  .cases h;(refine SZ (V:=(.iface 173 (.agg #[]))) 2 J ?_);exact go 1 2 (sO (lQ Vi J J (RS.nil (PP.panic J J))))
  refine X 12 2 (itr (λam:Int×(U UInt8)×(U Choice)=>mkA 32 [(1,.func 113 [.ptr 1 0]),(6,.ref 2),(22,iI x2.1),(23,iI am.1)]) (λam=>[.box [.str am.2.1],.box [.ptr 0 0],aR 50 2 an am.2.2]) h (wk [(6,50,2)] [0,1,2] 2 J) (λam v_6 h bu=>?_));obtain⟨s4,s5,s6⟩:=am;replace h:jU x2 s4 s5 s6=some v_6:=h;try dsimp only
  unfold jU at h;refine X 5 3 (Sv h J (λbN h=>?_) (λbN h=>?_))
  .refine X 3 3 (da h (λhx7 h=>?_) (λx7 hx7 h=>?_))
   .replace h:=mi h bu;cases h;(refine SZ (V:=(.iface 173 (.agg #[]))) 2 J ?_);exact go 2 3 (RS.nil (qc (aw2:=[.dead,.dead,aR 50 2 an s6]) (n0:=3) (n1:=2) [1,0] J J (AK hx7) (aE J ⟨al J,tqz⟩ (aE J ⟨aL J,tqz⟩ aA)) ⟨al J,tqz⟩ ⟨.inl ⟨1,_,by decide,J,tqz⟩,.inl ⟨0,_,by decide,J,tqz⟩,.inr ⟨J,J⟩,tqz⟩ J))
   refine B h λx8 hx8 h=>(X 3 3 (sO (bt (aw2:=[.box [.str x7.2],.box [.ptr 0 0],aR 50 2 an s6]) (v':=.agg (an x7.1)) (n0:=3) (n1:=2) [1,0] J J (AK hx7) (aE J ⟨al J,tqz⟩ (aE J ⟨aL J,tqz⟩ aA)) ⟨al J,tqz⟩ (tH ⟨au (aO _ _),au (aO _ _),tqz⟩) ⟨.inl ⟨1,_,by decide,J,aX ⟨au (bd _),tqz⟩⟩,.inl ⟨0,_,by decide,J,aX ⟨lZ (by decide),tqz⟩⟩,.inr ⟨J,J⟩,tqz⟩ (sO (be (rows:=List.map an [x7.1]) (vs:=[.agg (an x7.1)]) Sz Tc J J J J J J (sO (bQ (en:=an) (xs:=s6) (ys:=([x7.1]:U Choice)) Sz (λ_=>J) J J J hx8 J J (Y 6 5 ?_))))))))
   exact lk h (wk [] [0,1,4] 5 J)
  refine X 1 3 ?_;replace h:=mi h bu;refine X 5 3 ?_;cases h;exact tO [] [0,1,2] 3
 refine X 5 2 (gp 11 (λae=>?_) (λae=>?_))
 .refine Yp 9 2 ?_;rw[ae]at hK;exact sx hK
 refine Yp 9 2 ?_;rw[ae]at hK;exact sx hK
theorem H7 {p0:U Int}(h:xr p0=some r):FnX Qbl 156 [.ptr 0 0] [.boxB 159 [.np 0,.ref 1],aR 5 1 b6 p0] (.tup []) [.boxB 159 [.np 0,.ref 1],aR 5 1 b6 r]:=by cases h;exact Ip _
theorem Aq {p0:Int}{r:Unit×(U Int)}(h:oJ p0 p1=some r):FnX Qbl 137 [.ptr 0 0,.int .u8 p0] [.boxB 159 [.np 0,.ref 1],aR 5 1 b6 p1] (.nili) [.boxB 159 [.np 0,.ref 2],.dead,aR 5 1 b6 r.2]:=by unfold oJ at h;refine fT 2 0 Tryz.func137 Tryz.ntmps137 J ?_;refine TG 0 1 1 (cs:=[.np 0,.ref 1]) J J J J (cs':=[.np 0,.ref 2]) J J (B h λx2 hx2 h=>(X 7 3 (sO (cG [0,2] 3 2 (H7 hx2) ⟨J,(B h λx4 hx4 h=>(Y 7 3 (sO (IV J J (aN Uc (c:=.ref 2) J (Y 1 3 (sO (be (rows:=List.map b6 [p0]) (vs:=[.int .u8 p0]) S3 Tk J J J J J J (sO (bQ (en:=b6) (xs:=x2) (ys:=([p0]:U Int)) S3 (λ_=>J) J J J hx4 J J ?_))))))))))⟩))));refine Y 2 5 (sO (Ld J J (vs:=[.ref 4]) J Vh J (by decide) J (Y 5 5 ?_)));cases h;exact tN [0,1,4]
theorem ff {p0:Int}(h:dK p0 p1=some r):FnX Qbl 94 [.ptr 0 0,iI p0] [.boxB 159 [.np 0,.ref 1],aR 5 1 b6 p1] (.tup []) [.boxB 159 [.np 0,.ref 2],.dead,aR 5 1 b6 r]:=by
 unfold dK at h;refine fT 2 0 Tryz.func94 Tryz.ntmps94 J ?_;refine TG 0 1 1 (cs:=[.np 0,.ref 1]) J J J J (cs':=[.np 0,.ref 2]) J J (B h λx3 hx3 h=>(B h λx4 hx4 h=>(X 4 3 (sQ (v_shl J J hx3 (Y 1 3 (sQ (jI J J hx4 (Y 6 3 (itr (λcZ:Int×(U Int)=>mkA 29 [(0,.ptr 0 0),(4,.int .u64 cZ.1)]) (λcZ=>[.boxB 159 [.np 0,.ref 2],.dead,aR 5 1 b6 cZ.2]) h (wk [] [0,1,2] 3 J) (λcZ v_4 h uj=>?_)))))))))));obtain⟨s5,s6⟩:=cZ;replace h:k7 s5 s6=some v_4:=h;try dsimp only
 unfold k7 at h;refine X 6 3 (Sv h J (λaI h=>?_) (λaI h=>?_))
 .exact B h λx7 hx7 h=>(X 10 3 (sO (cG [0,2] 3 3 (Aq hx7) ⟨J,(B h λx8 hx8 h=>(Y 3 4 (sQ (jI J J hx8 (Y 2 4 (lk h (wk [] [0,1,3] 4 J)))))))⟩)))
 refine X 1 3 ?_;replace h:=mi h uj;refine B h λx9 hx9 h=>(X 6 3 (sO (cG [0,2] 3 3 (Aq hx9) ⟨J,(Y 1 4 ?_)⟩)))
 cases h;exact eN [0,1,3]
theorem Av {p0:U Item}(h:mG p0 p1=some r):FnX Qbl 95 [.ptr 0 0,sL aa p0] [.boxB 159 [.np 0,.ref 1],aR 5 1 b6 p1] (.tup []) [.boxB 159 [.np 0,.ref 2],.dead,aR 5 1 b6 r]:=by
 unfold mG at h;refine fT 2 0 Tryz.func95 Tryz.ntmps95 J ?_;refine TG 0 1 1 (cs:=[.np 0,.ref 1]) J J J J (cs':=[.np 0,.ref 2]) J J (B h λx2 hx2 h=>(X 4 3 (sQ (ai Sy J (sO (cG [0,2] 3 3 (ff hx2) ⟨J,(Y 4 4 (sQ (ai Sy J (Y 3 4 (itr (λcZ:Int×(U Int)=>mkA 29 [(0,.ptr 0 0),(10,sL aa p0),(11,iI ((p0).length:Int)),(12,iI cZ.1)]) (λcZ=>[.boxB 159 [.np 0,.ref 2],.dead,aR 5 1 b6 cZ.2]) h (wk [] [0,1,3] 4 J) (λcZ v_4 h uj=>?_))))))⟩))))));obtain⟨s3,s4⟩:=cZ;replace h:rn p0 s3 s4=some v_4:=h;try dsimp only
 unfold rn at h;refine X 5 3 (Sv h J (λaI h=>?_) (λaI h=>?_))
 .refine B h λx6 hx6 h=>(X 5 3 (sQ (aB Sy (λ_=>J) J J hx6 (B h λx8 hx8 h=>(Y 9 3 (sO (cG [0,2] 4 3 (ff hx8) ⟨J,(B h λx10 ba h=>(Y 6 5 (sO (cG [0,4] 5 3 (ff ba) ⟨J,(B h λx11 bA h=>?_)⟩))))⟩)))))))
  exact Y 5 6 (sO (cG [0,5] 6 3 (ff bA) ⟨J,(Y 5 7 (lk h (wk [] [0,1,6] 7 J)))⟩))
 refine X 1 3 ?_;replace h:=mi h uj;cases h;exact eN [0,1,2]
theorem IC {p0:U Int}{r:U UInt8}(h:sI p0=some r):FnX Qbl 96 [.ptr 0 0] [.boxB 159 [.np 0,.ref 1],aR 5 1 b6 p0] (.str r) [.dead,.dead]:=KC p0 r h
theorem xy {p0:Net}{p1:U (U Item)}{p2:State}{r:(U UInt8)×Int}(h:iA p0 p1 p2=some r):Fn Qbl 51 [.agg (aD p0),sL (ak aa) p1,.agg (bD p2)] (.tup [.str r.1,iI r.2]):=by
 unfold iA at h;refine fT 0 0 Tryz.func51 Tryz.ntmps51 J ?_;refine B h λx2 hx2 h=>(X 13 0 (sO (cF (vq hx2) ⟨J,(Y 7 2 (Sv h J (λae h=>?_) (λae h=>?_)))⟩)))
 .refine X 6 2 ?_;cases h;exact tD
 refine X 4 2 (sO (Ot (e:=5) (z:=1) J J J (B h λx4 hx4 h=>(Y 7 4 (sQ (ai Sx J (sO (cG [2,3] 4 3 (ff hx4) ⟨J,(Y 6 5 (sQ (ai Sx J (Y 3 5 (itr (λeH:Int×(U Int)=>mkA 132 [(5,.ptr 0 0),(9,.ptr 1 0),(35,sL aj p2.At),(36,iI ((p2.At).length:Int)),(37,iI eH.1)]) (λeH=>[.box (bD p2),.boxB 159 [.np 1,.ref 2],aR 5 1 b6 eH.2]) h (wk [] [1,2,4] 5 J) (λeH v_5 h Am=>?_))))))⟩))))))));obtain⟨s5,s6⟩:=eH;replace h:pm p2 s5 s6=some v_5:=h;try dsimp only
 unfold pm at h;refine X 5 3 (Sv h J (λaM h=>?_) (λaM h=>?_))
 .exact B h λx8 hx8 h=>(X 5 3 (sQ (aB Sx (λ_=>J) J J hx8 (B h λx9 hx9 h=>(Y 6 3 (sO (cG [1,2] 3 3 (ff hx9) ⟨J,(Y 5 4 (lk h (wk [] [0,1,3] 4 J)))⟩)))))))
 refine X 1 3 ?_;replace h:=mi h Am;refine B h λx11 bA h=>(X 5 3 (sQ (ai SA J (sO (cG [1,2] 3 3 (ff bA) ⟨J,(Y 6 4 (sQ (ai SA J (Y 3 4 (itr (λgY:Int×(U Int)=>mkA 132 [(5,.ptr 0 0),(9,.ptr 1 0),(51,sL (ak aa) p2.Rings),(52,iI ((p2.Rings).length:Int)),(53,iI gY.1)]) (λgY=>[.box (bD p2),.boxB 159 [.np 1,.ref 2],aR 5 1 b6 gY.2]) h (wk [] [0,1,3] 4 J) (λgY v_11 h P8=>?_))))))⟩)))))
 obtain⟨s12,s13⟩:=gY;replace h:pq p2 s12 s13=some v_11:=h;try dsimp only
 unfold pq at h;refine X 5 3 (Sv h J (λfY h=>?_) (λfY h=>?_))
 .exact B h λx15 cU h=>(X 5 3 (sQ (aB SA (λ_=>J) J J cU (B h λx16 d7 h=>(Y 6 3 (sO (cG [1,2] 3 3 (Av d7) ⟨J,(Y 5 4 (lk h (wk [] [0,1,3] 4 J)))⟩)))))))
 refine X 1 3 ?_;replace h:=mi h P8;refine B h λx18 b7 h=>(X 5 3 (sQ (ai SE J (sO (cG [1,2] 3 3 (ff b7) ⟨J,(Y 6 4 (sQ (ai SE J (Y 3 4 (itr (λeE:Int×(U Int)=>mkA 132 [(5,.ptr 0 0),(9,.ptr 1 0),(67,sL aq p2.Memory),(68,iI ((p2.Memory).length:Int)),(69,iI eE.1)]) (λeE=>[.box (bD p2),.boxB 159 [.np 1,.ref 2],aR 5 1 b6 eE.2]) h (wk [] [0,1,3] 4 J) (λeE v_29 h zH=>?_))))))⟩)))))
 obtain⟨s19,s20⟩:=eE;replace h:po p2 s19 s20=some v_29:=h;try dsimp only
 unfold po at h;refine X 5 3 (Sv h J (λi6 h=>?_) (λi6 h=>?_))
 .refine B h λx22 eS h=>(X 5 3 (sQ (aB SE (λ_=>J) J J eS (B h λx24 aS h=>(Y 9 3 (sO (cG [1,2] 4 3 (ff aS) ⟨J,(B h λx26 dB h=>(Y 6 5 (sO (cG [1,4] 5 3 (ff dB) ⟨J,(B h λx28 k0 h=>?_)⟩))))⟩)))))))
  refine Y 6 6 (sQ (ai SB J (sO (cG [1,5] 6 3 (ff k0) ⟨J,(Y 5 7 (sQ (ai SB J (Y 3 7 (itr (λmr:Int×(U Int)=>mkA 132 [(5,.ptr 0 0),(9,.ptr 1 0),(67,sL aq p2.Memory),(68,iI ((p2.Memory).length:Int)),(69,iI s19),(87,sL aH x22.Keys),(88,iI ((x22.Keys).length:Int)),(89,iI mr.1)]) (λmr=>[.box (bD p2),.boxB 159 [.np 1,.ref 2],aR 5 1 b6 mr.2]) h (wk [] [0,1,6] 7 J) (λmr v_34 h P9=>?_))))))⟩))));obtain⟨s29,s30⟩:=mr;replace h:sj s19 x22 s29 s30=some v_34:=h;try dsimp only
  unfold sj at h;refine X 5 3 (Sv h J (λuc h=>?_) (λuc h=>?_))
  .exact B h λx32 jR h=>(X 5 3 (sQ (aB SB (λ_=>J) J J jR (B h λx34 ue h=>(Y 9 3 (sO (cG [1,2] 4 3 (ff ue) ⟨J,(B h λx35 oB h=>(Y 5 5 (sO (cG [1,4] 5 3 (ff oB) ⟨J,(Y 5 6 (lk h (wk [] [0,1,5] 6 J)))⟩))))⟩)))))))
  refine X 1 3 ?_;replace h:=mi h P9;exact X 4 3 (lk h (wk [] [0,1,2] 3 J))
 refine X 1 3 ?_;replace h:=mi h zH;refine B h λx37 oC h=>(X 5 3 (sQ (ai Sz J (sO (cG [1,2] 3 3 (ff oC) ⟨J,(Y 6 4 (sQ (ai Sz J (Y 3 4 (itr (λiU:Int×(U Int)=>mkA 132 [(5,.ptr 0 0),(9,.ptr 1 0),(109,sL an p2.Choices),(110,iI ((p2.Choices).length:Int)),(111,iI iU.1)]) (λiU=>[.box (bD p2),.boxB 159 [.np 1,.ref 2],aR 5 1 b6 iU.2]) h (wk [] [0,1,3] 4 J) (λiU v_41 h Qa=>?_))))))⟩)))))
 obtain⟨s38,s39⟩:=iU;replace h:pr p2 s38 s39=some v_41:=h;try dsimp only
 unfold pr at h;refine X 5 3 (Sv h J (λzF h=>?_) (λzF h=>?_))
 .exact B h λx41 qN h=>(X 5 3 (sQ (aB Sz (λ_=>J) J J qN (B h λx43 q4 h=>(Y 9 3 (sO (cG [1,2] 4 3 (ff q4) ⟨J,(B h λx44 kY h=>(Y 5 5 (sO (cG [1,4] 5 3 (ff kY) ⟨J,(Y 5 6 (lk h (wk [] [0,1,5] 6 J)))⟩))))⟩)))))))
 refine X 1 3 ?_;replace h:=mi h Qa;refine B h λx46 jS h=>(X 5 3 (sO (cG [1,2] 3 3 (Av jS) ⟨J,(B h λx48 An h=>(Y 6 4 (sO (cG [1,3] 4 2 (IC An) ⟨J,(Y 3 4 ?_)⟩))))⟩)))
 cases h;exact tD
theorem xM {p0:Net}{p1:U (U Item)}{p2:U UInt8}{r:State×Int}(h:gR p0 p1 p2=some r):Fn Qbl 58 [.agg (aD p0),sL (ak aa) p1,.str p2] (.tup [.agg (bD r.1),iI r.2]):=by
 unfold gR at h;refine fnTDR (V:=(.iface 173 (.agg #[]))) 0 Tryz.func58 Tryz.ntmps58 ?_;refine TDR.seq (T.region (go 3 0 (RS.nil (TDR.seq (T.seq ?_)))));obtain⟨x2,hx2,h⟩:=bind_some h;refine T.region (go 2 3 (sO (cF (xq hx2) ⟨J,(go 1 3 (RS.nil (T.seq (T.region (go 2 3 (RS.nil (Sv h J (λae h=>?_) (λae h=>?_))))))))⟩)))
 .refine T.seq (T.region (go 4 3 (RS.nil ?_)));cases h;exact tD
 refine T.skip (TDR.defer 1 J (go 1 3 (RS.nil ⟨3,_,_,_,J,J,J,idleF,λvs w=>callable Vm J (by kernel_rfl) vs w,(T.seq (T.region (go 5 3 (RS.nil (T.seq (da h (λhx4 h=>?_) (λx4 hx4 h=>?_)))))))⟩)))
 .cases h;(refine SZ (V:=(.iface 173 (.agg #[]))) 3 J ?_);exact go 2 5 (sQ (v_bnd (cs:=[.ptr 3 0]) J (RS.nil (qc (aw2:=[.box (aD p0),.box [.nils,.nils,.nils,.nils,.nils],.box [iI 0],.dead,.box [.ptr 3 0]]) (n0:=5) (n1:=1) [3] J J (AA hx4) (aE J ⟨aL J,tqz⟩ aA) ⟨al J,n9 ⟨al J,tqz⟩,tqz⟩ ⟨.inr ⟨J,J⟩,.inr ⟨J,J⟩,.inr ⟨J,J⟩,.inl ⟨0,_,by decide,J,tqz⟩,.inr ⟨J,J⟩,tqz⟩ ⟨J,[.box (aD p0),.box [.nils,.nils,.nils,.nils,.nils],.box [iI 12],.dead,.box [.ptr 3 0]],S7 (as0:=[.ptr 0 0,.ptr 1 0]) (aw0:=[.box [.any,.any,.any,.any,.any],.box [.any]]) (aw1:=[.box [.nils,.nils,.nils,.nils,.nils],.box [iI 12]]) (n0:=5) (n1:=2) [1,2] J J (by decide) (aE (cs:=[.any,.any,.any,.any,.any]) (ds:=[.nils,.nils,.nils,.nils,.nils]) J ⟨cA,cA,cA,cA,cA,tqz⟩ (aE (cs:=[.any]) (ds:=[iI 0]) J ⟨cA,tqz⟩ (aA))) ⟨al J,al J,tqz⟩ catX J ⟨.inr ⟨J,J⟩,.inl ⟨0,_,by decide,J,aX (cs:=[.nils,.nils,.nils,.nils,.nils]) (ds:=[.nils,.nils,.nils,.nils,.nils]) ⟨au (cb),au (cb),au (cb),au (cb),au (cb),tqz⟩⟩,.inl ⟨1,_,by decide,J,aX (cs:=[iI 12]) (ds:=[iI 12]) ⟨au (aO _ _),tqz⟩⟩,.inr ⟨J,J⟩,.inr ⟨J,J⟩,tqz⟩,vD⟩))))
 refine T.region (go 2 5 (sQ (v_bnd (cs:=[.ptr 3 0]) J (sO (bt (aw2:=[.box (aD p0),.box [.nils,.nils,.nils,.nils,.nils],.box [iI 0],.box [.str x4.2],.box [.ptr 3 0],aR 3 1 aj x4.1]) (v':=.ref 5) (n0:=5) (n1:=2) [3] J J (AA hx4) (aE J ⟨aL J,tqz⟩ aA) ⟨al J,n9 ⟨al J,tqz⟩,tqz⟩ (iL (by decide)) ⟨.inr ⟨J,J⟩,.inr ⟨J,J⟩,.inr ⟨J,J⟩,.inl ⟨0,_,by decide,J,aX ⟨au (bd _),tqz⟩⟩,.inr ⟨J,J⟩,.inl ⟨1,_,by decide,J,kC l6⟩,tqz⟩ (go 2 6 (RS.nil (T.seq (da h (λhx6 h=>?_) (λx6 hx6 h=>?_))))))))))
 .cases h;(refine SZ (V:=(.iface 173 (.agg #[]))) 3 J ?_);exact go 2 6 (sQ (v_bnd (cs:=[.ptr 3 0]) J (RS.nil (qc (aw2:=[.box (aD p0),.box [.ref 5,.nils,.nils,.nils,.nils],.box [iI 0],.dead,.box [.ptr 3 0],aR 3 1 aj x4.1]) (n0:=6) (n1:=1) [3] J J (Ax hx6) (aE J ⟨aL J,tqz⟩ aA) ⟨al J,n9 ⟨al J,tqz⟩,tqz⟩ ⟨.inr ⟨J,J⟩,.inr ⟨J,J⟩,.inr ⟨J,J⟩,.inl ⟨0,_,by decide,J,tqz⟩,.inr ⟨J,J⟩,.inr ⟨J,J⟩,tqz⟩ ⟨J,[.box (aD p0),.box [.nils,.nils,.nils,.nils,.nils],.box [iI 12],.dead,.box [.ptr 3 0],aR 3 1 aj x4.1],S7 (as0:=[.ptr 0 0,.ptr 1 0]) (aw0:=[.box [.any,.any,.any,.any,.any],.box [.any]]) (aw1:=[.box [.nils,.nils,.nils,.nils,.nils],.box [iI 12]]) (n0:=6) (n1:=2) [1,2] J J (by decide) (aE (cs:=[.any,.any,.any,.any,.any]) (ds:=[.ref 5,.nils,.nils,.nils,.nils]) J ⟨cA,cA,cA,cA,cA,tqz⟩ (aE (cs:=[.any]) (ds:=[iI 0]) J ⟨cA,tqz⟩ (aA))) ⟨al J,al J,tqz⟩ catX J ⟨.inr ⟨J,J⟩,.inl ⟨0,_,by decide,J,aX (cs:=[.nils,.nils,.nils,.nils,.nils]) (ds:=[.nils,.nils,.nils,.nils,.nils]) ⟨au (cb),au (cb),au (cb),au (cb),au (cb),tqz⟩⟩,.inl ⟨1,_,by decide,J,aX (cs:=[iI 12]) (ds:=[iI 12]) ⟨au (aO _ _),tqz⟩⟩,.inr ⟨J,J⟩,.inr ⟨J,J⟩,.inr ⟨J,J⟩,tqz⟩,vD⟩))))
 refine T.region (go 2 6 (sQ (v_bnd (cs:=[.ptr 3 0]) J (sO (bt (aw2:=[.box (aD p0),.box [.ref 5,.nils,.nils,.nils,.nils],.box [iI 0],.box [.str x6.2],.box [.ptr 3 0],aR 3 1 aj x4.1,aR 30 1 (ak aa) x6.1]) (v':=.ref 6) (n0:=6) (n1:=2) [3] J J (Ax hx6) (aE J ⟨aL J,tqz⟩ aA) ⟨al J,n9 ⟨al J,tqz⟩,tqz⟩ (iL (by decide)) ⟨.inr ⟨J,J⟩,.inr ⟨J,J⟩,.inr ⟨J,J⟩,.inl ⟨0,_,by decide,J,aX ⟨au (bd _),tqz⟩⟩,.inr ⟨J,J⟩,.inr ⟨J,J⟩,.inl ⟨1,_,by decide,J,kC (om fj)⟩,tqz⟩ (go 2 7 (RS.nil (T.seq (da h (λhx8 h=>?_) (λx8 hx8 h=>?_))))))))))
 .cases h;(refine SZ (V:=(.iface 173 (.agg #[]))) 2 J ?_);exact go 2 7 (RS.nil (qc (aw2:=[.box (aD p0),.box [.ref 5,.ref 6,.nils,.nils,.nils],.box [iI 0],.dead,.dead,aR 3 1 aj x4.1,aR 30 1 (ak aa) x6.1]) (n0:=7) (n1:=2) [3,4] J J (As hx8) (aE J ⟨aL J,tqz⟩ (aE J ⟨al J,tqz⟩ aA)) ⟨al J,gl ⟨al J,tqz⟩,tqz⟩ ⟨.inr ⟨J,J⟩,.inr ⟨J,J⟩,.inr ⟨J,J⟩,.inl ⟨0,_,by decide,J,tqz⟩,.inl ⟨1,_,by decide,J,tqz⟩,.inr ⟨J,J⟩,.inr ⟨J,J⟩,tqz⟩ ⟨J,[.box (aD p0),.box [.nils,.nils,.nils,.nils,.nils],.box [iI 12],.dead,.dead,aR 3 1 aj x4.1,aR 30 1 (ak aa) x6.1],S7 (as0:=[.ptr 0 0,.ptr 1 0]) (aw0:=[.box [.any,.any,.any,.any,.any],.box [.any]]) (aw1:=[.box [.nils,.nils,.nils,.nils,.nils],.box [iI 12]]) (n0:=7) (n1:=2) [1,2] J J (by decide) (aE (cs:=[.any,.any,.any,.any,.any]) (ds:=[.ref 5,.ref 6,.nils,.nils,.nils]) J ⟨cA,cA,cA,cA,cA,tqz⟩ (aE (cs:=[.any]) (ds:=[iI 0]) J ⟨cA,tqz⟩ (aA))) ⟨al J,al J,tqz⟩ catX J ⟨.inr ⟨J,J⟩,.inl ⟨0,_,by decide,J,aX (cs:=[.nils,.nils,.nils,.nils,.nils]) (ds:=[.nils,.nils,.nils,.nils,.nils]) ⟨au (cb),au (cb),au (cb),au (cb),au (cb),tqz⟩⟩,.inl ⟨1,_,by decide,J,aX (cs:=[iI 12]) (ds:=[iI 12]) ⟨au (aO _ _),tqz⟩⟩,.inr ⟨J,J⟩,.inr ⟨J,J⟩,.inr ⟨J,J⟩,.inr ⟨J,J⟩,tqz⟩,vD⟩))
 refine T.region (go 2 7 (sO (bt (aw2:=[.box (aD p0),.box [.ref 5,.ref 6,.nils,.nils,.nils],.box [iI 0],.box [.str x8.2],.box [.ptr 3 0],aR 3 1 aj x4.1,aR 30 1 (ak aa) x6.1,aR 84 3 aq x8.1]) (v':=.ref 7) (n0:=7) (n1:=3) [3,4] J J (As hx8) (aE J ⟨aL J,tqz⟩ (aE J ⟨al J,tqz⟩ aA)) ⟨al J,gl ⟨al J,tqz⟩,tqz⟩ (iL (by decide)) ⟨.inr ⟨J,J⟩,.inr ⟨J,J⟩,.inr ⟨J,J⟩,.inl ⟨0,_,by decide,J,aX ⟨au (bd _),tqz⟩⟩,.inl ⟨1,_,by decide,J,aX ⟨lZ (by decide),tqz⟩⟩,.inr ⟨J,J⟩,.inr ⟨J,J⟩,.inl ⟨2,_,by decide,J,kC nE⟩,tqz⟩ (go 2 8 (RS.nil (T.seq (da h (λba h=>?_) (λx10 ba h=>?_))))))))
 .cases h;(refine SZ (V:=(.iface 173 (.agg #[]))) 2 J ?_);exact go 2 8 (RS.nil (qc (aw2:=[.box (aD p0),.box [.ref 5,.ref 6,.ref 7,.nils,.nils],.box [iI 0],.dead,.dead,aR 3 1 aj x4.1,aR 30 1 (ak aa) x6.1,aR 84 3 aq x8.1]) (n0:=8) (n1:=2) [3,4] J J (Ar ba) (aE J ⟨aL J,tqz⟩ (aE J ⟨al J,tqz⟩ aA)) ⟨al J,gl ⟨al J,tqz⟩,tqz⟩ ⟨.inr ⟨J,J⟩,.inr ⟨J,J⟩,.inr ⟨J,J⟩,.inl ⟨0,_,by decide,J,tqz⟩,.inl ⟨1,_,by decide,J,tqz⟩,.inr ⟨J,J⟩,.inr ⟨J,J⟩,.inr ⟨J,J⟩,tqz⟩ ⟨J,[.box (aD p0),.box [.nils,.nils,.nils,.nils,.nils],.box [iI 12],.dead,.dead,aR 3 1 aj x4.1,aR 30 1 (ak aa) x6.1,aR 84 3 aq x8.1],S7 (as0:=[.ptr 0 0,.ptr 1 0]) (aw0:=[.box [.any,.any,.any,.any,.any],.box [.any]]) (aw1:=[.box [.nils,.nils,.nils,.nils,.nils],.box [iI 12]]) (n0:=8) (n1:=2) [1,2] J J (by decide) (aE (cs:=[.any,.any,.any,.any,.any]) (ds:=[.ref 5,.ref 6,.ref 7,.nils,.nils]) J ⟨cA,cA,cA,cA,cA,tqz⟩ (aE (cs:=[.any]) (ds:=[iI 0]) J ⟨cA,tqz⟩ (aA))) ⟨al J,al J,tqz⟩ catX J ⟨.inr ⟨J,J⟩,.inl ⟨0,_,by decide,J,aX (cs:=[.nils,.nils,.nils,.nils,.nils]) (ds:=[.nils,.nils,.nils,.nils,.nils]) ⟨au (cb),au (cb),au (cb),au (cb),au (cb),tqz⟩⟩,.inl ⟨1,_,by decide,J,aX (cs:=[iI 12]) (ds:=[iI 12]) ⟨au (aO _ _),tqz⟩⟩,.inr ⟨J,J⟩,.inr ⟨J,J⟩,.inr ⟨J,J⟩,.inr ⟨J,J⟩,.inr ⟨J,J⟩,tqz⟩,vD⟩))
 refine T.region (go 2 8 (sO (bt (aw2:=[.box (aD p0),.box [.ref 5,.ref 6,.ref 7,.nils,.nils],.box [iI 0],.box [.str x10.2],.box [.ptr 3 0],aR 3 1 aj x4.1,aR 30 1 (ak aa) x6.1,aR 84 3 aq x8.1,aR 50 2 an x10.1]) (v':=.ref 8) (n0:=8) (n1:=3) [3,4] J J (Ar ba) (aE J ⟨aL J,tqz⟩ (aE J ⟨al J,tqz⟩ aA)) ⟨al J,gl ⟨al J,tqz⟩,tqz⟩ (iL (by decide)) ⟨.inr ⟨J,J⟩,.inr ⟨J,J⟩,.inr ⟨J,J⟩,.inl ⟨0,_,by decide,J,aX ⟨au (bd _),tqz⟩⟩,.inl ⟨1,_,by decide,J,aX ⟨lZ (by decide),tqz⟩⟩,.inr ⟨J,J⟩,.inr ⟨J,J⟩,.inr ⟨J,J⟩,.inl ⟨2,_,by decide,J,kC ny⟩,tqz⟩ (go 2 9 (RS.nil (T.seq (da h (λbB h=>?_) (λx12 bB h=>?_))))))))
 .cases h;(refine SZ (V:=(.iface 173 (.agg #[]))) 1 J ?_);exact go 1 9 (RS.nil (qc (aw2:=[.box (aD p0),.box [.ref 5,.ref 6,.ref 7,.ref 8,.nils],.box [iI 0],.dead,.box [.ptr 3 0],aR 3 1 aj x4.1,aR 30 1 (ak aa) x6.1,aR 84 3 aq x8.1,aR 50 2 an x10.1]) (n0:=9) (n1:=1) [3] J J (uN bB) (aE J ⟨aL J,tqz⟩ aA) ⟨al J,tqz⟩ ⟨.inr ⟨J,J⟩,.inr ⟨J,J⟩,.inr ⟨J,J⟩,.inl ⟨0,_,by decide,J,tqz⟩,.inr ⟨J,J⟩,.inr ⟨J,J⟩,.inr ⟨J,J⟩,.inr ⟨J,J⟩,.inr ⟨J,J⟩,tqz⟩ ⟨J,[.box (aD p0),.box [.nils,.nils,.nils,.nils,.nils],.box [iI 12],.dead,.box [.ptr 3 0],aR 3 1 aj x4.1,aR 30 1 (ak aa) x6.1,aR 84 3 aq x8.1,aR 50 2 an x10.1],S7 (as0:=[.ptr 0 0,.ptr 1 0]) (aw0:=[.box [.any,.any,.any,.any,.any],.box [.any]]) (aw1:=[.box [.nils,.nils,.nils,.nils,.nils],.box [iI 12]]) (n0:=9) (n1:=2) [1,2] J J (by decide) (aE (cs:=[.any,.any,.any,.any,.any]) (ds:=[.ref 5,.ref 6,.ref 7,.ref 8,.nils]) J ⟨cA,cA,cA,cA,cA,tqz⟩ (aE (cs:=[.any]) (ds:=[iI 0]) J ⟨cA,tqz⟩ (aA))) ⟨al J,al J,tqz⟩ catX J ⟨.inr ⟨J,J⟩,.inl ⟨0,_,by decide,J,aX (cs:=[.nils,.nils,.nils,.nils,.nils]) (ds:=[.nils,.nils,.nils,.nils,.nils]) ⟨au (cb),au (cb),au (cb),au (cb),au (cb),tqz⟩⟩,.inl ⟨1,_,by decide,J,aX (cs:=[iI 12]) (ds:=[iI 12]) ⟨au (aO _ _),tqz⟩⟩,.inr ⟨J,J⟩,.inr ⟨J,J⟩,.inr ⟨J,J⟩,.inr ⟨J,J⟩,.inr ⟨J,J⟩,.inr ⟨J,J⟩,tqz⟩,vD⟩))
 refine T.region (go 1 9 (sO (bt (aw2:=[.box (aD p0),.box [.ref 5,.ref 6,.ref 7,.ref 8,.nils],.box [iI 0],.box [.str x12.2],.box [.ptr 3 0],aR 3 1 aj x4.1,aR 30 1 (ak aa) x6.1,aR 84 3 aq x8.1,aR 50 2 an x10.1,aR 75 3 aa x12.1]) (v':=.ref 9) (n0:=9) (n1:=2) [3] J J (uN bB) (aE J ⟨aL J,tqz⟩ aA) ⟨al J,tqz⟩ (iL (by decide)) ⟨.inr ⟨J,J⟩,.inr ⟨J,J⟩,.inr ⟨J,J⟩,.inl ⟨0,_,by decide,J,aX ⟨au (bd _),tqz⟩⟩,.inr ⟨J,J⟩,.inr ⟨J,J⟩,.inr ⟨J,J⟩,.inr ⟨J,J⟩,.inr ⟨J,J⟩,.inl ⟨1,_,by decide,J,kC fj⟩,tqz⟩ (go 2 10 (RS.nil (T.seq (T.seq ?_)))))));obtain⟨x14,cI,h⟩:=bind_some h;refine T.region (go 3 10 (sO (cF (xy cI) ⟨J,(go 5 10 (RS.nil (UQ (Z:=Unit) (λ_=>mkA 60 [(6,.ptr 1 0),(7,.ptr 2 0),(57,.bool ((x14.2 !=0)|| !(x14.1==p2)))]) (λ_=>[.box (aD p0),.box [.ref 3,.ref 4,.ref 5,.ref 6,.ref 7],.box [iI 0],aR 3 1 aj x4.1,aR 30 1 (ak aa) x6.1,aR 84 3 aq x8.1,aR 50 2 an x10.1,aR 75 3 aa x12.1]) (λ_=>True) (λ_ _=>?_) (λhK=>?_))))⟩)))
 .refine Sv h J (λap h=>?_) (λap h=>?_)
  .refine T.seq (T.region (go 3 8 (RS.nil ?_)));cases h;exact tD
  refine T.skip (T.seq (T.region (go 3 8 (RS.nil ?_))));cases h;exact tD
 refine T.region (go 3 10 ?_);rcases bf (x14.2 !=0)with ab|ab
 .exact sN ab (sN ab (sN ab (sQ (bg (v:=.bool true) J ab J (RS.nil (T.weakR (hK () trivial) (SD [] [0,1,2,5,6,7,8,9] (by decide) (by decide) J ⟨al J,al J,dl (by simp only[ab,bz,if_true,if_false,QI]),tqz⟩ (bL (aD p0) J (aE (cs:=[.ref 3,.ref 4,.ref 5,.ref 6,.ref 7]) (ds:=[.ref 5,.ref 6,.ref 7,.ref 8,.ref 9]) J ⟨bX J,bX J,bX J,bX J,bX J,tqz⟩ (bL [iI 0] J (fD J J (fD J J (fD J J (fD J J (fD J J (aA))))))))))))))))
 exact yg 10 ab (yg 10 ab (yg 10 ab (sQ (aP (v:=.bool (!(x14.1==p2))) J ab J (RS.nil (T.weakR (hK () trivial) (SD [] [0,1,2,5,6,7,8,9] (by decide) (by decide) J ⟨al J,al J,dl (by simp only[ab,bz,if_true,if_false,QI]),tqz⟩ (bL (aD p0) J (aE (cs:=[.ref 3,.ref 4,.ref 5,.ref 6,.ref 7]) (ds:=[.ref 5,.ref 6,.ref 7,.ref 8,.ref 9]) J ⟨bX J,bX J,bX J,bX J,bX J,tqz⟩ (bL [iI 0] J (fD J J (fD J J (fD J J (fD J J (fD J J (aA))))))))))))))))
theorem Hx {p0:U Node}{p1 p2:Int}{p3:U (U Item)}{p4:U Int}{p5:U (U Item)}{p6:U Memory}{p7:U Choice}{p8:U Item}{p9:U (U UInt8)}{p10:U Write}{p11 p12 p13 p14 p15:Int}{p16:Bool}{p17:U Item}{r:State×Int}(h:rV p0 p1 p2 p3 p4 p5 p6 p7 p8 p9 p10 p11 p12 p13 p14 p15 p16 p17=some r):FnX Qbl 72 [.ptr 0 0] [.box [sL ao p0,iI p1,iI p2,sL (ak aa) p3,sL aj p4,sL (ak aa) p5,sL aq p6,sL an p7,sL aa p8,sL aT p9,sL bb p10,iI p11,iI p12,iI p13,iI p14,iI p15,.ref 1,.bool p16],aR 75 3 aa p17] (.tup [.agg (bD r.1),iI r.2]) [.box [sL ao p0,iI p1,iI p2,sL (ak aa) p3,sL aj p4,sL (ak aa) p5,sL aq p6,sL an p7,sL aa p8,sL aT p9,sL bb p10,iI p11,iI p12,iI p13,iI p14,iI p15,.ref 1,.bool p16],aR 75 3 aa p17]:=by
 unfold rV at h;refine fT 2 0 Tryz.func72 Tryz.ntmps72 J ?_;refine B h λx2 hx2 h=>(X 6 2 (T.drawn mixed (k:=15) J ?_))
 apply Su 2 (bm 15 8191);intro hS1
 .refine rq [0,1,2,4,5,6] 9 (rL [3,8,9,10,11,13,14] 3 J (rL [7,8,9,10,11,13,14] 7 J (ra2 8 12 ?_ ?_)))
  .exact oO J (cG [] 3 5 (SG (sw hx2)) ⟨J,(rq [9,10,11] 3 (ra1 12 (og 8 ⟨J,(raE hS1)⟩)))⟩)
  .exact og 3 ⟨J,(ra1 8 (oO J (cG [] 4 5 (SG (sw hx2)) ⟨J,(rq [9,10,11] 2 (raV hS1 [0,1,2,4,5,6,7,8,3] J))⟩)))⟩
 refine ra1 13 (og 9 ⟨J,(rq [14] 0 (RA.done (by decide+kernel) (X 10 9 (T.fC 3 (T.fC 4 (T.fC 5 (T.fC 6 (T.fC 7 ?_))))))))⟩);refine itr (λeZ:Int×Int×(U Int)×(U (U Item))×(U Memory)×(U Choice)×(U Item)=>mkA 65 [(0,.ptr 0 0),(2,.ptr 2 0),(4,.ptr 3 0),(6,iI eZ.1),(25,iI eZ.2.1)]) (λeZ=>[.box [sL ao p0,iI p1,iI p2,sL (ak aa) p3,sL aj p4,sL (ak aa) p5,sL aq p6,sL an p7,sL aa p8,sL aT p9,sL bb p10,iI p11,iI p12,iI p13,iI p14,iI p15,.ref 1,.bool p16],aR 75 3 aa p17,.box [.nils,.nils,.nils,.nils,.nils],.box [sL aj eZ.2.2.1,sL (ak aa) eZ.2.2.2.1,sL aq eZ.2.2.2.2.1,sL an eZ.2.2.2.2.2.1,sL aa eZ.2.2.2.2.2.2]]) h (wk [] [0,1,2,8] 9 J) (λeZ v_38 h Qb=>?_);obtain⟨s3,s4,s5,s6,s7,s8,s9⟩:=eZ;replace h:oU p0 p1 p2 p3 p9 p10 s3 s4 s5 s6 s7 s8 s9=some v_38:=h;try dsimp only
 unfold oU at h;refine X 5 4 (Sv h J (λeR h=>?_) (λeR h=>?_))
 .refine B h λx11 bA h=>(X 15 4 (sO (cF (BN bA) ⟨J,(Y 9 4 (j1 [(0,.ptr 0 0),(2,.ptr 2 0),(4,.ptr 3 0),(6,iI s3),(8,.str x11.1),(9,iI x11.2.1),(25,iI s4),(44,.bool ((x11.2.2 !=0)||decide (x11.2.1<=s3)))] [.box [sL ao p0,iI p1,iI p2,sL (ak aa) p3,sL aj p4,sL (ak aa) p5,sL aq p6,sL an p7,sL aa p8,sL aT p9,sL bb p10,iI p11,iI p12,iI p13,iI p14,iI p15,.ref 1,.bool p16],aR 75 3 aa p17,.box [.nils,.nils,.nils,.nils,.nils],.box [sL aj s5,sL (ak aa) s6,sL aq s7,sL an s8,sL aa s9]] ?_ (λhK=>?_)))⟩)))
  .refine Sv h J (λoA h=>?_) (λoA h=>?_)
   .exact X 5 4 (lk h (wk [] [0,1,2,3] 4 J))
   refine B h λx14 cI h=>(X 2 4 (T.drawn mixed (k:=16) J ?_))
   apply Su 2 (bm 16 16383);intro g7
   .refine rq [0,1,2,4,5,6,8] 9 (rL [3,9,10,11,12,14,15] 3 J (rL [7,9,10,11,12,14,15] 7 J (ra2 9 13 ?_ ?_)))
    .exact oO J (cD (xM cI) ⟨J,(rq [10,11,12] 3 (ra1 13 (og 4 ⟨J,(raE g7)⟩)))⟩)
    .exact og 4 ⟨J,(ra1 9 (oO J (cD (xM cI) ⟨J,(rq [10,11,12] 2 (raT g7))⟩)))⟩
   refine ra1 14 (og 5 ⟨J,(rq [15] 0 (RA.done (by decide+kernel) (X 5 5 (Sv h J (λQc h=>?_) (λQc h=>?_)))))⟩)
   .exact X 10 5 (lk h (wk [] [0,1,2,3] 5 J))
   exact X 5 5 (lk h (wk [] [0,1,2,3] 5 J))
  refine X 5 4 (gp 40 (λkW=>?_) (λkW=>?_))
  .refine Yp 5 4 ?_;rw[kW]at hK;exact sx hK
  refine Yp 5 4 ?_;rw[kW]at hK;exact sx hK
 refine X 1 4 ?_;replace h:=mi h Qb;refine X 7 4 ?_;cases h;exact tN [0,1]
theorem HN {r:(U Choice)×Int}(h:r9 p0=some r):FnO Qbl 115 [.str p0] (.tup [.ref 0,iI r.2]) [aR 50 2 an r.1]:=by
 unfold r9 at h;refine fT 0 12 Tryz.func115 Tryz.ntmps115 J (Sv h J (λae h=>?_) (λae h=>?_))
 .refine X 5 0 ?_;cases h;exact tO [(0,50,2)] [0] 0
 refine B h λx2 hx2 h=>(X 6 0 (sQ (ii J J hx2 (Y 2 0 (Sv h J (λab h=>?_) (λab h=>?_))))))
 .refine X 5 0 ?_;cases h;exact tO [(0,50,2)] [0] 0
 refine X 11 0 (itr (λjb:Int×(U Choice)=>mkA 43 [(0,.str p0),(4,.ref 0),(5,iI jb.1)]) (λjb=>[aR 50 2 an jb.2]) h (wk [(4,50,2)] [0] 0 J) (λjb v_10 h Gg=>?_));obtain⟨s3,s4⟩:=jb;replace h:j7 p0 s3 s4=some v_10:=h;try dsimp only
 unfold j7 at h;refine X 8 1 (Sv h J (λot h=>?_) (λot h=>?_))
 .refine B h λx7 hx7 h=>(B h λx8 hx8 h=>(X 4 1 (T.drawn mixed (k:=12) J (rq [0,1] 10 (r0 2 J (dq Vd J J hx7 (rq [3,4,5,6] 5 (r0 7 J (dq Vd J J hx8 (rq [8,9] 2 (ra1 10 ?_)))))))))))
  refine og 1 ⟨J,(ra1 11 (og 2 ⟨J,(RA.done (by decide+kernel) (X 1 2 (j1 [(0,.str p0),(4,.ref 0),(5,iI s3),(6,.ptr 1 0),(37,.bool ((decide ((IntKind.i64.wrap (x7.toNat:Int))>=12))||decide ((IntKind.i64.wrap (x8.toNat:Int))>=16)))] [aR 50 2 an s4,.box [iI (IntKind.i64.wrap (x7.toNat:Int)),iI (IntKind.i64.wrap (x8.toNat:Int))]] ?_ (λhK=>?_))))⟩))⟩
  .refine Sv h J (λtU h=>?_) (λtU h=>?_)
   .refine X 5 2 ?_;replace h:=mi h Gg;cases h;exact tO [(0,50,2)] [2] 2
   refine B h λx10 ba h=>(X 4 2 (sO (be (rows:=List.map an [(⟨IntKind.i64.wrap (x7.toNat:Int),IntKind.i64.wrap (x8.toNat:Int)⟩:Choice)]) (vs:=[.agg [iI (IntKind.i64.wrap (x7.toNat:Int)),iI (IntKind.i64.wrap (x8.toNat:Int))]]) Sz Tc J J J J J J (sO (bQ (en:=an) (xs:=s4) (ys:=([(⟨IntKind.i64.wrap (x7.toNat:Int),IntKind.i64.wrap (x8.toNat:Int)⟩:Choice)]:U Choice)) Sz (λ_=>J) J J J ba J J (Y 7 4 ?_))))))
   exact lk h (wk [] [3] 4 J)
  refine X 6 2 (gp 33 (λfY=>?_) (λfY=>?_))
  .refine Yp 5 2 ?_;rw[fY]at hK;exact sx hK
  refine Yp 5 2 ?_;rw[fY]at hK;exact sx hK
 refine X 1 1 ?_;replace h:=mi h Gg;refine X 6 1 ?_;cases h;exact tO [] [0] 1
end
end
section
open Go.RowKit
section
variable {P:Program} {N n:Nat} {l:List (Nat×AV)} {aw:List Ob} {K2:AV→List Ob→Prop} {d:Option Tmp} {ty:TypeId} {ps:String} {af:Array Edge} {gd:Option (Nat×Bool)}
variable {t t2:TypeId}{x y:Operand}{a b:Array TypeId}{v:Bool}
theorem oa {f:FuncId}{c:U AV}(hu:P.underlying t=some (.func a b v))(hx:evA n l x=.func f c)(hy:evA n l y=.nilf)(h:K2 (.bool false) aw):OP P N ⟨d,.binOp .eql t x y t2,ty,ps,af,gd⟩ (mkA n l) aw K2:=
 SC (λσ w F ac har hs=>by
  have ex:=har.ev x;have ey:=har.ev y;rw[aG,hx]at ex;rw[aG,hy]at ey;generalize hvx:ac.eval x=vx at ex;generalize hvy:ac.eval y=vy at ey;cases ey;cases ex with
  |func _ _ us=>
   refine⟨.bool false,_,w,aw,σ,F,_,?_,.inl J,hs,.refl ..,.bool false,h⟩;have he:=λf p q=>eq_fn (P:=P) hu f p q w
   simp[execOp,hvx,hvy,eqGuard,binOp,Sem.run_bind,he])
theorem NC (hu:P.underlying t=some (.func a b v))(hx:evA n l x=.nilf)(hy:evA n l y=.nilf)(h:K2 (.bool true) aw):OP P N ⟨d,.binOp .eql t x y t2,ty,ps,af,gd⟩ (mkA n l) aw K2:=
 SC (λσ w F ac har hs=>by have ex:=har.ev x;have ey:=har.ev y;rw[aG,hx]at ex;rw[aG,hy]at ey;generalize hvx:ac.eval x=vx at ex;generalize hvy:ac.eval y=vy at ey;cases ey;cases ex;refine⟨.bool true,_,w,aw,σ,F,_,?_,.inl J,hs,.refl ..,.bool true,h⟩;have he:=eq_nf (P:=P) hu w;simp[execOp,hvx,hvy,eqGuard,binOp,Sem.run_bind,he])
end
end
section
open Go.RowKit
set_option maxRecDepth 100000
set_option maxHeartbeats 4000000
set_option synthInstance.maxSize 100000
set_option synthInstance.maxHeartbeats 4000000
section
variable {p0 p2 p3 p12 p13 p14 p15 p16:Int}{p1:U Node}{r p17:Bool}{p4 p8:U Choice}{p5:U Int}{p6:U (U Item)}{p7:U Memory}{p9 p18:U Item}{p10:U (U UInt8)}{p11:U Write}
theorem AH {p1:U (U UInt8)}{p2:U Write}{r:U Choice}(h:pe p0 p1 p2 p3=some r):FnX Qbl 114 [iI p0,.ptr 0 0,.ptr 1 0] [.box [sL aT p1,sL bb p2],.box [iI p3]] (.ref 2) [.box [sL aT p1,sL bb p2],.box [iI p3],aR 50 2 an r]:=by
 unfold pe at h;refine fT 2 10 Tryz.func114 Tryz.ntmps114 J (sQ (ai SI J (Y 2 2 (Sv h J (λae h=>?_) (λae h=>?_)))))
 .refine X 4 2 ?_;cases h;exact tO [(0,50,2)] [0,1,2] 2
 refine B h λx3 hx3 h=>(B h λx4 hx4 h=>(X 6 2 (sQ (aB SI (λ_=>J) J J hx3 (Y 1 2 (sO (cO 2 (Bh hx4) ⟨J,(Y 9 3 ?_)⟩)))))))
 obtain⟨oF,hz,h⟩:=bind_some h;revert hz h;revert oF;intro c9 hz h;refine j1 [(5,.ref 2),(46,.bool c9)] [.box [sL aT p1,sL bb p2],.box [iI p3],aR 9 1 aT x4.1] ?_ (λhK=>?_)
 .refine Sv h J (λaI h=>?_) (λaI h=>?_)
  .refine X 4 3 ?_;cases h;exact tO [(0,50,2)] [0,1,3] 3
  refine B h λx14 cI h=>(B h λx15 cU h=>(B h λx16 d7 h=>(B h λx17 cz h=>(X 4 3 (sQ (aK (en:=aT) SI J J J cI (sO (aU (en:=aT) (a:=x15) J J cU (aN Tt (c:=.str x15) J (sO (nF Vd J J J d7 (sO (cO 3 (HN cz) ⟨J,(Y 11 4 ?_)⟩)))))))))))))
  cases h;exact tO [] [0,1,3] 4
 refine X 1 3 ?_;rcases bf (((x4.1).length:Int)!=1)with ab|ab
 .replace hz:=bH hz ab;refine T.drawn mixed (k:=22) J (rq [0] 21 (r0 1 J (cP (en:=aT) SI J J (rq [2,3] 18 (r2 4 J ab (r2 5 J ab (r2 6 J ab (r2 7 J ab (r2 8 J ab (r2 9 J ab ?_))))))))));refine r2 10 J ab (r2 11 J ab (r0 12 J (bg (v:=.bool true) J ab J (rq [13] 8 (r2 14 J J (r2 15 J J (r2 16 J J (r2 17 J J (r2 18 J J (r2 19 J J ?_))))))))));exact r2 20 J J (r0 21 J (bg (v:=.bool true) J J J (RA.done (by decide+kernel) (T.sub hK ⟨J,(congrArg AV.bool ((congrArg (λp=>p) (QH hz)).symm)).symm,tqz⟩))))
 replace hz:=bG hz ab;refine B hz λx5 hx5 hz=>?_
 rcases bf (x4.2.1 !=((x5).length:Int))with ap|ap
 .replace hz:=bH hz ap;refine T.drawn mixed (k:=22) J (rq [0] 21 (r0 1 J (cP (en:=aT) SI J J (rq [2,3] 18 (ry 4 ab J (ry 5 ab J (ry 7 ab J (ra1 6 (oy 3 ab J (r1 8 J ab (aB SI (λ_=>J) J J hx5 ?_)))))))))));refine ra1 9 (oy 3 ab J (ry 10 ab J (ry 11 ab J (r0 12 J (aP (v:=.bool (x4.2.1 !=((x5).length:Int))) J ab J (rq [13] 8 (r2 14 J ap (r2 15 J ap (r2 16 J ap (r2 17 J ap ?_))))))))));exact r2 18 J ap (r2 19 J ap (r2 20 J ap (r0 21 J (bg (v:=.bool true) J ap J (RA.done (by decide+kernel) (T.sub hK ⟨J,(congrArg AV.bool ((congrArg (λp=>p) (QH hz)).symm)).symm,tqz⟩))))))
 replace hz:=bG hz ap;refine B hz λx6 hx6 hz=>(B hz λx7 hx7 hz=>(B hz λx8 hx8 hz=>(T.drawn mixed (k:=22) J ?_)))
 apply Su 0 (bm 22 4194303);intro hS6
 .refine rq [0] 21 (r0 1 J (cP (en:=aT) SI J J (rq [2,3] 18 (ry 4 ab J (ry 5 ab J (ry 7 ab J (ra1 6 (oy 3 ab J (r1 8 J ab (aB SI (λ_=>J) J J hx5 (ra1 9 ?_)))))))))));refine oy 3 ab J (ry 10 ab J (ry 11 ab J (r0 12 J (aP (v:=.bool (x4.2.1 !=((x5).length:Int))) J ab J (rq [13] 8 (ry 14 ap J (r1 15 J ap (aK (en:=aT) SI J J J hx6 (ra2 16 19 ?_ ?_)))))))))
  .exact oP J ap (aU (en:=aT) (a:=x7) J J hx7 (aN Tt (c:=.str x7) J (r1 17 J ap (dq Vd J J hx8 (ry 18 ap J (ra1 19 (oy 3 ap J (ry 20 ap J (r0 21 J (aP (v:=.bool ((IntKind.i64.wrap (x8.toNat:Int))!=p3)) J ap J (raE hS6)))))))))))
  .exact oy 3 ap J (ra1 16 (oP J ap (aU (en:=aT) (a:=x7) J J hx7 (aN Tt (c:=.str x7) J (r1 17 J ap (dq Vd J J hx8 (ry 18 ap J (ry 20 ap J (r0 21 J (aP (v:=.bool ((IntKind.i64.wrap (x8.toNat:Int))!=p3)) J ap J (raT hS6)))))))))))
 exact RA.done (by decide+kernel) (T.sub hK ⟨J,(congrArg AV.bool ((congrArg (λp=>p) (QH hz)).symm)).symm,tqz⟩)
theorem BQ {p0:Disk}{p1:Int}{r:(U Choice)×Int×Int}(h:nP p0 p1=some r):FnO Qbl 59 [.agg (co p0),iI p1] (.tup [.ref 0,iI r.2.1,iI r.2.2]) [aR 50 2 an r.1]:=by
 unfold nP at h;refine fT 0 0 Tryz.func59 Tryz.ntmps59 J ?_;refine B h λx2 hx2 h=>(X 12 0 (sO (cF (ni hx2) ⟨J,(Y 7 2 (Sv h J (λae h=>?_) (λae h=>?_)))⟩)))
 .refine X 7 2 ?_;cases h;exact tO [(0,50,2)] [2] 2
 refine X 2 2 (j1 [(2,.ptr 0 0),(3,.ptr 1 0),(4,.nils),(5,iI 0),(20,.bool ((decide (p1<0))||decide (p1> 200)))] [.box (co p0),.box [iI p1]] ?_ (λhK=>?_))
 .refine Sv h J (λap h=>?_) (λap h=>?_)
  .refine X 6 2 ?_;cases h;exact tO [(0,50,2)] [2] 2
  refine B h λx5 hx5 h=>(X 10 2 (sO (cG [0,1] 2 3 (AH hx5) ⟨J,(Y 3 3 (itr (λaQ:Int×(U Choice)×(U Choice)=>mkA 38 [(4,.ref 0),(5,iI aQ.1),(8,.func 114 [.ptr 1 0,.ptr 2 0]),(9,.ref 3)]) (λaQ=>[aR 50 2 an aQ.2.1,.box (co p0),.box [iI p1],aR 50 2 an aQ.2.2]) h (wk [(4,50,2)] [3,0,1,2] 3 J) (λaQ v_7 h bv=>?_)))⟩)))
  obtain⟨s6,s7,s8⟩:=aQ;replace h:kf p0 p1 s6 s7 s8=some v_7:=h;try dsimp only
  unfold kf at h;refine X 4 4 (sQ (cP (en:=an) Sz J J (Y 2 4 (Sv h J (λbi h=>?_) (λbi h=>?_)))))
  .exact B h λx10 ba h=>(X 7 4 (sO (bQ (en:=an) (xs:=s7) (ys:=s8) Sz (λ_=>J) J J J ba J J (B h λx11 bA h=>(Y 11 5 (sO (cG [1,2] 5 3 (AH bA) ⟨J,(Y 2 6 (lk h (wk [] [4,1,2,5] 6 J)))⟩)))))))
  refine X 1 4 ?_;replace h:=mi h bv;refine X 8 4 ?_;cases h;exact tO [] [0] 4
 refine X 5 2 (gp 17 (λab=>?_) (λab=>?_))
 .refine Yp 4 2 ?_;rw[ab]at hK;exact sx hK
 refine Yp 4 2 ?_;rw[ab]at hK;exact sx hK
theorem Ih {p0:Net}{p1:U Choice}{r:Int}(h:pD p0 p1=some r):Fn Qbl 73 [.agg (aD p0),sL an p1] (iI r):=by
 unfold pD at h;refine fT 0 0 Tryz.func73 Tryz.ntmps73 J ?_;refine B h λx2 hx2 h=>(X 9 0 (sO (cF (BJ hx2) ⟨J,(Y 7 1 (Sv h J (λae h=>?_) (λae h=>?_)))⟩)))
 .refine X 5 1 ?_;cases h;exact tD
 refine X 5 1 (sQ (ai Sz J (Y 2 1 (Sv h J (λab h=>?_) (λab h=>?_)))))
 .refine X 4 1 ?_;cases h;exact tD
 refine X 5 1 (sQ (ai Sz J (Y 3 1 (itr (λcB:Int=>mkA 60 [(2,.ptr 0 0),(16,sL an p1),(17,iI ((p1).length:Int)),(18,iI cB)]) (λcB=>[.box (aD p0)]) h (wk [] [0] 1 J) (λcB v_30 h eF=>?_)))));revert eF h;revert cB;intro s3 h eF;replace h:si p0 p1 s3=some v_30:=h;try dsimp only
 unfold si at h;refine X 5 1 (Sv h J (λja h=>?_) (λja h=>?_))
 .refine B h λx5 hx5 h=>(X 5 1 (sQ (aB Sz (λ_=>J) J J hx5 (Y 5 1 ?_))))
  obtain⟨zI,hz,h⟩:=bind_some h;revert hz h;revert zI;intro c7 hz h;refine j1 [(2,.ptr 0 0),(7,.ptr 1 0),(16,sL an p1),(17,iI ((p1).length:Int)),(18,iI s3),(42,.bool c7)] [.box (aD p0),.box (an x5)] ?_ (λhK=>?_)
  .refine Sv h J (λuc h=>?_) (λuc h=>?_)
   .refine X 4 2 ?_;replace h:=mi h eF;cases h;exact tD
   refine X 1 2 ?_;obtain⟨zJ,hz,h⟩:=bind_some h;revert hz h;revert zJ;intro c9 hz h;refine j1 [(2,.ptr 0 0),(16,sL an p1),(17,iI ((p1).length:Int)),(18,iI s3),(58,.bool c9)] [.box (aD p0)] ?_ (λhK=>?_)
   .refine Sv h J (λeR h=>?_) (λeR h=>?_)
    .refine X 4 1 ?_;replace h:=mi h eF;cases h;exact tD
    exact X 5 1 (lk h (wk [] [0] 1 J))
   refine X 1 2 ?_;rcases bf (decide (x5.Lane<0))with aJ|aJ
   .replace hz:=bH hz aJ;refine T.drawn mixed (k:=16) J (rq [0] 15 (ra1 1 (og 2 ⟨J,(rq [2,3] 12 (r2 4 J aJ (r2 5 J aJ (r2 6 J aJ (r2 7 J aJ (r2 8 J aJ ?_))))))⟩)));exact r2 9 J aJ (r2 10 J aJ (r2 11 J aJ (r2 12 J aJ (r2 13 J aJ (r2 14 J aJ (r0 15 J (bg (v:=.bool true) J aJ J (RA.done (by decide+kernel) (T.weakR hK (SD [] [0] (by decide) (bP _) J ⟨al J,cK J,bE J,bE J,dl ((congrArg (λp=>p) (QH hz)).symm),tqz⟩ (bL (aD p0) J (aA))))))))))))
   replace hz:=bG hz aJ;refine B hz λx8 hx8 hz=>(T.drawn mixed (k:=16) J ?_)
   apply Su 0 (bm 16 65535);intro mD;apply Su 4 (bm 16 4095);intro g7;apply Su 5 (bm 16 4063);intro mC;apply Su 7 (bm 16 895);intro uC;apply Su 7 (bm 16 511);intro uD
   .refine rq [0] 15 (ra1 1 (og 2 ⟨J,(rq [2,3] 12 (ry 4 aJ J (ry 6 aJ J (ry 8 aJ J (ra3 5 7 9 ?_ ?_ ?_)))))⟩))
    .refine oy 2 aJ J (ra2 7 9 ?_ ?_)
     .exact oy 2 aJ J (raE uD)
     .exact oy 2 aJ J (raE uC)
    .refine oy 2 aJ J (ra2 5 9 ?_ ?_)
     .exact oy 2 aJ J (raT uD)
     .exact oy 2 aJ J (r1 10 J aJ (aB Sw (λ_=>J) J J hx8 (ry 11 aJ J (raE mC))))
    .refine oy 2 aJ J (ra2 5 7 ?_ ?_)
     .exact oy 2 aJ J (raT uC)
     .exact oy 2 aJ J (r1 10 J aJ (aB Sw (λ_=>J) J J hx8 (ry 11 aJ J (raT mC))))
   .exact ra1 9 (oy 2 aJ J (r1 10 J aJ (aB Sw (λ_=>J) J J hx8 (ry 11 aJ J (raE g7)))))
   .exact ra1 7 (oy 2 aJ J (r1 10 J aJ (aB Sw (λ_=>J) J J hx8 (ry 11 aJ J (raT g7)))))
   .refine ra2 5 12 ?_ ?_
    .exact oy 2 aJ J (raT g7)
    .exact oy 2 aJ J (r1 13 J aJ (ai Sx J (ra1 5 (oy 2 aJ J (ry 14 aJ J (r0 15 J (aP (v:=.bool (decide (x5.Lane>=((x8.In).length:Int)))) J aJ J (raE mD))))))))
   .exact ra1 12 (oy 2 aJ J (r1 13 J aJ (ai Sx J (ry 14 aJ J (r0 15 J (aP (v:=.bool (decide (x5.Lane>=((x8.In).length:Int)))) J aJ J (raT mD)))))))
   exact RA.done (by decide+kernel) (T.weakR hK (SD [] [0] (by decide) (bP _) J ⟨al J,cK J,bE J,bE J,dl ((congrArg (λp=>p) (QH hz)).symm),tqz⟩ (bL (aD p0) J (aA))))
  refine X 6 2 (gi 25 hz (λed hz=>?_) (λed hz=>?_))
  .refine Yp 18 2 ?_;cases hz;exact sx hK
  refine Y 4 2 (yQ J (ai Sw J (Yp 3 2 (gi 33 hz (λgB hz=>?_) (λgB hz=>?_)))))
  .refine Yp 10 2 ?_;cases hz;exact sx hK
  refine B hz λx6 hx6 hz=>(Y 4 2 (yQ J (aB Sw (λ_=>J) J J hx6 (Yp 5 2 ?_))))
  cases hz;exact sx hK
 refine X 1 1 ?_;replace h:=mi h eF;refine X 4 1 ?_;cases h;exact tD
theorem Hh {p0:Move}(h:rE p0 p1 p2 p3 p4=some r):FnX Qbl 127 [.agg (aV p0),.ptr 0 0,.ptr 1 0] [.box [sL ao p1,iI p2,iI p3],.box [sL an p4]] (.bool r) [.box [sL ao p1,iI p2,iI p3],.box [sL an p4]]:=by
 unfold rE at h;refine fT 2 0 Tryz.func127 Tryz.ntmps127 J ?_;refine B h λx1 hx1 h=>(X 5 2 ?_)
 obtain⟨uE,hz,h⟩:=bind_some h;revert hz h;revert uE;intro c4 hz h;refine j1 [(4,.bool c4)] [.box [sL ao p1,iI p2,iI p3],.box [sL an p4]] ?_ (λhK=>?_)
 .cases h;exact tN [0,1]
 refine X 1 3 ?_;rcases bf (x1.Kind !=6)with ae|ae
 .replace hz:=bH hz ae;refine T.drawn mixed (k:=27) J (rq [0,2] 25 (rL [1,4,5,6,7,8,9,10,11,12,13,14,15,16,17,18,19,20,21,22,23,24,25,26] 1 J (ra1 3 (og 3 ⟨J,(r0 4 J (aB Sw (λ_=>J) J J hx1 (rq [5] 21 (ra1 6 (og 3 ⟨J,(rq [7,8] 18 ?_)⟩)))))⟩))));refine r2 9 J ae (r2 10 J ae (r2 11 J ae (r2 12 J ae (r2 13 J ae (r2 14 J ae (r2 15 J ae (r2 16 J ae (r3 17 J (r3 18 J ?_)))))))));exact r3 19 J (r3 20 J (r3 21 J (r3 22 J (r3 23 J (r2 24 J ae (r0 25 J (bg (v:=.bool true) J ae J (rq [26] 0 (RA.done (by decide+kernel) (T.weakR hK (SD [] [0,1] (by decide) (by decide) J ⟨dl ((congrArg (λp=>p) (QH hz)).symm),tqz⟩ (bL [sL ao p1,iI p2,iI p3] J (bL [sL an p4] J (aA))))))))))))))
 replace hz:=bG hz ae;refine B hz λx2 hx2 hz=>?_
 rcases bf (p0.Node==x2.Node)with ab|ab
 .replace hz:=bH hz ab;refine B hz λx3 hx3 hz=>(T.drawn mixed (k:=27) J ?_)
  apply Su 0 (bm 27 134217727);intro hS4;apply Su 5 (bm 27 4194303);intro hS5;apply Su 9 (bm 27 262143);intro hS6;apply Su 13 (bm 27 16383);intro hS7
  .refine rq [0,2] 25 (rL [1,4,5,6,7,8,9,10,11,12,13,14,15,16,17,18,19,20,21,22,23,24,25,26] 1 J (ra1 3 (og 3 ⟨J,(r0 4 J (aB Sw (λ_=>J) J J hx1 (rq [5] 21 (ra1 6 (og 3 ⟨J,(rq [7,8] 18 (ry 9 ae J ?_))⟩)))))⟩)));refine ra2 10 11 ?_ ?_
   .exact oy 3 ae J (ra1 11 (oy 3 ae J (r1 12 J ae (aB Sz (λ_=>J) J J hx2 (ry 13 ae J (raE hS7))))))
   .refine oy 3 ae J (r1 12 J ae (aB Sz (λ_=>J) J J hx2 (ry 13 ae J (ra2 10 14 ?_ ?_))))
    .exact oy 3 ae J (raT hS7)
    .exact oy 3 ae J (ra1 10 (oy 3 ae J (ry 15 ae J (ry 16 ae J (ry 17 ab J (raE hS6))))))
  .exact ra1 14 (oy 3 ae J (ry 15 ae J (ry 16 ae J (ry 17 ab J (raT hS6)))))
  .refine ra2 18 19 ?_ ?_
   .exact oy 3 ab J (ra1 19 (oy 3 ab J (r1 20 J ab (aB Sz (λ_=>J) J J hx3 (ry 21 ab J (raE hS5))))))
   .refine oy 3 ab J (r1 20 J ab (aB Sz (λ_=>J) J J hx3 (ry 21 ab J (ra2 18 22 ?_ ?_))))
    .exact oy 3 ab J (raT hS5)
    .exact oy 3 ab J (ra1 18 (oy 3 ab J (ry 23 ab J (r1 24 J ae (bg (v:=.bool (p0.Lane==x3.Lane)) J ab J (r0 25 J (aP (v:=.bool (p0.Lane==x3.Lane)) J ae J (rq [26] 0 (raE hS4)))))))))
  .exact ra1 22 (oy 3 ab J (ry 23 ab J (r1 24 J ae (bg (v:=.bool (p0.Lane==x3.Lane)) J ab J (r0 25 J (aP (v:=.bool (p0.Lane==x3.Lane)) J ae J (rq [26] 0 (raT hS4))))))))
  exact RA.done (by decide+kernel) (T.weakR hK (SD [] [0,1] (by decide) (by decide) J ⟨dl ((congrArg (λp=>p) (QH hz)).symm),tqz⟩ (bL [sL ao p1,iI p2,iI p3] J (bL [sL an p4] J (aA)))))
 replace hz:=bG hz ab;refine T.drawn mixed (k:=27) J ?_;apply Su 0 (bm 27 134217727);intro hS8;apply Su 13 (bm 27 16383);intro hS9
 .refine rq [0,2] 25 (rL [1,4,5,6,7,8,9,10,11,12,13,14,15,16,17,18,19,20,21,22,23,24,25,26] 1 J (ra1 3 (og 3 ⟨J,(r0 4 J (aB Sw (λ_=>J) J J hx1 (rq [5] 21 (ra1 6 (og 3 ⟨J,(rq [7,8] 18 (ry 9 ae J ?_))⟩)))))⟩)));refine ra2 10 11 ?_ ?_
  .exact oy 3 ae J (ra1 11 (oy 3 ae J (r1 12 J ae (aB Sz (λ_=>J) J J hx2 (ry 13 ae J (raE hS9))))))
  .refine oy 3 ae J (r1 12 J ae (aB Sz (λ_=>J) J J hx2 (ry 13 ae J (ra2 10 14 ?_ ?_))))
   .exact oy 3 ae J (raT hS9)
   .refine oy 3 ae J (ra1 10 (oy 3 ae J (ry 15 ae J (ry 16 ae J (r2 17 J ab (r2 18 J ab (r2 19 J ab (r2 20 J ab (r2 21 J ab ?_)))))))));exact r2 22 J ab (r2 23 J ab (r1 24 J ae (aP (v:=.bool false) J ab J (r0 25 J (aP (v:=.bool false) J ae J (rq [26] 0 (raE hS8)))))))
 .refine ra1 14 (oy 3 ae J (ry 15 ae J (ry 16 ae J (r2 17 J ab (r2 18 J ab (r2 19 J ab (r2 20 J ab (r2 21 J ab (r2 22 J ab ?_)))))))));exact r2 23 J ab (r1 24 J ae (aP (v:=.bool false) J ab J (r0 25 J (aP (v:=.bool false) J ae J (rq [26] 0 (raT hS8))))))
 exact RA.done (by decide+kernel) (T.weakR hK (SD [] [0,1] (by decide) (by decide) J ⟨dl ((congrArg (λp=>p) (QH hz)).symm),tqz⟩ (bL [sL ao p1,iI p2,iI p3] J (bL [sL an p4] J (aA)))))
theorem G0 {p0:U Move}{r:Int}(h:rl p0 p1 p2 p3 p4=some r):FnX Qbl 126 [.ref 0,.func 127 [.ptr 1 0,.ptr 2 0]] [aR 97 2 aV p0,.box [sL ao p1,iI p2,iI p3],.box [sL an p4]] (iI r) [aR 97 2 aV p0,.box [sL ao p1,iI p2,iI p3],.box [sL an p4]]:=by
 unfold rl at h;refine fT 3 8 Tryz.func126 Tryz.ntmps126 J (sQ (cP (en:=aV) SM J J (Y 3 3 (itr (λam:Int=>mkA 19 [(0,.ref 0),(1,.func 127 [.ptr 1 0,.ptr 2 0]),(7,iI ((p0).length:Int)),(8,iI am)]) (λam=>[aR 97 2 aV p0,.box [sL ao p1,iI p2,iI p3],.box [sL an p4]]) h (wk [] [0,1,2] 3 J) (λam v_6 h bu=>?_)))));revert bu h;revert am;intro s1 h bu;replace h:rh p0 p1 p2 p3 p4 s1=some v_6:=h;try dsimp only
 unfold rh at h;refine X 5 3 (Sv h J (λbN h=>?_) (λbN h=>?_))
 .refine B h λx5 hx5 h=>(B h λx6 hx6 h=>(B h λx7 hx7 h=>(X 13 3 (sQ (aK (en:=aV) SM J J J hx5 (sO (aU (en:=aV) (a:=x6) J J hx6 (eM Ti Te J (cs:=(aV x6)) J (sO (cG [1,2] 3 2 (Hh hx7) ⟨J,(Y 1 3 (Sv h J (λbi h=>?_) (λbi h=>?_)))⟩))))))))))
  .refine X 5 3 ?_;replace h:=mi h bu;cases h;exact tN [0,1,2]
  exact X 5 3 (lk h (wk [] [0,1,2] 3 J))
 refine X 1 3 ?_;replace h:=mi h bu;refine X 4 3 ?_;cases h;exact tN [0,1,2]
theorem Ig {p0:Net}{p1:U (U Item)}{p2:State}{p3:U Choice}{r:State×Int}(h:pF p0 p1 p2 p3=some r):Fn Qbl 74 [.agg (aD p0),sL (ak aa) p1,.agg (bD p2),sL an p3] (.tup [.agg (bD r.1),iI r.2]):=by
 unfold pF at h;refine fT 0 13 Tryz.func74 Tryz.ntmps74 J (sQ (ai Sz J (Y 1 4 (sQ (ai Sz J (Y 3 4 (Sv h J (λae h=>?_) (λae h=>?_))))))))
 .refine X 6 4 ?_;cases h;exact tD
 refine X 3 4 (itr (λbp:(U Int)×(U (U Item))×(U Memory)×(U Choice)×(U Item)×(U Choice)=>mkA 62 [(1,sL (ak aa) p1),(4,.ptr 0 0),(6,.ptr 1 0),(7,.ptr 2 0),(8,.ptr 3 0)]) (λbp=>[.box (aD p0),.box [sL aj bp.1,sL (ak aa) bp.2.1,sL aq bp.2.2.1,sL an bp.2.2.2.1,sL aa bp.2.2.2.2.1],.box [sL an bp.2.2.2.2.2],.box [.nils,.nils,.nils,.nils,.nils]]) h (wk [] [0,1,2,3] 4 J) (λbp v_13 h gZ=>?_));obtain⟨s1,s2,s3,s4,s5,s6⟩:=bp;replace h:nc p0 p1 s1 s2 s3 s4 s5 s6=some v_13:=h;try dsimp only
 unfold nc at h;refine X 4 4 (sQ (ai Sz J (Y 2 4 (Sv h J (λg6 h=>?_) (λg6 h=>?_)))))
 .refine B h λx8 hx8 h=>(X 7 4 (sO (cO 4 (Bc hx8) ⟨J,(B h λx10 ba h=>(Y 10 5 (sO (cG [4,0,2] 5 3 (G0 ba) ⟨J,(Y 8 5 (Sv h J (λfF h=>?_) (λfF h=>?_)))⟩))))⟩)))
  .refine X 6 5 ?_;replace h:=mi h gZ;cases h;exact tD
  refine X 1 5 (jn (Z:=U Choice) (λqH=>mkA 62 [(1,sL (ak aa) p1),(4,.ptr 0 0),(6,.ptr 1 0),(7,.ptr 2 0),(8,.ptr 3 0),(10,.ref 4),(12,iI x10)]) (λqH=>[.box (aD p0),.box [sL aj s1,sL (ak aa) s2,sL aq s3,sL an s4,sL aa s5],.box [sL an qH],.box [.nils,.nils,.nils,.nils,.nils],aR 97 2 aV x8.1]) (λqH=>nb p0 p1 s1 s2 s3 s4 s5 x8 x10 qH=some v_13) (λqH h=>?_) (λhK1=>?_))
  .revert h;revert qH;intro z18 h;replace h:nb p0 p1 s1 s2 s3 s4 s5 x8 x10 z18=some v_13:=h;try dsimp only
   unfold nb at h;refine B h λx19 cM h=>(B h λx20 dS h=>(B h λx21 je h=>(T.drawn mixed (k:=12) J (rq [1,3,4] 9 (r0 5 J (aK (en:=aV) SM J J J cM (rL [0,7,8,9,10,11] 0 J (rL [2,7,8,9,10,11] 2 J (ra1 6 (oO J (aU (en:=aV) (a:=x20) J J dS (eM Ti Te J (cs:=(aV x20)) J ?_))))))))))))
   exact ra1 7 (oO J (cD (Co je) ⟨J,(rq [8,9,10] 1 (ra1 11 (og 5 ⟨J,(RA.done (by decide+kernel) (lk h (wk [] [0,1,2,3] 5 J)))⟩)))⟩))
  refine B h λx14 cI h=>(B h λx15 cU h=>(B h λx16 d7 h=>(X 2 5 (T.drawn mixed (k:=11) J (rq [0,2,3] 8 (r0 4 J (aK (en:=aV) SM J J J cI (rq [5] 6 (rL [1,7,8,9,10] 1 J (ra1 6 ?_))))))))))
  refine oO J (aU (en:=aV) (a:=x15) J J cU (aN S4 (c:=iI x15.Node) J (r0 7 J (aB Sw (λ_=>J) J J d7 (rq [8] 2 (ra1 9 (og 5 ⟨J,(rq [10] 0 (RA.done (by decide+kernel) (Sv h J (λcC h=>?_) (λcC h=>?_))))⟩)))))))
  .exact B h λx17 cz h=>(X 2 5 (sO (pK Sz (λ_=>J) J J J cz (Y 2 5 (sx (hK1 x17 h))))))
  exact X 1 5 (sx (hK1 s6 h))
 refine X 1 4 ?_;replace h:=mi h gZ;refine X 6 4 ?_;cases h;exact tD
theorem H3 {p4:U (U Item)}{r:Int×(U Int)×(U (U Item))×(U Memory)×(U Choice)×(U Item)×Int×Int×Int×Int×Bool}(h:sr p0 p1 p2 p3 p4 p5 p6 p7 p8 p9 p10 p11 p12 p13 p14 p15 p16 p17 p18=some r):FnX Qbl 32 [.ptr 0 0,iI p0] [.box [sL ao p1,iI p2,iI p3,sL (ak aa) p4,sL aj p5,sL (ak aa) p6,sL aq p7,sL an p8,sL aa p9,sL aT p10,sL bb p11,iI p12,iI p13,iI p14,iI p15,iI p16,.ref 1,.bool p17],aR 75 3 aa p18] (iI r.1) [.box [sL ao p1,iI p2,iI p3,sL (ak aa) p4,sL aj r.2.1,sL (ak aa) r.2.2.1,sL aq r.2.2.2.1,sL an r.2.2.2.2.1,sL aa r.2.2.2.2.2.1,sL aT p10,sL bb p11,iI r.2.2.2.2.2.2.1,iI r.2.2.2.2.2.2.2.1,iI r.2.2.2.2.2.2.2.2.1,iI p15,iI r.2.2.2.2.2.2.2.2.2.1,.ref 1,.bool r.2.2.2.2.2.2.2.2.2.2],aR 75 3 aa p18]:=by
 unfold sr at h;refine fT 2 0 Tryz.func32 Tryz.ntmps32 J ?_;refine B h λx2 hx2 h=>(X 7 2 (sO (cG [0,1] 2 2 (Hx hx2) ⟨J,(B h λx4 hx4 h=>(Y 14 2 (sO (cO 3 (BQ hx4) ⟨J,(Y 14 4 (Sv h J (λae h=>?_) (λae h=>?_)))⟩))))⟩)))
 .refine X 5 4 ?_;cases h;exact tN [0,1]
 refine B h λx6 hx6 h=>(X 9 4 (sO (cF (Ih hx6) ⟨J,(Y 7 4 (Sv h J (λab h=>?_) (λab h=>?_)))⟩)))
 .refine X 5 4 ?_;cases h;exact tN [0,1]
 refine B h λx10 ba h=>(X 3 4 (T.drawn mixed (k:=16) J (rq [0,1,2,4,5,6,9] 9 (rL [3,10,11,12,13,14,15] 3 J (rL [7,10,11,12,13,14,15] 7 J (ra1 8 (og 4 ⟨J,(ra1 10 (RO.fC 3 ?_))⟩)))))))
 refine oO J (cD (Ig ba) ⟨J,(rq [11,12,13] 2 (ra1 14 (og 4 ⟨J,(rq [15] 0 (RA.done (by decide+kernel) (X 5 4 (Sv h J (λap h=>?_) (λap h=>?_)))))⟩)))⟩)
 .refine X 5 4 ?_;cases h;exact tN [0,1]
 refine X 2 4 (T.drawn mixed (k:=33) J ?_);apply Su 10 (bm 33 8388607);intro hS4;apply Su 13 (bm 33 1048575);intro hS5;apply Su 15 (bm 33 1042431);intro hS6;apply Su 16 (bm 33 131071);intro hS7;apply Su 17 (bm 33 261375);intro hS8;apply Su 18 (bm 33 130303);intro hS9;apply Su 18 (bm 33 124927);intro cN;apply Su 19 (bm 33 32703);intro cE
 .refine rq [0,1,2,3,4,5,7,10,13,14] 23 (ra3 6 8 11 ?_ ?_ ?_)
  .refine og 4 ⟨J,(rq [15,16] 20 (ra3 8 11 17 ?_ ?_ ?_))⟩
   .exact og 4 ⟨J,(r0 9 J (ai Sz J (raE cN)))⟩
   .exact og 4 ⟨J,(r0 12 J (ai Sz J (raE hS9)))⟩
   .refine og 4 ⟨J,(ra2 8 11 ?_ ?_)⟩
    .exact og 4 ⟨J,(r0 9 J (ai Sz J (rq [18,19] 15 (raE hS6))))⟩
    .exact og 4 ⟨J,(r0 12 J (ai Sz J (raE hS8)))⟩
  .refine og 4 ⟨J,(r0 9 J (ai Sz J (ra2 6 11 ?_ ?_)))⟩
   .exact og 4 ⟨J,(rq [15,16] 18 (raT cN))⟩
   .exact og 4 ⟨J,(r0 12 J (ai Sz J (raE cE)))⟩
  .refine og 4 ⟨J,(r0 12 J (ai Sz J (ra2 6 8 ?_ ?_)))⟩
   .exact og 4 ⟨J,(rq [15,16] 18 (raT hS9))⟩
   .exact og 4 ⟨J,(r0 9 J (ai Sz J (raT cE)))⟩
 .exact ra1 6 (og 4 ⟨J,(rq [15,16] 16 (raE hS7))⟩)
 .refine ra2 11 17 ?_ ?_
  .exact og 4 ⟨J,(r0 12 J (ai Sz J (raT hS7)))⟩
  .exact og 4 ⟨J,(rq [18,19] 15 (raT hS6))⟩
 .refine ra2 8 17 ?_ ?_
  .exact og 4 ⟨J,(r0 9 J (ai Sz J (raT hS7)))⟩
  .exact og 4 ⟨J,(raT hS8)⟩
 .exact ra1 8 (og 4 ⟨J,(r0 9 J (ai Sz J (rq [18,19] 13 (raE hS5))))⟩)
 .exact ra1 17 (og 4 ⟨J,(rq [18,19] 13 (raT hS5))⟩)
 .refine ra2 11 20 ?_ ?_
  .exact og 4 ⟨J,(r0 12 J (ai Sz J (raT hS5)))⟩
  .exact og 4 ⟨J,(ra1 11 (og 4 ⟨J,(r0 12 J (ai Sz J (rq [21,22] 10 (raE hS4))))⟩))⟩
 .exact ra1 20 (og 4 ⟨J,(rq [21,22] 10 (raT hS4))⟩)
 refine ra1 23 (og 4 ⟨J,(rq [24,25] 7 (ra1 26 (og 4 ⟨J,(rq [27,28] 4 (ra1 29 (og 4 ⟨J,(rq [30,31] 1 (ra1 32 ?_))⟩)))⟩)))⟩);refine og 4 ⟨J,(RA.done (by decide+kernel) (X 4 4 ?_))⟩;cases h;exact tN [0,1]
theorem Cc {p0:Disk}{p1:Int}{p3:U UInt8}{r:Disk×Int}(h:nN p0 p1 p2 p3=some r):Fn Qbl 52 [.agg (co p0),iI p1,iI p2,.str p3] (.tup [.agg (co r.1),iI r.2]):=by
 unfold nN at h;refine fT 0 0 Tryz.func52 Tryz.ntmps52 J ?_;refine B h λx2 hx2 h=>(X 10 0 (sO (cF (ni hx2) ⟨J,(Y 7 2 (Sv h J (λae h=>?_) (λae h=>?_)))⟩)))
 .refine X 7 2 ?_;cases h;exact tD
 refine X 2 2 (j1 [(1,iI p1),(2,iI p2),(3,.str p3),(4,.ptr 0 0),(8,.ptr 1 0),(36,.bool ((decide (p1<0))||((decide (p1> 1))||((decide (p2<0))||decide (p2> 200)))))] [.box (co p0),.box [.nils,.nils]] ?_ (λhK=>?_))
 .refine Sv h J (λaI h=>?_) (λaI h=>?_)
  .refine X 6 2 ?_;cases h;exact tD
  refine B h λx5 hx5 h=>(X 7 2 (sQ (v_quo J J hx5 (Y 8 2 (Sv h J (λaM h=>?_) (λaM h=>?_))))))
  .refine X 6 2 ?_;cases h;exact tD
  refine X 8 2 (itr (λdX:Int×(U (U UInt8))×(U Write)=>mkA 93 [(1,iI p1),(2,iI p2),(3,.str p3),(4,.ptr 0 0),(8,.ptr 1 0),(11,iI x5),(12,iI dX.1)]) (λdX=>[.box [sL aT dX.2.1,sL bb dX.2.2],.box [.nils,.nils]]) h (wk [] [0,1] 2 J) (λdX v_18 h w5=>?_));obtain⟨s6,s7,s8⟩:=dX;replace h:pG p1 p2 p3 x5 s6 s7 s8=some v_18:=h;try dsimp only
  unfold pG at h;refine X 6 2 (Sv h J (λcC h=>?_) (λcC h=>?_))
  .refine X 11 2 (sO (be (rows:=List.map b6 [IntKind.u8.wrap p2,IntKind.u8.wrap s6,IntKind.u8.wrap x5]) (vs:=[.int .u8 (IntKind.u8.wrap p2),.int .u8 (IntKind.u8.wrap s6),.int .u8 (IntKind.u8.wrap x5)]) S3 Tk J J J J J J (sO (pB (xs:=[IntKind.u8.wrap p2,IntKind.u8.wrap s6,IntKind.u8.wrap x5]) Vh Vk Vd J J (Y 2 3 (jn (Z:=U UInt8) (λf7=>mkA 93 [(1,iI p1),(2,iI p2),(3,.str p3),(4,.ptr 0 0),(8,.ptr 1 0),(11,iI x5),(12,iI s6),(13,.str f7)]) (λf7=>[.box [sL aT s7,sL bb s8],.box [.nils,.nils]]) (λf7=>nG p1 s6 s7 s8 f7=some v_18) (λf7 h=>?_) (λhK1=>?_)))))))
   .revert h;revert f7;intro z11 h;replace h:nG p1 s6 s7 s8 z11=some v_18:=h;try dsimp only
    unfold nG at h;refine B h λx13 dJ h=>(X 3 2 (sO (cF (Bt dJ) ⟨J,(B h λx15 cU h=>(Y 18 2 (sO (cD (Ba cU) ⟨J,(Y 11 2 (Sv h J (λi7 h=>?_) (λi7 h=>?_)))⟩))))⟩)))
    .refine X 7 2 ?_;replace h:=mi h w5;cases h;exact tD
    exact X 6 2 (lk h (wk [] [0,1] 2 J))
   refine X 6 3 (Sv h J (λkV h=>?_) (λkV h=>?_))
   .exact B h λx9 hx9 h=>(B h λx10 ba h=>(X 11 3 (sO (nF Vd J J J hx9 (sQ (qv J J ba (Y 2 3 (wu (hK1 x10 h) [] [0,1] 3 J))))))))
   exact X 1 3 (wu (hK1 (cq [IntKind.u8.wrap p2,IntKind.u8.wrap s6,IntKind.u8.wrap x5]) h) [] [0,1] 3 J)
  refine X 1 2 ?_;replace h:=mi h w5;refine X 6 2 ?_;cases h;exact tD
 refine X 5 2 (gp 25 (λab=>?_) (λab=>?_))
 .refine Yp 12 2 ?_;rw[ab]at hK;exact sx hK
 refine Yp 4 2 (gp 29 (λap=>?_) (λap=>?_))
 .refine Yp 8 2 ?_;rw[ab]at hK;rw[ap]at hK;exact sx hK
 refine Yp 4 2 (gp 33 (λaC=>?_) (λaC=>?_))
 .refine Yp 4 2 ?_;rw[ab]at hK;rw[ap]at hK;rw[aC]at hK;exact sx hK
 refine Yp 4 2 ?_;rw[ab]at hK;rw[ap]at hK;rw[aC]at hK;exact sx hK
theorem HP {p4:U (U Item)}{r:Int×(U (U UInt8))×(U Write)×Int}(h:se p0 p1 p2 p3 p4 p5 p6 p7 p8 p9 p10 p11 p12 p13 p14 p15 p16 p17 p18=some r):FnX Qbl 33 [.ptr 0 0,iI p0] [.box [sL ao p1,iI p2,iI p3,sL (ak aa) p4,sL aj p5,sL (ak aa) p6,sL aq p7,sL an p8,sL aa p9,sL aT p10,sL bb p11,iI p12,iI p13,iI p14,iI p15,iI p16,.ref 1,.bool p17],aR 75 3 aa p18] (iI r.1) [.box [sL ao p1,iI p2,iI p3,sL (ak aa) p4,sL aj p5,sL (ak aa) p6,sL aq p7,sL an p8,sL aa p9,sL aT r.2.1,sL bb r.2.2.1,iI p12,iI p13,iI p14,iI r.2.2.2,iI p16,.ref 1,.bool p17],aR 75 3 aa p18]:=by
 unfold se at h;refine fT 2 13 Tryz.func33 Tryz.ntmps33 J (Sv h J (λae h=>?_) (λae h=>?_))
 .refine X 4 2 ?_;cases h;exact tN [0,1]
 refine X 10 2 (Sv h J (λab h=>?_) (λab h=>?_))
 .refine X 4 2 ?_;cases h;exact tN [0,1]
 refine B h λx2 hx2 h=>(X 2 2 (T.drawn mixed (k:=18) J (rq [0,1,2,4,5,6,8,9,10] 9 (rL [3,12,13,14,15,16,17] 3 J (rL [7,12,13,14,15,16,17] 7 J (ra1 11 (og 2 ⟨J,(ra1 12 (oO J (cF (xy hx2) ⟨J,?_⟩)))⟩)))))))
 refine rq [13,14,15,16,17] 0 (RA.done (by decide+kernel) (X 6 2 (Sv h J (λap h=>?_) (λap h=>?_))))
 .refine X 5 2 ?_;cases h;exact tN [0,1]
 refine B h λx5 hx5 h=>(B h λx6 hx6 h=>(X 3 2 (T.drawn mixed (k:=25) J ?_)))
 apply Su 8 (bm 25 131071);intro hS4;apply Su 9 (bm 25 131055);intro hS5
 .refine rq [0,1,2,3,5,6,7,11,12,13,16] 14 (ra3 4 8 14 ?_ ?_ ?_)
  .refine og 2 ⟨J,(ra2 8 14 ?_ ?_)⟩
   .exact og 2 ⟨J,(rq [9] 11 (r0 10 J (ii J J hx5 (ra1 14 (og 2 ⟨J,(rq [15] 8 (raE hS4))⟩)))))⟩
   .exact og 2 ⟨J,(rq [15] 11 (ra1 8 (og 2 ⟨J,(rq [9] 9 (r0 10 J (ii J J hx5 (raT hS4))))⟩)))⟩
  .exact og 2 ⟨J,(rq [9] 12 (r0 10 J (ii J J hx5 (rL [14,15,17,18,19,20,21,22,23,24] 14 J (rq [15] 9 (raE hS5))))))⟩
  .exact og 2 ⟨J,(rq [15] 12 (rL [8,9,10,17,18,19,20,21,22,23,24] 8 J (rq [9] 10 (r0 10 J (ii J J hx5 (raT hS5))))))⟩
 .exact ra1 4 (og 2 ⟨J,(raT hS4)⟩)
 refine ra1 17 (oO J (cD (Cc hx6) ⟨J,(rq [18,19,20,21,22] 2 (ra1 23 (og 2 ⟨J,(rq [24] 0 (RA.done (by decide+kernel) (X 5 2 (Sv h J (λaM h=>?_) (λaM h=>?_)))))⟩)))⟩))
 .refine X 5 2 ?_;cases h;exact tN [0,1]
 refine X 9 2 (sQ (ai Sz J (Y 8 2 ?_)));cases h;exact tN [0,1]
theorem JN {p0:Shop}{p1:Happening}{r:Shop×Int}(h:qe p0 p1=some r):Fn Qbl 9 [.agg (ca p0),.agg (cJ p1)] (.tup [.agg (ca r.1),iI r.2]):=by
 unfold qe at h;refine fT 0 0 Tryz.func9 Tryz.ntmps9 J ?_;refine B h λx2 hx2 h=>(X 11 0 (sO (cF (A8 hx2) ⟨J,(Y 7 3 (Sv h J (λae h=>?_) (λae h=>?_)))⟩)))
 .refine X 7 3 ?_;cases h;exact tD
 refine X 3 3 (sO (pT J J (sO (fg (ek:=kI) (ks:=[]) (vs:=[]) (k:=1) (a:=.func 27 []) (o2:=.mp (List.map kI [1]) [.func 27 []]) (.inr J) Vf (KeyT.int Vc) J J J J J J (sO (fg (ek:=kI) (ks:=[1]) (vs:=[.func 27 []]) (k:=2) (a:=.func 28 []) (o2:=.mp (List.map kI [1,2]) [.func 27 [],.func 28 []]) (.inr J) Vf (KeyT.int Vc) J J J J J J (sO (fg (ek:=kI) (ks:=[1,2]) (vs:=[.func 27 [],.func 28 []]) (k:=3) (a:=.func 29 []) (o2:=.mp (List.map kI [1,2,3]) [.func 27 [],.func 28 [],.func 29 []]) (.inr J) Vf (KeyT.int Vc) J J J J J J (sO (fg (ek:=kI) (ks:=[1,2,3]) (vs:=[.func 27 [],.func 28 [],.func 29 []]) (k:=4) (a:=.func 30 []) (o2:=.mp (List.map kI [1,2,3,4]) [.func 27 [],.func 28 [],.func 29 [],.func 30 []]) (.inr J) Vf (KeyT.int Vc) J J J J J J (sO (fg (ek:=kI) (ks:=[1,2,3,4]) (vs:=[.func 27 [],.func 28 [],.func 29 [],.func 30 []]) (k:=5) (a:=.func 31 []) (o2:=.mp (List.map kI [1,2,3,4,5]) [.func 27 [],.func 28 [],.func 29 [],.func 30 [],.func 31 []]) (.inr J) Vf (KeyT.int Vc) J J J J J J (sO (fg (ek:=kI) (ks:=[1,2,3,4,5]) (vs:=[.func 27 [],.func 28 [],.func 29 [],.func 30 [],.func 31 []]) (k:=6) (a:=.func 32 []) (o2:=.mp (List.map kI [1,2,3,4,5,6]) [.func 27 [],.func 28 [],.func 29 [],.func 30 [],.func 31 [],.func 32 []]) (.inr J) Vf (KeyT.int Vc) J J J J J J (sO (fg (ek:=kI) (ks:=[1,2,3,4,5,6]) (vs:=[.func 27 [],.func 28 [],.func 29 [],.func 30 [],.func 31 [],.func 32 []]) (k:=7) (a:=.func 33 []) (o2:=.mp (List.map kI [1,2,3,4,5,6,7]) [.func 27 [],.func 28 [],.func 29 [],.func 30 [],.func 31 [],.func 32 [],.func 33 []]) (.inr J) Vf (KeyT.int Vc) J J J J J J (Y 3 4 ?_)))))))))))))))));refine Ul (Z:=(U Node)×Int×Int×(U (U Item))×(U Int)×(U (U Item))×(U Memory)×(U Choice)×(U Item)×(U (U UInt8))×(U Write)×Int×Int×Int×Int×Int×Bool×(U Item)) (λbW=>mkA 43 [(2,.ptr 0 0),(4,.ptr 1 0)]) (λbW=>[.box [sL ao bW.1,iI bW.2.1,iI bW.2.2.1,sL (ak aa) bW.2.2.2.1,sL aj bW.2.2.2.2.1,sL (ak aa) bW.2.2.2.2.2.1,sL aq bW.2.2.2.2.2.2.1,sL an bW.2.2.2.2.2.2.2.1,sL aa bW.2.2.2.2.2.2.2.2.1,sL aT bW.2.2.2.2.2.2.2.2.2.1,sL bb bW.2.2.2.2.2.2.2.2.2.2.1,iI bW.2.2.2.2.2.2.2.2.2.2.2.1,iI bW.2.2.2.2.2.2.2.2.2.2.2.2.1,iI bW.2.2.2.2.2.2.2.2.2.2.2.2.2.1,iI bW.2.2.2.2.2.2.2.2.2.2.2.2.2.2.1,iI bW.2.2.2.2.2.2.2.2.2.2.2.2.2.2.2.1,.ref 2,.bool bW.2.2.2.2.2.2.2.2.2.2.2.2.2.2.2.2.1],.box [.nils,iI 0,iI 0,.nils,.nils,.nils,.nils,.nils,.nils,.nils,.nils,iI 0,iI 0,iI 0,iI 0,iI 0,.nils,.bool false],aR 75 3 aa bW.2.2.2.2.2.2.2.2.2.2.2.2.2.2.2.2.2]) (λbW=>jq bW.1 bW.2.1 bW.2.2.1 bW.2.2.2.1 bW.2.2.2.2.1 bW.2.2.2.2.2.1 bW.2.2.2.2.2.2.1 bW.2.2.2.2.2.2.2.1 bW.2.2.2.2.2.2.2.2.1 bW.2.2.2.2.2.2.2.2.2.1 bW.2.2.2.2.2.2.2.2.2.2.1 bW.2.2.2.2.2.2.2.2.2.2.2.1 bW.2.2.2.2.2.2.2.2.2.2.2.2.1 bW.2.2.2.2.2.2.2.2.2.2.2.2.2.1 bW.2.2.2.2.2.2.2.2.2.2.2.2.2.2.1 bW.2.2.2.2.2.2.2.2.2.2.2.2.2.2.2.1 bW.2.2.2.2.2.2.2.2.2.2.2.2.2.2.2.2.1 bW.2.2.2.2.2.2.2.2.2.2.2.2.2.2.2.2.2=some r) (λbW h=>?_) (λhK1=>?_)
 .obtain⟨z31,z32,z33,z34,z35,z36,z37,z38,z39,z40,z41,z42,z43,z44,z45,z46,z47,z48⟩:=bW;replace h:jq z31 z32 z33 z34 z35 z36 z37 z38 z39 z40 z41 z42 z43 z44 z45 z46 z47 z48=some r:=h;try dsimp only
  unfold jq at h;refine X 6 3 ?_;cases h;exact tD
 refine X 5 4 ?_;rcases bf (p1.Kind==1)with gU|gU
 .replace h:=bH h gU;refine sO (lK (ek:=kI) (ks:=[1,2,3,4,5,6,7]) (vs:=[.func 27 [],.func 28 [],.func 29 [],.func 30 [],.func 31 [],.func 32 [],.func 33 []]) (k:=p1.Kind) (az:=.nilf) (a:=.func 27 []) (r:=(some 0)) Vf (KeyT.int Vc) S9 (λ_ _ _=>.nilf) J J J (fO (eq_of_beq gU)) J (Y 6 4 (sO (oa Vj J J (Y 13 4 (Sv h J (λOX h=>?_) (λOX h=>?_)))))))
  .refine X 6 4 ?_;cases h;exact tD
  refine B h λx4 hx4 h=>(X 4 4 (sO (cG [] 4 1 (SG (ng hx4)) ⟨J,(B h λx6 hx6 h=>(Y 8 5 (sO (cG [0,4] 5 2 (HM hx6) ⟨J,(Y 7 5 (Sv h J (λOY h=>?_) (λOY h=>?_)))⟩))))⟩)))
  .refine X 7 5 ?_;cases h;exact tD
  exact X 1 5 (wu (hK1 (x4.N.Nodes,x4.N.Rings,x4.N.Room,x4.Items,x6.2.1,x6.2.2.1,x6.2.2.2.1,x6.2.2.2.2.1,x6.2.2.2.2.2,x4.D.Sectors,x4.D.Wait,x4.Logged,x4.Safe,x4.Epoch,x4.Laid,x4.Next,x4.Down,x4.Told) h) [] [0,2,4] 5 J)
 replace h:=bG h gU;rcases bf (p1.Kind==2)with ic|ic
 .replace h:=bH h ic;refine sO (lK (ek:=kI) (ks:=[1,2,3,4,5,6,7]) (vs:=[.func 27 [],.func 28 [],.func 29 [],.func 30 [],.func 31 [],.func 32 [],.func 33 []]) (k:=p1.Kind) (az:=.nilf) (a:=.func 28 []) (r:=(some 1)) Vf (KeyT.int Vc) S9 (λ_ _ _=>.nilf) J J J (bh (ne_of_beq_false gU) (fO (eq_of_beq ic))) J (Y 6 4 (sO (oa Vj J J (Y 13 4 (Sv h J (λOZ h=>?_) (λOZ h=>?_)))))))
  .refine X 6 4 ?_;cases h;exact tD
  refine B h λx8 hx8 h=>(X 4 4 (sO (cG [] 4 1 (SG (ng hx8)) ⟨J,(B h λx10 ba h=>(Y 8 5 (sO (cG [0,4] 5 2 (HD ba) ⟨J,(Y 7 5 (Sv h J (λO0 h=>?_) (λO0 h=>?_)))⟩))))⟩)))
  .refine X 7 5 ?_;cases h;exact tD
  exact X 1 5 (wu (hK1 (x8.N.Nodes,x8.N.Rings,x8.N.Room,x8.Items,x8.S.At,x8.S.Rings,x8.S.Memory,x8.S.Choices,x8.S.Out,x10.2.1,x10.2.2.1,x10.2.2.2.1,x8.Safe,x8.Epoch,x8.Laid,x10.2.2.2.2,x8.Down,x8.Told) h) [] [0,2,4] 5 J)
 replace h:=bG h ic;rcases bf (p1.Kind==3)with iP|iP
 .replace h:=bH h iP;refine sO (lK (ek:=kI) (ks:=[1,2,3,4,5,6,7]) (vs:=[.func 27 [],.func 28 [],.func 29 [],.func 30 [],.func 31 [],.func 32 [],.func 33 []]) (k:=p1.Kind) (az:=.nilf) (a:=.func 29 []) (r:=(some 2)) Vf (KeyT.int Vc) S9 (λ_ _ _=>.nilf) J J J (bh (ne_of_beq_false gU) (bh (ne_of_beq_false ic) (fO (eq_of_beq iP)))) J (Y 6 4 (sO (oa Vj J J (Y 13 4 (Sv h J (λO1 h=>?_) (λO1 h=>?_)))))))
  .refine X 6 4 ?_;cases h;exact tD
  refine B h λx12 bB h=>(X 4 4 (sO (cG [] 4 1 (SG (ng bB)) ⟨J,(B h λx14 cI h=>(Y 8 5 (sO (cG [0,4] 5 2 (HC cI) ⟨J,(Y 7 5 (Sv h J (λO2 h=>?_) (λO2 h=>?_)))⟩))))⟩)))
  .refine X 7 5 ?_;cases h;exact tD
  exact X 1 5 (wu (hK1 (x12.N.Nodes,x12.N.Rings,x12.N.Room,x12.Items,x12.S.At,x12.S.Rings,x12.S.Memory,x12.S.Choices,x12.S.Out,x14.2.1,x14.2.2.1,x14.2.2.2.1,x14.2.2.2.2.1,x14.2.2.2.2.2.1,x14.2.2.2.2.2.2.1,x14.2.2.2.2.2.2.2,x12.Down,x12.Told) h) [] [0,2,4] 5 J)
 replace h:=bG h iP;rcases bf (p1.Kind==4)with jF|jF
 .replace h:=bH h jF;refine sO (lK (ek:=kI) (ks:=[1,2,3,4,5,6,7]) (vs:=[.func 27 [],.func 28 [],.func 29 [],.func 30 [],.func 31 [],.func 32 [],.func 33 []]) (k:=p1.Kind) (az:=.nilf) (a:=.func 30 []) (r:=(some 3)) Vf (KeyT.int Vc) S9 (λ_ _ _=>.nilf) J J J (bh (ne_of_beq_false gU) (bh (ne_of_beq_false ic) (bh (ne_of_beq_false iP) (fO (eq_of_beq jF))))) J (Y 6 4 (sO (oa Vj J J (Y 13 4 (Sv h J (λO3 h=>?_) (λO3 h=>?_)))))))
  .refine X 6 4 ?_;cases h;exact tD
  refine B h λx16 d7 h=>(X 4 4 (sO (cG [] 4 1 (SG (ng d7)) ⟨J,(B h λx18 b7 h=>(Y 8 5 (sO (cG [0,4] 5 3 (HO b7) ⟨J,(Y 7 6 (Sv h J (λO4 h=>?_) (λO4 h=>?_)))⟩))))⟩)))
  .refine X 7 6 ?_;cases h;exact tD
  exact X 1 6 (wu (hK1 (x16.N.Nodes,x16.N.Rings,x16.N.Room,x16.Items,x16.S.At,x16.S.Rings,x16.S.Memory,x16.S.Choices,x16.S.Out,x16.D.Sectors,x16.D.Wait,x16.Logged,x16.Safe,x16.Epoch,x16.Laid,x16.Next,x16.Down,x18.2) h) [] [0,2,5] 6 J)
 replace h:=bG h jF;rcases bf (p1.Kind==5)with kQ|kQ
 .replace h:=bH h kQ;refine sO (lK (ek:=kI) (ks:=[1,2,3,4,5,6,7]) (vs:=[.func 27 [],.func 28 [],.func 29 [],.func 30 [],.func 31 [],.func 32 [],.func 33 []]) (k:=p1.Kind) (az:=.nilf) (a:=.func 31 []) (r:=(some 4)) Vf (KeyT.int Vc) S9 (λ_ _ _=>.nilf) J J J (bh (ne_of_beq_false gU) (bh (ne_of_beq_false ic) (bh (ne_of_beq_false iP) (bh (ne_of_beq_false jF) (fO (eq_of_beq kQ)))))) J (Y 6 4 (sO (oa Vj J J (Y 13 4 (Sv h J (λO5 h=>?_) (λO5 h=>?_)))))))
  .refine X 6 4 ?_;cases h;exact tD
  refine B h λx20 dS h=>(X 4 4 (sO (cG [] 4 1 (SG (ng dS)) ⟨J,(B h λx22 eS h=>(Y 8 5 (sO (cG [0,4] 5 2 (HT eS) ⟨J,(Y 7 5 (Sv h J (λO6 h=>?_) (λO6 h=>?_)))⟩))))⟩)))
  .refine X 7 5 ?_;cases h;exact tD
  exact X 1 5 (wu (hK1 (x20.N.Nodes,x20.N.Rings,x20.N.Room,x20.Items,x22.2.1,x22.2.2.1,x22.2.2.2.1,x22.2.2.2.2.1,x22.2.2.2.2.2.1,x22.2.2.2.2.2.2.1,x22.2.2.2.2.2.2.2.1,x22.2.2.2.2.2.2.2.2.1,x22.2.2.2.2.2.2.2.2.2.1,x22.2.2.2.2.2.2.2.2.2.2.1,x22.2.2.2.2.2.2.2.2.2.2.2.1,x22.2.2.2.2.2.2.2.2.2.2.2.2.1,x22.2.2.2.2.2.2.2.2.2.2.2.2.2,x20.Told) h) [] [0,2,4] 5 J)
 replace h:=bG h kQ;rcases bf (p1.Kind==6)with qz|qz
 .replace h:=bH h qz;refine sO (lK (ek:=kI) (ks:=[1,2,3,4,5,6,7]) (vs:=[.func 27 [],.func 28 [],.func 29 [],.func 30 [],.func 31 [],.func 32 [],.func 33 []]) (k:=p1.Kind) (az:=.nilf) (a:=.func 32 []) (r:=(some 5)) Vf (KeyT.int Vc) S9 (λ_ _ _=>.nilf) J J J (bh (ne_of_beq_false gU) (bh (ne_of_beq_false ic) (bh (ne_of_beq_false iP) (bh (ne_of_beq_false jF) (bh (ne_of_beq_false kQ) (fO (eq_of_beq qz))))))) J (Y 6 4 (sO (oa Vj J J (Y 13 4 (Sv h J (λO7 h=>?_) (λO7 h=>?_)))))))
  .refine X 6 4 ?_;cases h;exact tD
  refine B h λx24 aS h=>(X 4 4 (sO (cG [] 4 1 (SG (ng aS)) ⟨J,(B h λx26 dB h=>(Y 8 5 (sO (cG [0,4] 5 2 (H3 dB) ⟨J,(Y 7 5 (Sv h J (λO8 h=>?_) (λO8 h=>?_)))⟩))))⟩)))
  .refine X 7 5 ?_;cases h;exact tD
  exact X 1 5 (wu (hK1 (x24.N.Nodes,x24.N.Rings,x24.N.Room,x24.Items,x26.2.1,x26.2.2.1,x26.2.2.2.1,x26.2.2.2.2.1,x26.2.2.2.2.2.1,x24.D.Sectors,x24.D.Wait,x26.2.2.2.2.2.2.1,x26.2.2.2.2.2.2.2.1,x26.2.2.2.2.2.2.2.2.1,x24.Laid,x26.2.2.2.2.2.2.2.2.2.1,x26.2.2.2.2.2.2.2.2.2.2,x24.Told) h) [] [0,2,4] 5 J)
 replace h:=bG h qz;rcases bf (p1.Kind==7)with oo|oo
 .replace h:=bH h oo;refine sO (lK (ek:=kI) (ks:=[1,2,3,4,5,6,7]) (vs:=[.func 27 [],.func 28 [],.func 29 [],.func 30 [],.func 31 [],.func 32 [],.func 33 []]) (k:=p1.Kind) (az:=.nilf) (a:=.func 33 []) (r:=(some 6)) Vf (KeyT.int Vc) S9 (λ_ _ _=>.nilf) J J J (bh (ne_of_beq_false gU) (bh (ne_of_beq_false ic) (bh (ne_of_beq_false iP) (bh (ne_of_beq_false jF) (bh (ne_of_beq_false kQ) (bh (ne_of_beq_false qz) (fO (eq_of_beq oo)))))))) J (Y 6 4 (sO (oa Vj J J (Y 13 4 (Sv h J (λO9 h=>?_) (λO9 h=>?_)))))))
  .refine X 6 4 ?_;cases h;exact tD
  refine B h λx28 k0 h=>(X 4 4 (sO (cG [] 4 1 (SG (ng k0)) ⟨J,(B h λx30 f8 h=>(Y 8 5 (sO (cG [0,4] 5 2 (HP f8) ⟨J,(Y 7 5 (Sv h J (λPa h=>?_) (λPa h=>?_)))⟩))))⟩)))
  .refine X 7 5 ?_;cases h;exact tD
  exact X 1 5 (wu (hK1 (x28.N.Nodes,x28.N.Rings,x28.N.Room,x28.Items,x28.S.At,x28.S.Rings,x28.S.Memory,x28.S.Choices,x28.S.Out,x30.2.1,x30.2.2.1,x28.Logged,x28.Safe,x28.Epoch,x30.2.2.2,x28.Next,x28.Down,x28.Told) h) [] [0,2,4] 5 J)
 replace h:=bG h oo;refine sO (lK (ek:=kI) (ks:=[1,2,3,4,5,6,7]) (vs:=[.func 27 [],.func 28 [],.func 29 [],.func 30 [],.func 31 [],.func 32 [],.func 33 []]) (k:=p1.Kind) (az:=.nilf) (a:=.nilf) (r:=none) Vf (KeyT.int Vc) S9 (λ_ _ _=>.nilf) J J J (bh (ne_of_beq_false gU) (bh (ne_of_beq_false ic) (bh (ne_of_beq_false iP) (bh (ne_of_beq_false jF) (bh (ne_of_beq_false kQ) (bh (ne_of_beq_false qz) (bh (ne_of_beq_false oo) E3))))))) J (Y 6 4 (sO (NC Vj J J (Y 8 4 ?_)))));cases h;exact tD
theorem Cb {p0:Net}{p1:U (U Item)}{p2:U Happening}{r:Shop×(U Int)×Int}(h:jw p0 p1 p2=some r):Fn Qbl 13 [.agg (aD p0),sL (ak aa) p1,sL cJ p2] (.tup [.agg (ca r.1),sL aj r.2.1,iI r.2.2]):=by
 unfold jw at h;refine fT 0 0 Tryz.func13 Tryz.ntmps13 J ?_;refine B h λx2 hx2 h=>(X 11 0 (sO (cD (B4 hx2) ⟨J,(Y 13 2 (Sv h J (λae h=>?_) (λae h=>?_)))⟩)))
 .refine X 8 3 ?_;cases h;exact tD
 refine X 5 3 (sQ (ai Td J (Y 2 3 (Sv h J (λab h=>?_) (λab h=>?_)))))
 .refine X 7 3 ?_;cases h;exact tD
 refine X 9 3 (sQ (ai Td J (Y 3 3 (itr (λbn:Int×(U Node)×Int×Int×(U (U Item))×(U Int)×(U (U Item))×(U Memory)×(U Choice)×(U Item)×(U (U UInt8))×(U Write)×Int×Int×Int×Int×Int×(U Item)×Bool×(U Int)=>mkA 52 [(6,.ptr 0 0),(9,.ptr 1 0),(11,.ref 2),(30,sL cJ p2),(31,iI ((p2).length:Int)),(32,iI bn.1)]) (λbn=>[.box [.nils,iI 0,iI 0,.nils,.nils,.nils,.nils,.nils,.nils,.nils,.nils,iI 0,iI 0,iI 0,iI 0,iI 0,.nils,.bool false],.box [sL ao bn.2.1,iI bn.2.2.1,iI bn.2.2.2.1,sL (ak aa) bn.2.2.2.2.1,sL aj bn.2.2.2.2.2.1,sL (ak aa) bn.2.2.2.2.2.2.1,sL aq bn.2.2.2.2.2.2.2.1,sL an bn.2.2.2.2.2.2.2.2.1,sL aa bn.2.2.2.2.2.2.2.2.2.1,sL aT bn.2.2.2.2.2.2.2.2.2.2.1,sL bb bn.2.2.2.2.2.2.2.2.2.2.2.1,iI bn.2.2.2.2.2.2.2.2.2.2.2.2.1,iI bn.2.2.2.2.2.2.2.2.2.2.2.2.2.1,iI bn.2.2.2.2.2.2.2.2.2.2.2.2.2.2.1,iI bn.2.2.2.2.2.2.2.2.2.2.2.2.2.2.2.1,iI bn.2.2.2.2.2.2.2.2.2.2.2.2.2.2.2.2.1,sL aa bn.2.2.2.2.2.2.2.2.2.2.2.2.2.2.2.2.2.1,.bool bn.2.2.2.2.2.2.2.2.2.2.2.2.2.2.2.2.2.2.1],aR 39 1 aj bn.2.2.2.2.2.2.2.2.2.2.2.2.2.2.2.2.2.2.2]) h (wk [(11,39,1)] [1,2,3] 3 J) (λbn v_8 h my=>?_)))));obtain⟨s3,s4,s5,s6,s7,s8,s9,s10,s11,s12,s13,s14,s15,s16,s17,s18,s19,s20,s21,s22⟩:=bn;replace h:nC p2 s3 s4 s5 s6 s7 s8 s9 s10 s11 s12 s13 s14 s15 s16 s17 s18 s19 s20 s21 s22=some v_8:=h;try dsimp only
 unfold nC at h;refine X 5 3 (Sv h J (λbY h=>?_) (λbY h=>?_))
 .refine B h λx24 aS h=>(X 5 3 (sQ (aB Td (λ_=>J) J J aS (B h λx26 dB h=>(Y 8 3 (sO (cD (JN dB) ⟨J,(Y 13 4 (Sv h J (λfb h=>?_) (λfb h=>?_)))⟩)))))))
  .exact B h λx27 uF h=>(X 7 5 (sO (be (rows:=List.map aj [x26.2]) (vs:=[iI x26.2]) SX Tp J J J J J J (sO (bQ (en:=aj) (xs:=s22) (ys:=([x26.2]:U Int)) SX (λ_=>J) J J J uF J J (Y 6 7 (lk h (wk [] [0,1,6] 7 J))))))))
  exact B h λx28 k0 h=>(X 4 5 (sO (be (rows:=List.map aj [x26.2]) (vs:=[iI x26.2]) SX Tp J J J J J J (sO (bQ (en:=aj) (xs:=s22) (ys:=([x26.2]:U Int)) SX (λ_=>J) J J J k0 J J (Y 6 7 (lk h (wk [] [0,1,6] 7 J))))))))
 refine X 1 3 ?_;replace h:=mi h my;refine X 8 3 ?_;cases h;exact tD
theorem HH {r:Net}(h:u4=some r):Fn Qbl 25 [] (.agg (aD r)):=by unfold u4 at h;refine fT 0 6 Tryz.func25 Tryz.ntmps25 J (sO (be (rows:=List.map aj [0]) (vs:=[iI 0]) Sx SP J J J J J J (Y 1 2 (sO (be (rows:=List.map aj [1]) (vs:=[iI 1]) Sx SP J J J J J J (Y 1 3 (sO (be (rows:=List.map aj [0,1]) (vs:=[iI 0,iI 1]) Sx SP J J J J J J (sO (be (rows:=List.map aj [2]) (vs:=[iI 2]) Sx SP J J J J J J (Y 1 5 (sO (be (rows:=List.map aj [2]) (vs:=[iI 2]) Sx SP J J J J J J (Y 1 6 ?_))))))))))))));refine RS.fC 1 (RS.fC 2 (RS.fC 3 (RS.fC 4 (RS.fC 5 (sO (Ic (rows:=List.map ao [(⟨1,0,[],[0]⟩:Node),(⟨1,1,[],[1]⟩:Node),(⟨6,0,[0,1],[2]⟩:Node),(⟨8,0,[2],[]⟩:Node)]) (vs:=[.agg [iI 1,iI 0,.nils,sL aj [0]],.agg [iI 1,iI 1,.nils,sL aj [1]],.agg [iI 6,iI 0,sL aj [0,1],sL aj [2]],.agg [iI 8,iI 0,sL aj [2],.nils]]) (vs2:=[.agg [iI 1,iI 0,sL aj [],sL aj [0]],.agg [iI 1,iI 1,sL aj [],sL aj [1]],.agg [iI 6,iI 0,sL aj [0,1],sL aj [2]],.agg [iI 8,iI 0,sL aj [2],sL aj []]]) Sw Tx J J J J J J (Y 3 7 ?_)))))));cases h;exact tD
theorem AN {p1:Int}{r:Item}(h:vm p0 p1=some r):Fn Qbl 69 [iI p0,iI p1] (.agg (aa r)):=by unfold vm at h;refine fT 0 11 Tryz.func69 Tryz.ntmps69 J ?_;cases h;exact tD
theorem Ia {r:U (U Item)}(h:vn=some r):FnO Qbl 26 [] (.ref 0) [aR 30 1 (ak aa) r]:=by
 unfold vn at h;refine fT 0 0 Tryz.func26 Tryz.ntmps26 J ?_;refine B h λx3 hx3 h=>(B h λx4 hx4 h=>(X 6 0 (sO (cF (AN hx3) ⟨J,(sO (be (rows:=List.map aa [x3]) (vs:=[.agg (aa x3)]) Sy SW J J J J J J (sO (cF (AN hx4) ⟨J,(sO (be (rows:=List.map aa [x4]) (vs:=[.agg (aa x4)]) Sy SW J J J J J J (RS.fC 0 (RS.fC 1 (sO (be (rows:=List.map (ak aa) [[x3],[x4]]) (vs:=[sL aa [x3],sL aa [x4]]) SA SU J J J J J J ?_))))))⟩))))⟩))))
 refine Y 2 3 ?_;cases h;exact tO [] [2] 3
theorem jo {p1:Int}{r:Happening}(h:gH p0 p1=some r):Fn Qbl 11 [iI p0,iI p1] (.agg (cJ r)):=by unfold gH at h;refine fT 0 11 Tryz.func11 Tryz.ntmps11 J ?_;cases h;exact tD
theorem mP (h:rY=some r):Fn Qbl 8 [] (.bool r):=by
 unfold rY at h;refine fT 0 0 Tryz.func8 Tryz.ntmps8 J ?_;refine B h λx16 d7 h=>(B h λx17 cz h=>(B h λx18 b7 h=>(B h λx19 cM h=>(B h λx20 dS h=>(B h λx21 je h=>(B h λx22 eS h=>(B h λx23 bO h=>(B h λx24 aS h=>(B h λx25 eJ h=>?_)))))))))
 refine B h λx26 dB h=>(B h λx27 uF h=>(B h λx30 f8 h=>(X 6 0 (sO (cD (HH d7) ⟨J,(sO (cQ 0 (Ia cz) ⟨J,(sO (cF (jo b7) ⟨J,(sO (cF (jo cM) ⟨J,(sO (cF (jo dS) ⟨J,(sO (cF (jo je) ⟨J,?_⟩))⟩))⟩))⟩))⟩))⟩)))))
 refine sO (cF (jo eS) ⟨J,(sO (cF (jo bO) ⟨J,(sO (cF (jo aS) ⟨J,(sO (cF (jo eJ) ⟨J,(sO (cF (jo dB) ⟨J,(sO (cF (jo uF) ⟨J,(sO (be (rows:=List.map cJ [x18,x19,x20,x21,x22,x23,x24,x25,x26,x27]) (vs:=[.agg (cJ x18),.agg (cJ x19),.agg (cJ x20),.agg (cJ x21),.agg (cJ x22),.agg (cJ x23),.agg (cJ x24),.agg (cJ x25),.agg (cJ x26),.agg (cJ x27)]) Td TQ J J J J J J (RS.fC 0 (RS.fC 1 (sO (cD (Cb f8) ⟨J,?_⟩))))))⟩))⟩))⟩))⟩))⟩))⟩);refine Y 9 2 (j1 [(0,.bool ((x30.2.2==0)&&((((x30.2.1).length:Int)==10)&&((((x30.1.S.Choices).length:Int)==1)&&((x30.1.Safe==1)&&((decide (((x30.1.Told).length:Int)<=1))&& !x30.1.Down))))))] [] ?_ (λhK=>?_))
 .cases h;exact tD
 refine X 5 3 (gp 24 (λae=>?_) (λae=>?_))
 .refine Y 1 3 (yQ J (ai SX J (Yp 3 3 (gp 29 (λab=>?_) (λab=>?_)))))
  .refine Y 3 3 (yQ J (ai Sz J (Yp 3 3 (gp 36 (λap=>?_) (λap=>?_)))))
   .refine Yp 5 3 (gp 41 (λaC=>?_) (λaC=>?_))
    .refine Y 2 3 (yQ J (ai Sy J (Yp 3 3 (gp 47 (λaI=>?_) (λaI=>?_)))))
     .refine Yp 6 3 ?_;rw[ae]at hK;rw[ab]at hK;rw[ap]at hK;rw[aC]at hK;rw[aI]at hK;exact wu hK [] [] 3 J
     refine Yp 6 3 ?_;rw[ae]at hK;rw[ab]at hK;rw[ap]at hK;rw[aC]at hK;rw[aI]at hK;exact wu hK [] [] 3 J
    refine Yp 12 3 ?_;rw[ae]at hK;rw[ab]at hK;rw[ap]at hK;rw[aC]at hK;exact wu hK [] [] 3 J
   refine Yp 17 3 ?_;rw[ae]at hK;rw[ab]at hK;rw[ap]at hK;exact wu hK [] [] 3 J
  refine Yp 24 3 ?_;rw[ae]at hK;rw[ab]at hK;exact wu hK [] [] 3 J
 refine Yp 29 3 ?_;rw[ae]at hK;exact wu hK [] [] 3 J
theorem xf {p0 p1:U Int}(h:mX p0 p1=some r):Fn Qbl 41 [sL aj p0,sL aj p1] (.bool r):=by
 unfold mX at h;refine fT 0 8 Tryz.func41 Tryz.ntmps41 J (sQ (ai Sx J (Y 1 0 (sQ (ai Sx J (Y 2 0 (Sv h J (λae h=>?_) (λae h=>?_))))))))
 .refine X 4 0 ?_;cases h;exact tD
 refine X 5 0 (sQ (ai Sx J (Y 3 0 (itr (λaQ:Int=>mkA 26 [(0,sL aj p0),(1,sL aj p1),(12,iI ((p0).length:Int)),(13,iI aQ)]) (λaQ=>[]) h (wk [] [] 0 J) (λaQ v_7 h bv=>?_)))));revert bv h;revert aQ;intro s1 h bv;replace h:uW p0 p1 s1=some v_7:=h;try dsimp only
 unfold uW at h;refine X 5 0 (Sv h J (λbi h=>?_) (λbi h=>?_))
 .refine B h λx4 hx4 h=>(B h λx5 hx5 h=>(X 9 0 (T.drawn mixed (k:=9) J (rq [0,1] 7 (r0 2 J (aB Sx (λ_=>J) J J hx4 (rq [4,5] 4 (r0 6 J (aB Sx (λ_=>J) J J hx5 (rL [3,8] 3 J (ra1 7 ?_)))))))))))
  refine og 0 ⟨J,(rq [8] 0 (RA.done (by decide+kernel) (Sv h J (λbY h=>?_) (λbY h=>?_))))⟩
  .refine X 4 0 ?_;replace h:=mi h bv;cases h;exact tD
  exact X 5 0 (lk h (wk [] [] 0 J))
 refine X 1 0 ?_;replace h:=mi h bv;refine X 4 0 ?_;cases h;exact tD
theorem HB {p0 p1:U Item}(h:rS p0 p1=some r):Fn Qbl 80 [sL aa p0,sL aa p1] (.bool r):=by
 unfold rS at h;refine fT 0 8 Tryz.func80 Tryz.ntmps80 J (sQ (ai Sy J (Y 1 0 (sQ (ai Sy J (Y 2 0 (Sv h J (λae h=>?_) (λae h=>?_))))))))
 .refine X 4 0 ?_;cases h;exact tD
 refine X 5 0 (sQ (ai Sy J (Y 3 0 (itr (λaQ:Int=>mkA 26 [(0,sL aa p0),(1,sL aa p1),(12,iI ((p0).length:Int)),(13,iI aQ)]) (λaQ=>[]) h (wk [] [] 0 J) (λaQ v_7 h bv=>?_)))));revert bv h;revert aQ;intro s1 h bv;replace h:uT p0 p1 s1=some v_7:=h;try dsimp only
 unfold uT at h;refine X 5 0 (Sv h J (λbi h=>?_) (λbi h=>?_))
 .refine B h λx4 hx4 h=>(B h λx5 hx5 h=>(X 9 0 (T.drawn mixed (k:=9) J (rq [0,1] 7 (r0 2 J (aB Sy (λ_=>J) J J hx4 (rq [4,5] 4 (r0 6 J (aB Sy (λ_=>J) J J hx5 (rL [3,8] 3 J (ra1 7 ?_)))))))))))
  refine og 0 ⟨J,(r0 8 J (wJ (cs:=[iI x4.Key,iI x4.Val,iI x4.Dep]) (ds:=[iI x5.Key,iI x5.Val,iI x5.Dep]) (r:=x4==x5) Ur J J J J (Jo x4 x5) (RA.done (by decide+kernel) (Sv h J (λbY h=>?_) (λbY h=>?_)))))⟩
  .refine X 4 0 ?_;replace h:=mi h bv;cases h;exact tD
  exact X 5 0 (lk h (wk [] [] 0 J))
 refine X 1 0 ?_;replace h:=mi h bv;refine X 4 0 ?_;cases h;exact tD
theorem xd {p0 p1:U Item}(h:mQ p0 p1=some r):Fn Qbl 39 [sL aa p0,sL aa p1] (.bool r):=by
 unfold mQ at h;refine fT 0 0 Tryz.func39 Tryz.ntmps39 J ?_;refine B h λx2 hx2 h=>(X 8 0 (sO (cF (HB hx2) ⟨J,(Y 2 0 ?_)⟩)))
 cases h;exact tD
theorem Ap {p0 p1:U (U Item)}(h:oI p0 p1=some r):Fn Qbl 38 [sL (ak aa) p0,sL (ak aa) p1,.func 39 []] (.bool r):=by
 unfold oI at h;refine fT 0 8 Tryz.func38 Tryz.ntmps38 J (sQ (ai SA J (Y 1 0 (sQ (ai SA J (Y 2 0 (Sv h J (λae h=>?_) (λae h=>?_))))))))
 .refine X 4 0 ?_;cases h;exact tD
 refine X 5 0 (sQ (ai SA J (Y 3 0 (itr (λaQ:Int=>mkA 32 [(1,sL (ak aa) p1),(2,.func 39 []),(15,sL (ak aa) p0),(16,iI ((p0).length:Int)),(17,iI aQ)]) (λaQ=>[]) h (wk [] [] 0 J) (λaQ v_7 h bv=>?_)))));revert bv h;revert aQ;intro s1 h bv;replace h:q8 p0 p1 s1=some v_7:=h;try dsimp only
 unfold q8 at h;refine X 5 0 (Sv h J (λbi h=>?_) (λbi h=>?_))
 .refine B h λx3 hx3 h=>(X 6 0 (sQ (aB SA (λ_=>J) J J hx3 (B h λx5 hx5 h=>(Y 8 0 (sQ (aB SA (λ_=>J) J J hx5 (B h λx7 hx7 h=>(Y 8 0 (sO (cF (xd hx7) ⟨J,(Y 2 0 ?_)⟩)))))))))))
  refine Sv h J (λbY h=>?_) (λbY h=>?_)
  .refine X 4 0 ?_;replace h:=mi h bv;cases h;exact tD
  exact X 5 0 (lk h (wk [] [] 0 J))
 refine X 1 0 ?_;replace h:=mi h bv;refine X 4 0 ?_;cases h;exact tD
theorem Ho {p0 p1:U Keyed}(h:rH p0 p1=some r):Fn Qbl 83 [sL aH p0,sL aH p1] (.bool r):=by
 unfold rH at h;refine fT 0 8 Tryz.func83 Tryz.ntmps83 J (sQ (ai SB J (Y 1 0 (sQ (ai SB J (Y 2 0 (Sv h J (λae h=>?_) (λae h=>?_))))))))
 .refine X 4 0 ?_;cases h;exact tD
 refine X 5 0 (sQ (ai SB J (Y 3 0 (itr (λaQ:Int=>mkA 26 [(0,sL aH p0),(1,sL aH p1),(12,iI ((p0).length:Int)),(13,iI aQ)]) (λaQ=>[]) h (wk [] [] 0 J) (λaQ v_7 h bv=>?_)))));revert bv h;revert aQ;intro s1 h bv;replace h:uQ p0 p1 s1=some v_7:=h;try dsimp only
 unfold uQ at h;refine X 5 0 (Sv h J (λbi h=>?_) (λbi h=>?_))
 .refine B h λx4 hx4 h=>(B h λx5 hx5 h=>(X 9 0 (T.drawn mixed (k:=9) J (rq [0,1] 7 (r0 2 J (aB SB (λ_=>J) J J hx4 (rq [4,5] 4 (r0 6 J (aB SB (λ_=>J) J J hx5 (rL [3,8] 3 J (ra1 7 ?_)))))))))))
  refine og 0 ⟨J,(r0 8 J (wJ (cs:=[iI x4.Key,iI x4.N]) (ds:=[iI x5.Key,iI x5.N]) (r:=x4==x5) T8 J J J J (IX x4 x5) (RA.done (by decide+kernel) (Sv h J (λbY h=>?_) (λbY h=>?_)))))⟩
  .refine X 4 0 ?_;replace h:=mi h bv;cases h;exact tD
  exact X 5 0 (lk h (wk [] [] 0 J))
 refine X 1 0 ?_;replace h:=mi h bv;refine X 4 0 ?_;cases h;exact tD
theorem Hj {p0 p1:Memory}(h:rC p0 p1=some r):Fn Qbl 43 [.agg (aq p0),.agg (aq p1)] (.bool r):=by
 unfold rC at h;refine fT 0 6 Tryz.func43 Tryz.ntmps43 J ?_;obtain⟨uE,hz,h⟩:=bind_some h;revert hz h;revert uE;intro c2 hz h;refine j1 [(4,.bool c2)] [] ?_ (λhK=>?_)
 .cases h;exact tD
 refine X 8 2 (gi 10 hz (λae hz=>?_) (λae hz=>?_))
 .refine Yp 7 2 (gi 17 hz (λab hz=>?_) (λab hz=>?_))
  .refine B hz λx1 hx1 hz=>(Y 4 2 (yO J (cF (Ho hx1) ⟨J,(Yp 3 2 ?_)⟩)))
   cases hz;exact wu hK [] [] 2 J
  refine Yp 8 2 ?_;cases hz;exact wu hK [] [] 2 J
 refine Yp 15 2 ?_;cases hz;exact wu hK [] [] 2 J
theorem GS {p0 p1:U Memory}(h:q9 p0 p1=some r):Fn Qbl 42 [sL aq p0,sL aq p1,.func 43 []] (.bool r):=by
 unfold q9 at h;refine fT 0 8 Tryz.func42 Tryz.ntmps42 J (sQ (ai SE J (Y 1 0 (sQ (ai SE J (Y 2 0 (Sv h J (λae h=>?_) (λae h=>?_))))))))
 .refine X 4 0 ?_;cases h;exact tD
 refine X 5 0 (sQ (ai SE J (Y 3 0 (itr (λaQ:Int=>mkA 32 [(1,sL aq p1),(2,.func 43 []),(15,sL aq p0),(16,iI ((p0).length:Int)),(17,iI aQ)]) (λaQ=>[]) h (wk [] [] 0 J) (λaQ v_7 h bv=>?_)))));revert bv h;revert aQ;intro s1 h bv;replace h:q7 p0 p1 s1=some v_7:=h;try dsimp only
 unfold q7 at h;refine X 5 0 (Sv h J (λbi h=>?_) (λbi h=>?_))
 .refine B h λx3 hx3 h=>(X 6 0 (sQ (aB SE (λ_=>J) J J hx3 (B h λx5 hx5 h=>(Y 9 0 (sQ (aB SE (λ_=>J) J J hx5 (B h λx7 hx7 h=>(Y 9 1 (sO (cF (Hj hx7) ⟨J,(Y 2 2 ?_)⟩)))))))))))
  refine Sv h J (λbY h=>?_) (λbY h=>?_)
  .refine X 4 2 ?_;replace h:=mi h bv;cases h;exact tD
  exact X 5 2 (lk h (wk [] [] 2 J))
 refine X 1 0 ?_;replace h:=mi h bv;refine X 4 0 ?_;cases h;exact tD
theorem Hl {p0 p1:U Choice}(h:rG p0 p1=some r):Fn Qbl 12 [sL an p0,sL an p1] (.bool r):=by
 unfold rG at h;refine fT 0 8 Tryz.func12 Tryz.ntmps12 J (sQ (ai Sz J (Y 1 0 (sQ (ai Sz J (Y 2 0 (Sv h J (λae h=>?_) (λae h=>?_))))))))
 .refine X 4 0 ?_;cases h;exact tD
 refine X 5 0 (sQ (ai Sz J (Y 3 0 (itr (λaQ:Int=>mkA 26 [(0,sL an p0),(1,sL an p1),(12,iI ((p0).length:Int)),(13,iI aQ)]) (λaQ=>[]) h (wk [] [] 0 J) (λaQ v_7 h bv=>?_)))));revert bv h;revert aQ;intro s1 h bv;replace h:uP p0 p1 s1=some v_7:=h;try dsimp only
 unfold uP at h;refine X 5 0 (Sv h J (λbi h=>?_) (λbi h=>?_))
 .refine B h λx4 hx4 h=>(B h λx5 hx5 h=>(X 9 0 (T.drawn mixed (k:=9) J (rq [0,1] 7 (r0 2 J (aB Sz (λ_=>J) J J hx4 (rq [4,5] 4 (r0 6 J (aB Sz (λ_=>J) J J hx5 (rL [3,8] 3 J (ra1 7 ?_)))))))))))
  refine og 0 ⟨J,(r0 8 J (wJ (cs:=[iI x4.Node,iI x4.Lane]) (ds:=[iI x5.Node,iI x5.Lane]) (r:=x4==x5) Us J J J J (ID x4 x5) (RA.done (by decide+kernel) (Sv h J (λbY h=>?_) (λbY h=>?_)))))⟩
  .refine X 4 0 ?_;replace h:=mi h bv;cases h;exact tD
  exact X 5 0 (lk h (wk [] [] 0 J))
 refine X 1 0 ?_;replace h:=mi h bv;refine X 4 0 ?_;cases h;exact tD
theorem Hq {p0 p1:State}(h:rQ p0 p1=some r):Fn Qbl 15 [.agg (bD p0),.agg (bD p1)] (.bool r):=by
 unfold rQ at h;refine fT 0 0 Tryz.func15 Tryz.ntmps15 J ?_;refine B h λx1 hx1 h=>(X 6 0 ?_)
 obtain⟨uk,hz,h⟩:=bind_some h;revert hz h;revert uk;intro c6 hz h;refine j1 [(4,.bool c6)] [] ?_ (λhK=>?_)
 .cases h;exact tD
 refine X 6 2 (sO (cF (xf hx1) ⟨J,(Y 1 2 (gi 10 hz (λae hz=>?_) (λae hz=>?_)))⟩))
 .refine B hz λx2 hx2 hz=>(Y 4 2 (yO J (cF (Ap hx2) ⟨J,(Yp 2 2 (gi 17 hz (λab hz=>?_) (λab hz=>?_)))⟩)))
  .refine B hz λx3 hx3 hz=>(Y 4 2 (yO J (cF (GS hx3) ⟨J,(Yp 2 2 (gi 24 hz (λap hz=>?_) (λap hz=>?_)))⟩)))
   .refine B hz λx4 hx4 hz=>(Y 4 2 (yO J (cF (Hl hx4) ⟨J,(Yp 2 2 (gi 31 hz (λaC hz=>?_) (λaC hz=>?_)))⟩)))
    .refine B hz λx5 hx5 hz=>(Y 4 2 (yO J (cF (xd hx5) ⟨J,(Yp 3 2 ?_)⟩)))
     cases hz;exact wu hK [] [] 2 J
    refine Yp 8 2 ?_;cases hz;exact wu hK [] [] 2 J
   refine Yp 15 2 ?_;cases hz;exact wu hK [] [] 2 J
  refine Yp 22 2 ?_;cases hz;exact wu hK [] [] 2 J
 refine Yp 29 2 ?_;cases hz;exact wu hK [] [] 2 J
theorem Ht {p0 p1:Node}(h:rK p0 p1=some r):Fn Qbl 79 [.agg (ao p0),.agg (ao p1)] (.bool r):=by
 unfold rK at h;refine fT 0 6 Tryz.func79 Tryz.ntmps79 J ?_;obtain⟨oF,hz,h⟩:=bind_some h;revert hz h;revert oF;intro c3 hz h;refine j1 [(4,.bool c3)] [] ?_ (λhK=>?_)
 .cases h;exact tD
 refine X 8 2 (gi 10 hz (λae hz=>?_) (λae hz=>?_))
 .refine Yp 7 2 (gi 17 hz (λab hz=>?_) (λab hz=>?_))
  .refine B hz λx1 hx1 hz=>(Y 4 2 (yO J (cF (xf hx1) ⟨J,(Yp 2 2 (gi 24 hz (λap hz=>?_) (λap hz=>?_)))⟩)))
   .refine B hz λx2 hx2 hz=>(Y 4 2 (yO J (cF (xf hx2) ⟨J,(Yp 3 2 ?_)⟩)))
    cases hz;exact wu hK [] [] 2 J
   refine Yp 8 2 ?_;cases hz;exact wu hK [] [] 2 J
  refine Yp 15 2 ?_;cases hz;exact wu hK [] [] 2 J
 refine Yp 22 2 ?_;cases hz;exact wu hK [] [] 2 J
theorem GT {p0:U Node}(h:uH p0 p1=some r):Fn Qbl 78 [sL ao p0,sL ao p1,.func 79 []] (.bool r):=by
 unfold uH at h;refine fT 0 8 Tryz.func78 Tryz.ntmps78 J (sQ (ai Sw J (Y 1 0 (sQ (ai Sw J (Y 2 0 (Sv h J (λae h=>?_) (λae h=>?_))))))))
 .refine X 4 0 ?_;cases h;exact tD
 refine X 5 0 (sQ (ai Sw J (Y 3 0 (itr (λaQ:Int=>mkA 32 [(1,sL ao p1),(2,.func 79 []),(15,sL ao p0),(16,iI ((p0).length:Int)),(17,iI aQ)]) (λaQ=>[]) h (wk [] [] 0 J) (λaQ v_7 h bv=>?_)))));revert bv h;revert aQ;intro s1 h bv;replace h:mF p0 p1 s1=some v_7:=h;try dsimp only
 unfold mF at h;refine X 5 0 (Sv h J (λbi h=>?_) (λbi h=>?_))
 .refine B h λx3 hx3 h=>(X 6 0 (sQ (aB Sw (λ_=>J) J J hx3 (B h λx5 hx5 h=>(Y 9 0 (sQ (aB Sw (λ_=>J) J J hx5 (B h λx7 hx7 h=>(Y 9 1 (sO (cF (Ht hx7) ⟨J,(Y 2 2 ?_)⟩)))))))))))
  refine Sv h J (λbY h=>?_) (λbY h=>?_)
  .refine X 4 2 ?_;replace h:=mi h bv;cases h;exact tD
  exact X 5 2 (lk h (wk [] [] 2 J))
 refine X 1 0 ?_;replace h:=mi h bv;refine X 4 0 ?_;cases h;exact tD
theorem HI {p0 p1:Net}(h:r6 p0 p1=some r):Fn Qbl 37 [.agg (aD p0),.agg (aD p1)] (.bool r):=by
 unfold r6 at h;refine fT 0 6 Tryz.func37 Tryz.ntmps37 J ?_;obtain⟨uE,hz,h⟩:=bind_some h;revert hz h;revert uE;intro c2 hz h;refine j1 [(4,.bool c2)] [] ?_ (λhK=>?_)
 .cases h;exact tD
 refine X 8 2 (gi 10 hz (λae hz=>?_) (λae hz=>?_))
 .refine Yp 7 2 (gi 17 hz (λab hz=>?_) (λab hz=>?_))
  .refine B hz λx1 hx1 hz=>(Y 4 2 (yO J (cF (GT hx1) ⟨J,(Yp 3 2 ?_)⟩)))
   cases hz;exact wu hK [] [] 2 J
  refine Yp 8 2 ?_;cases hz;exact wu hK [] [] 2 J
 refine Yp 15 2 ?_;cases hz;exact wu hK [] [] 2 J
theorem Hi {p0 p1:U (U UInt8)}(h:rF p0 p1=some r):Fn Qbl 81 [sL aT p0,sL aT p1] (.bool r):=by
 unfold rF at h;refine fT 0 8 Tryz.func81 Tryz.ntmps81 J (sQ (ai SI J (Y 1 0 (sQ (ai SI J (Y 2 0 (Sv h J (λae h=>?_) (λae h=>?_))))))))
 .refine X 4 0 ?_;cases h;exact tD
 refine X 5 0 (sQ (ai SI J (Y 3 0 (itr (λaQ:Int=>mkA 26 [(0,sL aT p0),(1,sL aT p1),(12,iI ((p0).length:Int)),(13,iI aQ)]) (λaQ=>[]) h (wk [] [] 0 J) (λaQ v_7 h bv=>?_)))));revert bv h;revert aQ;intro s1 h bv;replace h:uO p0 p1 s1=some v_7:=h;try dsimp only
 unfold uO at h;refine X 5 0 (Sv h J (λbi h=>?_) (λbi h=>?_))
 .refine B h λx4 hx4 h=>(B h λx5 hx5 h=>(X 9 0 (T.drawn mixed (k:=9) J (rq [0,1] 7 (r0 2 J (aB SI (λ_=>J) J J hx4 (rq [4,5] 4 (r0 6 J (aB SI (λ_=>J) J J hx5 (rL [3,8] 3 J (ra1 7 ?_)))))))))))
  refine og 0 ⟨J,(rq [8] 0 (RA.done (by decide+kernel) (Sv h J (λbY h=>?_) (λbY h=>?_))))⟩
  .refine X 4 0 ?_;replace h:=mi h bv;cases h;exact tD
  exact X 5 0 (lk h (wk [] [] 0 J))
 refine X 1 0 ?_;replace h:=mi h bv;refine X 4 0 ?_;cases h;exact tD
theorem Hn {p0 p1:U Write}(h:rI p0 p1=some r):Fn Qbl 82 [sL bb p0,sL bb p1] (.bool r):=by
 unfold rI at h;refine fT 0 8 Tryz.func82 Tryz.ntmps82 J (sQ (ai SN J (Y 1 0 (sQ (ai SN J (Y 2 0 (Sv h J (λae h=>?_) (λae h=>?_))))))))
 .refine X 4 0 ?_;cases h;exact tD
 refine X 5 0 (sQ (ai SN J (Y 3 0 (itr (λaQ:Int=>mkA 26 [(0,sL bb p0),(1,sL bb p1),(12,iI ((p0).length:Int)),(13,iI aQ)]) (λaQ=>[]) h (wk [] [] 0 J) (λaQ v_7 h bv=>?_)))));revert bv h;revert aQ;intro s1 h bv;replace h:uS p0 p1 s1=some v_7:=h;try dsimp only
 unfold uS at h;refine X 5 0 (Sv h J (λbi h=>?_) (λbi h=>?_))
 .refine B h λx4 hx4 h=>(B h λx5 hx5 h=>(X 9 0 (T.drawn mixed (k:=9) J (rq [0,1] 7 (r0 2 J (aB SN (λ_=>J) J J hx4 (rq [4,5] 4 (r0 6 J (aB SN (λ_=>J) J J hx5 (rL [3,8] 3 J (ra1 7 ?_)))))))))))
  refine og 0 ⟨J,(r0 8 J (wJ (cs:=[iI x4.At,.str x4.Bytes]) (ds:=[iI x5.At,.str x5.Bytes]) (r:=x4==x5) T9 J J J J (IS x4 x5) (RA.done (by decide+kernel) (Sv h J (λbY h=>?_) (λbY h=>?_)))))⟩
  .refine X 4 0 ?_;replace h:=mi h bv;cases h;exact tD
  exact X 5 0 (lk h (wk [] [] 0 J))
 refine X 1 0 ?_;replace h:=mi h bv;refine X 4 0 ?_;cases h;exact tD
theorem Hv {p0 p1:Disk}(h:rW p0 p1=some r):Fn Qbl 40 [.agg (co p0),.agg (co p1)] (.bool r):=by
 unfold rW at h;refine fT 0 0 Tryz.func40 Tryz.ntmps40 J ?_;refine B h λx1 hx1 h=>(X 6 0 ?_)
 obtain⟨uw,hz,h⟩:=bind_some h;revert hz h;revert uw;intro c3 hz h;refine j1 [(4,.bool c3)] [] ?_ (λhK=>?_)
 .cases h;exact tD
 refine X 6 2 (sO (cF (Hi hx1) ⟨J,(Y 1 2 (gi 10 hz (λae hz=>?_) (λae hz=>?_)))⟩))
 .refine B hz λx2 hx2 hz=>(Y 4 2 (yO J (cF (Hn hx2) ⟨J,(Yp 3 2 ?_)⟩)))
  cases hz;exact wu hK [] [] 2 J
 refine Yp 8 2 ?_;cases hz;exact wu hK [] [] 2 J
theorem uV {p0 p1:Shop}(h:g9 p0 p1=some r):Fn Qbl 14 [.agg (ca p0),.agg (ca p1)] (.bool r):=by
 unfold g9 at h;refine fT 0 0 Tryz.func14 Tryz.ntmps14 J ?_;refine B h λx1 hx1 h=>(X 6 0 ?_)
 obtain⟨zE,hz,h⟩:=bind_some h;revert hz h;revert zE;intro c6 hz h;refine j1 [(4,.bool c6)] [] ?_ (λhK=>?_)
 .cases h;exact tD
 refine X 6 2 (sO (cF (HI hx1) ⟨J,(Y 1 2 (gi 10 hz (λae hz=>?_) (λae hz=>?_)))⟩))
 .refine B hz λx2 hx2 hz=>(Y 4 2 (yO J (cF (Ap hx2) ⟨J,(Yp 2 2 (gi 17 hz (λab hz=>?_) (λab hz=>?_)))⟩)))
  .refine B hz λx3 hx3 hz=>(Y 4 2 (yO J (cF (Hq hx3) ⟨J,(Yp 2 2 (gi 24 hz (λap hz=>?_) (λap hz=>?_)))⟩)))
   .refine B hz λx4 hx4 hz=>(Y 4 2 (yO J (cF (Hv hx4) ⟨J,(Yp 2 2 (gi 31 hz (λaC hz=>?_) (λaC hz=>?_)))⟩)))
    .refine Yp 7 2 (gi 38 hz (λaI hz=>?_) (λaI hz=>?_))
     .refine Yp 7 2 (gi 45 hz (λaM hz=>?_) (λaM hz=>?_))
      .refine Yp 7 2 (gi 52 hz (λbN hz=>?_) (λbN hz=>?_))
       .refine Yp 7 2 (gi 59 hz (λbi hz=>?_) (λbi hz=>?_))
        .refine Yp 7 2 (gi 66 hz (λbY hz=>?_) (λbY hz=>?_))
         .refine B hz λx5 hx5 hz=>(Y 4 2 (yO J (cF (xd hx5) ⟨J,(Yp 2 2 (gi 73 hz (λfb hz=>?_) (λfb hz=>?_)))⟩)))
          .refine Yp 8 2 ?_;cases hz;exact wu hK [] [] 2 J
          refine Yp 8 2 ?_;cases hz;exact wu hK [] [] 2 J
         refine Yp 15 2 ?_;cases hz;exact wu hK [] [] 2 J
        refine Yp 22 2 ?_;cases hz;exact wu hK [] [] 2 J
       refine Yp 29 2 ?_;cases hz;exact wu hK [] [] 2 J
      refine Yp 36 2 ?_;cases hz;exact wu hK [] [] 2 J
     refine Yp 43 2 ?_;cases hz;exact wu hK [] [] 2 J
    refine Yp 50 2 ?_;cases hz;exact wu hK [] [] 2 J
   refine Yp 57 2 ?_;cases hz;exact wu hK [] [] 2 J
  refine Yp 64 2 ?_;cases hz;exact wu hK [] [] 2 J
 refine Yp 71 2 ?_;cases hz;exact wu hK [] [] 2 J
end
end
noncomputable section
open Go.RowKit Go.Shelf
set_option maxRecDepth 100000
set_option maxHeartbeats 4000000
def sRen:Go.Shelf.Ren:=⟨λn=>match n with|6=>134|10=>151|11=>152|12=>153|13=>154|14=>155|15=>165|16=>166|17=>167|18=>168|19=>169|20=>170|21=>171|22=>172|23=>173|24=>174|25=>175|26=>176|27=>177|28=>178|29=>179|30=>180|31=>181|32=>182|33=>183|34=>194|35=>195|36=>196|37=>197|38=>198|39=>201|40=>205|41=>206|42=>207|43=>208|44=>209|45=>210|46=>211|47=>212|48=>213|49=>214|50=>215|51=>216|52=>217|53=>218|54=>219|55=>221|56=>222|57=>223|_=>0,λn=>match n with|0=>0|1=>1|2=>2|3=>3|4=>4|5=>5|6=>6|7=>7|8=>8|9=>9|10=>10|11=>11|12=>12|13=>13|14=>14|15=>15|16=>16|17=>17|18=>18|19=>19|20=>20|21=>21|23=>209|26=>210|28=>27|30=>33|32=>230|33=>231|34=>232|35=>233|36=>234|37=>235|38=>236|39=>179|40=>237|41=>212|42=>238|43=>239|44=>240|45=>252|46=>253|47=>254|48=>255|49=>256|50=>257|51=>213|52=>258|53=>259|54=>260|55=>261|56=>262|57=>263|58=>145|59=>264|60=>272|61=>273|62=>274|63=>275|64=>276|65=>277|66=>280|67=>281|68=>282|69=>162|70=>288|71=>289|72=>290|73=>291|74=>292|75=>293|76=>294|77=>295|78=>217|79=>296|80=>297|81=>298|82=>299|83=>300|84=>301|_=>0,λn=>n⟩
theorem sLay:LaysGg.n6 Qbl sRen where
 mixed:=mixed
 f6:=by kernel_rfl
 f10:=by kernel_rfl
 f11:=by kernel_rfl
 f12:=by kernel_rfl
 f13:=by kernel_rfl
 f14:=by kernel_rfl
 f24:=by kernel_rfl
 f25:=by kernel_rfl
 f26:=by kernel_rfl
 f27:=by kernel_rfl
 f28:=by kernel_rfl
 f29:=by kernel_rfl
 f30:=by kernel_rfl
 f31:=by kernel_rfl
 f32:=by kernel_rfl
 f33:=by kernel_rfl
 f34:=by kernel_rfl
 f35:=by kernel_rfl
 f36:=by kernel_rfl
 f37:=by kernel_rfl
 f38:=by kernel_rfl
 f39:=by kernel_rfl
 t0:=by kernel_rfl
 a0:=λw=>by kernel_rfl
 z0:=λw=>by kernel_rfl
 v0:=λw=>by kernel_rfl
 i0:=by kernel_rfl
 t3:=by kernel_rfl
 a3:=λw=>by kernel_rfl
 z3:=λw=>by kernel_rfl
 v3:=λw=>by kernel_rfl
 i3:=by kernel_rfl
 t4:=by kernel_rfl
 a4:=λw=>by kernel_rfl
 z4:=λw=>by kernel_rfl
 v4:=λw=>by kernel_rfl
 i4:=by kernel_rfl
 t5:=by kernel_rfl
 a5:=λw=>by kernel_rfl
 z5:=λw=>by kernel_rfl
 v5:=λw=>by kernel_rfl
 i5:=by kernel_rfl
 t9:=by kernel_rfl
 a9:=λw=>by kernel_rfl
 z9:=λw=>by kernel_rfl
 v9:=λw=>by kernel_rfl
 i9:=by kernel_rfl
 t12:=by kernel_rfl
 a12:=λw=>by kernel_rfl
 z12:=λw=>by kernel_rfl
 v12:=λw=>by kernel_rfl
 i12:=by kernel_rfl
 t17:=by kernel_rfl
 a17:=λw=>by kernel_rfl
 z17:=λw=>by kernel_rfl
 v17:=λw=>by kernel_rfl
 i17:=by kernel_rfl
 t20:=by kernel_rfl
 a20:=λw=>by kernel_rfl
 z20:=λw=>by kernel_rfl
 v20:=λw=>by kernel_rfl
 i20:=by kernel_rfl
 t26:=by kernel_rfl
 a26:=λw=>by kernel_rfl
 z26:=λw=>by kernel_rfl
 v26:=λw=>by kernel_rfl
 i26:=by kernel_rfl
 t32:=by kernel_rfl
 a32:=λw=>by kernel_rfl
 z32:=λw=>by kernel_rfl
 v32:=λw=>by kernel_rfl
 i32:=by kernel_rfl
 t33:=by kernel_rfl
 a33:=λw=>by kernel_rfl
 z33:=λw=>by kernel_rfl
 v33:=λw=>by kernel_rfl
 i33:=by kernel_rfl
 t35:=by kernel_rfl
 a35:=λw=>by kernel_rfl
 z35:=λw=>by kernel_rfl
 v35:=λw=>by kernel_rfl
 i35:=by kernel_rfl
 t37:=by kernel_rfl
 a37:=λw=>by kernel_rfl
 z37:=λw=>by kernel_rfl
 v37:=λw=>by kernel_rfl
 i37:=by kernel_rfl
 t41:=by kernel_rfl
 a41:=λw=>by kernel_rfl
 z41:=λw=>by kernel_rfl
 v41:=λw=>by kernel_rfl
 i41:=by kernel_rfl
 t44:=by kernel_rfl
 a44:=λw=>by kernel_rfl
 z44:=λw=>by kernel_rfl
 v44:=λw=>by kernel_rfl
 i44:=by kernel_rfl
 t49:=by kernel_rfl
 a49:=λw=>by kernel_rfl
 z49:=λw=>by kernel_rfl
 v49:=λw=>by kernel_rfl
 i49:=by kernel_rfl
 t51:=by kernel_rfl
 a51:=λw=>by kernel_rfl
 z51:=λw=>by kernel_rfl
 v51:=λw=>by kernel_rfl
 i51:=by kernel_rfl
 t53:=by kernel_rfl
 a53:=λw=>by kernel_rfl
 z53:=λw=>by kernel_rfl
 v53:=λw=>by kernel_rfl
 i53:=by kernel_rfl
 t54:=by kernel_rfl
 a54:=λw=>by kernel_rfl
 z54:=λw=>by kernel_rfl
 v54:=λw=>by kernel_rfl
 i54:=by kernel_rfl
 t58:=by kernel_rfl
 a58:=λw=>by kernel_rfl
 z58:=λw=>by kernel_rfl
 v58:=λw=>by kernel_rfl
 i58:=by kernel_rfl
 t60:=by kernel_rfl
 a60:=λw=>by kernel_rfl
 z60:=λw=>by kernel_rfl
 v60:=λw=>by kernel_rfl
 i60:=by kernel_rfl
 t64:=by kernel_rfl
 a64:=λw=>by kernel_rfl
 z64:=λw=>by kernel_rfl
 v64:=λw=>by kernel_rfl
 i64:=by kernel_rfl
 t66:=by kernel_rfl
 a66:=λw=>by kernel_rfl
 z66:=λw=>by kernel_rfl
 v66:=λw=>by kernel_rfl
 i66:=by kernel_rfl
 t67:=by kernel_rfl
 a67:=λw=>by kernel_rfl
 z67:=λw=>by kernel_rfl
 v67:=λw=>by kernel_rfl
 i67:=by kernel_rfl
 t75:=by kernel_rfl
 a75:=λw=>by kernel_rfl
 z75:=λw=>by kernel_rfl
 v75:=λw=>by kernel_rfl
 i75:=by kernel_rfl
 t76:=by kernel_rfl
 a76:=λw=>by kernel_rfl
 z76:=λw=>by kernel_rfl
 v76:=λw=>by kernel_rfl
 i76:=by kernel_rfl
 t77:=by kernel_rfl
 a77:=λw=>by kernel_rfl
 z77:=λw=>by kernel_rfl
 v77:=λw=>by kernel_rfl
 i77:=by kernel_rfl
 t78:=by kernel_rfl
 a78:=λw=>by kernel_rfl
 z78:=λw=>by kernel_rfl
 v78:=λw=>by kernel_rfl
 i78:=by kernel_rfl
 t79:=by kernel_rfl
 a79:=λw=>by kernel_rfl
 z79:=λw=>by kernel_rfl
 v79:=λw=>by kernel_rfl
 i79:=by kernel_rfl
 t80:=by kernel_rfl
 a80:=λw=>by kernel_rfl
 z80:=λw=>by kernel_rfl
 v80:=λw=>by kernel_rfl
 i80:=by kernel_rfl
 t82:=by kernel_rfl
 a82:=λw=>by kernel_rfl
 z82:=λw=>by kernel_rfl
 v82:=λw=>by kernel_rfl
 i82:=by kernel_rfl
open Go.Sort Go.Lib
def svT:TypeInfo:=(Qbl.info? 82).get (by kernel_rfl)
def svE:TypeInfo:=(Qbl.info? 139).get (by kernel_rfl)
theorem svK (n:Nat)(h2:2<=n):Lib.swapperK n svE 25=9:=by
 have a:svE.hasPointers=false:=by kernel_rfl
 have b:svE.bytes=16:=by kernel_rfl
 have c:(n==0)=false:=by simp;omega
 have d:(n==1)=false:=by simp;omega
 simp[Lib.swapperK,a,b,c,d]
def cx(x:Keyed):List Value:=[.int .i64 x.Key,.int .i64 x.N]
theorem swoK:SWO ltK where
 irrefl:=λx=>by simp[ltK]
 trans:=λx y z h1 h2=>by simp[ltK]at *;omega
 ntrans:=λx y z h1 h2=>by simp[ltK]at *;omega
theorem Of (blk off c Bs size:Nat)(W:World)(G:Nat->Int)(hs:W.cell? ⟨Bs,1,none⟩=some (.slice (some ⟨blk,off,none⟩) size c))(hc:∀t,t<size->W.cell? ⟨blk,off+t*2,none⟩=some (.int .i64 (G t)))(i j:Nat)(hi:i<size)(hj:j<size)(_hsz:size<4611686018427387904):
  Calls Qbl 135 #[.int .i64 i,.int .i64 j,.pointer (some ⟨Bs,0,none⟩)] W λe w'=>e=.returned (.bool (decide (G i<G j)))/\∃q,w'=W.drewN q:=by
 have ci:=hc i hi
 have cj:=hc j hj
 go_enter Tryz.func135,Tryz.ntmps135
 go_wp2
 go_quiet (fail)
 go_wp2
 go_ret
 exact⟨J,nq,J⟩
section
variable {σ:U Value}{w:World}{F:Nat->Prop}
theorem Db:∀(xs:U Keyed) (flat:U Value),RelL σ w F (xs.map aH).flatten flat->flat=(xs.map cx).flatten
 |[],flat,h=>QK h.1
 | x::xs,flat,h=>by
  match flat,h with
  |[],h=>exact absurd h.1 (by simp[aH])
  |[a],h=>exact absurd h.1 (by simp[aH])
  |a::b::r,h=>
   have h1:Rel σ w F (.int .i64 x.Key) a:=h.2 0 _ a J J
   have h2:Rel σ w F (.int .i64 x.N) b:=h.2 1 _ b J J
   have h3:=Db xs r ⟨by have:=h.1;simp[aH]at this ⊢;omega,λj y v hy hv=>h.2 (j+2) y v (by simpa [aH]using hy) (by simpa using hv)⟩
   cases h1;cases h2
   rw[h3];rfl
theorem CW:∀(xs:U Keyed),RelL σ w F (xs.map aH).flatten (xs.map cx).flatten
 |[]=>.nil
 |x::xs=>.cons (.int _ _) (.cons (.int _ _) (CW xs))
theorem Ds:∀(xs:U Keyed) (t:Nat),t<xs.length*2->((xs.map cx).flatten)[t]?=some (cx xs[t/ 2]!)[t% 2]!
 |[],t,h=>by simp at h
 |x::xs,0,h=>rfl
 |x::xs,1,h=>rfl
 |x::xs,t+2,h=>by
  have h1:=Ds xs t (by simp at h;omega);have e1:(t+2)/ 2=t/ 2+1:=by omega
  have e2:(t+2)% 2=t% 2:=by omega
  rw[e1,e2];show((xs.map cx).flatten)[t]?=_;rw[h1];simp
theorem B3 (xs:U Keyed):(flatK cx 2 xs.toArray).toList=(xs.map cx).flatten:=by
 have hl:((xs.map cx).flatten).length=xs.length*2:=by
  induction xs with
  |nil=>rfl
  |cons x xs ih=>simp[cx]at ih ⊢;omega
 apply Rj;intro t;by_cases ht:t<xs.length*2
 .rw[Ds xs t ht];have h2:t<(flatK cx 2 xs.toArray).size:=by simpa using ht
  have h3:=get_flatK cx 2 xs.toArray t (by simpa using ht);rw[getElem!_pos _ t h2]at h3;rw[RG,RQ h2,h3];simp
 .rw[RH (by simp;omega),RH (by rw[hl];omega)]
theorem M5 (p0 r:U Keyed)(p1 p2:Int)(h:sortK p0=some r):FnX Qbl 134 [.ifc 82 (.ref 0),.func 135 [.ptr 1 0]] [.arr 139 2 (List.map aH p0),.box [.int .i64 p1,.ref 0,.int .i64 p2]] (.tup []) [.arr 139 2 (List.map aH r),.box [.int .i64 p1,.ref 0,.int .i64 p2]]:=by
 unfold sortK at h;refine⟨callable Tryz.func134 J (by kernel_rfl),λw F σ vs hs hr=>?_⟩;match vs,hr with
 | [v0, v1],hr=>
  have r0:Rel σ w F (.ifc 82 (.ref 0)) v0:=hr.2 0 _ v0 J J
  have r1:Rel σ w F (.func 135 [.ptr 1 0]) v1:=hr.2 1 _ v1 J J
  cases r0 with
  |ifc _ _ v r0=>
  cases r0 with
  |ref _ A q cp hσ0=>
  cases r1 with
  |func _ _ lb hl hc=>
  match lb,hl,hc with
  | [b0],hl,hc=>
   have rb:Rel σ w F (.ptr 1 0) b0:=hc 0 _ _ J J
   cases rb with
   |ptr _ _ gb hσ1=>
   obtain⟨gb',us,ty,e1,hgb,hbr,hb1,hFb⟩:=hs.obj 1 _ _ J hσ1
   cases e1
   obtain⟨hq,flat,hown,hfl,hcase⟩:=gM hs (id:=0) J hσ0
   rw[QV]at hq
   subst hq
   have grown:∀(W:World) (os:Array Obj) (b:Nat),b<W.heap.size->(Sort.grow W os).heap[b]?=W.heap[b]?:=λW os b hb=>by show(W.heap++os)[b]?=_;rw[Array.getElem?_append_left hb]
   split at h
   .rename_i h1
    cases h
    have tiny:∀(n:Nat),n<=1->Calls Qbl 134 #[.iface 82 (.slice A n cp),.func (.func 135) #[] #[.pointer (some ⟨gb,0,none⟩)]] w λe w'=>e=.returned (.tuple #[])/\∃os,w'=Sort.grow w os:=by
     intro n hn;match n,hn with
     |0,hn=>exact Any.sort_Slice_tiny sLay 82 139 svT svE (by kernel_rfl) (by kernel_rfl) (by kernel_rfl) (by kernel_rfl) 25 (λ_=>by kernel_rfl) A 0 cp hn 165 (by kernel_rfl) _ _ _ w
     |1,hn=>exact Any.sort_Slice_tiny sLay 82 139 svT svE (by kernel_rfl) (by kernel_rfl) (by kernel_rfl) (by kernel_rfl) 25 (λ_=>by kernel_rfl) A 1 cp hn 166 (by kernel_rfl) _ _ _ w
    refine(tiny p0.length h1).mono ?_
    rintro e w' ⟨rfl,os,rfl⟩
    exact⟨_,_,_,σ,F,J,⟨J,J⟩,hs.grow (λ_ h=>h) (λ_ h=>.inl h) (λb hb=>by have:=hs.lt b hb;rw[size_grow];omega) (grown w os),lR,.grow (λ_ h=>h) (λ_ h=>.inl h) J J drO (by rw[size_grow];omega) (grown w os)⟩
   .rename_i h1
    have h2:2<=p0.length:=by omega
    split at h
    .rename_i h12
     cases h
     rcases hcase with hcase|⟨ga,cur,rfl,hFa,hga,hnc,hcm,hsz,htk⟩
     .have:p0=[]:=Q6.1 hcase
      subst this;simp at h2
     .have hflat:=Db p0 flat hfl.2.2
      have hds:p0.toArray.size=p0.length:=by simp
      have hga':ga<w.heap.size:=(R1.1 hga).1
      have hgb':gb<w.heap.size:=(R1.1 hgb).1
      have hne:gb≠ga:=by rintro rfl;exact hs.sep 0 1 _ _ _ _ gb (by decide) J J J J hσ0 hσ1 J J
      have hcurn:p0.length*2<=cur.size:=by rw[hsz];exact QP _ hnc
      have hH:HoldsK cx 2 w ga 0 p0.toArray:=by
       intro j hj;have hj2:j<p0.length*2:=by simpa using hj
       refine⟨?_,by simp[World.frozen?,hga]⟩;have hc1:cur.toList[j]?=((p0.map cx).flatten)[j]?:=by rw[<- hflat,<- htk,Q3,if_pos hj2]
       rw[RF,cell_of_row w ga j cur 139 (0,0) hga,<- RG,hc1,<- B3,RG,RQ hj,getElem!_pos _ j hj];rfl
      have hbc:w.cell? ⟨gb,1,none⟩=some (.slice (some ⟨ga,0,none⟩) p0.length cp):=by
       obtain⟨u,hu,hru⟩:=hbr.get (j:=1) (a:=.ref 0) J;cases hru with
       |ref _ a1 n1 c1 hσ2=>
        rw[hσ0]at hσ2;cases hσ2;rw[cell_of_row w gb 1 us ty (0,0) hgb,<- RG];exact hu
      have hless:LessReadsK Qbl 135 #[.pointer (some ⟨gb,0,none⟩)] cx 2 ltK ga 0 p0.toArray.size w:=by
       intro m os dk hdk i j hi hj;have e:sortWorldK cx 2 w ga 0 m dk os=putRowK cx 2 (Sort.grow (Sort.ahead w m) os) ga 0 dk:=by unfold sortWorldK;rw[putRowK_grow _ _ (Sort.ahead w m) _ ga 0 _ hga']
       have hHg:HoldsK cx 2 (Sort.grow (Sort.ahead w m) os) ga 0 p0.toArray:=holdsK_grow _ _ _ _ ga 0 p0.toArray hga' (holdsK_ahead _ _ _ _ _ _ _ hH);refine Of ga 0 cp gb p0.toArray.size _ (λt=>dk[t]!.Key) ?_ (λt ht=>?_) i j hi hj (by omega)
       .rw[e,cell?_putRowK_other _ _ _ ga 0 dk _ (by show gb≠ga;exact hne),cell?_grow _ _ _ (by show gb<w.heap.size;exact hgb'),hds];exact hbc
       .rw[e];exact((holdsK_putRowK _ _ _ ga 0 p0.toArray dk hHg hdk).cell (i:=t) (c:=0) (by omega) (by omega)).1
      have hS:=Any.sort_Slice_small_cells sLay 82 139 svT svE (by kernel_rfl) (by kernel_rfl) (by kernel_rfl) (by kernel_rfl) 25 (λ_=>by kernel_rfl) cx 2 (λ_=>J) (by kernel_rfl) (λ_=>by kernel_rfl)
       (λx v hv=>by simp[cx]at hv;rcases hv with rfl|rfl<;>rfl) ltK 135 #[.pointer (some ⟨gb,0,none⟩)]
       (enters_of Tryz.func135 (by kernel_rfl) J) ga 0 cp p0.toArray (by rw[hds];exact h2) (by rw[hds];exact h12) 173 (by rw[svK _ (by rw[hds];exact h2)];kernel_rfl) false
       (λargs W=>run_callFunc_extern Tryz.func173 (by kernel_rfl) (by kernel_rfl) (by kernel_rfl) (e:=Extern.ReflectliteSwapper.swap false) (by kernel_rfl) args W) w hless hH hga'
      change Calls Qbl 134 _ _ _ at hS
      have hDs:(Sort.insertionSort ltK p0.toArray 0 p0.toArray.size).size=p0.length:=by have:=(insertionSort_holds swoK p0.toArray 0 p0.toArray.size (QY _) (QJ _)).1.1;rw[this];exact hds
      generalize hD:Sort.insertionSort ltK p0.toArray 0 p0.toArray.size=D at hS hDs
      rw[hds]at hS
      refine hS.mono ?_
      rintro e w' ⟨rfl,n,os,rfl⟩
      have hDl:(List.map aH D.toList).length=p0.length:=by rw[QV,R2 (xs:=D),hDs]
      have hFs:(flatK cx 2 D).size=p0.length*2:=by simp[hDs]
      have hFl:(flatK cx 2 D).toList=(D.toList.map cx).flatten:=by have:=B3 D.toList;rwa [Array.toArray_toList]at this
      have hW1:(putRowK cx 2 (Sort.ahead w n) ga 0 D).heap[ga]?=some (.cells (putCells id 0 (flatK cx 2 D) cur) 139 (0,0)):=by simp[putRowK,putRow,mapBlock,RP,Sort.ahead,hga,onCells]
      have hW1o:∀b,b≠ga->(putRowK cx 2 (Sort.ahead w n) ga 0 D).heap[b]?=w.heap[b]?:=λb hb=>by
       have:¬ga=b:=λe=>hb e.symm
       simp[putRowK,putRow,mapBlock,RP,Sort.ahead,this]
      have hW1s:(putRowK cx 2 (Sort.ahead w n) ga 0 D).heap.size=w.heap.size:=by simp[putRowK,Sort.ahead]
      have hORel:ORel σ (putRowK cx 2 (Sort.ahead w n) ga 0 D) F (.arr 139 2 (List.map aH D.toList)) (.slice (some ⟨ga,0,none⟩) p0.length cp):=by
       refine⟨(D.toList.map cx).flatten,⟨?_,.inr ⟨ga,cp,_,by rw[hDl],QY _,hW1,by rw[hDl];exact hnc,hcm,by simp[putCells,hsz],?_⟩⟩,⟨λrow hr=>?_,λu hu=>?_,CW _⟩,λg2 hg2=>?_,_,_,_,J⟩
       .rw[<- hFl,R2 (xs:=flatK cx 2 D),hFs,hDl]
       .rw[<- hFl,hDl];apply Rj;intro k;rw[Q3];by_cases hk:k<p0.length*2
        .rw[if_pos hk,RG,RG];simp only[putCells,Array.getElem?_mapIdx];rw[RQ (show k<cur.size by omega),Ra,if_pos ⟨QY _,by omega⟩,RQ (show k<(flatK cx 2 D).size by omega),Sr,getElem!_pos _ k (by omega)];rfl
        .rw[if_neg hk,RH (by rw[R2,hFs];omega)]
       .obtain⟨a,_,rfl⟩:=Rs.1 hr;rfl
       .obtain⟨row,hrow,hu⟩:=List.mem_flatten.1 hu;obtain⟨a,_,rfl⟩:=Rs.1 hrow;simp[cx]at hu;rcases hu with rfl|rfl<;>rfl
       .simp[Value.ownBlock]at hg2;subst hg2;exact hFa
      have s1:=hs.write (b0:=ga) 0 J J hσ0 J hW1o hW1s (.arr 139 2 (List.map aH D.toList)) hORel (λ_ h=>h)
      have m1:Mv [.arr 139 2 (List.map aH p0),.box [.int .i64 p1,.ref 0,.int .i64 p2]] σ w F ([.arr 139 2 (List.map aH p0),.box [.int .i64 p1,.ref 0,.int .i64 p2]].set 0 (.arr 139 2 (List.map aH D.toList))) σ (putRowK cx 2 (Sort.ahead w n) ga 0 D) F:=Mv.write (aw:=[.arr 139 2 (List.map aH p0),.box [.int .i64 p1,.ref 0,.int .i64 p2]]) (w:=w) (w':=putRowK cx 2 (Sort.ahead w n) ga 0 D) (F:=F) (b0:=ga) (o:=.arr 139 2 (List.map aH p0)) 0 J J hσ0 J J J ⟨J,Nat.le_add_right _ _⟩ hW1o hW1s (.arr 139 2 (List.map aH D.toList)) (λ_ h=>h)
      exact⟨_,_,_,σ,F,J,⟨J,J⟩,s1.grow (λ_ h=>h) (λ_ h=>.inl h) (λb hb=>by have:=s1.lt b hb;rw[size_grow];omega) (grown _ os),lR,m1.trans (.grow (λ_ h=>h) (λ_ h=>.inl h) J J drO (by rw[size_grow];omega) (grown _ os))⟩
    .cases h
end
end
end Go.Proofs.YtnlmagdmmjkklaaGreat
