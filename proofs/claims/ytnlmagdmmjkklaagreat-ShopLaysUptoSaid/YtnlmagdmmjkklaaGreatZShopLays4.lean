/-
  Part 4 of the proof of shopLaysLaw.proved: the code computes these functions, and the law holds of them, with no condition beyond the statement's own; put together by a program of ours (wip/decl.py) out of texts of ours.
-/
import Derived.Recover
import Derived.Shelf.Strings.Builder1
import Derived.Lib.Builder
import Derived.Laws.Externs
import Derived.Deep.QuietTactic
import Derived.Sort.LotA
import Derived.Sort.Row
import Derived.Tactics
import Derived.Tactics2
import Derived.ProofKit
import Derived.OpenShut
import Derived.JoinedCond
import Derived.Deep.Slices
import Derived.Carry
import Derived.IntWalk
import Derived.Test.YtnlmagdmmjkklaaGreatZShopLays3
set_option linter.unusedVariables false
set_option linter.unusedSimpArgs false
namespace Go.Proofs.YtnlmagdmmjkklaaGreat
section
open Go.RowKit
set_option maxRecDepth 100000
set_option maxHeartbeats 4000000
set_option synthInstance.maxSize 100000
set_option synthInstance.maxHeartbeats 4000000
theorem C7 {p0:Net} {p1:List (List Item)} {p2:Move} {p3:List Int} {p4:List (List Item)} {p5:List Memory} {p6:List Choice} {p7:List Item} {r:(List Int) × (List (List Item)) × (List Memory) × (List Choice) × (List Item)} (h:mC p0 p1 p2 p3 p4 p5 p6 p7=some r):FnX Tryz.prog 125 [.agg (aM p0),sL (aj aa) p1,.ptr 0 0,.agg (bq p2)] [.box [.ref 1,.ref 2,.ref 3,.ref 4,.ref 5],aR 3 1 ai p3,aR 30 1 (aj aa) p4,aR 84 3 aB p5,aR 50 2 aA p6,aR 75 3 aa p7] (.tup []) [.box [.ref 1,.ref 2,.ref 3,.ref 6,.ref 7],aR 3 1 ai r.1,aR 30 1 (aj aa) r.2.1,aR 84 3 aB r.2.2.1,.dead,.dead,aR 50 2 aA r.2.2.2.1,aR 75 3 aa r.2.2.2.2]:=by
 unfold mC at h;refine fT 6 0 Tryz.func125 Tryz.ntmps125 rfl ?_;refine mO 0 4 5 6 (mO 0 3 4 7 (B h fun x2 hx2 h=>(X 11 8 (sQ (aE Ty.s22 (fun _=>rfl) rfl rfl hx2 (B h fun x4 hx4 h=>(Y 5 10 (T.drawn mixed (k:=13) rfl ?_))))))));apply RA.jn 2 (bm 13 2047);intro hS1
 ·refine rq [1,2,3] 10 (rL [0,6,7,8,9,11,12] 0 rfl (rL [4,6,7,8,9,11,12] 4 rfl (rL [5,6,7,8,9,11,12] 5 rfl (ra2 6 10 ?_ ?_))))
  ·exact oO rfl (cF (tp hx4) ⟨rfl,(rq [7,8,9] 3 (ra1 10 (og 11 ⟨rfl,(raE hS1)⟩)))⟩)
  ·exact og 11 ⟨rfl,(ra1 6 (oO rfl (cF (tp hx4) ⟨rfl,(rq [7,8,9] 2 (raT hS1))⟩)))⟩
 refine ra1 11 (og 12 ⟨rfl,(rq [12] 0 (RA.done (by decide +kernel) (jn (Z:=(List Int) × (List (List Item))) (fun fc=>mkA 162 [(2,.ptr 0 0),(4,.ptr 6 0),(7,.ptr 7 0),(8,.ptr 8 0),(9,.ptr 9 0)]) (fun fc=>[.box [.ref 1,.ref 2,.ref 3,.ref 10,.ref 11],aR 3 1 ai fc.1,aR 30 1 (aj aa) fc.2,aR 84 3 aB p5,.dead,.dead,.box (aM p0),.box (bq p2),.box (au x2),.box (aa x4.1),aR 50 2 aA p6,aR 75 3 aa p7]) (fun fc=>kC p0 p2 x2 x4 p5 p6 p7 fc.1 fc.2=some r) (fun fc h=>?_) (fun hK4=>?_))))⟩)
 ·obtain ⟨z16,z17⟩:=fc;replace h:kC p0 p2 x2 x4 p5 p6 p7 z16 z17=some r:=h;try dsimp only
  unfold kC at h;refine B h fun x19 dj h=>(X 4 12 (sO (cD (wH dj) ⟨rfl,(Y 2 12 (jn (Z:=Int × (List Choice)) (fun kj=>mkA 162 [(2,.ptr 0 0),(4,.ptr 6 0),(7,.ptr 7 0),(8,.ptr 8 0),(9,.ptr 9 0),(11,sL ai x19)]) (fun kj=>[.box [.ref 1,.ref 2,.ref 3,.ref 10,.ref 11],aR 3 1 ai z16,aR 30 1 (aj aa) z17,aR 84 3 aB p5,.dead,.dead,.box (aM p0),.box (bq p2),.box (au x2),.box [iI x4.1.Key,iI x4.1.Val,iI kj.1],aR 50 2 aA kj.2,aR 75 3 aa p7]) (fun kj=>ky p0 p2 x2 x4 p5 p7 z16 z17 x19 kj.1 kj.2=some r) (fun kj h=>?_) (fun hK3=>?_)))⟩)))
  ·obtain ⟨z22,z23⟩:=kj;replace h:ky p0 p2 x2 x4 p5 p7 z16 z17 x19 z22 z23=some r:=h;try dsimp only
   unfold ky at h;refine B h fun x29 Kl h=>(B h fun x30 fJ h=>(B h fun x31 lW h=>(B h fun x32 lX h=>(B h fun x33 Km h=>(X 1 12 (T.drawn mixed (k:=27) rfl ?_))))))
   apply RA.jn 2 (bm 27 33554431);intro ip;apply RA.jn 4 (bm 27 16777183);intro fu;apply RA.jn 8 (bm 27 524287);intro n6;apply RA.jn 9 (bm 27 524255);intro lY;apply RA.jn 9 (bm 27 524279);intro qD;apply RA.jn 9 (bm 27 393215);intro qE
   ·refine rq [0,1,2,4,6,8,10,11,12,14] 17 (rL [7,19,20,21,22,23,24,25,26] 7 rfl (rL [9,19,20,21,22,23,24,25,26] 9 rfl (rL [13,16,17,19,20,21,22,23,24,25,26] 13 rfl (rL [15,16,17,19,20,21,22,23,24,25,26] 15 rfl (r0 16 rfl (aN (en:=aB) Ty.s28 rfl rfl rfl Kl (rL [18,19,20,21,22,23,24,25,26] 18 rfl (ra3 3 5 17 ?_ ?_ ?_))))))))
    ·refine og 12 ⟨rfl,(ra2 5 17 ?_ ?_)⟩
     ·exact og 12 ⟨rfl,(raE qE)⟩
     ·exact oO rfl (aV (en:=aB) (a:=x30) rfl rfl fJ (gY Ty.k84 Ty.c84 rfl (cs:=(aB x30)) rfl (raE lY)))
    ·refine og 12 ⟨rfl,(ra2 3 17 ?_ ?_)⟩
     ·exact og 12 ⟨rfl,(raT qE)⟩
     ·exact oO rfl (aV (en:=aB) (a:=x30) rfl rfl fJ (gY Ty.k84 Ty.c84 rfl (cs:=(aB x30)) rfl (raE qD)))
    ·refine oO rfl (aV (en:=aB) (a:=x30) rfl rfl fJ (gY Ty.k84 Ty.c84 rfl (cs:=(aB x30)) rfl (ra3 3 5 19 ?_ ?_ ?_)))
     ·exact og 12 ⟨rfl,(raT lY)⟩
     ·exact og 12 ⟨rfl,(raT qD)⟩
     ·exact oO rfl (cD (jB lW) ⟨rfl,(rq [20,21,22,23] 5 (rL [3,24,25,26] 3 rfl (raE fu)))⟩)
   ·exact ra1 17 (oO rfl (aV (en:=aB) (a:=x30) rfl rfl fJ (gY Ty.k84 Ty.c84 rfl (cs:=(aB x30)) rfl (raE n6))))
   ·refine ra2 3 19 ?_ ?_
    ·exact og 12 ⟨rfl,(raT n6)⟩
    ·exact oO rfl (cD (jB lW) ⟨rfl,(rq [20,21,22,23] 4 (ra1 3 (og 12 ⟨rfl,(r0 24 rfl (aN (en:=aB) Ty.s28 rfl rfl rfl lX (raE ip)))⟩)))⟩)
   ·refine ra2 5 19 ?_ ?_
    ·exact og 12 ⟨rfl,(raT n6)⟩
    ·exact oO rfl (cD (jB lW) ⟨rfl,(rq [20,21,22,23] 4 (raT fu))⟩)
   ·exact ra1 19 (oO rfl (cD (jB lW) ⟨rfl,(rq [20,21,22,23] 3 (r0 24 rfl (aN (en:=aB) Ty.s28 rfl rfl rfl lX (raT ip))))⟩))
   ·exact ra1 5 (og 12 ⟨rfl,(r0 24 rfl (aN (en:=aB) Ty.s28 rfl rfl rfl lX (raT ip)))⟩)
   refine ra1 25 (oO rfl (eD (en:=aB) (a:=x33) (a':=x31.1) Ty.c84 Ty.i84 rfl (vs:=[iI x31.1.Sum,sL aL x31.1.Keys,iI x31.1.Dep]) rfl rfl rfl Km rfl rfl rfl (ra1 26 (og 12 ⟨rfl,(RA.done (by decide +kernel) (jn (Z:=List Item) (fun fH=>mkA 162 [(2,.ptr 0 0),(4,.ptr 6 0),(9,.ptr 7 0),(11,sL ai x19)]) (fun fH=>[.box [.ref 1,.ref 2,.ref 3,.ref 8,.ref 9],aR 3 1 ai z16,aR 30 1 (aj aa) z17,aR 84 3 aB (List.set p5 x32 x31.1),.dead,.dead,.box (aM p0),.box (aa x31.2.1),aR 50 2 aA z23,aR 75 3 aa fH]) (fun fH=>mu p0 p5 z16 z17 x19 z23 x31 x32 fH=some r) (fun fH h=>?_) (fun hK2=>?_)))⟩))))
   ·revert h;revert fH;intro z35 h;replace h:mu p0 p5 z16 z17 x19 z23 x31 x32 z35=some r:=h;try dsimp only
    unfold mu at h;refine X 3 10 (sQ (al Ty.s27 rfl (Y 3 10 (itr (fun kf:Int × (List (List Item))=>mkA 162 [(2,.ptr 0 0),(4,.ptr 6 0),(9,.ptr 7 0),(135,sL ai x19),(136,iI ((x19).length:Int)),(137,iI kf.1)]) (fun kf=>[.box [.ref 1,.ref 2,.ref 3,.ref 8,.ref 9],aR 3 1 ai z16,aR 30 1 (aj aa) kf.2,aR 84 3 aB (List.set p5 x32 x31.1),.dead,.dead,.box (aM p0),.box (aa x31.2.1),aR 50 2 aA z23,aR 75 3 aa z35]) h (wk [] [0,1,2,3,4,5,6,7,8,9] 10 rfl) (fun kf v_39 h J8=>?_)))));obtain ⟨s36,s37⟩:=kf;replace h:jq p0 p5 z16 x19 z23 x31 x32 z35 s36 s37=some v_39:=h;try dsimp only
    unfold jq at h;refine X 5 10 (T.ci h rfl (fun lT h=>?_) (fun lT h=>?_))
    ·refine B h fun x39 vu h=>(X 5 10 (sQ (aE Ty.s27 (fun _=>rfl) rfl rfl vu (B h fun x40 vv h=>(B h fun x41 nY h=>(B h fun x42 sH h=>(B h fun x43 l5 h=>(B h fun x44 qG h=>(Y 3 10 (T.drawn mixed (k:=21) rfl ?_))))))))))
     apply RA.jn 1 (bm 21 1048575);intro qH;apply RA.jn 6 (bm 21 32767);intro jd
     ·refine rq [0,1,2,4,5,6,7,9,12] 12 (rL [8,10,11,15,16,17,18,19,20] 8 rfl (r0 10 rfl (aN (en:=(aj aa)) Ty.s25 rfl rfl rfl vv (rL [13,15,16,17,18,19,20] 13 rfl (rL [14,15,16,17,18,19,20] 14 rfl (ra2 3 11 ?_ ?_))))))
      ·exact og 10 ⟨rfl,(ra1 11 (oO rfl (aV (en:=(aj aa)) (a:=x41) rfl rfl nY (aH Ty.k30 (c:=sL aa x41) rfl (raE jd)))))⟩
      ·refine oO rfl (aV (en:=(aj aa)) (a:=x41) rfl rfl nY (aH Ty.k30 (c:=sL aa x41) rfl (ra2 3 15 ?_ ?_)))
       ·exact og 10 ⟨rfl,(raT jd)⟩
       ·exact oO rfl (cO 10 (xx sH) ⟨rfl,(rq [16,17,18] 3 (ra1 3 (og 11 ⟨rfl,(r0 19 rfl (aN (en:=(aj aa)) Ty.s25 rfl rfl rfl l5 (raE qH)))⟩)))⟩)
     ·exact ra1 15 (oO rfl (cO 10 (xx sH) ⟨rfl,(rq [16,17,18] 2 (r0 19 rfl (aN (en:=(aj aa)) Ty.s25 rfl rfl rfl l5 (raT qH))))⟩))
     exact ra1 20 (RO.fC 10 (oO rfl (eD (en:=(aj aa)) (a:=x44) (a':=x42.1) Ty.c30 Ty.i30 rfl (vs:=[sL aa x42.1]) rfl rfl rfl qG rfl rfl rfl (RA.done (by decide +kernel) (X 4 11 (lk h (wk [] [0,1,2,3,4,5,6,7,8,9] 11 rfl)))))))
    refine X 1 10 ?_;replace h:=mi h J8;cases h;exact eN [0,1,2,3,4,5,8,9]
   refine X 7 12 (T.ci h rfl (fun uY h=>?_) (fun uY h=>?_))
   ·refine B h fun x34 qr h=>(T.drawn mixed (k:=11) rfl (rq [0,1,2,3] 7 (rL [4,7,8,9,10] 4 rfl (ra1 5 (og 12 ⟨rfl,(ra1 6 (oO rfl (bl (rows:=List.map aa [x31.2.1]) (vs:=[.agg (aa x31.2.1)]) Ty.s30 Ty.z75 rfl rfl rfl rfl rfl rfl (ra1 7 (oO rfl (b6 (en:=aa) (xs:=p7) (ys:=([x31.2.1]:List Item)) Ty.s30 (fun _=>rfl) rfl rfl rfl qr rfl rfl ?_))))))⟩)))))
    exact rq [8,9] 1 (ra1 10 (og 14 ⟨rfl,(RA.done (by decide +kernel) (wu (hK2 x34 h) [] [0,1,2,3,4,5,6,9,10,13] 14 rfl))⟩))
   exact X 1 12 (wu (hK2 p7 h) [] [0,1,2,3,4,5,6,9,10,11] 12 rfl)
  refine X 7 12 (T.ci h rfl (fun ql h=>?_) (fun ql h=>?_))
  ·refine B h fun x21 l6 h=>(X 1 12 (T.drawn mixed (k:=15) rfl (rq [0,1,2,3,5,7] 9 (rL [4,11,12,13,14] 4 rfl (rL [6,9,10,11,12,13,14] 6 rfl (ra1 8 (og 12 ⟨rfl,(rq [9] 5 (ra1 10 ?_))⟩)))))))
   refine oO rfl (bl (rows:=List.map aA [(⟨p2.Node,p2.Lane⟩:Choice)]) (vs:=[.agg (bq p2)]) Ty.s29 Ty.z50 rfl rfl rfl rfl rfl rfl (ra1 11 (oO rfl (b6 (en:=aA) (xs:=p6) (ys:=([(⟨p2.Node,p2.Lane⟩:Choice)]:List Choice)) Ty.s29 (fun _=>rfl) rfl rfl rfl l6 rfl rfl (rq [12,13] 1 (ra1 14 (og 14 ⟨rfl,(RA.done (by decide +kernel) (X 5 14 (sQ (dk (en:=aA) Ty.s29 rfl rfl (Y 3 14 ?_)))))⟩)))))));exact wu (hK3 (((x21).length:Int),x21) h) [] [0,1,2,3,4,5,6,7,8,9,13,11] 14 rfl
  exact X 1 12 (sx (hK3 (x4.1.Dep,p6) h))
 refine X 7 12 (T.ci h rfl (fun uV h=>?_) (fun uV h=>?_))
 ·refine B h fun x5 hx5 h=>(B h fun x6 hx6 h=>(B h fun x7 hx7 h=>(B h fun x8 hx8 h=>(T.drawn mixed (k:=11) rfl (rq [0,1,2,4] 7 (rL [3,6,7,8,9,10] 3 rfl (ra1 5 (og 12 ⟨rfl,(r0 6 rfl (aN (en:=ai) Ty.s27 rfl rfl rfl hx5 ?_))⟩))))))))
  exact ra1 7 (oO rfl (aV (en:=ai) (a:=x6) rfl rfl hx6 (aH Ty.k3 (c:=iI x6) rfl (rq [8] 2 (r0 9 rfl (aN (en:=ai) Ty.s27 rfl rfl rfl hx7 (ra1 10 (oO rfl (eD (en:=ai) (a:=x8) (a':=IntKind.i64.wrap (x6+1)) Ty.c3 Ty.i3 rfl (vs:=[iI (IntKind.i64.wrap (x6+1))]) rfl rfl rfl hx8 rfl rfl rfl (RA.done (by decide +kernel) (wu (hK4 ((List.set p3 x7 (IntKind.i64.wrap (x6+1))),p4) h) [] [0,1,2,3,4,5,8,9,10,11,7,6] 12 rfl)))))))))))
 refine B h fun x9 hx9 h=>(B h fun x10 bd h=>(B h fun x11 bE h=>(B h fun x12 bt h=>(B h fun x13 dC h=>(B h fun x14 cT h=>(B h fun x15 dU h=>(T.drawn mixed (k:=29) rfl ?_)))))))
 apply RA.jn 1 (bm 29 268435455);intro vA;apply RA.jn 3 (bm 29 134217215);intro sR;apply RA.jn 5 (bm 29 134216831);intro lZ;apply RA.jn 5 (bm 29 134216927);intro BT;apply RA.jn 7 (bm 29 4194303);intro n7;apply RA.jn 8 (bm 29 4193791);intro sS;apply RA.jn 8 (bm 29 4194295);intro BU;apply RA.jn 8 (bm 29 2097151);intro BV;apply RA.jn 9 (bm 29 4193783);intro vB;apply RA.jn 9 (bm 29 2096639);intro vC;apply RA.jn 10 (bm 29 4193503);intro vE;apply RA.jn 10 (bm 29 4193407);intro vF;apply RA.jn 10 (bm 29 2096631);intro BW;apply RA.jn 11 (bm 29 4193375);intro BX;apply RA.jn 11 (bm 29 4193399);intro BY;apply RA.jn 11 (bm 29 4193495);intro BZ;apply RA.jn 11 (bm 29 2096351);intro B0;apply RA.jn 11 (bm 29 2096255);intro B2
 ·refine rq [0,1,2,4,6,10,11,12,14,16] 19 (rL [13,20,21,22,23,24,25,26,27,28] 13 rfl (rL [15,18,19,20,21,22,23,24,25,26,27,28] 15 rfl (rL [17,18,19,20,21,22,23,24,25,26,27,28] 17 rfl (r0 18 rfl (aE Ty.s27 (fun _=>rfl) rfl rfl bd (rL [19,20,21,22,23,24,25,26,27,28] 19 rfl (r0 20 rfl (aN (en:=(aj aa)) Ty.s25 rfl rfl rfl bE (ra4 3 5 7 21 ?_ ?_ ?_ ?_)))))))))
  ·refine og 12 ⟨rfl,(ra3 5 7 21 ?_ ?_ ?_)⟩
   ·exact og 12 ⟨rfl,(raE B2)⟩
   ·exact og 12 ⟨rfl,(raE B0)⟩
   ·exact oO rfl (aV (en:=(aj aa)) (a:=x12) rfl rfl bt (aH Ty.k30 (c:=sL aa x12) rfl (raE BX)))
  ·refine og 12 ⟨rfl,(ra3 3 7 21 ?_ ?_ ?_)⟩
   ·exact og 12 ⟨rfl,(raT B2)⟩
   ·exact og 12 ⟨rfl,(r0 8 rfl (aE Ty.s27 (fun _=>rfl) rfl rfl hx9 (raE BW)))⟩
   ·exact oO rfl (aV (en:=(aj aa)) (a:=x12) rfl rfl bt (aH Ty.k30 (c:=sL aa x12) rfl (raE BY)))
  ·refine og 12 ⟨rfl,(ra3 3 5 21 ?_ ?_ ?_)⟩
   ·exact og 12 ⟨rfl,(raT B0)⟩
   ·exact og 12 ⟨rfl,(r0 8 rfl (aE Ty.s27 (fun _=>rfl) rfl rfl hx9 (raT BW)))⟩
   ·exact oO rfl (aV (en:=(aj aa)) (a:=x12) rfl rfl bt (aH Ty.k30 (c:=sL aa x12) rfl (raE BZ)))
  ·refine oO rfl (aV (en:=(aj aa)) (a:=x12) rfl rfl bt (aH Ty.k30 (c:=sL aa x12) rfl (ra4 3 5 7 22 ?_ ?_ ?_ ?_)))
   ·exact og 12 ⟨rfl,(raT BX)⟩
   ·exact og 12 ⟨rfl,(raT BY)⟩
   ·exact og 12 ⟨rfl,(raT BZ)⟩
   ·exact oO rfl (cO 12 (gR dC) ⟨rfl,(rq [23,24,25,26] 7 (rL [3,27,28] 3 rfl (rL [5,8,9,27,28] 5 rfl (raE lZ))))⟩)
 ·refine ra2 7 21 ?_ ?_
  ·exact og 12 ⟨rfl,(r0 8 rfl (aE Ty.s27 (fun _=>rfl) rfl rfl hx9 (raE vC)))⟩
  ·exact oO rfl (aV (en:=(aj aa)) (a:=x12) rfl rfl bt (aH Ty.k30 (c:=sL aa x12) rfl (raE vF)))
 ·refine ra2 5 21 ?_ ?_
  ·exact og 12 ⟨rfl,(r0 8 rfl (aE Ty.s27 (fun _=>rfl) rfl rfl hx9 (raT vC)))⟩
  ·exact oO rfl (aV (en:=(aj aa)) (a:=x12) rfl rfl bt (aH Ty.k30 (c:=sL aa x12) rfl (raE vE)))
 ·refine ra3 3 5 22 ?_ ?_ ?_
  ·exact og 12 ⟨rfl,(raT vE)⟩
  ·exact og 12 ⟨rfl,(r0 8 rfl (aE Ty.s27 (fun _=>rfl) rfl rfl hx9 (raE vB)))⟩
  ·exact oO rfl (cO 12 (gR dC) ⟨rfl,(rq [23,24,25,26] 6 (rL [3,27,28] 3 rfl (raE BT)))⟩)
 ·refine ra3 3 7 22 ?_ ?_ ?_
  ·exact og 12 ⟨rfl,(raT vF)⟩
  ·exact og 12 ⟨rfl,(r0 8 rfl (aE Ty.s27 (fun _=>rfl) rfl rfl hx9 (raT vB)))⟩
  ·exact oO rfl (cO 12 (gR dC) ⟨rfl,(rq [23,24,25,26] 6 (rL [3,27,28] 3 rfl (raT lZ)))⟩)
 ·refine ra3 5 7 22 ?_ ?_ ?_
  ·exact og 12 ⟨rfl,(raT vF)⟩
  ·exact og 12 ⟨rfl,(raT vE)⟩
  ·exact oO rfl (cO 12 (gR dC) ⟨rfl,(rq [23,24,25,26] 6 (rL [5,8,9,27,28] 5 rfl (raT lZ)))⟩)
 ·refine ra3 3 9 21 ?_ ?_ ?_
  ·exact og 12 ⟨rfl,(raT vC)⟩
  ·refine og 12 ⟨rfl,(ra2 3 21 ?_ ?_)⟩
   ·exact og 12 ⟨rfl,(raE BV)⟩
   ·exact oO rfl (aV (en:=(aj aa)) (a:=x12) rfl rfl bt (aH Ty.k30 (c:=sL aa x12) rfl (raE BU)))
  ·exact oO rfl (aV (en:=(aj aa)) (a:=x12) rfl rfl bt (aH Ty.k30 (c:=sL aa x12) rfl (raT vB)))
 ·refine ra2 7 22 ?_ ?_
  ·exact og 12 ⟨rfl,(r0 8 rfl (aE Ty.s27 (fun _=>rfl) rfl rfl hx9 (raE sS)))⟩
  ·exact oO rfl (cO 12 (gR dC) ⟨rfl,(rq [23,24,25,26] 5 (raT lZ))⟩)
 ·refine ra2 5 22 ?_ ?_
  ·exact og 12 ⟨rfl,(r0 8 rfl (aE Ty.s27 (fun _=>rfl) rfl rfl hx9 (raT sS)))⟩
  ·exact oO rfl (cO 12 (gR dC) ⟨rfl,(rq [23,24,25,26] 5 (raT BT))⟩)
 ·refine ra2 9 21 ?_ ?_
  ·exact og 12 ⟨rfl,(raT BV)⟩
  ·exact oO rfl (aV (en:=(aj aa)) (a:=x12) rfl rfl bt (aH Ty.k30 (c:=sL aa x12) rfl (raT sS)))
 ·refine ra3 3 9 22 ?_ ?_ ?_
  ·exact og 12 ⟨rfl,(raT sS)⟩
  ·exact og 12 ⟨rfl,(raT BU)⟩
  ·exact oO rfl (cO 12 (gR dC) ⟨rfl,(rq [23,24,25,26] 4 (rL [3,27,28] 3 rfl (raE sR)))⟩)
 ·exact ra1 21 (oO rfl (aV (en:=(aj aa)) (a:=x12) rfl rfl bt (aH Ty.k30 (c:=sL aa x12) rfl (raE n7))))
 ·refine ra2 3 22 ?_ ?_
  ·exact og 12 ⟨rfl,(raT n7)⟩
  ·exact oO rfl (cO 12 (gR dC) ⟨rfl,(rq [23,24,25,26] 3 (ra1 3 (og 13 ⟨rfl,(r0 27 rfl (aN (en:=(aj aa)) Ty.s25 rfl rfl rfl cT (raE vA)))⟩)))⟩)
 ·refine ra2 9 22 ?_ ?_
  ·exact og 12 ⟨rfl,(raT n7)⟩
  ·exact oO rfl (cO 12 (gR dC) ⟨rfl,(rq [23,24,25,26] 3 (raT sR))⟩)
 ·exact ra1 22 (oO rfl (cO 12 (gR dC) ⟨rfl,(rq [23,24,25,26] 2 (r0 27 rfl (aN (en:=(aj aa)) Ty.s25 rfl rfl rfl cT (raT vA))))⟩))
 ·exact ra1 5 (og 13 ⟨rfl,(r0 8 rfl (aE Ty.s27 (fun _=>rfl) rfl rfl hx9 (raT sR)))⟩)
 ·exact ra1 7 (og 13 ⟨rfl,(r0 8 rfl (aE Ty.s27 (fun _=>rfl) rfl rfl hx9 (raT sR)))⟩)
 ·exact ra1 9 (og 13 ⟨rfl,(r0 27 rfl (aN (en:=(aj aa)) Ty.s25 rfl rfl rfl cT (raT vA)))⟩)
 exact ra1 28 (RO.fC 12 (oO rfl (eD (en:=(aj aa)) (a:=x15) (a':=x13.2.1) Ty.c30 Ty.i30 rfl (vs:=[sL aa x13.2.1]) rfl rfl rfl dU rfl rfl rfl (RA.done (by decide +kernel) (wu (hK4 (p3,(List.set p4 x14 x13.2.1)) h) [] [0,1,2,3,4,5,8,9,10,11,7,6] 13 rfl)))))
theorem yc {p0:Net} {p1:List (List Item)} {p2:State} {p3:Move} {r:State × Int} (h:iS p0 p1 p2 p3=some r):Fn Tryz.prog 71 [.agg (aM p0),sL (aj aa) p1,.agg (bC p2),.agg (bq p3)] (.tup [.agg (bC r.1),iI r.2]):=by
 unfold iS at h;refine fT 0 0 Tryz.func71 Tryz.ntmps71 rfl ?_;refine B h fun x2 hx2 h=>(X 14 0 (sO (cF (ra hx2) ⟨rfl,(Y 7 4 (T.ci h rfl (fun ae h=>?_) (fun ae h=>?_)))⟩)))
 ·refine X 7 4 ?_;cases h;exact tD
 refine X 2 4 ?_;obtain ⟨vG,hz,h⟩:=bind_some h;revert hz h;revert vG;intro c5 hz h;refine j1 [(1,sL (aj aa) p1),(4,.ptr 0 0),(6,.ptr 1 0),(7,.ptr 2 0),(8,.ptr 3 0),(62,.bool c5)] [.box (aM p0),.box (bC p2),.box (bq p3),.box [.nils,.nils,.nils,.nils,.nils]] ?_ (fun hK=>?_)
 ·refine T.ci h rfl (fun bx h=>?_) (fun bx h=>?_)
  ·refine X 6 4 ?_;cases h;exact tD
  refine B h fun x7 hx7 h=>(X 8 4 (sO (cF (xu hx7) ⟨rfl,(Y 2 4 (T.ci h rfl (fun cw h=>?_) (fun cw h=>?_)))⟩)))
  ·refine X 6 4 ?_;cases h;exact tD
  refine B h fun x9 hx9 h=>(X 4 4 (sO (cG [] 4 5 (FnX.of_fnO (wL hx9)) ⟨rfl,(B h fun x11 bE h=>(Y 7 9 (sO (cG [1,4,5,6,7,8] 9 8 (C7 bE) ⟨rfl,(Y 7 11 ?_)⟩))))⟩)))
  cases h;exact tD
 refine X 1 4 ?_;rcases bn (decide (p3.Node<0)) with ab | ab
 ·replace hz:=bT hz ab;refine T.drawn mixed (k:=44) rfl (rq [0] 43 (ra1 1 (og 4 ⟨rfl,(rq [2,3] 40 (r2 4 rfl ab (r2 5 rfl ab (r2 6 rfl ab (r2 7 rfl ab (r2 8 rfl ab ?_))))))⟩)));refine r2 9 rfl ab (r0 10 rfl (bg (v:=.bool true) rfl ab rfl (rq [11] 32 (r2 12 rfl rfl (r2 13 rfl rfl (r2 14 rfl rfl (r0 15 rfl (bg (v:=.bool true) rfl rfl rfl (rq [16] 27 (r2 17 rfl rfl (r2 18 rfl rfl ?_)))))))))));refine r2 19 rfl rfl (r2 20 rfl rfl (r3 21 rfl (r3 22 rfl (r3 23 rfl (r3 24 rfl (r3 25 rfl (r3 26 rfl (r3 27 rfl (r3 28 rfl ?_)))))))));refine r3 29 rfl (r3 30 rfl (r3 31 rfl (r3 32 rfl (r3 33 rfl (r3 34 rfl (r3 35 rfl (r3 36 rfl (r3 37 rfl (r3 38 rfl ?_)))))))));exact r3 39 rfl (r3 40 rfl (r3 41 rfl (r2 42 rfl rfl (r0 43 rfl (bg (v:=.bool true) rfl rfl rfl (RA.done (by decide +kernel) (T.sub hK ⟨rfl,rfl,rfl,rfl,rfl,(congrArg AV.bool ((congrArg (fun p=>p) (Ky hz)).symm)).symm,tqz⟩)))))))
 replace hz:=bS hz ab;rcases bn (decide (p3.Node >= ((p0.Nodes).length:Int))) with ao | ao
 ·replace hz:=bT hz ao;refine T.drawn mixed (k:=44) rfl ?_;apply RA.jn 0 (bm 44 17592186044415);intro cZ
  ·refine rq [0] 43 (ra1 1 (og 4 ⟨rfl,(rq [2,3] 40 (ry 4 ab rfl (ry 6 ab rfl (ra2 5 7 ?_ ?_))))⟩))
   ·refine oy 4 ab rfl (ra1 7 (oy 4 ab rfl (r1 8 rfl ab (al Ty.s22 rfl (ry 9 ab rfl (r0 10 rfl (aY (v:=.bool (decide (p3.Node >= ((p0.Nodes).length:Int)))) rfl ab rfl (rq [11] 32 (r2 12 rfl ao (r2 13 rfl ao (r2 14 rfl ao ?_)))))))))));refine r0 15 rfl (bg (v:=.bool true) rfl ao rfl (rq [16] 27 (r2 17 rfl rfl (r2 18 rfl rfl (r2 19 rfl rfl (r2 20 rfl rfl (r3 21 rfl (r3 22 rfl (r3 23 rfl (r3 24 rfl ?_))))))))));refine r3 25 rfl (r3 26 rfl (r3 27 rfl (r3 28 rfl (r3 29 rfl (r3 30 rfl (r3 31 rfl (r3 32 rfl (r3 33 rfl (r3 34 rfl ?_)))))))));exact r3 35 rfl (r3 36 rfl (r3 37 rfl (r3 38 rfl (r3 39 rfl (r3 40 rfl (r3 41 rfl (r2 42 rfl rfl (r0 43 rfl (bg (v:=.bool true) rfl rfl rfl (raE cZ))))))))))
   ·refine oy 4 ab rfl (r1 8 rfl ab (al Ty.s22 rfl (ra1 5 (oy 4 ab rfl (ry 9 ab rfl (r0 10 rfl (aY (v:=.bool (decide (p3.Node >= ((p0.Nodes).length:Int)))) rfl ab rfl (rq [11] 32 (r2 12 rfl ao (r2 13 rfl ao (r2 14 rfl ao ?_)))))))))));refine r0 15 rfl (bg (v:=.bool true) rfl ao rfl (rq [16] 27 (r2 17 rfl rfl (r2 18 rfl rfl (r2 19 rfl rfl (r2 20 rfl rfl (r3 21 rfl (r3 22 rfl (r3 23 rfl (r3 24 rfl ?_))))))))));refine r3 25 rfl (r3 26 rfl (r3 27 rfl (r3 28 rfl (r3 29 rfl (r3 30 rfl (r3 31 rfl (r3 32 rfl (r3 33 rfl (r3 34 rfl ?_)))))))));exact r3 35 rfl (r3 36 rfl (r3 37 rfl (r3 38 rfl (r3 39 rfl (r3 40 rfl (r3 41 rfl (r2 42 rfl rfl (r0 43 rfl (bg (v:=.bool true) rfl rfl rfl (raT cZ))))))))))
  exact RA.done (by decide +kernel) (T.sub hK ⟨rfl,rfl,rfl,rfl,rfl,(congrArg AV.bool ((congrArg (fun p=>p) (Ky hz)).symm)).symm,tqz⟩)
 replace hz:=bS hz ao;rcases bn (decide (p3.Lane<0)) with aC | aC
 ·replace hz:=bT hz aC;refine T.drawn mixed (k:=44) rfl ?_;apply RA.jn 31 (bm 44 8191);intro cS
  ·refine rq [0] 43 (ra1 1 (og 4 ⟨rfl,(rq [2,3] 40 (ry 4 ab rfl (ry 6 ab rfl (ra2 5 7 ?_ ?_))))⟩))
   ·exact oy 4 ab rfl (ra1 7 (oy 4 ab rfl (r1 8 rfl ab (al Ty.s22 rfl (ry 9 ab rfl (r0 10 rfl (aY (v:=.bool (decide (p3.Node >= ((p0.Nodes).length:Int)))) rfl ab rfl (rq [11] 32 (ry 12 ao rfl (raE cS))))))))))
   ·exact oy 4 ab rfl (r1 8 rfl ab (al Ty.s22 rfl (ra1 5 (oy 4 ab rfl (ry 9 ab rfl (r0 10 rfl (aY (v:=.bool (decide (p3.Node >= ((p0.Nodes).length:Int)))) rfl ab rfl (rq [11] 32 (ry 12 ao rfl (raT cS))))))))))
  refine ra1 13 (oy 4 ao rfl (ry 14 ao rfl (r0 15 rfl (aY (v:=.bool (decide (p3.Lane<0))) rfl ao rfl (rq [16] 27 (r2 17 rfl aC (r2 18 rfl aC (r2 19 rfl aC (r2 20 rfl aC (r3 21 rfl ?_))))))))));refine r3 22 rfl (r3 23 rfl (r3 24 rfl (r3 25 rfl (r3 26 rfl (r3 27 rfl (r3 28 rfl (r3 29 rfl (r3 30 rfl (r3 31 rfl ?_)))))))));refine r3 32 rfl (r3 33 rfl (r3 34 rfl (r3 35 rfl (r3 36 rfl (r3 37 rfl (r3 38 rfl (r3 39 rfl (r3 40 rfl (r3 41 rfl ?_)))))))));exact r2 42 rfl aC (r0 43 rfl (bg (v:=.bool true) rfl aC rfl (RA.done (by decide +kernel) (T.sub hK ⟨rfl,rfl,rfl,rfl,rfl,(congrArg AV.bool ((congrArg (fun p=>p) (Ky hz)).symm)).symm,tqz⟩))))
 replace hz:=bS hz aC;rcases bn (decide (p3.Lane > 0)) with aK | aK
 ·replace hz:=bT hz aK;refine B hz fun x3 hx3 hz=>?_
  rcases bn (x3.Kind != 6) with aP | aP
  ·replace hz:=bT hz aP;refine T.drawn mixed (k:=44) rfl ?_;apply RA.jn 17 (bm 44 134217727);intro fq;apply RA.jn 31 (bm 44 8191);intro kk
   ·refine rq [0] 43 (ra1 1 (og 4 ⟨rfl,(rq [2,3] 40 (ry 4 ab rfl (ry 6 ab rfl (ra2 5 7 ?_ ?_))))⟩))
    ·exact oy 4 ab rfl (ra1 7 (oy 4 ab rfl (r1 8 rfl ab (al Ty.s22 rfl (ry 9 ab rfl (r0 10 rfl (aY (v:=.bool (decide (p3.Node >= ((p0.Nodes).length:Int)))) rfl ab rfl (rq [11] 32 (ry 12 ao rfl (raE kk))))))))))
    ·exact oy 4 ab rfl (r1 8 rfl ab (al Ty.s22 rfl (ra1 5 (oy 4 ab rfl (ry 9 ab rfl (r0 10 rfl (aY (v:=.bool (decide (p3.Node >= ((p0.Nodes).length:Int)))) rfl ab rfl (rq [11] 32 (ry 12 ao rfl (raT kk))))))))))
   ·refine ra1 13 (oy 4 ao rfl (ry 14 ao rfl (r0 15 rfl (aY (v:=.bool (decide (p3.Lane<0))) rfl ao rfl (rq [16] 27 (ry 17 aC rfl (ra1 18 (oy 4 aC rfl (ry 19 aC rfl (ry 20 aC rfl ?_))))))))));refine ry 21 aK rfl (ry 23 aK rfl (ra2 22 24 ?_ ?_))
    ·exact oy 4 aK rfl (ra1 24 (oy 4 aK rfl (r1 25 rfl aK (aE Ty.s22 (fun _=>rfl) rfl rfl hx3 (ry 26 aK rfl (raE fq))))))
    ·exact oy 4 aK rfl (ra1 22 (oy 4 aK rfl (r1 25 rfl aK (aE Ty.s22 (fun _=>rfl) rfl rfl hx3 (ry 26 aK rfl (raT fq))))))
   refine ra1 27 (oy 4 aK rfl (ry 28 aK rfl (ry 29 aK rfl (r2 30 rfl aP (r2 31 rfl aP (r2 32 rfl aP (r2 33 rfl aP (r2 34 rfl aP (r2 35 rfl aP ?_)))))))));exact r2 36 rfl aP (r2 37 rfl aP (r2 38 rfl aP (r2 39 rfl aP (r2 40 rfl aP (r1 41 rfl aK (bg (v:=.bool true) rfl aP rfl (r1 42 rfl aC (bg (v:=.bool true) rfl aK rfl (r0 43 rfl (aY (v:=.bool true) rfl aC rfl (RA.done (by decide +kernel) (T.sub hK ⟨rfl,rfl,rfl,rfl,rfl,(congrArg AV.bool ((congrArg (fun p=>p) (Ky hz)).symm)).symm,tqz⟩))))))))))))
  replace hz:=bS hz aP;refine B hz fun x4 hx4 hz=>(T.drawn mixed (k:=44) rfl ?_)
  apply RA.jn 0 (bm 44 17592186044415);intro km;apply RA.jn 6 (bm 44 274877906943);intro nZ;apply RA.jn 7 (bm 44 272730423295);intro qw;apply RA.jn 9 (bm 44 60129542143);intro qx;apply RA.jn 9 (bm 44 34359738367);intro n5;apply RA.jn 17 (bm 44 134217727);intro qA;apply RA.jn 31 (bm 44 8191);intro qC
  ·refine rq [0] 43 (ra1 1 (og 4 ⟨rfl,(rq [2,3] 40 (ry 4 ab rfl (ry 6 ab rfl (ra2 5 7 ?_ ?_))))⟩))
   ·exact oy 4 ab rfl (ra1 7 (oy 4 ab rfl (r1 8 rfl ab (al Ty.s22 rfl (ry 9 ab rfl (r0 10 rfl (aY (v:=.bool (decide (p3.Node >= ((p0.Nodes).length:Int)))) rfl ab rfl (rq [11] 32 (ry 12 ao rfl (raE qC))))))))))
   ·exact oy 4 ab rfl (r1 8 rfl ab (al Ty.s22 rfl (ra1 5 (oy 4 ab rfl (ry 9 ab rfl (r0 10 rfl (aY (v:=.bool (decide (p3.Node >= ((p0.Nodes).length:Int)))) rfl ab rfl (rq [11] 32 (ry 12 ao rfl (raT qC))))))))))
  ·refine ra1 13 (oy 4 ao rfl (ry 14 ao rfl (r0 15 rfl (aY (v:=.bool (decide (p3.Lane<0))) rfl ao rfl (rq [16] 27 (ry 17 aC rfl (ra1 18 (oy 4 aC rfl (ry 19 aC rfl (ry 20 aC rfl ?_))))))))));refine ry 21 aK rfl (ry 23 aK rfl (ra2 22 24 ?_ ?_))
   ·exact oy 4 aK rfl (ra1 24 (oy 4 aK rfl (r1 25 rfl aK (aE Ty.s22 (fun _=>rfl) rfl rfl hx3 (ry 26 aK rfl (raE qA))))))
   ·exact oy 4 aK rfl (ra1 22 (oy 4 aK rfl (r1 25 rfl aK (aE Ty.s22 (fun _=>rfl) rfl rfl hx3 (ry 26 aK rfl (raT qA))))))
  ·refine ra1 27 (oy 4 aK rfl (ry 28 aK rfl (ry 29 aK rfl (ry 30 aP rfl (ry 32 aP rfl (ry 34 aP rfl (ra3 31 33 35 ?_ ?_ ?_)))))))
   ·refine oy 4 aP rfl (ra2 33 35 ?_ ?_)
    ·exact oy 4 aP rfl (raE n5)
    ·exact oy 4 aP rfl (raE qx)
   ·refine oy 4 aP rfl (ra2 31 35 ?_ ?_)
    ·exact oy 4 aP rfl (raT n5)
    ·exact oy 4 aP rfl (r1 36 rfl aP (aE Ty.s22 (fun _=>rfl) rfl rfl hx4 (ry 37 aP rfl (raE qw))))
   ·refine oy 4 aP rfl (ra2 31 33 ?_ ?_)
    ·exact oy 4 aP rfl (raT qx)
    ·exact oy 4 aP rfl (r1 36 rfl aP (aE Ty.s22 (fun _=>rfl) rfl rfl hx4 (ry 37 aP rfl (raT qw))))
  ·exact ra1 35 (oy 4 aP rfl (r1 36 rfl aP (aE Ty.s22 (fun _=>rfl) rfl rfl hx4 (ry 37 aP rfl (raE nZ)))))
  ·exact ra1 33 (oy 4 aP rfl (r1 36 rfl aP (aE Ty.s22 (fun _=>rfl) rfl rfl hx4 (ry 37 aP rfl (raT nZ)))))
  ·refine ra2 31 38 ?_ ?_
   ·exact oy 4 aP rfl (raT nZ)
   ·exact oy 4 aP rfl (r1 39 rfl aP (al Ty.s27 rfl (ra1 31 (oy 4 aP rfl (ry 40 aP rfl (r1 41 rfl aK (aY (v:=.bool (decide (p3.Lane >= ((x4.In).length:Int)))) rfl aP rfl (r1 42 rfl aC (bg (v:=.bool (decide (p3.Lane >= ((x4.In).length:Int)))) rfl aK rfl (r0 43 rfl (aY (v:=.bool (decide (p3.Lane >= ((x4.In).length:Int)))) rfl aC rfl (raE km))))))))))))
  ·exact ra1 38 (oy 4 aP rfl (r1 39 rfl aP (al Ty.s27 rfl (ry 40 aP rfl (r1 41 rfl aK (aY (v:=.bool (decide (p3.Lane >= ((x4.In).length:Int)))) rfl aP rfl (r1 42 rfl aC (bg (v:=.bool (decide (p3.Lane >= ((x4.In).length:Int)))) rfl aK rfl (r0 43 rfl (aY (v:=.bool (decide (p3.Lane >= ((x4.In).length:Int)))) rfl aC rfl (raT km)))))))))))
  exact RA.done (by decide +kernel) (T.sub hK ⟨rfl,rfl,rfl,rfl,rfl,(congrArg AV.bool ((congrArg (fun p=>p) (Ky hz)).symm)).symm,tqz⟩)
 replace hz:=bS hz aK;refine T.drawn mixed (k:=44) rfl ?_;apply RA.jn 31 (bm 44 8191);intro B3
 ·refine rq [0] 43 (ra1 1 (og 4 ⟨rfl,(rq [2,3] 40 (ry 4 ab rfl (ry 6 ab rfl (ra2 5 7 ?_ ?_))))⟩))
  ·exact oy 4 ab rfl (ra1 7 (oy 4 ab rfl (r1 8 rfl ab (al Ty.s22 rfl (ry 9 ab rfl (r0 10 rfl (aY (v:=.bool (decide (p3.Node >= ((p0.Nodes).length:Int)))) rfl ab rfl (rq [11] 32 (ry 12 ao rfl (raE B3))))))))))
  ·exact oy 4 ab rfl (r1 8 rfl ab (al Ty.s22 rfl (ra1 5 (oy 4 ab rfl (ry 9 ab rfl (r0 10 rfl (aY (v:=.bool (decide (p3.Node >= ((p0.Nodes).length:Int)))) rfl ab rfl (rq [11] 32 (ry 12 ao rfl (raT B3))))))))))
 refine ra1 13 (oy 4 ao rfl (ry 14 ao rfl (r0 15 rfl (aY (v:=.bool (decide (p3.Lane<0))) rfl ao rfl (rq [16] 27 (ry 17 aC rfl (ra1 18 (oy 4 aC rfl (ry 19 aC rfl (ry 20 aC rfl ?_))))))))));refine r2 21 rfl aK (r2 22 rfl aK (r2 23 rfl aK (r2 24 rfl aK (r2 25 rfl aK (r2 26 rfl aK (r2 27 rfl aK (r2 28 rfl aK (r2 29 rfl aK (r3 30 rfl ?_)))))))));refine r3 31 rfl (r3 32 rfl (r3 33 rfl (r3 34 rfl (r3 35 rfl (r3 36 rfl (r3 37 rfl (r3 38 rfl (r3 39 rfl (r3 40 rfl ?_)))))))));exact r2 41 rfl aK (r1 42 rfl aC (aY (v:=.bool false) rfl aK rfl (r0 43 rfl (aY (v:=.bool false) rfl aC rfl (RA.done (by decide +kernel) (T.sub hK ⟨rfl,rfl,rfl,rfl,rfl,(congrArg AV.bool ((congrArg (fun p=>p) (Ky hz)).symm)).symm,tqz⟩))))))
theorem CP {p0:Int} {p1:List Node} {p2 p3:Int} {p4:List (List Item)} {p5:List Int} {p6:List (List Item)} {p7:List Memory} {p8:List Choice} {p9:List Item} {p10:List (List UInt8)} {p11:List Write} {p12 p13 p14 p15 p16:Int} {p17:Bool} {p18:List Item} {r:Int × (List Int) × (List (List Item)) × (List Memory) × (List Choice) × (List Item)} (h:oS p0 p1 p2 p3 p4 p5 p6 p7 p8 p9 p10 p11 p12 p13 p14 p15 p16 p17 p18=some r):FnX Tryz.prog 27 [.ptr 0 0,iI p0] [.box [sL au p1,iI p2,iI p3,sL (aj aa) p4,sL ai p5,sL (aj aa) p6,sL aB p7,sL aA p8,sL aa p9,sL aO p10,sL a9 p11,iI p12,iI p13,iI p14,iI p15,iI p16,.ref 1,.bool p17],aR 75 3 aa p18] (iI r.1) [.box [sL au p1,iI p2,iI p3,sL (aj aa) p4,sL ai r.2.1,sL (aj aa) r.2.2.1,sL aB r.2.2.2.1,sL aA r.2.2.2.2.1,sL aa r.2.2.2.2.2,sL aO p10,sL a9 p11,iI p12,iI p13,iI p14,iI p15,iI p16,.ref 1,.bool p17],aR 75 3 aa p18]:=by
 unfold oS at h;refine fT 2 0 Tryz.func27 Tryz.ntmps27 rfl ?_;refine B h fun x2 hx2 h=>(X 5 2 (T.drawn mixed (k:=18) rfl (rq [0,1,2,4,5,6,8,9,10] 9 (rL [3,12,13,14,15,16,17] 3 rfl (rL [7,12,13,14,15,16,17] 7 rfl (ra1 11 (og 2 ⟨rfl,(ra1 12 (oO rfl (cO 2 (wA hx2) ⟨rfl,?_⟩)))⟩)))))))
 refine rq [13,14,15,16,17] 0 (RA.done (by decide +kernel) (X 4 3 (sQ (dk (en:=bq) Ty.s93 rfl rfl (Y 2 3 (T.ci h rfl (fun ae h=>?_) (fun ae h=>?_)))))))
 ·refine X 4 3 ?_;cases h;exact tN [0,1]
 refine B h fun x8 hx8 h=>(B h fun x9 hx9 h=>(B h fun x10 bd h=>(B h fun x11 bE h=>(B h fun x12 bt h=>(X 2 3 (T.drawn mixed (k:=33) rfl (rq [0,1,2,3,5,6,7,9,10,11,13,14,15] 20 (r0 16 rfl (dk (en:=bq) Ty.s93 rfl rfl (r0 17 rfl (v_rem rfl rfl hx8 ?_)))))))))))
 refine rq [18] 17 (r0 19 rfl (dk (en:=bq) Ty.s93 rfl rfl (rq [20,21] 14 (r0 22 rfl (dk (en:=bq) Ty.s93 rfl rfl (r0 23 rfl (v_rem rfl rfl hx9 (r0 24 rfl (aN (en:=bq) Ty.s93 rfl rfl rfl bd (rL [4,26,27,28,29,30,31,32] 4 rfl (rL [8,26,27,28,29,30,31,32] 8 rfl (rL [12,26,27,28,29,30,31,32] 12 rfl (ra1 25 ?_)))))))))))));refine oO rfl (aV (en:=bq) (a:=x11) rfl rfl bE (gY Ty.k97 Ty.c97 rfl (cs:=(bq x11)) rfl (ra1 26 (oO rfl (cD (yc bt) ⟨rfl,(rq [27,28,29,30,31] 1 (ra1 32 (og 3 ⟨rfl,(RA.done (by decide +kernel) (X 4 3 ?_))⟩)))⟩)))));cases h;exact tN [0,1]
theorem C9 {p0:List Choice} {r:(List UInt8) × Int} (h:o7 p0=some r):Fn Tryz.prog 91 [sL aA p0] (.tup [.str r.1,iI r.2]):=by
 unfold o7 at h;refine fT 0 9 Tryz.func91 Tryz.ntmps91 rfl (sQ (al Ty.s29 rfl (Y 2 0 (T.ci h rfl (fun ae h=>?_) (fun ae h=>?_)))))
 ·refine X 5 0 ?_;cases h;exact tD
 refine X 9 0 (sQ (al Ty.s29 rfl (Y 3 0 (itr (fun bU:Int × (List Int)=>mkA 46 [(4,.ref 0),(10,sL aA p0),(11,iI ((p0).length:Int)),(12,iI bU.1)]) (fun bU=>[aR 5 1 bG bU.2]) h (wk [(4,5,1)] [0] 0 rfl) (fun bU v_13 h jc=>?_)))));obtain ⟨s1,s2⟩:=bU;replace h:jp p0 s1 s2=some v_13:=h;try dsimp only
 unfold jp at h;refine X 5 1 (T.ci h rfl (fun qq h=>?_) (fun qq h=>?_))
 ·refine B h fun x4 hx4 h=>(X 5 1 (sQ (aE Ty.s29 (fun _=>rfl) rfl rfl hx4 (Y 5 1 (j1 [(4,.ref 0),(6,.ptr 1 0),(10,sL aA p0),(11,iI ((p0).length:Int)),(12,iI s1),(33,.bool ((decide (x4.Node<0)) || ((decide (x4.Node >= 12)) || ((decide (x4.Lane<0)) || decide (x4.Lane >= 16)))))] [aR 5 1 bG s2,.box (aA x4)] ?_ (fun hK=>?_))))))
  ·refine T.ci h rfl (fun qi h=>?_) (fun qi h=>?_)
   ·refine X 5 2 ?_;replace h:=mi h jc;cases h;exact tD
   refine B h fun x6 hx6 h=>(X 9 2 (sO (bl (rows:=List.map bG [IntKind.u8.wrap x4.Node,IntKind.u8.wrap x4.Lane]) (vs:=[.int .u8 (IntKind.u8.wrap x4.Node),.int .u8 (IntKind.u8.wrap x4.Lane)]) Ty.s152 Ty.z5 rfl rfl rfl rfl rfl rfl (sO (b6 (en:=bG) (xs:=s2) (ys:=([IntKind.u8.wrap x4.Node,IntKind.u8.wrap x4.Lane]:List Int)) Ty.s152 (fun _=>rfl) rfl rfl rfl hx6 rfl rfl (Y 6 4 ?_))))))
   exact lk h (wk [] [3] 4 rfl)
  refine X 6 2 (gp 19 (fun fk=>?_) (fun fk=>?_))
  ·refine Yp 15 2 ?_;rw [fk] at hK;exact sx hK
  refine Yp 5 2 (gp 24 (fun fo=>?_) (fun fo=>?_))
  ·refine Yp 10 2 ?_;rw [fk] at hK;rw [fo] at hK;exact sx hK
  refine Yp 5 2 (gp 29 (fun fG=>?_) (fun fG=>?_))
  ·refine Yp 5 2 ?_;rw [fk] at hK;rw [fo] at hK;rw [fG] at hK;exact sx hK
  refine Yp 5 2 ?_;rw [fk] at hK;rw [fo] at hK;rw [fG] at hK;exact sx hK
 refine X 1 1 ?_;replace h:=mi h jc;refine X 3 1 (sO (mP (xs:=s2) Tryz.underlying152 Tryz.underlying5 Tryz.underlying9 rfl rfl (Y 3 1 ?_)));cases h;exact tD
theorem wK {p0:List UInt8} {r:Int} (h:nn p0=some r):Fn Tryz.prog 136 [.str p0] (iI r):=by
 unfold nn at h;refine fT 0 16 Tryz.func136 Tryz.ntmps136 rfl (itr (fun fa:Int × Int=>mkA 29 [(0,.str p0),(3,iI fa.1),(6,iI ((p0).length:Int)),(7,iI fa.2)]) (fun fa=>[]) h (wk [] [] 0 rfl) (fun fa v_22 h lS=>?_));obtain ⟨s1,s2⟩:=fa;replace h:jA p0 s1 s2=some v_22:=h;try dsimp only
 unfold jA at h;refine X 5 0 (T.ci h rfl (fun qm h=>?_) (fun qm h=>?_))
 ·refine B h fun x5 hx5 h=>(B h fun x6 hx6 h=>(X 13 0 (sQ (cE Tryz.underlying9 rfl rfl hx5 (Y 1 0 (sQ (v_shl rfl rfl hx6 (Y 8 0 (itr (fun dH:Int × Int=>mkA 29 [(0,.str p0),(3,iI dH.1),(6,iI ((p0).length:Int)),(7,iI s2),(17,iI dH.2)]) (fun dH=>[]) h (wk [] [] 0 rfl) (fun dH v_29 h uZ=>?_))))))))))
  obtain ⟨s7,s8⟩:=dH;replace h:jD s2 s7 s8=some v_29:=h;try dsimp only
  unfold jD at h;refine X 5 0 (T.ci h rfl (fun qh h=>?_) (fun qh h=>?_))
  ·refine B h fun x10 bd h=>(X 6 0 (sQ (v_shl rfl rfl bd (Y 8 0 (T.ci h rfl (fun lQ h=>?_) (fun lQ h=>?_))))))
   ·exact X 9 0 (lk h (wk [] [] 0 rfl))
   exact X 5 0 (lk h (wk [] [] 0 rfl))
  refine X 1 0 ?_;replace h:=mi h uZ;exact X 4 0 (lk h (wk [] [] 0 rfl))
 refine X 1 0 ?_;replace h:=mi h lS;refine X 5 0 ?_;cases h;exact tD
theorem wI {p0:List UInt8} {r:(List UInt8) × Int} (h:nq p0=some r):Fn Tryz.prog 92 [.str p0] (.tup [.str r.1,iI r.2]):=by
 unfold nq at h;refine fT 0 11 Tryz.func92 Tryz.ntmps92 rfl (T.ci h rfl (fun ae h=>?_) (fun ae h=>?_))
 ·refine X 5 0 ?_;cases h;exact tD
 refine X 8 0 (T.ci h rfl (fun ab h=>?_) (fun ab h=>?_))
 ·refine X 5 0 ?_;cases h;exact tD
 refine B h fun x3 hx3 h=>(B h fun x4 hx4 h=>(X 6 0 (sO (bl (rows:=List.map bG [IntKind.u8.wrap ((p0).length:Int)]) (vs:=[.int .u8 (IntKind.u8.wrap ((p0).length:Int))]) Ty.s152 Ty.z5 rfl rfl rfl rfl rfl rfl (sO (mP (xs:=[IntKind.u8.wrap ((p0).length:Int)]) Tryz.underlying152 Tryz.underlying5 Tryz.underlying9 rfl rfl (Y 1 1 (sQ (nK rfl rfl hx3 (sO (cF (wK hx4) ⟨rfl,(B h fun x8 hx8 h=>(B h fun x9 hx9 h=>?_))⟩)))))))))))
 refine B h fun x10 bd h=>(Y 7 1 (sO (bl (rows:=List.map bG [IntKind.u8.wrap ((p0).length:Int)]) (vs:=[.int .u8 (IntKind.u8.wrap ((p0).length:Int))]) Ty.s152 Ty.z5 rfl rfl rfl rfl rfl rfl (sO (mP (xs:=[IntKind.u8.wrap ((p0).length:Int)]) Tryz.underlying152 Tryz.underlying5 Tryz.underlying9 rfl rfl (Y 1 2 (sQ (nK rfl rfl hx8 (Y 1 2 (sQ (ij rfl rfl hx9 (Y 3 2 (sO (bl (rows:=List.map bG [IntKind.u8.wrap x9,IntKind.u8.wrap x4]) (vs:=[.int .u8 (IntKind.u8.wrap x9),.int .u8 (IntKind.u8.wrap x4)]) Ty.s152 Ty.z5 rfl rfl rfl rfl rfl rfl ?_))))))))))))))
 refine sO (mP (xs:=[IntKind.u8.wrap x9,IntKind.u8.wrap x4]) Tryz.underlying152 Tryz.underlying5 Tryz.underlying9 rfl rfl (sQ (nK rfl rfl bd (Y 3 3 ?_))));cases h;exact tD
theorem wm {p0:Disk} {p1:Int} {p2:List UInt8} {r:Disk × Int} (h:gV p0 p1 p2=some r):Fn Tryz.prog 93 [.agg (bX p0),iI p1,.str p2] (.tup [.agg (bX r.1),iI r.2]):=by
 unfold gV at h;refine fT 0 0 Tryz.func93 Tryz.ntmps93 rfl ?_;refine B h fun x2 hx2 h=>(X 10 0 (sO (cF (kM hx2) ⟨rfl,(Y 7 2 (T.ci h rfl (fun ae h=>?_) (fun ae h=>?_)))⟩)))
 ·refine X 7 2 ?_;cases h;exact tD
 refine X 2 2 (j1 [(1,iI p1),(2,.str p2),(3,.ptr 0 0),(6,.ptr 1 0),(20,.bool ((decide (p1<0)) || decide (p1 >= 200)))] [.box (bX p0),.box [.nils,.nils]] ?_ (fun hK=>?_))
 ·refine T.ci h rfl (fun ao h=>?_) (fun ao h=>?_)
  ·refine X 6 2 ?_;cases h;exact tD
  refine X 8 2 (T.ci h rfl (fun aC h=>?_) (fun aC h=>?_))
  ·refine X 6 2 ?_;cases h;exact tD
  refine X 6 2 (sQ (al Ty.s34 rfl (Y 2 2 (T.ci h rfl (fun aK h=>?_) (fun aK h=>?_)))))
  ·refine X 6 2 ?_;cases h;exact tD
  refine B h fun x7 hx7 h=>(B h fun x8 hx8 h=>(B h fun x9 hx9 h=>(X 2 2 (T.drawn mixed (k:=14) rfl ?_))))
  apply RA.jn 4 (bm 14 1023);intro hS6;apply RA.jn 5 (bm 14 991);intro hS7;apply RA.jn 6 (bm 14 479);intro hS8;apply RA.jn 6 (bm 14 987);intro hS9
  ·refine rq [0,3,6,7,8] 9 (rL [1,2,5,10,11,12,13] 1 rfl (ra3 2 4 9 ?_ ?_ ?_))
   ·exact oO rfl (cO 2 (jh hx7) ⟨rfl,(rL [4,5,10,11,12,13] 4 rfl (raE hS8))⟩)
   ·refine og 2 ⟨rfl,(ra2 2 9 ?_ ?_)⟩
    ·exact oO rfl (cO 2 (jh hx7) ⟨rfl,(raT hS8)⟩)
    ·exact oO rfl (bl (rows:=List.map a9 [(⟨p1,p2⟩:Write)]) (vs:=[.agg [iI p1,.str p2]]) Ty.s34 Ty.z132 rfl rfl rfl rfl rfl rfl (raE hS9))
   ·refine oO rfl (bl (rows:=List.map a9 [(⟨p1,p2⟩:Write)]) (vs:=[.agg [iI p1,.str p2]]) Ty.s34 Ty.z132 rfl rfl rfl rfl rfl rfl (ra2 2 4 ?_ ?_))
    ·exact oO rfl (cO 3 (jh hx7) ⟨rfl,(ra1 4 (og 4 ⟨rfl,(raE hS7)⟩))⟩)
    ·exact og 3 ⟨rfl,(raT hS9)⟩
  ·exact ra1 2 (oO rfl (cO 3 (jh hx7) ⟨rfl,(raT hS7)⟩))
  ·refine ra2 5 9 ?_ ?_
   ·exact oO rfl (cO 3 (sU hx8) ⟨rfl,(ra1 9 (oO rfl (bl (rows:=List.map a9 [(⟨p1,p2⟩:Write)]) (vs:=[.agg [iI p1,.str p2]]) Ty.s34 Ty.z132 rfl rfl rfl rfl rfl rfl (raE hS6))))⟩)
   ·exact oO rfl (bl (rows:=List.map a9 [(⟨p1,p2⟩:Write)]) (vs:=[.agg [iI p1,.str p2]]) Ty.s34 Ty.z132 rfl rfl rfl rfl rfl rfl (raV hS7 [0,1,3,2] rfl))
  ·exact ra1 5 (oO rfl (cO 4 (sU hx8) ⟨rfl,(raV hS6 [0,1,3,4,2] rfl)⟩))
  refine ra1 10 (oO rfl (b6 (en:=a9) (xs:=x8) (ys:=([(⟨p1,p2⟩:Write)]:List Write)) Ty.s34 (fun _=>rfl) rfl rfl rfl hx9 rfl rfl (rq [11] 2 (ra1 12 (og 6 ⟨rfl,(rq [13] 0 (RA.done (by decide +kernel) ?_))⟩)))));cases h;exact tD
 refine X 5 2 (gp 17 (fun ab=>?_) (fun ab=>?_))
 ·refine Yp 4 2 ?_;rw [ab] at hK;exact sx hK
 refine Yp 4 2 ?_;rw [ab] at hK;exact sx hK
theorem wv {p0:Disk} {p1 p2:Int} {p3:List Choice} {r:Disk × Int × Int} (h:m7 p0 p1 p2 p3=some r):Fn Tryz.prog 50 [.agg (bX p0),iI p1,iI p2,sL aA p3] (.tup [.agg (bX r.1),iI r.2.1,iI r.2.2]):=by
 unfold m7 at h;refine fT 0 0 Tryz.func50 Tryz.ntmps50 rfl ?_;refine B h fun x2 hx2 h=>(X 11 0 (sO (cF (kM hx2) ⟨rfl,(Y 7 2 (T.ci h rfl (fun ae h=>?_) (fun ae h=>?_)))⟩)))
 ·refine X 8 2 ?_;cases h;exact tD
 refine X 2 2 (j1 [(1,iI p1),(2,iI p2),(3,sL aA p3),(4,.ptr 0 0),(8,.ptr 1 0),(36,.bool ((decide (p1<0)) || ((decide (p1 > 200)) || ((decide (p2<0)) || decide (p2 > 80)))))] [.box (bX p0),.box [.nils,.nils]] ?_ (fun hK=>?_))
 ·refine T.ci h rfl (fun aK h=>?_) (fun aK h=>?_)
  ·refine X 7 2 ?_;cases h;exact tD
  refine X 3 2 (itr (fun f0:Int × (List Choice) × (List (List UInt8)) × (List Write)=>mkA 88 [(1,iI p1),(2,iI f0.1),(3,sL aA f0.2.1),(4,.ptr 0 0),(8,.ptr 1 0)]) (fun f0=>[.box [sL aO f0.2.2.1,sL a9 f0.2.2.2],.box [.nils,.nils]]) h (wk [] [0,1] 2 rfl) (fun f0 v_15 h sE=>?_));obtain ⟨s4,s5,s6,s7⟩:=f0;replace h:eC p1 s4 s5 s6 s7=some v_15:=h;try dsimp only
  unfold eC at h;refine X 4 2 (sQ (al Ty.s29 rfl (Y 2 2 (T.ci h rfl (fun fo h=>?_) (fun fo h=>?_)))))
  ·refine X 5 2 (sQ (al Ty.s29 rfl (B h fun x10 bd h=>(B h fun x11 bE h=>(Y 7 2 (sO (k6 Ty.s29 (fun _=>rfl) rfl rfl rfl bd (sO (cF (C9 bE) ⟨rfl,(Y 12 2 (T.ci h rfl (fun fG h=>?_) (fun fG h=>?_)))⟩)))))))))
   ·refine X 8 2 ?_;replace h:=mi h sE;cases h;exact tD
   refine B h fun x14 cT h=>(B h fun x15 dU h=>(X 5 2 (sO (bl (rows:=List.map bG [IntKind.u8.wrap p1]) (vs:=[.int .u8 (IntKind.u8.wrap p1)]) Ty.s152 Ty.z5 rfl rfl rfl rfl rfl rfl (sO (mP (xs:=[IntKind.u8.wrap p1]) Tryz.underlying152 Tryz.underlying5 Tryz.underlying9 rfl rfl (Y 1 3 (sQ (nK rfl rfl cT (sO (cF (wI dU) ⟨rfl,(Y 13 3 (T.ci h rfl (fun cq h=>?_) (fun cq h=>?_)))⟩)))))))))))
   ·refine X 7 3 ?_;replace h:=mi h sE;cases h;exact tD
   refine B h fun x17 ce h=>(X 8 3 (sO (cD (wm ce) ⟨rfl,(Y 11 3 (T.ci h rfl (fun qo h=>?_) (fun qo h=>?_)))⟩)))
   ·refine X 8 3 ?_;replace h:=mi h sE;cases h;exact tD
   exact B h fun x18 cY h=>(X 10 3 (sO (k6 Ty.s29 (fun _=>rfl) rfl rfl rfl cY (Y 2 3 (lk h (wk [] [0,1] 3 rfl))))))
  refine X 1 2 ?_;replace h:=mi h sE;refine X 8 2 ?_;cases h;exact tD
 refine X 5 2 (gp 25 (fun ab=>?_) (fun ab=>?_))
 ·refine Yp 12 2 ?_;rw [ab] at hK;exact sx hK
 refine Yp 4 2 (gp 29 (fun ao=>?_) (fun ao=>?_))
 ·refine Yp 8 2 ?_;rw [ab] at hK;rw [ao] at hK;exact sx hK
 refine Yp 4 2 (gp 33 (fun aC=>?_) (fun aC=>?_))
 ·refine Yp 4 2 ?_;rw [ab] at hK;rw [ao] at hK;rw [aC] at hK;exact sx hK
 refine Yp 4 2 ?_;rw [ab] at hK;rw [ao] at hK;rw [aC] at hK;exact sx hK
theorem CF {p0:Int} {p1:List Node} {p2 p3:Int} {p4:List (List Item)} {p5:List Int} {p6:List (List Item)} {p7:List Memory} {p8:List Choice} {p9:List Item} {p10:List (List UInt8)} {p11:List Write} {p12 p13 p14 p15 p16:Int} {p17:Bool} {p18:List Item} {r:Int × (List (List UInt8)) × (List Write) × Int × Int} (h:oQ p0 p1 p2 p3 p4 p5 p6 p7 p8 p9 p10 p11 p12 p13 p14 p15 p16 p17 p18=some r):FnX Tryz.prog 28 [.ptr 0 0,iI p0] [.box [sL au p1,iI p2,iI p3,sL (aj aa) p4,sL ai p5,sL (aj aa) p6,sL aB p7,sL aA p8,sL aa p9,sL aO p10,sL a9 p11,iI p12,iI p13,iI p14,iI p15,iI p16,.ref 1,.bool p17],aR 75 3 aa p18] (iI r.1) [.box [sL au p1,iI p2,iI p3,sL (aj aa) p4,sL ai p5,sL (aj aa) p6,sL aB p7,sL aA p8,sL aa p9,sL aO r.2.1,sL a9 r.2.2.1,iI r.2.2.2.1,iI p13,iI p14,iI p15,iI r.2.2.2.2,.ref 1,.bool p17],aR 75 3 aa p18]:=by
 unfold oQ at h;refine fT 2 13 Tryz.func28 Tryz.ntmps28 rfl (T.ci h rfl (fun ae h=>?_) (fun ae h=>?_))
 ·refine X 4 2 ?_;cases h;exact tN [0,1]
 refine B h fun x3 hx3 h=>(B h fun x4 hx4 h=>(X 2 2 (T.drawn mixed (k:=31) rfl ?_)))
 apply RA.jn 3 (bm 31 268435455);intro hS2
 ·refine rq [0,1,2,4,5,6,8,9,10,12,13,14,15,17,18,19] 15 (rL [16,21,22,23,24,25,26,28,29,30] 16 rfl (rL [20,21,22,23,24,25,26,28,29,30] 20 rfl (r0 21 rfl (mZ Ty.s29 (fun _=>rfl) rfl rfl rfl hx3 (rL [3,22,23,24,25,26,28,29,30] 3 rfl (rL [7,22,23,24,25,26,28,29,30] 7 rfl (rL [11,22,23,24,25,26,28,29,30] 11 rfl (ra2 22 27 ?_ ?_))))))))
  ·exact oO rfl (cD (wv hx4) ⟨rfl,(rq [23,24,25,26] 4 (ra1 27 (og 2 ⟨rfl,(raE hS2)⟩)))⟩)
  ·exact og 2 ⟨rfl,(ra1 22 (oO rfl (cD (wv hx4) ⟨rfl,(rq [23,24,25,26] 3 (raT hS2))⟩)))⟩
 refine ra1 28 (og 3 ⟨rfl,(rq [29,30] 0 (RA.done (by decide +kernel) (X 6 3 (T.ci h rfl (fun ao h=>?_) (fun ao h=>?_)))))⟩)
 ·refine X 5 3 ?_;cases h;exact tN [0,1]
 refine X 2 3 (T.drawn mixed (k:=20) rfl (rq [0,1,2,4,5,6,7,8] 12 (rL [9,10,11,12,13,14,15,16,17,18,19] 9 rfl (r0 10 rfl (al Ty.s29 rfl (ra1 3 (og 3 ⟨rfl,(rq [11,12] 7 (ra1 13 (og 3 ⟨rfl,?_⟩)))⟩)))))));refine rq [14,15] 4 (ra1 16 (og 3 ⟨rfl,(rq [17,18] 1 (ra1 19 (og 3 ⟨rfl,(RA.done (by decide +kernel) (X 4 3 ?_))⟩)))⟩));cases h;exact tN [0,1]
theorem CT {p0:List Write} {p1 r:List (List UInt8)} (h:oY p0 p1=some r):FnX Tryz.prog 100 [.ref 0,sL a9 p0] [aR 9 1 aO p1] (.ref 1) [.dead,aR 9 1 aO r]:=by
 unfold oY at h;refine fT 1 0 Tryz.func100 Tryz.ntmps100 rfl ?_;refine T.mvS 0 0 rfl rfl rfl rfl (X 8 2 (sQ (al Ty.s34 rfl (Y 3 2 (itr (fun d8:Int × (List (List UInt8))=>mkA 29 [(0,.ref 1),(7,sL a9 p0),(8,iI ((p0).length:Int)),(9,iI d8.1)]) (fun d8=>[.dead,aR 9 1 aO d8.2]) h (wk [] [0,1] 2 rfl) (fun d8 v_16 h nT=>?_))))));obtain ⟨s1,s2⟩:=d8;replace h:jm p0 s1 s2=some v_16:=h;try dsimp only
 unfold jm at h;refine X 5 2 (T.ci h rfl (fun fG h=>?_) (fun fG h=>?_))
 ·refine B h fun x4 hx4 h=>(X 5 2 (sQ (aE Ty.s34 (fun _=>rfl) rfl rfl hx4 (Y 6 2 (itr (fun kg:List (List UInt8)=>mkA 29 [(0,.ref 1),(6,.ptr 2 0),(7,sL a9 p0),(8,iI ((p0).length:Int)),(9,iI s1)]) (fun kg=>[.dead,aR 9 1 aO kg,.box (a9 x4)]) h (wk [] [0,1,2] 3 rfl) (fun kg v_21 h u0=>?_))))))
  revert u0 h;revert kg;intro s5 h u0;replace h:qV s1 x4 s5=some v_21:=h;try dsimp only
  unfold qV at h;refine X 4 3 (sQ (dk (en:=aO) Ty.s33 rfl rfl (Y 4 3 (T.ci h rfl (fun qj h=>?_) (fun qj h=>?_)))))
  ·exact B h fun x6 hx6 h=>(X 4 3 (sO (bl (rows:=List.map aO [[]]) (vs:=[.str []]) Ty.s33 Ty.z9 rfl rfl rfl rfl rfl rfl (sO (b6 (en:=aO) (xs:=s5) (ys:=([[]]:List (List UInt8))) Ty.s33 (fun _=>rfl) rfl rfl rfl hx6 rfl rfl (Y 2 5 (lk h (wk [] [0,4,2] 5 rfl))))))))
  refine X 1 3 ?_;replace h:=mi h u0;exact B h fun x7 hx7 h=>(B h fun x8 hx8 h=>(X 6 3 (sQ (aN (en:=aO) Ty.s33 rfl rfl rfl hx7 (sO (eD (en:=aO) (a:=x8) (a':=x4.Bytes) Ty.c9 Ty.i9 rfl (vs:=[.str x4.Bytes]) rfl rfl rfl hx8 rfl rfl rfl (Y 5 3 (lk h (wk [] [0,1] 3 rfl)))))))))
 refine X 1 2 ?_;replace h:=mi h nT;refine X 5 2 ?_;cases h;exact tO [] [0,1] 2
theorem xt {p0:Disk} {p1:Int} {r:Disk × Int} (h:iM p0 p1=some r):Fn Tryz.prog 56 [.agg (bX p0),iI p1] (.tup [.agg (bX r.1),iI r.2]):=by
 unfold iM at h;refine fT 0 0 Tryz.func56 Tryz.ntmps56 rfl ?_;refine B h fun x2 hx2 h=>(X 10 0 (sO (cF (kM hx2) ⟨rfl,(Y 7 2 (T.ci h rfl (fun ae h=>?_) (fun ae h=>?_)))⟩)))
 ·refine X 7 2 ?_;cases h;exact tD
 refine X 2 2 (j1 [(1,iI p1),(2,.ptr 0 0),(4,.ptr 1 0),(21,.bool ((decide (p1<0)) || decide (p1 > ((p0.Wait).length:Int))))] [.box (bX p0),.box [.nils,.nils]] ?_ (fun hK=>?_))
 ·refine T.ci h rfl (fun ao h=>?_) (fun ao h=>?_)
  ·refine X 6 2 ?_;cases h;exact tD
  refine B h fun x7 hx7 h=>(B h fun x8 hx8 h=>(B h fun x9 hx9 h=>(X 2 2 (T.drawn mixed (k:=11) rfl ?_))))
  apply RA.jn 4 (bm 11 127);intro hS4;apply RA.jn 5 (bm 11 123);intro hS5
  ·refine rq [0,3,5] 8 (ra2 1 4 ?_ ?_)
   ·refine og 2 ⟨rfl,(ra2 2 4 ?_ ?_)⟩
    ·exact oO rfl (cO 2 (jh hx7) ⟨rfl,(ra1 4 (og 3 ⟨rfl,(r0 6 rfl (mZ Ty.s34 (fun _=>rfl) rfl rfl rfl hx8 (raE hS4)))⟩))⟩)
    ·exact og 2 ⟨rfl,(r0 6 rfl (mZ Ty.s34 (fun _=>rfl) rfl rfl rfl hx8 (raE hS5)))⟩
   ·exact og 2 ⟨rfl,(r0 6 rfl (mZ Ty.s34 (fun _=>rfl) rfl rfl rfl hx8 (ra1 1 (og 2 ⟨rfl,(raT hS5)⟩))))⟩
  ·exact ra1 2 (oO rfl (cO 2 (jh hx7) ⟨rfl,(raT hS4)⟩))
  refine ra1 7 (oO rfl (cG [2] 3 2 (CT hx9) ⟨rfl,(rq [8] 2 (ra1 9 (og 4 ⟨rfl,(rq [10] 0 (RA.done (by decide +kernel) ?_))⟩)))⟩));cases h;exact tD
 refine X 5 2 (gp 15 (fun ab=>?_) (fun ab=>?_))
 ·refine Yp 7 2 ?_;rw [ab] at hK;exact sx hK
 refine Y 3 2 (yQ rfl (al Ty.s34 rfl (Yp 3 2 ?_)));rw [ab] at hK;exact sx hK
theorem Ds {p0:Disk} {r:Disk × Int} (h:m9 p0=some r):Fn Tryz.prog 53 [.agg (bX p0)] (.tup [.agg (bX r.1),iI r.2]):=by
 unfold m9 at h;refine fT 0 0 Tryz.func53 Tryz.ntmps53 rfl ?_;refine B h fun x2 hx2 h=>(X 11 0 (sQ (al Ty.s34 rfl (sO (cD (xt hx2) ⟨rfl,(Y 5 2 ?_)⟩)))))
 cases h;exact tD
theorem CK {p0:Int} {p1:List Node} {p2 p3:Int} {p4:List (List Item)} {p5:List Int} {p6:List (List Item)} {p7:List Memory} {p8:List Choice} {p9:List Item} {p10:List (List UInt8)} {p11:List Write} {p12 p13 p14 p15 p16:Int} {p17:Bool} {p18:List Item} {r:Int × (List (List UInt8)) × (List Write) × Int × Int × Int × Int × Int} (h:oR p0 p1 p2 p3 p4 p5 p6 p7 p8 p9 p10 p11 p12 p13 p14 p15 p16 p17 p18=some r):FnX Tryz.prog 29 [.ptr 0 0,iI p0] [.box [sL au p1,iI p2,iI p3,sL (aj aa) p4,sL ai p5,sL (aj aa) p6,sL aB p7,sL aA p8,sL aa p9,sL aO p10,sL a9 p11,iI p12,iI p13,iI p14,iI p15,iI p16,.ref 1,.bool p17],aR 75 3 aa p18] (iI r.1) [.box [sL au p1,iI p2,iI p3,sL (aj aa) p4,sL ai p5,sL (aj aa) p6,sL aB p7,sL aA p8,sL aa p9,sL aO r.2.1,sL a9 r.2.2.1,iI r.2.2.2.1,iI r.2.2.2.2.1,iI r.2.2.2.2.2.1,iI r.2.2.2.2.2.2.1,iI r.2.2.2.2.2.2.2,.ref 1,.bool p17],aR 75 3 aa p18]:=by
 unfold oR at h;refine fT 2 0 Tryz.func29 Tryz.ntmps29 rfl ?_;refine B h fun x2 hx2 h=>(X 11 2 (sO (cD (Ds hx2) ⟨rfl,(Y 27 2 (T.ci h rfl (fun ae h=>?_) (fun ae h=>?_)))⟩)))
 ·refine X 16 2 (T.drawn mixed (k:=20) rfl (rq [0,1,2,3,4,5,7,8,9] 11 (rL [6,11,12,13,14,15,16,17,18,19] 6 rfl (ra1 10 (og 2 ⟨rfl,(rq [11,12] 7 (ra1 13 (og 2 ⟨rfl,(rq [14,15] 4 ?_)⟩)))⟩)))));refine ra1 16 (og 2 ⟨rfl,(rq [17,18] 1 (ra1 19 (og 2 ⟨rfl,(RA.done (by decide +kernel) (X 4 2 ?_))⟩)))⟩);cases h;exact tN [0,1]
 refine X 5 2 ?_;cases h;exact tN [0,1]
theorem CD {p0:Item} {p1:Int} {r:Bool} (h:qS p0 p1=some r):FnX Tryz.prog 139 [.agg (aa p0),.ptr 0 0] [.box [iI p1]] (.bool r) [.box [iI p1]]:=by unfold qS at h;refine fT 1 13 Tryz.func139 Tryz.ntmps139 rfl ?_;cases h;exact tN [0]
theorem Cf {p0:List Item} {p1 r:Int} (h:ov p0 p1=some r):FnX Tryz.prog 138 [sL aa p0,.func 139 [.ptr 0 0]] [.box [iI p1]] (iI r) [.box [iI p1]]:=by
 unfold ov at h;refine fT 1 8 Tryz.func138 Tryz.ntmps138 rfl (sQ (al Ty.s30 rfl (Y 3 1 (itr (fun ak:Int=>mkA 19 [(0,sL aa p0),(1,.func 139 [.ptr 0 0]),(7,iI ((p0).length:Int)),(8,iI ak)]) (fun ak=>[.box [iI p1]]) h (wk [] [0] 1 rfl) (fun ak v_6 h bp=>?_)))));revert bp h;revert ak;intro s1 h bp;replace h:l8 p0 p1 s1=some v_6:=h;try dsimp only
 unfold l8 at h;refine X 5 1 (T.ci h rfl (fun bB h=>?_) (fun bB h=>?_))
 ·refine B h fun x4 hx4 h=>(B h fun x5 hx5 h=>(X 13 1 (sQ (aE Ty.s30 (fun _=>rfl) rfl rfl hx4 (Y 1 1 (sO (cG [0] 1 1 (CD hx5) ⟨rfl,(Y 1 1 (T.ci h rfl (fun bx h=>?_) (fun bx h=>?_)))⟩)))))))
  ·refine X 5 1 ?_;replace h:=mi h bp;cases h;exact tN [0]
  exact X 5 1 (lk h (wk [] [0] 1 rfl))
 refine X 1 1 ?_;replace h:=mi h bp;refine X 4 1 ?_;cases h;exact tN [0]
theorem D1 {p0:List Item} {p1:Int} {r:Int × Int} (h:pw p0 p1=some r):Fn Tryz.prog 97 [sL aa p0,iI p1] (.tup [iI r.1,iI r.2]):=by
 unfold pw at h;refine fT 0 10 Tryz.func97 Tryz.ntmps97 rfl (sQ (al Ty.s30 rfl (Y 2 1 (T.ci h rfl (fun ae h=>?_) (fun ae h=>?_)))))
 ·refine X 5 1 ?_;cases h;exact tD
 refine X 2 1 (j1 [(0,sL aa p0),(3,.ptr 0 0),(15,.bool ((decide (p1<0)) || decide (p1 > 500)))] [.box [iI p1]] ?_ (fun hK=>?_))
 ·refine T.ci h rfl (fun ao h=>?_) (fun ao h=>?_)
  ·refine X 5 1 ?_;cases h;exact tD
  refine B h fun x3 hx3 h=>(X 5 1 (sO (cG [0] 1 1 (Cf hx3) ⟨rfl,(Y 8 1 (T.ci h rfl (fun aC h=>?_) (fun aC h=>?_)))⟩)))
  ·refine X 3 1 (sQ (al Ty.s30 rfl (Y 3 1 ?_)));cases h;exact tD
  refine X 7 1 ?_;cases h;exact tD
 refine X 5 1 (gp 12 (fun ab=>?_) (fun ab=>?_))
 ·refine Yp 4 1 ?_;rw [ab] at hK;exact sx hK
 refine Yp 4 1 ?_;rw [ab] at hK;exact sx hK
theorem C2 {p0 p1:Item} {r:Bool} (h:q5 p0 p1=some r):Fn Tryz.prog 36 [.agg (aa p0),.agg (aa p1)] (.bool r):=by
 unfold q5 at h;refine fT 0 6 Tryz.func36 Tryz.ntmps36 rfl (j1 [(4,.bool ((p0.Key==p1.Key) && p0.Val==p1.Val))] [] ?_ (fun hK=>?_))
 ·cases h;exact tD
 refine X 8 2 (gp 10 (fun ae=>?_) (fun ae=>?_))
 ·refine Yp 8 2 ?_;rw [ae] at hK;exact wu hK [] [] 2 rfl
 refine Yp 8 2 ?_;rw [ae] at hK;exact wu hK [] [] 2 rfl
theorem B8 {p0 p1:List Item} {r:Bool} (h:oe p0 p1=some r):Fn Tryz.prog 35 [sL aa p0,sL aa p1,.func 36 []] (.bool r):=by
 unfold oe at h;refine fT 0 8 Tryz.func35 Tryz.ntmps35 rfl (sQ (al Ty.s30 rfl (Y 1 0 (sQ (al Ty.s30 rfl (Y 2 0 (T.ci h rfl (fun ae h=>?_) (fun ae h=>?_))))))))
 ·refine X 4 0 ?_;cases h;exact tD
 refine X 5 0 (sQ (al Ty.s30 rfl (Y 3 0 (itr (fun bb:Int=>mkA 32 [(1,sL aa p1),(2,.func 36 []),(15,sL aa p0),(16,iI ((p0).length:Int)),(17,iI bb)]) (fun bb=>[]) h (wk [] [] 0 rfl) (fun bb v_7 h bI=>?_)))));revert bI h;revert bb;intro s1 h bI;replace h:od p0 p1 s1=some v_7:=h;try dsimp only
 unfold od at h;refine X 5 0 (T.ci h rfl (fun bx h=>?_) (fun bx h=>?_))
 ·refine B h fun x3 hx3 h=>(X 6 0 (sQ (aE Ty.s30 (fun _=>rfl) rfl rfl hx3 (B h fun x5 hx5 h=>(Y 9 0 (sQ (aE Ty.s30 (fun _=>rfl) rfl rfl hx5 (B h fun x7 hx7 h=>(Y 9 1 (sO (cF (C2 hx7) ⟨rfl,(Y 2 2 ?_)⟩)))))))))))
  refine T.ci h rfl (fun cw h=>?_) (fun cw h=>?_)
  ·refine X 4 2 ?_;replace h:=mi h bI;cases h;exact tD
  exact X 5 2 (lk h (wk [] [] 2 rfl))
 refine X 1 0 ?_;replace h:=mi h bI;refine X 4 0 ?_;cases h;exact tD
theorem wh {p0 p1:List Item} {r:Bool} (h:k0 p0 p1=some r):Fn Tryz.prog 10 [sL aa p0,sL aa p1] (.bool r):=by
 unfold k0 at h;refine fT 0 4 Tryz.func10 Tryz.ntmps10 rfl ?_;obtain ⟨vt,hz,h⟩:=bind_some h;revert hz h;revert vt;intro c3 hz h;refine j1 [(4,.bool c3)] [] ?_ (fun hK=>?_)
 ·cases h;exact tD
 refine X 3 0 (sQ (al Ty.s30 rfl (Y 1 0 (sQ (al Ty.s30 rfl (Y 2 0 (gi 10 hz (fun ae hz=>?_) (fun ae hz=>?_))))))))
 ·refine B hz fun x1 hx1 hz=>(B hz fun x2 hx2 hz=>(Y 3 0 (yQ rfl (al Ty.s30 rfl (yO rfl (k6 Ty.s30 (fun _=>rfl) rfl rfl rfl hx1 (yO rfl (cF (B8 hx2) ⟨rfl,(Yp 3 0 ?_)⟩))))))))
  cases hz;exact sx hK
 refine Yp 9 0 ?_;cases hz;exact sx hK
theorem Dw {p0:List Item} {r:(List Item) × Int} (h:pf p0=some r):FnO Tryz.prog 98 [sL aa p0] (.tup [.ref 0,iI r.2]) [aR 75 3 aa r.1]:=by
 unfold pf at h;refine fT 0 9 Tryz.func98 Tryz.ntmps98 rfl (sQ (al Ty.s30 rfl (Y 2 0 (T.ci h rfl (fun ae h=>?_) (fun ae h=>?_)))))
 ·refine X 5 0 ?_;cases h;exact tO [(0,75,3)] [0] 0
 refine B h fun x2 hx2 h=>(X 4 0 (sO (cO 0 (f7 hx2) ⟨rfl,(Y 6 1 (sQ (dk (en:=aa) Ty.s30 rfl rfl (Y 3 1 (itr (fun dJ:Int × (List Item)=>mkA 22 [(4,.ref 0),(12,iI ((x2).length:Int)),(13,iI dJ.1)]) (fun dJ=>[aR 75 3 aa dJ.2]) h (wk [] [0] 1 rfl) (fun dJ v_5 h vH=>?_))))))⟩)))
 obtain ⟨s3,s4⟩:=dJ;replace h:kG x2 s3 s4=some v_5:=h;try dsimp only
 unfold kG at h;refine X 5 1 (T.ci h rfl (fun aP h=>?_) (fun aP h=>?_))
 ·exact B h fun x5 hx5 h=>(B h fun x6 hx6 h=>(X 11 1 (sQ (aN (en:=aa) Ty.s30 rfl rfl rfl hx5 (Y 1 1 (sO (eD (en:=aa) (a:=x6) (a':=(⟨x6.Key,x6.Val,0⟩:Item)) Ty.c3 Ty.i3 rfl (vs:=[iI 0]) rfl rfl rfl hx6 rfl rfl rfl (Y 5 1 (lk h (wk [] [0] 1 rfl))))))))))
 refine X 1 1 ?_;replace h:=mi h vH;refine X 6 1 ?_;cases h;exact tO [] [0] 1
theorem Dh {p0 p1:List Item} {p2:Int} {r:(List Item) × Int} (h:pb p0 p1 p2=some r):FnO Tryz.prog 54 [sL aa p0,sL aa p1,iI p2] (.tup [.ref 0,iI r.2]) [aR 75 3 aa r.1]:=by
 unfold pb at h;refine fT 0 9 Tryz.func54 Tryz.ntmps54 rfl (sQ (al Ty.s30 rfl (Y 2 0 (T.ci h rfl (fun ae h=>?_) (fun ae h=>?_)))))
 ·refine X 5 0 ?_;cases h;exact tO [(0,75,3)] [0] 0
 refine B h fun x2 hx2 h=>(X 5 0 (sO (cF (D1 hx2) ⟨rfl,(Y 12 0 (T.ci h rfl (fun ab h=>?_) (fun ab h=>?_)))⟩)))
 ·refine X 6 0 ?_;cases h;exact tO [(0,75,3)] [0] 0
 refine B h fun x3 hx3 h=>(X 2 0 ?_)
 obtain ⟨qz,hz,h⟩:=bind_some h;revert hz h;revert qz;intro c5 hz h;refine j1 [(0,sL aa p0),(1,sL aa p1),(8,iI x2.1),(31,.bool c5)] [] ?_ (fun hK=>?_)
 ·refine T.ci h rfl (fun aK h=>?_) (fun aK h=>?_)
  ·refine X 5 0 ?_;cases h;exact tO [(0,75,3)] [0] 0
  refine X 6 0 (sQ (al Ty.s30 rfl (Y 2 0 (T.ci h rfl (fun aP h=>?_) (fun aP h=>?_)))))
  ·refine X 5 0 ?_;cases h;exact tO [(0,75,3)] [0] 0
  refine B h fun x8 hx8 h=>(B h fun x9 hx9 h=>(X 5 0 (sQ (al Ty.s30 rfl (Y 1 0 (sO (k6 Ty.s30 (fun _=>rfl) rfl rfl rfl hx8 (sO (cO 0 (Dw hx9) ⟨rfl,(Y 5 1 ?_)⟩)))))))))
  cases h;exact tO [] [0] 1
 refine X 4 0 (sO (cF (wh hx3) ⟨rfl,(Y 2 0 (gi 26 hz (fun ao hz=>?_) (fun ao hz=>?_)))⟩))
 ·refine B hz fun x4 hx4 hz=>(Y 2 0 (yO rfl (cF (wh hx4) ⟨rfl,(Yp 3 0 ?_)⟩)))
  cases hz;exact sx hK
 refine Yp 6 0 ?_;cases hz;exact sx hK
theorem CM {p0:Int} {p1:List Node} {p2 p3:Int} {p4:List (List Item)} {p5:List Int} {p6:List (List Item)} {p7:List Memory} {p8:List Choice} {p9:List Item} {p10:List (List UInt8)} {p11:List Write} {p12 p13 p14 p15 p16:Int} {p17:Bool} {p18:List Item} {r:Int × (List Item)} (h:oU p0 p1 p2 p3 p4 p5 p6 p7 p8 p9 p10 p11 p12 p13 p14 p15 p16 p17 p18=some r):FnX Tryz.prog 30 [.ptr 0 0,iI p0] [.box [sL au p1,iI p2,iI p3,sL (aj aa) p4,sL ai p5,sL (aj aa) p6,sL aB p7,sL aA p8,sL aa p9,sL aO p10,sL a9 p11,iI p12,iI p13,iI p14,iI p15,iI p16,.ref 1,.bool p17],aR 75 3 aa p18] (iI r.1) [.box [sL au p1,iI p2,iI p3,sL (aj aa) p4,sL ai p5,sL (aj aa) p6,sL aB p7,sL aA p8,sL aa p9,sL aO p10,sL a9 p11,iI p12,iI p13,iI p14,iI p15,iI p16,.ref 2,.bool p17],.dead,aR 75 3 aa r.2]:=by
 unfold oU at h;refine fT 2 0 Tryz.func30 Tryz.ntmps30 rfl ?_;refine mO 0 16 1 2 (B h fun x2 hx2 h=>(X 5 3 (T.drawn mixed (k:=19) rfl (rq [0,1,2,4,5,6,7,9,10,11] 9 (rL [3,13,14,15,16,17,18] 3 rfl (rL [8,13,14,15,16,17,18] 8 rfl (ra1 12 (og 3 ⟨rfl,(ra1 13 ?_)⟩))))))));refine oO rfl (cO 3 (Dh hx2) ⟨rfl,(rq [14,15,16,17,18] 0 (RA.done (by decide +kernel) (X 6 4 (T.ci h rfl (fun ae h=>?_) (fun ae h=>?_)))))⟩)
 ·refine X 5 4 ?_;cases h;exact tN [0,1,2]
 refine B h fun x4 hx4 h=>(X 9 4 (sO (b6 (en:=aa) (xs:=p18) (ys:=x2.1) Ty.s30 (fun _=>rfl) rfl rfl rfl hx4 rfl rfl (Y 8 5 ?_))))
 cases h;exact tN [0,1,4]
theorem CW {p0:Int} {p1:List Node} {p2 p3:Int} {p4:List (List Item)} {p5:List Int} {p6:List (List Item)} {p7:List Memory} {p8:List Choice} {p9:List Item} {p10:List (List UInt8)} {p11:List Write} {p12 p13 p14 p15 p16:Int} {p17:Bool} {p18:List Item} {r:Int × (List Int) × (List (List Item)) × (List Memory) × (List Choice) × (List Item) × (List (List UInt8)) × (List Write) × Int × Int × Int × Int × Int × Bool} (h:oV p0 p1 p2 p3 p4 p5 p6 p7 p8 p9 p10 p11 p12 p13 p14 p15 p16 p17 p18=some r):FnX Tryz.prog 31 [.ptr 0 0,iI p0] [.box [sL au p1,iI p2,iI p3,sL (aj aa) p4,sL ai p5,sL (aj aa) p6,sL aB p7,sL aA p8,sL aa p9,sL aO p10,sL a9 p11,iI p12,iI p13,iI p14,iI p15,iI p16,.ref 1,.bool p17],aR 75 3 aa p18] (iI r.1) [.box [sL au p1,iI p2,iI p3,sL (aj aa) p4,sL ai r.2.1,sL (aj aa) r.2.2.1,sL aB r.2.2.2.1,sL aA r.2.2.2.2.1,sL aa r.2.2.2.2.2.1,sL aO r.2.2.2.2.2.2.1,sL a9 r.2.2.2.2.2.2.2.1,iI r.2.2.2.2.2.2.2.2.1,iI r.2.2.2.2.2.2.2.2.2.1,iI r.2.2.2.2.2.2.2.2.2.2.1,iI r.2.2.2.2.2.2.2.2.2.2.2.1,iI r.2.2.2.2.2.2.2.2.2.2.2.2.1,.ref 1,.bool r.2.2.2.2.2.2.2.2.2.2.2.2.2],aR 75 3 aa p18]:=by
 unfold oV at h;refine fT 2 0 Tryz.func31 Tryz.ntmps31 rfl ?_;refine B h fun x2 hx2 h=>(X 11 2 (sO (cD (xt hx2) ⟨rfl,(Y 13 2 (T.ci h rfl (fun ae h=>?_) (fun ae h=>?_)))⟩)))
 ·refine X 5 3 ?_;cases h;exact tN [0,1]
 refine B h fun x4 hx4 h=>(X 2 3 (T.drawn mixed (k:=15) rfl ?_))
 apply RA.jn 2 (bm 15 8191);intro hS2
 ·refine rq [0,1,2,4,5,6] 9 (rL [3,8,9,10,11,13,14] 3 rfl (rL [7,8,9,10,11,13,14] 7 rfl (ra2 8 12 ?_ ?_)))
  ·exact oO rfl (cG [] 3 5 (FnX.of_fnO (o8 hx4)) ⟨rfl,(rq [9,10,11] 3 (ra1 12 (og 8 ⟨rfl,(raE hS2)⟩)))⟩)
  ·exact og 3 ⟨rfl,(ra1 8 (oO rfl (cG [] 4 5 (FnX.of_fnO (o8 hx4)) ⟨rfl,(rq [9,10,11] 2 (raV hS2 [0,1,2,4,5,6,7,8,3] rfl))⟩)))⟩
 refine ra1 13 (og 9 ⟨rfl,(rq [14] 0 (RA.done (by decide +kernel) (X 1 9 (T.drawn mixed (k:=34) rfl ?_))))⟩);apply RA.jn 19 (bm 34 32767);intro hS3
 ·refine rq [0,1,2,3,4,5,6,7] 26 (rL [8,10,11,12,13,14,15,16,17,18,19,20,21,22,23,24,25,26,27,28,29,30,31,32,33] 8 rfl (rq [10,11] 23 (ra2 9 12 ?_ ?_)))
  ·exact og 9 ⟨rfl,(ra1 12 (og 9 ⟨rfl,(rq [13,14] 19 (raE hS3))⟩))⟩
  ·exact og 9 ⟨rfl,(ra1 9 (og 9 ⟨rfl,(rq [13,14] 19 (raT hS3))⟩))⟩
 refine ra1 15 (og 9 ⟨rfl,(rq [16,17] 16 (ra1 18 (og 9 ⟨rfl,(rq [19,20] 13 (ra1 21 (og 9 ⟨rfl,(rq [22,23] 10 (ra1 24 ?_))⟩)))⟩)))⟩);refine og 9 ⟨rfl,(rq [25,26] 7 (ra1 27 (og 9 ⟨rfl,(rq [28,29] 4 (ra1 30 (og 9 ⟨rfl,(rq [31,32] 1 (ra1 33 (og 9 ⟨rfl,?_⟩)))⟩)))⟩)))⟩;refine RA.done (by decide +kernel) (X 4 9 (T.fC 3 (T.fC 4 (T.fC 5 (T.fC 6 (T.fC 7 ?_))))));cases h;exact tN [0,1]
theorem wn {p0:List UInt8} {r:(List (List UInt8)) × Int × Int} (h:mY p0=some r):FnO Tryz.prog 102 [.str p0] (.tup [.ref 0,iI r.2.1,iI r.2.2]) [aR 9 1 aO r.1]:=by
 unfold mY at h;refine fT 0 13 Tryz.func102 Tryz.ntmps102 rfl (T.ci h rfl (fun ae h=>?_) (fun ae h=>?_))
 ·refine X 6 0 ?_;cases h;exact tO [(0,9,1)] [0] 0
 refine X 3 0 (itr (fun bU:Int × (List (List UInt8))=>mkA 66 [(0,.str p0),(2,.ref 0),(3,iI bU.1)]) (fun bU=>[aR 9 1 aO bU.2]) h (wk [(2,9,1)] [0] 0 rfl) (fun bU v_13 h jc=>?_));obtain ⟨s1,s2⟩:=bU;replace h:fw p0 s1 s2=some v_13:=h;try dsimp only
 unfold fw at h;refine X 8 1 (T.ci h rfl (fun qq h=>?_) (fun qq h=>?_))
 ·refine B h fun x4 hx4 h=>(X 6 1 (sO (kP Tryz.underlying9 rfl rfl rfl hx4 (B h fun x6 hx6 h=>(Y 5 1 (sQ (cE Tryz.underlying9 rfl rfl hx6 (Y 4 1 (j1 [(0,.str p0),(2,.ref 0),(3,iI s1),(5,.str x4),(6,iI (IntKind.i64.wrap (x6.toNat:Int))),(33,.bool ((decide ((IntKind.i64.wrap (x6.toNat:Int))<1)) || ((decide ((IntKind.i64.wrap (x6.toNat:Int)) > 60)) || decide (((x4).length:Int)<(IntKind.i64.wrap ((IntKind.i64.wrap (x6.toNat:Int))+3))))))] [aR 9 1 aO s2] ?_ (fun hK=>?_))))))))))
  ·refine T.ci h rfl (fun fG h=>?_) (fun fG h=>?_)
   ·refine X 1 1 ?_;replace h:=mi h jc;refine X 8 1 ?_;cases h;exact tO [] [0] 1
   refine B h fun x10 bd h=>(B h fun x11 bE h=>(X 6 1 (sO (kP Tryz.underlying9 rfl rfl rfl bd (sO (cF (wK bE) ⟨rfl,(B h fun x15 dU h=>(B h fun x16 dK h=>(B h fun x17 ce h=>(Y 4 1 (T.drawn mixed (k:=14) rfl ?_)))))⟩))))))
   refine rq [0,1,2] 11 (r0 3 rfl (cE Tryz.underlying9 rfl rfl dU (rq [4] 9 (r0 5 rfl (v_shl rfl rfl dK (rq [6,7,8] 5 (r0 9 rfl (cE Tryz.underlying9 rfl rfl ce (rq [10,11,12,13] 0 (RA.done (by decide +kernel) (T.ci h rfl (fun cq h=>?_) (fun cq h=>?_))))))))))))
   ·refine X 1 1 ?_;replace h:=mi h jc;refine X 8 1 ?_;cases h;exact tO [] [0] 1
   exact B h fun x20 ee h=>(B h fun x21 l6 h=>(X 7 1 (sO (kP Tryz.underlying9 rfl rfl rfl ee (sO (bl (rows:=List.map aO [x20]) (vs:=[.str x20]) Ty.s33 Ty.z9 rfl rfl rfl rfl rfl rfl (sO (b6 (en:=aO) (xs:=s2) (ys:=([x20]:List (List UInt8))) Ty.s33 (fun _=>rfl) rfl rfl rfl l6 rfl rfl (Y 9 3 (lk h (wk [] [2] 3 rfl)))))))))))
  refine X 5 1 (gp 23 (fun fk=>?_) (fun fk=>?_))
  ·refine Yp 11 1 ?_;rw [fk] at hK;exact sx hK
  refine Yp 4 1 (gp 27 (fun fo=>?_) (fun fo=>?_))
  ·refine Yp 7 1 ?_;rw [fk] at hK;rw [fo] at hK;exact sx hK
  refine Yp 7 1 ?_;rw [fk] at hK;rw [fo] at hK;exact sx hK
 refine X 1 1 ?_;replace h:=mi h jc;refine X 8 1 ?_;cases h;exact tO [] [0] 1
theorem vV {p0 p1:Int} {p2:List (List UInt8)} {p3:List Write} {r:(List UInt8) × Bool} (h:my p0 p1 p2 p3=some r):FnX Tryz.prog 101 [iI p0,.ptr 0 0,.ptr 1 0] [.box [iI p1],.box [sL aO p2,sL a9 p3]] (.tup [.str r.1,.bool r.2]) [.box [iI p1],.box [sL aO p2,sL a9 p3]]:=by
 unfold my at h;refine fT 2 19 Tryz.func101 Tryz.ntmps101 rfl (sQ (al Ty.s33 rfl (Y 2 2 (T.ci h rfl (fun ae h=>?_) (fun ae h=>?_)))))
 ·refine X 5 2 ?_;cases h;exact tN [0,1]
 refine B h fun x3 hx3 h=>(B h fun x4 hx4 h=>(X 6 2 (sQ (aE Ty.s33 (fun _=>rfl) rfl rfl hx3 (Y 1 2 (sO (cO 2 (wn hx4) ⟨rfl,(Y 9 3 ?_)⟩)))))))
 obtain ⟨qv,hz,h⟩:=bind_some h;revert hz h;revert qv;intro c11 hz h;refine j1 [(7,.ref 2),(57,.bool c11)] [.box [iI p1],.box [sL aO p2,sL a9 p3],aR 9 1 aO x4.1] ?_ (fun hK=>?_)
 ·refine T.ci h rfl (fun aP h=>?_) (fun aP h=>?_)
  ·refine X 5 3 ?_;cases h;exact tN [0,1]
  refine B h fun x14 cT h=>(B h fun x15 dU h=>(X 4 3 (sQ (aN (en:=aO) Ty.s33 rfl rfl rfl cT (sO (aV (en:=aO) (a:=x15) rfl rfl dU (aH Ty.k9 (c:=.str x15) rfl (Y 3 3 ?_))))))))
  cases h;exact tN [0,1]
 refine X 3 3 (sQ (dk (en:=aO) Ty.s33 rfl rfl (Y 2 3 (gi 32 hz (fun ab hz=>?_) (fun ab hz=>?_)))))
 ·refine Yp 26 3 ?_;cases hz;exact sx hK
 refine B hz fun x5 hx5 hz=>(Y 4 3 (yQ rfl (aE Ty.s33 (fun _=>rfl) rfl rfl hx5 (Yp 5 3 (gi 42 hz (fun ao hz=>?_) (fun ao hz=>?_))))))
 ·refine Yp 16 3 ?_;cases hz;exact sx hK
 refine B hz fun x6 hx6 hz=>(B hz fun x7 hx7 hz=>(Y 1 3 (yQ rfl (aN (en:=aO) Ty.s33 rfl rfl rfl hx6 (yO rfl (aV (en:=aO) (a:=x7) rfl rfl hx7 (aH Ty.k9 (c:=.str x7) rfl (Yp 4 3 (gi 49 hz (fun aC hz=>?_) (fun aC hz=>?_))))))))))
 ·refine Yp 9 3 ?_;cases hz;exact sx hK
 refine B hz fun x8 hx8 hz=>(B hz fun x9 hx9 hz=>(B hz fun x10 bd hz=>(Y 1 3 (yQ rfl (aN (en:=aO) Ty.s33 rfl rfl rfl hx8 (yO rfl (aV (en:=aO) (a:=x9) rfl rfl hx9 (aH Ty.k9 (c:=.str x9) rfl (yQ rfl (cE Tryz.underlying9 rfl rfl bd (Yp 5 3 ?_)))))))))))
 cases hz;exact sx hK
theorem Ef {p0:Disk} {p1:Int} {r:(List UInt8) × Int × Int} (h:nt p0 p1=some r):Fn Tryz.prog 57 [.agg (bX p0),iI p1] (.tup [.str r.1,iI r.2.1,iI r.2.2]):=by
 unfold nt at h;refine fT 0 0 Tryz.func57 Tryz.ntmps57 rfl ?_;refine B h fun x2 hx2 h=>(X 12 0 (sO (cF (kM hx2) ⟨rfl,(Y 7 2 (T.ci h rfl (fun ae h=>?_) (fun ae h=>?_)))⟩)))
 ·refine X 7 2 ?_;cases h;exact tD
 refine X 2 2 (j1 [(2,.ptr 0 0),(3,.ptr 1 0),(4,.str []),(25,.bool ((decide (p1<0)) || decide (p1 > 1)))] [.box (bX p0),.box [iI p1]] ?_ (fun hK=>?_))
 ·refine T.ci h rfl (fun ao h=>?_) (fun ao h=>?_)
  ·refine X 6 2 ?_;cases h;exact tD
  refine B h fun x5 hx5 h=>(X 9 2 (sO (cG [1,0] 2 2 (vV hx5) ⟨rfl,(Y 7 2 ?_)⟩)))
  obtain ⟨vG,hz,h⟩:=bind_some h;revert hz h;revert vG;intro c8 hz h;refine j1 [(4,.str []),(8,.func 101 [.ptr 0 0,.ptr 1 0]),(9,.str x5.1),(50,.bool c8)] [.box [iI p1],.box (bX p0)] ?_ (fun hK=>?_)
  ·refine T.ci h rfl (fun bx h=>?_) (fun bx h=>?_)
   ·refine X 6 2 ?_;cases h;exact tD
   refine X 7 2 (itr (fun cV:(List UInt8) × Int=>mkA 112 [(4,.str cV.1),(8,.func 101 [.ptr 0 0,.ptr 1 0]),(9,.str x5.1),(11,iI cV.2)]) (fun cV=>[.box [iI p1],.box (bX p0)]) h (wk [] [0,1] 2 rfl) (fun cV v_30 h fj=>?_));obtain ⟨s9,s10⟩:=cV;replace h:kX p0 p1 x5 s9 s10=some v_30:=h;try dsimp only
   unfold kX at h;refine B h fun x12 bt h=>(X 5 2 (sQ (cE Tryz.underlying9 rfl rfl bt (Y 3 2 (T.ci h rfl (fun lQ h=>?_) (fun lQ h=>?_))))))
   ·refine B h fun x14 cT h=>(X 7 2 (sO (cG [0,1] 2 2 (vV cT) ⟨rfl,(Y 6 2 ?_)⟩)))
    obtain ⟨J9,hz,h⟩:=bind_some h;revert hz h;revert J9;intro c16 hz h;refine j1 [(4,.str s9),(8,.func 101 [.ptr 0 0,.ptr 1 0]),(9,.str x5.1),(11,iI s10),(12,.str x14.1),(13,.bool x14.2),(14,.bool c16)] [.box [iI p1],.box (bX p0)] ?_ (fun hK=>?_)
    ·refine X 1 2 ?_;obtain ⟨Ka,hz,h⟩:=bind_some h;revert hz h;revert Ka;intro c21 hz h;refine j1 [(4,.str s9),(8,.func 101 [.ptr 0 0,.ptr 1 0]),(9,.str x5.1),(11,iI s10),(12,.str x14.1),(103,.bool c21)] [.box [iI p1],.box (bX p0)] ?_ (fun hK=>?_)
     ·refine T.ci h rfl (fun lT h=>?_) (fun lT h=>?_)
      ·refine X 6 2 ?_;replace h:=mi h fj;cases h;exact tD
      exact B h fun x22 fK h=>(B h fun x23 ed h=>(X 4 2 (sO (kP Tryz.underlying9 rfl rfl rfl fK (sQ (nK rfl rfl ed (Y 7 2 (lk h (wk [] [0,1] 2 rfl)))))))))
     refine X 1 2 ?_;rcases bn (!x14.2) with cz | cz
     ·replace hz:=bT hz cz;refine T.drawn mixed (k:=20) rfl (rq [0,1,2] 17 (r2 3 rfl cz (r2 4 rfl cz (r2 5 rfl cz (r2 6 rfl cz (r2 7 rfl cz (r0 8 rfl (bg (v:=.bool true) rfl cz rfl (rq [9] 10 (r2 10 rfl rfl ?_))))))))));exact r2 11 rfl rfl (r2 12 rfl rfl (r2 13 rfl rfl (r2 14 rfl rfl (r0 15 rfl (bg (v:=.bool true) rfl rfl rfl (rq [16] 3 (r2 17 rfl rfl (r2 18 rfl rfl (r0 19 rfl (bg (v:=.bool true) rfl rfl rfl (RA.done (by decide +kernel) (T.sub hK ⟨rfl,rfl,rfl,rfl,rfl,(congrArg AV.bool ((congrArg (fun p=>p) (Ky hz)).symm)).symm,tqz⟩))))))))))))
     replace hz:=bS hz cz;refine B hz fun x17 ce hz=>(B hz fun x18 cY hz=>?_)
     rcases bn ((x17.toNat:Int) != (x18.toNat:Int)) with aU | aU
     ·replace hz:=bT hz aU;refine T.drawn mixed (k:=20) rfl (rq [0,1,2] 17 (ry 3 cz rfl (r1 4 rfl cz (cE Tryz.underlying9 rfl rfl ce (ry 5 cz rfl (r1 6 rfl cz (cE Tryz.underlying9 rfl rfl cY (ry 7 cz rfl (r0 8 rfl (aY (v:=.bool ((x17.toNat:Int) != (x18.toNat:Int))) rfl cz rfl (rq [9] 10 (r2 10 rfl aU ?_))))))))))));exact r2 11 rfl aU (r2 12 rfl aU (r2 13 rfl aU (r2 14 rfl aU (r0 15 rfl (bg (v:=.bool true) rfl aU rfl (rq [16] 3 (r2 17 rfl rfl (r2 18 rfl rfl (r0 19 rfl (bg (v:=.bool true) rfl rfl rfl (RA.done (by decide +kernel) (T.sub hK ⟨rfl,rfl,rfl,rfl,rfl,(congrArg AV.bool ((congrArg (fun p=>p) (Ky hz)).symm)).symm,tqz⟩))))))))))))
     replace hz:=bS hz aU;refine B hz fun x19 dj hz=>(B hz fun x20 ee hz=>?_)
     rcases bn ((x19.toNat:Int) != (x20.toNat:Int)) with fb | fb
     ·replace hz:=bT hz fb;refine T.drawn mixed (k:=20) rfl (rq [0,1,2] 17 (ry 3 cz rfl (r1 4 rfl cz (cE Tryz.underlying9 rfl rfl ce (ry 5 cz rfl (r1 6 rfl cz (cE Tryz.underlying9 rfl rfl cY (ry 7 cz rfl (r0 8 rfl (aY (v:=.bool ((x17.toNat:Int) != (x18.toNat:Int))) rfl cz rfl (rq [9] 10 (ry 10 aU rfl ?_))))))))))));exact r1 11 rfl aU (cE Tryz.underlying9 rfl rfl dj (ry 12 aU rfl (r1 13 rfl aU (cE Tryz.underlying9 rfl rfl ee (ry 14 aU rfl (r0 15 rfl (aY (v:=.bool ((x19.toNat:Int) != (x20.toNat:Int))) rfl aU rfl (rq [16] 3 (r2 17 rfl fb (r2 18 rfl fb (r0 19 rfl (bg (v:=.bool true) rfl fb rfl (RA.done (by decide +kernel) (T.sub hK ⟨rfl,rfl,rfl,rfl,rfl,(congrArg AV.bool ((congrArg (fun p=>p) (Ky hz)).symm)).symm,tqz⟩))))))))))))))
     replace hz:=bS hz fb;refine T.drawn mixed (k:=20) rfl (rq [0,1,2] 17 (ry 3 cz rfl (r1 4 rfl cz (cE Tryz.underlying9 rfl rfl ce (ry 5 cz rfl (r1 6 rfl cz (cE Tryz.underlying9 rfl rfl cY (ry 7 cz rfl (r0 8 rfl (aY (v:=.bool ((x17.toNat:Int) != (x18.toNat:Int))) rfl cz rfl (rq [9] 10 (ry 10 aU rfl ?_))))))))))));exact r1 11 rfl aU (cE Tryz.underlying9 rfl rfl dj (ry 12 aU rfl (r1 13 rfl aU (cE Tryz.underlying9 rfl rfl ee (ry 14 aU rfl (r0 15 rfl (aY (v:=.bool ((x19.toNat:Int) != (x20.toNat:Int))) rfl aU rfl (rq [16] 3 (ry 17 fb rfl (ry 18 fb rfl (r0 19 rfl (aY (v:=.bool (!c16)) rfl fb rfl (RA.done (by decide +kernel) (T.sub hK ⟨rfl,rfl,rfl,rfl,rfl,(congrArg AV.bool ((congrArg (fun p=>p) (Ky hz)).symm)).symm,tqz⟩))))))))))))))
    refine X 6 2 ?_;rcases bn (((x14.1).length:Int)==53) with dS | dS
    ·replace hz:=bT hz dS;exact gT 67 dS (Yp 18 2 (T.sub hK ⟨rfl,rfl,rfl,rfl,rfl,rfl,(congrArg AV.bool ((congrArg (fun p=>p) (Ky hz)).symm)).symm,tqz⟩))
    replace hz:=bS hz dS;refine B hz fun x15 dU hz=>(yg 2 dS (yg 2 dS (yQ dS (cE Tryz.underlying9 rfl rfl dU (yg 2 dS (yg 2 dS (yg 2 dS ?_)))))))
    rcases bn (s10==(IntKind.i64.wrap (x15.toNat:Int))) with il | il
    ·replace hz:=bT hz il;refine yg 2 il (yg 2 il (yg 2 il (yQ dS (bg (v:=.bool (decide (((x14.1).length:Int) > 3))) rfl il rfl (yg 2 dS ?_)))));rcases bn (decide (((x14.1).length:Int) > 3)) with lR | lR
     ·replace hz:=bT hz lR;exact gT 78 lR (Y 3 2 (gF 67 dS (Yp 4 2 (T.sub hK ⟨rfl,rfl,rfl,rfl,rfl,rfl,(congrArg AV.bool ((congrArg (fun p=>p) (Ky hz)).symm)).symm,tqz⟩))))
     replace hz:=bS hz lR;exact gF 78 lR (Y 3 2 (gF 67 dS (Yp 4 2 (T.sub hK ⟨rfl,rfl,rfl,rfl,rfl,rfl,(congrArg AV.bool ((congrArg (fun p=>p) (Ky hz)).symm)).symm,tqz⟩))))
    replace hz:=bS hz il;exact gF 73 il (Y 3 2 (gF 67 dS (Yp 9 2 (T.sub hK ⟨rfl,rfl,rfl,rfl,rfl,rfl,(congrArg AV.bool ((congrArg (fun p=>p) (Ky hz)).symm)).symm,tqz⟩))))
   refine X 1 2 ?_;replace h:=mi h fj;refine B h fun x25 lU h=>(X 1 2 (T.drawn mixed (k:=7) rfl (rq [0,1] 5 (r0 2 rfl (cE Tryz.underlying9 rfl rfl lU (rq [3,4,5,6] 0 (RA.done (by decide +kernel) ?_)))))))
   cases h;exact tD
  refine X 5 2 (gi 34 hz (fun aC hz=>?_) (fun aC hz=>?_))
  ·refine Yp 17 2 ?_;cases hz;exact wu hK [] [1,0] 2 rfl
  refine Yp 5 2 (gi 39 hz (fun aK hz=>?_) (fun aK hz=>?_))
  ·refine Yp 12 2 ?_;cases hz;exact wu hK [] [1,0] 2 rfl
  refine B hz fun x6 hx6 hz=>(Y 1 2 (yQ rfl (cE Tryz.underlying9 rfl rfl hx6 (Yp 4 2 (gi 45 hz (fun aP hz=>?_) (fun aP hz=>?_))))))
  ·refine Yp 6 2 ?_;cases hz;exact wu hK [] [1,0] 2 rfl
  refine B hz fun x7 hx7 hz=>(Y 1 2 (yQ rfl (cE Tryz.underlying9 rfl rfl hx7 (Yp 4 2 ?_))))
  cases hz;exact wu hK [] [1,0] 2 rfl
 refine X 5 2 (gp 22 (fun ab=>?_) (fun ab=>?_))
 ·refine Yp 4 2 ?_;rw [ab] at hK;exact sx hK
 refine Yp 4 2 ?_;rw [ab] at hK;exact sx hK
theorem aQ {p0:List UInt8} {r:(Int × (List UInt8)) ⊕ Unit} (h:de p0=some r):FnP Tryz.prog (.iface 173 (.agg #[])) 105 [.ptr 0 0] [.box [.str p0]] (fun r:Int × (List UInt8)=>iI r.1) (fun r=>[.box [.str r.2]]) r:=by
 unfold de at h;refine fnPT 1 Tryz.func105 Tryz.ntmps105 ?_;refine q0 ?_;refine X 20 1 (itr (fun ak:Int × Int=>mkA 55 [(0,.ptr 0 0),(2,iI 0),(3,.int .u64 ak.1),(10,iI (if ((p0).length:Int)<10 then ((p0).length:Int) else 10)),(11,iI ak.2)]) (fun ak=>[.box [.str p0]]) h (wk [] [0] 1 rfl) (fun ak v_6 h bp=>?_));obtain ⟨s1,s2⟩:=ak;replace h:dV p0 s1 s2=some v_6:=h;try dsimp only
 unfold dV at h;refine X 5 1 (T.ci h rfl (fun bB h=>?_) (fun bB h=>?_))
 ·refine B h fun x5 hx5 h=>(B h fun x6 hx6 h=>(X 16 1 (sQ (cE Tryz.underlying9 rfl rfl hx5 (Y 4 1 (sQ (v_shl rfl rfl hx6 (B h fun x8 hx8 h=>(Y 10 1 (sQ (cE Tryz.underlying9 rfl rfl hx8 (Y 2 1 ?_))))))))))))
  refine T.ci h rfl (fun bx h=>?_) (fun bx h=>?_)
  ·refine B h fun x10 bd h=>(X 9 1 (sO (kP Tryz.underlying9 rfl rfl rfl bd (B h fun x12 bt h=>(Y 7 1 (sQ (ij rfl rfl bt (Y 8 1 ?_))))))))
   replace h:=mi h bp;cases h;exact tN [0]
  exact X 5 1 (lk h (wk [] [0] 1 rfl))
 refine X 1 1 ?_;replace h:=mi h bp;cases h;(refine T.rP (V:=(.iface 173 (.agg #[]))) 2 rfl ?_);exact go 1 1 (sO (ld Tryz.underlying173 rfl rfl (RS.nil (PP.panic rfl rfl))))
theorem vR {p0:List UInt8} {r:((List Int) × (List UInt8)) ⊕ Unit} (h:mj p0=some r):FnP Tryz.prog (.iface 173 (.agg #[])) 104 [.ptr 0 0,.bnd 105 [.ptr 0 0]] [.box [.str p0]] (fun r:(List Int) × (List UInt8)=>.ref 1) (fun r=>[.box [.str r.2],aR 3 1 ai r.1]) r:=by
 unfold mj at h;refine fnPT 1 Tryz.func104 Tryz.ntmps104 ?_;refine q0 ?_;refine X 5 1 (cm h (fun hx2 h=>?_) (fun x2 hx2 h=>?_))
 ·cases h;(refine T.rP (V:=(.iface 173 (.agg #[]))) 1 rfl ?_);exact go 1 1 (RS.nil (qc (aw2:=[.dead]) (n0:=1) (n1:=1) [0] rfl rfl (aQ hx2) (aq rfl ⟨aF rfl,tqz⟩ ap) ⟨am rfl,tqz⟩ ⟨.inl ⟨0,_,by decide,rfl,tqz⟩,tqz⟩ rfl))
 refine X 2 1 (sO (bf (aw2:=[.box [.str x2.2]]) (v':=iI x2.1) (n0:=1) (n1:=1) [0] rfl rfl (aQ hx2) (aq rfl ⟨aF rfl,tqz⟩ ap) ⟨am rfl,tqz⟩ (an (aI _ _)) ⟨.inl ⟨0,_,by decide,rfl,aT ⟨an (aX _),tqz⟩⟩,tqz⟩ (Y 3 1 (j1 [(1,.bnd 105 [.ptr 0 0]),(5,iI x2.1),(19,.bool ((decide (x2.1<0)) || decide (x2.1 > ((x2.2).length:Int))))] [.box [.str x2.2]] ?_ (fun hK=>?_)))))
 ·refine T.ci h rfl (fun ab h=>?_) (fun ab h=>?_)
  ·cases h;(refine T.rP (V:=(.iface 173 (.agg #[]))) 2 rfl ?_);exact go 1 1 (sO (ld Tryz.underlying173 rfl rfl (RS.nil (PP.panic rfl rfl))))
  refine X 12 1 (itr (fun ak:Int × (List UInt8) × (List Int)=>mkA 32 [(1,.bnd 105 [.ptr 0 0]),(6,.ref 1),(22,iI x2.1),(23,iI ak.1)]) (fun ak=>[.box [.str ak.2.1],aR 3 1 ai ak.2.2]) h (wk [(6,3,1)] [0,1] 1 rfl) (fun ak v_6 h bp=>?_));obtain ⟨s4,s5,s6⟩:=ak;replace h:iz x2 s4 s5 s6=some v_6:=h;try dsimp only
  unfold iz at h;refine X 5 2 (T.ci h rfl (fun bB h=>?_) (fun bB h=>?_))
  ·refine X 3 2 (cm h (fun hx7 h=>?_) (fun x7 hx7 h=>?_))
   ·replace h:=mi h bp;cases h;(refine T.rP (V:=(.iface 173 (.agg #[]))) 2 rfl ?_);exact go 2 2 (RS.nil (qcb (aw2:=[.dead,aR 3 1 ai s6]) (n0:=2) (n1:=1) [0] rfl rfl (aQ hx7) (aq rfl ⟨aF rfl,tqz⟩ ap) ⟨am rfl,tqz⟩ ⟨.inl ⟨0,_,by decide,rfl,tqz⟩,.inr ⟨rfl,rfl⟩,tqz⟩ rfl))
   refine B h fun x8 hx8 h=>(X 3 2 (sO (tU (aw2:=[.box [.str x7.2],aR 3 1 ai s6]) (v':=iI x7.1) (n0:=2) (n1:=1) [0] rfl rfl (aQ hx7) (aq rfl ⟨aF rfl,tqz⟩ ap) ⟨am rfl,tqz⟩ (an (aI _ _)) ⟨.inl ⟨0,_,by decide,rfl,aT ⟨an (aX _),tqz⟩⟩,.inr ⟨rfl,rfl⟩,tqz⟩ (sO (bl (rows:=List.map ai [x7.1]) (vs:=[iI x7.1]) Ty.s27 Ty.z3 rfl rfl rfl rfl rfl rfl (sO (b6 (en:=ai) (xs:=s6) (ys:=([x7.1]:List Int)) Ty.s27 (fun _=>rfl) rfl rfl rfl hx8 rfl rfl (Y 6 4 ?_))))))))
   exact lk h (wk [] [0,3] 4 rfl)
  refine X 1 2 ?_;replace h:=mi h bp;refine X 5 2 ?_;cases h;exact tO [] [0,1] 2
 refine X 5 1 (gp 11 (fun ae=>?_) (fun ae=>?_))
 ·refine Yp 9 1 ?_;rw [ae] at hK;exact sx hK
 refine Yp 9 1 ?_;rw [ae] at hK;exact sx hK
end
section
open Go.RowKit
section
variable {P:Program} {N n:Nat} {σ:List Value} {w:World} {F:Nat→Prop} {aw aw':List Ob} {l:List (Nat × AV)} {K2:AV→List Ob→Prop} {d:Option Tmp} {ty:TypeId} {ps:String} {af:Array Edge} {g:Option (Nat × Bool)}
theorem Hm {id:Nat} {o o':Ob} {v:Value} (h:Sim aw σ w F) (ho:aw[id]?=some o) (hl:o.live=true) (hv:σ[id]?=some v) (hr:ORel σ w F o' v) (hb:∀ b,Bk o' v b->Bk o v b) :
  Sim (aw.set id o') σ w F/\∀ b,Dof (aw.set id o') σ b->Dof aw σ b:=by
 have old:∀ (k:Nat) p u b,(aw.set id o')[k]?=some p->p.live=true->σ[k]?=some u->Bk p u b->∃ q,aw[k]?=some q/\q.live=true/\Bk q u b:=fun k p u b hp hpl hu hbk=>by
  rcases eo hp with ⟨rfl,rfl,_⟩ | ⟨_,h2⟩
  ·rw [hv] at hu;cases hu;exact ⟨o,ho,hl,hb b hbk⟩
  ·exact ⟨p,h2,hpl,hbk⟩
 refine ⟨⟨by rw [Lw];exact h.len,fun k p u hp hu=>?_,fun k k' p p' u u' b hne hp hp' hpl hpl' hu hu' hbk hbk'=>?_,h.lt⟩,fun b hd=>?_⟩
 ·rcases eo hp with ⟨rfl,rfl,_⟩ | ⟨_,h2⟩
  ·rw [hv] at hu;cases hu;exact hr
  ·exact h.obj k p u h2 hu
 ·obtain ⟨q,h1,h2,h3⟩:=old k p u b hp hpl hu hbk
  obtain ⟨q',h1',h2',h3'⟩:=old k' p' u' b hp' hpl' hu' hbk'
  exact h.sep k k' q q' u u' b hne h1 h1' h2 h2' hu hu' h3 h3'
 ·obtain ⟨k,p,u,hp,hpl,hu,hbk⟩:=hd
  obtain ⟨q,h1,h2,h3⟩:=old k p u b hp hpl hu hbk
  exact ⟨k,q,u,h1,h2,hu,h3⟩
theorem IR {aw0 aw2:List Ob} {σ0:List Value} {w0:World} {F0:Nat->Prop} (h:Mv aw0 σ0 w0 F0 aw σ w F) (hd:∀ b,Dof aw2 σ b->Dof aw σ b):Mv aw0 σ0 w0 F0 aw2 σ w F :=
 ⟨h.os,h.tape,h.output,h.size,h.keep,h.pre,h.sub,h.sup,fun b hb=>h.own b (hd b hb)⟩
def unB:Ob->Ob
 | .boxB _ cs=>.box cs
 | o=>o
theorem yX (o:Ob):(unB o).live=o.live:=by cases o<;>rfl
theorem A3 {o:Ob} {v:Value} {b:Nat}:Bk (unB o) v b ↔ Bk o v b:=by cases o<;>exact Iff.rfl
theorem HA (h:Sim aw σ w F):Sim (aw.map unB) σ w F:=by
 have old:∀ (k:Nat) p,(aw.map unB)[k]?=some p->∃ q,aw[k]?=some q/\p=unB q:=fun k p hp=>by rw [KA] at hp;obtain ⟨q,h1,h2⟩:=KO.1 hp;exact ⟨q,h1,h2.symm⟩
 refine ⟨by rw [KE];exact h.len,fun k p u hp hu=>?_,fun k k' p p' u u' b hne hp hp' hpl hpl' hu hu' hbk hbk'=>?_,h.lt⟩
 ·obtain ⟨q,h1,rfl⟩:=old k p hp;have hr:=h.obj k q u h1 hu;cases q with
  | boxB t cs =>
   obtain ⟨g,vs,e1,hg,hr1,h11,hf⟩:=hr;exact ⟨g,vs,t,e1,hg,hr1,h11,hf⟩
  | _=>exact hr
 ·obtain ⟨q,h1,rfl⟩:=old k p hp;obtain ⟨q',h1',rfl⟩:=old k' p' hp';exact h.sep k k' q q' u u' b hne h1 h1' (by rw [<- yX];exact hpl) (by rw [<- yX];exact hpl') hu hu' (A3.1 hbk) (A3.1 hbk')
theorem OP.qB {o:Oper} (hq:∀ K:AV->Prop,vcQ P (mkA n l) (aw.map unB) o.op K->∀ σ w F a,ARel σ w F (mkA n l) a->Sim (aw.map unB) σ w F->∃ v r,(execOp a.eval o).run P w=.ok (.value v) w/\Rel σ w F r v/\K r)
  (h:vcQ P (mkA n l) (aw.map unB) o.op fun r=>K2 r aw):OP P N o (mkA n l) aw K2 :=
 OP.of_ok fun σ w F a ha hs=>by obtain ⟨v,r,h1,h2,h3⟩:=hq _ h σ w F a ha (HA hs);exact ⟨v,_,w,aw,σ,F,r,h1,.inl rfl,hs,.refl _ _ _ _,h2,h3⟩
theorem OP.qB' {o:Oper} (h:vcQ P (mkA n l) (aw.map unB) o.op fun r=>K2 r aw):OP P N o (mkA n l) aw K2 :=
 OP.qB (fun K hK σ w F a ha hs=>by obtain ⟨v,r,h1,h2,h3⟩:=uF ha hs o hK;exact ⟨v,r,h1 w (fun _ _=>rfl),h2,h3⟩) h
theorem Gv {t:TypeId} {x y:Operand} {id off T:Nat} {cs vs:List AV} (hx:evA n l x=.ptr id off) (hob:aw[id]?=some (.boxB T cs)) (hvs:(evA n l y).cells=some vs) {du:TypeDesc} (hsome:P.underlying t=some du) (hlen:vs.length=P.cellsOf t) (hfit:off+vs.length<=cs.length)
  (haw:aw.set id (.boxB T (splice cs off vs))=aw') (h:K2 .any aw'):OP P N ⟨d,.store t x y,ty,ps,af,g⟩ (mkA n l) aw K2 :=
 OP.of_ok fun σ w F a ha hs=>by
  subst haw;have hex:=ha.ev x;rw [aD,hx] at hex;obtain ⟨hr,h1⟩:=(ha.ev y).cells (by rw [aD];exact hvs);generalize hv:a.eval x=vx at hex;cases hex with
  | ptr _ _ gg hσ =>
   obtain ⟨g',cur,e1,hg,hcr,hc1,hF⟩:=hs.obj id _ _ hob hσ;injection e1 with e1
   injection e1 with e1
   injection e1 with e1
   subst e1;have hcl:cur.size=cs.length:=by simpa using hcr.1
   have hul:(a.eval y).cells.toList.length=vs.length:=hr.1;have hst:=run_storeCells_at P gg off T (a.eval y).cells.toList 0 cur w hg (by rw [hul];omega) h1;have hk:∀ b,b≠gg->(w.setRow gg (cJ cur.toList off (a.eval y).cells.toList).toArray).heap[b]?=w.heap[b]?:=fun b hb=>setRow_other w gg b _ hb
   have hself:Sim (aw.set id (.boxB T (splice cs off vs))) σ (w.setRow gg (cJ cur.toList off (a.eval y).cells.toList).toArray) F:=by
    refine hs.write (b0:=gg) id hob rfl hσ rfl hk (by simp) (.boxB T (splice cs off vs)) ⟨gg,_,rfl,setRow_heap w gg cur _ T (0,0) hg,?_,?_,hF⟩ (fun _ h=>h)
    ·have:=(hcr.splice off hr).mono (σ':=σ) (w':=w.setRow gg (cJ cur.toList off (a.eval y).cells.toList).toArray) (F':=F) (fun _ _ e=>e) (fun _ e=>e) (fun b hb=>hk b (fun e=>hF (e▸hb)));simpa using this
    ·intro u hu;exact rh (fun u hu=>hc1 u (Ms.2 hu)) h1 u (by simpa using hu)
   refine ⟨undef,_,_,_,σ,F,.any,?_,.inr ⟨rfl,rfl⟩,hself,Mv.write (w:=w) (F:=F) (w':=w.setRow gg _) (b0:=gg) id hob rfl hσ rfl rfl rfl drO hk (by simp) (.boxB T (splice cs off vs)) (fun _ h=>h),.any _,h⟩;have hsz:(a.eval y).cells.size=P.cellsOf t:=by simp at hul;omega
   simp only [Lq] at hst;simp [execOp,hv,Instr.storeAt,Instr.sureAddr,storeVar,Sem.run_bind,dX hsome,hsz,hst,cJ]
theorem Is {t e z k:Nat} {x:Operand} (hx:(evA n l x).cells=some [.nilp,.nils]) (hk:aw.length=k) (haw:aw++[.boxB t [.np k,.ref (k+1)],.arr e z []]=aw') (h:K2 (.ptr k 0) aw'):OP P N ⟨d,.box t x,ty,ps,af,g⟩ (mkA n l) aw K2 :=
 OP.of_ok fun σ w F a ha hs=>by
  subst hk haw;obtain ⟨hrx,h1x⟩:=(ha.ev x).cells (by rw [aD];exact hx);obtain ⟨s1,m1,r1⟩:=ub hs [.nilp,.nils] (a.eval x).cells t hrx h1x;obtain ⟨s2,m2,r2⟩:=rI e z s1;have hlen:=hs.len;have hσ:(σ++[Value.pointer (some ⟨w.heap.size,0,none⟩)]++[Value.slice none 0 0])[aw.length]?=some (Value.pointer (some ⟨w.heap.size,0,none⟩)):=by simp [<- hlen]
  have hσ2:(σ++[Value.pointer (some ⟨w.heap.size,0,none⟩)]++[Value.slice none 0 0])[aw.length+1]?=some (Value.slice none 0 0):=by simp [<- hlen]
  have hid:(aw++[Ob.box [.nilp,.nils]]++[Ob.arr e z []])[aw.length]?=some (Ob.box [.nilp,.nils]):=by simp
  obtain ⟨gq,vs,tyq,e1,hg,hcr,hc1,hF⟩:=s2.obj _ _ _ hid hσ;injection e1 with e1
  injection e1 with e1
  injection e1 with e1
  subst e1;have hty:(w.alloc (.cells (a.eval x).cells t)).heap[w.heap.size]?=some (.cells (a.eval x).cells t (0,0)):=by show (w.heap.push _)[w.heap.size]?=_;simp
  rw [hty] at hg;cases hg;have hnew:RelL (σ++[Value.pointer (some ⟨w.heap.size,0,none⟩)]++[Value.slice none 0 0]) (w.alloc (.cells (a.eval x).cells t)) F [.np aw.length,.ref (aw.length+1)] (a.eval x).cells.toList:=by
   obtain ⟨hl2,hc⟩:=hcr;refine ⟨hl2,fun j x u hx hu=>?_⟩;match j,hx with
   | 0,hx =>
    cases hx
    have:=hc 0 _ u rfl hu
    cases this
    exact .np0 _
   | 1,hx =>
    cases hx
    have:=hc 1 _ u rfl hu
    cases this
    exact .ref _ _ _ _ hσ2
  obtain ⟨s3,hd3⟩:=Hm s2 hid rfl hσ (o':=.boxB t [.np aw.length,.ref (aw.length+1)]) ⟨_,_,rfl,hty,hnew,hc1,hF⟩ (fun _ h=>h);have e3:(aw++[Ob.box [.nilp,.nils]]++[Ob.arr e z []]).set aw.length (.boxB t [.np aw.length,.ref (aw.length+1)])=aw++[.boxB t [.np aw.length,.ref (aw.length+1)],.arr e z []]:=by simp
  rw [e3] at s3 hd3;refine ⟨_,_,_,_,_,F,.ptr aw.length 0,?_,.inl rfl,s3,IR (m1.trans m2) hd3,.ptr _ _ _ hσ,h⟩;simp [execOp,Instr.box,Sem.run_bind,newVar,newRow]
theorem T.mvBB {T0:Nat} {c:Code} {Q:Exit->List AV->List Ob->Prop} {fr:List AV} (b j id:Nat) {e s n0:Nat} {rows:List (List AV)} {cs cs':List AV} (hb:aw[b]?=some (.boxB T0 cs)) (hj:cs[j]?=some (.ref id)) (ho:aw[id]?=some (.arr e s rows)) (hn:aw.length=n0) (hc:cs.set j (.ref n0)=cs') (ha:(aw.set id .dead).set b (.boxB T0 cs')++[.arr e s rows]=aw') (h:T P N c Q fr aw'):T P N c Q fr aw :=
 ⟨fun st h1 h2 σ w F a hcur=>by
  subst hc ha hn;have hbl:b<aw.length:=(Kt.1 hb).1;have hbσ:∃ vb,σ[b]?=some vb:=⟨_,Ks (by rw [hcur.sim.len];exact hbl)⟩
  obtain ⟨vb,hvb⟩:=hbσ;obtain ⟨g,vs,rfl,hg,hcr,h1c,hf⟩:=hcur.sim.obj b _ vb hb hvb;obtain ⟨u,hu,hru⟩:=hcr.get hj;cases hru with
  | ref _ A m c2 hgσ =>
   obtain ⟨s1,m1⟩:=ug hcur.sim ho hgσ;have hbid:b≠id:=by rintro rfl;rw [hb] at ho;cases ho
   have hb1:(aw.set id .dead++[.arr e s rows])[b]?=some (.boxB T0 cs):=by rw [Kz (by simpa using hbl),KF,if_neg (fun e=>hbid e.symm)];exact hb
   have hnew:ORel (σ++[.slice A m c2]) w F (.boxB T0 (cs.set j (.ref aw.length))) (.pointer (some ⟨g,0,none⟩)):=by
    refine ⟨g,vs,rfl,hg,?_,h1c,hf⟩;have hcr1:=m1.relL hcur.sim hcr;have:=hcr1.set j (Rel.ref (σ:=σ++[.slice A m c2]) (w:=w) (F:=F) aw.length A m c2 (by rw [<- hcur.sim.len];simp));have e2:vs.toList.set j (.slice A m c2)=vs.toList:=by obtain ⟨hlt2,hvs⟩:=Kt.1 hu;rw [<- hvs];exact Lr hlt2
    rwa [e2] at this
   have hvb1:(σ++[.slice A m c2])[b]?=some (.pointer (some ⟨g,0,none⟩)):=em hvb;have hset:(aw.set id .dead).set b (.boxB T0 (cs.set j (.ref aw.length)))++[Ob.arr e s rows]=(aw.set id .dead++[Ob.arr e s rows]).set b (.boxB T0 (cs.set j (.ref aw.length))):=by rw [List.set_append_left _ _ (by simpa using hbl)]
   rw [hset] at h;have s2:=s1.write (b0:=g) b hb1 rfl hvb1 rfl (fun _ _=>rfl) rfl _ hnew (fun _ h=>h);have m2:=Mv.write (w:=w) (w':=w) (F:=F) (b0:=g) b hb1 rfl hvb1 rfl rfl rfl drO (fun _ _=>rfl) rfl (.boxB T0 (cs.set j (.ref aw.length))) (fun _ h=>h);exact h.out st h1 h2 _ w F a ⟨s2,m2.aRel s1 (m1.aRel hcur.sim hcur.fr),(hcur.mv.trans m1).trans m2,hcur.ds⟩⟩
theorem DV {t id off T:Nat} {x:Operand} {cs:List AV} (hx:evA n l x=.ptr id off) (ho:aw[id]?=some (.boxB T cs)) (h:b7 P t cs off fun r=>K2 r aw):OP P N ⟨d,.load t x,ty,ps,af,g⟩ (mkA n l) aw K2 :=
 OP.qB' (by
  have ho':(aw.map unB)[id]?=some (.box cs):=by rw [KA,ho];rfl
  simp only [vcQ,aD,hx,ho'];exact h)
end
end
section
open Go.RowKit
def Idle (P:Program) (d:Deferred):Prop:=∃ fv cap f args,d.target=.fn fv cap/\(∀ w,(invoke d.target d.args).run P w=.ok (.enter f args) w) /\
 ∀ w,CallsD P f args .returning w fun e u' w'=>(∃ v,e=.returned v)/\u'=.returning/\w'=w
def IdleF (P:Program) (g:FuncId) (k:Nat):Prop:=∀ cvs:List Value,cvs.length=k->Idle P ⟨.fn (.func g) cvs.toArray,#[]⟩
section
variable {P:Program} {N n:Nat} {fr:List AV} {aw:List Ob} {l:List (Nat × AV)} {Q:Exit→List AV→List Ob→Prop}
def CQD (P:Program) (st:St) (Q:Exit->List AV->List Ob->Prop) (e:Exit) (a:Act) (w:World):Prop:=CQ st Q e a w∨∃ d,Idle P d/\CQ { st with ds:=[d] } Q e a w
structure TD (P:Program) (N:Nat) (c:Code) (Q:Exit->List AV->List Ob->Prop) (fr:List AV) (aw:List Ob):Prop where
 out:∀ st:St,st.aw.length=N->st.σ.length=st.aw.length->st.ds=[]->∀ σ w F a,Cur st fr aw σ w F a->c.wp P (CQD P st Q) a w
theorem TD.seq {x y:Code} (h:T P N x (thenA (TD P N y Q) Q) fr aw):TD P N (.seq x y) Q fr aw :=
 ⟨fun st h1 h2 h3 σ w F a hc=>wp_seq (wp_mono (h.out st h1 h2 σ w F a hc) (by
  rintro e a' w' ⟨fr',aw',σ',F',hq,hcur⟩;cases e with
  | normal=>exact TD.out hq st h1 h2 h3 σ' w' F' a' hcur
  | _=>exact .inl ⟨fr',aw',σ',F',hq,hcur⟩))⟩
theorem TD.defer {id:Nat} {ops:Array Oper} {y:Code} {ty:TypeId} {ps:String} {af:Array Edge} {f:Operand} {ts:Array TypeId} (i:Nat) (ho:ops.toList.drop i=[⟨none,.defer ⟨.value f,#[],ts⟩,ty,ps,af,none⟩])
  (h:RS P N ops (ops.toList.take i) (fun fr aw=>∃ l caps g,fr=mkA n l/\evA n l f=.func g caps/\IdleF P g caps.length/\T P N y Q (mkA n l) aw) fr aw):TD P N (.seq (.region id ops false) y) Q fr aw :=
 ⟨fun st h1 h2 h3 σ w F a hc=>by
  refine wp_seq (wp_region_list ?_);rw [<- Lz i ops.toList,ho];refine pi _ _ _ (h.out st h1 h2 σ w F a hc _ fun fr aw σ w F a hc hK=>?_);obtain ⟨l,caps,g,rfl,hf,hI,hT⟩:=hK;show wpList P ops _ (_::[]) a w;unfold wpList;rw [if_pos (by simp [Region.wanted])];refine .inl ?_;have hfv:=hc.fr.ev f;rw [aD,hf] at hfv;generalize hvf:a.eval f=vf at hfv;cases hfv with
  | func _ _ cvs hl hcs =>
   have hrun:(execOp a.eval ⟨none,.defer ⟨.value f,#[],ts⟩,ty,ps,af,none⟩).run P w=.ok (.defer ⟨.fn (.func g) cvs.toArray,#[]⟩) w:=by simp [execOp,resolve,Deferred.ofValue,hvf,Sem.run_bind]
   unfold Oper.wp;rw [hrun,Oper.upon_defer];show wpList P ops _ [] _ w;unfold wpList;refine wp_mono (hT.out { st with ds:=[⟨.fn (.func g) cvs.toArray,#[]⟩] } h1 h2 σ w F _ ?_) fun _ _ _ h=>.inr ⟨_,hI cvs hl,h⟩
   refine ⟨hc.sim,hc.fr,hc.mv,?_⟩;have hds:=hc.ds;rw [h3] at hds;show _::a.defers=_;rw [hds]⟩
end
end
section
open Go.RowKit
set_option maxRecDepth 100000
set_option maxHeartbeats 4000000
theorem H0 (b:Nat) (w:World) (h0:w.cell? ⟨b,0,none⟩=some (.pointer (some ⟨b,0,none⟩))) :
  Calls Tryz.prog 156 #[.pointer (some ⟨b,0,none⟩)] w fun e w'=>e=.returned (.tuple #[])/\w'=w:=by
 obtain ⟨j,hj,hjs⟩:=KO.1 (show (Tryz.prog.info? 157).map (·.size)=some 2 by kernel_rfl)
 go_enter Tryz.func156,Tryz.ntmps156
 go_wp2
 rw [Lib.run_neq_ptr_same w _ Tryz.underlying155 hj]
 go_wp2
 go_end0
 exact ⟨rfl,rfl⟩
theorem F3 (b:Nat) (w:World) (h0:w.cell? ⟨b,0,none⟩=some (.pointer none)) (hsh:w.shape? b=some (159,2)) (hfz:w.frozen? ⟨b,0,none⟩=false) :
  Calls Tryz.prog 156 #[.pointer (some ⟨b,0,none⟩)] w fun e w'=>e=.returned (.tuple #[])/\w'=w.setCell ⟨b,0,none⟩ (.pointer (some ⟨b,0,none⟩)):=by
 obtain ⟨j,hj,hjs⟩:=KO.1 (show (Tryz.prog.info? 157).map (·.size)=some 2 by kernel_rfl)
 go_enter Tryz.func156,Tryz.ntmps156
 go_wp2
 rw [Lib.run_to_unsafe w ⟨b,0,none⟩ Tryz.underlying155 Tryz.underlying230 hj (by rw [hjs];decide) hsh (Nat.zero_lt_succ 1)]
 simp only [Result.andThen]
 rw [Oper.upon_value]
 go_wp2
 rw [run_callFunc_extern Tryz.func184 (by kernel_rfl) (by kernel_rfl) (by kernel_rfl) (e:=Extern.AbiNoEscape.same) (by kernel_rfl)]
 rw [Lib.run_noEscape]
 simp only [Result.andThen]
 rw [Oper.upon_value]
 go_wp2
 rw [Lib.run_from_unsafe w ⟨b,0,none⟩ Tryz.underlying230 Tryz.underlying155 hj hsh (by kernel_rfl)]
 simp only [Result.andThen]
 rw [Oper.upon_value]
 go_wp2
 go_end0
 exact ⟨rfl,rfl⟩
theorem Du (rows:List (List AV)):FnX Tryz.prog 156 [.ptr 0 0] [.boxB 159 [.np 0,.ref 1],.arr 5 1 rows] (.tup []) [.boxB 159 [.np 0,.ref 1],.arr 5 1 rows]:=by
 refine ⟨callable Tryz.func156 rfl (by kernel_rfl),fun w F σ vs hs hr=>?_⟩;match vs,hr with
 | [v0],hr =>
  have r0:Rel σ w F (.ptr 0 0) v0:=hr.2 0 _ v0 rfl rfl
  cases r0 with
  | ptr _ _ g hσ =>
  obtain ⟨g',us,e1,hg,hcr,hc1,hF⟩:=hs.obj 0 _ _ rfl hσ
  injection e1 with e1
  injection e1 with e1
  injection e1 with e1
  subst e1
  have hlen:us.size=2:=by simpa using hcr.1
  obtain ⟨p,hp,hrp⟩:=hcr.get (j:=0) (a:=.np 0) rfl
  have hp':us[0]?=some p:=by simpa using hp
  have hcell:w.cell? ⟨g,0,none⟩=some p:=by rw [World.cell?];simp [hg,hp']
  cases hrp with
  | np0 _ =>
   have hsh:w.shape? g=some (159,2):=by simp [World.shape?,hg,hlen]
   have hfz:w.frozen? ⟨g,0,none⟩=false:=by simp [World.frozen?,hg]
   refine (F3 g w hcell hsh hfz).mono ?_
   rintro e w' ⟨rfl,rfl⟩
   have hk:∀ b,b≠g->(w.setCell ⟨g,0,none⟩ (.pointer (some ⟨g,0,none⟩))).heap[b]?=w.heap[b]?:=fun b hb=>by
    have:¬ g=b:=fun e=>hb e.symm
    rw [Go.Sort.setCell_eq];simp [Go.Sort.mapBlock,LX,this]
   have hsz:(w.setCell ⟨g,0,none⟩ (.pointer (some ⟨g,0,none⟩))).heap.size=w.heap.size:=by rw [Go.Sort.setCell_eq];simp [Go.Sort.mapBlock]
   have hg':(w.setCell ⟨g,0,none⟩ (.pointer (some ⟨g,0,none⟩))).heap[g]?=some (.cells (us.setIfInBounds 0 (.pointer (some ⟨g,0,none⟩))) 159 (0,0)):=by rw [Go.Sort.setCell_eq];simp [Go.Sort.mapBlock,LX,hg,Go.Sort.onCells]
   have hnew:RelL σ (w.setCell ⟨g,0,none⟩ (.pointer (some ⟨g,0,none⟩))) F [.np 0,.ref 1] (us.setIfInBounds 0 (.pointer (some ⟨g,0,none⟩))).toList:=by
    refine ⟨by simp [hlen],fun j x u hx hu=>?_⟩;match j,hx with
    | 0,hx =>
     cases hx
     simp [hlen] at hu
     subst hu
     exact .npS 0 g hσ
    | 1,hx =>
     cases hx
     have hu2:us[1]?=some u:=by simpa using hu
     have:=hcr.2 1 _ u rfl (by simpa using hu2)
     cases this with
     | ref _ A q cp h9=>exact .ref 1 A q cp h9
   have hone:∀ u,u∈us.setIfInBounds 0 (.pointer (some ⟨g,0,none⟩))->u.oneCell'=true:=fun u hu=>by
    rcases Array.mem_or_eq_of_mem_setIfInBounds hu with h | h
    ·exact hc1 u h
    ·subst h;rfl
   have s1:=hs.write (b0:=g) 0 rfl rfl hσ rfl hk hsz (.boxB 159 [.np 0,.ref 1]) ⟨g,_,rfl,hg',hnew,hone,hF⟩ (fun _ h=>h)
   have m1:Mv [.boxB 159 [.np 0,.ref 1],.arr 5 1 rows] σ w F ([Ob.boxB 159 [.np 0,.ref 1],.arr 5 1 rows].set 0 (.boxB 159 [.np 0,.ref 1])) σ (w.setCell ⟨g,0,none⟩ (.pointer (some ⟨g,0,none⟩))) F :=
    Mv.write (aw:=[.boxB 159 [.np 0,.ref 1],.arr 5 1 rows]) (w:=w) (w':=w.setCell ⟨g,0,none⟩ (.pointer (some ⟨g,0,none⟩))) (F:=F) (o:=.boxB 159 [.np 0,.ref 1]) (b0:=g) 0 rfl rfl hσ rfl rfl rfl drO hk hsz (.boxB 159 [.np 0,.ref 1]) (fun _ h=>h)
   exact ⟨_,_,_,σ,F,rfl,⟨rfl,rfl⟩,s1,jP,m1⟩
  | npS _ g2 h2 =>
   rw [hσ] at h2
   cases h2
   refine (H0 g w hcell).mono ?_
   rintro e w' ⟨rfl,rfl⟩
   exact ⟨_,_,_,σ,F,rfl,⟨rfl,rfl⟩,hs,jP,.refl _ _ _ _⟩
theorem I6 (b g cap:Nat) (cur:Array Value) (l:List UInt8) (w:World) (c0:w.cell? ⟨b,1,none⟩=some (.slice (some ⟨g,0,none⟩) l.length cap)) (h0:l≠[]) (hg:w.heap[g]?=some (.cells cur 5 (0,0))) (hnc:l.length<=cap) (hcm:cap<=maxLen) (hcs:cur.size=cap)
  (hx:∀ (j:Nat) x,l[j]?=some x->w.cell? ⟨g,j,none⟩=some (.int .u8 x.toNat)) :
  Calls Tryz.prog 96 #[.pointer (some ⟨b,0,none⟩)] w fun e w'=>e=.returned (.string ⟨l.toArray⟩)/\w'=w.drew.freeze ⟨g,0,none⟩ l.length:=by
 have hl0:l.length≠0:=by simpa using h0
 have c1:w.drew.cell? ⟨b,1,none⟩=some (.slice (some ⟨g,0,none⟩) l.length cap):=c0
 have hSD:(Builtin.unsafeSliceData_ #[152] 217 #[.slice (some ⟨g,0,none⟩) l.length cap]).run Tryz.prog w.drew=.ok (.pointer (some ⟨g,0,none⟩)) w.drew :=
  Lib.run_unsafeSliceData_row _ _ _ _ _ _ (by omega)
 have hUS:(Builtin.unsafeString_ #[217,3] 9 #[.pointer (some ⟨g,0,none⟩),.int .i64 l.length]).run Tryz.prog w.drew=.ok (.string ⟨l.toArray⟩) (w.drew.freeze ⟨g,0,none⟩ l.length):=by
  refine Lib.run_unsafeString_row w.drew 217 3 9 5 Tryz.underlying217 (by kernel_rfl) g cur.size (by have hg':w.drew.heap[g]?=some (.cells cur 5 (0,0)):=hg;simp [World.shape?,hg']) l h0 (by omega) (by unfold maxLen at hcm;omega) ?_;intro j x hj;show w.cell? _=_;have e:(⟨g,0,none⟩:Addr).add j=⟨g,j,none⟩:=by unfold Addr.add;simp;intro h;exact h.symm
  rw [e];exact hx j x hj
 have mixed:=mixed
 clear c0 hx hg
 go_enter Tryz.func96,Tryz.ntmps96
 go_wp2
 go_region_o
 all_goals (go_wp2;go_ret;exact ⟨rfl,rfl⟩)
theorem A0 {σ:List Value} {w:World} {F:Nat->Prop}:∀ (xs:List Int) (flat:List Value),RelL σ w F (xs.map bG).flatten flat->flat=xs.map fun n=>Value.int .u8 n
 | [],flat,h=>KB h.1
 | x::xs,flat,h=>by
  match flat,h with
  | [],h=>exact absurd h.1 (by simp [bG])
  | a::r,h =>
   have h1:Rel σ w F (.int .u8 x) a:=h.2 0 _ a rfl rfl
   have h3:=A0 xs r ⟨by have:=h.1;simp [bG] at this ⊢;omega,fun j y v hy hv=>h.2 (j+1) y v (by simpa [bG] using hy) (by simpa using hv)⟩
   cases h1
   rw [h3];rfl
theorem Fx (xs:List Int) (r:List UInt8) (h:bldS xs=some r):FnX Tryz.prog 96 [.ptr 0 0] [.boxB 159 [.np 0,.ref 1],.arr 5 1 (List.map bG xs)] (.str r) [.dead,.dead]:=by
 unfold bldS at h;split at h;rotate_left
 ·cases h
 rename_i hc;cases h;refine ⟨callable Tryz.func96 rfl (by kernel_rfl),fun w F σ vs hs hr=>?_⟩;match vs,hr with
 | [v0],hr =>
  have r0:Rel σ w F (.ptr 0 0) v0:=hr.2 0 _ v0 rfl rfl
  cases r0 with
  | ptr _ _ b hσ =>
  obtain ⟨b',us,e1,hb,hcr,hc1,hF⟩:=hs.obj 0 _ _ rfl hσ
  injection e1 with e1
  injection e1 with e1
  injection e1 with e1
  subst e1
  have hlen:us.size=2:=by simpa using hcr.1
  obtain ⟨p,hp,hrp⟩:=hcr.get (j:=1) (a:=.ref 1) rfl
  have hp':us[1]?=some p:=by simpa using hp
  have hcell:w.cell? ⟨b,1,none⟩=some p:=by rw [World.cell?];simp [hb,hp']
  cases hrp with
  | ref _ A q cp hσ1 =>
  obtain ⟨hq,flat,hown,hfl,hcase⟩:=fL hs (id:=1) rfl hσ1
  rw [KE] at hq
  subst hq
  rcases hcase with hcase | ⟨g,cur,rfl,hFa,hga,hnc,hcm,hsz,htk⟩
  ·exact absurd (Lf.1 hcase) hc.1
  ·have hflat:=A0 xs flat hfl.2.2
   have hlt:(bR xs).length=xs.length:=by simp [bR]
   have hx:∀ (j:Nat) x,(bR xs)[j]?=some x->w.cell? ⟨g,j,none⟩=some (.int .u8 x.toNat):=fun j x hj=>by
    have hj2:j<xs.length:=by rw [<- hlt];exact (Kt.1 hj).1
    have h1:cur.toList[j]?=some (.int .u8 xs[j]):=by
     have:(cur.toList.take (xs.length*1))[j]?=flat[j]?:=by rw [htk]
     rw [K5,if_pos (by omega),hflat] at this;rw [this];simp [hj2]
    have h2:x=UInt8.ofNat (xs[j]).toNat:=by unfold bR at hj;rw [KA,Ks hj2] at hj;exact (Ky hj).symm
    have h3:=hc.2 xs[j] (K1 hj2);have h4:((UInt8.ofNat (xs[j]).toNat).toNat:Int)=xs[j]:=by rw [UInt8.toNat_ofNat',LM (by omega)];omega
    rw [World.cell?];rw [h2,h4];have h5:cur[j]?=some (.int .u8 xs[j]):=by simpa using h1
    simp [hga,h5]
   have hne:bR xs≠[]:=fun e=>hc.1 (KB (by rw [<- hlt,e];rfl))
   have hS:=I6 b g cp cur (bR xs) w (by rw [hlt];exact hcell) hne hga (by rw [hlt];exact hnc) hcm (by omega) hx
   refine hS.mono ?_
   rintro e w' ⟨rfl,rfl⟩
   have hn0:(bR xs).length≠0:=by simpa using hne
   have hfz:∀ k,k≠g->(w.drew.freeze ⟨g,0,none⟩ (bR xs).length).heap[k]?=w.heap[k]?:=fun k hk=>by
    have:¬ g=k:=fun e=>hk e.symm
    unfold World.freeze;rw [if_neg hn0];show (w.heap.modify g _)[k]?=_;rw [LX,if_neg this]
   have hsize:(w.drew.freeze ⟨g,0,none⟩ (bR xs).length).heap.size=w.heap.size:=by unfold World.freeze;rw [if_neg hn0];show (w.heap.modify g _).size=_;simp
   have hD:Dof [Ob.boxB 159 [.np 0,.ref 1],.arr 5 1 (List.map bG xs)] σ g:=⟨1,_,_,rfl,rfl,hσ1,rfl⟩
   refine ⟨_,_,_,σ,F,rfl,⟨rfl,rfl⟩,⟨by have:=hs.len;simpa using this,fun k o v ho hv=>?_,fun k k' o o' v v' gg hne ho ho' hl=>?_,fun k hk=>by rw [hsize];exact hs.lt k hk⟩,.str _,⟨by unfold World.freeze;rw [if_neg hn0];rfl,by unfold World.freeze;rw [if_neg hn0];rfl,⟨by unfold World.freeze;rw [if_neg hn0];rfl,by unfold World.freeze;rw [if_neg hn0];exact MG _⟩,Nat.le_of_eq hsize.symm,fun k hk hd=>hfz k (fun e=>hd (e▸hD)),fun _ _ h=>h,fun _ h=>h,fun _ h=>.inl h,fun k hd=>?_⟩⟩
   ·match k,ho with
    | 0,ho=>cases ho;trivial
    | 1,ho=>cases ho;trivial
   ·match k,ho with
    | 0,ho=>cases ho;cases hl
    | 1,ho=>cases ho;cases hl
   ·obtain ⟨j,o,v,ho,hl,_⟩:=hd
    match j,ho with
    | 0,ho=>cases ho;cases hl
    | 1,ho=>cases ho;cases hl
end
section
open Go.RowKit
set_option maxRecDepth 100000
set_option maxHeartbeats 4000000
theorem Eh (p q:Value) (w:World) :
  CallsD Tryz.prog 103 #[p,q] .returning w fun e u' w'=>(∃ v,e=.returned v)/\u'=.returning/\w'=w:=by
 refine callsD_of_wpS Tryz.func103 rfl fun c₀ cs hu=>?_
 apply wpS_seq
 apply wpS_region
 simp [wpOpsS,go_sem,recoverD,hu,Tryz.ntmps103,Exit.thenS]
 apply wpS_seq
 apply wpS_region
 simp [wpOpsS,go_sem,Exit.thenS]
 refine wpS_cond (t:=false) (by simp [Act.eval,Array.replicate]) ?_
 simp only [KD,if_false]
 refine wpS_of_wp (wp_skip ?_)
 cases c₀
 simp_all [bodyPostS,results,Tryz.results103]
theorem idleF:IdleF Tryz.prog 103 2:=fun cvs h=>by
 match cvs,h with
 | [p,q],_ =>
  exact ⟨.func 103,#[p,q],103,#[p,q],rfl,fun w=>callable Tryz.func103 rfl (by kernel_rfl) _ w,fun w=>Eh p q w⟩
end
section
open Go.RowKit
abbrev pan1 (V:Value):List PanicEntry:=[{ v:=V,recovered:=false }]
abbrev pan2 (V:Value):List PanicEntry:=[{ v:=V,recovered:=true }]
def CatX (P:Program) (V:Value) (g:FuncId) (args:List AV) (aw aw':List Ob):Prop:=∀ w F σ vs,Sim aw σ w F->RelL σ w F args vs ->
 CallsD P g vs.toArray (.panicking (pan1 V)) w fun e u' w'=>(∃ v,e=.returned v)/\u'=.panicking (pan2 V)/\∃ σ' F',Sim aw' σ' w' F'/\Mv aw σ w F aw' σ' w' F'
structure Caught (P:Program) (V:Value) (g:FuncId) (caps:List AV) (aw aw2:List Ob):Prop where
 out:∃ (ρ:List Nat) (as0:List AV) (aw0 aw1:List Ob),ρ.Nodup/\bQ ρ aw ρ aw0/\b8 ρ as0 caps/\CatX P V g as0 aw0 aw1/\aw2.length+ρ.length=aw.length+aw1.length/\ew (bL ρ aw.length aw1.length) ρ aw aw1 0 aw2
theorem Caught.of {P:Program} {V:Value} {g:FuncId} {caps as0:List AV} {aw aw0 aw1 aw2:List Ob} {n0 n1:Nat} (ρ:List Nat) (hn0:aw.length=n0) (hn1:aw1.length=n1) (hnd:ρ.Nodup) (hW:bQ ρ aw ρ aw0) (hA:b8 ρ as0 caps) (hC:CatX P V g as0 aw0 aw1)
 (hl:aw2.length+ρ.length=n0+n1) (hB:ew (bL ρ n0 n1) ρ aw aw1 0 aw2):Caught P V g caps aw aw2:=by subst hn0 hn1;exact ⟨ρ,as0,aw0,aw1,hnd,hW,hA,hC,hl,hB⟩
section
variable {P:Program} {V:Value} {N n Nf:Nat} {fr:List AV} {aw aw2:List Ob} {l:List (Nat × AV)} {fn:Func} {Q:AV→List Ob→Prop} {g:FuncId} {caps:List AV}
theorem Caught.run {σ:List Value} {w:World} {F:Nat->Prop} {cvs:List Value} (h:Caught P V g caps aw aw2) (hs:Sim aw σ w F) (hr:RelL σ w F caps cvs) :
  CallsD P g cvs.toArray (.panicking (pan1 V)) w fun e u' w'=>(∃ v,e=.returned v)/\u'=.panicking (pan2 V)/\∃ σ' F',Sim aw2 σ' w' F'/\Mv aw σ w F aw2 σ' w' F':=by
 obtain ⟨ρ,as0,aw0,aw1,hnd,hW,hA,hC,hl,hB⟩:=h.out
 obtain ⟨σ0,hσ,hs0,hd0⟩:=gl hs hnd hW
 have hl0:σ0.length=ρ.length:=by rw [hs0.len,(iL hW).1]
 refine (hC w F σ0 cvs hs0 (eO hA hr hσ)).mono ?_
 rintro e u' w' ⟨h1,h2,σ1,F',hs1,hm⟩
 obtain ⟨σ2,s2,m2,_⟩:=pp hs hnd hW hσ hl0 hs0 hd0 hs1 hm hl hB
 exact ⟨h1,h2,σ2,F',s2,m2⟩
section
variable {aw:List Ob} {K2:AV→List Ob→Prop} {d:Option Tmp} {ty:TypeId} {ps:String} {af:Array Edge} {gd:Option (Nat × Bool)}
theorem FZ (k:Nat) {t ti:TypeId} {its:Array (String × TypeId)} (hu:P.underlying t=some (.interface its)) (u:Value) (w:World):(Op.equalIn (k+1) t (.iface ti u) .nilIface).run P w=.ok false w:=by simp [Op.equalIn,Sem.run_bind,run_underlying hu]
theorem FJ {t t2 ti:TypeId} {x y:Operand} {a:AV} {its:Array (String × TypeId)} (hu:P.underlying t=some (.interface its)) (hx:evA n l x=.ifc ti a) (hy:evA n l y=.nili) (h:K2 (.bool true) aw):OP P N ⟨d,.binOp .neq t x y t2,ty,ps,af,gd⟩ (mkA n l) aw K2 :=
 OP.of_ok (fun σ w F ac har hs=>by
  have ex:=har.ev x;have ey:=har.ev y;rw [aD,hx] at ex;rw [aD,hy] at ey;generalize hvx:ac.eval x=vx at ex;generalize hvy:ac.eval y=vy at ey;cases ey;cases ex with
  | ifc _ _ u hu2 =>
   refine ⟨.bool true,_,w,aw,σ,F,_,?_,.inl rfl,hs,.refl ..,.bool true,h⟩;have he:(Op.equalIn Op.maxDepth t (.iface ti u) .nilIface).run P w=.ok false w:=FZ 9999 hu u w;simp [execOp,hvx,hvy,eqGuard,binOp,Op.equal,Sem.run_bind,he])
theorem Ge {t t0:TypeId} {x:Operand} {a:AV} {dd:TypeDesc} (hu:P.underlying t=some dd) (hd:(match dd with | .interface _=>false | _=>true)=true) (hx:evA n l x=.ifc t a) (h:K2 (.tup [a,.bool true]) aw):OP P N ⟨d,.typeAssert x t0 t true,ty,ps,af,gd⟩ (mkA n l) aw K2 :=
 OP.of_ok (fun σ w F ac har hs=>by
  have ex:=har.ev x;rw [aD,hx] at ex;generalize hvx:ac.eval x=vx at ex;cases ex with
  | ifc _ _ u hu2 =>
   have hr:RelL σ w F [a,.bool true] [u,.bool true]:=.cons hu2 (.cons (.bool true) .nil);refine ⟨.tuple #[u,.bool true],_,w,aw,σ,F,_,?_,.inl rfl,hs,.refl ..,.tup _ _ hr.1 hr.2,h⟩;cases dd<;>simp_all [execOp,Instr.typeAssert,Sem.run_bind,run_underlying hu])
end
def RecQ (P:Program) (fn:Func) (Nf:Nat) (Q:AV->List Ob->Prop) (V:Value) (g:FuncId) (caps:List AV):Exit->List AV->List Ob->Prop
 | .panic ch,fr,aw=>ch=pan1 V/\∃ aw2,Caught P V g caps aw aw2/\bM P fr aw2 fn.results.toList (Ret Nf Q aw2)
 | e,fr,aw=>retQ P fn Nf Q e fr aw
instance:RetI (RecQ P fn Nf Q V g caps) (fun fr aw=>bM P fr aw fn.results.toList (Ret Nf Q aw)):=⟨fun _ _ h=>h⟩
def CQR (P:Program) (st:St) (fn:Func) (Nf:Nat) (Q:AV->List Ob->Prop) (V:Value) (e:Exit) (a:Act) (w:World):Prop :=
 CQ st (retQ P fn Nf Q) e a w∨∃ (g:FuncId) (caps:List AV) (cvs:List Value) (st':St),Idle P ⟨.fn (.func g) cvs.toArray,#[]⟩/\(∀ w,(callFunc g cvs.toArray).run P w=.ok (.enter g cvs.toArray) w) /\
  RelL st'.σ st'.w st'.F caps cvs/\Sim st'.aw st'.σ st'.w st'.F/\Mv st.aw st.σ st.w st.F st'.aw st'.σ st'.w st'.F/\st'.ds=[⟨.fn (.func g) cvs.toArray,#[]⟩]/\CQ st' (RecQ P fn Nf Q V g caps) e a w
structure TDR (P:Program) (N:Nat) (c:Code) (fn:Func) (Nf:Nat) (Q:AV->List Ob->Prop) (V:Value) (fr:List AV) (aw:List Ob):Prop where
 out:∀ st:St,st.aw.length=N->st.σ.length=st.aw.length->st.ds=[]->∀ σ w F a,Cur st fr aw σ w F a->c.wp P (CQR P st fn Nf Q V) a w
theorem TDR.seq {x y:Code} (h:T P N x (thenA (TDR P N y fn Nf Q V) (retQ P fn Nf Q)) fr aw):TDR P N (.seq x y) fn Nf Q V fr aw :=
 ⟨fun st h1 h2 h3 σ w F a hc=>wp_seq (wp_mono (h.out st h1 h2 σ w F a hc) (by
  rintro e a' w' ⟨fr',aw',σ',F',hq,hcur⟩;cases e with
  | normal=>exact TDR.out hq st h1 h2 h3 σ' w' F' a' hcur
  | _=>exact .inl ⟨fr',aw',σ',F',hq,hcur⟩))⟩
theorem TDR.defer {id:Nat} {ops:Array Oper} {y:Code} {ty:TypeId} {ps:String} {af:Array Edge} {f:Operand} {ts:Array TypeId} (i:Nat) (ho:ops.toList.drop i=[⟨none,.defer ⟨.value f,#[],ts⟩,ty,ps,af,none⟩])
  (h:RS P N ops (ops.toList.take i) (fun fr aw=>∃ (N':Nat) (l:List (Nat × AV)) (caps:List AV) (g:FuncId),aw.length=N'/\fr=mkA n l/\evA n l f=.func g caps/\IdleF P g caps.length/\(∀ vs w,(callFunc g vs).run P w=.ok (.enter g vs) w)/\T P N' y (RecQ P fn Nf Q V g caps) (mkA n l) aw) fr aw):TDR P N (.seq (.region id ops false) y) fn Nf Q V fr aw :=
 ⟨fun st h1 h2 h3 σ w F a hc=>by
  refine wp_seq (wp_region_list ?_);rw [<- Lz i ops.toList,ho];refine pi _ _ _ (h.out st h1 h2 σ w F a hc _ fun fr aw σ w F a hc hK=>?_);obtain ⟨_,l,caps,g,rfl,rfl,hf,hI,hcall,hT⟩:=hK;show wpList P ops _ (_::[]) a w;unfold wpList;rw [if_pos (by simp [Region.wanted])];refine .inl ?_;have hfv:=hc.fr.ev f;rw [aD,hf] at hfv;generalize hvf:a.eval f=vf at hfv;cases hfv with
  | func _ _ cvs hl hcs =>
   have hrun:(execOp a.eval ⟨none,.defer ⟨.value f,#[],ts⟩,ty,ps,af,none⟩).run P w=.ok (.defer ⟨.fn (.func g) cvs.toArray,#[]⟩) w:=by simp [execOp,resolve,Deferred.ofValue,hvf,Sem.run_bind]
   unfold Oper.wp;rw [hrun,Oper.upon_defer];show wpList P ops _ [] _ w;unfold wpList;refine wp_mono (hT.out ⟨aw,σ,w,F,[⟨.fn (.func g) cvs.toArray,#[]⟩]⟩ rfl hc.sim.len σ w F _ ?_) fun _ _ _ h=>.inr ⟨g,caps,cvs,⟨aw,σ,w,F,[⟨.fn (.func g) cvs.toArray,#[]⟩]⟩,hI cvs hl,hcall _,⟨hl,hcs⟩,hc.sim,hc.mv,rfl,h⟩
   refine ⟨hc.sim,hc.fr,.refl ..,?_⟩;have hds:=hc.ds;rw [h3] at hds;show _::a.defers=_;rw [hds]⟩
theorem FL {f:FuncId} {c:Code} {args:List AV} {m:Nat} (hN:aw.length=N) (hf:P.funcs[f]?=some fn) (hb:fn.body=some c) (hname:(fn.name == "runtime.NumGoroutine")=false) (hm:fn.ntmps=m) (hl:Nat.ble args.length m=true)
  (h:TDR P N c fn N Q V (mkA m (initA 0 args)) aw):ACalls P f args aw Q:=by
 subst hm hN
 refine ⟨callable hf (by rw [hb];rfl) hname,fun w F σ vs hs hr=>?_⟩
 have hc:Cur ⟨aw,σ,w,F,[]⟩ (args++List.replicate (fn.ntmps - args.length) .any) aw σ w F { tmps:=vs.toArray++Array.replicate (fn.ntmps - vs.toArray.size) undef,defers:=[] }:=by
  refine ⟨hs,⟨?_,tqz⟩,.refl ..,rfl⟩;have h2:RelL σ w F (List.replicate (fn.ntmps - args.length) .any) (List.replicate (fn.ntmps - vs.length) undef) :=
   ⟨by simp [hr.1],fun j x v hx hv=>by rw [La (Ku hx)];exact .any v⟩
  simpa using hr.append h2
 rw [t6 _ _ (LA hl)] at hc
 refine calls_of_wp_defers hf hb (wp_mono (h.out ⟨aw,σ,w,F,[]⟩ rfl hs.len rfl σ w F _ hc) ?_)
 have key:∀ (a':Act) (w':World) (fr':List AV) (aw':List Ob) (σ':List Value) (F':Nat->Prop),Sim aw' σ' w' F'->ARel σ' w' F' fr' a'->Mv aw σ w F aw' σ' w' F'->bM P fr' aw' fn.results.toList (Ret aw.length Q aw')->∃ v,(results fn a'.tmps).run P w'=.ok v w' /\
   (∃ v' r aw2 σ2 F2,Ending.returned v=.returned v'/\Q r aw2/\Sim aw2 σ2 w' F2/\Rel σ2 w' F2 r v'/\Mv aw σ w F aw2 σ2 w' F2):=by
  intro a' w' fr' aw' σ' F' hsim hfr hmv hq
  obtain ⟨rs,us,h1,⟨nl,z,r',aw2,hW,hQ⟩,h3⟩:=pX hfr hsim _ _ hq
  obtain ⟨σn,sn,h1n,mn⟩:=nm nl hsim h1
  refine ⟨_,tq fn a'.tmps us h3,?_⟩
  have hrel:=ui h1n
  have fin:∀ (r1:AV) (aw1:List Ob) (F1:Nat->Prop),Sim aw1 σn w' F1->Mv aw σ w F aw1 σn w' F1->Rel σn w' F1 r1 (if h:us.length=1 then us[0] else .tuple us.toArray)->WeakR aw.length r1 aw1 r' aw2 ->
    ∃ v' r aw2 σ2 F2,Ending.returned (if h:us.length=1 then us[0] else .tuple us.toArray)=.returned v'/\Q r aw2/\Sim aw2 σ2 w' F2/\Rel σ2 w' F2 r v'/\Mv aw σ w F aw2 σ2 w' F2:=by
   intro r1 aw1 F1 s1 m1 hr1 ⟨ρ,hnd,hρ,hren,hRW⟩
   obtain ⟨σ2,hσ,s2,hd⟩:=gl s1 hnd hRW
   exact ⟨_,r',aw2,σ2,F1,rfl,hQ,s2,hren σn w' F1 _ hr1 σ2 hσ,Mv.ren (st:=⟨aw,σ,w,F,[]⟩) hs.len m1 hρ hσ hd⟩
  cases z with
  | true =>
   obtain ⟨F1,s1,m1,r1⟩:=t9 sn hrel
   exact fin _ _ F1 s1 ((hmv.trans mn).trans m1) r1 hW
  | false=>exact fin _ _ F' sn (hmv.trans mn) hrel hW
 have plain:∀ (a':Act) (w':World) (fr':List AV) (aw':List Ob) (σ':List Value) (F':Nat->Prop),Cur ⟨aw,σ,w,F,[]⟩ fr' aw' σ' w' F' a'->bM P fr' aw' fn.results.toList (Ret aw.length Q aw') ->
   Leaves P fn a'.tmps (fun e w'=>∃ v r aw' σ' F',e=.returned v/\Q r aw'/\Sim aw' σ' w' F'/\Rel σ' w' F' r v/\Mv aw σ w F aw' σ' w' F') a'.defers .returning w':=by
  intro a' w' fr' aw' σ' F' hcur hq
  have hd:=hcur.ds
  rw [hd]
  exact key a' w' fr' aw' σ' F' hcur.sim hcur.fr hcur.mv hq
 rintro e a' w' (⟨fr',aw',σ',F',hq,hcur⟩ | ⟨g,caps,cvs,st',hI,hcall,hcv,hsim',hmv',hds',fr',aw',σ',F',hq,hcur⟩)
 ·cases e with
  | normal=>exact plain _ _ _ _ _ _ hcur hq
  | ret=>exact plain _ _ _ _ _ _ hcur hq
  | exit id=>exact hq.elim
  | goto l=>exact hq.elim
  | panic ch=>exact hq.elim
  | outgrown=>exact hq.elim
 ·have hd:=hcur.ds
  rw [hds'] at hd
  have hmv:=hmv'.trans hcur.mv
  have idle:bM P fr' aw' fn.results.toList (Ret aw.length Q aw')->Leaves P fn a'.tmps (fun e w'=>∃ v r aw' σ' F',e=.returned v/\Q r aw'/\Sim aw' σ' w' F'/\Rel σ' w' F' r v/\Mv aw σ w F aw' σ' w' F') a'.defers .returning w':=fun hq=>by have hk:=key a' w' fr' aw' σ' F' hcur.sim hcur.fr hmv hq;obtain ⟨fv,cap,g2,gargs,e1,e2,e3⟩:=hI;rw [hd];refine ⟨by simp,fv,cap,g2,gargs,e1,e2 w',(e3 w').mono ?_⟩;rintro e u' w'' ⟨⟨v,rfl⟩,rfl,rfl⟩;exact hk
  cases e with
  | normal=>exact idle hq
  | ret=>exact idle hq
  | exit id=>exact hq.elim
  | goto l=>exact hq.elim
  | panic ch =>
   obtain ⟨rfl,aw2,hcat,hq⟩:=hq
   show Leaves P fn a'.tmps _ a'.defers (.panicking (pan1 V)) w'
   rw [hd]
   refine ⟨by simp,.func g,cvs.toArray,g,cvs.toArray,rfl,?_,(hcat.run hcur.sim (hcur.mv.relL hsim' hcv)).mono ?_⟩
   ·have:=hcall w'
    simpa [invoke] using this
   ·rintro e u' w'' ⟨⟨v,rfl⟩,rfl,σ2,F2,s2,m2⟩
    exact key a' w'' fr' aw2 σ2 F2 s2 (m2.aRel hcur.sim hcur.fr) (hmv.trans m2) hq
  | outgrown=>exact hq.elim
end
end
section
open Go.RowKit
set_option maxRecDepth 100000
set_option maxHeartbeats 4000000
theorem vD {n:Nat} {l:List (Nat × AV)} {aw:List Ob} {rs:List ResultVar} {V:AV} [hV:PureC V] (h:resC tyT n l aw rs fun vs=>nrmRC aw (cN vs) fun v _=>v=V:=by rfl):bM Tryz.prog (mkA n l) aw rs (Ret 0 (fun r aw'=>r=V/\aw'=[]) aw) :=
 nE eH (fun vs hv=>by have h1:=tY hv;exact yw (v:=V) (aw1:=(fB aw (cN vs)).2) (by rw [<- h1]) hV.out ⟨rfl,rfl⟩) h
theorem fnTDR {P:Program} {V:Value} {aw:List Ob} {f:FuncId} {fn:Func} {c:Code} {args:List AV} {Q:AV->List Ob->Prop} {m:Nat} (N:Nat) (hf:P.funcs[f]?=some fn) (hm:fn.ntmps=m) (h:iniC 0 args fun l=>TDR P N c fn N Q V (mkA m l) aw)
  (hb:fn.body=some c:=by rfl) (hN:aw.length=N:=by rfl) (hname:(fn.name == "runtime.NumGoroutine")=false:=by kernel_rfl) (hl:Nat.ble args.length m=true:=by rfl):ACalls P f args aw Q :=
 FL hN hf hb hname hm hl (rT (K:=fun l=>TDR P N c fn N Q V (mkA m l) aw) h)
theorem catX:CatX Tryz.prog (.iface 173 (.agg #[])) 103 [.ptr 0 0,.ptr 1 0] [.box [.any,.any,.any,.any,.any],.box [.any]] [.box [.nils,.nils,.nils,.nils,.nils],.box [iI 12]]:=by
 intro w F σ vs hs hr;match vs,hr with
 | [p,q],hr =>
  refine callsD_of_wpS Tryz.func103 rfl fun c₀ cs hu=>?_
  apply wpS_seq
  apply wpS_region
  simp [wpOpsS,go_sem,recoverD,hu,Tryz.ntmps103,Exit.thenS]
  have hp:Rel σ w F (.ptr 0 0) p:=hr.2 0 _ p rfl rfl
  have hq:Rel σ w F (.ptr 1 0) q:=hr.2 1 _ q rfl rfl
  have hv:Rel σ w F (.ifc 173 (.agg [])) (.iface 173 (.agg #[])):=.ifc _ _ _ (.agg [] [] rfl (fun _ h=>(Mh h).elim) (fun j c u h=>by simp at h))
  have hc:Cur ⟨[.box [.any,.any,.any,.any,.any],.box [.any]],σ,w,F,[]⟩ [.ptr 0 0,.ptr 1 0,.ifc 173 (.agg []),.any,.any,.any,.any,.any,.any,.any,.any,.any,.any,.any,.any,.any,.any] [.box [.any,.any,.any,.any,.any],.box [.any]] σ w F { tmps:=#[p,q,(.iface 173 (.agg #[])),undef,undef,(.iface 173 (.agg #[])),undef,undef,undef,undef,undef,undef,undef,undef,undef,undef,undef],defers:=[] } :=
   ⟨hs,⟨.cons hp (.cons hq (.cons hv (.cons (.any _) (.cons (.any _) (.cons (.any _) (.cons (.any _) (.cons (.any _) (.cons (.any _) (.cons (.any _) (.cons (.any _) (.cons (.any _) (.cons (.any _) (.cons (.any _) (.cons (.any _) (.cons (.any _) (.cons (.any _) (.nil))))))))))))))))),tqz⟩,.refl ..,rfl⟩
  refine wpS_of_wp (wp_mono (T.out (P:=Tryz.prog) (N:=2) (Q:=fun e fr aw=>e=.normal/\aw=[.box [.nils,.nils,.nils,.nils,.nils],.box [iI 12],.box []]) (fr:=mkA 17 [(0,.ptr 0 0),(1,.ptr 1 0),(2,.ifc 173 (.agg []))]) (aw:=[.box [.any,.any,.any,.any,.any],.box [.any]]) ?_ ⟨[.box [.any,.any,.any,.any,.any],.box [.any]],σ,w,F,[]⟩ rfl hs.len σ w F _ hc) ?_)
  ·refine T.seq (T.region (go 1 2 (sO (FJ Tryz.underlying20 rfl rfl (RS.nil (T.ct rfl (T.seq (T.seq (T.region (go 1 2 ?_))))))))))
   refine sO (Ge Tryz.underlying173 rfl rfl (go 6 2 (RS.nil (T.seq (T.region (go 2 3 (RS.nil (T.cf rfl (T.skip (T.region ?_))))))))))
   exact go 3 3 (RS.nil (⟨rfl,rfl⟩))
  ·rintro e a' w' ⟨fr',aw',σ',F',⟨rfl,rfl⟩,hcur⟩
   obtain ⟨σ2,hσ,s2,hd⟩:=gl (aw':=[.box [.nils,.nils,.nils,.nils,.nils],.box [iI 12]]) (ρ:=[0,1]) hcur.sim (by decide) (aq (cs:=[.nils,.nils,.nils,.nils,.nils]) (ds:=[.nils,.nils,.nils,.nils,.nils]) rfl ⟨dg bJ,dg bJ,dg bJ,dg bJ,dg bJ,tqz⟩ (aq (cs:=[iI 12]) (ds:=[iI 12]) rfl ⟨dh rfl,tqz⟩ ap))
   refine ⟨hcur.ds,_,rfl,.tuple #[],?_,⟨_,rfl⟩,rfl,σ2,F',s2,Mv.ren (st:=⟨[.box [.any,.any,.any,.any,.any],.box [.any]],σ,w,F,[]⟩) hs.len hcur.mv (fun k hk=>?_) hσ hd⟩
   ·simp [results,Tryz.results103]
   ·match k,hk with
    | 0,_=>rfl
    | 1,_=>rfl
end
section
open Go.RowKit
set_option maxRecDepth 100000
set_option maxHeartbeats 4000000
set_option synthInstance.maxSize 100000
set_option synthInstance.maxHeartbeats 4000000
theorem vP {p0:List UInt8} {r:(Item × (List UInt8)) ⊕ Unit} (h:kr p0=some r):FnP Tryz.prog (.iface 173 (.agg #[])) 141 [.ptr 0 0] [.box [.str p0]] (fun r:Item × (List UInt8)=>.agg (aa r.1)) (fun r=>[.box [.str r.2]]) r:=by
 unfold kr at h;refine fnPT 1 Tryz.func141 Tryz.ntmps141 ?_;refine q0 ?_;refine X 5 1 (cm h (fun hx4 h=>?_) (fun x4 hx4 h=>?_))
 ·cases h;(refine T.rP (V:=(.iface 173 (.agg #[]))) 1 rfl ?_);exact go 1 2 (RS.nil (qc (aw2:=[.dead,.box [iI 0,iI 0,iI 0]]) (n0:=2) (n1:=1) [0] rfl rfl (aQ hx4) (aq rfl ⟨aF rfl,tqz⟩ ap) ⟨am rfl,tqz⟩ ⟨.inl ⟨0,_,by decide,rfl,tqz⟩,.inr ⟨rfl,rfl⟩,tqz⟩ rfl))
 refine cm h (fun hx5 h=>?_) (fun x5 hx5 h=>?_)
 ·cases h;(refine T.rP (V:=(.iface 173 (.agg #[]))) 3 rfl ?_);exact go 1 2 (sO (bf (aw2:=[.box [.str x4.2],.box [iI 0,iI 0,iI 0]]) (v':=iI x4.1) (n0:=2) (n1:=1) [0] rfl rfl (aQ hx4) (aq rfl ⟨aF rfl,tqz⟩ ap) ⟨am rfl,tqz⟩ (an (aI _ _)) ⟨.inl ⟨0,_,by decide,rfl,aT ⟨an (aX _),tqz⟩⟩,.inr ⟨rfl,rfl⟩,tqz⟩ (go 1 2 (RS.nil (qc (aw2:=[.dead,.box [iI 0,iI 0,iI 0]]) (n0:=2) (n1:=1) [0] rfl rfl (aQ hx5) (aq rfl ⟨aF rfl,tqz⟩ ap) ⟨am rfl,tqz⟩ ⟨.inl ⟨0,_,by decide,rfl,tqz⟩,.inr ⟨rfl,rfl⟩,tqz⟩ rfl)))))
 refine cm h (fun hx6 h=>?_) (fun x6 hx6 h=>?_)
 ·cases h;(refine T.rP (V:=(.iface 173 (.agg #[]))) 5 rfl ?_);refine go 1 2 (sO (bf (aw2:=[.box [.str x4.2],.box [iI 0,iI 0,iI 0]]) (v':=iI x4.1) (n0:=2) (n1:=1) [0] rfl rfl (aQ hx4) (aq rfl ⟨aF rfl,tqz⟩ ap) ⟨am rfl,tqz⟩ (an (aI _ _)) ⟨.inl ⟨0,_,by decide,rfl,aT ⟨an (aX _),tqz⟩⟩,.inr ⟨rfl,rfl⟩,tqz⟩ (go 1 2 (sO (bf (aw2:=[.box [.str x5.2],.box [iI 0,iI 0,iI 0]]) (v':=iI x5.1) (n0:=2) (n1:=1) [0] rfl rfl (aQ hx5) (aq rfl ⟨aF rfl,tqz⟩ ap) ⟨am rfl,tqz⟩ (an (aI _ _)) ⟨.inl ⟨0,_,by decide,rfl,aT ⟨an (aX _),tqz⟩⟩,.inr ⟨rfl,rfl⟩,tqz⟩ (go 1 2 ?_))))));exact RS.nil (qc (aw2:=[.dead,.box [iI 0,iI 0,iI 0]]) (n0:=2) (n1:=1) [0] rfl rfl (aQ hx6) (aq rfl ⟨aF rfl,tqz⟩ ap) ⟨am rfl,tqz⟩ ⟨.inl ⟨0,_,by decide,rfl,tqz⟩,.inr ⟨rfl,rfl⟩,tqz⟩ rfl)
 refine X 2 2 (sO (bf (aw2:=[.box [.str x4.2],.box [iI 0,iI 0,iI 0]]) (v':=iI x4.1) (n0:=2) (n1:=1) [0] rfl rfl (aQ hx4) (aq rfl ⟨aF rfl,tqz⟩ ap) ⟨am rfl,tqz⟩ (an (aI _ _)) ⟨.inl ⟨0,_,by decide,rfl,aT ⟨an (aX _),tqz⟩⟩,.inr ⟨rfl,rfl⟩,tqz⟩ (Y 1 2 (sO (bf (aw2:=[.box [.str x5.2],.box [iI 0,iI 0,iI 0]]) (v':=iI x5.1) (n0:=2) (n1:=1) [0] rfl rfl (aQ hx5) (aq rfl ⟨aF rfl,tqz⟩ ap) ⟨am rfl,tqz⟩ (an (aI _ _)) ⟨.inl ⟨0,_,by decide,rfl,aT ⟨an (aX _),tqz⟩⟩,.inr ⟨rfl,rfl⟩,tqz⟩ (Y 1 2 (sO (bf (aw2:=[.box [.str x6.2],.box [iI 0,iI 0,iI 0]]) (v':=iI x6.1) (n0:=2) (n1:=1) [0] rfl rfl (aQ hx6) (aq rfl ⟨aF rfl,tqz⟩ ap) ⟨am rfl,tqz⟩ (an (aI _ _)) ⟨.inl ⟨0,_,by decide,rfl,aT ⟨an (aX _),tqz⟩⟩,.inr ⟨rfl,rfl⟩,tqz⟩ (Y 3 2 ?_)))))))));cases h;exact tN [0]
theorem vN {p0:List UInt8} {r:((List Item) × (List UInt8)) ⊕ Unit} (h:oz p0=some r):FnP Tryz.prog (.iface 173 (.agg #[])) 140 [.ptr 0 0,.bnd 141 [.ptr 0 0]] [.box [.str p0]] (fun r:(List Item) × (List UInt8)=>.ref 1) (fun r=>[.box [.str r.2],aR 75 3 aa r.1]) r:=by
 unfold oz at h;refine fnPT 1 Tryz.func140 Tryz.ntmps140 ?_;refine q0 ?_;refine X 5 1 (cm h (fun hx2 h=>?_) (fun x2 hx2 h=>?_))
 ·cases h;(refine T.rP (V:=(.iface 173 (.agg #[]))) 1 rfl ?_);exact go 1 1 (RS.nil (qc (aw2:=[.dead]) (n0:=1) (n1:=1) [0] rfl rfl (aQ hx2) (aq rfl ⟨aF rfl,tqz⟩ ap) ⟨am rfl,tqz⟩ ⟨.inl ⟨0,_,by decide,rfl,tqz⟩,tqz⟩ rfl))
 refine X 2 1 (sO (bf (aw2:=[.box [.str x2.2]]) (v':=iI x2.1) (n0:=1) (n1:=1) [0] rfl rfl (aQ hx2) (aq rfl ⟨aF rfl,tqz⟩ ap) ⟨am rfl,tqz⟩ (an (aI _ _)) ⟨.inl ⟨0,_,by decide,rfl,aT ⟨an (aX _),tqz⟩⟩,tqz⟩ (Y 3 1 (j1 [(1,.bnd 141 [.ptr 0 0]),(5,iI x2.1),(19,.bool ((decide (x2.1<0)) || decide (x2.1 > ((x2.2).length:Int))))] [.box [.str x2.2]] ?_ (fun hK=>?_)))))
 ·refine T.ci h rfl (fun ab h=>?_) (fun ab h=>?_)
  ·cases h;(refine T.rP (V:=(.iface 173 (.agg #[]))) 2 rfl ?_);exact go 1 1 (sO (ld Tryz.underlying173 rfl rfl (RS.nil (PP.panic rfl rfl))))
  refine X 12 1 (itr (fun ak:Int × (List UInt8) × (List Item)=>mkA 32 [(1,.bnd 141 [.ptr 0 0]),(6,.ref 1),(22,iI x2.1),(23,iI ak.1)]) (fun ak=>[.box [.str ak.2.1],aR 75 3 aa ak.2.2]) h (wk [(6,75,3)] [0,1] 1 rfl) (fun ak v_6 h bp=>?_));obtain ⟨s4,s5,s6⟩:=ak;replace h:iv x2 s4 s5 s6=some v_6:=h;try dsimp only
  unfold iv at h;refine X 5 2 (T.ci h rfl (fun bB h=>?_) (fun bB h=>?_))
  ·refine X 3 2 (cm h (fun hx7 h=>?_) (fun x7 hx7 h=>?_))
   ·replace h:=mi h bp;cases h;(refine T.rP (V:=(.iface 173 (.agg #[]))) 2 rfl ?_);exact go 2 2 (RS.nil (qcb (aw2:=[.dead,aR 75 3 aa s6]) (n0:=2) (n1:=1) [0] rfl rfl (vP hx7) (aq rfl ⟨aF rfl,tqz⟩ ap) ⟨am rfl,tqz⟩ ⟨.inl ⟨0,_,by decide,rfl,tqz⟩,.inr ⟨rfl,rfl⟩,tqz⟩ rfl))
   refine B h fun x8 hx8 h=>(X 3 2 (sO (tU (aw2:=[.box [.str x7.2],aR 75 3 aa s6]) (v':=.agg (aa x7.1)) (n0:=2) (n1:=1) [0] rfl rfl (vP hx7) (aq rfl ⟨aF rfl,tqz⟩ ap) ⟨am rfl,tqz⟩ (pW ⟨an (aI _ _),an (aI _ _),an (aI _ _),tqz⟩) ⟨.inl ⟨0,_,by decide,rfl,aT ⟨an (aX _),tqz⟩⟩,.inr ⟨rfl,rfl⟩,tqz⟩ (sO (bl (rows:=List.map aa [x7.1]) (vs:=[.agg (aa x7.1)]) Ty.s30 Ty.z75 rfl rfl rfl rfl rfl rfl (sO (b6 (en:=aa) (xs:=s6) (ys:=([x7.1]:List Item)) Ty.s30 (fun _=>rfl) rfl rfl rfl hx8 rfl rfl (Y 6 4 ?_))))))))
   exact lk h (wk [] [0,3] 4 rfl)
  refine X 1 2 ?_;replace h:=mi h bp;refine X 5 2 ?_;cases h;exact tO [] [0,1] 2
 refine X 5 1 (gp 11 (fun ae=>?_) (fun ae=>?_))
 ·refine Yp 9 1 ?_;rw [ae] at hK;exact sx hK
 refine Yp 9 1 ?_;rw [ae] at hK;exact sx hK
theorem qO {p0:List UInt8} {r:((List Item) × (List UInt8)) ⊕ Unit} (h:jg p0=some r):FnP Tryz.prog (.iface 173 (.agg #[])) 107 [.ptr 0 0] [.box [.str p0]] (fun r:(List Item) × (List UInt8)=>.ref 1) (fun r=>[.box [.str r.2],aR 75 3 aa r.1]) r:=by
 unfold jg at h;refine fnPT 1 Tryz.func107 Tryz.ntmps107 ?_;refine q0 ?_;refine X 5 1 (cm h (fun hx2 h=>?_) (fun x2 hx2 h=>?_))
 ·cases h;(refine T.rP (V:=(.iface 173 (.agg #[]))) 3 rfl ?_);exact go 2 1 (sQ (v_bnd (cs:=[.ptr 0 0]) rfl (RS.nil (qc (aw2:=[.dead]) (n0:=1) (n1:=1) [0] rfl rfl (vN hx2) (aq rfl ⟨aF rfl,tqz⟩ ap) ⟨am rfl,lK ⟨am rfl,tqz⟩,tqz⟩ ⟨.inl ⟨0,_,by decide,rfl,tqz⟩,tqz⟩ rfl))))
 refine X 3 1 (sQ (v_bnd (cs:=[.ptr 0 0]) rfl (sO (bf (aw2:=[.box [.str x2.2],aR 75 3 aa x2.1]) (v':=.ref 1) (n0:=1) (n1:=2) [0] rfl rfl (vN hx2) (aq rfl ⟨aF rfl,tqz⟩ ap) ⟨am rfl,lK ⟨am rfl,tqz⟩,tqz⟩ (hJ (by decide)) ⟨.inl ⟨0,_,by decide,rfl,aT ⟨an (aX _),tqz⟩⟩,.inl ⟨1,_,by decide,rfl,jU eF⟩,tqz⟩ (Y 2 2 ?_)))));cases h;exact tO [] [0,1] 2
theorem vQ {p0:List UInt8} {r:((List (List Item)) × (List UInt8)) ⊕ Unit} (h:mh p0=some r):FnP Tryz.prog (.iface 173 (.agg #[])) 106 [.ptr 0 0,.bnd 107 [.ptr 0 0]] [.box [.str p0]] (fun r:(List (List Item)) × (List UInt8)=>.ref 1) (fun r=>[.box [.str r.2],aR 30 1 (aj aa) r.1]) r:=by
 unfold mh at h;refine fnPT 1 Tryz.func106 Tryz.ntmps106 ?_;refine q0 ?_;refine X 5 1 (cm h (fun hx2 h=>?_) (fun x2 hx2 h=>?_))
 ·cases h;(refine T.rP (V:=(.iface 173 (.agg #[]))) 1 rfl ?_);exact go 1 1 (RS.nil (qc (aw2:=[.dead]) (n0:=1) (n1:=1) [0] rfl rfl (aQ hx2) (aq rfl ⟨aF rfl,tqz⟩ ap) ⟨am rfl,tqz⟩ ⟨.inl ⟨0,_,by decide,rfl,tqz⟩,tqz⟩ rfl))
 refine X 2 1 (sO (bf (aw2:=[.box [.str x2.2]]) (v':=iI x2.1) (n0:=1) (n1:=1) [0] rfl rfl (aQ hx2) (aq rfl ⟨aF rfl,tqz⟩ ap) ⟨am rfl,tqz⟩ (an (aI _ _)) ⟨.inl ⟨0,_,by decide,rfl,aT ⟨an (aX _),tqz⟩⟩,tqz⟩ (Y 3 1 (j1 [(1,.bnd 107 [.ptr 0 0]),(5,iI x2.1),(19,.bool ((decide (x2.1<0)) || decide (x2.1 > ((x2.2).length:Int))))] [.box [.str x2.2]] ?_ (fun hK=>?_)))))
 ·refine T.ci h rfl (fun ab h=>?_) (fun ab h=>?_)
  ·cases h;(refine T.rP (V:=(.iface 173 (.agg #[]))) 2 rfl ?_);exact go 1 1 (sO (ld Tryz.underlying173 rfl rfl (RS.nil (PP.panic rfl rfl))))
  refine X 12 1 (itr (fun ak:Int × (List UInt8) × (List (List Item))=>mkA 32 [(1,.bnd 107 [.ptr 0 0]),(6,.ref 1),(22,iI x2.1),(23,iI ak.1)]) (fun ak=>[.box [.str ak.2.1],aR 30 1 (aj aa) ak.2.2]) h (wk [(6,30,1)] [0,1] 1 rfl) (fun ak v_6 h bp=>?_));obtain ⟨s4,s5,s6⟩:=ak;replace h:iw x2 s4 s5 s6=some v_6:=h;try dsimp only
  unfold iw at h;refine X 5 2 (T.ci h rfl (fun bB h=>?_) (fun bB h=>?_))
  ·refine X 3 2 (cm h (fun hx7 h=>?_) (fun x7 hx7 h=>?_))
   ·replace h:=mi h bp;cases h;(refine T.rP (V:=(.iface 173 (.agg #[]))) 2 rfl ?_);exact go 2 2 (RS.nil (qcb (aw2:=[.dead,aR 30 1 (aj aa) s6]) (n0:=2) (n1:=1) [0] rfl rfl (qO hx7) (aq rfl ⟨aF rfl,tqz⟩ ap) ⟨am rfl,tqz⟩ ⟨.inl ⟨0,_,by decide,rfl,tqz⟩,.inr ⟨rfl,rfl⟩,tqz⟩ rfl))
   refine B h fun x8 hx8 h=>(X 3 2 (sO (tU (aw2:=[.box [.str x7.2],aR 30 1 (aj aa) s6,aR 75 3 aa x7.1]) (v':=.ref 2) (n0:=2) (n1:=2) [0] rfl rfl (qO hx7) (aq rfl ⟨aF rfl,tqz⟩ ap) ⟨am rfl,tqz⟩ (hJ (by decide)) ⟨.inl ⟨0,_,by decide,rfl,aT ⟨an (aX _),tqz⟩⟩,.inr ⟨rfl,rfl⟩,.inl ⟨1,_,by decide,rfl,jU eF⟩,tqz⟩ (RS.fC 2 (sO (bl (rows:=List.map (aj aa) [x7.1]) (vs:=[sL aa x7.1]) Ty.s25 Ty.z30 rfl rfl rfl rfl rfl rfl (sO (b6 (en:=(aj aa)) (xs:=s6) (ys:=([x7.1]:List (List Item))) Ty.s25 (fun _=>rfl) rfl rfl rfl hx8 rfl rfl (Y 6 5 ?_)))))))))
   exact lk h (wk [] [0,4] 5 rfl)
  refine X 1 2 ?_;replace h:=mi h bp;refine X 5 2 ?_;cases h;exact tO [] [0,1] 2
 refine X 5 1 (gp 11 (fun ae=>?_) (fun ae=>?_))
 ·refine Yp 9 1 ?_;rw [ae] at hK;exact sx hK
 refine Yp 9 1 ?_;rw [ae] at hK;exact sx hK
theorem vU {p0:List UInt8} {r:(Keyed × (List UInt8)) ⊕ Unit} (h:kx p0=some r):FnP Tryz.prog (.iface 173 (.agg #[])) 111 [.ptr 0 0] [.box [.ptr 1 0],.box [.str p0]] (fun r:Keyed × (List UInt8)=>.agg (aL r.1)) (fun r=>[.box [.ptr 1 0],.box [.str r.2]]) r:=by
 unfold kx at h;refine fnPT 2 Tryz.func111 Tryz.ntmps111 ?_;refine q0 ?_;refine X 5 2 (cm h (fun hx3 h=>?_) (fun x3 hx3 h=>?_))
 ·cases h;refine T.drawnP (V:=(.iface 173 (.agg #[]))) (fun _=>True) mixed (k:=6) rfl ?_ (fun _ _ _=>rfl);refine qpl [0,1,3,4,5] 0 rfl (gb rfl rfl (aH Ty.k175 (c:=.ptr 1 0) rfl (qA2 1 2 ?_ ?_)))
  ·exact qpP rfl (qc (aw2:=[.box [.ptr 1 0],.dead,.box [iI 0,iI 0]]) (n0:=3) (n1:=1) [1] rfl rfl (aQ hx3) (aq rfl ⟨aF rfl,tqz⟩ ap) ⟨am rfl,tqz⟩ ⟨.inr ⟨rfl,rfl⟩,.inl ⟨0,_,by decide,rfl,tqz⟩,.inr ⟨rfl,rfl⟩,tqz⟩ trivial)
  exact qpO rfl (cH rfl rfl (aH Ty.k175 (c:=.ptr 1 0) rfl (qA1 1 (qpP rfl (qc (aw2:=[.box [.ptr 1 0],.dead,.box [iI 0,iI 0]]) (n0:=3) (n1:=1) [1] rfl rfl (aQ hx3) (aq rfl ⟨aF rfl,tqz⟩ ap) ⟨am rfl,tqz⟩ ⟨.inr ⟨rfl,rfl⟩,.inl ⟨0,_,by decide,rfl,tqz⟩,.inr ⟨rfl,rfl⟩,tqz⟩ trivial)))))
 refine cm h (fun hx4 h=>?_) (fun x4 hx4 h=>?_)
 ·cases h;refine T.drawnP (V:=(.iface 173 (.agg #[]))) (fun _=>True) mixed (k:=6) rfl ?_ (fun _ _ _=>rfl);refine qpl [0,1,3,4,5] 0 rfl (gb rfl rfl (aH Ty.k175 (c:=.ptr 1 0) rfl (qA2 1 2 ?_ ?_)))
  ·refine qpO rfl (bf (aw2:=[.box [.ptr 1 0],.box [.str x3.2],.box [iI 0,iI 0]]) (v':=iI x3.1) (n0:=3) (n1:=1) [1] rfl rfl (aQ hx3) (aq rfl ⟨aF rfl,tqz⟩ ap) ⟨am rfl,tqz⟩ (an (aI _ _)) ⟨.inr ⟨rfl,rfl⟩,.inl ⟨0,_,by decide,rfl,aT ⟨an (aX _),tqz⟩⟩,.inr ⟨rfl,rfl⟩,tqz⟩ (qA1 2 (qpO rfl (cH rfl rfl (aH Ty.k175 (c:=.ptr 1 0) rfl (qA1 3 ?_))))));exact qpP rfl (qc (aw2:=[.box [.ptr 1 0],.dead,.box [iI 0,iI 0]]) (n0:=3) (n1:=1) [1] rfl rfl (aQ hx4) (aq rfl ⟨aF rfl,tqz⟩ ap) ⟨am rfl,tqz⟩ ⟨.inr ⟨rfl,rfl⟩,.inl ⟨0,_,by decide,rfl,tqz⟩,.inr ⟨rfl,rfl⟩,tqz⟩ trivial)
  refine qpO rfl (cH rfl rfl (aH Ty.k175 (c:=.ptr 1 0) rfl (qA1 1 (qpO rfl (bf (aw2:=[.box [.ptr 1 0],.box [.str x3.2],.box [iI 0,iI 0]]) (v':=iI x3.1) (n0:=3) (n1:=1) [1] rfl rfl (aQ hx3) (aq rfl ⟨aF rfl,tqz⟩ ap) ⟨am rfl,tqz⟩ (an (aI _ _)) ⟨.inr ⟨rfl,rfl⟩,.inl ⟨0,_,by decide,rfl,aT ⟨an (aX _),tqz⟩⟩,.inr ⟨rfl,rfl⟩,tqz⟩ (qA1 3 ?_))))));exact qpP rfl (qc (aw2:=[.box [.ptr 1 0],.dead,.box [iI 0,iI 0]]) (n0:=3) (n1:=1) [1] rfl rfl (aQ hx4) (aq rfl ⟨aF rfl,tqz⟩ ap) ⟨am rfl,tqz⟩ ⟨.inr ⟨rfl,rfl⟩,.inl ⟨0,_,by decide,rfl,tqz⟩,.inr ⟨rfl,rfl⟩,tqz⟩ trivial)
 refine T.drawn mixed (k:=6) rfl ?_;apply RA.jn 3 (bm 6 7);intro hS1
 ·refine rL [0,1,3,4,5] 0 rfl (ra2 1 2 ?_ ?_)
  ·refine oO rfl (bf (aw2:=[.box [.ptr 1 0],.box [.str x3.2],.box [iI 0,iI 0]]) (v':=iI x3.1) (n0:=3) (n1:=1) [1] rfl rfl (aQ hx3) (aq rfl ⟨aF rfl,tqz⟩ ap) ⟨am rfl,tqz⟩ (an (aI _ _)) ⟨.inr ⟨rfl,rfl⟩,.inl ⟨0,_,by decide,rfl,aT ⟨an (aX _),tqz⟩⟩,.inr ⟨rfl,rfl⟩,tqz⟩ (ra1 2 (og 3 ⟨rfl,?_⟩)));exact raE hS1
  ·refine og 3 ⟨rfl,(ra1 1 (oO rfl (bf (aw2:=[.box [.ptr 1 0],.box [.str x3.2],.box [iI 0,iI 0]]) (v':=iI x3.1) (n0:=3) (n1:=1) [1] rfl rfl (aQ hx3) (aq rfl ⟨aF rfl,tqz⟩ ap) ⟨am rfl,tqz⟩ (an (aI _ _)) ⟨.inr ⟨rfl,rfl⟩,.inl ⟨0,_,by decide,rfl,aT ⟨an (aX _),tqz⟩⟩,.inr ⟨rfl,rfl⟩,tqz⟩ ?_)))⟩;exact raT hS1
 refine ra1 3 (oO rfl (bf (aw2:=[.box [.ptr 1 0],.box [.str x4.2],.box [iI 0,iI 0]]) (v':=iI x4.1) (n0:=3) (n1:=1) [1] rfl rfl (aQ hx4) (aq rfl ⟨aF rfl,tqz⟩ ap) ⟨am rfl,tqz⟩ (an (aI _ _)) ⟨.inr ⟨rfl,rfl⟩,.inl ⟨0,_,by decide,rfl,aT ⟨an (aX _),tqz⟩⟩,.inr ⟨rfl,rfl⟩,tqz⟩ (rq [4] 1 (ra1 5 (og 3 ⟨rfl,(RA.done (by decide +kernel) ?_)⟩)))));cases h;exact tN [0,1]
theorem jf {p0:List UInt8} {r:((List Keyed) × (List UInt8)) ⊕ Unit} (h:mf p0=some r):FnP Tryz.prog (.iface 173 (.agg #[])) 110 [.ptr 0 0,.func 111 [.ptr 1 0]] [.box [.str p0],.box [.ptr 0 0]] (fun r:(List Keyed) × (List UInt8)=>.ref 2) (fun r=>[.box [.str r.2],.box [.ptr 0 0],aR 139 2 aL r.1]) r:=by
 unfold mf at h;refine fnPT 2 Tryz.func110 Tryz.ntmps110 ?_;refine q0 ?_;refine X 5 2 (cm h (fun hx2 h=>?_) (fun x2 hx2 h=>?_))
 ·cases h;(refine T.rP (V:=(.iface 173 (.agg #[]))) 1 rfl ?_);exact go 1 2 (RS.nil (qc (aw2:=[.dead,.box [.ptr 0 0]]) (n0:=2) (n1:=1) [0] rfl rfl (aQ hx2) (aq rfl ⟨aF rfl,tqz⟩ ap) ⟨am rfl,tqz⟩ ⟨.inl ⟨0,_,by decide,rfl,tqz⟩,.inr ⟨rfl,rfl⟩,tqz⟩ rfl))
 refine X 2 2 (sO (bf (aw2:=[.box [.str x2.2],.box [.ptr 0 0]]) (v':=iI x2.1) (n0:=2) (n1:=1) [0] rfl rfl (aQ hx2) (aq rfl ⟨aF rfl,tqz⟩ ap) ⟨am rfl,tqz⟩ (an (aI _ _)) ⟨.inl ⟨0,_,by decide,rfl,aT ⟨an (aX _),tqz⟩⟩,.inr ⟨rfl,rfl⟩,tqz⟩ (Y 3 2 (j1 [(1,.func 111 [.ptr 1 0]),(5,iI x2.1),(19,.bool ((decide (x2.1<0)) || decide (x2.1 > ((x2.2).length:Int))))] [.box [.str x2.2],.box [.ptr 0 0]] ?_ (fun hK=>?_)))))
 ·refine T.ci h rfl (fun ab h=>?_) (fun ab h=>?_)
  ·cases h;(refine T.rP (V:=(.iface 173 (.agg #[]))) 2 rfl ?_);exact go 1 2 (sO (ld Tryz.underlying173 rfl rfl (RS.nil (PP.panic rfl rfl))))
  refine X 12 2 (itr (fun ak:Int × (List UInt8) × (List Keyed)=>mkA 32 [(1,.func 111 [.ptr 1 0]),(6,.ref 2),(22,iI x2.1),(23,iI ak.1)]) (fun ak=>[.box [.str ak.2.1],.box [.ptr 0 0],aR 139 2 aL ak.2.2]) h (wk [(6,139,2)] [0,1,2] 2 rfl) (fun ak v_6 h bp=>?_));obtain ⟨s4,s5,s6⟩:=ak;replace h:iu x2 s4 s5 s6=some v_6:=h;try dsimp only
  unfold iu at h;refine X 5 3 (T.ci h rfl (fun bB h=>?_) (fun bB h=>?_))
  ·refine X 3 3 (cm h (fun hx7 h=>?_) (fun x7 hx7 h=>?_))
   ·replace h:=mi h bp;cases h;(refine T.rP (V:=(.iface 173 (.agg #[]))) 2 rfl ?_);exact go 2 3 (RS.nil (qc (aw2:=[.dead,.dead,aR 139 2 aL s6]) (n0:=3) (n1:=2) [1,0] rfl rfl (vU hx7) (aq rfl ⟨am rfl,tqz⟩ (aq rfl ⟨aF rfl,tqz⟩ ap)) ⟨am rfl,tqz⟩ ⟨.inl ⟨1,_,by decide,rfl,tqz⟩,.inl ⟨0,_,by decide,rfl,tqz⟩,.inr ⟨rfl,rfl⟩,tqz⟩ rfl))
   refine B h fun x8 hx8 h=>(X 3 3 (sO (bf (aw2:=[.box [.str x7.2],.box [.ptr 0 0],aR 139 2 aL s6]) (v':=.agg (aL x7.1)) (n0:=3) (n1:=2) [1,0] rfl rfl (vU hx7) (aq rfl ⟨am rfl,tqz⟩ (aq rfl ⟨aF rfl,tqz⟩ ap)) ⟨am rfl,tqz⟩ (pW ⟨an (aI _ _),an (aI _ _),tqz⟩) ⟨.inl ⟨1,_,by decide,rfl,aT ⟨an (aX _),tqz⟩⟩,.inl ⟨0,_,by decide,rfl,aT ⟨jZ (by decide),tqz⟩⟩,.inr ⟨rfl,rfl⟩,tqz⟩ (sO (bl (rows:=List.map aL [x7.1]) (vs:=[.agg (aL x7.1)]) Ty.s82 Ty.z139 rfl rfl rfl rfl rfl rfl (sO (b6 (en:=aL) (xs:=s6) (ys:=([x7.1]:List Keyed)) Ty.s82 (fun _=>rfl) rfl rfl rfl hx8 rfl rfl (Y 6 5 ?_))))))))
   exact lk h (wk [] [0,1,4] 5 rfl)
  refine X 1 3 ?_;replace h:=mi h bp;refine X 5 3 ?_;cases h;exact tO [] [0,1,2] 3
 refine X 5 2 (gp 11 (fun ae=>?_) (fun ae=>?_))
 ·refine Yp 9 2 ?_;rw [ae] at hK;exact sx hK
 refine Yp 9 2 ?_;rw [ae] at hK;exact sx hK
theorem vZ {p0:List UInt8} {r:(Memory × (List UInt8)) ⊕ Unit} (h:kE p0=some r):FnP Tryz.prog (.iface 173 (.agg #[])) 109 [.ptr 0 0] [.box [.ptr 1 0],.box [.str p0]] (fun r:Memory × (List UInt8)=>.agg (aB r.1)) (fun r=>[.box [.ptr 1 0],.box [.str r.2]]) r:=by
 unfold kE at h;refine fnPT 2 Tryz.func109 Tryz.ntmps109 ?_;refine q0 ?_;refine X 5 2 (cm h (fun hx4 h=>?_) (fun x4 hx4 h=>?_))
 ·cases h;refine T.drawnP (V:=(.iface 173 (.agg #[]))) (fun _=>True) mixed (k:=9) rfl ?_ (fun _ _ _=>rfl);refine qp0 5 rfl (rj (cs:=[.ptr 0 0]) rfl (qpl [0,1,3,6,7,8] 0 rfl (gb rfl rfl (aH Ty.k175 (c:=.ptr 1 0) rfl (qA3 1 2 4 ?_ ?_ ?_)))))
  ·exact qpP rfl (qc (aw2:=[.box [.ptr 1 0],.dead,.box [iI 0,.nils,iI 0]]) (n0:=3) (n1:=1) [1] rfl rfl (aQ hx4) (aq rfl ⟨aF rfl,tqz⟩ ap) ⟨am rfl,tqz⟩ ⟨.inr ⟨rfl,rfl⟩,.inl ⟨0,_,by decide,rfl,tqz⟩,.inr ⟨rfl,rfl⟩,tqz⟩ trivial)
  ·refine qpO rfl (cH rfl rfl (aH Ty.k175 (c:=.ptr 1 0) rfl (qA2 1 4 ?_ ?_)))
   ·exact qpP rfl (qc (aw2:=[.box [.ptr 1 0],.dead,.box [iI 0,.nils,iI 0]]) (n0:=3) (n1:=1) [1] rfl rfl (aQ hx4) (aq rfl ⟨aF rfl,tqz⟩ ap) ⟨am rfl,tqz⟩ ⟨.inr ⟨rfl,rfl⟩,.inl ⟨0,_,by decide,rfl,tqz⟩,.inr ⟨rfl,rfl⟩,tqz⟩ trivial)
   exact qpO rfl (cH rfl rfl (aH Ty.k175 (c:=.ptr 1 0) rfl (qA1 1 (qpP rfl (qc (aw2:=[.box [.ptr 1 0],.dead,.box [iI 0,.nils,iI 0]]) (n0:=3) (n1:=1) [1] rfl rfl (aQ hx4) (aq rfl ⟨aF rfl,tqz⟩ ap) ⟨am rfl,tqz⟩ ⟨.inr ⟨rfl,rfl⟩,.inl ⟨0,_,by decide,rfl,tqz⟩,.inr ⟨rfl,rfl⟩,tqz⟩ trivial)))))
  refine qpO rfl (cH rfl rfl (aH Ty.k175 (c:=.ptr 1 0) rfl (qA2 1 2 ?_ ?_)))
  ·exact qpP rfl (qc (aw2:=[.box [.ptr 1 0],.dead,.box [iI 0,.nils,iI 0]]) (n0:=3) (n1:=1) [1] rfl rfl (aQ hx4) (aq rfl ⟨aF rfl,tqz⟩ ap) ⟨am rfl,tqz⟩ ⟨.inr ⟨rfl,rfl⟩,.inl ⟨0,_,by decide,rfl,tqz⟩,.inr ⟨rfl,rfl⟩,tqz⟩ trivial)
  exact qpO rfl (cH rfl rfl (aH Ty.k175 (c:=.ptr 1 0) rfl (qA1 1 (qpP rfl (qc (aw2:=[.box [.ptr 1 0],.dead,.box [iI 0,.nils,iI 0]]) (n0:=3) (n1:=1) [1] rfl rfl (aQ hx4) (aq rfl ⟨aF rfl,tqz⟩ ap) ⟨am rfl,tqz⟩ ⟨.inr ⟨rfl,rfl⟩,.inl ⟨0,_,by decide,rfl,tqz⟩,.inr ⟨rfl,rfl⟩,tqz⟩ trivial)))))
 refine cm h (fun hx5 h=>?_) (fun x5 hx5 h=>?_)
 ·cases h;refine T.drawnP (V:=(.iface 173 (.agg #[]))) (fun _=>True) mixed (k:=9) rfl ?_ (fun _ _ _=>rfl);refine qp0 5 rfl (rj (cs:=[.ptr 0 0]) rfl (qpl [0,1,3,6,7,8] 0 rfl (gb rfl rfl (aH Ty.k175 (c:=.ptr 1 0) rfl (qA3 1 2 4 ?_ ?_ ?_)))))
  ·refine qpO rfl (bf (aw2:=[.box [.ptr 1 0],.box [.str x4.2],.box [iI 0,.nils,iI 0]]) (v':=iI x4.1) (n0:=3) (n1:=1) [1] rfl rfl (aQ hx4) (aq rfl ⟨aF rfl,tqz⟩ ap) ⟨am rfl,tqz⟩ (an (aI _ _)) ⟨.inr ⟨rfl,rfl⟩,.inl ⟨0,_,by decide,rfl,aT ⟨an (aX _),tqz⟩⟩,.inr ⟨rfl,rfl⟩,tqz⟩ (qpl [2,3,6,7,8] 2 rfl (gb rfl rfl (aH Ty.k175 (c:=.ptr 1 0) rfl (qA2 3 4 ?_ ?_)))))
   ·exact qpP rfl (qc (aw2:=[.box [.ptr 1 0],.dead,.box [iI 0,.nils,iI 0]]) (n0:=3) (n1:=1) [1] rfl rfl (aQ hx5) (aq rfl ⟨aF rfl,tqz⟩ ap) ⟨am rfl,tqz⟩ ⟨.inr ⟨rfl,rfl⟩,.inl ⟨0,_,by decide,rfl,tqz⟩,.inr ⟨rfl,rfl⟩,tqz⟩ trivial)
   exact qpO rfl (cH rfl rfl (aH Ty.k175 (c:=.ptr 1 0) rfl (qA1 3 (qpP rfl (qc (aw2:=[.box [.ptr 1 0],.dead,.box [iI 0,.nils,iI 0]]) (n0:=3) (n1:=1) [1] rfl rfl (aQ hx5) (aq rfl ⟨aF rfl,tqz⟩ ap) ⟨am rfl,tqz⟩ ⟨.inr ⟨rfl,rfl⟩,.inl ⟨0,_,by decide,rfl,tqz⟩,.inr ⟨rfl,rfl⟩,tqz⟩ trivial)))))
  ·refine qpO rfl (cH rfl rfl (aH Ty.k175 (c:=.ptr 1 0) rfl (qA2 1 4 ?_ ?_)))
   ·refine qpO rfl (bf (aw2:=[.box [.ptr 1 0],.box [.str x4.2],.box [iI 0,.nils,iI 0]]) (v':=iI x4.1) (n0:=3) (n1:=1) [1] rfl rfl (aQ hx4) (aq rfl ⟨aF rfl,tqz⟩ ap) ⟨am rfl,tqz⟩ (an (aI _ _)) ⟨.inr ⟨rfl,rfl⟩,.inl ⟨0,_,by decide,rfl,aT ⟨an (aX _),tqz⟩⟩,.inr ⟨rfl,rfl⟩,tqz⟩ (qA2 3 4 ?_ ?_))
    ·exact qpP rfl (qc (aw2:=[.box [.ptr 1 0],.dead,.box [iI 0,.nils,iI 0]]) (n0:=3) (n1:=1) [1] rfl rfl (aQ hx5) (aq rfl ⟨aF rfl,tqz⟩ ap) ⟨am rfl,tqz⟩ ⟨.inr ⟨rfl,rfl⟩,.inl ⟨0,_,by decide,rfl,tqz⟩,.inr ⟨rfl,rfl⟩,tqz⟩ trivial)
    exact qpO rfl (cH rfl rfl (aH Ty.k175 (c:=.ptr 1 0) rfl (qA1 3 (qpP rfl (qc (aw2:=[.box [.ptr 1 0],.dead,.box [iI 0,.nils,iI 0]]) (n0:=3) (n1:=1) [1] rfl rfl (aQ hx5) (aq rfl ⟨aF rfl,tqz⟩ ap) ⟨am rfl,tqz⟩ ⟨.inr ⟨rfl,rfl⟩,.inl ⟨0,_,by decide,rfl,tqz⟩,.inr ⟨rfl,rfl⟩,tqz⟩ trivial)))))
   refine qpO rfl (cH rfl rfl (aH Ty.k175 (c:=.ptr 1 0) rfl (qA1 1 (qpO rfl (bf (aw2:=[.box [.ptr 1 0],.box [.str x4.2],.box [iI 0,.nils,iI 0]]) (v':=iI x4.1) (n0:=3) (n1:=1) [1] rfl rfl (aQ hx4) (aq rfl ⟨aF rfl,tqz⟩ ap) ⟨am rfl,tqz⟩ (an (aI _ _)) ⟨.inr ⟨rfl,rfl⟩,.inl ⟨0,_,by decide,rfl,aT ⟨an (aX _),tqz⟩⟩,.inr ⟨rfl,rfl⟩,tqz⟩ (qA1 3 ?_))))));exact qpP rfl (qc (aw2:=[.box [.ptr 1 0],.dead,.box [iI 0,.nils,iI 0]]) (n0:=3) (n1:=1) [1] rfl rfl (aQ hx5) (aq rfl ⟨aF rfl,tqz⟩ ap) ⟨am rfl,tqz⟩ ⟨.inr ⟨rfl,rfl⟩,.inl ⟨0,_,by decide,rfl,tqz⟩,.inr ⟨rfl,rfl⟩,tqz⟩ trivial)
  refine qpO rfl (cH rfl rfl (aH Ty.k175 (c:=.ptr 1 0) rfl (qA2 1 2 ?_ ?_)))
  ·refine qpO rfl (bf (aw2:=[.box [.ptr 1 0],.box [.str x4.2],.box [iI 0,.nils,iI 0]]) (v':=iI x4.1) (n0:=3) (n1:=1) [1] rfl rfl (aQ hx4) (aq rfl ⟨aF rfl,tqz⟩ ap) ⟨am rfl,tqz⟩ (an (aI _ _)) ⟨.inr ⟨rfl,rfl⟩,.inl ⟨0,_,by decide,rfl,aT ⟨an (aX _),tqz⟩⟩,.inr ⟨rfl,rfl⟩,tqz⟩ (qA1 2 (qpO rfl (cH rfl rfl (aH Ty.k175 (c:=.ptr 1 0) rfl (qA1 3 ?_))))));exact qpP rfl (qc (aw2:=[.box [.ptr 1 0],.dead,.box [iI 0,.nils,iI 0]]) (n0:=3) (n1:=1) [1] rfl rfl (aQ hx5) (aq rfl ⟨aF rfl,tqz⟩ ap) ⟨am rfl,tqz⟩ ⟨.inr ⟨rfl,rfl⟩,.inl ⟨0,_,by decide,rfl,tqz⟩,.inr ⟨rfl,rfl⟩,tqz⟩ trivial)
  refine qpO rfl (cH rfl rfl (aH Ty.k175 (c:=.ptr 1 0) rfl (qA1 1 (qpO rfl (bf (aw2:=[.box [.ptr 1 0],.box [.str x4.2],.box [iI 0,.nils,iI 0]]) (v':=iI x4.1) (n0:=3) (n1:=1) [1] rfl rfl (aQ hx4) (aq rfl ⟨aF rfl,tqz⟩ ap) ⟨am rfl,tqz⟩ (an (aI _ _)) ⟨.inr ⟨rfl,rfl⟩,.inl ⟨0,_,by decide,rfl,aT ⟨an (aX _),tqz⟩⟩,.inr ⟨rfl,rfl⟩,tqz⟩ (qA1 3 ?_))))));exact qpP rfl (qc (aw2:=[.box [.ptr 1 0],.dead,.box [iI 0,.nils,iI 0]]) (n0:=3) (n1:=1) [1] rfl rfl (aQ hx5) (aq rfl ⟨aF rfl,tqz⟩ ap) ⟨am rfl,tqz⟩ ⟨.inr ⟨rfl,rfl⟩,.inl ⟨0,_,by decide,rfl,tqz⟩,.inr ⟨rfl,rfl⟩,tqz⟩ trivial)
 refine cm h (fun hx6 h=>?_) (fun x6 hx6 h=>?_)
 ·cases h;refine T.drawnP (V:=(.iface 173 (.agg #[]))) (fun _=>True) mixed (k:=9) rfl ?_ (fun _ _ _=>rfl);refine qp0 5 rfl (rj (cs:=[.ptr 0 0]) rfl (qpl [0,1,3,6,7,8] 0 rfl (gb rfl rfl (aH Ty.k175 (c:=.ptr 1 0) rfl (qA3 1 2 4 ?_ ?_ ?_)))))
  ·refine qpO rfl (bf (aw2:=[.box [.ptr 1 0],.box [.str x4.2],.box [iI 0,.nils,iI 0]]) (v':=iI x4.1) (n0:=3) (n1:=1) [1] rfl rfl (aQ hx4) (aq rfl ⟨aF rfl,tqz⟩ ap) ⟨am rfl,tqz⟩ (an (aI _ _)) ⟨.inr ⟨rfl,rfl⟩,.inl ⟨0,_,by decide,rfl,aT ⟨an (aX _),tqz⟩⟩,.inr ⟨rfl,rfl⟩,tqz⟩ (qpl [2,3,6,7,8] 2 rfl (gb rfl rfl (aH Ty.k175 (c:=.ptr 1 0) rfl (qA2 3 4 ?_ ?_)))))
   ·refine qpO rfl (bf (aw2:=[.box [.ptr 1 0],.box [.str x5.2],.box [iI 0,.nils,iI 0]]) (v':=iI x5.1) (n0:=3) (n1:=1) [1] rfl rfl (aQ hx5) (aq rfl ⟨aF rfl,tqz⟩ ap) ⟨am rfl,tqz⟩ (an (aI _ _)) ⟨.inr ⟨rfl,rfl⟩,.inl ⟨0,_,by decide,rfl,aT ⟨an (aX _),tqz⟩⟩,.inr ⟨rfl,rfl⟩,tqz⟩ (qA1 4 (qpO rfl (cH rfl rfl (aH Ty.k175 (c:=.ptr 1 0) rfl (qA1 6 ?_))))));exact qpP rfl (qc (aw2:=[.dead,.dead,.box [iI 0,.nils,iI 0]]) (n0:=3) (n1:=2) [1,0] rfl rfl (jf hx6) (aq rfl ⟨aF rfl,tqz⟩ (aq rfl ⟨am rfl,tqz⟩ ap)) ⟨am rfl,fx ⟨am rfl,tqz⟩,tqz⟩ ⟨.inl ⟨1,_,by decide,rfl,tqz⟩,.inl ⟨0,_,by decide,rfl,tqz⟩,.inr ⟨rfl,rfl⟩,tqz⟩ trivial)
   refine qpO rfl (cH rfl rfl (aH Ty.k175 (c:=.ptr 1 0) rfl (qA1 3 (qpO rfl (bf (aw2:=[.box [.ptr 1 0],.box [.str x5.2],.box [iI 0,.nils,iI 0]]) (v':=iI x5.1) (n0:=3) (n1:=1) [1] rfl rfl (aQ hx5) (aq rfl ⟨aF rfl,tqz⟩ ap) ⟨am rfl,tqz⟩ (an (aI _ _)) ⟨.inr ⟨rfl,rfl⟩,.inl ⟨0,_,by decide,rfl,aT ⟨an (aX _),tqz⟩⟩,.inr ⟨rfl,rfl⟩,tqz⟩ (qA1 6 ?_))))));exact qpP rfl (qc (aw2:=[.dead,.dead,.box [iI 0,.nils,iI 0]]) (n0:=3) (n1:=2) [1,0] rfl rfl (jf hx6) (aq rfl ⟨aF rfl,tqz⟩ (aq rfl ⟨am rfl,tqz⟩ ap)) ⟨am rfl,fx ⟨am rfl,tqz⟩,tqz⟩ ⟨.inl ⟨1,_,by decide,rfl,tqz⟩,.inl ⟨0,_,by decide,rfl,tqz⟩,.inr ⟨rfl,rfl⟩,tqz⟩ trivial)
  ·refine qpO rfl (cH rfl rfl (aH Ty.k175 (c:=.ptr 1 0) rfl (qA2 1 4 ?_ ?_)))
   ·refine qpO rfl (bf (aw2:=[.box [.ptr 1 0],.box [.str x4.2],.box [iI 0,.nils,iI 0]]) (v':=iI x4.1) (n0:=3) (n1:=1) [1] rfl rfl (aQ hx4) (aq rfl ⟨aF rfl,tqz⟩ ap) ⟨am rfl,tqz⟩ (an (aI _ _)) ⟨.inr ⟨rfl,rfl⟩,.inl ⟨0,_,by decide,rfl,aT ⟨an (aX _),tqz⟩⟩,.inr ⟨rfl,rfl⟩,tqz⟩ (qA2 3 4 ?_ ?_))
    ·refine qpO rfl (bf (aw2:=[.box [.ptr 1 0],.box [.str x5.2],.box [iI 0,.nils,iI 0]]) (v':=iI x5.1) (n0:=3) (n1:=1) [1] rfl rfl (aQ hx5) (aq rfl ⟨aF rfl,tqz⟩ ap) ⟨am rfl,tqz⟩ (an (aI _ _)) ⟨.inr ⟨rfl,rfl⟩,.inl ⟨0,_,by decide,rfl,aT ⟨an (aX _),tqz⟩⟩,.inr ⟨rfl,rfl⟩,tqz⟩ (qA1 4 (qpO rfl (cH rfl rfl (aH Ty.k175 (c:=.ptr 1 0) rfl (qA1 6 ?_))))));exact qpP rfl (qc (aw2:=[.dead,.dead,.box [iI 0,.nils,iI 0]]) (n0:=3) (n1:=2) [1,0] rfl rfl (jf hx6) (aq rfl ⟨aF rfl,tqz⟩ (aq rfl ⟨am rfl,tqz⟩ ap)) ⟨am rfl,fx ⟨am rfl,tqz⟩,tqz⟩ ⟨.inl ⟨1,_,by decide,rfl,tqz⟩,.inl ⟨0,_,by decide,rfl,tqz⟩,.inr ⟨rfl,rfl⟩,tqz⟩ trivial)
    refine qpO rfl (cH rfl rfl (aH Ty.k175 (c:=.ptr 1 0) rfl (qA1 3 (qpO rfl (bf (aw2:=[.box [.ptr 1 0],.box [.str x5.2],.box [iI 0,.nils,iI 0]]) (v':=iI x5.1) (n0:=3) (n1:=1) [1] rfl rfl (aQ hx5) (aq rfl ⟨aF rfl,tqz⟩ ap) ⟨am rfl,tqz⟩ (an (aI _ _)) ⟨.inr ⟨rfl,rfl⟩,.inl ⟨0,_,by decide,rfl,aT ⟨an (aX _),tqz⟩⟩,.inr ⟨rfl,rfl⟩,tqz⟩ (qA1 6 ?_))))));exact qpP rfl (qc (aw2:=[.dead,.dead,.box [iI 0,.nils,iI 0]]) (n0:=3) (n1:=2) [1,0] rfl rfl (jf hx6) (aq rfl ⟨aF rfl,tqz⟩ (aq rfl ⟨am rfl,tqz⟩ ap)) ⟨am rfl,fx ⟨am rfl,tqz⟩,tqz⟩ ⟨.inl ⟨1,_,by decide,rfl,tqz⟩,.inl ⟨0,_,by decide,rfl,tqz⟩,.inr ⟨rfl,rfl⟩,tqz⟩ trivial)
   refine qpO rfl (cH rfl rfl (aH Ty.k175 (c:=.ptr 1 0) rfl (qA1 1 (qpO rfl (bf (aw2:=[.box [.ptr 1 0],.box [.str x4.2],.box [iI 0,.nils,iI 0]]) (v':=iI x4.1) (n0:=3) (n1:=1) [1] rfl rfl (aQ hx4) (aq rfl ⟨aF rfl,tqz⟩ ap) ⟨am rfl,tqz⟩ (an (aI _ _)) ⟨.inr ⟨rfl,rfl⟩,.inl ⟨0,_,by decide,rfl,aT ⟨an (aX _),tqz⟩⟩,.inr ⟨rfl,rfl⟩,tqz⟩ (qA1 3 (qpO rfl (bf (aw2:=[.box [.ptr 1 0],.box [.str x5.2],.box [iI 0,.nils,iI 0]]) (v':=iI x5.1) (n0:=3) (n1:=1) [1] rfl rfl (aQ hx5) (aq rfl ⟨aF rfl,tqz⟩ ap) ⟨am rfl,tqz⟩ (an (aI _ _)) ⟨.inr ⟨rfl,rfl⟩,.inl ⟨0,_,by decide,rfl,aT ⟨an (aX _),tqz⟩⟩,.inr ⟨rfl,rfl⟩,tqz⟩ (qA1 6 ?_)))))))));exact qpP rfl (qc (aw2:=[.dead,.dead,.box [iI 0,.nils,iI 0]]) (n0:=3) (n1:=2) [1,0] rfl rfl (jf hx6) (aq rfl ⟨aF rfl,tqz⟩ (aq rfl ⟨am rfl,tqz⟩ ap)) ⟨am rfl,fx ⟨am rfl,tqz⟩,tqz⟩ ⟨.inl ⟨1,_,by decide,rfl,tqz⟩,.inl ⟨0,_,by decide,rfl,tqz⟩,.inr ⟨rfl,rfl⟩,tqz⟩ trivial)
  refine qpO rfl (cH rfl rfl (aH Ty.k175 (c:=.ptr 1 0) rfl (qA2 1 2 ?_ ?_)))
  ·refine qpO rfl (bf (aw2:=[.box [.ptr 1 0],.box [.str x4.2],.box [iI 0,.nils,iI 0]]) (v':=iI x4.1) (n0:=3) (n1:=1) [1] rfl rfl (aQ hx4) (aq rfl ⟨aF rfl,tqz⟩ ap) ⟨am rfl,tqz⟩ (an (aI _ _)) ⟨.inr ⟨rfl,rfl⟩,.inl ⟨0,_,by decide,rfl,aT ⟨an (aX _),tqz⟩⟩,.inr ⟨rfl,rfl⟩,tqz⟩ (qA1 2 (qpO rfl (cH rfl rfl (aH Ty.k175 (c:=.ptr 1 0) rfl (qA1 3 (qpO rfl (bf (aw2:=[.box [.ptr 1 0],.box [.str x5.2],.box [iI 0,.nils,iI 0]]) (v':=iI x5.1) (n0:=3) (n1:=1) [1] rfl rfl (aQ hx5) (aq rfl ⟨aF rfl,tqz⟩ ap) ⟨am rfl,tqz⟩ (an (aI _ _)) ⟨.inr ⟨rfl,rfl⟩,.inl ⟨0,_,by decide,rfl,aT ⟨an (aX _),tqz⟩⟩,.inr ⟨rfl,rfl⟩,tqz⟩ (qA1 6 ?_)))))))));exact qpP rfl (qc (aw2:=[.dead,.dead,.box [iI 0,.nils,iI 0]]) (n0:=3) (n1:=2) [1,0] rfl rfl (jf hx6) (aq rfl ⟨aF rfl,tqz⟩ (aq rfl ⟨am rfl,tqz⟩ ap)) ⟨am rfl,fx ⟨am rfl,tqz⟩,tqz⟩ ⟨.inl ⟨1,_,by decide,rfl,tqz⟩,.inl ⟨0,_,by decide,rfl,tqz⟩,.inr ⟨rfl,rfl⟩,tqz⟩ trivial)
  refine qpO rfl (cH rfl rfl (aH Ty.k175 (c:=.ptr 1 0) rfl (qA1 1 (qpO rfl (bf (aw2:=[.box [.ptr 1 0],.box [.str x4.2],.box [iI 0,.nils,iI 0]]) (v':=iI x4.1) (n0:=3) (n1:=1) [1] rfl rfl (aQ hx4) (aq rfl ⟨aF rfl,tqz⟩ ap) ⟨am rfl,tqz⟩ (an (aI _ _)) ⟨.inr ⟨rfl,rfl⟩,.inl ⟨0,_,by decide,rfl,aT ⟨an (aX _),tqz⟩⟩,.inr ⟨rfl,rfl⟩,tqz⟩ (qA1 3 (qpO rfl (bf (aw2:=[.box [.ptr 1 0],.box [.str x5.2],.box [iI 0,.nils,iI 0]]) (v':=iI x5.1) (n0:=3) (n1:=1) [1] rfl rfl (aQ hx5) (aq rfl ⟨aF rfl,tqz⟩ ap) ⟨am rfl,tqz⟩ (an (aI _ _)) ⟨.inr ⟨rfl,rfl⟩,.inl ⟨0,_,by decide,rfl,aT ⟨an (aX _),tqz⟩⟩,.inr ⟨rfl,rfl⟩,tqz⟩ (qA1 6 ?_)))))))));exact qpP rfl (qc (aw2:=[.dead,.dead,.box [iI 0,.nils,iI 0]]) (n0:=3) (n1:=2) [1,0] rfl rfl (jf hx6) (aq rfl ⟨aF rfl,tqz⟩ (aq rfl ⟨am rfl,tqz⟩ ap)) ⟨am rfl,fx ⟨am rfl,tqz⟩,tqz⟩ ⟨.inl ⟨1,_,by decide,rfl,tqz⟩,.inl ⟨0,_,by decide,rfl,tqz⟩,.inr ⟨rfl,rfl⟩,tqz⟩ trivial)
 refine T.drawn mixed (k:=9) rfl ?_;apply RA.jn 3 (bm 9 63);intro hS1;apply RA.jn 4 (bm 9 55);intro hS2;apply RA.jn 5 (bm 9 39);intro hS3;apply RA.jn 5 (bm 9 53);intro hS4
 ·refine rq [5] 8 (rL [0,1,3,6,7,8] 0 rfl (ra3 1 2 4 ?_ ?_ ?_))
  ·refine oO rfl (bf (aw2:=[.box [.ptr 1 0],.box [.str x4.2],.box [iI 0,.nils,iI 0]]) (v':=iI x4.1) (n0:=3) (n1:=1) [1] rfl rfl (aQ hx4) (aq rfl ⟨aF rfl,tqz⟩ ap) ⟨am rfl,tqz⟩ (an (aI _ _)) ⟨.inr ⟨rfl,rfl⟩,.inl ⟨0,_,by decide,rfl,aT ⟨an (aX _),tqz⟩⟩,.inr ⟨rfl,rfl⟩,tqz⟩ (rL [2,3,6,7,8] 2 rfl ?_));exact raE hS3
  ·refine og 3 ⟨rfl,(ra2 1 4 ?_ ?_)⟩
   ·exact oO rfl (bf (aw2:=[.box [.ptr 1 0],.box [.str x4.2],.box [iI 0,.nils,iI 0]]) (v':=iI x4.1) (n0:=3) (n1:=1) [1] rfl rfl (aQ hx4) (aq rfl ⟨aF rfl,tqz⟩ ap) ⟨am rfl,tqz⟩ (an (aI _ _)) ⟨.inr ⟨rfl,rfl⟩,.inl ⟨0,_,by decide,rfl,aT ⟨an (aX _),tqz⟩⟩,.inr ⟨rfl,rfl⟩,tqz⟩ (raT hS3))
   ·exact og 3 ⟨rfl,(raE hS4)⟩
  ·refine og 3 ⟨rfl,(ra2 1 2 ?_ ?_)⟩
   ·refine oO rfl (bf (aw2:=[.box [.ptr 1 0],.box [.str x4.2],.box [iI 0,.nils,iI 0]]) (v':=iI x4.1) (n0:=3) (n1:=1) [1] rfl rfl (aQ hx4) (aq rfl ⟨aF rfl,tqz⟩ ap) ⟨am rfl,tqz⟩ (an (aI _ _)) ⟨.inr ⟨rfl,rfl⟩,.inl ⟨0,_,by decide,rfl,aT ⟨an (aX _),tqz⟩⟩,.inr ⟨rfl,rfl⟩,tqz⟩ (ra1 2 (og 3 ⟨rfl,?_⟩)));exact raE hS2
   ·exact og 3 ⟨rfl,(raT hS4)⟩
 ·exact ra1 1 (oO rfl (bf (aw2:=[.box [.ptr 1 0],.box [.str x4.2],.box [iI 0,.nils,iI 0]]) (v':=iI x4.1) (n0:=3) (n1:=1) [1] rfl rfl (aQ hx4) (aq rfl ⟨aF rfl,tqz⟩ ap) ⟨am rfl,tqz⟩ (an (aI _ _)) ⟨.inr ⟨rfl,rfl⟩,.inl ⟨0,_,by decide,rfl,aT ⟨an (aX _),tqz⟩⟩,.inr ⟨rfl,rfl⟩,tqz⟩ (raT hS2)))
 ·refine ra2 3 4 ?_ ?_
  ·refine oO rfl (bf (aw2:=[.box [.ptr 1 0],.box [.str x5.2],.box [iI 0,.nils,iI 0]]) (v':=iI x5.1) (n0:=3) (n1:=1) [1] rfl rfl (aQ hx5) (aq rfl ⟨aF rfl,tqz⟩ ap) ⟨am rfl,tqz⟩ (an (aI _ _)) ⟨.inr ⟨rfl,rfl⟩,.inl ⟨0,_,by decide,rfl,aT ⟨an (aX _),tqz⟩⟩,.inr ⟨rfl,rfl⟩,tqz⟩ (ra1 4 (og 3 ⟨rfl,?_⟩)));exact raE hS1
  ·exact og 3 ⟨rfl,(raT hS2)⟩
 ·exact ra1 3 (oO rfl (bf (aw2:=[.box [.ptr 1 0],.box [.str x5.2],.box [iI 0,.nils,iI 0]]) (v':=iI x5.1) (n0:=3) (n1:=1) [1] rfl rfl (aQ hx5) (aq rfl ⟨aF rfl,tqz⟩ ap) ⟨am rfl,tqz⟩ (an (aI _ _)) ⟨.inr ⟨rfl,rfl⟩,.inl ⟨0,_,by decide,rfl,aT ⟨an (aX _),tqz⟩⟩,.inr ⟨rfl,rfl⟩,tqz⟩ (raT hS1)))
 refine ra1 6 (oO rfl (bf (aw2:=[.box [.ptr 1 0],.box [.str x6.2],.box [iI 0,.nils,iI 0],aR 139 2 aL x6.1]) (v':=.ref 3) (n0:=3) (n1:=3) [1,0] rfl rfl (jf hx6) (aq rfl ⟨aF rfl,tqz⟩ (aq rfl ⟨am rfl,tqz⟩ ap)) ⟨am rfl,fx ⟨am rfl,tqz⟩,tqz⟩ (hJ (by decide)) ⟨.inl ⟨1,_,by decide,rfl,aT ⟨jZ (by decide),tqz⟩⟩,.inl ⟨0,_,by decide,rfl,aT ⟨an (aX _),tqz⟩⟩,.inr ⟨rfl,rfl⟩,.inl ⟨2,_,by decide,rfl,jU lc⟩,tqz⟩ (rq [7] 1 (ra1 8 (og 4 ⟨rfl,(RA.done (by decide +kernel) ?_)⟩)))));cases h;exact tN [0,1]
theorem vL {p0:List UInt8} {r:((List Memory) × (List UInt8)) ⊕ Unit} (h:me p0=some r):FnP Tryz.prog (.iface 173 (.agg #[])) 108 [.ptr 0 0,.func 109 [.ptr 1 0]] [.box [.str p0],.box [.ptr 0 0]] (fun r:(List Memory) × (List UInt8)=>.ref 2) (fun r=>[.box [.str r.2],.box [.ptr 0 0],aR 84 3 aB r.1]) r:=by
 unfold me at h;refine fnPT 2 Tryz.func108 Tryz.ntmps108 ?_;refine q0 ?_;refine X 5 2 (cm h (fun hx2 h=>?_) (fun x2 hx2 h=>?_))
 ·cases h;(refine T.rP (V:=(.iface 173 (.agg #[]))) 1 rfl ?_);exact go 1 2 (RS.nil (qc (aw2:=[.dead,.box [.ptr 0 0]]) (n0:=2) (n1:=1) [0] rfl rfl (aQ hx2) (aq rfl ⟨aF rfl,tqz⟩ ap) ⟨am rfl,tqz⟩ ⟨.inl ⟨0,_,by decide,rfl,tqz⟩,.inr ⟨rfl,rfl⟩,tqz⟩ rfl))
 refine X 2 2 (sO (bf (aw2:=[.box [.str x2.2],.box [.ptr 0 0]]) (v':=iI x2.1) (n0:=2) (n1:=1) [0] rfl rfl (aQ hx2) (aq rfl ⟨aF rfl,tqz⟩ ap) ⟨am rfl,tqz⟩ (an (aI _ _)) ⟨.inl ⟨0,_,by decide,rfl,aT ⟨an (aX _),tqz⟩⟩,.inr ⟨rfl,rfl⟩,tqz⟩ (Y 3 2 (j1 [(1,.func 109 [.ptr 1 0]),(5,iI x2.1),(19,.bool ((decide (x2.1<0)) || decide (x2.1 > ((x2.2).length:Int))))] [.box [.str x2.2],.box [.ptr 0 0]] ?_ (fun hK=>?_)))))
 ·refine T.ci h rfl (fun ab h=>?_) (fun ab h=>?_)
  ·cases h;(refine T.rP (V:=(.iface 173 (.agg #[]))) 2 rfl ?_);exact go 1 2 (sO (ld Tryz.underlying173 rfl rfl (RS.nil (PP.panic rfl rfl))))
  refine X 12 2 (itr (fun ak:Int × (List UInt8) × (List Memory)=>mkA 32 [(1,.func 109 [.ptr 1 0]),(6,.ref 2),(22,iI x2.1),(23,iI ak.1)]) (fun ak=>[.box [.str ak.2.1],.box [.ptr 0 0],aR 84 3 aB ak.2.2]) h (wk [(6,84,3)] [0,1,2] 2 rfl) (fun ak v_6 h bp=>?_));obtain ⟨s4,s5,s6⟩:=ak;replace h:ir x2 s4 s5 s6=some v_6:=h;try dsimp only
  unfold ir at h;refine X 5 3 (T.ci h rfl (fun bB h=>?_) (fun bB h=>?_))
  ·refine X 3 3 (cm h (fun hx7 h=>?_) (fun x7 hx7 h=>?_))
   ·replace h:=mi h bp;cases h;(refine T.rP (V:=(.iface 173 (.agg #[]))) 2 rfl ?_);exact go 2 3 (RS.nil (qc (aw2:=[.dead,.dead,aR 84 3 aB s6]) (n0:=3) (n1:=2) [1,0] rfl rfl (vZ hx7) (aq rfl ⟨am rfl,tqz⟩ (aq rfl ⟨aF rfl,tqz⟩ ap)) ⟨am rfl,tqz⟩ ⟨.inl ⟨1,_,by decide,rfl,tqz⟩,.inl ⟨0,_,by decide,rfl,tqz⟩,.inr ⟨rfl,rfl⟩,tqz⟩ rfl))
   refine B h fun x8 hx8 h=>(X 3 3 (sO (bf (aw2:=[.box [.str x7.2],.box [.ptr 0 0],aR 84 3 aB s6]) (v':=.agg (aB x7.1)) (n0:=3) (n1:=2) [1,0] rfl rfl (vZ hx7) (aq rfl ⟨am rfl,tqz⟩ (aq rfl ⟨aF rfl,tqz⟩ ap)) ⟨am rfl,tqz⟩ (pW ⟨an (aI _ _),an (cI lc _),an (aI _ _),tqz⟩) ⟨.inl ⟨1,_,by decide,rfl,aT ⟨an (aX _),tqz⟩⟩,.inl ⟨0,_,by decide,rfl,aT ⟨jZ (by decide),tqz⟩⟩,.inr ⟨rfl,rfl⟩,tqz⟩ (sO (bl (rows:=List.map aB [x7.1]) (vs:=[.agg (aB x7.1)]) Ty.s28 Ty.z84 rfl rfl rfl rfl rfl rfl (sO (b6 (en:=aB) (xs:=s6) (ys:=([x7.1]:List Memory)) Ty.s28 (fun _=>rfl) rfl rfl rfl hx8 rfl rfl (Y 6 5 ?_))))))))
   exact lk h (wk [] [0,1,4] 5 rfl)
  refine X 1 3 ?_;replace h:=mi h bp;refine X 5 3 ?_;cases h;exact tO [] [0,1,2] 3
 refine X 5 2 (gp 11 (fun ae=>?_) (fun ae=>?_))
 ·refine Yp 9 2 ?_;rw [ae] at hK;exact sx hK
 refine Yp 9 2 ?_;rw [ae] at hK;exact sx hK
theorem vY {p0:List UInt8} {r:(Choice × (List UInt8)) ⊕ Unit} (h:kD p0=some r):FnP Tryz.prog (.iface 173 (.agg #[])) 113 [.ptr 0 0] [.box [.ptr 1 0],.box [.str p0]] (fun r:Choice × (List UInt8)=>.agg (aA r.1)) (fun r=>[.box [.ptr 1 0],.box [.str r.2]]) r:=by
 unfold kD at h;refine fnPT 2 Tryz.func113 Tryz.ntmps113 ?_;refine q0 ?_;refine X 5 2 (cm h (fun hx3 h=>?_) (fun x3 hx3 h=>?_))
 ·cases h;refine T.drawnP (V:=(.iface 173 (.agg #[]))) (fun _=>True) mixed (k:=6) rfl ?_ (fun _ _ _=>rfl);refine qpl [0,1,3,4,5] 0 rfl (gb rfl rfl (aH Ty.k175 (c:=.ptr 1 0) rfl (qA2 1 2 ?_ ?_)))
  ·exact qpP rfl (qc (aw2:=[.box [.ptr 1 0],.dead,.box [iI 0,iI 0]]) (n0:=3) (n1:=1) [1] rfl rfl (aQ hx3) (aq rfl ⟨aF rfl,tqz⟩ ap) ⟨am rfl,tqz⟩ ⟨.inr ⟨rfl,rfl⟩,.inl ⟨0,_,by decide,rfl,tqz⟩,.inr ⟨rfl,rfl⟩,tqz⟩ trivial)
  exact qpO rfl (cH rfl rfl (aH Ty.k175 (c:=.ptr 1 0) rfl (qA1 1 (qpP rfl (qc (aw2:=[.box [.ptr 1 0],.dead,.box [iI 0,iI 0]]) (n0:=3) (n1:=1) [1] rfl rfl (aQ hx3) (aq rfl ⟨aF rfl,tqz⟩ ap) ⟨am rfl,tqz⟩ ⟨.inr ⟨rfl,rfl⟩,.inl ⟨0,_,by decide,rfl,tqz⟩,.inr ⟨rfl,rfl⟩,tqz⟩ trivial)))))
 refine cm h (fun hx4 h=>?_) (fun x4 hx4 h=>?_)
 ·cases h;refine T.drawnP (V:=(.iface 173 (.agg #[]))) (fun _=>True) mixed (k:=6) rfl ?_ (fun _ _ _=>rfl);refine qpl [0,1,3,4,5] 0 rfl (gb rfl rfl (aH Ty.k175 (c:=.ptr 1 0) rfl (qA2 1 2 ?_ ?_)))
  ·refine qpO rfl (bf (aw2:=[.box [.ptr 1 0],.box [.str x3.2],.box [iI 0,iI 0]]) (v':=iI x3.1) (n0:=3) (n1:=1) [1] rfl rfl (aQ hx3) (aq rfl ⟨aF rfl,tqz⟩ ap) ⟨am rfl,tqz⟩ (an (aI _ _)) ⟨.inr ⟨rfl,rfl⟩,.inl ⟨0,_,by decide,rfl,aT ⟨an (aX _),tqz⟩⟩,.inr ⟨rfl,rfl⟩,tqz⟩ (qA1 2 (qpO rfl (cH rfl rfl (aH Ty.k175 (c:=.ptr 1 0) rfl (qA1 3 ?_))))));exact qpP rfl (qc (aw2:=[.box [.ptr 1 0],.dead,.box [iI 0,iI 0]]) (n0:=3) (n1:=1) [1] rfl rfl (aQ hx4) (aq rfl ⟨aF rfl,tqz⟩ ap) ⟨am rfl,tqz⟩ ⟨.inr ⟨rfl,rfl⟩,.inl ⟨0,_,by decide,rfl,tqz⟩,.inr ⟨rfl,rfl⟩,tqz⟩ trivial)
  refine qpO rfl (cH rfl rfl (aH Ty.k175 (c:=.ptr 1 0) rfl (qA1 1 (qpO rfl (bf (aw2:=[.box [.ptr 1 0],.box [.str x3.2],.box [iI 0,iI 0]]) (v':=iI x3.1) (n0:=3) (n1:=1) [1] rfl rfl (aQ hx3) (aq rfl ⟨aF rfl,tqz⟩ ap) ⟨am rfl,tqz⟩ (an (aI _ _)) ⟨.inr ⟨rfl,rfl⟩,.inl ⟨0,_,by decide,rfl,aT ⟨an (aX _),tqz⟩⟩,.inr ⟨rfl,rfl⟩,tqz⟩ (qA1 3 ?_))))));exact qpP rfl (qc (aw2:=[.box [.ptr 1 0],.dead,.box [iI 0,iI 0]]) (n0:=3) (n1:=1) [1] rfl rfl (aQ hx4) (aq rfl ⟨aF rfl,tqz⟩ ap) ⟨am rfl,tqz⟩ ⟨.inr ⟨rfl,rfl⟩,.inl ⟨0,_,by decide,rfl,tqz⟩,.inr ⟨rfl,rfl⟩,tqz⟩ trivial)
 refine T.drawn mixed (k:=6) rfl ?_;apply RA.jn 3 (bm 6 7);intro hS1
 ·refine rL [0,1,3,4,5] 0 rfl (ra2 1 2 ?_ ?_)
  ·refine oO rfl (bf (aw2:=[.box [.ptr 1 0],.box [.str x3.2],.box [iI 0,iI 0]]) (v':=iI x3.1) (n0:=3) (n1:=1) [1] rfl rfl (aQ hx3) (aq rfl ⟨aF rfl,tqz⟩ ap) ⟨am rfl,tqz⟩ (an (aI _ _)) ⟨.inr ⟨rfl,rfl⟩,.inl ⟨0,_,by decide,rfl,aT ⟨an (aX _),tqz⟩⟩,.inr ⟨rfl,rfl⟩,tqz⟩ (ra1 2 (og 3 ⟨rfl,?_⟩)));exact raE hS1
  ·refine og 3 ⟨rfl,(ra1 1 (oO rfl (bf (aw2:=[.box [.ptr 1 0],.box [.str x3.2],.box [iI 0,iI 0]]) (v':=iI x3.1) (n0:=3) (n1:=1) [1] rfl rfl (aQ hx3) (aq rfl ⟨aF rfl,tqz⟩ ap) ⟨am rfl,tqz⟩ (an (aI _ _)) ⟨.inr ⟨rfl,rfl⟩,.inl ⟨0,_,by decide,rfl,aT ⟨an (aX _),tqz⟩⟩,.inr ⟨rfl,rfl⟩,tqz⟩ ?_)))⟩;exact raT hS1
 refine ra1 3 (oO rfl (bf (aw2:=[.box [.ptr 1 0],.box [.str x4.2],.box [iI 0,iI 0]]) (v':=iI x4.1) (n0:=3) (n1:=1) [1] rfl rfl (aQ hx4) (aq rfl ⟨aF rfl,tqz⟩ ap) ⟨am rfl,tqz⟩ (an (aI _ _)) ⟨.inr ⟨rfl,rfl⟩,.inl ⟨0,_,by decide,rfl,aT ⟨an (aX _),tqz⟩⟩,.inr ⟨rfl,rfl⟩,tqz⟩ (rq [4] 1 (ra1 5 (og 3 ⟨rfl,(RA.done (by decide +kernel) ?_)⟩)))));cases h;exact tN [0,1]
theorem vM {p0:List UInt8} {r:((List Choice) × (List UInt8)) ⊕ Unit} (h:mc p0=some r):FnP Tryz.prog (.iface 173 (.agg #[])) 112 [.ptr 0 0,.func 113 [.ptr 1 0]] [.box [.str p0],.box [.ptr 0 0]] (fun r:(List Choice) × (List UInt8)=>.ref 2) (fun r=>[.box [.str r.2],.box [.ptr 0 0],aR 50 2 aA r.1]) r:=by
 unfold mc at h;refine fnPT 2 Tryz.func112 Tryz.ntmps112 ?_;refine q0 ?_;refine X 5 2 (cm h (fun hx2 h=>?_) (fun x2 hx2 h=>?_))
 ·cases h;(refine T.rP (V:=(.iface 173 (.agg #[]))) 1 rfl ?_);exact go 1 2 (RS.nil (qc (aw2:=[.dead,.box [.ptr 0 0]]) (n0:=2) (n1:=1) [0] rfl rfl (aQ hx2) (aq rfl ⟨aF rfl,tqz⟩ ap) ⟨am rfl,tqz⟩ ⟨.inl ⟨0,_,by decide,rfl,tqz⟩,.inr ⟨rfl,rfl⟩,tqz⟩ rfl))
 refine X 2 2 (sO (bf (aw2:=[.box [.str x2.2],.box [.ptr 0 0]]) (v':=iI x2.1) (n0:=2) (n1:=1) [0] rfl rfl (aQ hx2) (aq rfl ⟨aF rfl,tqz⟩ ap) ⟨am rfl,tqz⟩ (an (aI _ _)) ⟨.inl ⟨0,_,by decide,rfl,aT ⟨an (aX _),tqz⟩⟩,.inr ⟨rfl,rfl⟩,tqz⟩ (Y 3 2 (j1 [(1,.func 113 [.ptr 1 0]),(5,iI x2.1),(19,.bool ((decide (x2.1<0)) || decide (x2.1 > ((x2.2).length:Int))))] [.box [.str x2.2],.box [.ptr 0 0]] ?_ (fun hK=>?_)))))
 ·refine T.ci h rfl (fun ab h=>?_) (fun ab h=>?_)
  ·cases h;(refine T.rP (V:=(.iface 173 (.agg #[]))) 2 rfl ?_);exact go 1 2 (sO (ld Tryz.underlying173 rfl rfl (RS.nil (PP.panic rfl rfl))))
  refine X 12 2 (itr (fun ak:Int × (List UInt8) × (List Choice)=>mkA 32 [(1,.func 113 [.ptr 1 0]),(6,.ref 2),(22,iI x2.1),(23,iI ak.1)]) (fun ak=>[.box [.str ak.2.1],.box [.ptr 0 0],aR 50 2 aA ak.2.2]) h (wk [(6,50,2)] [0,1,2] 2 rfl) (fun ak v_6 h bp=>?_));obtain ⟨s4,s5,s6⟩:=ak;replace h:iq x2 s4 s5 s6=some v_6:=h;try dsimp only
  unfold iq at h;refine X 5 3 (T.ci h rfl (fun bB h=>?_) (fun bB h=>?_))
  ·refine X 3 3 (cm h (fun hx7 h=>?_) (fun x7 hx7 h=>?_))
   ·replace h:=mi h bp;cases h;(refine T.rP (V:=(.iface 173 (.agg #[]))) 2 rfl ?_);exact go 2 3 (RS.nil (qc (aw2:=[.dead,.dead,aR 50 2 aA s6]) (n0:=3) (n1:=2) [1,0] rfl rfl (vY hx7) (aq rfl ⟨am rfl,tqz⟩ (aq rfl ⟨aF rfl,tqz⟩ ap)) ⟨am rfl,tqz⟩ ⟨.inl ⟨1,_,by decide,rfl,tqz⟩,.inl ⟨0,_,by decide,rfl,tqz⟩,.inr ⟨rfl,rfl⟩,tqz⟩ rfl))
   refine B h fun x8 hx8 h=>(X 3 3 (sO (bf (aw2:=[.box [.str x7.2],.box [.ptr 0 0],aR 50 2 aA s6]) (v':=.agg (aA x7.1)) (n0:=3) (n1:=2) [1,0] rfl rfl (vY hx7) (aq rfl ⟨am rfl,tqz⟩ (aq rfl ⟨aF rfl,tqz⟩ ap)) ⟨am rfl,tqz⟩ (pW ⟨an (aI _ _),an (aI _ _),tqz⟩) ⟨.inl ⟨1,_,by decide,rfl,aT ⟨an (aX _),tqz⟩⟩,.inl ⟨0,_,by decide,rfl,aT ⟨jZ (by decide),tqz⟩⟩,.inr ⟨rfl,rfl⟩,tqz⟩ (sO (bl (rows:=List.map aA [x7.1]) (vs:=[.agg (aA x7.1)]) Ty.s29 Ty.z50 rfl rfl rfl rfl rfl rfl (sO (b6 (en:=aA) (xs:=s6) (ys:=([x7.1]:List Choice)) Ty.s29 (fun _=>rfl) rfl rfl rfl hx8 rfl rfl (Y 6 5 ?_))))))))
   exact lk h (wk [] [0,1,4] 5 rfl)
  refine X 1 3 ?_;replace h:=mi h bp;refine X 5 3 ?_;cases h;exact tO [] [0,1,2] 3
 refine X 5 2 (gp 11 (fun ae=>?_) (fun ae=>?_))
 ·refine Yp 9 2 ?_;rw [ae] at hK;exact sx hK
 refine Yp 9 2 ?_;rw [ae] at hK;exact sx hK
theorem C4 {p0 r:List Int} (h:tf p0=some r):FnX Tryz.prog 156 [.ptr 0 0] [.boxB 159 [.np 0,.ref 1],aR 5 1 bG p0] (.tup []) [.boxB 159 [.np 0,.ref 1],aR 5 1 bG r]:=by cases h;exact Du _
theorem vK {p0:Int} {p1:List Int} {r:Unit × (List Int)} (h:l7 p0 p1=some r):FnX Tryz.prog 137 [.ptr 0 0,.int .u8 p0] [.boxB 159 [.np 0,.ref 1],aR 5 1 bG p1] (.nili) [.boxB 159 [.np 0,.ref 2],.dead,aR 5 1 bG r.2]:=by unfold l7 at h;refine fT 2 0 Tryz.func137 Tryz.ntmps137 rfl ?_;refine T.mvBB 0 1 1 (cs:=[.np 0,.ref 1]) rfl rfl rfl rfl (cs':=[.np 0,.ref 2]) rfl rfl (B h fun x2 hx2 h=>(X 7 3 (sO (cG [0,2] 3 2 (C4 hx2) ⟨rfl,(B h fun x4 hx4 h=>(Y 7 3 (sO (DV rfl rfl (aH Ty.k152 (c:=.ref 2) rfl (Y 1 3 (sO (bl (rows:=List.map bG [p0]) (vs:=[.int .u8 p0]) Ty.s152 Ty.z5 rfl rfl rfl rfl rfl rfl (sO (b6 (en:=bG) (xs:=x2) (ys:=([p0]:List Int)) Ty.s152 (fun _=>rfl) rfl rfl rfl hx4 rfl rfl ?_))))))))))⟩))));refine Y 2 5 (sO (Gv rfl rfl (vs:=[.ref 4]) rfl Tryz.underlying152 rfl (by decide) rfl (Y 5 5 ?_)));cases h;exact tN [0,1,4]
theorem eA {p0:Int} {p1 r:List Int} (h:da p0 p1=some r):FnX Tryz.prog 94 [.ptr 0 0,iI p0] [.boxB 159 [.np 0,.ref 1],aR 5 1 bG p1] (.tup []) [.boxB 159 [.np 0,.ref 2],.dead,aR 5 1 bG r]:=by
 unfold da at h;refine fT 2 0 Tryz.func94 Tryz.ntmps94 rfl ?_;refine T.mvBB 0 1 1 (cs:=[.np 0,.ref 1]) rfl rfl rfl rfl (cs':=[.np 0,.ref 2]) rfl rfl (B h fun x3 hx3 h=>(B h fun x4 hx4 h=>(X 4 3 (sQ (v_shl rfl rfl hx3 (Y 1 3 (sQ (ij rfl rfl hx4 (Y 6 3 (itr (fun ck:Int × (List Int)=>mkA 29 [(0,.ptr 0 0),(4,.int .u64 ck.1)]) (fun ck=>[.boxB 159 [.np 0,.ref 2],.dead,aR 5 1 bG ck.2]) h (wk [] [0,1,2] 3 rfl) (fun ck v_4 h qu=>?_)))))))))));obtain ⟨s5,s6⟩:=ck;replace h:je s5 s6=some v_4:=h;try dsimp only
 unfold je at h;refine X 6 3 (T.ci h rfl (fun aK h=>?_) (fun aK h=>?_))
 ·exact B h fun x7 hx7 h=>(X 10 3 (sO (cG [0,2] 3 3 (vK hx7) ⟨rfl,(B h fun x8 hx8 h=>(Y 3 4 (sQ (ij rfl rfl hx8 (Y 2 4 (lk h (wk [] [0,1,3] 4 rfl)))))))⟩)))
 refine X 1 3 ?_;replace h:=mi h qu;refine B h fun x9 hx9 h=>(X 6 3 (sO (cG [0,2] 3 3 (vK hx9) ⟨rfl,(Y 1 4 ?_)⟩)))
 cases h;exact eN [0,1,3]
theorem vO {p0:List Item} {p1 r:List Int} (h:kp p0 p1=some r):FnX Tryz.prog 95 [.ptr 0 0,sL aa p0] [.boxB 159 [.np 0,.ref 1],aR 5 1 bG p1] (.tup []) [.boxB 159 [.np 0,.ref 2],.dead,aR 5 1 bG r]:=by
 unfold kp at h;refine fT 2 0 Tryz.func95 Tryz.ntmps95 rfl ?_;refine T.mvBB 0 1 1 (cs:=[.np 0,.ref 1]) rfl rfl rfl rfl (cs':=[.np 0,.ref 2]) rfl rfl (B h fun x2 hx2 h=>(X 4 3 (sQ (al Ty.s30 rfl (sO (cG [0,2] 3 3 (eA hx2) ⟨rfl,(Y 4 4 (sQ (al Ty.s30 rfl (Y 3 4 (itr (fun ck:Int × (List Int)=>mkA 29 [(0,.ptr 0 0),(10,sL aa p0),(11,iI ((p0).length:Int)),(12,iI ck.1)]) (fun ck=>[.boxB 159 [.np 0,.ref 2],.dead,aR 5 1 bG ck.2]) h (wk [] [0,1,3] 4 rfl) (fun ck v_4 h qu=>?_))))))⟩))))));obtain ⟨s3,s4⟩:=ck;replace h:ow p0 s3 s4=some v_4:=h;try dsimp only
 unfold ow at h;refine X 5 3 (T.ci h rfl (fun aK h=>?_) (fun aK h=>?_))
 ·refine B h fun x6 hx6 h=>(X 5 3 (sQ (aE Ty.s30 (fun _=>rfl) rfl rfl hx6 (B h fun x8 hx8 h=>(Y 9 3 (sO (cG [0,2] 4 3 (eA hx8) ⟨rfl,(B h fun x10 bd h=>(Y 6 5 (sO (cG [0,4] 5 3 (eA bd) ⟨rfl,(B h fun x11 bE h=>?_)⟩))))⟩)))))))
  exact Y 5 6 (sO (cG [0,5] 6 3 (eA bE) ⟨rfl,(Y 5 7 (lk h (wk [] [0,1,6] 7 rfl)))⟩))
 refine X 1 3 ?_;replace h:=mi h qu;cases h;exact eN [0,1,2]
theorem Dq {p0:List Int} {r:List UInt8} (h:pe p0=some r):FnX Tryz.prog 96 [.ptr 0 0] [.boxB 159 [.np 0,.ref 1],aR 5 1 bG p0] (.str r) [.dead,.dead]:=Fx p0 r h
theorem wG {p0:Net} {p1:List (List Item)} {p2:State} {r:(List UInt8) × Int} (h:iC p0 p1 p2=some r):Fn Tryz.prog 51 [.agg (aM p0),sL (aj aa) p1,.agg (bC p2)] (.tup [.str r.1,iI r.2]):=by
 unfold iC at h;refine fT 0 0 Tryz.func51 Tryz.ntmps51 rfl ?_;refine B h fun x2 hx2 h=>(X 13 0 (sO (cF (ra hx2) ⟨rfl,(Y 7 2 (T.ci h rfl (fun ae h=>?_) (fun ae h=>?_)))⟩)))
 ·refine X 6 2 ?_;cases h;exact tD
 refine X 4 2 (sO (Is (e:=5) (z:=1) rfl rfl rfl (B h fun x4 hx4 h=>(Y 7 4 (sQ (al Ty.s27 rfl (sO (cG [2,3] 4 3 (eA hx4) ⟨rfl,(Y 6 5 (sQ (al Ty.s27 rfl (Y 3 5 (itr (fun dJ:Int × (List Int)=>mkA 132 [(5,.ptr 0 0),(9,.ptr 1 0),(35,sL ai p2.At),(36,iI ((p2.At).length:Int)),(37,iI dJ.1)]) (fun dJ=>[.box (bC p2),.boxB 159 [.np 1,.ref 2],aR 5 1 bG dJ.2]) h (wk [] [1,2,4] 5 rfl) (fun dJ v_5 h vH=>?_))))))⟩))))))));obtain ⟨s5,s6⟩:=dJ;replace h:mF p2 s5 s6=some v_5:=h;try dsimp only
 unfold mF at h;refine X 5 3 (T.ci h rfl (fun aP h=>?_) (fun aP h=>?_))
 ·exact B h fun x8 hx8 h=>(X 5 3 (sQ (aE Ty.s27 (fun _=>rfl) rfl rfl hx8 (B h fun x9 hx9 h=>(Y 6 3 (sO (cG [1,2] 3 3 (eA hx9) ⟨rfl,(Y 5 4 (lk h (wk [] [0,1,3] 4 rfl)))⟩)))))))
 refine X 1 3 ?_;replace h:=mi h vH;refine B h fun x11 bE h=>(X 5 3 (sQ (al Ty.s25 rfl (sO (cG [1,2] 3 3 (eA bE) ⟨rfl,(Y 6 4 (sQ (al Ty.s25 rfl (Y 3 4 (itr (fun fE:Int × (List Int)=>mkA 132 [(5,.ptr 0 0),(9,.ptr 1 0),(51,sL (aj aa) p2.Rings),(52,iI ((p2.Rings).length:Int)),(53,iI fE.1)]) (fun fE=>[.box (bC p2),.boxB 159 [.np 1,.ref 2],aR 5 1 bG fE.2]) h (wk [] [0,1,3] 4 rfl) (fun fE v_11 h Kb=>?_))))))⟩)))))
 obtain ⟨s12,s13⟩:=fE;replace h:mD p2 s12 s13=some v_11:=h;try dsimp only
 unfold mD at h;refine X 5 3 (T.ci h rfl (fun gK h=>?_) (fun gK h=>?_))
 ·exact B h fun x15 dU h=>(X 5 3 (sQ (aE Ty.s25 (fun _=>rfl) rfl rfl dU (B h fun x16 dK h=>(Y 6 3 (sO (cG [1,2] 3 3 (vO dK) ⟨rfl,(Y 5 4 (lk h (wk [] [0,1,3] 4 rfl)))⟩)))))))
 refine X 1 3 ?_;replace h:=mi h Kb;refine B h fun x18 cY h=>(X 5 3 (sQ (al Ty.s28 rfl (sO (cG [1,2] 3 3 (eA cY) ⟨rfl,(Y 6 4 (sQ (al Ty.s28 rfl (Y 3 4 (itr (fun dH:Int × (List Int)=>mkA 132 [(5,.ptr 0 0),(9,.ptr 1 0),(67,sL aB p2.Memory),(68,iI ((p2.Memory).length:Int)),(69,iI dH.1)]) (fun dH=>[.box (bC p2),.boxB 159 [.np 1,.ref 2],aR 5 1 bG dH.2]) h (wk [] [0,1,3] 4 rfl) (fun dH v_29 h uZ=>?_))))))⟩)))))
 obtain ⟨s19,s20⟩:=dH;replace h:mG p2 s19 s20=some v_29:=h;try dsimp only
 unfold mG at h;refine X 5 3 (T.ci h rfl (fun qh h=>?_) (fun qh h=>?_))
 ·refine B h fun x22 fK h=>(X 5 3 (sQ (aE Ty.s28 (fun _=>rfl) rfl rfl fK (B h fun x24 dT h=>(Y 9 3 (sO (cG [1,2] 4 3 (eA dT) ⟨rfl,(B h fun x26 fI h=>(Y 6 5 (sO (cG [1,4] 5 3 (eA fI) ⟨rfl,(B h fun x28 qI h=>?_)⟩))))⟩)))))))
  refine Y 6 6 (sQ (al Ty.s82 rfl (sO (cG [1,5] 6 3 (eA qI) ⟨rfl,(Y 5 7 (sQ (al Ty.s82 rfl (Y 3 7 (itr (fun ki:Int × (List Int)=>mkA 132 [(5,.ptr 0 0),(9,.ptr 1 0),(67,sL aB p2.Memory),(68,iI ((p2.Memory).length:Int)),(69,iI s19),(87,sL aL x22.Keys),(88,iI ((x22.Keys).length:Int)),(89,iI ki.1)]) (fun ki=>[.box (bC p2),.boxB 159 [.np 1,.ref 2],aR 5 1 bG ki.2]) h (wk [] [0,1,6] 7 rfl) (fun ki v_34 h Kd=>?_))))))⟩))));obtain ⟨s29,s30⟩:=ki;replace h:o6 s19 x22 s29 s30=some v_34:=h;try dsimp only
  unfold o6 at h;refine X 5 3 (T.ci h rfl (fun u1 h=>?_) (fun u1 h=>?_))
  ·exact B h fun x32 lX h=>(X 5 3 (sQ (aE Ty.s82 (fun _=>rfl) rfl rfl lX (B h fun x34 qr h=>(Y 9 3 (sO (cG [1,2] 4 3 (eA qr) ⟨rfl,(B h fun x35 qt h=>(Y 5 5 (sO (cG [1,4] 5 3 (eA qt) ⟨rfl,(Y 5 6 (lk h (wk [] [0,1,5] 6 rfl)))⟩))))⟩)))))))
  refine X 1 3 ?_;replace h:=mi h Kd;exact X 4 3 (lk h (wk [] [0,1,2] 3 rfl))
 refine X 1 3 ?_;replace h:=mi h uZ;refine B h fun x37 u4 h=>(X 5 3 (sQ (al Ty.s29 rfl (sO (cG [1,2] 3 3 (eA u4) ⟨rfl,(Y 6 4 (sQ (al Ty.s29 rfl (Y 3 4 (itr (fun gJ:Int × (List Int)=>mkA 132 [(5,.ptr 0 0),(9,.ptr 1 0),(109,sL aA p2.Choices),(110,iI ((p2.Choices).length:Int)),(111,iI gJ.1)]) (fun gJ=>[.box (bC p2),.boxB 159 [.np 1,.ref 2],aR 5 1 bG gJ.2]) h (wk [] [0,1,3] 4 rfl) (fun gJ v_41 h Ke=>?_))))))⟩)))))
 obtain ⟨s38,s39⟩:=gJ;replace h:mM p2 s38 s39=some v_41:=h;try dsimp only
 unfold mM at h;refine X 5 3 (T.ci h rfl (fun uX h=>?_) (fun uX h=>?_))
 ·exact B h fun x41 nY h=>(X 5 3 (sQ (aE Ty.s29 (fun _=>rfl) rfl rfl nY (B h fun x43 l5 h=>(Y 9 3 (sO (cG [1,2] 4 3 (eA l5) ⟨rfl,(B h fun x44 qG h=>(Y 5 5 (sO (cG [1,4] 5 3 (eA qG) ⟨rfl,(Y 5 6 (lk h (wk [] [0,1,5] 6 rfl)))⟩))))⟩)))))))
 refine X 1 3 ?_;replace h:=mi h Ke;refine B h fun x46 Kn h=>(X 5 3 (sO (cG [1,2] 3 3 (vO Kn) ⟨rfl,(B h fun x48 Ko h=>(Y 6 4 (sO (cG [1,3] 4 2 (Dq Ko) ⟨rfl,(Y 3 4 ?_)⟩))))⟩)))
 cases h;exact tD
theorem xX {p0:Net} {p1:List (List Item)} {p2:List UInt8} {r:State × Int} (h:fM p0 p1 p2=some r):Fn Tryz.prog 58 [.agg (aM p0),sL (aj aa) p1,.str p2] (.tup [.agg (bC r.1),iI r.2]):=by
 unfold fM at h;refine fnTDR (V:=(.iface 173 (.agg #[]))) 0 Tryz.func58 Tryz.ntmps58 ?_;refine TDR.seq (T.region (go 3 0 (RS.nil (TDR.seq (T.seq ?_)))));obtain ⟨x2,hx2,h⟩:=bind_some h;refine T.region (go 2 3 (sO (cF (tg hx2) ⟨rfl,(go 1 3 (RS.nil (T.seq (T.region (go 2 3 (RS.nil (T.ci h rfl (fun ae h=>?_) (fun ae h=>?_))))))))⟩)))
 ·refine T.seq (T.region (go 4 3 (RS.nil ?_)));cases h;exact tD
 refine T.skip (TDR.defer 1 rfl (go 1 3 (RS.nil ⟨3,_,_,_,rfl,rfl,rfl,idleF,fun vs w=>callable Tryz.func103 rfl (by kernel_rfl) vs w,(T.seq (T.region (go 5 3 (RS.nil (T.seq (cm h (fun hx4 h=>?_) (fun x4 hx4 h=>?_)))))))⟩)))
 ·cases h;(refine T.rP (V:=(.iface 173 (.agg #[]))) 3 rfl ?_);exact go 2 5 (sQ (v_bnd (cs:=[.ptr 3 0]) rfl (RS.nil (qc (aw2:=[.box (aM p0),.box [.nils,.nils,.nils,.nils,.nils],.box [iI 0],.dead,.box [.ptr 3 0]]) (n0:=5) (n1:=1) [3] rfl rfl (vR hx4) (aq rfl ⟨aF rfl,tqz⟩ ap) ⟨am rfl,lK ⟨am rfl,tqz⟩,tqz⟩ ⟨.inr ⟨rfl,rfl⟩,.inr ⟨rfl,rfl⟩,.inr ⟨rfl,rfl⟩,.inl ⟨0,_,by decide,rfl,tqz⟩,.inr ⟨rfl,rfl⟩,tqz⟩ ⟨rfl,[.box (aM p0),.box [.nils,.nils,.nils,.nils,.nils],.box [iI 12],.dead,.box [.ptr 3 0]],Caught.of (as0:=[.ptr 0 0,.ptr 1 0]) (aw0:=[.box [.any,.any,.any,.any,.any],.box [.any]]) (aw1:=[.box [.nils,.nils,.nils,.nils,.nils],.box [iI 12]]) (n0:=5) (n1:=2) [1,2] rfl rfl (by decide) (aq (cs:=[.any,.any,.any,.any,.any]) (ds:=[.nils,.nils,.nils,.nils,.nils]) rfl ⟨bY,bY,bY,bY,bY,tqz⟩ (aq (cs:=[.any]) (ds:=[iI 0]) rfl ⟨bY,tqz⟩ (ap))) ⟨am rfl,am rfl,tqz⟩ catX rfl ⟨.inr ⟨rfl,rfl⟩,.inl ⟨0,_,by decide,rfl,aT (cs:=[.nils,.nils,.nils,.nils,.nils]) (ds:=[.nils,.nils,.nils,.nils,.nils]) ⟨an (bJ),an (bJ),an (bJ),an (bJ),an (bJ),tqz⟩⟩,.inl ⟨1,_,by decide,rfl,aT (cs:=[iI 12]) (ds:=[iI 12]) ⟨an (aI _ _),tqz⟩⟩,.inr ⟨rfl,rfl⟩,.inr ⟨rfl,rfl⟩,tqz⟩,vD⟩))))
 refine T.region (go 2 5 (sQ (v_bnd (cs:=[.ptr 3 0]) rfl (sO (bf (aw2:=[.box (aM p0),.box [.nils,.nils,.nils,.nils,.nils],.box [iI 0],.box [.str x4.2],.box [.ptr 3 0],aR 3 1 ai x4.1]) (v':=.ref 5) (n0:=5) (n1:=2) [3] rfl rfl (vR hx4) (aq rfl ⟨aF rfl,tqz⟩ ap) ⟨am rfl,lK ⟨am rfl,tqz⟩,tqz⟩ (hJ (by decide)) ⟨.inr ⟨rfl,rfl⟩,.inr ⟨rfl,rfl⟩,.inr ⟨rfl,rfl⟩,.inl ⟨0,_,by decide,rfl,aT ⟨an (aX _),tqz⟩⟩,.inr ⟨rfl,rfl⟩,.inl ⟨1,_,by decide,rfl,jU jX⟩,tqz⟩ (go 2 6 (RS.nil (T.seq (cm h (fun hx6 h=>?_) (fun x6 hx6 h=>?_))))))))))
 ·cases h;(refine T.rP (V:=(.iface 173 (.agg #[]))) 3 rfl ?_);exact go 2 6 (sQ (v_bnd (cs:=[.ptr 3 0]) rfl (RS.nil (qc (aw2:=[.box (aM p0),.box [.ref 5,.nils,.nils,.nils,.nils],.box [iI 0],.dead,.box [.ptr 3 0],aR 3 1 ai x4.1]) (n0:=6) (n1:=1) [3] rfl rfl (vQ hx6) (aq rfl ⟨aF rfl,tqz⟩ ap) ⟨am rfl,lK ⟨am rfl,tqz⟩,tqz⟩ ⟨.inr ⟨rfl,rfl⟩,.inr ⟨rfl,rfl⟩,.inr ⟨rfl,rfl⟩,.inl ⟨0,_,by decide,rfl,tqz⟩,.inr ⟨rfl,rfl⟩,.inr ⟨rfl,rfl⟩,tqz⟩ ⟨rfl,[.box (aM p0),.box [.nils,.nils,.nils,.nils,.nils],.box [iI 12],.dead,.box [.ptr 3 0],aR 3 1 ai x4.1],Caught.of (as0:=[.ptr 0 0,.ptr 1 0]) (aw0:=[.box [.any,.any,.any,.any,.any],.box [.any]]) (aw1:=[.box [.nils,.nils,.nils,.nils,.nils],.box [iI 12]]) (n0:=6) (n1:=2) [1,2] rfl rfl (by decide) (aq (cs:=[.any,.any,.any,.any,.any]) (ds:=[.ref 5,.nils,.nils,.nils,.nils]) rfl ⟨bY,bY,bY,bY,bY,tqz⟩ (aq (cs:=[.any]) (ds:=[iI 0]) rfl ⟨bY,tqz⟩ (ap))) ⟨am rfl,am rfl,tqz⟩ catX rfl ⟨.inr ⟨rfl,rfl⟩,.inl ⟨0,_,by decide,rfl,aT (cs:=[.nils,.nils,.nils,.nils,.nils]) (ds:=[.nils,.nils,.nils,.nils,.nils]) ⟨an (bJ),an (bJ),an (bJ),an (bJ),an (bJ),tqz⟩⟩,.inl ⟨1,_,by decide,rfl,aT (cs:=[iI 12]) (ds:=[iI 12]) ⟨an (aI _ _),tqz⟩⟩,.inr ⟨rfl,rfl⟩,.inr ⟨rfl,rfl⟩,.inr ⟨rfl,rfl⟩,tqz⟩,vD⟩))))
 refine T.region (go 2 6 (sQ (v_bnd (cs:=[.ptr 3 0]) rfl (sO (bf (aw2:=[.box (aM p0),.box [.ref 5,.nils,.nils,.nils,.nils],.box [iI 0],.box [.str x6.2],.box [.ptr 3 0],aR 3 1 ai x4.1,aR 30 1 (aj aa) x6.1]) (v':=.ref 6) (n0:=6) (n1:=2) [3] rfl rfl (vQ hx6) (aq rfl ⟨aF rfl,tqz⟩ ap) ⟨am rfl,lK ⟨am rfl,tqz⟩,tqz⟩ (hJ (by decide)) ⟨.inr ⟨rfl,rfl⟩,.inr ⟨rfl,rfl⟩,.inr ⟨rfl,rfl⟩,.inl ⟨0,_,by decide,rfl,aT ⟨an (aX _),tqz⟩⟩,.inr ⟨rfl,rfl⟩,.inr ⟨rfl,rfl⟩,.inl ⟨1,_,by decide,rfl,jU (lF eF)⟩,tqz⟩ (go 2 7 (RS.nil (T.seq (cm h (fun hx8 h=>?_) (fun x8 hx8 h=>?_))))))))))
 ·cases h;(refine T.rP (V:=(.iface 173 (.agg #[]))) 2 rfl ?_);exact go 2 7 (RS.nil (qc (aw2:=[.box (aM p0),.box [.ref 5,.ref 6,.nils,.nils,.nils],.box [iI 0],.dead,.dead,aR 3 1 ai x4.1,aR 30 1 (aj aa) x6.1]) (n0:=7) (n1:=2) [3,4] rfl rfl (vL hx8) (aq rfl ⟨aF rfl,tqz⟩ (aq rfl ⟨am rfl,tqz⟩ ap)) ⟨am rfl,fx ⟨am rfl,tqz⟩,tqz⟩ ⟨.inr ⟨rfl,rfl⟩,.inr ⟨rfl,rfl⟩,.inr ⟨rfl,rfl⟩,.inl ⟨0,_,by decide,rfl,tqz⟩,.inl ⟨1,_,by decide,rfl,tqz⟩,.inr ⟨rfl,rfl⟩,.inr ⟨rfl,rfl⟩,tqz⟩ ⟨rfl,[.box (aM p0),.box [.nils,.nils,.nils,.nils,.nils],.box [iI 12],.dead,.dead,aR 3 1 ai x4.1,aR 30 1 (aj aa) x6.1],Caught.of (as0:=[.ptr 0 0,.ptr 1 0]) (aw0:=[.box [.any,.any,.any,.any,.any],.box [.any]]) (aw1:=[.box [.nils,.nils,.nils,.nils,.nils],.box [iI 12]]) (n0:=7) (n1:=2) [1,2] rfl rfl (by decide) (aq (cs:=[.any,.any,.any,.any,.any]) (ds:=[.ref 5,.ref 6,.nils,.nils,.nils]) rfl ⟨bY,bY,bY,bY,bY,tqz⟩ (aq (cs:=[.any]) (ds:=[iI 0]) rfl ⟨bY,tqz⟩ (ap))) ⟨am rfl,am rfl,tqz⟩ catX rfl ⟨.inr ⟨rfl,rfl⟩,.inl ⟨0,_,by decide,rfl,aT (cs:=[.nils,.nils,.nils,.nils,.nils]) (ds:=[.nils,.nils,.nils,.nils,.nils]) ⟨an (bJ),an (bJ),an (bJ),an (bJ),an (bJ),tqz⟩⟩,.inl ⟨1,_,by decide,rfl,aT (cs:=[iI 12]) (ds:=[iI 12]) ⟨an (aI _ _),tqz⟩⟩,.inr ⟨rfl,rfl⟩,.inr ⟨rfl,rfl⟩,.inr ⟨rfl,rfl⟩,.inr ⟨rfl,rfl⟩,tqz⟩,vD⟩))
 refine T.region (go 2 7 (sO (bf (aw2:=[.box (aM p0),.box [.ref 5,.ref 6,.nils,.nils,.nils],.box [iI 0],.box [.str x8.2],.box [.ptr 3 0],aR 3 1 ai x4.1,aR 30 1 (aj aa) x6.1,aR 84 3 aB x8.1]) (v':=.ref 7) (n0:=7) (n1:=3) [3,4] rfl rfl (vL hx8) (aq rfl ⟨aF rfl,tqz⟩ (aq rfl ⟨am rfl,tqz⟩ ap)) ⟨am rfl,fx ⟨am rfl,tqz⟩,tqz⟩ (hJ (by decide)) ⟨.inr ⟨rfl,rfl⟩,.inr ⟨rfl,rfl⟩,.inr ⟨rfl,rfl⟩,.inl ⟨0,_,by decide,rfl,aT ⟨an (aX _),tqz⟩⟩,.inl ⟨1,_,by decide,rfl,aT ⟨jZ (by decide),tqz⟩⟩,.inr ⟨rfl,rfl⟩,.inr ⟨rfl,rfl⟩,.inl ⟨2,_,by decide,rfl,jU kT⟩,tqz⟩ (go 2 8 (RS.nil (T.seq (cm h (fun bd h=>?_) (fun x10 bd h=>?_))))))))
 ·cases h;(refine T.rP (V:=(.iface 173 (.agg #[]))) 2 rfl ?_);exact go 2 8 (RS.nil (qc (aw2:=[.box (aM p0),.box [.ref 5,.ref 6,.ref 7,.nils,.nils],.box [iI 0],.dead,.dead,aR 3 1 ai x4.1,aR 30 1 (aj aa) x6.1,aR 84 3 aB x8.1]) (n0:=8) (n1:=2) [3,4] rfl rfl (vM bd) (aq rfl ⟨aF rfl,tqz⟩ (aq rfl ⟨am rfl,tqz⟩ ap)) ⟨am rfl,fx ⟨am rfl,tqz⟩,tqz⟩ ⟨.inr ⟨rfl,rfl⟩,.inr ⟨rfl,rfl⟩,.inr ⟨rfl,rfl⟩,.inl ⟨0,_,by decide,rfl,tqz⟩,.inl ⟨1,_,by decide,rfl,tqz⟩,.inr ⟨rfl,rfl⟩,.inr ⟨rfl,rfl⟩,.inr ⟨rfl,rfl⟩,tqz⟩ ⟨rfl,[.box (aM p0),.box [.nils,.nils,.nils,.nils,.nils],.box [iI 12],.dead,.dead,aR 3 1 ai x4.1,aR 30 1 (aj aa) x6.1,aR 84 3 aB x8.1],Caught.of (as0:=[.ptr 0 0,.ptr 1 0]) (aw0:=[.box [.any,.any,.any,.any,.any],.box [.any]]) (aw1:=[.box [.nils,.nils,.nils,.nils,.nils],.box [iI 12]]) (n0:=8) (n1:=2) [1,2] rfl rfl (by decide) (aq (cs:=[.any,.any,.any,.any,.any]) (ds:=[.ref 5,.ref 6,.ref 7,.nils,.nils]) rfl ⟨bY,bY,bY,bY,bY,tqz⟩ (aq (cs:=[.any]) (ds:=[iI 0]) rfl ⟨bY,tqz⟩ (ap))) ⟨am rfl,am rfl,tqz⟩ catX rfl ⟨.inr ⟨rfl,rfl⟩,.inl ⟨0,_,by decide,rfl,aT (cs:=[.nils,.nils,.nils,.nils,.nils]) (ds:=[.nils,.nils,.nils,.nils,.nils]) ⟨an (bJ),an (bJ),an (bJ),an (bJ),an (bJ),tqz⟩⟩,.inl ⟨1,_,by decide,rfl,aT (cs:=[iI 12]) (ds:=[iI 12]) ⟨an (aI _ _),tqz⟩⟩,.inr ⟨rfl,rfl⟩,.inr ⟨rfl,rfl⟩,.inr ⟨rfl,rfl⟩,.inr ⟨rfl,rfl⟩,.inr ⟨rfl,rfl⟩,tqz⟩,vD⟩))
 refine T.region (go 2 8 (sO (bf (aw2:=[.box (aM p0),.box [.ref 5,.ref 6,.ref 7,.nils,.nils],.box [iI 0],.box [.str x10.2],.box [.ptr 3 0],aR 3 1 ai x4.1,aR 30 1 (aj aa) x6.1,aR 84 3 aB x8.1,aR 50 2 aA x10.1]) (v':=.ref 8) (n0:=8) (n1:=3) [3,4] rfl rfl (vM bd) (aq rfl ⟨aF rfl,tqz⟩ (aq rfl ⟨am rfl,tqz⟩ ap)) ⟨am rfl,fx ⟨am rfl,tqz⟩,tqz⟩ (hJ (by decide)) ⟨.inr ⟨rfl,rfl⟩,.inr ⟨rfl,rfl⟩,.inr ⟨rfl,rfl⟩,.inl ⟨0,_,by decide,rfl,aT ⟨an (aX _),tqz⟩⟩,.inl ⟨1,_,by decide,rfl,aT ⟨jZ (by decide),tqz⟩⟩,.inr ⟨rfl,rfl⟩,.inr ⟨rfl,rfl⟩,.inr ⟨rfl,rfl⟩,.inl ⟨2,_,by decide,rfl,jU kW⟩,tqz⟩ (go 2 9 (RS.nil (T.seq (cm h (fun bt h=>?_) (fun x12 bt h=>?_))))))))
 ·cases h;(refine T.rP (V:=(.iface 173 (.agg #[]))) 1 rfl ?_);exact go 1 9 (RS.nil (qc (aw2:=[.box (aM p0),.box [.ref 5,.ref 6,.ref 7,.ref 8,.nils],.box [iI 0],.dead,.box [.ptr 3 0],aR 3 1 ai x4.1,aR 30 1 (aj aa) x6.1,aR 84 3 aB x8.1,aR 50 2 aA x10.1]) (n0:=9) (n1:=1) [3] rfl rfl (qO bt) (aq rfl ⟨aF rfl,tqz⟩ ap) ⟨am rfl,tqz⟩ ⟨.inr ⟨rfl,rfl⟩,.inr ⟨rfl,rfl⟩,.inr ⟨rfl,rfl⟩,.inl ⟨0,_,by decide,rfl,tqz⟩,.inr ⟨rfl,rfl⟩,.inr ⟨rfl,rfl⟩,.inr ⟨rfl,rfl⟩,.inr ⟨rfl,rfl⟩,.inr ⟨rfl,rfl⟩,tqz⟩ ⟨rfl,[.box (aM p0),.box [.nils,.nils,.nils,.nils,.nils],.box [iI 12],.dead,.box [.ptr 3 0],aR 3 1 ai x4.1,aR 30 1 (aj aa) x6.1,aR 84 3 aB x8.1,aR 50 2 aA x10.1],Caught.of (as0:=[.ptr 0 0,.ptr 1 0]) (aw0:=[.box [.any,.any,.any,.any,.any],.box [.any]]) (aw1:=[.box [.nils,.nils,.nils,.nils,.nils],.box [iI 12]]) (n0:=9) (n1:=2) [1,2] rfl rfl (by decide) (aq (cs:=[.any,.any,.any,.any,.any]) (ds:=[.ref 5,.ref 6,.ref 7,.ref 8,.nils]) rfl ⟨bY,bY,bY,bY,bY,tqz⟩ (aq (cs:=[.any]) (ds:=[iI 0]) rfl ⟨bY,tqz⟩ (ap))) ⟨am rfl,am rfl,tqz⟩ catX rfl ⟨.inr ⟨rfl,rfl⟩,.inl ⟨0,_,by decide,rfl,aT (cs:=[.nils,.nils,.nils,.nils,.nils]) (ds:=[.nils,.nils,.nils,.nils,.nils]) ⟨an (bJ),an (bJ),an (bJ),an (bJ),an (bJ),tqz⟩⟩,.inl ⟨1,_,by decide,rfl,aT (cs:=[iI 12]) (ds:=[iI 12]) ⟨an (aI _ _),tqz⟩⟩,.inr ⟨rfl,rfl⟩,.inr ⟨rfl,rfl⟩,.inr ⟨rfl,rfl⟩,.inr ⟨rfl,rfl⟩,.inr ⟨rfl,rfl⟩,.inr ⟨rfl,rfl⟩,tqz⟩,vD⟩))
 refine T.region (go 1 9 (sO (bf (aw2:=[.box (aM p0),.box [.ref 5,.ref 6,.ref 7,.ref 8,.nils],.box [iI 0],.box [.str x12.2],.box [.ptr 3 0],aR 3 1 ai x4.1,aR 30 1 (aj aa) x6.1,aR 84 3 aB x8.1,aR 50 2 aA x10.1,aR 75 3 aa x12.1]) (v':=.ref 9) (n0:=9) (n1:=2) [3] rfl rfl (qO bt) (aq rfl ⟨aF rfl,tqz⟩ ap) ⟨am rfl,tqz⟩ (hJ (by decide)) ⟨.inr ⟨rfl,rfl⟩,.inr ⟨rfl,rfl⟩,.inr ⟨rfl,rfl⟩,.inl ⟨0,_,by decide,rfl,aT ⟨an (aX _),tqz⟩⟩,.inr ⟨rfl,rfl⟩,.inr ⟨rfl,rfl⟩,.inr ⟨rfl,rfl⟩,.inr ⟨rfl,rfl⟩,.inr ⟨rfl,rfl⟩,.inl ⟨1,_,by decide,rfl,jU eF⟩,tqz⟩ (go 2 10 (RS.nil (T.seq (T.seq ?_)))))));obtain ⟨x14,cT,h⟩:=bind_some h;refine T.region (go 3 10 (sO (cF (wG cT) ⟨rfl,(go 5 10 (RS.nil (T.join (Z:=Unit) (fun _=>mkA 60 [(6,.ptr 1 0),(7,.ptr 2 0),(57,.bool ((x14.2 != 0) || !(x14.1==p2)))]) (fun _=>[.box (aM p0),.box [.ref 3,.ref 4,.ref 5,.ref 6,.ref 7],.box [iI 0],aR 3 1 ai x4.1,aR 30 1 (aj aa) x6.1,aR 84 3 aB x8.1,aR 50 2 aA x10.1,aR 75 3 aa x12.1]) (fun _=>True) (fun _ _=>?_) (fun hK=>?_))))⟩)))
 ·refine T.ci h rfl (fun ao h=>?_) (fun ao h=>?_)
  ·refine T.seq (T.region (go 3 8 (RS.nil ?_)));cases h;exact tD
  refine T.skip (T.seq (T.region (go 3 8 (RS.nil ?_))));cases h;exact tD
 refine T.region (go 3 10 ?_);rcases bn (x14.2 != 0) with ab | ab
 ·exact sN ab (sN ab (sN ab (sQ (bg (v:=.bool true) rfl ab rfl (RS.nil (T.weakR (hK () trivial) (Weak.mkN [] [0,1,2,5,6,7,8,9] (by decide) (by decide) rfl ⟨am rfl,am rfl,eR (by simp only [ab,bz,if_true,if_false,KD]),tqz⟩ (dR (aM p0) rfl (aq (cs:=[.ref 3,.ref 4,.ref 5,.ref 6,.ref 7]) (ds:=[.ref 5,.ref 6,.ref 7,.ref 8,.ref 9]) rfl ⟨cb rfl,cb rfl,cb rfl,cb rfl,cb rfl,tqz⟩ (dR [iI 0] rfl (ig rfl rfl (ig rfl rfl (ig rfl rfl (ig rfl rfl (ig rfl rfl (ap))))))))))))))))
 exact yg 10 ab (yg 10 ab (yg 10 ab (sQ (aY (v:=.bool (!(x14.1==p2))) rfl ab rfl (RS.nil (T.weakR (hK () trivial) (Weak.mkN [] [0,1,2,5,6,7,8,9] (by decide) (by decide) rfl ⟨am rfl,am rfl,eR (by simp only [ab,bz,if_true,if_false,KD]),tqz⟩ (dR (aM p0) rfl (aq (cs:=[.ref 3,.ref 4,.ref 5,.ref 6,.ref 7]) (ds:=[.ref 5,.ref 6,.ref 7,.ref 8,.ref 9]) rfl ⟨cb rfl,cb rfl,cb rfl,cb rfl,cb rfl,tqz⟩ (dR [iI 0] rfl (ig rfl rfl (ig rfl rfl (ig rfl rfl (ig rfl rfl (ig rfl rfl (ap))))))))))))))))
theorem CC {p0:List Node} {p1 p2:Int} {p3:List (List Item)} {p4:List Int} {p5:List (List Item)} {p6:List Memory} {p7:List Choice} {p8:List Item} {p9:List (List UInt8)} {p10:List Write} {p11 p12 p13 p14 p15:Int} {p16:Bool} {p17:List Item} {r:State × Int} (h:oL p0 p1 p2 p3 p4 p5 p6 p7 p8 p9 p10 p11 p12 p13 p14 p15 p16 p17=some r):FnX Tryz.prog 72 [.ptr 0 0] [.box [sL au p0,iI p1,iI p2,sL (aj aa) p3,sL ai p4,sL (aj aa) p5,sL aB p6,sL aA p7,sL aa p8,sL aO p9,sL a9 p10,iI p11,iI p12,iI p13,iI p14,iI p15,.ref 1,.bool p16],aR 75 3 aa p17] (.tup [.agg (bC r.1),iI r.2]) [.box [sL au p0,iI p1,iI p2,sL (aj aa) p3,sL ai p4,sL (aj aa) p5,sL aB p6,sL aA p7,sL aa p8,sL aO p9,sL a9 p10,iI p11,iI p12,iI p13,iI p14,iI p15,.ref 1,.bool p16],aR 75 3 aa p17]:=by
 unfold oL at h;refine fT 2 0 Tryz.func72 Tryz.ntmps72 rfl ?_;refine B h fun x2 hx2 h=>(X 6 2 (T.drawn mixed (k:=15) rfl ?_))
 apply RA.jn 2 (bm 15 8191);intro hS1
 ·refine rq [0,1,2,4,5,6] 9 (rL [3,8,9,10,11,13,14] 3 rfl (rL [7,8,9,10,11,13,14] 7 rfl (ra2 8 12 ?_ ?_)))
  ·exact oO rfl (cG [] 3 5 (FnX.of_fnO (o8 hx2)) ⟨rfl,(rq [9,10,11] 3 (ra1 12 (og 8 ⟨rfl,(raE hS1)⟩)))⟩)
  ·exact og 3 ⟨rfl,(ra1 8 (oO rfl (cG [] 4 5 (FnX.of_fnO (o8 hx2)) ⟨rfl,(rq [9,10,11] 2 (raV hS1 [0,1,2,4,5,6,7,8,3] rfl))⟩)))⟩
 refine ra1 13 (og 9 ⟨rfl,(rq [14] 0 (RA.done (by decide +kernel) (X 10 9 (T.fC 3 (T.fC 4 (T.fC 5 (T.fC 6 (T.fC 7 ?_))))))))⟩);refine itr (fun d9:Int × Int × (List Int) × (List (List Item)) × (List Memory) × (List Choice) × (List Item)=>mkA 65 [(0,.ptr 0 0),(2,.ptr 2 0),(4,.ptr 3 0),(6,iI d9.1),(25,iI d9.2.1)]) (fun d9=>[.box [sL au p0,iI p1,iI p2,sL (aj aa) p3,sL ai p4,sL (aj aa) p5,sL aB p6,sL aA p7,sL aa p8,sL aO p9,sL a9 p10,iI p11,iI p12,iI p13,iI p14,iI p15,.ref 1,.bool p16],aR 75 3 aa p17,.box [.nils,.nils,.nils,.nils,.nils],.box [sL ai d9.2.2.1,sL (aj aa) d9.2.2.2.1,sL aB d9.2.2.2.2.1,sL aA d9.2.2.2.2.2.1,sL aa d9.2.2.2.2.2.2]]) h (wk [] [0,1,2,8] 9 rfl) (fun d9 v_38 h Kf=>?_);obtain ⟨s3,s4,s5,s6,s7,s8,s9⟩:=d9;replace h:ku p0 p1 p2 p3 p9 p10 s3 s4 s5 s6 s7 s8 s9=some v_38:=h;try dsimp only
 unfold ku at h;refine X 5 4 (T.ci h rfl (fun jb h=>?_) (fun jb h=>?_))
 ·refine B h fun x11 bE h=>(X 15 4 (sO (cF (Ef bE) ⟨rfl,(Y 9 4 (j1 [(0,.ptr 0 0),(2,.ptr 2 0),(4,.ptr 3 0),(6,iI s3),(8,.str x11.1),(9,iI x11.2.1),(25,iI s4),(44,.bool ((x11.2.2 != 0) || decide (x11.2.1<=s3)))] [.box [sL au p0,iI p1,iI p2,sL (aj aa) p3,sL ai p4,sL (aj aa) p5,sL aB p6,sL aA p7,sL aa p8,sL aO p9,sL a9 p10,iI p11,iI p12,iI p13,iI p14,iI p15,.ref 1,.bool p16],aR 75 3 aa p17,.box [.nils,.nils,.nils,.nils,.nils],.box [sL ai s5,sL (aj aa) s6,sL aB s7,sL aA s8,sL aa s9]] ?_ (fun hK=>?_)))⟩)))
  ·refine T.ci h rfl (fun qp h=>?_) (fun qp h=>?_)
   ·exact X 5 4 (lk h (wk [] [0,1,2,3] 4 rfl))
   refine B h fun x14 cT h=>(X 2 4 (T.drawn mixed (k:=16) rfl ?_))
   apply RA.jn 2 (bm 16 16383);intro jd
   ·refine rq [0,1,2,4,5,6,8] 9 (rL [3,9,10,11,12,14,15] 3 rfl (rL [7,9,10,11,12,14,15] 7 rfl (ra2 9 13 ?_ ?_)))
    ·exact oO rfl (cD (xX cT) ⟨rfl,(rq [10,11,12] 3 (ra1 13 (og 4 ⟨rfl,(raE jd)⟩)))⟩)
    ·exact og 4 ⟨rfl,(ra1 9 (oO rfl (cD (xX cT) ⟨rfl,(rq [10,11,12] 2 (raT jd))⟩)))⟩
   refine ra1 14 (og 5 ⟨rfl,(rq [15] 0 (RA.done (by decide +kernel) (X 5 5 (T.ci h rfl (fun Kg h=>?_) (fun Kg h=>?_)))))⟩)
   ·exact X 10 5 (lk h (wk [] [0,1,2,3] 5 rfl))
   exact X 5 5 (lk h (wk [] [0,1,2,3] 5 rfl))
  refine X 5 4 (gp 40 (fun lT=>?_) (fun lT=>?_))
  ·refine Yp 5 4 ?_;rw [lT] at hK;exact sx hK
  refine Yp 5 4 ?_;rw [lT] at hK;exact sx hK
 refine X 1 4 ?_;replace h:=mi h Kf;refine X 7 4 ?_;cases h;exact tN [0,1]
theorem CN {p0:List UInt8} {r:(List Choice) × Int} (h:oT p0=some r):FnO Tryz.prog 115 [.str p0] (.tup [.ref 0,iI r.2]) [aR 50 2 aA r.1]:=by
 unfold oT at h;refine fT 0 12 Tryz.func115 Tryz.ntmps115 rfl (T.ci h rfl (fun ae h=>?_) (fun ae h=>?_))
 ·refine X 5 0 ?_;cases h;exact tO [(0,50,2)] [0] 0
 refine B h fun x2 hx2 h=>(X 6 0 (sQ (v_rem rfl rfl hx2 (Y 2 0 (T.ci h rfl (fun ab h=>?_) (fun ab h=>?_))))))
 ·refine X 5 0 ?_;cases h;exact tO [(0,50,2)] [0] 0
 refine X 11 0 (itr (fun gM:Int × (List Choice)=>mkA 43 [(0,.str p0),(4,.ref 0),(5,iI gM.1)]) (fun gM=>[aR 50 2 aA gM.2]) h (wk [(4,50,2)] [0] 0 rfl) (fun gM v_10 h Bz=>?_));obtain ⟨s3,s4⟩:=gM;replace h:gN p0 s3 s4=some v_10:=h;try dsimp only
 unfold gN at h;refine X 8 1 (T.ci h rfl (fun qg h=>?_) (fun qg h=>?_))
 ·refine B h fun x7 hx7 h=>(B h fun x8 hx8 h=>(X 4 1 (T.drawn mixed (k:=12) rfl (rq [0,1] 10 (r0 2 rfl (cE Tryz.underlying9 rfl rfl hx7 (rq [3,4,5,6] 5 (r0 7 rfl (cE Tryz.underlying9 rfl rfl hx8 (rq [8,9] 2 (ra1 10 ?_)))))))))))
  refine og 1 ⟨rfl,(ra1 11 (og 2 ⟨rfl,(RA.done (by decide +kernel) (X 1 2 (j1 [(0,.str p0),(4,.ref 0),(5,iI s3),(6,.ptr 1 0),(37,.bool ((decide ((IntKind.i64.wrap (x7.toNat:Int)) >= 12)) || decide ((IntKind.i64.wrap (x8.toNat:Int)) >= 16)))] [aR 50 2 aA s4,.box [iI (IntKind.i64.wrap (x7.toNat:Int)),iI (IntKind.i64.wrap (x8.toNat:Int))]] ?_ (fun hK=>?_))))⟩))⟩
  ·refine T.ci h rfl (fun uQ h=>?_) (fun uQ h=>?_)
   ·refine X 5 2 ?_;replace h:=mi h Bz;cases h;exact tO [(0,50,2)] [2] 2
   refine B h fun x10 bd h=>(X 4 2 (sO (bl (rows:=List.map aA [(⟨IntKind.i64.wrap (x7.toNat:Int),IntKind.i64.wrap (x8.toNat:Int)⟩:Choice)]) (vs:=[.agg [iI (IntKind.i64.wrap (x7.toNat:Int)),iI (IntKind.i64.wrap (x8.toNat:Int))]]) Ty.s29 Ty.z50 rfl rfl rfl rfl rfl rfl (sO (b6 (en:=aA) (xs:=s4) (ys:=([(⟨IntKind.i64.wrap (x7.toNat:Int),IntKind.i64.wrap (x8.toNat:Int)⟩:Choice)]:List Choice)) Ty.s29 (fun _=>rfl) rfl rfl rfl bd rfl rfl (Y 7 4 ?_))))))
   exact lk h (wk [] [3] 4 rfl)
  refine X 6 2 (gp 33 (fun gK=>?_) (fun gK=>?_))
  ·refine Yp 5 2 ?_;rw [gK] at hK;exact sx hK
  refine Yp 5 2 ?_;rw [gK] at hK;exact sx hK
 refine X 1 1 ?_;replace h:=mi h Bz;refine X 6 1 ?_;cases h;exact tO [] [0] 1
end
section
open Go.RowKit
section
variable {P:Program} {N n:Nat} {l:List (Nat × AV)} {aw:List Ob} {K2:AV→List Ob→Prop} {d:Option Tmp} {ty:TypeId} {ps:String} {af:Array Edge} {gd:Option (Nat × Bool)}
theorem lL {t t2:TypeId} {x y:Operand} {f:FuncId} {c:List AV} {a b:Array TypeId} {v:Bool} (hu:P.underlying t=some (.func a b v)) (hx:evA n l x=.func f c) (hy:evA n l y=.nilf) (h:K2 (.bool false) aw):OP P N ⟨d,.binOp .eql t x y t2,ty,ps,af,gd⟩ (mkA n l) aw K2 :=
 OP.of_ok (fun σ w F ac har hs=>by
  have ex:=har.ev x;have ey:=har.ev y;rw [aD,hx] at ex;rw [aD,hy] at ey;generalize hvx:ac.eval x=vx at ex;generalize hvy:ac.eval y=vy at ey;cases ey;cases ex with
  | func _ _ us =>
   refine ⟨.bool false,_,w,aw,σ,F,_,?_,.inl rfl,hs,.refl ..,.bool false,h⟩;have he:=fun f p q=>eq_fn (P:=P) hu f p q w
   simp [execOp,hvx,hvy,eqGuard,binOp,Sem.run_bind,he])
theorem IE {t t2:TypeId} {x y:Operand} {a b:Array TypeId} {v:Bool} (hu:P.underlying t=some (.func a b v)) (hx:evA n l x=.nilf) (hy:evA n l y=.nilf) (h:K2 (.bool true) aw):OP P N ⟨d,.binOp .eql t x y t2,ty,ps,af,gd⟩ (mkA n l) aw K2 :=
 OP.of_ok (fun σ w F ac har hs=>by have ex:=har.ev x;have ey:=har.ev y;rw [aD,hx] at ex;rw [aD,hy] at ey;generalize hvx:ac.eval x=vx at ex;generalize hvy:ac.eval y=vy at ey;cases ey;cases ex;refine ⟨.bool true,_,w,aw,σ,F,_,?_,.inl rfl,hs,.refl ..,.bool true,h⟩;have he:=eq_nf (P:=P) hu w;simp [execOp,hvx,hvy,eqGuard,binOp,Sem.run_bind,he])
end
end
section
open Go.RowKit
set_option maxRecDepth 100000
set_option maxHeartbeats 4000000
set_option synthInstance.maxSize 100000
set_option synthInstance.maxHeartbeats 4000000
theorem vW {p0:Int} {p1:List (List UInt8)} {p2:List Write} {p3:Int} {r:List Choice} (h:mw p0 p1 p2 p3=some r):FnX Tryz.prog 114 [iI p0,.ptr 0 0,.ptr 1 0] [.box [sL aO p1,sL a9 p2],.box [iI p3]] (.ref 2) [.box [sL aO p1,sL a9 p2],.box [iI p3],aR 50 2 aA r]:=by
 unfold mw at h;refine fT 2 10 Tryz.func114 Tryz.ntmps114 rfl (sQ (al Ty.s33 rfl (Y 2 2 (T.ci h rfl (fun ae h=>?_) (fun ae h=>?_)))))
 ·refine X 4 2 ?_;cases h;exact tO [(0,50,2)] [0,1,2] 2
 refine B h fun x3 hx3 h=>(B h fun x4 hx4 h=>(X 6 2 (sQ (aE Ty.s33 (fun _=>rfl) rfl rfl hx3 (Y 1 2 (sO (cO 2 (wn hx4) ⟨rfl,(Y 9 3 ?_)⟩)))))))
 obtain ⟨qz,hz,h⟩:=bind_some h;revert hz h;revert qz;intro c9 hz h;refine j1 [(5,.ref 2),(46,.bool c9)] [.box [sL aO p1,sL a9 p2],.box [iI p3],aR 9 1 aO x4.1] ?_ (fun hK=>?_)
 ·refine T.ci h rfl (fun aK h=>?_) (fun aK h=>?_)
  ·refine X 4 3 ?_;cases h;exact tO [(0,50,2)] [0,1,3] 3
  refine B h fun x14 cT h=>(B h fun x15 dU h=>(B h fun x16 dK h=>(B h fun x17 ce h=>(X 4 3 (sQ (aN (en:=aO) Ty.s33 rfl rfl rfl cT (sO (aV (en:=aO) (a:=x15) rfl rfl dU (aH Ty.k9 (c:=.str x15) rfl (sO (kP Tryz.underlying9 rfl rfl rfl dK (sO (cO 3 (CN ce) ⟨rfl,(Y 11 4 ?_)⟩)))))))))))))
  cases h;exact tO [] [0,1,3] 4
 refine X 1 3 ?_;rcases bn (((x4.1).length:Int) != 1) with ab | ab
 ·replace hz:=bT hz ab;refine T.drawn mixed (k:=22) rfl (rq [0] 21 (r0 1 rfl (dk (en:=aO) Ty.s33 rfl rfl (rq [2,3] 18 (r2 4 rfl ab (r2 5 rfl ab (r2 6 rfl ab (r2 7 rfl ab (r2 8 rfl ab (r2 9 rfl ab ?_))))))))));refine r2 10 rfl ab (r2 11 rfl ab (r0 12 rfl (bg (v:=.bool true) rfl ab rfl (rq [13] 8 (r2 14 rfl rfl (r2 15 rfl rfl (r2 16 rfl rfl (r2 17 rfl rfl (r2 18 rfl rfl (r2 19 rfl rfl ?_))))))))));exact r2 20 rfl rfl (r0 21 rfl (bg (v:=.bool true) rfl rfl rfl (RA.done (by decide +kernel) (T.sub hK ⟨rfl,(congrArg AV.bool ((congrArg (fun p=>p) (Ky hz)).symm)).symm,tqz⟩))))
 replace hz:=bS hz ab;refine B hz fun x5 hx5 hz=>?_
 rcases bn (x4.2.1 != ((x5).length:Int)) with ao | ao
 ·replace hz:=bT hz ao;refine T.drawn mixed (k:=22) rfl (rq [0] 21 (r0 1 rfl (dk (en:=aO) Ty.s33 rfl rfl (rq [2,3] 18 (ry 4 ab rfl (ry 5 ab rfl (ry 7 ab rfl (ra1 6 (oy 3 ab rfl (r1 8 rfl ab (aE Ty.s33 (fun _=>rfl) rfl rfl hx5 ?_)))))))))));refine ra1 9 (oy 3 ab rfl (ry 10 ab rfl (ry 11 ab rfl (r0 12 rfl (aY (v:=.bool (x4.2.1 != ((x5).length:Int))) rfl ab rfl (rq [13] 8 (r2 14 rfl ao (r2 15 rfl ao (r2 16 rfl ao (r2 17 rfl ao ?_))))))))));exact r2 18 rfl ao (r2 19 rfl ao (r2 20 rfl ao (r0 21 rfl (bg (v:=.bool true) rfl ao rfl (RA.done (by decide +kernel) (T.sub hK ⟨rfl,(congrArg AV.bool ((congrArg (fun p=>p) (Ky hz)).symm)).symm,tqz⟩))))))
 replace hz:=bS hz ao;refine B hz fun x6 hx6 hz=>(B hz fun x7 hx7 hz=>(B hz fun x8 hx8 hz=>(T.drawn mixed (k:=22) rfl ?_)))
 apply RA.jn 0 (bm 22 4194303);intro hS6
 ·refine rq [0] 21 (r0 1 rfl (dk (en:=aO) Ty.s33 rfl rfl (rq [2,3] 18 (ry 4 ab rfl (ry 5 ab rfl (ry 7 ab rfl (ra1 6 (oy 3 ab rfl (r1 8 rfl ab (aE Ty.s33 (fun _=>rfl) rfl rfl hx5 (ra1 9 ?_)))))))))));refine oy 3 ab rfl (ry 10 ab rfl (ry 11 ab rfl (r0 12 rfl (aY (v:=.bool (x4.2.1 != ((x5).length:Int))) rfl ab rfl (rq [13] 8 (ry 14 ao rfl (r1 15 rfl ao (aN (en:=aO) Ty.s33 rfl rfl rfl hx6 (ra2 16 19 ?_ ?_)))))))))
  ·exact oP rfl ao (aV (en:=aO) (a:=x7) rfl rfl hx7 (aH Ty.k9 (c:=.str x7) rfl (r1 17 rfl ao (cE Tryz.underlying9 rfl rfl hx8 (ry 18 ao rfl (ra1 19 (oy 3 ao rfl (ry 20 ao rfl (r0 21 rfl (aY (v:=.bool ((IntKind.i64.wrap (x8.toNat:Int)) != p3)) rfl ao rfl (raE hS6)))))))))))
  ·exact oy 3 ao rfl (ra1 16 (oP rfl ao (aV (en:=aO) (a:=x7) rfl rfl hx7 (aH Ty.k9 (c:=.str x7) rfl (r1 17 rfl ao (cE Tryz.underlying9 rfl rfl hx8 (ry 18 ao rfl (ry 20 ao rfl (r0 21 rfl (aY (v:=.bool ((IntKind.i64.wrap (x8.toNat:Int)) != p3)) rfl ao rfl (raT hS6)))))))))))
 exact RA.done (by decide +kernel) (T.sub hK ⟨rfl,(congrArg AV.bool ((congrArg (fun p=>p) (Ky hz)).symm)).symm,tqz⟩)
theorem EC {p0:Disk} {p1:Int} {r:(List Choice) × Int × Int} (h:nr p0 p1=some r):FnO Tryz.prog 59 [.agg (bX p0),iI p1] (.tup [.ref 0,iI r.2.1,iI r.2.2]) [aR 50 2 aA r.1]:=by
 unfold nr at h;refine fT 0 0 Tryz.func59 Tryz.ntmps59 rfl ?_;refine B h fun x2 hx2 h=>(X 12 0 (sO (cF (kM hx2) ⟨rfl,(Y 7 2 (T.ci h rfl (fun ae h=>?_) (fun ae h=>?_)))⟩)))
 ·refine X 7 2 ?_;cases h;exact tO [(0,50,2)] [2] 2
 refine X 2 2 (j1 [(2,.ptr 0 0),(3,.ptr 1 0),(4,.nils),(5,iI 0),(20,.bool ((decide (p1<0)) || decide (p1 > 200)))] [.box (bX p0),.box [iI p1]] ?_ (fun hK=>?_))
 ·refine T.ci h rfl (fun ao h=>?_) (fun ao h=>?_)
  ·refine X 6 2 ?_;cases h;exact tO [(0,50,2)] [2] 2
  refine B h fun x5 hx5 h=>(X 10 2 (sO (cG [0,1] 2 3 (vW hx5) ⟨rfl,(Y 3 3 (itr (fun bb:Int × (List Choice) × (List Choice)=>mkA 38 [(4,.ref 0),(5,iI bb.1),(8,.func 114 [.ptr 1 0,.ptr 2 0]),(9,.ref 3)]) (fun bb=>[aR 50 2 aA bb.2.1,.box (bX p0),.box [iI p1],aR 50 2 aA bb.2.2]) h (wk [(4,50,2)] [3,0,1,2] 3 rfl) (fun bb v_7 h bI=>?_)))⟩)))
  obtain ⟨s6,s7,s8⟩:=bb;replace h:gQ p0 p1 s6 s7 s8=some v_7:=h;try dsimp only
  unfold gQ at h;refine X 4 4 (sQ (dk (en:=aA) Ty.s29 rfl rfl (Y 2 4 (T.ci h rfl (fun bx h=>?_) (fun bx h=>?_)))))
  ·exact B h fun x10 bd h=>(X 7 4 (sO (b6 (en:=aA) (xs:=s7) (ys:=s8) Ty.s29 (fun _=>rfl) rfl rfl rfl bd rfl rfl (B h fun x11 bE h=>(Y 11 5 (sO (cG [1,2] 5 3 (vW bE) ⟨rfl,(Y 2 6 (lk h (wk [] [4,1,2,5] 6 rfl)))⟩)))))))
  refine X 1 4 ?_;replace h:=mi h bI;refine X 8 4 ?_;cases h;exact tO [] [0] 4
 refine X 5 2 (gp 17 (fun ab=>?_) (fun ab=>?_))
 ·refine Yp 4 2 ?_;rw [ab] at hK;exact sx hK
 refine Yp 4 2 ?_;rw [ab] at hK;exact sx hK
theorem Df {p0:Net} {p1:List Choice} {r:Int} (h:mV p0 p1=some r):Fn Tryz.prog 73 [.agg (aM p0),sL aA p1] (iI r):=by
 unfold mV at h;refine fT 0 0 Tryz.func73 Tryz.ntmps73 rfl ?_;refine B h fun x2 hx2 h=>(X 9 0 (sO (cF (wU hx2) ⟨rfl,(Y 7 1 (T.ci h rfl (fun ae h=>?_) (fun ae h=>?_)))⟩)))
 ·refine X 5 1 ?_;cases h;exact tD
 refine X 5 1 (sQ (al Ty.s29 rfl (Y 2 1 (T.ci h rfl (fun ab h=>?_) (fun ab h=>?_)))))
 ·refine X 4 1 ?_;cases h;exact tD
 refine X 5 1 (sQ (al Ty.s29 rfl (Y 3 1 (itr (fun cV:Int=>mkA 60 [(2,.ptr 0 0),(16,sL aA p1),(17,iI ((p1).length:Int)),(18,iI cV)]) (fun cV=>[.box (aM p0)]) h (wk [] [0] 1 rfl) (fun cV v_30 h fj=>?_)))));revert fj h;revert cV;intro s3 h fj;replace h:oW p0 p1 s3=some v_30:=h;try dsimp only
 unfold oW at h;refine X 5 1 (T.ci h rfl (fun lQ h=>?_) (fun lQ h=>?_))
 ·refine B h fun x5 hx5 h=>(X 5 1 (sQ (aE Ty.s29 (fun _=>rfl) rfl rfl hx5 (Y 5 1 ?_))))
  obtain ⟨Kh,hz,h⟩:=bind_some h;revert hz h;revert Kh;intro c7 hz h;refine j1 [(2,.ptr 0 0),(7,.ptr 1 0),(16,sL aA p1),(17,iI ((p1).length:Int)),(18,iI s3),(42,.bool c7)] [.box (aM p0),.box (aA x5)] ?_ (fun hK=>?_)
  ·refine T.ci h rfl (fun u1 h=>?_) (fun u1 h=>?_)
   ·refine X 4 2 ?_;replace h:=mi h fj;cases h;exact tD
   refine X 1 2 ?_;obtain ⟨Ki,hz,h⟩:=bind_some h;revert hz h;revert Ki;intro c9 hz h;refine j1 [(2,.ptr 0 0),(16,sL aA p1),(17,iI ((p1).length:Int)),(18,iI s3),(58,.bool c9)] [.box (aM p0)] ?_ (fun hK=>?_)
   ·refine T.ci h rfl (fun jb h=>?_) (fun jb h=>?_)
    ·refine X 4 1 ?_;replace h:=mi h fj;cases h;exact tD
    exact X 5 1 (lk h (wk [] [0] 1 rfl))
   refine X 1 2 ?_;rcases bn (decide (x5.Lane<0)) with aU | aU
   ·replace hz:=bT hz aU;refine T.drawn mixed (k:=16) rfl (rq [0] 15 (ra1 1 (og 2 ⟨rfl,(rq [2,3] 12 (r2 4 rfl aU (r2 5 rfl aU (r2 6 rfl aU (r2 7 rfl aU (r2 8 rfl aU ?_))))))⟩)));exact r2 9 rfl aU (r2 10 rfl aU (r2 11 rfl aU (r2 12 rfl aU (r2 13 rfl aU (r2 14 rfl aU (r0 15 rfl (bg (v:=.bool true) rfl aU rfl (RA.done (by decide +kernel) (T.weakR hK (Weak.mkN [] [0] (by decide) (bW _) rfl ⟨am rfl,rn_s rfl,dh rfl,dh rfl,eR ((congrArg (fun p=>p) (Ky hz)).symm),tqz⟩ (dR (aM p0) rfl (ap))))))))))))
   replace hz:=bS hz aU;refine B hz fun x8 hx8 hz=>(T.drawn mixed (k:=16) rfl ?_)
   apply RA.jn 0 (bm 16 65535);intro qH;apply RA.jn 4 (bm 16 4095);intro jd;apply RA.jn 5 (bm 16 4063);intro qF;apply RA.jn 7 (bm 16 895);intro B4;apply RA.jn 7 (bm 16 511);intro B5
   ·refine rq [0] 15 (ra1 1 (og 2 ⟨rfl,(rq [2,3] 12 (ry 4 aU rfl (ry 6 aU rfl (ry 8 aU rfl (ra3 5 7 9 ?_ ?_ ?_)))))⟩))
    ·refine oy 2 aU rfl (ra2 7 9 ?_ ?_)
     ·exact oy 2 aU rfl (raE B5)
     ·exact oy 2 aU rfl (raE B4)
    ·refine oy 2 aU rfl (ra2 5 9 ?_ ?_)
     ·exact oy 2 aU rfl (raT B5)
     ·exact oy 2 aU rfl (r1 10 rfl aU (aE Ty.s22 (fun _=>rfl) rfl rfl hx8 (ry 11 aU rfl (raE qF))))
    ·refine oy 2 aU rfl (ra2 5 7 ?_ ?_)
     ·exact oy 2 aU rfl (raT B4)
     ·exact oy 2 aU rfl (r1 10 rfl aU (aE Ty.s22 (fun _=>rfl) rfl rfl hx8 (ry 11 aU rfl (raT qF))))
   ·exact ra1 9 (oy 2 aU rfl (r1 10 rfl aU (aE Ty.s22 (fun _=>rfl) rfl rfl hx8 (ry 11 aU rfl (raE jd)))))
   ·exact ra1 7 (oy 2 aU rfl (r1 10 rfl aU (aE Ty.s22 (fun _=>rfl) rfl rfl hx8 (ry 11 aU rfl (raT jd)))))
   ·refine ra2 5 12 ?_ ?_
    ·exact oy 2 aU rfl (raT jd)
    ·exact oy 2 aU rfl (r1 13 rfl aU (al Ty.s27 rfl (ra1 5 (oy 2 aU rfl (ry 14 aU rfl (r0 15 rfl (aY (v:=.bool (decide (x5.Lane >= ((x8.In).length:Int)))) rfl aU rfl (raE qH))))))))
   ·exact ra1 12 (oy 2 aU rfl (r1 13 rfl aU (al Ty.s27 rfl (ry 14 aU rfl (r0 15 rfl (aY (v:=.bool (decide (x5.Lane >= ((x8.In).length:Int)))) rfl aU rfl (raT qH)))))))
   exact RA.done (by decide +kernel) (T.weakR hK (Weak.mkN [] [0] (by decide) (bW _) rfl ⟨am rfl,rn_s rfl,dh rfl,dh rfl,eR ((congrArg (fun p=>p) (Ky hz)).symm),tqz⟩ (dR (aM p0) rfl (ap))))
  refine X 6 2 (gi 25 hz (fun dS hz=>?_) (fun dS hz=>?_))
  ·refine Yp 18 2 ?_;cases hz;exact sx hK
  refine Y 4 2 (yQ rfl (al Ty.s22 rfl (Yp 3 2 (gi 33 hz (fun il hz=>?_) (fun il hz=>?_)))))
  ·refine Yp 10 2 ?_;cases hz;exact sx hK
  refine B hz fun x6 hx6 hz=>(Y 4 2 (yQ rfl (aE Ty.s22 (fun _=>rfl) rfl rfl hx6 (Yp 5 2 ?_))))
  cases hz;exact sx hK
 refine X 1 1 ?_;replace h:=mi h fj;refine X 4 1 ?_;cases h;exact tD
theorem Cr {p0:Move} {p1:List Node} {p2 p3:Int} {p4:List Choice} {r:Bool} (h:oD p0 p1 p2 p3 p4=some r):FnX Tryz.prog 127 [.agg (bq p0),.ptr 0 0,.ptr 1 0] [.box [sL au p1,iI p2,iI p3],.box [sL aA p4]] (.bool r) [.box [sL au p1,iI p2,iI p3],.box [sL aA p4]]:=by
 unfold oD at h;refine fT 2 0 Tryz.func127 Tryz.ntmps127 rfl ?_;refine B h fun x1 hx1 h=>(X 5 2 ?_)
 obtain ⟨vI,hz,h⟩:=bind_some h;revert hz h;revert vI;intro c4 hz h;refine j1 [(4,.bool c4)] [.box [sL au p1,iI p2,iI p3],.box [sL aA p4]] ?_ (fun hK=>?_)
 ·cases h;exact tN [0,1]
 refine X 1 3 ?_;rcases bn (x1.Kind != 6) with ae | ae
 ·replace hz:=bT hz ae;refine T.drawn mixed (k:=27) rfl (rq [0,2] 25 (rL [1,4,5,6,7,8,9,10,11,12,13,14,15,16,17,18,19,20,21,22,23,24,25,26] 1 rfl (ra1 3 (og 3 ⟨rfl,(r0 4 rfl (aE Ty.s22 (fun _=>rfl) rfl rfl hx1 (rq [5] 21 (ra1 6 (og 3 ⟨rfl,(rq [7,8] 18 ?_)⟩)))))⟩))));refine r2 9 rfl ae (r2 10 rfl ae (r2 11 rfl ae (r2 12 rfl ae (r2 13 rfl ae (r2 14 rfl ae (r2 15 rfl ae (r2 16 rfl ae (r3 17 rfl (r3 18 rfl ?_)))))))));exact r3 19 rfl (r3 20 rfl (r3 21 rfl (r3 22 rfl (r3 23 rfl (r2 24 rfl ae (r0 25 rfl (bg (v:=.bool true) rfl ae rfl (rq [26] 0 (RA.done (by decide +kernel) (T.weakR hK (Weak.mkN [] [0,1] (by decide) (by decide) rfl ⟨eR ((congrArg (fun p=>p) (Ky hz)).symm),tqz⟩ (dR [sL au p1,iI p2,iI p3] rfl (dR [sL aA p4] rfl (ap))))))))))))))
 replace hz:=bS hz ae;refine B hz fun x2 hx2 hz=>?_
 rcases bn (p0.Node==x2.Node) with ab | ab
 ·replace hz:=bT hz ab;refine B hz fun x3 hx3 hz=>(T.drawn mixed (k:=27) rfl ?_)
  apply RA.jn 0 (bm 27 134217727);intro hS4;apply RA.jn 5 (bm 27 4194303);intro hS5;apply RA.jn 9 (bm 27 262143);intro hS6;apply RA.jn 13 (bm 27 16383);intro hS7
  ·refine rq [0,2] 25 (rL [1,4,5,6,7,8,9,10,11,12,13,14,15,16,17,18,19,20,21,22,23,24,25,26] 1 rfl (ra1 3 (og 3 ⟨rfl,(r0 4 rfl (aE Ty.s22 (fun _=>rfl) rfl rfl hx1 (rq [5] 21 (ra1 6 (og 3 ⟨rfl,(rq [7,8] 18 (ry 9 ae rfl ?_))⟩)))))⟩)));refine ra2 10 11 ?_ ?_
   ·exact oy 3 ae rfl (ra1 11 (oy 3 ae rfl (r1 12 rfl ae (aE Ty.s29 (fun _=>rfl) rfl rfl hx2 (ry 13 ae rfl (raE hS7))))))
   ·refine oy 3 ae rfl (r1 12 rfl ae (aE Ty.s29 (fun _=>rfl) rfl rfl hx2 (ry 13 ae rfl (ra2 10 14 ?_ ?_))))
    ·exact oy 3 ae rfl (raT hS7)
    ·exact oy 3 ae rfl (ra1 10 (oy 3 ae rfl (ry 15 ae rfl (ry 16 ae rfl (ry 17 ab rfl (raE hS6))))))
  ·exact ra1 14 (oy 3 ae rfl (ry 15 ae rfl (ry 16 ae rfl (ry 17 ab rfl (raT hS6)))))
  ·refine ra2 18 19 ?_ ?_
   ·exact oy 3 ab rfl (ra1 19 (oy 3 ab rfl (r1 20 rfl ab (aE Ty.s29 (fun _=>rfl) rfl rfl hx3 (ry 21 ab rfl (raE hS5))))))
   ·refine oy 3 ab rfl (r1 20 rfl ab (aE Ty.s29 (fun _=>rfl) rfl rfl hx3 (ry 21 ab rfl (ra2 18 22 ?_ ?_))))
    ·exact oy 3 ab rfl (raT hS5)
    ·exact oy 3 ab rfl (ra1 18 (oy 3 ab rfl (ry 23 ab rfl (r1 24 rfl ae (bg (v:=.bool (p0.Lane==x3.Lane)) rfl ab rfl (r0 25 rfl (aY (v:=.bool (p0.Lane==x3.Lane)) rfl ae rfl (rq [26] 0 (raE hS4)))))))))
  ·exact ra1 22 (oy 3 ab rfl (ry 23 ab rfl (r1 24 rfl ae (bg (v:=.bool (p0.Lane==x3.Lane)) rfl ab rfl (r0 25 rfl (aY (v:=.bool (p0.Lane==x3.Lane)) rfl ae rfl (rq [26] 0 (raT hS4))))))))
  exact RA.done (by decide +kernel) (T.weakR hK (Weak.mkN [] [0,1] (by decide) (by decide) rfl ⟨eR ((congrArg (fun p=>p) (Ky hz)).symm),tqz⟩ (dR [sL au p1,iI p2,iI p3] rfl (dR [sL aA p4] rfl (ap)))))
 replace hz:=bS hz ab;refine T.drawn mixed (k:=27) rfl ?_;apply RA.jn 0 (bm 27 134217727);intro hS8;apply RA.jn 13 (bm 27 16383);intro hS9
 ·refine rq [0,2] 25 (rL [1,4,5,6,7,8,9,10,11,12,13,14,15,16,17,18,19,20,21,22,23,24,25,26] 1 rfl (ra1 3 (og 3 ⟨rfl,(r0 4 rfl (aE Ty.s22 (fun _=>rfl) rfl rfl hx1 (rq [5] 21 (ra1 6 (og 3 ⟨rfl,(rq [7,8] 18 (ry 9 ae rfl ?_))⟩)))))⟩)));refine ra2 10 11 ?_ ?_
  ·exact oy 3 ae rfl (ra1 11 (oy 3 ae rfl (r1 12 rfl ae (aE Ty.s29 (fun _=>rfl) rfl rfl hx2 (ry 13 ae rfl (raE hS9))))))
  ·refine oy 3 ae rfl (r1 12 rfl ae (aE Ty.s29 (fun _=>rfl) rfl rfl hx2 (ry 13 ae rfl (ra2 10 14 ?_ ?_))))
   ·exact oy 3 ae rfl (raT hS9)
   ·refine oy 3 ae rfl (ra1 10 (oy 3 ae rfl (ry 15 ae rfl (ry 16 ae rfl (r2 17 rfl ab (r2 18 rfl ab (r2 19 rfl ab (r2 20 rfl ab (r2 21 rfl ab ?_)))))))));exact r2 22 rfl ab (r2 23 rfl ab (r1 24 rfl ae (aY (v:=.bool false) rfl ab rfl (r0 25 rfl (aY (v:=.bool false) rfl ae rfl (rq [26] 0 (raE hS8)))))))
 ·refine ra1 14 (oy 3 ae rfl (ry 15 ae rfl (ry 16 ae rfl (r2 17 rfl ab (r2 18 rfl ab (r2 19 rfl ab (r2 20 rfl ab (r2 21 rfl ab (r2 22 rfl ab ?_)))))))));exact r2 23 rfl ab (r1 24 rfl ae (aY (v:=.bool false) rfl ab rfl (r0 25 rfl (aY (v:=.bool false) rfl ae rfl (rq [26] 0 (raT hS8))))))
 exact RA.done (by decide +kernel) (T.weakR hK (Weak.mkN [] [0,1] (by decide) (by decide) rfl ⟨eR ((congrArg (fun p=>p) (Ky hz)).symm),tqz⟩ (dR [sL au p1,iI p2,iI p3] rfl (dR [sL aA p4] rfl (ap)))))
theorem Cg {p0:List Move} {p1:List Node} {p2 p3:Int} {p4:List Choice} {r:Int} (h:ou p0 p1 p2 p3 p4=some r):FnX Tryz.prog 126 [.ref 0,.func 127 [.ptr 1 0,.ptr 2 0]] [aR 97 2 bq p0,.box [sL au p1,iI p2,iI p3],.box [sL aA p4]] (iI r) [aR 97 2 bq p0,.box [sL au p1,iI p2,iI p3],.box [sL aA p4]]:=by
 unfold ou at h;refine fT 3 8 Tryz.func126 Tryz.ntmps126 rfl (sQ (dk (en:=bq) Ty.s93 rfl rfl (Y 3 3 (itr (fun ak:Int=>mkA 19 [(0,.ref 0),(1,.func 127 [.ptr 1 0,.ptr 2 0]),(7,iI ((p0).length:Int)),(8,iI ak)]) (fun ak=>[aR 97 2 bq p0,.box [sL au p1,iI p2,iI p3],.box [sL aA p4]]) h (wk [] [0,1,2] 3 rfl) (fun ak v_6 h bp=>?_)))));revert bp h;revert ak;intro s1 h bp;replace h:oo p0 p1 p2 p3 p4 s1=some v_6:=h;try dsimp only
 unfold oo at h;refine X 5 3 (T.ci h rfl (fun bB h=>?_) (fun bB h=>?_))
 ·refine B h fun x5 hx5 h=>(B h fun x6 hx6 h=>(B h fun x7 hx7 h=>(X 13 3 (sQ (aN (en:=bq) Ty.s93 rfl rfl rfl hx5 (sO (aV (en:=bq) (a:=x6) rfl rfl hx6 (gY Ty.k97 Ty.c97 rfl (cs:=(bq x6)) rfl (sO (cG [1,2] 3 2 (Cr hx7) ⟨rfl,(Y 1 3 (T.ci h rfl (fun bx h=>?_) (fun bx h=>?_)))⟩))))))))))
  ·refine X 5 3 ?_;replace h:=mi h bp;cases h;exact tN [0,1,2]
  exact X 5 3 (lk h (wk [] [0,1,2] 3 rfl))
 refine X 1 3 ?_;replace h:=mi h bp;refine X 4 3 ?_;cases h;exact tN [0,1,2]
theorem Dg {p0:Net} {p1:List (List Item)} {p2:State} {p3:List Choice} {r:State × Int} (h:mU p0 p1 p2 p3=some r):Fn Tryz.prog 74 [.agg (aM p0),sL (aj aa) p1,.agg (bC p2),sL aA p3] (.tup [.agg (bC r.1),iI r.2]):=by
 unfold mU at h;refine fT 0 13 Tryz.func74 Tryz.ntmps74 rfl (sQ (al Ty.s29 rfl (Y 1 4 (sQ (al Ty.s29 rfl (Y 3 4 (T.ci h rfl (fun ae h=>?_) (fun ae h=>?_))))))))
 ·refine X 6 4 ?_;cases h;exact tD
 refine X 3 4 (itr (fun bU:(List Int) × (List (List Item)) × (List Memory) × (List Choice) × (List Item) × (List Choice)=>mkA 62 [(1,sL (aj aa) p1),(4,.ptr 0 0),(6,.ptr 1 0),(7,.ptr 2 0),(8,.ptr 3 0)]) (fun bU=>[.box (aM p0),.box [sL ai bU.1,sL (aj aa) bU.2.1,sL aB bU.2.2.1,sL aA bU.2.2.2.1,sL aa bU.2.2.2.2.1],.box [sL aA bU.2.2.2.2.2],.box [.nils,.nils,.nils,.nils,.nils]]) h (wk [] [0,1,2,3] 4 rfl) (fun bU v_13 h jc=>?_));obtain ⟨s1,s2,s3,s4,s5,s6⟩:=bU;replace h:jt p0 p1 s1 s2 s3 s4 s5 s6=some v_13:=h;try dsimp only
 unfold jt at h;refine X 4 4 (sQ (al Ty.s29 rfl (Y 2 4 (T.ci h rfl (fun qq h=>?_) (fun qq h=>?_)))))
 ·refine B h fun x8 hx8 h=>(X 7 4 (sO (cO 4 (wA hx8) ⟨rfl,(B h fun x10 bd h=>(Y 10 5 (sO (cG [4,0,2] 5 3 (Cg bd) ⟨rfl,(Y 8 5 (T.ci h rfl (fun fk h=>?_) (fun fk h=>?_)))⟩))))⟩)))
  ·refine X 6 5 ?_;replace h:=mi h jc;cases h;exact tD
  refine X 1 5 (jn (Z:=List Choice) (fun nV=>mkA 62 [(1,sL (aj aa) p1),(4,.ptr 0 0),(6,.ptr 1 0),(7,.ptr 2 0),(8,.ptr 3 0),(10,.ref 4),(12,iI x10)]) (fun nV=>[.box (aM p0),.box [sL ai s1,sL (aj aa) s2,sL aB s3,sL aA s4,sL aa s5],.box [sL aA nV],.box [.nils,.nils,.nils,.nils,.nils],aR 97 2 bq x8.1]) (fun nV=>kF p0 p1 s1 s2 s3 s4 s5 x8 x10 nV=some v_13) (fun nV h=>?_) (fun hK1=>?_))
  ·revert h;revert nV;intro z18 h;replace h:kF p0 p1 s1 s2 s3 s4 s5 x8 x10 z18=some v_13:=h;try dsimp only
   unfold kF at h;refine B h fun x19 dj h=>(B h fun x20 ee h=>(B h fun x21 l6 h=>(T.drawn mixed (k:=12) rfl (rq [1,3,4] 9 (r0 5 rfl (aN (en:=bq) Ty.s93 rfl rfl rfl dj (rL [0,7,8,9,10,11] 0 rfl (rL [2,7,8,9,10,11] 2 rfl (ra1 6 (oO rfl (aV (en:=bq) (a:=x20) rfl rfl ee (gY Ty.k97 Ty.c97 rfl (cs:=(bq x20)) rfl ?_))))))))))))
   exact ra1 7 (oO rfl (cD (yc l6) ⟨rfl,(rq [8,9,10] 1 (ra1 11 (og 5 ⟨rfl,(RA.done (by decide +kernel) (lk h (wk [] [0,1,2,3] 5 rfl)))⟩)))⟩))
  refine B h fun x14 cT h=>(B h fun x15 dU h=>(B h fun x16 dK h=>(X 2 5 (T.drawn mixed (k:=11) rfl (rq [0,2,3] 8 (r0 4 rfl (aN (en:=bq) Ty.s93 rfl rfl rfl cT (rq [5] 6 (rL [1,7,8,9,10] 1 rfl (ra1 6 ?_))))))))))
  refine oO rfl (aV (en:=bq) (a:=x15) rfl rfl dU (aH Ty.k3 (c:=iI x15.Node) rfl (r0 7 rfl (aE Ty.s22 (fun _=>rfl) rfl rfl dK (rq [8] 2 (ra1 9 (og 5 ⟨rfl,(rq [10] 0 (RA.done (by decide +kernel) (T.ci h rfl (fun cq h=>?_) (fun cq h=>?_))))⟩)))))))
  ·exact B h fun x17 ce h=>(X 2 5 (sO (k6 Ty.s29 (fun _=>rfl) rfl rfl rfl ce (Y 2 5 (sx (hK1 x17 h))))))
  exact X 1 5 (sx (hK1 s6 h))
 refine X 1 4 ?_;replace h:=mi h jc;refine X 6 4 ?_;cases h;exact tD
theorem Da {p0:Int} {p1:List Node} {p2 p3:Int} {p4:List (List Item)} {p5:List Int} {p6:List (List Item)} {p7:List Memory} {p8:List Choice} {p9:List Item} {p10:List (List UInt8)} {p11:List Write} {p12 p13 p14 p15 p16:Int} {p17:Bool} {p18:List Item} {r:Int × (List Int) × (List (List Item)) × (List Memory) × (List Choice) × (List Item) × Int × Int × Int × Int × Bool} (h:o4 p0 p1 p2 p3 p4 p5 p6 p7 p8 p9 p10 p11 p12 p13 p14 p15 p16 p17 p18=some r):FnX Tryz.prog 32 [.ptr 0 0,iI p0] [.box [sL au p1,iI p2,iI p3,sL (aj aa) p4,sL ai p5,sL (aj aa) p6,sL aB p7,sL aA p8,sL aa p9,sL aO p10,sL a9 p11,iI p12,iI p13,iI p14,iI p15,iI p16,.ref 1,.bool p17],aR 75 3 aa p18] (iI r.1) [.box [sL au p1,iI p2,iI p3,sL (aj aa) p4,sL ai r.2.1,sL (aj aa) r.2.2.1,sL aB r.2.2.2.1,sL aA r.2.2.2.2.1,sL aa r.2.2.2.2.2.1,sL aO p10,sL a9 p11,iI r.2.2.2.2.2.2.1,iI r.2.2.2.2.2.2.2.1,iI r.2.2.2.2.2.2.2.2.1,iI p15,iI r.2.2.2.2.2.2.2.2.2.1,.ref 1,.bool r.2.2.2.2.2.2.2.2.2.2],aR 75 3 aa p18]:=by
 unfold o4 at h;refine fT 2 0 Tryz.func32 Tryz.ntmps32 rfl ?_;refine B h fun x2 hx2 h=>(X 7 2 (sO (cG [0,1] 2 2 (CC hx2) ⟨rfl,(B h fun x4 hx4 h=>(Y 14 2 (sO (cO 3 (EC hx4) ⟨rfl,(Y 14 4 (T.ci h rfl (fun ae h=>?_) (fun ae h=>?_)))⟩))))⟩)))
 ·refine X 5 4 ?_;cases h;exact tN [0,1]
 refine B h fun x6 hx6 h=>(X 9 4 (sO (cF (Df hx6) ⟨rfl,(Y 7 4 (T.ci h rfl (fun ab h=>?_) (fun ab h=>?_)))⟩)))
 ·refine X 5 4 ?_;cases h;exact tN [0,1]
 refine B h fun x10 bd h=>(X 3 4 (T.drawn mixed (k:=16) rfl (rq [0,1,2,4,5,6,9] 9 (rL [3,10,11,12,13,14,15] 3 rfl (rL [7,10,11,12,13,14,15] 7 rfl (ra1 8 (og 4 ⟨rfl,(ra1 10 (RO.fC 3 ?_))⟩)))))))
 refine oO rfl (cD (Dg bd) ⟨rfl,(rq [11,12,13] 2 (ra1 14 (og 4 ⟨rfl,(rq [15] 0 (RA.done (by decide +kernel) (X 5 4 (T.ci h rfl (fun ao h=>?_) (fun ao h=>?_)))))⟩)))⟩)
 ·refine X 5 4 ?_;cases h;exact tN [0,1]
 refine X 2 4 (T.drawn mixed (k:=33) rfl ?_);apply RA.jn 10 (bm 33 8388607);intro hS4;apply RA.jn 13 (bm 33 1048575);intro hS5;apply RA.jn 15 (bm 33 1042431);intro hS6;apply RA.jn 16 (bm 33 131071);intro hS7;apply RA.jn 17 (bm 33 261375);intro hS8;apply RA.jn 18 (bm 33 130303);intro hS9;apply RA.jn 18 (bm 33 124927);intro cZ;apply RA.jn 19 (bm 33 32703);intro cS
 ·refine rq [0,1,2,3,4,5,7,10,13,14] 23 (ra3 6 8 11 ?_ ?_ ?_)
  ·refine og 4 ⟨rfl,(rq [15,16] 20 (ra3 8 11 17 ?_ ?_ ?_))⟩
   ·exact og 4 ⟨rfl,(r0 9 rfl (al Ty.s29 rfl (raE cZ)))⟩
   ·exact og 4 ⟨rfl,(r0 12 rfl (al Ty.s29 rfl (raE hS9)))⟩
   ·refine og 4 ⟨rfl,(ra2 8 11 ?_ ?_)⟩
    ·exact og 4 ⟨rfl,(r0 9 rfl (al Ty.s29 rfl (rq [18,19] 15 (raE hS6))))⟩
    ·exact og 4 ⟨rfl,(r0 12 rfl (al Ty.s29 rfl (raE hS8)))⟩
  ·refine og 4 ⟨rfl,(r0 9 rfl (al Ty.s29 rfl (ra2 6 11 ?_ ?_)))⟩
   ·exact og 4 ⟨rfl,(rq [15,16] 18 (raT cZ))⟩
   ·exact og 4 ⟨rfl,(r0 12 rfl (al Ty.s29 rfl (raE cS)))⟩
  ·refine og 4 ⟨rfl,(r0 12 rfl (al Ty.s29 rfl (ra2 6 8 ?_ ?_)))⟩
   ·exact og 4 ⟨rfl,(rq [15,16] 18 (raT hS9))⟩
   ·exact og 4 ⟨rfl,(r0 9 rfl (al Ty.s29 rfl (raT cS)))⟩
 ·exact ra1 6 (og 4 ⟨rfl,(rq [15,16] 16 (raE hS7))⟩)
 ·refine ra2 11 17 ?_ ?_
  ·exact og 4 ⟨rfl,(r0 12 rfl (al Ty.s29 rfl (raT hS7)))⟩
  ·exact og 4 ⟨rfl,(rq [18,19] 15 (raT hS6))⟩
 ·refine ra2 8 17 ?_ ?_
  ·exact og 4 ⟨rfl,(r0 9 rfl (al Ty.s29 rfl (raT hS7)))⟩
  ·exact og 4 ⟨rfl,(raT hS8)⟩
 ·exact ra1 8 (og 4 ⟨rfl,(r0 9 rfl (al Ty.s29 rfl (rq [18,19] 13 (raE hS5))))⟩)
 ·exact ra1 17 (og 4 ⟨rfl,(rq [18,19] 13 (raT hS5))⟩)
 ·refine ra2 11 20 ?_ ?_
  ·exact og 4 ⟨rfl,(r0 12 rfl (al Ty.s29 rfl (raT hS5)))⟩
  ·exact og 4 ⟨rfl,(ra1 11 (og 4 ⟨rfl,(r0 12 rfl (al Ty.s29 rfl (rq [21,22] 10 (raE hS4))))⟩))⟩
 ·exact ra1 20 (og 4 ⟨rfl,(rq [21,22] 10 (raT hS4))⟩)
 refine ra1 23 (og 4 ⟨rfl,(rq [24,25] 7 (ra1 26 (og 4 ⟨rfl,(rq [27,28] 4 (ra1 29 (og 4 ⟨rfl,(rq [30,31] 1 (ra1 32 ?_))⟩)))⟩)))⟩);refine og 4 ⟨rfl,(RA.done (by decide +kernel) (X 4 4 ?_))⟩;cases h;exact tN [0,1]
theorem EG {p0:Disk} {p1 p2:Int} {p3:List UInt8} {r:Disk × Int} (h:ny p0 p1 p2 p3=some r):Fn Tryz.prog 52 [.agg (bX p0),iI p1,iI p2,.str p3] (.tup [.agg (bX r.1),iI r.2]):=by
 unfold ny at h;refine fT 0 0 Tryz.func52 Tryz.ntmps52 rfl ?_;refine B h fun x2 hx2 h=>(X 10 0 (sO (cF (kM hx2) ⟨rfl,(Y 7 2 (T.ci h rfl (fun ae h=>?_) (fun ae h=>?_)))⟩)))
 ·refine X 7 2 ?_;cases h;exact tD
 refine X 2 2 (j1 [(1,iI p1),(2,iI p2),(3,.str p3),(4,.ptr 0 0),(8,.ptr 1 0),(36,.bool ((decide (p1<0)) || ((decide (p1 > 1)) || ((decide (p2<0)) || decide (p2 > 200)))))] [.box (bX p0),.box [.nils,.nils]] ?_ (fun hK=>?_))
 ·refine T.ci h rfl (fun aK h=>?_) (fun aK h=>?_)
  ·refine X 6 2 ?_;cases h;exact tD
  refine B h fun x5 hx5 h=>(X 7 2 (sQ (v_quo rfl rfl hx5 (Y 8 2 (T.ci h rfl (fun aP h=>?_) (fun aP h=>?_))))))
  ·refine X 6 2 ?_;cases h;exact tD
  refine X 8 2 (itr (fun fh:Int × (List (List UInt8)) × (List Write)=>mkA 93 [(1,iI p1),(2,iI p2),(3,.str p3),(4,.ptr 0 0),(8,.ptr 1 0),(11,iI x5),(12,iI fh.1)]) (fun fh=>[.box [sL aO fh.2.1,sL a9 fh.2.2],.box [.nils,.nils]]) h (wk [] [0,1] 2 rfl) (fun fh v_18 h BA=>?_));obtain ⟨s6,s7,s8⟩:=fh;replace h:kV p1 p2 p3 x5 s6 s7 s8=some v_18:=h;try dsimp only
  unfold kV at h;refine X 6 2 (T.ci h rfl (fun cq h=>?_) (fun cq h=>?_))
  ·refine X 11 2 (sO (bl (rows:=List.map bG [IntKind.u8.wrap p2,IntKind.u8.wrap s6,IntKind.u8.wrap x5]) (vs:=[.int .u8 (IntKind.u8.wrap p2),.int .u8 (IntKind.u8.wrap s6),.int .u8 (IntKind.u8.wrap x5)]) Ty.s152 Ty.z5 rfl rfl rfl rfl rfl rfl (sO (mP (xs:=[IntKind.u8.wrap p2,IntKind.u8.wrap s6,IntKind.u8.wrap x5]) Tryz.underlying152 Tryz.underlying5 Tryz.underlying9 rfl rfl (Y 2 3 (jn (Z:=List UInt8) (fun fc=>mkA 93 [(1,iI p1),(2,iI p2),(3,.str p3),(4,.ptr 0 0),(8,.ptr 1 0),(11,iI x5),(12,iI s6),(13,.str fc)]) (fun fc=>[.box [sL aO s7,sL a9 s8],.box [.nils,.nils]]) (fun fc=>kO p1 s6 s7 s8 fc=some v_18) (fun fc h=>?_) (fun hK1=>?_)))))))
   ·revert h;revert fc;intro z11 h;replace h:kO p1 s6 s7 s8 z11=some v_18:=h;try dsimp only
    unfold kO at h;refine B h fun x13 dC h=>(X 3 2 (sO (cF (wI dC) ⟨rfl,(B h fun x15 dU h=>(Y 18 2 (sO (cD (wm dU) ⟨rfl,(Y 11 2 (T.ci h rfl (fun qj h=>?_) (fun qj h=>?_)))⟩))))⟩)))
    ·refine X 7 2 ?_;replace h:=mi h BA;cases h;exact tD
    exact X 6 2 (lk h (wk [] [0,1] 2 rfl))
   refine X 6 3 (T.ci h rfl (fun qn h=>?_) (fun qn h=>?_))
   ·exact B h fun x9 hx9 h=>(B h fun x10 bd h=>(X 11 3 (sO (kP Tryz.underlying9 rfl rfl rfl hx9 (sQ (nK rfl rfl bd (Y 2 3 (wu (hK1 x10 h) [] [0,1] 3 rfl))))))))
   exact X 1 3 (wu (hK1 (bR [IntKind.u8.wrap p2,IntKind.u8.wrap s6,IntKind.u8.wrap x5]) h) [] [0,1] 3 rfl)
  refine X 1 2 ?_;replace h:=mi h BA;refine X 6 2 ?_;cases h;exact tD
 refine X 5 2 (gp 25 (fun ab=>?_) (fun ab=>?_))
 ·refine Yp 12 2 ?_;rw [ab] at hK;exact sx hK
 refine Yp 4 2 (gp 29 (fun ao=>?_) (fun ao=>?_))
 ·refine Yp 8 2 ?_;rw [ab] at hK;rw [ao] at hK;exact sx hK
 refine Yp 4 2 (gp 33 (fun aC=>?_) (fun aC=>?_))
 ·refine Yp 4 2 ?_;rw [ab] at hK;rw [ao] at hK;rw [aC] at hK;exact sx hK
 refine Yp 4 2 ?_;rw [ab] at hK;rw [ao] at hK;rw [aC] at hK;exact sx hK
theorem CR {p0:Int} {p1:List Node} {p2 p3:Int} {p4:List (List Item)} {p5:List Int} {p6:List (List Item)} {p7:List Memory} {p8:List Choice} {p9:List Item} {p10:List (List UInt8)} {p11:List Write} {p12 p13 p14 p15 p16:Int} {p17:Bool} {p18:List Item} {r:Int × (List (List UInt8)) × (List Write) × Int} (h:oZ p0 p1 p2 p3 p4 p5 p6 p7 p8 p9 p10 p11 p12 p13 p14 p15 p16 p17 p18=some r):FnX Tryz.prog 33 [.ptr 0 0,iI p0] [.box [sL au p1,iI p2,iI p3,sL (aj aa) p4,sL ai p5,sL (aj aa) p6,sL aB p7,sL aA p8,sL aa p9,sL aO p10,sL a9 p11,iI p12,iI p13,iI p14,iI p15,iI p16,.ref 1,.bool p17],aR 75 3 aa p18] (iI r.1) [.box [sL au p1,iI p2,iI p3,sL (aj aa) p4,sL ai p5,sL (aj aa) p6,sL aB p7,sL aA p8,sL aa p9,sL aO r.2.1,sL a9 r.2.2.1,iI p12,iI p13,iI p14,iI r.2.2.2,iI p16,.ref 1,.bool p17],aR 75 3 aa p18]:=by
 unfold oZ at h;refine fT 2 13 Tryz.func33 Tryz.ntmps33 rfl (T.ci h rfl (fun ae h=>?_) (fun ae h=>?_))
 ·refine X 4 2 ?_;cases h;exact tN [0,1]
 refine X 10 2 (T.ci h rfl (fun ab h=>?_) (fun ab h=>?_))
 ·refine X 4 2 ?_;cases h;exact tN [0,1]
 refine B h fun x2 hx2 h=>(X 2 2 (T.drawn mixed (k:=18) rfl (rq [0,1,2,4,5,6,8,9,10] 9 (rL [3,12,13,14,15,16,17] 3 rfl (rL [7,12,13,14,15,16,17] 7 rfl (ra1 11 (og 2 ⟨rfl,(ra1 12 (oO rfl (cF (wG hx2) ⟨rfl,?_⟩)))⟩)))))))
 refine rq [13,14,15,16,17] 0 (RA.done (by decide +kernel) (X 6 2 (T.ci h rfl (fun ao h=>?_) (fun ao h=>?_))))
 ·refine X 5 2 ?_;cases h;exact tN [0,1]
 refine B h fun x5 hx5 h=>(B h fun x6 hx6 h=>(X 3 2 (T.drawn mixed (k:=25) rfl ?_)))
 apply RA.jn 8 (bm 25 131071);intro hS4;apply RA.jn 9 (bm 25 131055);intro hS5
 ·refine rq [0,1,2,3,5,6,7,11,12,13,16] 14 (ra3 4 8 14 ?_ ?_ ?_)
  ·refine og 2 ⟨rfl,(ra2 8 14 ?_ ?_)⟩
   ·exact og 2 ⟨rfl,(rq [9] 11 (r0 10 rfl (v_rem rfl rfl hx5 (ra1 14 (og 2 ⟨rfl,(rq [15] 8 (raE hS4))⟩)))))⟩
   ·exact og 2 ⟨rfl,(rq [15] 11 (ra1 8 (og 2 ⟨rfl,(rq [9] 9 (r0 10 rfl (v_rem rfl rfl hx5 (raT hS4))))⟩)))⟩
  ·exact og 2 ⟨rfl,(rq [9] 12 (r0 10 rfl (v_rem rfl rfl hx5 (rL [14,15,17,18,19,20,21,22,23,24] 14 rfl (rq [15] 9 (raE hS5))))))⟩
  ·exact og 2 ⟨rfl,(rq [15] 12 (rL [8,9,10,17,18,19,20,21,22,23,24] 8 rfl (rq [9] 10 (r0 10 rfl (v_rem rfl rfl hx5 (raT hS5))))))⟩
 ·exact ra1 4 (og 2 ⟨rfl,(raT hS4)⟩)
 refine ra1 17 (oO rfl (cD (EG hx6) ⟨rfl,(rq [18,19,20,21,22] 2 (ra1 23 (og 2 ⟨rfl,(rq [24] 0 (RA.done (by decide +kernel) (X 5 2 (T.ci h rfl (fun aP h=>?_) (fun aP h=>?_)))))⟩)))⟩))
 ·refine X 5 2 ?_;cases h;exact tN [0,1]
 refine X 9 2 (sQ (al Ty.s29 rfl (Y 8 2 ?_)));cases h;exact tN [0,1]
theorem pz {p0:Shop} {p1:Happening} {r:Shop × Int} (h:eQ p0 p1=some r):Fn Tryz.prog 9 [.agg (eS p0),.agg (cC p1)] (.tup [.agg (eS r.1),iI r.2]):=by
 unfold eQ at h;refine fT 0 0 Tryz.func9 Tryz.ntmps9 rfl ?_;refine B h fun x2 hx2 h=>(X 11 0 (sO (cF (DA hx2) ⟨rfl,(Y 7 3 (T.ci h rfl (fun ae h=>?_) (fun ae h=>?_)))⟩)))
 ·refine X 7 3 ?_;cases h;exact tD
 refine X 3 3 (sO (Fz rfl rfl (sO (kN (ek:=kI) (ks:=[]) (vs:=[]) (k:=1) (a:=.func 27 []) (o2:=.mp (List.map kI [1]) [.func 27 []]) (.inr rfl) Tryz.underlying69 (KeyT.int Tryz.underlying3) rfl rfl rfl rfl rfl rfl (sO (kN (ek:=kI) (ks:=[1]) (vs:=[.func 27 []]) (k:=2) (a:=.func 28 []) (o2:=.mp (List.map kI [1,2]) [.func 27 [],.func 28 []]) (.inr rfl) Tryz.underlying69 (KeyT.int Tryz.underlying3) rfl rfl rfl rfl rfl rfl (sO (kN (ek:=kI) (ks:=[1,2]) (vs:=[.func 27 [],.func 28 []]) (k:=3) (a:=.func 29 []) (o2:=.mp (List.map kI [1,2,3]) [.func 27 [],.func 28 [],.func 29 []]) (.inr rfl) Tryz.underlying69 (KeyT.int Tryz.underlying3) rfl rfl rfl rfl rfl rfl (sO (kN (ek:=kI) (ks:=[1,2,3]) (vs:=[.func 27 [],.func 28 [],.func 29 []]) (k:=4) (a:=.func 30 []) (o2:=.mp (List.map kI [1,2,3,4]) [.func 27 [],.func 28 [],.func 29 [],.func 30 []]) (.inr rfl) Tryz.underlying69 (KeyT.int Tryz.underlying3) rfl rfl rfl rfl rfl rfl (sO (kN (ek:=kI) (ks:=[1,2,3,4]) (vs:=[.func 27 [],.func 28 [],.func 29 [],.func 30 []]) (k:=5) (a:=.func 31 []) (o2:=.mp (List.map kI [1,2,3,4,5]) [.func 27 [],.func 28 [],.func 29 [],.func 30 [],.func 31 []]) (.inr rfl) Tryz.underlying69 (KeyT.int Tryz.underlying3) rfl rfl rfl rfl rfl rfl (sO (kN (ek:=kI) (ks:=[1,2,3,4,5]) (vs:=[.func 27 [],.func 28 [],.func 29 [],.func 30 [],.func 31 []]) (k:=6) (a:=.func 32 []) (o2:=.mp (List.map kI [1,2,3,4,5,6]) [.func 27 [],.func 28 [],.func 29 [],.func 30 [],.func 31 [],.func 32 []]) (.inr rfl) Tryz.underlying69 (KeyT.int Tryz.underlying3) rfl rfl rfl rfl rfl rfl (sO (kN (ek:=kI) (ks:=[1,2,3,4,5,6]) (vs:=[.func 27 [],.func 28 [],.func 29 [],.func 30 [],.func 31 [],.func 32 []]) (k:=7) (a:=.func 33 []) (o2:=.mp (List.map kI [1,2,3,4,5,6,7]) [.func 27 [],.func 28 [],.func 29 [],.func 30 [],.func 31 [],.func 32 [],.func 33 []]) (.inr rfl) Tryz.underlying69 (KeyT.int Tryz.underlying3) rfl rfl rfl rfl rfl rfl (Y 3 4 ?_)))))))))))))))));refine T.join4 (Z:=(List Node) × Int × Int × (List (List Item)) × (List Int) × (List (List Item)) × (List Memory) × (List Choice) × (List Item) × (List (List UInt8)) × (List Write) × Int × Int × Int × Int × Int × Bool × (List Item)) (fun bA=>mkA 43 [(2,.ptr 0 0),(4,.ptr 1 0)]) (fun bA=>[.box [sL au bA.1,iI bA.2.1,iI bA.2.2.1,sL (aj aa) bA.2.2.2.1,sL ai bA.2.2.2.2.1,sL (aj aa) bA.2.2.2.2.2.1,sL aB bA.2.2.2.2.2.2.1,sL aA bA.2.2.2.2.2.2.2.1,sL aa bA.2.2.2.2.2.2.2.2.1,sL aO bA.2.2.2.2.2.2.2.2.2.1,sL a9 bA.2.2.2.2.2.2.2.2.2.2.1,iI bA.2.2.2.2.2.2.2.2.2.2.2.1,iI bA.2.2.2.2.2.2.2.2.2.2.2.2.1,iI bA.2.2.2.2.2.2.2.2.2.2.2.2.2.1,iI bA.2.2.2.2.2.2.2.2.2.2.2.2.2.2.1,iI bA.2.2.2.2.2.2.2.2.2.2.2.2.2.2.2.1,.ref 2,.bool bA.2.2.2.2.2.2.2.2.2.2.2.2.2.2.2.2.1],.box [.nils,iI 0,iI 0,.nils,.nils,.nils,.nils,.nils,.nils,.nils,.nils,iI 0,iI 0,iI 0,iI 0,iI 0,.nils,.bool false],aR 75 3 aa bA.2.2.2.2.2.2.2.2.2.2.2.2.2.2.2.2.2]) (fun bA=>gS bA.1 bA.2.1 bA.2.2.1 bA.2.2.2.1 bA.2.2.2.2.1 bA.2.2.2.2.2.1 bA.2.2.2.2.2.2.1 bA.2.2.2.2.2.2.2.1 bA.2.2.2.2.2.2.2.2.1 bA.2.2.2.2.2.2.2.2.2.1 bA.2.2.2.2.2.2.2.2.2.2.1 bA.2.2.2.2.2.2.2.2.2.2.2.1 bA.2.2.2.2.2.2.2.2.2.2.2.2.1 bA.2.2.2.2.2.2.2.2.2.2.2.2.2.1 bA.2.2.2.2.2.2.2.2.2.2.2.2.2.2.1 bA.2.2.2.2.2.2.2.2.2.2.2.2.2.2.2.1 bA.2.2.2.2.2.2.2.2.2.2.2.2.2.2.2.2.1 bA.2.2.2.2.2.2.2.2.2.2.2.2.2.2.2.2.2=some r) (fun bA h=>?_) (fun hK1=>?_)
 ·obtain ⟨z31,z32,z33,z34,z35,z36,z37,z38,z39,z40,z41,z42,z43,z44,z45,z46,z47,z48⟩:=bA;replace h:gS z31 z32 z33 z34 z35 z36 z37 z38 z39 z40 z41 z42 z43 z44 z45 z46 z47 z48=some r:=h;try dsimp only
  unfold gS at h;refine X 6 3 ?_;cases h;exact tD
 refine X 5 4 ?_;rcases bn (p1.Kind==1) with gG | gG
 ·replace h:=bT h gG;refine sO (jK (ek:=kI) (ks:=[1,2,3,4,5,6,7]) (vs:=[.func 27 [],.func 28 [],.func 29 [],.func 30 [],.func 31 [],.func 32 [],.func 33 []]) (k:=p1.Kind) (az:=.nilf) (a:=.func 27 []) (r:=(some 0)) Tryz.underlying69 (KeyT.int Tryz.underlying3) Ty.w70 (fun _ _ _=>.nilf) rfl rfl rfl (lE (eq_of_beq gG)) rfl (Y 6 4 (sO (lL Tryz.underlying70 rfl rfl (Y 13 4 (T.ci h rfl (fun JE h=>?_) (fun JE h=>?_)))))))
  ·refine X 6 4 ?_;cases h;exact tD
  refine B h fun x4 hx4 h=>(X 4 4 (sO (cG [] 4 1 (FnX.of_fnO (kJ hx4)) ⟨rfl,(B h fun x6 hx6 h=>(Y 8 5 (sO (cG [0,4] 5 2 (CP hx6) ⟨rfl,(Y 7 5 (T.ci h rfl (fun JF h=>?_) (fun JF h=>?_)))⟩))))⟩)))
  ·refine X 7 5 ?_;cases h;exact tD
  exact X 1 5 (wu (hK1 (x4.N.Nodes,x4.N.Rings,x4.N.Room,x4.Items,x6.2.1,x6.2.2.1,x6.2.2.2.1,x6.2.2.2.2.1,x6.2.2.2.2.2,x4.D.Sectors,x4.D.Wait,x4.Logged,x4.Safe,x4.Epoch,x4.Laid,x4.Next,x4.Down,x4.Told) h) [] [0,2,4] 5 rfl)
 replace h:=bS h gG;rcases bn (p1.Kind==2) with ib | ib
 ·replace h:=bT h ib;refine sO (jK (ek:=kI) (ks:=[1,2,3,4,5,6,7]) (vs:=[.func 27 [],.func 28 [],.func 29 [],.func 30 [],.func 31 [],.func 32 [],.func 33 []]) (k:=p1.Kind) (az:=.nilf) (a:=.func 28 []) (r:=(some 1)) Tryz.underlying69 (KeyT.int Tryz.underlying3) Ty.w70 (fun _ _ _=>.nilf) rfl rfl rfl (co (ne_of_beq_false gG) (lE (eq_of_beq ib))) rfl (Y 6 4 (sO (lL Tryz.underlying70 rfl rfl (Y 13 4 (T.ci h rfl (fun JG h=>?_) (fun JG h=>?_)))))))
  ·refine X 6 4 ?_;cases h;exact tD
  refine B h fun x8 hx8 h=>(X 4 4 (sO (cG [] 4 1 (FnX.of_fnO (kJ hx8)) ⟨rfl,(B h fun x10 bd h=>(Y 8 5 (sO (cG [0,4] 5 2 (CF bd) ⟨rfl,(Y 7 5 (T.ci h rfl (fun JH h=>?_) (fun JH h=>?_)))⟩))))⟩)))
  ·refine X 7 5 ?_;cases h;exact tD
  exact X 1 5 (wu (hK1 (x8.N.Nodes,x8.N.Rings,x8.N.Room,x8.Items,x8.S.At,x8.S.Rings,x8.S.Memory,x8.S.Choices,x8.S.Out,x10.2.1,x10.2.2.1,x10.2.2.2.1,x8.Safe,x8.Epoch,x8.Laid,x10.2.2.2.2,x8.Down,x8.Told) h) [] [0,2,4] 5 rfl)
 replace h:=bS h ib;rcases bn (p1.Kind==3) with ja | ja
 ·replace h:=bT h ja;refine sO (jK (ek:=kI) (ks:=[1,2,3,4,5,6,7]) (vs:=[.func 27 [],.func 28 [],.func 29 [],.func 30 [],.func 31 [],.func 32 [],.func 33 []]) (k:=p1.Kind) (az:=.nilf) (a:=.func 29 []) (r:=(some 2)) Tryz.underlying69 (KeyT.int Tryz.underlying3) Ty.w70 (fun _ _ _=>.nilf) rfl rfl rfl (co (ne_of_beq_false gG) (co (ne_of_beq_false ib) (lE (eq_of_beq ja)))) rfl (Y 6 4 (sO (lL Tryz.underlying70 rfl rfl (Y 13 4 (T.ci h rfl (fun JI h=>?_) (fun JI h=>?_)))))))
  ·refine X 6 4 ?_;cases h;exact tD
  refine B h fun x12 bt h=>(X 4 4 (sO (cG [] 4 1 (FnX.of_fnO (kJ bt)) ⟨rfl,(B h fun x14 cT h=>(Y 8 5 (sO (cG [0,4] 5 2 (CK cT) ⟨rfl,(Y 7 5 (T.ci h rfl (fun JJ h=>?_) (fun JJ h=>?_)))⟩))))⟩)))
  ·refine X 7 5 ?_;cases h;exact tD
  exact X 1 5 (wu (hK1 (x12.N.Nodes,x12.N.Rings,x12.N.Room,x12.Items,x12.S.At,x12.S.Rings,x12.S.Memory,x12.S.Choices,x12.S.Out,x14.2.1,x14.2.2.1,x14.2.2.2.1,x14.2.2.2.2.1,x14.2.2.2.2.2.1,x14.2.2.2.2.2.2.1,x14.2.2.2.2.2.2.2,x12.Down,x12.Told) h) [] [0,2,4] 5 rfl)
 replace h:=bS h ja;rcases bn (p1.Kind==4) with ia | ia
 ·replace h:=bT h ia;refine sO (jK (ek:=kI) (ks:=[1,2,3,4,5,6,7]) (vs:=[.func 27 [],.func 28 [],.func 29 [],.func 30 [],.func 31 [],.func 32 [],.func 33 []]) (k:=p1.Kind) (az:=.nilf) (a:=.func 30 []) (r:=(some 3)) Tryz.underlying69 (KeyT.int Tryz.underlying3) Ty.w70 (fun _ _ _=>.nilf) rfl rfl rfl (co (ne_of_beq_false gG) (co (ne_of_beq_false ib) (co (ne_of_beq_false ja) (lE (eq_of_beq ia))))) rfl (Y 6 4 (sO (lL Tryz.underlying70 rfl rfl (Y 13 4 (T.ci h rfl (fun JK h=>?_) (fun JK h=>?_)))))))
  ·refine X 6 4 ?_;cases h;exact tD
  refine B h fun x16 dK h=>(X 4 4 (sO (cG [] 4 1 (FnX.of_fnO (kJ dK)) ⟨rfl,(B h fun x18 cY h=>(Y 8 5 (sO (cG [0,4] 5 3 (CM cY) ⟨rfl,(Y 7 6 (T.ci h rfl (fun JL h=>?_) (fun JL h=>?_)))⟩))))⟩)))
  ·refine X 7 6 ?_;cases h;exact tD
  exact X 1 6 (wu (hK1 (x16.N.Nodes,x16.N.Rings,x16.N.Room,x16.Items,x16.S.At,x16.S.Rings,x16.S.Memory,x16.S.Choices,x16.S.Out,x16.D.Sectors,x16.D.Wait,x16.Logged,x16.Safe,x16.Epoch,x16.Laid,x16.Next,x16.Down,x18.2) h) [] [0,2,5] 6 rfl)
 replace h:=bS h ia;rcases bn (p1.Kind==5) with iZ | iZ
 ·replace h:=bT h iZ;refine sO (jK (ek:=kI) (ks:=[1,2,3,4,5,6,7]) (vs:=[.func 27 [],.func 28 [],.func 29 [],.func 30 [],.func 31 [],.func 32 [],.func 33 []]) (k:=p1.Kind) (az:=.nilf) (a:=.func 31 []) (r:=(some 4)) Tryz.underlying69 (KeyT.int Tryz.underlying3) Ty.w70 (fun _ _ _=>.nilf) rfl rfl rfl (co (ne_of_beq_false gG) (co (ne_of_beq_false ib) (co (ne_of_beq_false ja) (co (ne_of_beq_false ia) (lE (eq_of_beq iZ)))))) rfl (Y 6 4 (sO (lL Tryz.underlying70 rfl rfl (Y 13 4 (T.ci h rfl (fun JM h=>?_) (fun JM h=>?_)))))))
  ·refine X 6 4 ?_;cases h;exact tD
  refine B h fun x20 ee h=>(X 4 4 (sO (cG [] 4 1 (FnX.of_fnO (kJ ee)) ⟨rfl,(B h fun x22 fK h=>(Y 8 5 (sO (cG [0,4] 5 2 (CW fK) ⟨rfl,(Y 7 5 (T.ci h rfl (fun JN h=>?_) (fun JN h=>?_)))⟩))))⟩)))
  ·refine X 7 5 ?_;cases h;exact tD
  exact X 1 5 (wu (hK1 (x20.N.Nodes,x20.N.Rings,x20.N.Room,x20.Items,x22.2.1,x22.2.2.1,x22.2.2.2.1,x22.2.2.2.2.1,x22.2.2.2.2.2.1,x22.2.2.2.2.2.2.1,x22.2.2.2.2.2.2.2.1,x22.2.2.2.2.2.2.2.2.1,x22.2.2.2.2.2.2.2.2.2.1,x22.2.2.2.2.2.2.2.2.2.2.1,x22.2.2.2.2.2.2.2.2.2.2.2.1,x22.2.2.2.2.2.2.2.2.2.2.2.2.1,x22.2.2.2.2.2.2.2.2.2.2.2.2.2,x20.Told) h) [] [0,2,4] 5 rfl)
 replace h:=bS h iZ;rcases bn (p1.Kind==6) with nP | nP
 ·replace h:=bT h nP;refine sO (jK (ek:=kI) (ks:=[1,2,3,4,5,6,7]) (vs:=[.func 27 [],.func 28 [],.func 29 [],.func 30 [],.func 31 [],.func 32 [],.func 33 []]) (k:=p1.Kind) (az:=.nilf) (a:=.func 32 []) (r:=(some 5)) Tryz.underlying69 (KeyT.int Tryz.underlying3) Ty.w70 (fun _ _ _=>.nilf) rfl rfl rfl (co (ne_of_beq_false gG) (co (ne_of_beq_false ib) (co (ne_of_beq_false ja) (co (ne_of_beq_false ia) (co (ne_of_beq_false iZ) (lE (eq_of_beq nP))))))) rfl (Y 6 4 (sO (lL Tryz.underlying70 rfl rfl (Y 13 4 (T.ci h rfl (fun JO h=>?_) (fun JO h=>?_)))))))
  ·refine X 6 4 ?_;cases h;exact tD
  refine B h fun x24 dT h=>(X 4 4 (sO (cG [] 4 1 (FnX.of_fnO (kJ dT)) ⟨rfl,(B h fun x26 fI h=>(Y 8 5 (sO (cG [0,4] 5 2 (Da fI) ⟨rfl,(Y 7 5 (T.ci h rfl (fun JP h=>?_) (fun JP h=>?_)))⟩))))⟩)))
  ·refine X 7 5 ?_;cases h;exact tD
  exact X 1 5 (wu (hK1 (x24.N.Nodes,x24.N.Rings,x24.N.Room,x24.Items,x26.2.1,x26.2.2.1,x26.2.2.2.1,x26.2.2.2.2.1,x26.2.2.2.2.2.1,x24.D.Sectors,x24.D.Wait,x26.2.2.2.2.2.2.1,x26.2.2.2.2.2.2.2.1,x26.2.2.2.2.2.2.2.2.1,x24.Laid,x26.2.2.2.2.2.2.2.2.2.1,x26.2.2.2.2.2.2.2.2.2.2,x24.Told) h) [] [0,2,4] 5 rfl)
 replace h:=bS h nP;rcases bn (p1.Kind==7) with lN | lN
 ·replace h:=bT h lN;refine sO (jK (ek:=kI) (ks:=[1,2,3,4,5,6,7]) (vs:=[.func 27 [],.func 28 [],.func 29 [],.func 30 [],.func 31 [],.func 32 [],.func 33 []]) (k:=p1.Kind) (az:=.nilf) (a:=.func 33 []) (r:=(some 6)) Tryz.underlying69 (KeyT.int Tryz.underlying3) Ty.w70 (fun _ _ _=>.nilf) rfl rfl rfl (co (ne_of_beq_false gG) (co (ne_of_beq_false ib) (co (ne_of_beq_false ja) (co (ne_of_beq_false ia) (co (ne_of_beq_false iZ) (co (ne_of_beq_false nP) (lE (eq_of_beq lN)))))))) rfl (Y 6 4 (sO (lL Tryz.underlying70 rfl rfl (Y 13 4 (T.ci h rfl (fun JQ h=>?_) (fun JQ h=>?_)))))))
  ·refine X 6 4 ?_;cases h;exact tD
  refine B h fun x28 qI h=>(X 4 4 (sO (cG [] 4 1 (FnX.of_fnO (kJ qI)) ⟨rfl,(B h fun x30 fJ h=>(Y 8 5 (sO (cG [0,4] 5 2 (CR fJ) ⟨rfl,(Y 7 5 (T.ci h rfl (fun JR h=>?_) (fun JR h=>?_)))⟩))))⟩)))
  ·refine X 7 5 ?_;cases h;exact tD
  exact X 1 5 (wu (hK1 (x28.N.Nodes,x28.N.Rings,x28.N.Room,x28.Items,x28.S.At,x28.S.Rings,x28.S.Memory,x28.S.Choices,x28.S.Out,x30.2.1,x30.2.2.1,x28.Logged,x28.Safe,x28.Epoch,x30.2.2.2,x28.Next,x28.Down,x28.Told) h) [] [0,2,4] 5 rfl)
 replace h:=bS h lN;refine sO (jK (ek:=kI) (ks:=[1,2,3,4,5,6,7]) (vs:=[.func 27 [],.func 28 [],.func 29 [],.func 30 [],.func 31 [],.func 32 [],.func 33 []]) (k:=p1.Kind) (az:=.nilf) (a:=.nilf) (r:=none) Tryz.underlying69 (KeyT.int Tryz.underlying3) Ty.w70 (fun _ _ _=>.nilf) rfl rfl rfl (co (ne_of_beq_false gG) (co (ne_of_beq_false ib) (co (ne_of_beq_false ja) (co (ne_of_beq_false ia) (co (ne_of_beq_false iZ) (co (ne_of_beq_false nP) (co (ne_of_beq_false lN) Ie))))))) rfl (Y 6 4 (sO (IE Tryz.underlying70 rfl rfl (Y 8 4 ?_)))));cases h;exact tD
theorem xo {p0:Net} {p1:List (List Item)} {p2:List Happening} {r:Shop × (List Int) × Int} (h:jS p0 p1 p2=some r):Fn Tryz.prog 13 [.agg (aM p0),sL (aj aa) p1,sL cC p2] (.tup [.agg (eS r.1),sL ai r.2.1,iI r.2.2]):=by
 unfold jS at h;refine fT 0 0 Tryz.func13 Tryz.ntmps13 rfl ?_;refine B h fun x2 hx2 h=>(X 11 0 (sO (cD (Es hx2) ⟨rfl,(Y 13 2 (T.ci h rfl (fun ae h=>?_) (fun ae h=>?_)))⟩)))
 ·refine X 8 3 ?_;cases h;exact tD
 refine X 5 3 (sQ (al Ty.s26 rfl (Y 2 3 (T.ci h rfl (fun ab h=>?_) (fun ab h=>?_)))))
 ·refine X 7 3 ?_;cases h;exact tD
 refine X 9 3 (sQ (al Ty.s26 rfl (Y 3 3 (itr (fun ba:Int × (List Node) × Int × Int × (List (List Item)) × (List Int) × (List (List Item)) × (List Memory) × (List Choice) × (List Item) × (List (List UInt8)) × (List Write) × Int × Int × Int × Int × Int × (List Item) × Bool × (List Int)=>mkA 52 [(6,.ptr 0 0),(9,.ptr 1 0),(11,.ref 2),(30,sL cC p2),(31,iI ((p2).length:Int)),(32,iI ba.1)]) (fun ba=>[.box [.nils,iI 0,iI 0,.nils,.nils,.nils,.nils,.nils,.nils,.nils,.nils,iI 0,iI 0,iI 0,iI 0,iI 0,.nils,.bool false],.box [sL au ba.2.1,iI ba.2.2.1,iI ba.2.2.2.1,sL (aj aa) ba.2.2.2.2.1,sL ai ba.2.2.2.2.2.1,sL (aj aa) ba.2.2.2.2.2.2.1,sL aB ba.2.2.2.2.2.2.2.1,sL aA ba.2.2.2.2.2.2.2.2.1,sL aa ba.2.2.2.2.2.2.2.2.2.1,sL aO ba.2.2.2.2.2.2.2.2.2.2.1,sL a9 ba.2.2.2.2.2.2.2.2.2.2.2.1,iI ba.2.2.2.2.2.2.2.2.2.2.2.2.1,iI ba.2.2.2.2.2.2.2.2.2.2.2.2.2.1,iI ba.2.2.2.2.2.2.2.2.2.2.2.2.2.2.1,iI ba.2.2.2.2.2.2.2.2.2.2.2.2.2.2.2.1,iI ba.2.2.2.2.2.2.2.2.2.2.2.2.2.2.2.2.1,sL aa ba.2.2.2.2.2.2.2.2.2.2.2.2.2.2.2.2.2.1,.bool ba.2.2.2.2.2.2.2.2.2.2.2.2.2.2.2.2.2.2.1],aR 39 1 ai ba.2.2.2.2.2.2.2.2.2.2.2.2.2.2.2.2.2.2.2]) h (wk [(11,39,1)] [1,2,3] 3 rfl) (fun ba v_8 h ko=>?_)))));obtain ⟨s3,s4,s5,s6,s7,s8,s9,s10,s11,s12,s13,s14,s15,s16,s17,s18,s19,s20,s21,s22⟩:=ba;replace h:jJ p2 s3 s4 s5 s6 s7 s8 s9 s10 s11 s12 s13 s14 s15 s16 s17 s18 s19 s20 s21 s22=some v_8:=h;try dsimp only
 unfold jJ at h;refine X 5 3 (T.ci h rfl (fun cw h=>?_) (fun cw h=>?_))
 ·refine B h fun x24 dT h=>(X 5 3 (sQ (aE Ty.s26 (fun _=>rfl) rfl rfl dT (B h fun x26 fI h=>(Y 8 3 (sO (cD (pz fI) ⟨rfl,(Y 13 4 (T.ci h rfl (fun fF h=>?_) (fun fF h=>?_)))⟩)))))))
  ·exact B h fun x27 vJ h=>(X 7 5 (sO (bl (rows:=List.map ai [x26.2]) (vs:=[iI x26.2]) Ty.s52 Ty.z39 rfl rfl rfl rfl rfl rfl (sO (b6 (en:=ai) (xs:=s22) (ys:=([x26.2]:List Int)) Ty.s52 (fun _=>rfl) rfl rfl rfl vJ rfl rfl (Y 6 7 (lk h (wk [] [0,1,6] 7 rfl))))))))
  exact B h fun x28 qI h=>(X 4 5 (sO (bl (rows:=List.map ai [x26.2]) (vs:=[iI x26.2]) Ty.s52 Ty.z39 rfl rfl rfl rfl rfl rfl (sO (b6 (en:=ai) (xs:=s22) (ys:=([x26.2]:List Int)) Ty.s52 (fun _=>rfl) rfl rfl rfl qI rfl rfl (Y 6 7 (lk h (wk [] [0,1,6] 7 rfl))))))))
 refine X 1 3 ?_;replace h:=mi h ko;refine X 8 3 ?_;cases h;exact tD
theorem CJ {r:Net} (h:qW=some r):Fn Tryz.prog 25 [] (.agg (aM r)):=by unfold qW at h;refine fT 0 6 Tryz.func25 Tryz.ntmps25 rfl (sO (bl (rows:=List.map ai [0]) (vs:=[iI 0]) Ty.s27 Ty.z3 rfl rfl rfl rfl rfl rfl (Y 1 2 (sO (bl (rows:=List.map ai [1]) (vs:=[iI 1]) Ty.s27 Ty.z3 rfl rfl rfl rfl rfl rfl (Y 1 3 (sO (bl (rows:=List.map ai [0,1]) (vs:=[iI 0,iI 1]) Ty.s27 Ty.z3 rfl rfl rfl rfl rfl rfl (sO (bl (rows:=List.map ai [2]) (vs:=[iI 2]) Ty.s27 Ty.z3 rfl rfl rfl rfl rfl rfl (Y 1 5 (sO (bl (rows:=List.map ai [2]) (vs:=[iI 2]) Ty.s27 Ty.z3 rfl rfl rfl rfl rfl rfl (Y 1 6 ?_))))))))))))));refine RS.fC 1 (RS.fC 2 (RS.fC 3 (RS.fC 4 (RS.fC 5 (sO (Dm (rows:=List.map au [(⟨1,0,[],[0]⟩:Node),(⟨1,1,[],[1]⟩:Node),(⟨6,0,[0,1],[2]⟩:Node),(⟨8,0,[2],[]⟩:Node)]) (vs:=[.agg [iI 1,iI 0,.nils,sL ai [0]],.agg [iI 1,iI 1,.nils,sL ai [1]],.agg [iI 6,iI 0,sL ai [0,1],sL ai [2]],.agg [iI 8,iI 0,sL ai [2],.nils]]) (vs2:=[.agg [iI 1,iI 0,sL ai [],sL ai [0]],.agg [iI 1,iI 1,sL ai [],sL ai [1]],.agg [iI 6,iI 0,sL ai [0,1],sL ai [2]],.agg [iI 8,iI 0,sL ai [2],sL ai []]]) Ty.s22 Ty.z90 rfl rfl rfl rfl rfl rfl (Y 3 7 ?_)))))));cases h;exact tD
theorem v5 {p0 p1:Int} {r:Item} (h:q8 p0 p1=some r):Fn Tryz.prog 69 [iI p0,iI p1] (.agg (aa r)):=by unfold q8 at h;refine fT 0 11 Tryz.func69 Tryz.ntmps69 rfl ?_;cases h;exact tD
theorem Db {r:List (List Item)} (h:q9=some r):FnO Tryz.prog 26 [] (.ref 0) [aR 30 1 (aj aa) r]:=by
 unfold q9 at h;refine fT 0 0 Tryz.func26 Tryz.ntmps26 rfl ?_;refine B h fun x3 hx3 h=>(B h fun x4 hx4 h=>(X 6 0 (sO (cF (v5 hx3) ⟨rfl,(sO (bl (rows:=List.map aa [x3]) (vs:=[.agg (aa x3)]) Ty.s30 Ty.z75 rfl rfl rfl rfl rfl rfl (sO (cF (v5 hx4) ⟨rfl,(sO (bl (rows:=List.map aa [x4]) (vs:=[.agg (aa x4)]) Ty.s30 Ty.z75 rfl rfl rfl rfl rfl rfl (RS.fC 0 (RS.fC 1 (sO (bl (rows:=List.map (aj aa) [[x3],[x4]]) (vs:=[sL aa [x3],sL aa [x4]]) Ty.s25 Ty.z30 rfl rfl rfl rfl rfl rfl ?_))))))⟩))))⟩))))
 refine Y 2 3 ?_;cases h;exact tO [] [2] 3
theorem dW {p0 p1:Int} {r:Happening} (h:dL p0 p1=some r):Fn Tryz.prog 11 [iI p0,iI p1] (.agg (cC r)):=by unfold dL at h;refine fT 0 11 Tryz.func11 Tryz.ntmps11 rfl ?_;cases h;exact tD
theorem vX {r:Bool} (h:kz=some r):Fn Tryz.prog 8 [] (.bool r):=by
 unfold kz at h;refine fT 0 0 Tryz.func8 Tryz.ntmps8 rfl ?_;refine B h fun x16 dK h=>(B h fun x17 ce h=>(B h fun x18 cY h=>(B h fun x19 dj h=>(B h fun x20 ee h=>(B h fun x21 l6 h=>(B h fun x22 fK h=>(B h fun x23 ed h=>(B h fun x24 dT h=>(B h fun x25 lU h=>?_)))))))))
 refine B h fun x26 fI h=>(B h fun x27 vJ h=>(B h fun x30 fJ h=>(X 6 0 (sO (cD (CJ dK) ⟨rfl,(sO (cQ 0 (Db ce) ⟨rfl,(sO (cF (dW cY) ⟨rfl,(sO (cF (dW dj) ⟨rfl,(sO (cF (dW ee) ⟨rfl,(sO (cF (dW l6) ⟨rfl,?_⟩))⟩))⟩))⟩))⟩))⟩)))))
 refine sO (cF (dW fK) ⟨rfl,(sO (cF (dW ed) ⟨rfl,(sO (cF (dW dT) ⟨rfl,(sO (cF (dW lU) ⟨rfl,(sO (cF (dW fI) ⟨rfl,(sO (cF (dW vJ) ⟨rfl,(sO (bl (rows:=List.map cC [x18,x19,x20,x21,x22,x23,x24,x25,x26,x27]) (vs:=[.agg (cC x18),.agg (cC x19),.agg (cC x20),.agg (cC x21),.agg (cC x22),.agg (cC x23),.agg (cC x24),.agg (cC x25),.agg (cC x26),.agg (cC x27)]) Ty.s26 Ty.z44 rfl rfl rfl rfl rfl rfl (RS.fC 0 (RS.fC 1 (sO (cD (xo fJ) ⟨rfl,?_⟩))))))⟩))⟩))⟩))⟩))⟩))⟩);refine Y 9 2 (j1 [(0,.bool ((x30.2.2==0) && ((((x30.2.1).length:Int)==10) && ((((x30.1.S.Choices).length:Int)==1) && ((x30.1.Safe==1) && ((decide (((x30.1.Told).length:Int)<=1)) && !x30.1.Down))))))] [] ?_ (fun hK=>?_))
 ·cases h;exact tD
 refine X 5 3 (gp 24 (fun ae=>?_) (fun ae=>?_))
 ·refine Y 1 3 (yQ rfl (al Ty.s52 rfl (Yp 3 3 (gp 29 (fun ab=>?_) (fun ab=>?_)))))
  ·refine Y 3 3 (yQ rfl (al Ty.s29 rfl (Yp 3 3 (gp 36 (fun ao=>?_) (fun ao=>?_)))))
   ·refine Yp 5 3 (gp 41 (fun aC=>?_) (fun aC=>?_))
    ·refine Y 2 3 (yQ rfl (al Ty.s30 rfl (Yp 3 3 (gp 47 (fun aK=>?_) (fun aK=>?_)))))
     ·refine Yp 6 3 ?_;rw [ae] at hK;rw [ab] at hK;rw [ao] at hK;rw [aC] at hK;rw [aK] at hK;exact wu hK [] [] 3 rfl
     refine Yp 6 3 ?_;rw [ae] at hK;rw [ab] at hK;rw [ao] at hK;rw [aC] at hK;rw [aK] at hK;exact wu hK [] [] 3 rfl
    refine Yp 12 3 ?_;rw [ae] at hK;rw [ab] at hK;rw [ao] at hK;rw [aC] at hK;exact wu hK [] [] 3 rfl
   refine Yp 17 3 ?_;rw [ae] at hK;rw [ab] at hK;rw [ao] at hK;exact wu hK [] [] 3 rfl
  refine Yp 24 3 ?_;rw [ae] at hK;rw [ab] at hK;exact wu hK [] [] 3 rfl
 refine Yp 29 3 ?_;rw [ae] at hK;exact wu hK [] [] 3 rfl
theorem CI {p0 p1:List Int} {r:Bool} (h:oN p0 p1=some r):Fn Tryz.prog 41 [sL ai p0,sL ai p1] (.bool r):=by
 unfold oN at h;refine fT 0 8 Tryz.func41 Tryz.ntmps41 rfl (sQ (al Ty.s27 rfl (Y 1 0 (sQ (al Ty.s27 rfl (Y 2 0 (T.ci h rfl (fun ae h=>?_) (fun ae h=>?_))))))))
 ·refine X 4 0 ?_;cases h;exact tD
 refine X 5 0 (sQ (al Ty.s27 rfl (Y 3 0 (itr (fun bb:Int=>mkA 26 [(0,sL ai p0),(1,sL ai p1),(12,iI ((p0).length:Int)),(13,iI bb)]) (fun bb=>[]) h (wk [] [] 0 rfl) (fun bb v_7 h bI=>?_)))));revert bI h;revert bb;intro s1 h bI;replace h:oG p0 p1 s1=some v_7:=h;try dsimp only
 unfold oG at h;refine X 5 0 (T.ci h rfl (fun bx h=>?_) (fun bx h=>?_))
 ·refine B h fun x4 hx4 h=>(B h fun x5 hx5 h=>(X 9 0 (T.drawn mixed (k:=9) rfl (rq [0,1] 7 (r0 2 rfl (aE Ty.s27 (fun _=>rfl) rfl rfl hx4 (rq [4,5] 4 (r0 6 rfl (aE Ty.s27 (fun _=>rfl) rfl rfl hx5 (rL [3,8] 3 rfl (ra1 7 ?_)))))))))))
  refine og 0 ⟨rfl,(rq [8] 0 (RA.done (by decide +kernel) (T.ci h rfl (fun cw h=>?_) (fun cw h=>?_))))⟩
  ·refine X 4 0 ?_;replace h:=mi h bI;cases h;exact tD
  exact X 5 0 (lk h (wk [] [] 0 rfl))
 refine X 1 0 ?_;replace h:=mi h bI;refine X 4 0 ?_;cases h;exact tD
theorem CB {p0 p1:List Item} {r:Bool} (h:oK p0 p1=some r):Fn Tryz.prog 80 [sL aa p0,sL aa p1] (.bool r):=by
 unfold oK at h;refine fT 0 8 Tryz.func80 Tryz.ntmps80 rfl (sQ (al Ty.s30 rfl (Y 1 0 (sQ (al Ty.s30 rfl (Y 2 0 (T.ci h rfl (fun ae h=>?_) (fun ae h=>?_))))))))
 ·refine X 4 0 ?_;cases h;exact tD
 refine X 5 0 (sQ (al Ty.s30 rfl (Y 3 0 (itr (fun bb:Int=>mkA 26 [(0,sL aa p0),(1,sL aa p1),(12,iI ((p0).length:Int)),(13,iI bb)]) (fun bb=>[]) h (wk [] [] 0 rfl) (fun bb v_7 h bI=>?_)))));revert bI h;revert bb;intro s1 h bI;replace h:oC p0 p1 s1=some v_7:=h;try dsimp only
 unfold oC at h;refine X 5 0 (T.ci h rfl (fun bx h=>?_) (fun bx h=>?_))
 ·refine B h fun x4 hx4 h=>(B h fun x5 hx5 h=>(X 9 0 (T.drawn mixed (k:=9) rfl (rq [0,1] 7 (r0 2 rfl (aE Ty.s30 (fun _=>rfl) rfl rfl hx4 (rq [4,5] 4 (r0 6 rfl (aE Ty.s30 (fun _=>rfl) rfl rfl hx5 (rL [3,8] 3 rfl (ra1 7 ?_)))))))))))
  refine og 0 ⟨rfl,(r0 8 rfl (uv (cs:=[iI x4.Key,iI x4.Val,iI x4.Dep]) (ds:=[iI x5.Key,iI x5.Val,iI x5.Dep]) (r:=x4==x5) Ty.q75 rfl rfl rfl rfl (Ej x4 x5) (RA.done (by decide +kernel) (T.ci h rfl (fun cw h=>?_) (fun cw h=>?_)))))⟩
  ·refine X 4 0 ?_;replace h:=mi h bI;cases h;exact tD
  exact X 5 0 (lk h (wk [] [] 0 rfl))
 refine X 1 0 ?_;replace h:=mi h bI;refine X 4 0 ?_;cases h;exact tD
theorem vS {p0 p1:List Item} {r:Bool} (h:mq p0 p1=some r):Fn Tryz.prog 39 [sL aa p0,sL aa p1] (.bool r):=by
 unfold mq at h;refine fT 0 0 Tryz.func39 Tryz.ntmps39 rfl ?_;refine B h fun x2 hx2 h=>(X 8 0 (sO (cF (CB hx2) ⟨rfl,(Y 2 0 ?_)⟩)))
 cases h;exact tD
theorem B7 {p0 p1:List (List Item)} {r:Bool} (h:oc p0 p1=some r):Fn Tryz.prog 38 [sL (aj aa) p0,sL (aj aa) p1,.func 39 []] (.bool r):=by
 unfold oc at h;refine fT 0 8 Tryz.func38 Tryz.ntmps38 rfl (sQ (al Ty.s25 rfl (Y 1 0 (sQ (al Ty.s25 rfl (Y 2 0 (T.ci h rfl (fun ae h=>?_) (fun ae h=>?_))))))))
 ·refine X 4 0 ?_;cases h;exact tD
 refine X 5 0 (sQ (al Ty.s25 rfl (Y 3 0 (itr (fun bb:Int=>mkA 32 [(1,sL (aj aa) p1),(2,.func 39 []),(15,sL (aj aa) p0),(16,iI ((p0).length:Int)),(17,iI bb)]) (fun bb=>[]) h (wk [] [] 0 rfl) (fun bb v_7 h bI=>?_)))));revert bI h;revert bb;intro s1 h bI;replace h:ob p0 p1 s1=some v_7:=h;try dsimp only
 unfold ob at h;refine X 5 0 (T.ci h rfl (fun bx h=>?_) (fun bx h=>?_))
 ·refine B h fun x3 hx3 h=>(X 6 0 (sQ (aE Ty.s25 (fun _=>rfl) rfl rfl hx3 (B h fun x5 hx5 h=>(Y 8 0 (sQ (aE Ty.s25 (fun _=>rfl) rfl rfl hx5 (B h fun x7 hx7 h=>(Y 8 0 (sO (cF (vS hx7) ⟨rfl,(Y 2 0 ?_)⟩)))))))))))
  refine T.ci h rfl (fun cw h=>?_) (fun cw h=>?_)
  ·refine X 4 0 ?_;replace h:=mi h bI;cases h;exact tD
  exact X 5 0 (lk h (wk [] [] 0 rfl))
 refine X 1 0 ?_;replace h:=mi h bI;refine X 4 0 ?_;cases h;exact tD
theorem Cy {p0 p1:List Keyed} {r:Bool} (h:oI p0 p1=some r):Fn Tryz.prog 83 [sL aL p0,sL aL p1] (.bool r):=by
 unfold oI at h;refine fT 0 8 Tryz.func83 Tryz.ntmps83 rfl (sQ (al Ty.s82 rfl (Y 1 0 (sQ (al Ty.s82 rfl (Y 2 0 (T.ci h rfl (fun ae h=>?_) (fun ae h=>?_))))))))
 ·refine X 4 0 ?_;cases h;exact tD
 refine X 5 0 (sQ (al Ty.s82 rfl (Y 3 0 (itr (fun bb:Int=>mkA 26 [(0,sL aL p0),(1,sL aL p1),(12,iI ((p0).length:Int)),(13,iI bb)]) (fun bb=>[]) h (wk [] [] 0 rfl) (fun bb v_7 h bI=>?_)))));revert bI h;revert bb;intro s1 h bI;replace h:oB p0 p1 s1=some v_7:=h;try dsimp only
 unfold oB at h;refine X 5 0 (T.ci h rfl (fun bx h=>?_) (fun bx h=>?_))
 ·refine B h fun x4 hx4 h=>(B h fun x5 hx5 h=>(X 9 0 (T.drawn mixed (k:=9) rfl (rq [0,1] 7 (r0 2 rfl (aE Ty.s82 (fun _=>rfl) rfl rfl hx4 (rq [4,5] 4 (r0 6 rfl (aE Ty.s82 (fun _=>rfl) rfl rfl hx5 (rL [3,8] 3 rfl (ra1 7 ?_)))))))))))
  refine og 0 ⟨rfl,(r0 8 rfl (uv (cs:=[iI x4.Key,iI x4.N]) (ds:=[iI x5.Key,iI x5.N]) (r:=x4==x5) Ty.q139 rfl rfl rfl rfl (DY x4 x5) (RA.done (by decide +kernel) (T.ci h rfl (fun cw h=>?_) (fun cw h=>?_)))))⟩
  ·refine X 4 0 ?_;replace h:=mi h bI;cases h;exact tD
  exact X 5 0 (lk h (wk [] [] 0 rfl))
 refine X 1 0 ?_;replace h:=mi h bI;refine X 4 0 ?_;cases h;exact tD
theorem Cn {p0 p1:Memory} {r:Bool} (h:oF p0 p1=some r):Fn Tryz.prog 43 [.agg (aB p0),.agg (aB p1)] (.bool r):=by
 unfold oF at h;refine fT 0 6 Tryz.func43 Tryz.ntmps43 rfl ?_;obtain ⟨vI,hz,h⟩:=bind_some h;revert hz h;revert vI;intro c2 hz h;refine j1 [(4,.bool c2)] [] ?_ (fun hK=>?_)
 ·cases h;exact tD
 refine X 8 2 (gi 10 hz (fun ae hz=>?_) (fun ae hz=>?_))
 ·refine Yp 7 2 (gi 17 hz (fun ab hz=>?_) (fun ab hz=>?_))
  ·refine B hz fun x1 hx1 hz=>(Y 4 2 (yO rfl (cF (Cy hx1) ⟨rfl,(Yp 3 2 ?_)⟩)))
   cases hz;exact wu hK [] [] 2 rfl
  refine Yp 8 2 ?_;cases hz;exact wu hK [] [] 2 rfl
 refine Yp 15 2 ?_;cases hz;exact wu hK [] [] 2 rfl
theorem B6 {p0 p1:List Memory} {r:Bool} (h:oa p0 p1=some r):Fn Tryz.prog 42 [sL aB p0,sL aB p1,.func 43 []] (.bool r):=by
 unfold oa at h;refine fT 0 8 Tryz.func42 Tryz.ntmps42 rfl (sQ (al Ty.s28 rfl (Y 1 0 (sQ (al Ty.s28 rfl (Y 2 0 (T.ci h rfl (fun ae h=>?_) (fun ae h=>?_))))))))
 ·refine X 4 0 ?_;cases h;exact tD
 refine X 5 0 (sQ (al Ty.s28 rfl (Y 3 0 (itr (fun bb:Int=>mkA 32 [(1,sL aB p1),(2,.func 43 []),(15,sL aB p0),(16,iI ((p0).length:Int)),(17,iI bb)]) (fun bb=>[]) h (wk [] [] 0 rfl) (fun bb v_7 h bI=>?_)))));revert bI h;revert bb;intro s1 h bI;replace h:n9 p0 p1 s1=some v_7:=h;try dsimp only
 unfold n9 at h;refine X 5 0 (T.ci h rfl (fun bx h=>?_) (fun bx h=>?_))
 ·refine B h fun x3 hx3 h=>(X 6 0 (sQ (aE Ty.s28 (fun _=>rfl) rfl rfl hx3 (B h fun x5 hx5 h=>(Y 9 0 (sQ (aE Ty.s28 (fun _=>rfl) rfl rfl hx5 (B h fun x7 hx7 h=>(Y 9 1 (sO (cF (Cn hx7) ⟨rfl,(Y 2 2 ?_)⟩)))))))))))
  refine T.ci h rfl (fun cw h=>?_) (fun cw h=>?_)
  ·refine X 4 2 ?_;replace h:=mi h bI;cases h;exact tD
  exact X 5 2 (lk h (wk [] [] 2 rfl))
 refine X 1 0 ?_;replace h:=mi h bI;refine X 4 0 ?_;cases h;exact tD
theorem Co {p0 p1:List Choice} {r:Bool} (h:oE p0 p1=some r):Fn Tryz.prog 12 [sL aA p0,sL aA p1] (.bool r):=by
 unfold oE at h;refine fT 0 8 Tryz.func12 Tryz.ntmps12 rfl (sQ (al Ty.s29 rfl (Y 1 0 (sQ (al Ty.s29 rfl (Y 2 0 (T.ci h rfl (fun ae h=>?_) (fun ae h=>?_))))))))
 ·refine X 4 0 ?_;cases h;exact tD
 refine X 5 0 (sQ (al Ty.s29 rfl (Y 3 0 (itr (fun bb:Int=>mkA 26 [(0,sL aA p0),(1,sL aA p1),(12,iI ((p0).length:Int)),(13,iI bb)]) (fun bb=>[]) h (wk [] [] 0 rfl) (fun bb v_7 h bI=>?_)))));revert bI h;revert bb;intro s1 h bI;replace h:oA p0 p1 s1=some v_7:=h;try dsimp only
 unfold oA at h;refine X 5 0 (T.ci h rfl (fun bx h=>?_) (fun bx h=>?_))
 ·refine B h fun x4 hx4 h=>(B h fun x5 hx5 h=>(X 9 0 (T.drawn mixed (k:=9) rfl (rq [0,1] 7 (r0 2 rfl (aE Ty.s29 (fun _=>rfl) rfl rfl hx4 (rq [4,5] 4 (r0 6 rfl (aE Ty.s29 (fun _=>rfl) rfl rfl hx5 (rL [3,8] 3 rfl (ra1 7 ?_)))))))))))
  refine og 0 ⟨rfl,(r0 8 rfl (uv (cs:=[iI x4.Node,iI x4.Lane]) (ds:=[iI x5.Node,iI x5.Lane]) (r:=x4==x5) Ty.q50 rfl rfl rfl rfl (Dp x4 x5) (RA.done (by decide +kernel) (T.ci h rfl (fun cw h=>?_) (fun cw h=>?_)))))⟩
  ·refine X 4 0 ?_;replace h:=mi h bI;cases h;exact tD
  exact X 5 0 (lk h (wk [] [] 0 rfl))
 refine X 1 0 ?_;replace h:=mi h bI;refine X 4 0 ?_;cases h;exact tD
theorem Cv {p0 p1:State} {r:Bool} (h:mr p0 p1=some r):Fn Tryz.prog 15 [.agg (bC p0),.agg (bC p1)] (.bool r):=by
 unfold mr at h;refine fT 0 0 Tryz.func15 Tryz.ntmps15 rfl ?_;refine B h fun x1 hx1 h=>(X 6 0 ?_)
 obtain ⟨qv,hz,h⟩:=bind_some h;revert hz h;revert qv;intro c6 hz h;refine j1 [(4,.bool c6)] [] ?_ (fun hK=>?_)
 ·cases h;exact tD
 refine X 6 2 (sO (cF (CI hx1) ⟨rfl,(Y 1 2 (gi 10 hz (fun ae hz=>?_) (fun ae hz=>?_)))⟩))
 ·refine B hz fun x2 hx2 hz=>(Y 4 2 (yO rfl (cF (B7 hx2) ⟨rfl,(Yp 2 2 (gi 17 hz (fun ab hz=>?_) (fun ab hz=>?_)))⟩)))
  ·refine B hz fun x3 hx3 hz=>(Y 4 2 (yO rfl (cF (B6 hx3) ⟨rfl,(Yp 2 2 (gi 24 hz (fun ao hz=>?_) (fun ao hz=>?_)))⟩)))
   ·refine B hz fun x4 hx4 hz=>(Y 4 2 (yO rfl (cF (Co hx4) ⟨rfl,(Yp 2 2 (gi 31 hz (fun aC hz=>?_) (fun aC hz=>?_)))⟩)))
    ·refine B hz fun x5 hx5 hz=>(Y 4 2 (yO rfl (cF (vS hx5) ⟨rfl,(Yp 3 2 ?_)⟩)))
     cases hz;exact wu hK [] [] 2 rfl
    refine Yp 8 2 ?_;cases hz;exact wu hK [] [] 2 rfl
   refine Yp 15 2 ?_;cases hz;exact wu hK [] [] 2 rfl
  refine Yp 22 2 ?_;cases hz;exact wu hK [] [] 2 rfl
 refine Yp 29 2 ?_;cases hz;exact wu hK [] [] 2 rfl
theorem CA {p0:Net} {p1:List (List Item)} {p2:List Happening} {r:Bool} (h:qU p0 p1 p2=some r):Fn Tryz.prog 5 [.agg (aM p0),sL (aj aa) p1,sL cC p2] (.bool r):=by
 unfold qU at h;refine fT 0 5 Tryz.func5 Tryz.ntmps5 rfl (jn (Z:=List Happening) (fun n8=>mkA 93 [(1,sL (aj aa) p1),(2,sL cC n8),(3,.ptr 0 0)]) (fun n8=>[.box (aM p0)]) (fun n8=>iA p0 p1 n8=some r) (fun n8 h=>?_) (fun hK2=>?_))
 ·revert h;revert n8;intro z3 h;replace h:iA p0 p1 z3=some r:=h;try dsimp only
  unfold iA at h;refine B h fun x5 hx5 h=>(X 5 1 (sO (cD (xo hx5) ⟨rfl,(B h fun x6 hx6 h=>(Y 10 1 (j1 [(7,.ptr 0 0),(35,.bool ((!x6) || ((x5.2.2 != 0) || x5.1.Down)))] [.box (eS x5.1)] ?_ (fun hK=>?_))))⟩)))
  ·refine T.ci h rfl (fun aK h=>?_) (fun aK h=>?_)
   ·refine B h fun x9 hx9 h=>(X 2 1 (sO (cF (vX hx9) ⟨rfl,(Y 2 1 ?_)⟩)))
    cases h;exact tD
   refine B h fun x12 bt h=>(B h fun x13 dC h=>(X 3 1 (T.drawn mixed (k:=8) rfl ?_)))
   apply RA.jn 6 (bm 8 3);intro hS6
   ·refine ra2 0 1 ?_ ?_
    ·exact og 1 ⟨rfl,(ra1 1 (oO rfl (cF (dW bt) ⟨rfl,(raE hS6)⟩)))⟩
    ·exact oO rfl (cF (dW bt) ⟨rfl,(ra1 0 (og 1 ⟨rfl,(raT hS6)⟩))⟩)
   refine ra1 2 (oO rfl (cD (pz dC) ⟨rfl,(rq [3,4,5] 2 (ra1 6 (og 1 ⟨rfl,(rq [7] 0 (RA.done (by decide +kernel) (X 5 1 (T.ci h rfl (fun bB h=>?_) (fun bB h=>?_)))))⟩)))⟩))
   ·refine X 4 1 ?_;cases h;exact tD
   refine B h fun x16 dK h=>(B h fun x17 ce h=>(X 2 1 (T.drawn mixed (k:=9) rfl ?_)))
   apply RA.jn 2 (bm 9 127);intro hS8;apply RA.jn 6 (bm 9 67);intro hS9;apply RA.jn 7 (bm 9 3);intro cZ;apply RA.jn 7 (bm 9 65);intro cS
   ·refine ra3 0 1 6 ?_ ?_ ?_
    ·refine og 1 ⟨rfl,(ra2 1 6 ?_ ?_)⟩
     ·exact oO rfl (cF (dW dK) ⟨rfl,(raE cZ)⟩)
     ·exact og 1 ⟨rfl,(raE cS)⟩
    ·exact oO rfl (cF (dW dK) ⟨rfl,(rL [0,2,3,4,5,7,8] 0 rfl (raT cZ))⟩)
    ·refine og 1 ⟨rfl,(ra2 0 1 ?_ ?_)⟩
     ·exact og 2 ⟨rfl,(raT cS)⟩
     ·exact oO rfl (cF (dW dK) ⟨rfl,(ra1 0 (og 2 ⟨rfl,(raE hS9)⟩))⟩)
   ·exact ra1 1 (oO rfl (cF (dW dK) ⟨rfl,(raT hS9)⟩))
   ·refine ra2 2 6 ?_ ?_
    ·exact oO rfl (cD (pz ce) ⟨rfl,(rq [3,4,5] 3 (ra1 6 (og 1 ⟨rfl,(raE hS8)⟩)))⟩)
    ·exact og 1 ⟨rfl,(raT hS9)⟩
   ·exact ra1 2 (oO rfl (cD (pz ce) ⟨rfl,(rq [3,4,5] 2 (raT hS8))⟩))
   refine ra1 7 (og 2 ⟨rfl,(rq [8] 0 (RA.done (by decide +kernel) (X 6 2 (T.ci h rfl (fun gK h=>?_) (fun gK h=>?_)))))⟩)
   ·refine X 6 2 ?_;cases h;exact tD
   refine X 4 2 (sO (bl (rows:=List.map ai [3,5,6]) (vs:=[iI 3,iI 5,iI 6]) Ty.s27 Ty.z3 rfl rfl rfl rfl rfl rfl (sQ (dk (en:=ai) Ty.s27 rfl rfl (Y 3 3 (itr (fun bj:Int × (List Node) × Int × Int × (List (List Item)) × (List Int) × (List (List Item)) × (List Memory) × (List Choice) × (List Item) × (List (List UInt8)) × (List Write) × Int × Int × Int × Int × Int × (List Item) × Bool=>mkA 93 [(7,.ptr 0 0),(10,.ptr 1 0),(55,.ref 2),(56,iI (([3,5,6]).length:Int)),(57,iI bj.1)]) (fun bj=>[.box (eS x13.1),.box [sL au bj.2.1,iI bj.2.2.1,iI bj.2.2.2.1,sL (aj aa) bj.2.2.2.2.1,sL ai bj.2.2.2.2.2.1,sL (aj aa) bj.2.2.2.2.2.2.1,sL aB bj.2.2.2.2.2.2.2.1,sL aA bj.2.2.2.2.2.2.2.2.1,sL aa bj.2.2.2.2.2.2.2.2.2.1,sL aO bj.2.2.2.2.2.2.2.2.2.2.1,sL a9 bj.2.2.2.2.2.2.2.2.2.2.2.1,iI bj.2.2.2.2.2.2.2.2.2.2.2.2.1,iI bj.2.2.2.2.2.2.2.2.2.2.2.2.2.1,iI bj.2.2.2.2.2.2.2.2.2.2.2.2.2.2.1,iI bj.2.2.2.2.2.2.2.2.2.2.2.2.2.2.2.1,iI bj.2.2.2.2.2.2.2.2.2.2.2.2.2.2.2.2.1,sL aa bj.2.2.2.2.2.2.2.2.2.2.2.2.2.2.2.2.2.1,.bool bj.2.2.2.2.2.2.2.2.2.2.2.2.2.2.2.2.2.2],aR 3 1 ai [3,5,6]]) h (wk [] [0,1,2] 3 rfl) (fun bj v_20 h sD=>?_)))))));obtain ⟨s18,s19,s20,s21,s22,s23,s24,s25,s26,s27,s28,s29,s30,s31,s32,s33,s34,s35,s36⟩:=bj;replace h:jj x13 s18 s19 s20 s21 s22 s23 s24 s25 s26 s27 s28 s29 s30 s31 s32 s33 s34 s35 s36=some v_20:=h;try dsimp only
   unfold jj at h;refine X 5 3 (T.ci h rfl (fun qo h=>?_) (fun qo h=>?_))
   ·refine B h fun x39 vu h=>(B h fun x40 vv h=>(X 5 3 (sQ (aN (en:=ai) Ty.s27 rfl rfl rfl vu (sO (aV (en:=ai) (a:=x40) rfl rfl vv (aH Ty.k3 (c:=iI x40) rfl (B h fun x43 l5 h=>(B h fun x44 qG h=>(Y 3 3 (T.drawn mixed (k:=9) rfl ?_)))))))))))
    apply RA.jn 6 (bm 9 7);intro qy
    ·refine rq [1] 8 (ra2 0 2 ?_ ?_)
     ·exact og 3 ⟨rfl,(ra1 2 (oO rfl (cF (dW l5) ⟨rfl,(raE qy)⟩)))⟩
     ·exact oO rfl (cF (dW l5) ⟨rfl,(ra1 0 (og 3 ⟨rfl,(raT qy)⟩))⟩)
    refine ra1 3 (oO rfl (cD (pz qG) ⟨rfl,(rq [4,5,6] 2 (ra1 7 (og 3 ⟨rfl,(rq [8] 0 (RA.done (by decide +kernel) (X 5 3 (T.ci h rfl (fun qm h=>?_) (fun qm h=>?_)))))⟩)))⟩))
    ·refine X 4 3 ?_;replace h:=mi h sD;cases h;exact tD
    exact X 5 3 (lk h (wk [] [0,1,2] 3 rfl))
   refine X 1 3 ?_;replace h:=mi h sD;refine B h fun x45 Kq h=>(j1 [(6,.bool (x45 && ((s31==((x13.1.S.Choices).length:Int)) && s32==(IntKind.i64.wrap (x13.1.Epoch+1)))))] [] ?_ (fun hK=>?_))
   ·cases h;exact tD
   refine X 6 3 (sO (cF (Cv Kq) ⟨rfl,(Y 1 3 (gp 76 (fun sF=>?_) (fun sF=>?_)))⟩))
   ·refine Y 5 3 (yQ rfl (al Ty.s29 rfl (Yp 3 3 (gp 85 (fun lP=>?_) (fun lP=>?_)))))
    ·refine Yp 9 3 ?_;rw [sF] at hK;rw [lP] at hK;exact wu hK [] [] 3 rfl
    refine Yp 9 3 ?_;rw [sF] at hK;rw [lP] at hK;exact wu hK [] [] 3 rfl
   refine Yp 18 3 ?_;rw [sF] at hK;exact wu hK [] [] 3 rfl
  refine X 2 2 (sO (cF (vX hx6) ⟨rfl,(Y 2 2 (gp 28 (fun ao=>?_) (fun ao=>?_)))⟩))
  ·refine Yp 8 2 ?_;rw [ao] at hK;exact wu hK [] [1] 2 rfl
  refine Yp 4 2 (gp 32 (fun aC=>?_) (fun aC=>?_))
  ·refine Yp 4 2 ?_;rw [ao] at hK;rw [aC] at hK;exact wu hK [] [1] 2 rfl
  refine Yp 4 2 ?_;rw [ao] at hK;rw [aC] at hK;exact wu hK [] [1] 2 rfl
 refine X 4 1 (sQ (al Ty.s26 rfl (Y 2 1 (T.ci h rfl (fun Kj h=>?_) (fun Kj h=>?_)))))
 ·exact B h fun x1 hx1 h=>(X 2 1 (sO (k6 Ty.s26 (fun _=>rfl) rfl rfl rfl hx1 (Y 2 1 (sx (hK2 x1 h))))))
 exact X 1 1 (sx (hK2 p2 h))
end
section
open Go.ChangeShapes Go.WideShapes Go.ChangeAt Go.RowKit
theorem wW {α:Type} {p:Nat->α->Prop}:∀ n:Nat,(∀ i,i<n->∃ x,p i x)->∃ l:List α,l.length=n/\∀ (i:Nat) x,l[i]?=some x->p i x
 | 0,_=>⟨[],rfl,fun i x h=>by simp at h⟩
 | n+1,h=>by
  obtain ⟨l,hl,hp⟩:=wW n (fun i hi=>h i (by omega));obtain ⟨y,hy⟩:=h n (by omega);refine ⟨l++[y],by simp [hl],fun i x hx=>?_⟩;rw [K8] at hx;split at hx
  ·exact hp i x hx
  ·have:i=n:=by
    have:=(Kt.1 hx).1;simp at this;omega
   subst this;simp [hl] at hx;subst hx;exact hy
theorem yU {H:Type} (d:DataW H):1<=Rows.uptoBulk d:=by
 cases d with
 | lit l=>cases l<;>simp [Rows.uptoBulk]
 | _=>simp [Rows.uptoBulk]
theorem yE {H α:Type} (m:α->Nat):∀ (l:List α) (ds:List (DataW H)),l.length=ds.length->(∀ (i:Nat) x d,l[i]?=some x->ds[i]?=some d->m x<=Rows.uptoBulk d)->(l.map m).sum<=Rows.uptoBulkAll ds
 | [],[],_,_=>by simp
 | [],_::_,h,_=>by simp at h
 | _::_,[],h,_=>by simp at h
 | x::l,d::ds,h,hp=>by have h0:=hp 0 x d rfl rfl;have h1:=yE m l ds (by simpa using h) (fun i y e hy he=>hp (i+1) y e (by simpa using hy) (by simpa using he));simp only [Ll,Mi,Rows.uptoBulkAll];omega
structure Opn (P:Program) (t:TypeId) {α:Type} (en:α->List AV) (good:α->Prop) (m:α->Nat):Prop where
 opn:∀ {H:Type} {enc:TypeId × Value->H} {W:World} {fuel:Nat} {cs:List Value} {x:DataW H × List MemPlace},DataW.trod enc P W 0 (fun _=>true) true fuel t cs=some x ->
  ∃ a,RelL [] W (fun b=>b<W.heap.size) (en a) cs/\(∀ u,u∈cs->u.oneCell'=true)/\good a/\m a<=Rows.uptoBulk x.1
theorem Opn.map {P:Program} {t:TypeId} {α β:Type} {en:α->List AV} {good:α->Prop} {m:α->Nat} (h:Opn P t en good m) (f:α->β) {en':β->List AV} {good':β->Prop} {m':β->Nat}
  (he:∀ a,en' (f a)=en a) (hg:∀ a,good a->good' (f a)) (hm:∀ a,m' (f a)<=m a):Opn P t en' good' m' :=
 ⟨fun hx=>by obtain ⟨a,h1,h2,h3,h4⟩:=h.opn hx;exact ⟨f a,by rw [he];exact h1,h2,hg a h3,LL (hm a) h4⟩⟩
theorem pN {σ:List Value} {w:World} {F:Nat->Prop} {a:AV} {v:Value} (h:Rel σ w F a v):RelL σ w F [a] [v]:=.cons h .nil
theorem Opn.bool {P:Program} {t:TypeId} (ht:P.underlying t=some .bool):Opn P t (fun b:Bool=>[.bool b]) (fun _=>True) (fun _=>1) :=
 ⟨fun hx=>by obtain ⟨b,rfl,rfl⟩:=DataW.trod_bool ht hx;exact ⟨b,pN (.bool b),by simp [Value.oneCell'],trivial,yU _⟩⟩
theorem Opn.int {P:Program} {t:TypeId} {k:IntKind} (ht:P.underlying t=some (.int k)):Opn P t (fun n:Int=>[.int k n]) (fun n=>k.min<=n/\n<=k.max) (fun _=>1) :=
 ⟨fun hx=>by obtain ⟨n,rfl,rfl,hw⟩:=DataW.trod_int ht hx;refine ⟨n,pN (.int k n),by simp [Value.oneCell'],?_,yU _⟩;simpa only [Lit.wf,Ly,decide_eq_true_eq] using hw⟩
theorem Opn.str {P:Program} {t:TypeId} (ht:P.underlying t=some .string):Opn P t (fun s:List UInt8=>[.str s]) (fun s=>s.length<=maxLen) (fun s=>s.length+1) :=
 ⟨fun hx=>by
  obtain ⟨s,rfl,rfl,hw⟩:=DataW.trod_string ht hx;refine ⟨s.data.toList,pN (by simpa using Rel.str s.data.toList),by simp [Value.oneCell'],?_,by simp [Rows.uptoBulk]⟩;have e:s.data.toList.length=s.size:=by rw [LJ];rfl
  omega⟩
theorem Opn.slice {P:Program} {t e:TypeId} {α:Type} {en:α->List AV} {good:α->Prop} {m:α->Nat} {size:Nat} (ht:P.underlying t=some (.slice e)) (hc:P.cellsOf e=size+1) (h:Opn P e en good m) :
  Opn P t (fun l:List α=>[.sl (l.map en)]) (fun l=>∀ a,a∈l->good a) (fun l=>(l.map m).sum+1):=by
 refine ⟨fun {H enc W fuel cs x} hx=>?_⟩
 rcases DataW.trod_slice ht hx with ⟨rfl,rfl⟩ | ⟨a,len,cap,elems,rest,n,_,rfl,rfl,hb,hl,hm,hlen,hel,hsp,hns⟩
 ·exact ⟨[],pN .slNil,by simp [Value.oneCell'],by simp,by simp [Rows.uptoBulk]⟩
 rw [hc] at hel
 have hone:∀ i,i<len->∃ y:α × List Value × (DataW H × List MemPlace),elems[i]?=some y.2.2/\W.cells? 0 (a.add (i*(size+1))) (size+1)=some y.2.1/\RelL [] W (fun b=>b<W.heap.size) (en y.1) y.2.1/\(∀ u,u∈y.2.1->u.oneCell'=true)/\good y.1/\m y.1<=Rows.uptoBulk y.2.2.1:=by intro i hi;have h1:=hel i hi;rw [Ks (by omega:i<elems.length)] at h1;obtain ⟨cs',hcs,ht'⟩:=Option.bind_eq_some_iff.1 h1;obtain ⟨y,g1,g2,g3,g4⟩:=h.opn ht';exact ⟨(y,cs',elems[i]),Ks (by omega),hcs,g1,g2,g3,g4⟩
 obtain ⟨ys,hys,hp⟩:=wW len hone
 refine ⟨ys.map (·.1),pN ?_,by simp [Value.oneCell'],?_,?_⟩
 ·have hrl:((ys.map (·.1)).map en).length=len:=by simp [hys]
  have key:Rel [] W (fun b=>b<W.heap.size) (.sl ((ys.map (·.1)).map en)) (.slice (some a) ((ys.map (·.1)).map en).length cap):=by
   refine .sl _ (size+1) a cap (fun i j=>((ys[i]?).bind (fun y=>y.2.1[j]?)).getD .nilIface) (fun hne=>?_) (by omega) hm (fun row hrow=>?_) (fun i j hi hj=>?_) (fun i j hi hj=>?_) (fun i row j x hi hj=>?_)
   ·have hpos:0<len:=by
     rcases Nat.eq_zero_or_pos len with h0 | h0
     ·exfalso;apply hne;apply KB;omega
     ·exact h0
    obtain ⟨y,hy⟩:∃ y,ys[0]?=some y:=⟨ys[0],Ks (by omega)⟩
    have:=World.cells?_block (hp 0 y hy).2.1 (by omega);rwa [mN] at this
   ·simp only [LV,KT] at hrow;obtain ⟨y,hy,rfl⟩:=hrow;obtain ⟨i,hi,hi'⟩:=List.getElem_of_mem hy;have h1:=hp i y (by rw [Ks hi,hi']);have h2:=(World.cells?_some h1.2.1).2.1;have h3:=h1.2.2.1.1;simp only [Function.comp];omega
   ·rw [hrl] at hi;obtain ⟨y,hy⟩:∃ y,ys[i]?=some y:=⟨ys[i],Ks (by omega)⟩
    have h1:=hp i y hy;have h2:=(World.cells?_some h1.2.1).2.1;have h3:y.2.1[j]?=some y.2.1[j]:=Ks (by omega);simp only [hy,Kr,h3,L5];exact h1.2.2.2.1 _ (K1 _)
   ·rw [hrl] at hi;obtain ⟨y,hy⟩:∃ y,ys[i]?=some y:=⟨ys[i],Ks (by omega)⟩
    have h1:=hp i y hy;have h2:=World.cells?_some h1.2.1;have h3:y.2.1[j]?=some y.2.1[j]:=Ks (by omega);simp only [hy,Kr,h3,L5];rw [<- gU,h2.2.2 j hj,h3]
   ·simp only [LV,KA,KO] at hi;obtain ⟨y,hy,rfl⟩:=hi;have h1:=hp i y hy;obtain ⟨v,hv,hr⟩:=h1.2.2.1.get hj;simp only [hy,Kr,hv,L5];exact hr
  rwa [hrl] at key
 ·intro z hz
  simp only [KT] at hz
  obtain ⟨y,hy,rfl⟩:=hz
  obtain ⟨i,hi,hi'⟩:=List.getElem_of_mem hy
  exact (hp i y (by rw [Ks hi,hi'])).2.2.2.2.1
 ·have:=yE m (ys.map (·.1)) (elems.map (·.1)) (by simp [hys,hlen]) (fun i z d hz hd=>by
   simp only [KA,KO] at hz hd;obtain ⟨y,hy,rfl⟩:=hz;obtain ⟨el,he,rfl⟩:=hd;have h1:=hp i y hy;rw [h1.1] at he;obtain rfl:=Ky he;exact h1.2.2.2.2.2)
  simp only [Rows.uptoBulk]
  omega
structure OpnF (P:Program) (fs:List Field) (off total:Nat) {α:Type} (en:α->List AV) (good:α->Prop) (m:α->Nat):Prop where
 opn:∀ {H:Type} {enc:TypeId × Value->H} {W:World} {fuel:Nat} {cs:List Value} {xs:List (DataW H × List MemPlace)},cs.length=total ->
  xs.length=fs.length->(∀ (i:Nat) (f:Field),fs[i]?=some f->DataW.trod enc P W 0 (fun _=>true) true fuel f.type ((cs.drop f.offset).take (P.cellsOf f.type))=xs[i]?) ->
  ∃ a,RelL [] W (fun b=>b<W.heap.size) (en a) (cs.drop off)/\(∀ u,u∈cs.drop off->u.oneCell'=true)/\good a/\m a<=Rows.uptoBulkAll (xs.map (·.1))
theorem OpnF.nil {P:Program} {total:Nat}:OpnF P [] total total (fun _:Unit=>[]) (fun _=>True) (fun _=>0) :=
 ⟨fun hl hx hp=>⟨(),by rw [KU (by omega)];exact .nil,by rw [KU (by omega)];simp,trivial,by simp⟩⟩
theorem OpnF.cons {P:Program} {f:Field} {fs:List Field} {off total:Nat} {α β:Type} {en1:α->List AV} {en2:β->List AV} {g1:α->Prop} {g2:β->Prop} {m1:α->Nat} {m2:β->Nat}
  (ho:f.offset=off) (c:Nat) (hc:P.cellsOf f.type=c) (h1:Opn P f.type en1 g1 m1) (h2:OpnF P fs (off+c) total en2 g2 m2) :
  OpnF P (f::fs) off total (fun p:α × β=>en1 p.1++en2 p.2) (fun p=>g1 p.1/\g2 p.2) (fun p=>m1 p.1+m2 p.2):=by
 refine ⟨fun {H enc W fuel cs xs} hl hx hp=>?_⟩
 match xs,hx with
 | x::xs,hx =>
  have h0:=hp 0 f rfl
  simp only [L7] at h0
  subst ho;subst hc
  obtain ⟨a,a1,a2,a3,a4⟩:=h1.opn h0
  obtain ⟨b,b1,b2,b3,b4⟩:=h2.opn (xs:=xs) hl (by simpa using hx) (fun i f' hf=>by simpa using hp (i+1) f' (by simpa using hf))
  have hs:cs.drop f.offset=(cs.drop f.offset).take (P.cellsOf f.type)++cs.drop (f.offset+P.cellsOf f.type):=by rw [<- L3];exact (Lz _ _).symm
  refine ⟨(a,b),?_,fun u hu=>?_,⟨a3,b3⟩,?_⟩
  ·rw [hs];exact a1.append b1
  ·rw [hs,KJ] at hu
   exact hu.elim (a2 u) (b2 u)
  ·simp only [Ll,Rows.uptoBulkAll];omega
theorem Opn.struct {P:Program} {t:TypeId} {fs:Array Field} {total:Nat} {α:Type} {en:α->List AV} {good:α->Prop} {m:α->Nat} (ht:P.underlying t=some (.struct fs)) (hc:P.cellsOf t=total)
  (h:OpnF P fs.toList 0 total en good m):Opn P t en good m:=by
 refine ⟨fun {H enc W fuel cs x} hx=>?_⟩
 obtain ⟨xs,n,rfl,rfl,hl,hxl,hp⟩:=DataW.trod_struct ht hx
 obtain ⟨a,h1,h2,h3,h4⟩:=h.opn (enc:=enc) (W:=W) (fuel:=n) (cs:=cs) (xs:=xs) (by omega) (by simp [hxl]) (fun i f hf=>hp i f (by simpa using hf))
 exact ⟨a,by simpa using h1,by simpa using h2,h3,by simp only [Rows.uptoBulk];omega⟩
theorem Opn.arg {P:Program} {t:TypeId} {α:Type} {en:α->AV} {good:α->Prop} {m:α->Nat} (h:Opn P t (fun a=>[en a]) good m)
  (ht:(match P.underlying t with | some (.struct _) | some (.array _ _)=>false | _=>true)=true)
  {H:Type} {enc:TypeId × Value->H} {W:World} {base:Nat} {v:Value} {d:DataW H} {ps:List MemPlace} (hval:Value.okWide P W .any base t v) (hd:DataW.Trod enc P W 0 (fun _=>true) true t v d ps) :
  ∃ a,Rel [] W (fun b=>b<W.heap.size) (en a) v/\good a/\m a<=Rows.uptoBulk d:=by
 obtain ⟨fuel,hf⟩:=hd
 obtain ⟨a,h1,h2,h3,h4⟩:=h.opn hf
 have hv:v.cells=#[v]:=by
  cases v with
  | agg cs =>
   exfalso;unfold Value.okWide at hval;split at hval
   ·rename_i e;rw [e] at ht;simp at ht
   ·rename_i e;rw [e] at ht;simp at ht
   ·unfold Cell.okWide at hval;split at hval<;>simp_all [Cell.ok]
  | _=>rfl
 rw [hv] at h1
 exact ⟨a,h1.2 0 (en a) v rfl rfl,h3,h4⟩
theorem Opn.args {P:Program} {t:TypeId} {α:Type} {en:α->List AV} {good:α->Prop} {m:α->Nat} (h:Opn P t en good m)
  {fs:Array Field} (ht:P.underlying t=some (.struct fs))
  {H:Type} {enc:TypeId × Value->H} {W:World} {base:Nat} {v:Value} {d:DataW H} {ps:List MemPlace} (hval:Value.okWide P W .any base t v) (hd:DataW.Trod enc P W 0 (fun _=>true) true t v d ps) :
  ∃ a,Rel [] W (fun b=>b<W.heap.size) (.agg (en a)) v/\good a/\m a<=Rows.uptoBulk d:=by
 obtain ⟨fuel,hf⟩:=hd
 obtain ⟨a,h1,h2,h3,h4⟩:=h.opn hf
 unfold Value.okWide at hval
 rw [ht] at hval
 obtain ⟨cs,rfl,_,_⟩:=hval
 simp only [Value.cells] at h1 h2
 refine ⟨a,?_,h3,h4⟩
 have:=Rel.agg (σ:=[]) (w:=W) (F:=fun b=>b<W.heap.size) (en a) cs.toList h1.1 h2 h1.2
 simpa using this
theorem xT {H:Type} {enc:TypeId × Value->H} {P:Program} (hl:laidOutB P=true) {W W':World} (hb:Below W.heap.size W W') (sp:Nat->Bool) :
  ∀ {ts:List TypeId} {vs:List Value} {ds:List (DataW H)} {ps:List MemPlace},(ts.all fun t=>P.readableRec t && decide (t<P.types.size))=true->DataW.TrodAll enc P W 0 (fun _=>true) true ts vs ds ps ->
   (∀ x∈ps,x.block<W.heap.size)->(∀ x∈ps,sp x.block=true)->DataW.TrodAll enc P W' 0 sp true ts vs ds ps
 | [],[],[],_,_,h,_,_=>h
 | [],_::_,_,_,_,h,_,_=>h.elim
 | [],[],_::_,_,_,h,_,_=>h.elim
 | _::_,[],_,_,_,h,_,_=>h.elim
 | _::_,_::_,[],_,_,h,_,_=>h.elim
 | t::ts,v::vs,d::ds,ps,hr,h,hlt,hsp=>by
  obtain ⟨p,q,h1,h2,rfl⟩:=h;simp only [MD,Ly,decide_eq_true_eq] at hr;exact ⟨p,q,WideElems.Trod_stays hl hr.1.1 hr.1.2 h1 (fun x hx=>hb.same (hlt x (by simp [hx]))) (fun x hx=>hsp x (by simp [hx])),
   xT hl hb sp hr.2 h2 (fun x hx=>hlt x (by simp [hx])) (fun x hx=>hsp x (by simp [hx])),rfl⟩
section
variable {H:Type} {enc:TypeId × Value→H} {P:Program}
theorem Di {f:Func} {s:ChangeSpec} {apart fresh handsOn again:Bool} {W W':World} {args:Array Value} {v:Value} {ds gs:List (DataW H)} {before pa pv:List MemPlace}
  (hW:DataW.Whole enc P f.params.toList s.vars apart W args.toList ds gs before)
  (hres:∀ (b:Nat) (sp:Nat->Bool) (hd:Bool),DataW.TrodAll enc P W' b sp hd f.resultTypes.toList (v.resultList f.resultTypes.size) (s.fn H (ds++gs)).results [])
  (hargs:∀ sp:Nat->Bool,(∀ p∈before,sp p.block=true)->DataW.TrodAll enc P W' 0 sp true f.params.toList args.toList (s.fn H (ds++gs)).args pa)
  (hvars:∀ sp:Nat->Bool,(∀ p∈before,sp p.block=true)->DataW.TrodVars enc P W' sp s.vars (s.fn H (ds++gs)).vars pv)
  (hps:before=pa++pv) (hb:Below W.heap.size W W')
  (hok:∀ (j:Nat) (t:TypeId) (r:Value),f.resultTypes[j]?=some t->(v.resultList f.resultTypes.size)[j]?=some r->Value.okWide P W' .any 0 t r) :
  s.post enc P f apart fresh handsOn again W args v W':=by
 have hlt:∀ p∈before,p.block<W.heap.size:=fun p hp=>hW.lt p hp
 have hold:∀ p∈before,(fun b=>decide (b<W.heap.size)) p.block=true:=fun p hp=>by simpa using hlt p hp
 refine ⟨ds,gs,before,[],pa,pv,hW,hres _ _ _,hargs _ hold,hvars _ hold,World.keptBut_mono (fun p hp=>⟨hp,?_⟩) (hb.frame (·∈before)),fun _=>?_⟩
 ·rw [hps,KJ] at hp
  exact Or.inr hp
 ·obtain ⟨_,_,_,_,_,hz,hn⟩:=hW
  refine ⟨hok,_,_,([]++pa)++pv,⟨[]++pa,pv,trodAll_append (hargs _ (fun _ _=>rfl)) (hres _ _ _),hvars _ (fun _ _=>rfl),rfl,?_,?_⟩,?_⟩
  ·intro b off hp
   have hin:MemPlace.cell b off∈before:=by rw [hps];simpa using hp
   rw [hb.frozen (hlt _ hin)]
   exact hz b off hin
  ·intro ha
   have:=hn ha
   rw [hps] at this
   simpa using this
  ·intro p hp _
   rw [hps]
   simpa using hp
end
theorem Gi {H:Type} {enc:TypeId × Value->H} {P:Program} {id:FuncId} {f:Func} {s:ChangeSpec} {W:World} {args:Array Value} {ds gs:List (DataW H)} {before:List MemPlace} {av:List AV} {tb:TypeId}
  (hl:laidOutB P=true) (htb:P.underlying tb=some .bool) (hres:f.resultTypes=#[tb]) (hr:(f.params.toList.all fun t=>P.readableRec t && decide (t<P.types.size))=true) (hvars:s.vars=[])
  (hfn:(s.fn H (ds++gs)).results=[.lit (.bool true)]) (hfa:(s.fn H (ds++gs)).args=ds) (hfv:(s.fn H (ds++gs)).vars=[])
  (hW:DataW.Whole enc P f.params.toList s.vars false W args.toList ds gs before)
  (hrel:RelL [] W (fun b=>b<W.heap.size) av args.toList) (hc:ACalls P id av [] fun r aw'=>r=.bool true/\aw'=[]) :
  Calls P id args W fun e W'=>∃ v,e=.returned v/\s.post enc P f false true false false W args v W':=by
 have hs:Sim [] [] W (fun b=>b<W.heap.size):=⟨rfl,fun k o v h=>by simp at h,fun k k' o o' v v' g _ h=>by simp at h,fun b h=>h⟩
 refine (hc.2 W _ [] args.toList hs hrel).mono fun e W' hx=>?_
 obtain ⟨v,r,aw',σ',F',he,⟨hr1,hr2⟩,_,hv,hm⟩:=hx
 subst hr1;subst hr2
 cases hv
 have hb:Below W.heap.size W W':=⟨hm.os,hm.tape,hm.output.1,hm.size,fun k hk=>hm.keep k hk (fun ⟨k',o,v,ho,_⟩=>by simp at ho)⟩
 refine ⟨.bool true,he,?_⟩
 have hW':=hW
 obtain ⟨p,q,hA,hV,rfl,hfz,hnd⟩:=hW'
 rw [hvars] at hV
 obtain ⟨rfl,rfl⟩:=trodVars_none hV
 have hlt:∀ x∈p++[],x.block<W.heap.size:=fun x hx=>hW.lt x hx
 refine Di (pa:=p) (pv:=[]) hW (fun b sp hd=>?_) (fun sp hsp=>?_) (fun sp hsp=>?_) rfl hb (ok_one hres rfl (okWide_bool_mk htb _))
 ·rw [hfn,hres]
  exact trodAll_cons_mk (shut_bool htb _) trodAll_mk0
 ·rw [hfa]
  exact xT hl hb sp hr hA (fun x hx=>hlt x (by simpa using hx)) (fun x hx=>hsp x (by simpa using hx))
 ·rw [hfv,hvars]
  exact rfl
end
def gI (n:Int):Prop := -9223372036854775808<=n/\n<=9223372036854775807
def gL {α:Type} (g:α->Prop) (l:List α):Prop:=∀ a,a∈l->g a
def dc (a:Item):Prop:=gI a.Key/\gI a.Val/\gI a.Dep
def gNode (a:Node):Prop:=gI a.Kind/\gI a.A/\gL gI a.In/\gL gI a.Out
def gNet (a:Net):Prop:=gL gNode a.Nodes/\gI a.Rings/\gI a.Room
def j5 (a:Keyed):Prop:=gI a.Key/\gI a.N
def uf (a:Memory):Prop:=gI a.Sum/\gL j5 a.Keys/\gI a.Dep
def jV (a:Choice):Prop:=gI a.Node/\gI a.Lane
def ux (a:State):Prop:=gL gI a.At/\gL (gL dc) a.Rings/\gL uf a.Memory/\gL jV a.Choices/\gL dc a.Out
def tz (a:Happening):Prop:=gI a.Kind/\gI a.N
def mI (n:Int):Nat:=1
def mB (b:Bool):Nat:=1
def mL {α:Type} (m:α->Nat) (l:List α):Nat:=(l.map m).sum+1
def cy (a:Item):Nat:=3
def mNode (a:Node):Nat:=mL mI a.In+mL mI a.Out+2
def mNet (a:Net):Nat:=mL mNode a.Nodes+2
def gE (a:Keyed):Nat:=2
def ff (a:Memory):Nat:=mL gE a.Keys+2
def gr (a:Choice):Nat:=2
def lz (a:State):Nat:=mL mI a.At+mL (mL cy) a.Rings+mL ff a.Memory+mL gr a.Choices+mL cy a.Out
def rk (a:Happening):Nat:=2
theorem hH {α:Type} {m:α->Nat} (h:∀ a,1<=m a):∀ l:List α,l.length<=mL m l
 | []=>by simp [mL]
 | a::l=>by have:=hH h l;have:=h a;simp [mL] at *;omega
theorem sd {α:Type} {m:α->Nat}:∀ {l:List α} {a:α},a∈l->m a<=mL m l
 | b::l,a,h=>by
  rcases K0.1 h with rfl | h
  ·simp [mL];omega
  ·have:=sd (m:=m) h;simp [mL] at *;omega
theorem IJ {α:Type} {m:α->Nat} (l:List α) (a:α):mL m (a::l)=m a+mL m l:=by simp [mL];omega
theorem bw {n:Int} (h0 : -9223372036854775808<=n) (h1:n<=9223372036854775807):IntKind.i64.wrap n=n:=IntWalk.i64_in n ⟨h0,h1⟩
theorem br {k:Nat} (h:k<4611686018427387904):IntKind.i64.wrap ((k:Int)+1)=((k+1:Nat):Int):=by rw [bw (by omega) (by omega)];rfl
theorem bu {α:Type} {xs:List α} {k:Nat} {x:α} (h:xs[k]?=some x):idx xs (k:Int)=some x:=by unfold idx;rw [if_pos (by omega)];simpa using h
theorem eV {α:Type} {xs:List α} {k:Nat} (h:k<xs.length):ixN xs (k:Int)=some k:=by unfold ixN;rw [if_pos (by omega)];simp
theorem cx {α:Type} {xs ys:List α} (h:xs.length+ys.length<=1099511627776):app xs ys=some (xs++ys):=by unfold app;rw [if_pos h]
theorem lJ {xs ys:List UInt8} (h:xs.length+ys.length<=4611686018427387904):cat xs ys=some (xs++ys):=by unfold cat;rw [if_pos h]
theorem nF {α:Type} {xs:List α} {i j:Nat} (h:i<=j) (h2:j<=xs.length):sub xs (i:Int) (j:Int)=some ((xs.take j).drop i):=by unfold sub;rw [if_pos (by omega)];simp
theorem sub_0 {α:Type} {xs:List α} {j:Nat} (h2:j<=xs.length):sub xs 0 (j:Int)=some (xs.take j):=by have:=nF (xs:=xs) (i:=0) (j:=j) (by omega) h2;simpa using this
theorem iQ {α:Type} {xs:List α} {i:Nat} (h2:i<=xs.length):sub xs (i:Int) (xs.length:Int)=some (xs.drop i):=by have:=nF (xs:=xs) (i:=i) (j:=xs.length) h2 (Kx _);simpa using this
def dG {α σ ρ:Type} (f:Nat->α->σ->Option (σ ⊕ ρ)) (fin:σ->Option ρ):Nat->List α->σ->Option ρ
 | _,[],st=>fin st
 | k,x::xs,st=>match f k x st with
  | none=>none
  | some (.inl st')=>dG f fin (k+1) xs st'
  | some (.inr r)=>some r
theorem yn {α σ ρ τ:Type} (xs:List α) (hx:xs.length<=1099511627776) (e:Nat->σ->τ) {body:τ->Option (τ ⊕ ρ)} (f:Nat->α->σ->Option (σ ⊕ ρ)) (fin:σ->Option ρ)
  (h1:∀ (k:Nat) x st,xs[k]?=some x->k<xs.length->idx xs (k:Int)=some x->decide ((k:Int)<(xs.length:Int))=true->IntKind.i64.wrap ((k:Int)+1)=((k+1:Nat):Int) ->
   body (e k st)=match f k x st with
    | none=>none
    | some (.inl st')=>some (.inl (e (k+1) st'))
    | some (.inr r)=>some (.inr r))
  (h2:∀ st,decide ((xs.length:Int)<(xs.length:Int))=false->body (e xs.length st)=(fin st).map .inr) :
  ∀ (n k:Nat) st,k+n=xs.length->iter body (e k st)=dG f fin k (xs.drop k) st
 | 0,k,st,h=>by
  have hk:k=xs.length:=by omega
  subst hk;rw [aG,h2 st (by simp),Lm];unfold dG;cases fin st<;>rfl
 | n+1,k,st,h=>by
  have hlt:k<xs.length:=by omega
  have hg:xs[k]?=some xs[k]:=Ks hlt;rw [aG,h1 k xs[k] st hg hlt (bu hg) (by simp;omega) (br (by omega)),KC hlt];unfold dG;cases f k xs[k] st with
  | none=>rfl
  | some v =>
   cases v with
   | inl st'=>exact yn xs hx e f fin h1 h2 n (k+1) st' (by omega)
   | inr r=>rfl
theorem mW {α σ ρ τ:Type} (xs:List α) (hx:xs.length<=1099511627776) (e:Nat->σ->τ) {body:τ->Option (τ ⊕ ρ)} (f:Nat->α->σ->Option (σ ⊕ ρ)) (fin:σ->Option ρ) (st:σ)
  (h1:∀ (k:Nat) x st,xs[k]?=some x->k<xs.length->idx xs (k:Int)=some x->decide ((k:Int)<(xs.length:Int))=true->IntKind.i64.wrap ((k:Int)+1)=((k+1:Nat):Int) ->
   body (e k st)=match f k x st with
    | none=>none
    | some (.inl st')=>some (.inl (e (k+1) st'))
    | some (.inr r)=>some (.inr r))
  (h2:∀ st,decide ((xs.length:Int)<(xs.length:Int))=false->body (e xs.length st)=(fin st).map .inr):iter body (e 0 st)=dG f fin 0 xs st:=by
 have:=yn xs hx e f fin h1 h2 xs.length 0 st (by omega)
 simpa using this
theorem rK {α β:Type} {body:α->Option (α ⊕ β)} (I:α->Prop) (μ:α->Nat) (R:β->Prop) (h:∀ s,I s->(∃ s',body s=some (.inl s')/\I s'/\μ s' < μ s)∨∃ r,body s=some (.inr r)/\R r):∀ (n:Nat) s,μ s<=n->I s->∃ r,iter body s=some r/\R r
 | n,s,hn,hs=>by
  rcases h s hs with ⟨s',h1,h2,h3⟩ | ⟨r,h1,h2⟩
  ·match n,hn with
   | 0,hn=>omega
   | n+1,hn =>
    obtain ⟨r,h4,h5⟩:=rK I μ R h n s' (by omega) h2
    exact ⟨r,by rw [aG,h1];exact h4,h5⟩
  ·exact ⟨r,by rw [aG,h1],h2⟩
theorem pg {α:Type} [DecidableEq α] (a b:List α) (ha:a.length<=1099511627776) (hl:a.length=b.length) {body:Int->Option (Int ⊕ Bool)}
  (h1:∀ (k:Nat) x y,decide ((k:Int)<(a.length:Int))=true->idx a (k:Int)=some x->idx b (k:Int)=some y->IntKind.i64.wrap ((k:Int)+1)=((k+1:Nat):Int)->body k=if x=y then some (.inl ((k+1:Nat):Int)) else some (.inr false))
  (h2:decide ((a.length:Int)<(a.length:Int))=false->body a.length=some (.inr true)):iter body 0=some (decide (a=b)):=by
 have key:∀ (n k:Nat),k+n=a.length->iter body k=some (decide (a.drop k=b.drop k)):=by
  intro n;induction n with
  | zero =>
   intro k hk;have hk:k=a.length:=by omega
   subst hk;rw [aG,h2 (by simp),Lm,KU (by omega)];simp
  | succ n ih =>
   intro k hk;have hlt:k<a.length:=by omega
   have hlt2:k<b.length:=by omega
   have hd:(a.drop k=b.drop k) ↔ (a[k]=b[k]/\a.drop (k+1)=b.drop (k+1)):=by
    have ea:=KC hlt;have eb:=KC hlt2;constructor
    ·intro h;rw [ea,eb] at h;exact List.cons.inj h
    ·rintro ⟨h1,h2⟩;rw [ea,eb,h1,h2]
   rw [aG,h1 k a[k] b[k] (by simp;omega) (bu (Ks hlt)) (bu (Ks hlt2)) (br (by omega))];by_cases hxy:a[k]=b[k]
   ·rw [if_pos hxy];simp only;rw [ih (k+1) (by omega)];simp [hd,hxy]
   ·rw [if_neg hxy];simp [hd,hxy]
 have:=key a.length 0 (by omega)
 simpa using this
section
open Go.RowKit
theorem on3:Opn Tryz.prog 3 (fun n:Int=>[.int .i64 n]) gI mI :=
 (Opn.int Tryz.underlying3).map id (fun _=>rfl) (fun a h=>⟨h.1,h.2⟩) (fun _=>Kx _)
theorem on27:Opn Tryz.prog 27 (fun l=>[.sl (l.map ai)]) (gL gI) (mL mI) :=
 (Opn.slice (size:=0) Tryz.underlying27 Ty.c3 on3).map id (fun _=>rfl) (fun a h=>h) (fun _=>Kx _)
theorem on90:Opn Tryz.prog 90 au gNode mNode :=
 (Opn.struct Tryz.underlying90 Ty.c90 (OpnF.cons rfl 1 Ty.c3 on3 (OpnF.cons rfl 1 Ty.c3 on3 (OpnF.cons rfl 1 Ty.c27 on27 (OpnF.cons rfl 1 Ty.c27 on27 OpnF.nil))))).map (fun p=>(⟨p.1,p.2.1,p.2.2.1,p.2.2.2.1⟩:Node)) (fun p=>rfl) (fun p h=>⟨h.1,h.2.1,h.2.2.1,h.2.2.2.1⟩) (fun p=>by simp only [mNode,mI,mB];omega)
theorem on22:Opn Tryz.prog 22 (fun l=>[.sl (l.map au)]) (gL gNode) (mL mNode) :=
 (Opn.slice (size:=3) Tryz.underlying22 Ty.c90 on90).map id (fun _=>rfl) (fun a h=>h) (fun _=>Kx _)
theorem on24:Opn Tryz.prog 24 aM gNet mNet :=
 (Opn.struct Tryz.underlying24 Ty.c24 (OpnF.cons rfl 1 Ty.c22 on22 (OpnF.cons rfl 1 Ty.c3 on3 (OpnF.cons rfl 1 Ty.c3 on3 OpnF.nil)))).map (fun p=>(⟨p.1,p.2.1,p.2.2.1⟩:Net)) (fun p=>rfl) (fun p h=>⟨h.1,h.2.1,h.2.2.1⟩) (fun p=>by simp only [mNet,mI,mB];omega)
theorem on75:Opn Tryz.prog 75 aa dc cy :=
 (Opn.struct Tryz.underlying75 Ty.c75 (OpnF.cons rfl 1 Ty.c3 on3 (OpnF.cons rfl 1 Ty.c3 on3 (OpnF.cons rfl 1 Ty.c3 on3 OpnF.nil)))).map (fun p=>(⟨p.1,p.2.1,p.2.2.1⟩:Item)) (fun p=>rfl) (fun p h=>⟨h.1,h.2.1,h.2.2.1⟩) (fun p=>by simp only [cy,mI,mB];omega)
theorem on30:Opn Tryz.prog 30 (fun l=>[.sl (l.map aa)]) (gL dc) (mL cy) :=
 (Opn.slice (size:=2) Tryz.underlying30 Ty.c75 on75).map id (fun _=>rfl) (fun a h=>h) (fun _=>Kx _)
theorem on25:Opn Tryz.prog 25 (fun l=>[.sl (l.map (aj aa))]) (gL (gL dc)) (mL (mL cy)) :=
 (Opn.slice (size:=0) Tryz.underlying25 Ty.c30 on30).map id (fun _=>rfl) (fun a h=>h) (fun _=>Kx _)
theorem on44:Opn Tryz.prog 44 cC tz rk :=
 (Opn.struct Tryz.underlying44 Ty.c44 (OpnF.cons rfl 1 Ty.c3 on3 (OpnF.cons rfl 1 Ty.c3 on3 OpnF.nil))).map (fun p=>(⟨p.1,p.2.1⟩:Happening)) (fun p=>rfl) (fun p h=>⟨h.1,h.2.1⟩) (fun p=>by simp only [rk,mI,mB];omega)
theorem on26:Opn Tryz.prog 26 (fun l=>[.sl (l.map cC)]) (gL tz) (mL rk) :=
 (Opn.slice (size:=1) Tryz.underlying26 Ty.c44 on44).map id (fun _=>rfl) (fun a h=>h) (fun _=>Kx _)
end
def zz (n:Int):Nat:=if 0<=n then (2*n).toNat else (-2*n - 1).toNat
theorem zz_lt {n:Int} (h:gI n):zz n<18446744073709551616:=by unfold gI at h;unfold zz;split<;>omega
theorem Jb {a b:Int} (h:zz a=zz b):a=b:=by unfold zz at h;split at h<;>split at h<;>omega
def vb:Nat->Nat->List UInt8
 | 0,u=>[UInt8.ofNat u]
 | f+1,u=>if u<128 then [UInt8.ofNat u] else UInt8.ofNat (u % 128+128)::vb f (u / 128)
def num (n:Int):List UInt8:=vb 9 (zz n)
theorem A4:∀ (f u:Nat),(vb f u).length<=f+1/\1<=(vb f u).length
 | 0,u=>by simp [vb]
 | f+1,u=>by unfold vb;have:=A4 f (u / 128);split<;>simp<;>omega
theorem dY (n:Int):(num n).length<=10/\1<=(num n).length:=A4 9 _
theorem pG {a b:Nat} (ha:a<256) (hb:b<256) (h:UInt8.ofNat a=UInt8.ofNat b):a=b:=by have:=congrArg UInt8.toNat h;simpa [LM ha,LM hb] using this
theorem vb_pf:∀ (f u v:Nat) (r s:List UInt8),u<128 ^ (f+1)->v<128 ^ (f+1)->vb f u++r=vb f v++s->u=v/\r=s
 | 0,u,v,r,s,hu,hv,h=>by
  simp only [vb,Mg,K9,LW] at h;exact ⟨pG (by omega) (by omega) h.1,h.2⟩
 | f+1,u,v,r,s,hu,hv,h=>by
  unfold vb at h;have hq:∀ x,x<128 ^ (f+1+1)->x / 128<128 ^ (f+1):=fun x hx=>by rw [MF] at hx;exact LS (by rw [LG];exact hx)
  split at h<;>split at h<;>simp only [Mg,K9,LW] at h
  ·exact ⟨pG (by omega) (by omega) h.1,h.2⟩
  ·have:=pG (by omega) (by omega) h.1;omega
  ·have:=pG (by omega) (by omega) h.1;omega
  ·have h1:=pG (by omega) (by omega) h.1;obtain ⟨h2,h3⟩:=vb_pf f _ _ _ _ (hq u hu) (hq v hv) h.2;exact ⟨by omega,h3⟩
def PF {α:Type} (ok:α->Prop) (e:α->List UInt8):Prop:=∀ x y r s,ok x->ok y->e x++r=e y++s->x=y/\r=s
theorem gB:PF gI num:=fun x y r s hx hy h=>by obtain ⟨h1,h2⟩:=vb_pf 9 _ _ _ _ (Lv (zz_lt hx) (by decide)) (Lv (zz_lt hy) (by decide)) h;exact ⟨Jb h1,h2⟩
theorem zL {α:Type} {ok:α->Prop} {e:α->List UInt8} (h:PF ok e):∀ (l m:List α) (r s:List UInt8),l.length=m.length->(∀ a,a∈l->ok a)->(∀ a,a∈m->ok a)->l.flatMap e++r=m.flatMap e++s->l=m/\r=s
 | [],[],r,s,_,_,_,h1=>⟨rfl,by simpa using h1⟩
 | [],_::_,r,s,hl,_,_,_=>by simp at hl
 | _::_,[],r,s,hl,_,_,_=>by simp at hl
 | a::l,b::m,r,s,hl,ha,hb,h1=>by simp only [Ls,KM] at h1;obtain ⟨rfl,h2⟩:=h _ _ _ _ (ha a (.head _)) (hb b (.head _)) h1;obtain ⟨rfl,h3⟩:=zL h l m r s (by simpa using hl) (fun x hx=>ha x (.tail _ hx)) (fun x hx=>hb x (.tail _ hx)) h2;exact ⟨rfl,h3⟩
def lst {α:Type} (e:α->List UInt8) (l:List α):List UInt8:=num (l.length:Int)++l.flatMap e
theorem lD {α:Type} {ok:α->Prop} {e:α->List UInt8} (h:PF ok e):PF (fun l:List α=>l.length<=1099511627776/\∀ a,a∈l->ok a) (lst e):=fun x y r s hx hy h1=>by unfold lst at h1;simp only [KM] at h1;obtain ⟨h2,h3⟩:=gB _ _ _ _ (by have:=hx.1;unfold gI;omega) (by have:=hy.1;unfold gI;omega) h1;exact zL h x y r s (by omega) hx.2 hy.2 h3
def bv (x:Item):List UInt8:=num x.Key++(num x.Val++num x.Dep)
def fg (x:Keyed):List UInt8:=num x.Key++num x.N
def cX (x:Memory):List UInt8:=num x.Sum++(num x.Dep++lst fg x.Keys)
def cg (x:Choice):List UInt8:=num x.Node++num x.Lane
def aZ (x:State):List UInt8:=lst num x.At++(lst (lst bv) x.Rings++(lst cX x.Memory++(lst cg x.Choices++lst bv x.Out)))
theorem Aq:PF dc bv:=fun x y r s hx hy h=>by simp only [bv,KM] at h;obtain ⟨h1,h⟩:=gB _ _ _ _ hx.1 hy.1 h;obtain ⟨h2,h⟩:=gB _ _ _ _ hx.2.1 hy.2.1 h;obtain ⟨h3,h⟩:=gB _ _ _ _ hx.2.2 hy.2.2 h;cases x;cases y;simp_all
theorem Gf:PF j5 fg:=fun x y r s hx hy h=>by simp only [fg,KM] at h;obtain ⟨h1,h⟩:=gB _ _ _ _ hx.1 hy.1 h;obtain ⟨h2,h⟩:=gB _ _ _ _ hx.2 hy.2 h;cases x;cases y;simp_all
theorem Fi:PF jV cg:=fun x y r s hx hy h=>by simp only [cg,KM] at h;obtain ⟨h1,h⟩:=gB _ _ _ _ hx.1 hy.1 h;obtain ⟨h2,h⟩:=gB _ _ _ _ hx.2 hy.2 h;cases x;cases y;simp_all
abbrev short {α:Type} (ok:α->Prop) (l:List α):Prop:=l.length<=1099511627776/\∀ a,a∈l->ok a
def sMem (x:Memory):Prop:=gI x.Sum/\gI x.Dep/\short j5 x.Keys
def hM (x:State):Prop:=short gI x.At/\short (short dc) x.Rings/\short sMem x.Memory/\short jV x.Choices/\short dc x.Out
theorem IS:PF sMem cX:=fun x y r s hx hy h=>by simp only [cX,KM] at h;obtain ⟨h1,h⟩:=gB _ _ _ _ hx.1 hy.1 h;obtain ⟨h2,h⟩:=gB _ _ _ _ hx.2.1 hy.2.1 h;obtain ⟨h3,h⟩:=lD Gf _ _ _ _ hx.2.2 hy.2.2 h;cases x;cases y;simp_all
theorem G0:PF hM aZ:=fun x y r s hx hy h=>by simp only [aZ,KM] at h;obtain ⟨h1,h⟩:=lD gB _ _ _ _ hx.1 hy.1 h;obtain ⟨h2,h⟩:=lD (lD Aq) _ _ _ _ hx.2.1 hy.2.1 h;obtain ⟨h3,h⟩:=lD IS _ _ _ _ hx.2.2.1 hy.2.2.1 h;obtain ⟨h4,h⟩:=lD Fi _ _ _ _ hx.2.2.2.1 hy.2.2.2.1 h;obtain ⟨h5,h⟩:=lD Aq _ _ _ _ hx.2.2.2.2 hy.2.2.2.2 h;cases x;cases y;simp_all
theorem D6 {x y:State} (hx:hM x) (hy:hM y):aZ x=aZ y ↔ x=y :=
 ⟨fun h=>(G0 x y [] [] hx hy (by rw [h])).1,fun h=>by rw [h]⟩
end Go.Proofs.YtnlmagdmmjkklaaGreat
